/- Walk of the law that what was fixed stays. -/
import Derived.Test.YtpoejheienohjaaGreatDoorLawS
namespace Go.Proofs.YtpoejheienohjaaGreatDoor
open Go.RowKit
set_option linter.unusedVariables false
set_option linter.unusedSimpArgs false

/-- Two prices of the law's own, at the top of the memory that came in. -/
structure Two (w W : World) (a0 : ByteArray) (a1 : Int) (a2 a3 b0 : ByteArray) (b1 : Int) (b2 b3 : ByteArray) : Prop where
  hb : Below w.heap.size w W
  bf : Blk W w.heap.size 26 #[.string a0, .int .i64 a1, .string a2, .string a3]
  bg : Blk W (w.heap.size + 1) 26 #[.string b0, .int .i64 b1, .string b2, .string b3]
theorem Two.below {w W W' : World} {a0 a2 a3 b0 b2 b3 : ByteArray} {a1 b1 : Int} (h : Two w W a0 a1 a2 a3 b0 b1 b2 b3) (k : Below W.heap.size W W') : Two w W' a0 a1 a2 a3 b0 b1 b2 b3 := ⟨b_then h.hb k, h.bf.below k, h.bg.below k⟩
theorem Two.alloc {w W : World} {a0 a2 a3 b0 b2 b3 : ByteArray} {a1 b1 : Int} (h : Two w W a0 a1 a2 a3 b0 b1 b2 b3) (o : Obj) : Two w (W.alloc o) a0 a1 a2 a3 b0 b1 b2 b3 := h.below (b_alloc (Below.refl _ _) o)
theorem rd_two (w : World) (a0 a2 a3 b0 b2 b3 : ByteArray) (a1 b1 : Int) : Rd Fx.cs 4 (w.alloc (.cells #[.string a0, .int .i64 a1, .string a2, .string a3, .string b0, .int .i64 b1, .string b2, .string b3] 26)) (some ⟨w.heap.size, 0, none⟩) 2 [⟨a0, a1, ⟨a2, a3⟩⟩, ⟨b0, b1, ⟨b2, b3⟩⟩] :=
  ⟨rfl, by omega, fun _ => ⟨_, rfl, by simp, fun j x hj i u hu => by
    have hi : i < 4 := (List.getElem?_eq_some_iff.1 hu).1
    rw [add_lit4]
    refine (Blk.cell (Blk.new w _ _) _).trans ?_
    match j, hj with
    | 0, hj =>
      obtain rfl : (⟨a0, a1, ⟨a2, a3⟩⟩ : Fx) = x := by simpa using hj
      match i, hi, hu with
      | 0, _, hu => exact hu
      | 1, _, hu => exact hu
      | 2, _, hu => exact hu
      | 3, _, hu => exact hu
    | 1, hj =>
      obtain rfl : (⟨b0, b1, ⟨b2, b3⟩⟩ : Fx) = x := by simpa using hj
      match i, hi, hu with
      | 0, _, hu => exact hu
      | 1, _, hu => exact hu
      | 2, _, hu => exact hu
      | 3, _, hu => exact hu
    | j + 2, hj => simp at hj⟩⟩
/-- A region that leaves a block of its own. -/
def GotE (A : Nat → Act) (t : TypeId) (cs : Array Value) (w : World) : Exit → Act → World → Prop
  | .normal, a', W' => ∃ g, a' = A g ∧ Blk W' g t cs ∧ Below w.heap.size w W'
  | _, _, _ => False
theorem wp_got {P : Program} {c : Code} {Q : Exit → Act → World → Prop} {a : Act} {w : World} {A : Nat → Act} {t : TypeId} {cs : Array Value} (h : c.wp P (GotE A t cs w) a w)
    (hq : ∀ g W', Blk W' g t cs → Below w.heap.size w W' → Q .normal (A g) W') : c.wp P Q a w :=
  wp_mono h fun e a' W' => match e with
    | .normal => fun h => by obtain ⟨g, rfl, h1, h2⟩ := h; exact hq g W' h1 h2
    | .ret => False.elim
    | .exit _ => False.elim
    | .goto _ => False.elim
    | .panic _ => False.elim
    | .outgrown => False.elim
set_option maxRecDepth 100000 in
set_option maxHeartbeats 8000000 in
theorem l_stays (HF : FixedOk) {A : Option Addr} {n c : Nat} {xs : List Fx} (a0 a2 a3 b0 b2 b3 : ByteArray) (a1 b1 : Int) (w : World) (hg : Glob w) (hx : Rd Fx.cs 4 w A n xs) (hz : ∀ f ∈ xs, fxok f) (hf : fxok ⟨a0, a1, ⟨a2, a3⟩⟩) (hh : fxok ⟨b0, b1, ⟨b2, b3⟩⟩) :
    Calls Tryz.prog 4 #[.slice A n c, .agg #[.string a0, .int .i64 a1, .string a2, .string a3], .agg #[.string b0, .int .i64 b1, .string b2, .string b3]] w fun e w' => e = .returned (.bool true) ∧ Below w.heap.size w w' := by
  have hxl := hx.len
  have HFX := Lib.hid HF
  clear HF
  have heq := eqRat
  have T0 : Two w ((w.alloc (.cells #[.string a0, .int .i64 a1, .string a2, .string a3] 26)).alloc (.cells #[.string b0, .int .i64 b1, .string b2, .string b3] 26)) a0 a1 a2 a3 b0 b1 b2 b3 := ⟨b_alloc (b_alloc (Below.refl _ _) _) _, (Blk.new _ _ _).alloc _, Blk.new2 _ _ _ _⟩
  have hS := fun W (h : Below w.heap.size w W) => r12_small (c := c) W (hx.below h) hz
  cases c1 : fsmall xs with
  | false =>
    rw [c1] at hS
    have KS := Lib.hid hS
    clear hS hz
    go_enter Tryz.func4, Tryz.ntmps4
    go_wp2_with (first
      | (go_at_call 15; (with_reducible refine (KS.out w1 T1.hb).mono ?_); rintro e w' ⟨rfl, rfl⟩)
      | (go_at_call 16; (with_reducible refine (HFX.out _ (hg.below T1.hb)).mono ?_); rintro e w9 ⟨rfl, hb9⟩; have T9 := T1.below hb9)
      | (go_at_call 16; (with_reducible refine (HFX.out _ (hg.below T0.hb)).mono ?_); rintro e w1 ⟨rfl, hb1⟩; have T1 := T0.below hb1; have HR1 := hx.below T1.hb; obtain ⟨f10, f11, f12, f13⟩ := T1.bf.four; obtain ⟨g10, g11, g12, g13⟩ := T1.bg.four))
    go_ret
    exact ⟨rfl, T9.hb⟩
  | true =>
    obtain ⟨hzq, hn60⟩ := small_q c1
    have hzr : ∀ f ∈ xs, fxsz f := fun f h => fxq_sz (hzq f h)
    rw [c1] at hS
    have KS := Lib.hid hS
    have hS2 := fun W => r12_small (c := 2) _ (rd_two W a0 a2 a3 b0 b2 b3 a1 b1) (fun f h => by
      rcases List.mem_cons.1 h with rfl | h
      · exact hf
      · rw [List.mem_singleton.1 h]; exact hh)
    clear hS
    cases c2 : fsmall [⟨a0, a1, ⟨a2, a3⟩⟩, ⟨b0, b1, ⟨b2, b3⟩⟩] with
    | false =>
      rw [c2] at hS2
      have KS2 := Lib.hid hS2
      clear hS2 hz hzq hzr
      go_enter Tryz.func4, Tryz.ntmps4
      go_wp2_with (first
        | (go_at_call 15; (with_reducible refine (KS.out w1 T1.hb).mono ?_); rintro e w' ⟨rfl, rfl⟩)
        | (go_at_call 15; (with_reducible refine (KS2.out w1).mono ?_); rintro e w' ⟨rfl, rfl⟩; have T1a := T1.alloc (.cells #[.string a0, .int .i64 a1, .string a2, .string a3, .string b0, .int .i64 b1, .string b2, .string b3] 26))
        | (go_at_call 16; (with_reducible refine (HFX.out _ (hg.below T1a.hb)).mono ?_); rintro e w9 ⟨rfl, hb9⟩; have T9 := T1a.below hb9)
        | (go_at_call 16; (with_reducible refine (HFX.out _ (hg.below T0.hb)).mono ?_); rintro e w1 ⟨rfl, hb1⟩; have T1 := T0.below hb1; have HR1 := hx.below T1.hb; obtain ⟨f10, f11, f12, f13⟩ := T1.bf.four; obtain ⟨g10, g11, g12, g13⟩ := T1.bg.four))
      go_ret
      exact ⟨rfl, T9.hb⟩
    | true =>
      rw [c2] at hS2
      have KS2 := Lib.hid hS2
      have hfq : fxq ⟨a0, a1, ⟨a2, a3⟩⟩ := (small_q c2).1 _ (by simp)
      have hhq : fxq ⟨b0, b1, ⟨b2, b3⟩⟩ := (small_q c2).1 _ (by simp)
      have hfr := fxq_sz hfq
      have hhr := fxq_sz hhq
      have hM : ∀ W, Below w.heap.size w W → Calls Tryz.prog 25 #[.slice A n c] W fun e w' => e = .returned (.bool (fmay xs)) ∧ Below W.heap.size W w' := fun W hW => r12_may (c := c) W (hx.below hW) hzr
      have hF := fun W => r12_one a0 a2 a3 a1 W (by have := hf.1; exact this) (by have := hfr.2.1; exact this) (by have := hfr.2.2; exact this)
      have hH := fun W => r12_one b0 b2 b3 b1 W (by have := hh.1; exact this) (by have := hhr.2.1; exact this) (by have := hhr.2.2; exact this)
      clear hS2
      cases c3 : fmay xs with
      | false =>
        rw [c3] at hM
        have KM := Lib.hid hM
        clear hM hF hH hz hzq hzr hfq hhq hfr hhr
        go_enter Tryz.func4, Tryz.ntmps4
        go_wp2_with (first
          | (go_at_call 15; (with_reducible refine (KS.out w1 T1.hb).mono ?_); rintro e w' ⟨rfl, rfl⟩)
          | (go_at_call 15; (with_reducible refine (KS2.out w1).mono ?_); rintro e w' ⟨rfl, rfl⟩; have T1a := T1.alloc (.cells #[.string a0, .int .i64 a1, .string a2, .string a3, .string b0, .int .i64 b1, .string b2, .string b3] 26))
          | (go_at_call 25; (with_reducible refine (KM.out _ T1a.hb).mono ?_); rintro e w2 ⟨rfl, hb2⟩; have T2 := T1a.below hb2; obtain ⟨f20, f21, f22, f23⟩ := T2.bf.four; obtain ⟨g20, g21, g22, g23⟩ := T2.bg.four)
          | (go_at_call 16; (with_reducible refine (HFX.out _ (hg.below T2.hb)).mono ?_); rintro e w9 ⟨rfl, hb9⟩; have T9 := T2.below hb9)
          | (go_at_call 16; (with_reducible refine (HFX.out _ (hg.below T0.hb)).mono ?_); rintro e w1 ⟨rfl, hb1⟩; have T1 := T0.below hb1; have HR1 := hx.below T1.hb; obtain ⟨f10, f11, f12, f13⟩ := T1.bf.four; obtain ⟨g10, g11, g12, g13⟩ := T1.bg.four))
        go_ret
        exact ⟨rfl, T9.hb⟩
      | true =>
        rw [c3] at hM
        have KM := Lib.hid hM
        cases c4 : fone ⟨a0, a1, ⟨a2, a3⟩⟩ with
        | false =>
          rw [c4] at hF
          have KF := Lib.hid hF
          clear hM hF hH hz hzq hzr hfq hhq hfr hhr
          go_enter Tryz.func4, Tryz.ntmps4
          go_wp2_with (first
            | (go_at_call 15; (with_reducible refine (KS.out w1 T1.hb).mono ?_); rintro e w' ⟨rfl, rfl⟩)
            | (go_at_call 15; (with_reducible refine (KS2.out w1).mono ?_); rintro e w' ⟨rfl, rfl⟩; have T1a := T1.alloc (.cells #[.string a0, .int .i64 a1, .string a2, .string a3, .string b0, .int .i64 b1, .string b2, .string b3] 26))
            | (go_at_call 25; (with_reducible refine (KM.out _ T1a.hb).mono ?_); rintro e w2 ⟨rfl, hb2⟩; have T2 := T1a.below hb2; obtain ⟨f20, f21, f22, f23⟩ := T2.bf.four; obtain ⟨g20, g21, g22, g23⟩ := T2.bg.four)
            | (go_at_call 26; (with_reducible refine (KF.out w2).mono ?_); rintro e w3 ⟨rfl, hb3⟩; have T3 := T2.below hb3; obtain ⟨f30, f31, f32, f33⟩ := T3.bf.four; obtain ⟨g30, g31, g32, g33⟩ := T3.bg.four)
            | (go_at_call 16; (with_reducible refine (HFX.out _ (hg.below T3.hb)).mono ?_); rintro e w9 ⟨rfl, hb9⟩; have T9 := T3.below hb9)
            | (go_at_call 16; (with_reducible refine (HFX.out _ (hg.below T0.hb)).mono ?_); rintro e w1 ⟨rfl, hb1⟩; have T1 := T0.below hb1; have HR1 := hx.below T1.hb; obtain ⟨f10, f11, f12, f13⟩ := T1.bf.four; obtain ⟨g10, g11, g12, g13⟩ := T1.bg.four))
          go_ret
          exact ⟨rfl, T9.hb⟩
        | true =>
          rw [c4] at hF
          have KF := Lib.hid hF
          cases c5 : fone ⟨b0, b1, ⟨b2, b3⟩⟩ with
          | false =>
            rw [c5] at hH
            have KH := Lib.hid hH
            clear hM hF hH hz hzq hzr hfq hhq hfr hhr
            go_enter Tryz.func4, Tryz.ntmps4
            go_wp2_with (first
              | (go_at_call 15; (with_reducible refine (KS.out w1 T1.hb).mono ?_); rintro e w' ⟨rfl, rfl⟩)
              | (go_at_call 15; (with_reducible refine (KS2.out w1).mono ?_); rintro e w' ⟨rfl, rfl⟩; have T1a := T1.alloc (.cells #[.string a0, .int .i64 a1, .string a2, .string a3, .string b0, .int .i64 b1, .string b2, .string b3] 26))
              | (go_at_call 25; (with_reducible refine (KM.out _ T1a.hb).mono ?_); rintro e w2 ⟨rfl, hb2⟩; have T2 := T1a.below hb2; obtain ⟨f20, f21, f22, f23⟩ := T2.bf.four; obtain ⟨g20, g21, g22, g23⟩ := T2.bg.four)
              | (go_at_call 26; (with_reducible refine (KF.out w2).mono ?_); rintro e w3 ⟨rfl, hb3⟩; have T3 := T2.below hb3; obtain ⟨f30, f31, f32, f33⟩ := T3.bf.four; obtain ⟨g30, g31, g32, g33⟩ := T3.bg.four)
              | (go_at_call 26; (with_reducible refine (KH.out w3).mono ?_); rintro e w4 ⟨rfl, hb4⟩; have T4 := T3.below hb4; obtain ⟨f40, f41, f42, f43⟩ := T4.bf.four; obtain ⟨g40, g41, g42, g43⟩ := T4.bg.four)
              | (go_at_call 16; (with_reducible refine (HFX.out _ (hg.below T4.hb)).mono ?_); rintro e w9 ⟨rfl, hb9⟩; have T9 := T4.below hb9)
              | (go_at_call 16; (with_reducible refine (HFX.out _ (hg.below T0.hb)).mono ?_); rintro e w1 ⟨rfl, hb1⟩; have T1 := T0.below hb1; have HR1 := hx.below T1.hb; obtain ⟨f10, f11, f12, f13⟩ := T1.bf.four; obtain ⟨g10, g11, g12, g13⟩ := T1.bg.four))
            go_ret
            exact ⟨rfl, T9.hb⟩
          | true =>
            rw [c5] at hH
            have KH := Lib.hid hH
            clear hM hF hH
            have cGet : ∀ W, Below w.heap.size w W → Calls Tryz.prog 19 #[.slice A n c, .string a0, .int .i64 a1] W fun e w' => e = .returned (optR (fget xs a0 a1)) ∧ Below W.heap.size W w' := fun W hW => p_get (c := c) a0 a1 W (hg.below hW) (hx.below hW) (by omega) hzq
            cases hgt : fget xs a0 a1 with
            | some p =>
              obtain ⟨p0, p1⟩ := p
              have hno : fset xs ⟨a0, a1, ⟨a2, a3⟩⟩ = none := fset_had c3 c4 hgt
              have k1 : ∀ W, Below w.heap.size w W → Calls Tryz.prog 19 #[.slice A n c, .string a0, .int .i64 a1] W fun e w' => e = .returned (.tuple #[.agg #[.string p0, .string p1], .bool true]) ∧ Below W.heap.size W w' := fun W hW => by have := cGet W hW; rw [hgt] at this; exact this
              have k2 : ∀ W, Below w.heap.size w W → Calls Tryz.prog 17 #[.slice A n c, .agg #[.string a0, .int .i64 a1, .string a2, .string a3]] W fun e w' => ∃ B k, e = .returned (.tuple #[.slice B 0 k, .bool false]) ∧ Below W.heap.size W w' := fun W hW => p_set_none a0 a2 a3 a1 W (hg.below hW) (hx.below hW) (by omega) hzq hfq hno
              have K1 := Lib.hid k1
              have K2 := Lib.hid k2
              clear k1 k2 cGet hno hgt c1 c2 c3 c4 c5 hz hzq hzr hfq hhq hfr hhr
              go_enter Tryz.func4, Tryz.ntmps4
              go_wp2_with (first
                | (go_at_call 15; (with_reducible refine (KS.out w1 T1.hb).mono ?_); rintro e w' ⟨rfl, rfl⟩)
                | (go_at_call 15; (with_reducible refine (KS2.out w1).mono ?_); rintro e w' ⟨rfl, rfl⟩; have T1a := T1.alloc (.cells #[.string a0, .int .i64 a1, .string a2, .string a3, .string b0, .int .i64 b1, .string b2, .string b3] 26))
                | (go_at_call 25; (with_reducible refine (KM.out _ T1a.hb).mono ?_); rintro e w2 ⟨rfl, hb2⟩; have T2 := T1a.below hb2; obtain ⟨f20, f21, f22, f23⟩ := T2.bf.four; obtain ⟨g20, g21, g22, g23⟩ := T2.bg.four)
                | (go_at_call 26; (with_reducible refine (KF.out w2).mono ?_); rintro e w3 ⟨rfl, hb3⟩; have T3 := T2.below hb3; obtain ⟨f30, f31, f32, f33⟩ := T3.bf.four; obtain ⟨g30, g31, g32, g33⟩ := T3.bg.four)
                | (go_at_call 26; (with_reducible refine (KH.out w3).mono ?_); rintro e w4 ⟨rfl, hb4⟩; have T4 := T3.below hb4; obtain ⟨f40, f41, f42, f43⟩ := T4.bf.four; obtain ⟨g40, g41, g42, g43⟩ := T4.bg.four)
                | (go_at_call 16; (with_reducible refine (HFX.out _ (hg.below T0.hb)).mono ?_); rintro e w1 ⟨rfl, hb1⟩; have T1 := T0.below hb1; have HR1 := hx.below T1.hb; obtain ⟨f10, f11, f12, f13⟩ := T1.bf.four; obtain ⟨g10, g11, g12, g13⟩ := T1.bg.four)
                | (go_at_call 19; (with_reducible refine (K1.out w4 T4.hb).mono ?_); rintro e w5 ⟨rfl, hb5⟩; have T5 := (T4.below hb5).alloc (.cells #[.string p0, .string p1] 24); obtain ⟨f50, f51, f52, f53⟩ := T5.bf.four; obtain ⟨g50, g51, g52, g53⟩ := T5.bg.four)
                | (go_at_call 17; (with_reducible refine (K2.out _ T5.hb).mono ?_); rintro e w9 ⟨B6, k6, rfl, hb9⟩; have T9 := T5.below hb9))
              go_ret
              exact ⟨rfl, T9.hb⟩
            | none =>
              obtain ⟨hset, hma, hga, hgx, hno⟩ := stays (g := ⟨b0, b1, ⟨b2, b3⟩⟩) c3 c4 c5 hgt
              have htwo := fun b => stays_two (b := b) c3 c4 c5 (g := ⟨b0, b1, ⟨b2, b3⟩⟩) hgt
              obtain ⟨ys, hys⟩ : ∃ ys, fins xs ⟨a0, a1, ⟨a2, a3⟩⟩ = ys := ⟨_, rfl⟩
              have hyl : ys.length = n + 1 := by rw [← hys, fins_len, hxl]
              have hyq : ∀ f ∈ ys, fxq f := fun f h => by
                rw [← hys] at h
                rcases fins_mem h with rfl | h
                · exact hfq
                · exact hzq f h
              have hcq : ∀ {l : List Fx}, (∀ f ∈ l, fxq f) → ∀ t, fxq t → ∀ f ∈ (fset l t).getD [], fxq f := fun {l} hl t ht f h => by
                cases hs : fset l t with
                | none => rw [hs] at h; cases h
                | some b =>
                  rw [hs] at h
                  obtain ⟨rfl, _⟩ := fset_got hs
                  rcases fins_mem h with rfl | h
                  · exact ht
                  · exact hl f h
              rw [hys] at hset hma hga hgx hno htwo
              obtain ⟨bs, hbs⟩ : ∃ bs, (fset ys ⟨b0, b1, ⟨b2, b3⟩⟩).getD [] = bs := ⟨_, rfl⟩
              obtain ⟨bx, hbx⟩ : ∃ bx, (fset ys ⟨b0, b1, ⟨b2, b3⟩⟩).isSome = bx := ⟨_, rfl⟩
              obtain ⟨cs, hcs⟩ : ∃ cs, (fset xs ⟨b0, b1, ⟨b2, b3⟩⟩).getD [] = cs := ⟨_, rfl⟩
              obtain ⟨cy, hcy⟩ : ∃ cy, (fset xs ⟨b0, b1, ⟨b2, b3⟩⟩).isSome = cy := ⟨_, rfl⟩
              obtain ⟨ds, hds⟩ : ∃ ds, (fset cs ⟨a0, a1, ⟨a2, a3⟩⟩).getD [] = ds := ⟨_, rfl⟩
              obtain ⟨dz, hdz⟩ : ∃ dz, (fset cs ⟨a0, a1, ⟨a2, a3⟩⟩).isSome = dz := ⟨_, rfl⟩
              have hall : bx = true → cy = true ∧ dz = true ∧ ds = bs := fun hb => by
                subst hb
                obtain ⟨b, hb⟩ := Option.isSome_iff_exists.1 hbx
                obtain ⟨h1, h2⟩ := htwo b hb
                rw [h1] at hcs hcy
                rw [← hcs, Option.getD_some, h2] at hds hdz
                rw [hb] at hbs
                exact ⟨hcy.symm, hdz.symm, hds.symm.trans hbs⟩
              have hcsq : ∀ f ∈ cs, fxq f := by rw [← hcs]; exact hcq hzq _ hhq
              have hcl : cs.length ≤ n + 1 := by
                rw [← hcs]
                cases hs : fset xs ⟨b0, b1, ⟨b2, b3⟩⟩ with
                | none => exact Nat.zero_le _
                | some b => obtain ⟨rfl, _⟩ := fset_got hs; rw [Option.getD_some, fins_len]; omega
              have k1 : ∀ W, Below w.heap.size w W → Calls Tryz.prog 19 #[.slice A n c, .string a0, .int .i64 a1] W fun e w' => e = .returned (.tuple #[.agg #[.string ⟨#[]⟩, .string ⟨#[]⟩], .bool false]) ∧ Below W.heap.size W w' := fun W hW => by have := cGet W hW; rw [opt_of hgt] at this; exact this
              have k2 : ∀ W, Below w.heap.size w W → Calls Tryz.prog 17 #[.slice A n c, .agg #[.string a0, .int .i64 a1, .string a2, .string a3]] W fun e w' => ∃ B k, e = .returned (.tuple #[.slice B (n + 1) k, .bool true]) ∧ Rd Fx.cs 4 w' B (n + 1) ys ∧ Below W.heap.size W w' := fun W hW => p_set_ok a0 a2 a3 a1 ys W (hg.below hW) (hx.below hW) (by omega) hzq hfq hset (n + 1) hyl
              have k3 : ∀ (B : Option Addr) (k : Nat) (W : World), Below w.heap.size w W → Rd Fx.cs 4 W B (n + 1) ys → Calls Tryz.prog 19 #[.slice B (n + 1) k, .string a0, .int .i64 a1] W fun e w' => e = .returned (.tuple #[.agg #[.string a2, .string a3], .bool true]) ∧ Below W.heap.size W w' := fun B k W hW hr => by have := p_get (c := k) a0 a1 W (hg.below hW) hr (by omega) hyq; rw [hga] at this; exact this
              have k4 : ∀ (B : Option Addr) (k : Nat) (e0 e2 e3 : ByteArray) (e1 : Int) (W : World), (⟨e0, e1, ⟨e2, e3⟩⟩ : Fx) ∈ xs → Below w.heap.size w W → Rd Fx.cs 4 W B (n + 1) ys → Calls Tryz.prog 19 #[.slice B (n + 1) k, .string e0, .int .i64 e1] W fun e w' => e = .returned (.tuple #[.agg #[.string e2, .string e3], .bool true]) ∧ Below W.heap.size W w' := fun B k e0 e2 e3 e1 W hm hW hr => by have := p_get (c := k) e0 e1 W (hg.below hW) hr (by omega) hyq; rw [hgx _ hm] at this; exact this
              have k5 : ∀ (B : Option Addr) (k : Nat) (W : World), Below w.heap.size w W → Rd Fx.cs 4 W B (n + 1) ys → Calls Tryz.prog 17 #[.slice B (n + 1) k, .agg #[.string a0, .int .i64 a1, .string a2, .string a3]] W fun e w' => ∃ B k, e = .returned (.tuple #[.slice B 0 k, .bool false]) ∧ Below W.heap.size W w' := fun B k W hW hr => p_set_none a0 a2 a3 a1 W (hg.below hW) hr (by omega) hyq hfq hno
              have k6 : ∀ (B : Option Addr) (k : Nat) (W : World), Below w.heap.size w W → Rd Fx.cs 4 W B (n + 1) ys → Calls Tryz.prog 17 #[.slice B (n + 1) k, .agg #[.string b0, .int .i64 b1, .string b2, .string b3]] W fun e w' => SetIs bs bs.length bx W e w' := fun B k W hW hr => (p_set b0 b2 b3 b1 W (hg.below hW) hr (by omega) hyq hhq).mono fun e w' h => h.is_ hbs rfl hbx
              have k7 : ∀ W, Below w.heap.size w W → Calls Tryz.prog 17 #[.slice A n c, .agg #[.string b0, .int .i64 b1, .string b2, .string b3]] W fun e w' => SetIs cs cs.length cy W e w' := fun W hW => (p_set b0 b2 b3 b1 W (hg.below hW) (hx.below hW) (by omega) hzq hhq).mono fun e w' h => h.is_ hcs rfl hcy
              have k8 : ∀ (B : Option Addr) (k : Nat) (W : World), Below w.heap.size w W → Rd Fx.cs 4 W B cs.length cs → Calls Tryz.prog 17 #[.slice B cs.length k, .agg #[.string a0, .int .i64 a1, .string a2, .string a3]] W fun e w' => SetIs ds ds.length dz W e w' := fun B k W hW hr => (p_set a0 a2 a3 a1 W (hg.below hW) hr (by omega) hcsq hfq).mono fun e w' h => h.is_ hds rfl hdz
              have k9 : ∀ (B : Option Addr) (k : Nat) (W : World), Below w.heap.size w W → Rd Fx.cs 4 W B (n + 1) ys → Calls Tryz.prog 24 #[.slice B (n + 1) k] W fun e w' => e = .returned (.bool true) ∧ Below W.heap.size W w' := fun B k W hW hr => by have := p_may (c := k) W (hg.below hW) hr hyq; rw [hma] at this; exact this
              obtain ⟨mb, hmb⟩ : ∃ m, bs.length = m := ⟨_, rfl⟩
              obtain ⟨mc, hmc⟩ : ∃ m, cs.length = m := ⟨_, rfl⟩
              obtain ⟨md, hmd⟩ : ∃ m, ds.length = m := ⟨_, rfl⟩
              rw [hmb] at k6
              rw [hmc] at k7 k8
              rw [hmd] at k8
              have K1 := Lib.hid k1
              have K2 := Lib.hid k2
              have K3 := Lib.hid k3
              have K4 := Lib.hid k4
              have K5 := Lib.hid k5
              have K6 := Lib.hid k6
              have K7 := Lib.hid k7
              have K8 := Lib.hid k8
              have K9 := Lib.hid k9
              have HALL := Lib.hid hall
              clear k1 k2 k3 k4 k5 k6 k7 k8 k9 hall cGet hset hma hga hgx hno htwo hys hyl hyq hcq hbs hbx hcs hcy hds hdz hcsq hcl hgt c1 c2 c3 c4 c5 hz hzq hzr hfq hhq hfr hhr hmb hmc hmd
              go_enter Tryz.func4, Tryz.ntmps4
              go_wp2_with (first
                | (go_at_call 15; (with_reducible refine (KS.out w1 T1.hb).mono ?_); rintro e w' ⟨rfl, rfl⟩)
                | (go_at_call 15; (with_reducible refine (KS2.out w1).mono ?_); rintro e w' ⟨rfl, rfl⟩; have T1a := T1.alloc (.cells #[.string a0, .int .i64 a1, .string a2, .string a3, .string b0, .int .i64 b1, .string b2, .string b3] 26))
                | (go_at_call 25; (with_reducible refine (KM.out _ T1a.hb).mono ?_); rintro e w2 ⟨rfl, hb2⟩; have T2 := T1a.below hb2; obtain ⟨f20, f21, f22, f23⟩ := T2.bf.four; obtain ⟨g20, g21, g22, g23⟩ := T2.bg.four)
                | (go_at_call 26; (with_reducible refine (KF.out w2).mono ?_); rintro e w3 ⟨rfl, hb3⟩; have T3 := T2.below hb3; obtain ⟨f30, f31, f32, f33⟩ := T3.bf.four; obtain ⟨g30, g31, g32, g33⟩ := T3.bg.four)
                | (go_at_call 26; (with_reducible refine (KH.out w3).mono ?_); rintro e w4 ⟨rfl, hb4⟩; have T4 := T3.below hb4; obtain ⟨f40, f41, f42, f43⟩ := T4.bf.four; obtain ⟨g40, g41, g42, g43⟩ := T4.bg.four)
                | (go_at_call 16; (with_reducible refine (HFX.out _ (hg.below T0.hb)).mono ?_); rintro e w1 ⟨rfl, hb1⟩; have T1 := T0.below hb1; have HR1 := hx.below T1.hb; obtain ⟨f10, f11, f12, f13⟩ := T1.bf.four; obtain ⟨g10, g11, g12, g13⟩ := T1.bg.four)
                | (go_at_call 19; (with_reducible refine (K1.out w4 T4.hb).mono ?_); rintro e w5 ⟨rfl, hb5⟩; have T5 := (T4.below hb5).alloc (.cells #[.string ⟨#[]⟩, .string ⟨#[]⟩] 24); obtain ⟨f50, f51, f52, f53⟩ := T5.bf.four; obtain ⟨g50, g51, g52, g53⟩ := T5.bg.four)
                | (go_at_call 17; (with_reducible refine (K2.out _ T5.hb).mono ?_); rintro e w6 ⟨B6, k6, rfl, R6, hb6⟩; have T6 := T5.below hb6; obtain ⟨f60, f61, f62, f63⟩ := T6.bf.four; obtain ⟨g60, g61, g62, g63⟩ := T6.bg.four)
                | (go_at_call 19; (with_reducible refine (K3.out B6 k6 w6 T6.hb R6).mono ?_); rintro e w7 ⟨rfl, hb7⟩; have T7 := (T6.below hb7).alloc (.cells #[.string a2, .string a3] 24); have R7 := R6.below (b_alloc hb7 (.cells #[.string a2, .string a3] 24)); have D7 := Blk.new w7 24 #[.string a2, .string a3]))
              obtain ⟨v7, hv7⟩ : ∃ v, w7.alloc (.cells #[.string a2, .string a3] 24) = v := ⟨_, rfl⟩
              obtain ⟨q7, hq7⟩ : ∃ q, w7.heap.size = q := ⟨_, rfl⟩
              rw [hv7] at T7 R7 D7 ⊢
              rw [hq7] at D7 ⊢
              clear hh hf HFX K3 K2 K1 KH KF KM KS2 KS T0 hq7 hv7 R6 HR1 hb7 hb6 hb5 hb4 hb3 hb2 hb1 g63 g62 g61 g60 f63 f62 f61 f60 g53 g52 g51 g50 f53 f52 f51 f50 g43 g42 g41 g40 f43 f42 f41 f40 g33 g32 g31 g30 f33 f32 f31 f30 g23 g22 g21 g20 f23 f22 f21 f20 g13 g12 g11 g10 f13 f12 f11 f10 T6 T5 T4 T3 T2 T1a T1
              go_loopw [13] (fun i wr => ∃ k : Nat, k ≤ n ∧ i = .int .i64 (k : Nat) ∧ Below v7.heap.size v7 wr) (fun i _ => n - (intOf i).toNat)
              case atStart => exact ⟨0, Nat.zero_le _, rfl, Below.refl _ _⟩
              case round =>
                obtain ⟨k, hk, rfl, hB⟩ := hrel
                have T8 := T7.below hB
                have R8 := R7.below hB
                have D8 := D7.below hB
                by_cases hkn : k < n
                · obtain ⟨ad, e0, e1, e2, e3, rfl, hxk, hc'⟩ := fx_at hx T8.hb hkn
                  have hmem := List.mem_of_getElem? hxk
                  have y0 := (hc' ⟨wr, Below.refl _ _⟩).1
                  have y1 := (hc' ⟨wr, Below.refl _ _⟩).2.1
                  have hlt : (ad.add (k * 4)).block < wr.heap.size := by
                    obtain ⟨ad', x', hA', hl, _⟩ := (hx.below T8.hb).at_ hkn
                    cases hA'
                    rw [add_block]; exact hl
                  go_wp2
                  apply wp_got
                  case h =>
                    go_region_with (first
                      | (go_at_call 19; (with_reducible refine (K4.out B6 k6 e0 e2 e3 e1 wr.drew hmem (T8.hb.drew) (R8.below (Below.refl _ _).drew)).mono ?_); rintro e w8 ⟨rfl, hb8⟩)
                      | (go_at_call 19; (with_reducible refine (K4.out B6 k6 e0 e2 e3 e1 (wr.alloc (.cells #[.string ⟨#[]⟩, .string ⟨#[]⟩] 24)).drew hmem ((b_alloc T8.hb _).drew) (R8.below (b_alloc (Below.refl _ _) _).drew)).mono ?_); rintro e w8 ⟨rfl, hb8⟩; obtain ⟨z0, z1, z2, z3⟩ := (((Blk.new wr 24 #[.string ⟨#[]⟩, .string ⟨#[]⟩]).drewN 1).below hb8).two))
                    all_goals first
                      | (generalize hg9 : w8.heap.size = g9; exact ⟨g9, rfl, by rw [← hg9]; exact Blk.new _ _ _, b_alloc (b_then (Below.refl _ _).drew hb8) _⟩)
                      | (generalize hg9 : wr.heap.size = g9; exact ⟨g9, rfl, by rw [← hg9]; exact (((Blk.new wr 24 #[.string ⟨#[]⟩, .string ⟨#[]⟩]).drewN 1).below hb8).put2 _ _, by rw [← hg9]; exact b_set (b_set (b_then (b_alloc (Below.refl _ _) _).drew hb8) (Nat.le_refl _) _) (Nat.le_refl _) _⟩)
                  intro g9 W9 D9 hB9
                  have hz := fun y : After W9 => hc' ⟨y.W, b_then hB9 y.h⟩
                  have x2 := fun y => (hz y).2.2.1
                  have x3 : ∀ y : After W9, y.W.cell? ⟨(ad.add (k * 4)).block, (ad.add (k * 4)).off + 2 + 1, none⟩ = some (.string e3) := fun y => (hz y).2.2.2
                  have d0 := fun y : After W9 => (D9.below y.h).two.1
                  have d1 := fun y : After W9 => (D9.below y.h).two.2.1
                  have HC := Lib.hid hc'
                  clear hz hc'
                  go_simp
                  go_wp2
                  (refine wp_region_after (by kernel_rfl) (by kernel_rfl) ?_; (repeat (first | go_big_quiet_skip | (go_big_quiet_want; go_big_quiet_op; first | go_big_quiet_on | (apply Exists.intro; refine ⟨fun _ => ?_, ?_⟩; (focus (fail)); go_big_quiet_on)))); refine wpQuiet_nil ?_; rintro w10 ⟨⟨_, hb10⟩, rfl⟩; (try dsimp only); obtain ⟨hc10, hf10⟩ := bcell hb10; have hs10 := hb10.size; (try simp at hs10))
                  go_wp2
                  go_roundw
                  case rel => exact ⟨k + 1, by omega, by go_num, b_then (b_then hB hB9) hb10⟩
                  case measure => (simp [intOf]; try omega)
                · obtain rfl : k = n := by omega
                  obtain ⟨f80, f81, f82, f83⟩ := T8.bf.four
                  obtain ⟨g80, g81, g82, g83⟩ := T8.bg.four
                  cases bx with
                  | false =>
                    go_wp2_with (first
                      | (go_at_call 17; (with_reducible refine (K5.out B6 k6 wr T8.hb R8).mono ?_); rintro e w10 ⟨B10, k10, rfl, hb10⟩; have T10 := T8.below hb10; obtain ⟨g100, g101, g102, g103⟩ := T10.bg.four)
                      | (go_at_call 17; (with_reducible refine (K6.out B6 k6 w10 T10.hb (R8.below hb10)).mono ?_); rintro e w11 ⟨B11, k11, rfl, R11, hb11⟩; have T11 := T10.below hb11; obtain ⟨g110, g111, g112, g113⟩ := T11.bg.four)
                      | (go_at_call 17; (with_reducible refine (K7.out w11 T11.hb).mono ?_); rintro e w12 ⟨B12, k12, rfl, R12, hb12⟩; have T12 := T11.below hb12; obtain ⟨f120, f121, f122, f123⟩ := T12.bf.four)
                      | (go_at_call 17; (with_reducible refine (K8.out B12 k12 w12 T12.hb R12).mono ?_); rintro e w13 ⟨B13, k13, rfl, R13, hb13⟩; have T13 := T12.below hb13; obtain ⟨f130, f131, f132, f133⟩ := T13.bf.four; obtain ⟨d130, d131, _, _⟩ := ((((D8.below hb10).below hb11).below hb12).below hb13).two)
                      | (go_at_call 24; (with_reducible refine (K9.out B6 k6 w13 T13.hb (R8.below (b_then (b_then (b_then hb10 hb11) hb12) hb13))).mono ?_); rintro e w14 ⟨rfl, hb14⟩; have T14 := T13.below hb14))
                    go_ret
                    exact ⟨rfl, T14.hb⟩
                  | true =>
                    obtain ⟨rfl, rfl, rfl⟩ := HALL.out rfl
                    go_wp2_with (first
                      | (go_at_call 17; (with_reducible refine (K5.out B6 k6 wr T8.hb R8).mono ?_); rintro e w10 ⟨B10, k10, rfl, hb10⟩; have T10 := T8.below hb10; obtain ⟨g100, g101, g102, g103⟩ := T10.bg.four)
                      | (go_at_call 17; (with_reducible refine (K6.out B6 k6 w10 T10.hb (R8.below hb10)).mono ?_); rintro e w11 ⟨B11, k11, rfl, R11, hb11⟩; have T11 := T10.below hb11; obtain ⟨g110, g111, g112, g113⟩ := T11.bg.four)
                      | (go_at_call 17; (with_reducible refine (K7.out w11 T11.hb).mono ?_); rintro e w12 ⟨B12, k12, rfl, R12, hb12⟩; have T12 := T11.below hb12; obtain ⟨f120, f121, f122, f123⟩ := T12.bf.four)
                      | (go_at_call 17; (with_reducible refine (K8.out B12 k12 w12 T12.hb R12).mono ?_); rintro e w13 ⟨B13, k13, rfl, R13, hb13⟩; have T13 := T12.below hb13; obtain ⟨f130, f131, f132, f133⟩ := T13.bf.four; obtain ⟨d130, d131, _, _⟩ := ((((D8.below hb10).below hb11).below hb12).below hb13).two)
                      | (go_at_call 24; (with_reducible refine (K9.out B6 k6 w13 T13.hb (R8.below (b_then (b_then (b_then hb10 hb11) hb12) hb13))).mono ?_); rintro e w14 ⟨rfl, hb14⟩; have T14 := T13.below hb14)
                      | (go_at_call 23; (with_reducible refine (r12_same w14 (R11.below (b_then (b_then hb12 hb13) hb14)) (R13.below hb14)).mono ?_); rintro e w15 ⟨rfl, hb15⟩; have T15 := T14.below hb15))
                    go_ret
                    exact ⟨rfl, T15.hb⟩
end Go.Proofs.YtpoejheienohjaaGreatDoor
