/- FixingLast: plain law and walk (given the fixed calls). -/
import Derived.Test.YtpoejheienohjaaGreatDoorLawD
namespace Go.Proofs.YtpoejheienohjaaGreatDoor
open Go.RowKit
set_option linter.unusedVariables false
set_option linter.unusedSimpArgs false

theorem takeW_all {α : Type} (p : α → Bool) : ∀ (l : List α) (x : α), x ∈ l.takeWhile p → p x = true
  | [], _, h => by simp at h
  | a :: l, x, h => by
    rw [List.takeWhile_cons] at h
    cases hp : p a with
    | true =>
      rw [hp] at h
      rcases List.mem_cons.1 (by simpa using h) with rfl | h
      · exact hp
      · exact takeW_all p l x h
    | false => rw [hp] at h; simp at h
theorem bs_ex {l : List Fx} (t : Fx) : ∃ i, bsI l t i i := by
  have h1 := takeW_all (fahead · t) l
  have h2 := dropW_head (fahead · t) l
  have e : l.takeWhile (fahead · t) ++ l.dropWhile (fahead · t) = l := List.takeWhile_append_dropWhile
  obtain ⟨T, hT⟩ : ∃ T, l.takeWhile (fahead · t) = T := ⟨_, rfl⟩
  obtain ⟨D, hD⟩ : ∃ D, l.dropWhile (fahead · t) = D := ⟨_, rfl⟩
  rw [hT] at h1 e
  rw [hD] at h2 e
  subst e
  refine ⟨T.length, Nat.le_refl _, by simp, fun a h0 ha => ?_, fun a ha => ?_⟩
  · rw [List.getElem?_append_left (by omega)] at ha
    exact (fahead_lt _ _).1 (h1 a (List.mem_of_getElem? ha))
  · rw [List.getElem?_append_right (Nat.le_refl _), Nat.sub_self] at ha
    cases D with
    | nil => simp at ha
    | cons b r =>
      have h3 := h2 b r rfl
      have : b = a := by simpa using ha
      subst this
      exact ahead_no h3
theorem last_get {l : List Fx} {a : ByteArray} {d : Int} (hm : fmay l = true) {p : RT} (h : fget l a d = some p) : flast l a d = some p := by
  obtain ⟨i, hi⟩ := bs_ex (l := l) ⟨a, d, rzero⟩
  have h1 := fget_cut hm hi
  rw [h] at h1
  have hf : fat l ⟨a, d, rzero⟩ i = true := by
    cases hf : fat l ⟨a, d, rzero⟩ i with
    | true => rfl
    | false => rw [hf] at h1; cases h1
  rw [hf, if_pos rfl] at h1
  rw [(flast_cut hm hi).1 hf, ← h1]
theorem last_none {l : List Fx} {a : ByteArray} {d : Int} (hm : fmay l = true) (h : fget l a d = none) : flast l a d = flast l a (d - 1) := by
  rw [fget, if_pos hm, Option.map_eq_none_iff, List.find?_eq_none] at h
  rw [flast, if_pos hm, flast, if_pos hm]
  congr 2
  apply List.filter_congr
  intro f hf
  have h1 := h f hf
  rw [Bool.eq_iff_iff, fupto_iff, fupto_iff]
  constructor
  · rintro ⟨h2, h3⟩
    refine ⟨h2, ?_⟩
    have : ¬ f.day = d := fun e => h1 (by unfold fhit; rw [h2, e]; simp)
    omega
  · rintro ⟨h2, h3⟩; exact ⟨h2, by omega⟩
theorem last_neg {l : List Fx} {a : ByteArray} {d : Int} (hm : fmay l = true) (h : d < 0) : flast l a d = none := by
  have h2 : l.all fone = true := by rw [fmay, Bool.and_eq_true] at hm; exact hm.1
  rw [flast, if_pos hm, filter_none fun j b hb => ?_]
  · rfl
  · refine fupto_no fun ⟨_, h3⟩ => ?_
    have := List.all_eq_true.1 h2 b (List.mem_of_getElem? hb)
    unfold fone at this
    simp only [Bool.and_eq_true, decide_eq_true_eq] at this
    omega
theorem opt_of {o : Option RT} (h : o = none) : optR o = .tuple #[.agg #[.string ⟨#[]⟩, .string ⟨#[]⟩], .bool false] := by rw [h]; rfl
set_option maxRecDepth 100000 in
set_option maxHeartbeats 4000000 in
theorem l_last (HF : FixedOk) {A : Option Addr} {n c : Nat} {xs : List Fx} (s : ByteArray) (d : Int) (w : World) (hg : Glob w) (hx : Rd Fx.cs 4 w A n xs) (hz : ∀ f ∈ xs, fxok f) (hs : s.size ≤ 9223372036854775807) (hd : -9223372036854775808 ≤ d ∧ d ≤ 9223372036854775807) :
    Calls Tryz.prog 5 #[.slice A n c, .string s, .int .i64 d] w fun e w' => e = .returned (.bool true) ∧ Below w.heap.size w w' := by
  have hxl := hx.len
  obtain ⟨hd1, hd2⟩ := hd
  have HFX := Lib.hid HF
  clear HF
  have hS := fun W (h : Below w.heap.size w W) => r12_small (c := c) W (hx.below h) hz
  by_cases hok : fsmall xs = true ∧ fmay xs = true ∧ s.size ≤ 100 ∧ -1 ≤ d ∧ d ≤ 10000
  · obtain ⟨c1, c2, c3, c4, c5⟩ := hok
    obtain ⟨hzq, hn60⟩ := small_q c1
    have hzr : ∀ f ∈ xs, fxsz f := fun f h => fxq_sz (hzq f h)
    rw [c1] at hS
    have hM : ∀ W, Below w.heap.size w W → Calls Tryz.prog 25 #[.slice A n c] W fun e w' => e = .returned (.bool true) ∧ Below W.heap.size W w' := fun W hW => by have := r12_may (c := c) W (hx.below hW) hzr; rw [c2] at this; exact this
    have cLast : ∀ (k : Int) (W : World), Below w.heap.size w W → Calls Tryz.prog 21 #[.slice A n c, .string s, .int .i64 k] W fun e w' => e = .returned (optR (flast xs s k)) ∧ Below W.heap.size W w' := fun k W hW => p_last (c := c) s k W (hg.below hW) (hx.below hW) (by omega) hzq
    have cN : ∀ W, Below w.heap.size w W → Calls Tryz.prog 21 #[.slice A n c, .string s, .int .i64 (-1)] W fun e w' => e = .returned (.tuple #[.agg #[.string ⟨#[]⟩, .string ⟨#[]⟩], .bool false]) ∧ Below W.heap.size W w' := fun W hW => by have := cLast (-1) W hW; rw [opt_of (last_neg c2 (by omega))] at this; exact this
    have cGet : ∀ W, Below w.heap.size w W → Calls Tryz.prog 19 #[.slice A n c, .string s, .int .i64 d] W fun e w' => e = .returned (optR (fget xs s d)) ∧ Below W.heap.size W w' := fun W hW => p_get (c := c) s d W (hg.below hW) (hx.below hW) (by omega) hzq
    have KS := Lib.hid hS
    have KM := Lib.hid hM
    have KN := Lib.hid cN
    have heq := eqRat
    have hB0 : Below w.heap.size w w := Below.refl _ _
    cases hgt : fget xs s d with
    | some p =>
      obtain ⟨p0, p1⟩ := p
      have hlt := last_get c2 hgt
      have hd0 : 0 ≤ d := by
        rcases Int.lt_or_le d 0 with h | h
        · rw [last_neg c2 h] at hlt; cases hlt
        · exact h
      have k1 : ∀ W, Below w.heap.size w W → Calls Tryz.prog 21 #[.slice A n c, .string s, .int .i64 d] W fun e w' => e = .returned (.tuple #[.agg #[.string p0, .string p1], .bool true]) ∧ Below W.heap.size W w' := fun W hW => by have := cLast d W hW; rw [hlt] at this; exact this
      have k2 : ∀ W, Below w.heap.size w W → Calls Tryz.prog 19 #[.slice A n c, .string s, .int .i64 d] W fun e w' => e = .returned (.tuple #[.agg #[.string p0, .string p1], .bool true]) ∧ Below W.heap.size W w' := fun W hW => by have := cGet W hW; rw [hgt] at this; exact this
      have K1 := Lib.hid k1
      have K2 := Lib.hid k2
      clear k1 k2 hS hM cLast cN cGet hzq hzr hz c1 c2 hgt hlt
      go_enter Tryz.func5, Tryz.ntmps5
      go_wp2_with (first
        | (go_at_call 16; (with_reducible refine (HFX.out w hg).mono ?_); rintro e w1 ⟨rfl, hb1⟩)
        | (go_at_call 15; (with_reducible refine (KS.out w1 hb1).mono ?_); rintro e w' ⟨rfl, rfl⟩)
        | (go_at_call 25; (with_reducible refine (KM.out w1 hb1).mono ?_); rintro e w2 ⟨rfl, hb2⟩; have hB2 := b_then hb1 hb2)
        | (go_at_call 21; (with_reducible refine (K1.out w2 hB2).mono ?_); rintro e w3 ⟨rfl, hb3⟩; have hB3 := b_alloc (b_then hB2 hb3) (.cells #[.string p0, .string p1] 24); have by3 := Blk.new w3 24 #[.string p0, .string p1])
        | (go_at_call 19; (with_reducible refine (K2.out _ hB3).mono ?_); rintro e w4 ⟨rfl, hb4⟩; have hB4 := b_alloc (b_then hB3 hb4) (.cells #[.string p0, .string p1] 24); have by4 := Blk.new w4 24 #[.string p0, .string p1]; have by34 := (by3.below hb4).alloc (.cells #[.string p0, .string p1] 24))
        | (go_at_call 21; (with_reducible refine (KN.out _ hB4).mono ?_); rintro e w6 ⟨rfl, hb6⟩; have hB6 := b_alloc (b_then hB4 hb6) (.cells #[.string ⟨#[]⟩, .string ⟨#[]⟩] 24); obtain ⟨y30, y31, _, _⟩ := ((by34.below hb6).alloc (.cells #[.string ⟨#[]⟩, .string ⟨#[]⟩] 24)).two; obtain ⟨y40, y41, _, _⟩ := ((by4.below hb6).alloc (.cells #[.string ⟨#[]⟩, .string ⟨#[]⟩] 24)).two))
      go_ret
      exact ⟨rfl, hB6⟩
    | none =>
      have hlt := last_none c2 hgt
      obtain ⟨x0, x1, x2, hx0⟩ : ∃ x0 x1 x2, optR (flast xs s d) = .tuple #[.agg #[.string x0, .string x1], .bool x2] := ⟨_, _, _, rfl⟩
      have k1 : ∀ W, Below w.heap.size w W → Calls Tryz.prog 21 #[.slice A n c, .string s, .int .i64 d] W fun e w' => e = .returned (.tuple #[.agg #[.string x0, .string x1], .bool x2]) ∧ Below W.heap.size W w' := fun W hW => by have := cLast d W hW; rw [hx0] at this; exact this
      have k3 : ∀ W, Below w.heap.size w W → Calls Tryz.prog 21 #[.slice A n c, .string s, .int .i64 (d - 1)] W fun e w' => e = .returned (.tuple #[.agg #[.string x0, .string x1], .bool x2]) ∧ Below W.heap.size W w' := fun W hW => by have := cLast (d - 1) W hW; rw [← hlt, hx0] at this; exact this
      have k2 : ∀ W, Below w.heap.size w W → Calls Tryz.prog 19 #[.slice A n c, .string s, .int .i64 d] W fun e w' => e = .returned (.tuple #[.agg #[.string ⟨#[]⟩, .string ⟨#[]⟩], .bool false]) ∧ Below W.heap.size W w' := fun W hW => by have := cGet W hW; rw [opt_of hgt] at this; exact this
      have hx2 : d < 0 → x2 = false := fun h => by
        rw [last_neg c2 h] at hx0
        have h9 : x2 = (none : Option RT).isSome := by
          have := congrArg (fun v => match v with | Value.tuple a => a.getD 1 undef | _ => undef) hx0
          simpa [optR] using this.symm
        exact h9
      have K1 := Lib.hid k1
      have K2 := Lib.hid k2
      have K3 := Lib.hid k3
      have HX2 := Lib.hid hx2
      clear k1 k2 k3 hS hM cLast cN cGet hzq hzr hz c1 c2 hgt hlt hx0 hx2
      by_cases hd0 : d < 0
      · have hx2f := HX2.out hd0
        subst hx2f
        go_enter Tryz.func5, Tryz.ntmps5
        go_wp2_with (first
          | (go_at_call 16; (with_reducible refine (HFX.out w hg).mono ?_); rintro e w1 ⟨rfl, hb1⟩)
          | (go_at_call 15; (with_reducible refine (KS.out w1 hb1).mono ?_); rintro e w' ⟨rfl, rfl⟩)
          | (go_at_call 25; (with_reducible refine (KM.out w1 hb1).mono ?_); rintro e w2 ⟨rfl, hb2⟩; have hB2 := b_then hb1 hb2)
          | (go_at_call 21; (with_reducible refine (K1.out w2 hB2).mono ?_); rintro e w3 ⟨rfl, hb3⟩; have hB3 := b_alloc (b_then hB2 hb3) (.cells #[.string x0, .string x1] 24))
          | (go_at_call 19; (with_reducible refine (K2.out _ hB3).mono ?_); rintro e w4 ⟨rfl, hb4⟩; have hB4 := b_alloc (b_then hB3 hb4) (.cells #[.string ⟨#[]⟩, .string ⟨#[]⟩] 24); have by4 := Blk.new w4 24 #[.string ⟨#[]⟩, .string ⟨#[]⟩])
          | (go_at_call 21; (with_reducible refine (K3.out _ hB4).mono ?_); rintro e w5 ⟨rfl, hb5⟩; have by5 := by4.below hb5; obtain ⟨v50, v51, f50, f51⟩ := by5.two; have q5 := by5.lt; have q45 : w.heap.size ≤ w4.heap.size := (b_then hB3 hb4).size; have hB5 := b_set (b_set (b_then hB4 hb5) (p := ⟨w4.heap.size, 0, none⟩) q45 (.string x0)) (p := ⟨w4.heap.size, 1, none⟩) q45 (.string x1))
          | (go_at_call 21; (with_reducible refine (KN.out _ hB5).mono ?_); rintro e w6 ⟨rfl, hb6⟩; have hB6 := b_alloc (b_then hB5 hb6) (.cells #[.string ⟨#[]⟩, .string ⟨#[]⟩] 24)))
        go_ret
        exact ⟨rfl, hB6⟩
      · go_enter Tryz.func5, Tryz.ntmps5
        go_wp2_with (first
          | (go_at_call 16; (with_reducible refine (HFX.out w hg).mono ?_); rintro e w1 ⟨rfl, hb1⟩)
          | (go_at_call 15; (with_reducible refine (KS.out w1 hb1).mono ?_); rintro e w' ⟨rfl, rfl⟩)
          | (go_at_call 25; (with_reducible refine (KM.out w1 hb1).mono ?_); rintro e w2 ⟨rfl, hb2⟩; have hB2 := b_then hb1 hb2)
          | (go_at_call 21; (with_reducible refine (K1.out w2 hB2).mono ?_); rintro e w3 ⟨rfl, hb3⟩; have hB3 := b_alloc (b_then hB2 hb3) (.cells #[.string x0, .string x1] 24); have by3 := Blk.new w3 24 #[.string x0, .string x1])
          | (go_at_call 19; (with_reducible refine (K2.out _ hB3).mono ?_); rintro e w4 ⟨rfl, hb4⟩; have hB4 := b_alloc (b_then hB3 hb4) (.cells #[.string ⟨#[]⟩, .string ⟨#[]⟩] 24); have by4 := Blk.new w4 24 #[.string ⟨#[]⟩, .string ⟨#[]⟩]; have by34 := (by3.below hb4).alloc (.cells #[.string ⟨#[]⟩, .string ⟨#[]⟩] 24); have q34 : w3.heap.size ≠ w4.heap.size := (by have := (by3.below hb4).lt; omega))
          | (go_at_call 21; (with_reducible refine (K3.out _ hB4).mono ?_); rintro e w5 ⟨rfl, hb5⟩; have by5 := by4.below hb5; obtain ⟨v50, v51, f50, f51⟩ := by5.two; have q5 := by5.lt; have q45 : w.heap.size ≤ w4.heap.size := (b_then hB3 hb4).size; have hB5 := b_set (b_set (b_then hB4 hb5) (p := ⟨w4.heap.size, 0, none⟩) q45 (.string x0)) (p := ⟨w4.heap.size, 1, none⟩) q45 (.string x1); have bz5 := by5.put2 (.string x0) (.string x1); have bz3 := ((by34.below hb5).far (p := ⟨w4.heap.size, 0, none⟩) q34 (.string x0)).far (p := ⟨w4.heap.size, 1, none⟩) q34 (.string x1))
          | (go_at_call 21; (with_reducible refine (KN.out _ hB5).mono ?_); rintro e w6 ⟨rfl, hb6⟩; have hB6 := b_alloc (b_then hB5 hb6) (.cells #[.string ⟨#[]⟩, .string ⟨#[]⟩] 24); obtain ⟨y30, y31, _, _⟩ := ((bz3.below hb6).alloc (.cells #[.string ⟨#[]⟩, .string ⟨#[]⟩] 24)).two; obtain ⟨y40, y41, _, _⟩ := ((bz5.below hb6).alloc (.cells #[.string ⟨#[]⟩, .string ⟨#[]⟩] 24)).two))
        go_ret
        exact ⟨rfl, hB6⟩
  · have hno : Hid (∀ W, Below w.heap.size w W → Calls Tryz.prog 16 #[] W fun e w' => e = .returned (.bool true) ∧ Below W.heap.size W w') := fun W hW => HFX.out W (hg.below hW)
    cases c1 : fsmall xs with
    | false =>
      rw [c1] at hS
      have KS := Lib.hid hS
      clear hS
      go_enter Tryz.func5, Tryz.ntmps5
      go_wp2_with (first
        | (go_at_call 15; (with_reducible refine (KS.out w1 hb1).mono ?_); rintro e w' ⟨rfl, rfl⟩)
        | (go_at_call 16; (with_reducible refine (hno.out w1 hb1).mono ?_); rintro e w2 ⟨rfl, hb2⟩; have hB2 := b_then hb1 hb2)
        | (go_at_call 16; (with_reducible refine (HFX.out w hg).mono ?_); rintro e w1 ⟨rfl, hb1⟩))
      go_ret
      exact ⟨rfl, hB2⟩
    | true =>
      obtain ⟨hzq, hn60⟩ := small_q c1
      have hzr : ∀ f ∈ xs, fxsz f := fun f h => fxq_sz (hzq f h)
      rw [c1] at hS
      have hM : ∀ W, Below w.heap.size w W → Calls Tryz.prog 25 #[.slice A n c] W fun e w' => e = .returned (.bool (fmay xs)) ∧ Below W.heap.size W w' := fun W hW => r12_may (c := c) W (hx.below hW) hzr
      cases c2 : fmay xs with
      | false =>
        rw [c2] at hM
        have KS := Lib.hid hS
        have KM := Lib.hid hM
        clear hS hM hzq hzr hz
        go_enter Tryz.func5, Tryz.ntmps5
        go_wp2_with (first
          | (go_at_call 15; (with_reducible refine (KS.out w1 hb1).mono ?_); rintro e w' ⟨rfl, rfl⟩)
          | (go_at_call 25; (with_reducible refine (KM.out w1 hb1).mono ?_); rintro e w2 ⟨rfl, hb2⟩; have hB2 := b_then hb1 hb2)
          | (go_at_call 16; (with_reducible refine (hno.out w2 hB2).mono ?_); rintro e w3 ⟨rfl, hb3⟩; have hB3 := b_then hB2 hb3)
          | (go_at_call 16; (with_reducible refine (HFX.out w hg).mono ?_); rintro e w1 ⟨rfl, hb1⟩))
        go_ret
        exact ⟨rfl, hB3⟩
      | true =>
        rw [c2] at hM
        have KS := Lib.hid hS
        have KM := Lib.hid hM
        have hbad : 100 < s.size ∨ d < -1 ∨ 10000 < d := by
          rcases Nat.lt_or_ge 100 s.size with h | h
          · exact .inl h
          · rcases Int.lt_or_le d (-1) with h' | h'
            · exact .inr (.inl h')
            · rcases Int.lt_or_le 10000 d with h'' | h''
              · exact .inr (.inr h'')
              · exact absurd ⟨c1, c2, h, h', h''⟩ hok
        clear hS hM hzq hzr hz hok
        by_cases b1 : 100 < s.size
        · clear hbad
          go_enter Tryz.func5, Tryz.ntmps5
          go_wp2_with (first
            | (go_at_call 15; (with_reducible refine (KS.out w1 hb1).mono ?_); rintro e w' ⟨rfl, rfl⟩)
            | (go_at_call 25; (with_reducible refine (KM.out w1 hb1).mono ?_); rintro e w2 ⟨rfl, hb2⟩; have hB2 := b_then hb1 hb2)
            | (go_at_call 16; (with_reducible refine (hno.out w2 hB2).mono ?_); rintro e w3 ⟨rfl, hb3⟩; have hB3 := b_then hB2 hb3)
            | (go_at_call 16; (with_reducible refine (HFX.out w hg).mono ?_); rintro e w1 ⟨rfl, hb1⟩))
          go_ret
          exact ⟨rfl, hB3⟩
        · by_cases b2 : d < -1
          · clear hbad
            go_enter Tryz.func5, Tryz.ntmps5
            go_wp2_with (first
              | (go_at_call 15; (with_reducible refine (KS.out w1 hb1).mono ?_); rintro e w' ⟨rfl, rfl⟩)
              | (go_at_call 25; (with_reducible refine (KM.out w1 hb1).mono ?_); rintro e w2 ⟨rfl, hb2⟩; have hB2 := b_then hb1 hb2)
              | (go_at_call 16; (with_reducible refine (hno.out w2 hB2).mono ?_); rintro e w3 ⟨rfl, hb3⟩; have hB3 := b_then hB2 hb3)
              | (go_at_call 16; (with_reducible refine (HFX.out w hg).mono ?_); rintro e w1 ⟨rfl, hb1⟩))
            go_ret
            exact ⟨rfl, hB3⟩
          · have b3 : 10000 < d := by omega
            clear hbad
            go_enter Tryz.func5, Tryz.ntmps5
            go_wp2_with (first
              | (go_at_call 15; (with_reducible refine (KS.out w1 hb1).mono ?_); rintro e w' ⟨rfl, rfl⟩)
              | (go_at_call 25; (with_reducible refine (KM.out w1 hb1).mono ?_); rintro e w2 ⟨rfl, hb2⟩; have hB2 := b_then hb1 hb2)
              | (go_at_call 16; (with_reducible refine (hno.out w2 hB2).mono ?_); rintro e w3 ⟨rfl, hb3⟩; have hB3 := b_then hB2 hb3)
              | (go_at_call 16; (with_reducible refine (HFX.out w hg).mono ?_); rintro e w1 ⟨rfl, hb1⟩))
            go_ret
            exact ⟨rfl, hB3⟩
end Go.Proofs.YtpoejheienohjaaGreatDoor
