/- The first law of the prices: the walk. -/
import Derived.Test.YtpoejheienohjaaGreatDoorLawA
namespace Go.Proofs.YtpoejheienohjaaGreatDoor
open Go.RowKit
set_option linter.unusedVariables false
set_option linter.unusedSimpArgs false

theorem rd_one (w : World) (f : Fx) : Rd Fx.cs 4 (w.alloc (.cells (Fx.cs f).toArray 26)) (some ⟨w.heap.size, 0, none⟩) 1 [f] :=
  ⟨rfl, by omega, fun _ => ⟨_, rfl, by simp, fun j x hj i u hu => by
    obtain ⟨rfl, rfl⟩ := one_at hj
    rw [Nat.zero_mul, Nat.zero_add, add_lit4]
    exact (Blk.cell (Blk.new w _ _) _).trans (by simpa using hu)⟩⟩
/-- What Set gives, in the law's words. -/
def SetIs (ys : List Fx) (m : Nat) (b : Bool) (w : World) (e : Ending) (w' : World) : Prop := ∃ B k, e = .returned (.tuple #[.slice B m k, .bool b]) ∧ Rd Fx.cs 4 w' B m ys ∧ Below w.heap.size w w'
theorem SetPost.is_ {xs : List Fx} {f : Fx} {w w' : World} {e : Ending} {ys : List Fx} {m : Nat} {b : Bool} (h : SetPost xs f w e w') (hy : (fset xs f).getD [] = ys) (hm : ys.length = m) (hb : (fset xs f).isSome = b) : SetIs ys m b w e w' := by
  obtain ⟨v, he, ho, hB⟩ := h
  rw [hy] at ho
  rw [hb] at he
  obtain ⟨B, k, hv, hr⟩ := ho.rd Fx.cs_length
  subst hm
  subst hv
  exact ⟨B, k, he, hr, hB⟩
theorem small_q {l : List Fx} (h : fsmall l = true) : (∀ f ∈ l, fxq f) ∧ l.length ≤ 60 := by
  unfold fsmall at h
  rw [Bool.and_eq_true, List.all_eq_true, decide_eq_true_eq] at h
  refine ⟨fun f hf => ?_, h.2⟩
  have := h.1 f hf
  unfold fsm at this
  simp only [Bool.and_eq_true, decide_eq_true_eq] at this
  exact ⟨by omega, by omega, by omega⟩
def fxok (f : Fx) : Prop := f.asset.size ≤ 9223372036854775807 ∧ f.p.num.size ≤ 9223372036854775807 ∧ f.p.den.size ≤ 9223372036854775807
abbrev FixedOk : Prop := ∀ w : World, Glob w → Calls Tryz.prog 16 #[] w fun e w' => e = .returned (.bool true) ∧ Below w.heap.size w w'
set_option maxRecDepth 100000 in
set_option maxHeartbeats 4000000 in
theorem l_tells (HF : FixedOk) {A : Option Addr} {n c : Nat} {xs : List Fx} (a0 a2 a3 : ByteArray) (a1 : Int) (w : World) (hg : Glob w) (hx : Rd Fx.cs 4 w A n xs) (hz : ∀ f ∈ xs, fxok f) (hf : fxok ⟨a0, a1, ⟨a2, a3⟩⟩) :
    Calls Tryz.prog 3 #[.slice A n c, .agg #[.string a0, .int .i64 a1, .string a2, .string a3]] w fun e w' => e = .returned (.bool true) ∧ Below w.heap.size w w' := by
  have hxl := hx.len
  have hB0 : Below w.heap.size w (w.alloc (.cells #[.string a0, .int .i64 a1, .string a2, .string a3] 26)) := b_alloc (Below.refl _ _) _
  have hG0 := hg.below hB0
  have hR0 := hx.below hB0
  have HFX := Lib.hid HF
  clear HF
  cases c1 : fsmall xs with
  | false =>
    have hS := r12_small (c := c) _ hR0 hz
    rw [c1] at hS
    go_enter Tryz.func3, Tryz.ntmps3
    go_wp2_with (first | (go_at_call 15; (with_reducible refine (hS).mono ?_); rintro e w' ⟨rfl, rfl⟩) | (go_at_call 16; (with_reducible refine (HFX.out _ hG0).mono ?_); rintro e w1 ⟨rfl, hb1⟩; obtain ⟨hc1, hf1⟩ := bcell hb1; have hs1 := hb1.size; (try simp at hs1)))
    go_ret
    exact ⟨rfl, (by repeat (first | exact Below.refl _ _ | assumption | refine b_then ?_ (by assumption) | refine b_alloc ?_ _ | refine b_drewN ?_ _ | refine b_set ?_ (by first | exact Nat.le_refl _ | (simp; done) | omega) _))⟩
  | true =>
    have hS := r12_small (c := c) _ hR0 hz
    rw [c1] at hS
    have hB1 : Below w.heap.size w ((w.alloc (.cells #[.string a0, .int .i64 a1, .string a2, .string a3] 26)).alloc (.cells #[.string a0, .int .i64 a1, .string a2, .string a3] 26)) := b_alloc hB0 _
    have hG1 := hg.below hB1
    have hR1 := hx.below hB1
    have hS2 := r12_small (c := 1) _ (rd_one (w.alloc (.cells #[.string a0, .int .i64 a1, .string a2, .string a3] 26)) ⟨a0, a1, ⟨a2, a3⟩⟩) (fun f h => by rw [List.mem_singleton.1 h]; exact hf)
    have hS3 : Calls Tryz.prog 15 #[.slice (some ⟨w.heap.size + 1, 0, none⟩) 1 1] ((w.alloc (.cells #[.string a0, .int .i64 a1, .string a2, .string a3] 26)).alloc (.cells #[.string a0, .int .i64 a1, .string a2, .string a3] 26)) fun e w' => e = .returned (.bool (fsmall [⟨a0, a1, ⟨a2, a3⟩⟩])) ∧ ((w.alloc (.cells #[.string a0, .int .i64 a1, .string a2, .string a3] 26)).alloc (.cells #[.string a0, .int .i64 a1, .string a2, .string a3] 26)) = w' := by
      have := hS2
      rw [World.size_alloc] at this
      exact this
    clear hS2
    cases c2 : fsmall [⟨a0, a1, ⟨a2, a3⟩⟩] with
    | false =>
      rw [c2] at hS3
      go_enter Tryz.func3, Tryz.ntmps3
      go_wp2_with (first | (go_at_call 15; (with_reducible refine (hS).mono ?_); rintro e w' ⟨rfl, rfl⟩) | (go_at_call 15; (with_reducible refine (hS3).mono ?_); rintro e w' ⟨rfl, rfl⟩) | (go_at_call 16; (with_reducible refine (HFX.out _ hG1).mono ?_); rintro e w1 ⟨rfl, hb1⟩; obtain ⟨hc1, hf1⟩ := bcell hb1; have hs1 := hb1.size; (try simp at hs1)))
      go_ret
      exact ⟨rfl, (by repeat (first | exact Below.refl _ _ | assumption | refine b_then ?_ (by assumption) | refine b_alloc ?_ _ | refine b_drewN ?_ _ | refine b_set ?_ (by first | exact Nat.le_refl _ | (simp; done) | omega) _))⟩
    | true =>
      rw [c2] at hS3
      obtain ⟨hzq, hn60⟩ := small_q c1
      have hfq : fxq ⟨a0, a1, ⟨a2, a3⟩⟩ := (small_q c2).1 _ (by simp)
      have hzr : ∀ f ∈ xs, fxsz f := fun f h => fxq_sz (hzq f h)
      have hfr := fxq_sz hfq
      obtain ⟨ys, hys⟩ : ∃ ys, (fset xs ⟨a0, a1, ⟨a2, a3⟩⟩).getD [] = ys := ⟨_, rfl⟩
      obtain ⟨m, hm⟩ : ∃ m, ys.length = m := ⟨_, rfl⟩
      obtain ⟨b, hb⟩ : ∃ b, (fset xs ⟨a0, a1, ⟨a2, a3⟩⟩).isSome = b := ⟨_, rfl⟩
      obtain ⟨p0, p1, p2, hp⟩ : ∃ p0 p1 p2, optR (fget xs a0 a1) = .tuple #[.agg #[.string p0, .string p1], .bool p2] := ⟨_, _, _, rfl⟩
      obtain ⟨l0, l1, l2, hl⟩ : ∃ l0 l1 l2, optR (flast xs a0 a1) = .tuple #[.agg #[.string l0, .string l1], .bool l2] := ⟨_, _, _, rfl⟩
      obtain ⟨bm, hbm⟩ : ∃ bm, fmay xs = bm := ⟨_, rfl⟩
      have cSet : ∀ W, Below w.heap.size w W → Calls Tryz.prog 17 #[.slice A n c, .agg #[.string a0, .int .i64 a1, .string a2, .string a3]] W fun e w' => SetIs ys m b W e w' := fun W hW => (p_set a0 a2 a3 a1 W (hg.below hW) (hx.below hW) (by omega) hzq hfq).mono fun e w' h => h.is_ hys hm hb
      have cSetR : ∀ W, Below w.heap.size w W → Calls Tryz.prog 18 #[.slice A n c, .agg #[.string a0, .int .i64 a1, .string a2, .string a3]] W fun e w' => SetIs ys m b W e w' := fun W hW => (r12_set a0 a2 a3 a1 W (hx.below hW) (by omega) hzr hfr).mono fun e w' h => h.is_ hys hm hb
      have cGet : ∀ W, Below w.heap.size w W → Calls Tryz.prog 19 #[.slice A n c, .string a0, .int .i64 a1] W fun e w' => e = .returned (.tuple #[.agg #[.string p0, .string p1], .bool p2]) ∧ Below W.heap.size W w' := fun W hW => by have := p_get (c := c) a0 a1 W (hg.below hW) (hx.below hW) (by omega) hzq; rw [hp] at this; exact this
      have cGetR : ∀ W, Below w.heap.size w W → Calls Tryz.prog 20 #[.slice A n c, .string a0, .int .i64 a1] W fun e w' => e = .returned (.tuple #[.agg #[.string p0, .string p1], .bool p2]) ∧ Below W.heap.size W w' := fun W hW => by have := r12_get (c := c) a0 a1 W (hx.below hW) hzr; rw [hp] at this; exact this
      have cLast : ∀ W, Below w.heap.size w W → Calls Tryz.prog 21 #[.slice A n c, .string a0, .int .i64 a1] W fun e w' => e = .returned (.tuple #[.agg #[.string l0, .string l1], .bool l2]) ∧ Below W.heap.size W w' := fun W hW => by have := p_last (c := c) a0 a1 W (hg.below hW) (hx.below hW) (by omega) hzq; rw [hl] at this; exact this
      have cLastR : ∀ W, Below w.heap.size w W → Calls Tryz.prog 22 #[.slice A n c, .string a0, .int .i64 a1] W fun e w' => e = .returned (.tuple #[.agg #[.string l0, .string l1], .bool l2]) ∧ Below W.heap.size W w' := fun W hW => by have := r12_last (c := c) a0 a1 W (hx.below hW) hzr; rw [hl] at this; exact this
      have cMay : ∀ W, Below w.heap.size w W → Calls Tryz.prog 24 #[.slice A n c] W fun e w' => e = .returned (.bool bm) ∧ Below W.heap.size W w' := fun W hW => by have := p_may (c := c) W (hg.below hW) (hx.below hW) hzq; rw [hbm] at this; exact this
      have cMayR : ∀ W, Below w.heap.size w W → Calls Tryz.prog 25 #[.slice A n c] W fun e w' => e = .returned (.bool bm) ∧ Below W.heap.size W w' := fun W hW => by have := r12_may (c := c) W (hx.below hW) hzr; rw [hbm] at this; exact this
      have bx1 : Blk ((w.alloc (.cells #[.string a0, .int .i64 a1, .string a2, .string a3] 26)).alloc (.cells #[.string a0, .int .i64 a1, .string a2, .string a3] 26)) w.heap.size 26 #[.string a0, .int .i64 a1, .string a2, .string a3] := (Blk.new w _ _).alloc _
      have KS := Lib.hid cSet
      have KSR := Lib.hid cSetR
      have KG := Lib.hid cGet
      have KGR := Lib.hid cGetR
      have KL := Lib.hid cLast
      have KLR := Lib.hid cLastR
      have KM := Lib.hid cMay
      have KMR := Lib.hid cMayR
      have heq := eqRat
      clear cSet cSetR cGet cGetR cLast cLastR cMay cMayR hys hb hp hl hbm hm hzq hzr hfq hfr hz hf c1 c2
      go_enter Tryz.func3, Tryz.ntmps3
      go_wp2_with (first
        | (go_at_call 15; (with_reducible refine (hS).mono ?_); rintro e w' ⟨rfl, rfl⟩)
        | (go_at_call 15; (with_reducible refine (hS3).mono ?_); rintro e w' ⟨rfl, rfl⟩)
        | (go_at_call 17; (with_reducible refine (KS.out _ hB1).mono ?_); rintro e w2 ⟨B2, k2, rfl, rd2, hb2⟩; have hB2 := b_then hB1 hb2; have bx2 := bx1.below hb2; obtain ⟨x20, x21, x22, x23⟩ := bx2.four; have q2 := bx2.lt)
        | (go_at_call 18; (with_reducible refine (KSR.out _ hB2).mono ?_); rintro e w3 ⟨B3, k3, rfl, rd3, hb3⟩; have hB3 := b_then hB2 hb3; have bx3 := bx2.below hb3; obtain ⟨x30, x31, x32, x33⟩ := bx3.four; have q3 := bx3.lt; have rd23 := rd2.below hb3)
        | (go_at_call 19; (with_reducible refine (KG.out _ hB3).mono ?_); rintro e w4 ⟨rfl, hb4⟩; have hB4 := b_alloc (b_then hB3 hb4) (.cells #[.string p0, .string p1] 24); have bx4 := bx3.below hb4; obtain ⟨x40, x41, x42, x43⟩ := bx4.four; have q4 := bx4.lt; have by4 := Blk.new w4 24 #[.string p0, .string p1]; have hB34 := b_alloc hb4 (.cells #[.string p0, .string p1] 24))
        | (go_at_call 20; (with_reducible refine (KGR.out _ hB4).mono ?_); rintro e w5 ⟨rfl, hb5⟩; have hB5 := b_alloc (b_then hB4 hb5) (.cells #[.string p0, .string p1] 24); have bx5 := (bx4.alloc (.cells #[.string p0, .string p1] 24)).below hb5; obtain ⟨x50, x51, x52, x53⟩ := bx5.four; have q5 := bx5.lt; have by5 := Blk.new w5 24 #[.string p0, .string p1]; have by45 := (by4.below hb5).alloc (.cells #[.string p0, .string p1] 24); have hB35 := b_then hB34 (b_alloc hb5 (.cells #[.string p0, .string p1] 24)))
        | (go_at_call 21; (with_reducible refine (KL.out _ hB5).mono ?_); rintro e w6 ⟨rfl, hb6⟩; have hB6 := b_alloc (b_then hB5 hb6) (.cells #[.string l0, .string l1] 24); have bx6 := (bx5.alloc (.cells #[.string p0, .string p1] 24)).below hb6; obtain ⟨x60, x61, x62, x63⟩ := bx6.four; have q6 := bx6.lt; have by6 := Blk.new w6 24 #[.string l0, .string l1]; have hB56 := b_alloc hb6 (.cells #[.string l0, .string l1] 24); have hB36 := b_then hB35 hB56; have by46 := by45.below hB56; have by56 := by5.below hB56)
        | (go_at_call 22; (with_reducible refine (KLR.out _ hB6).mono ?_); rintro e w7 ⟨rfl, hb7⟩; have hB67 := b_alloc hb7 (.cells #[.string l0, .string l1] 24); have hB7 := b_then hB6 hB67; have by7 := Blk.new w7 24 #[.string l0, .string l1]; have by47 := by46.below hB67; have by57 := by56.below hB67; have by67 := by6.below hB67; have hB37 := b_then hB36 hB67)
        | (go_at_call 16; (with_reducible refine (HFX.out _ (hg.below hB7)).mono ?_); rintro e w8 ⟨rfl, hb8⟩; have hB8 := b_then hB7 hb8; have hB38 := b_then hB37 hb8)
        | (go_at_call 23; (with_reducible refine (r12_same w8 (rd23.below hB38) (rd3.below hB38)).mono ?_); rintro e w9 ⟨rfl, hb9⟩; have hB9 := b_then hB8 hb9; have hB79 := b_then hb8 hb9; obtain ⟨y40, y41, _, _⟩ := (by47.below hB79).two; obtain ⟨y50, y51, _, _⟩ := (by57.below hB79).two; obtain ⟨y60, y61, _, _⟩ := (by67.below hB79).two; obtain ⟨y70, y71, _, _⟩ := (by7.below hB79).two)
        | (go_at_call 24; (with_reducible refine (KM.out _ hB9).mono ?_); rintro e w10 ⟨rfl, hb10⟩; have hB10 := b_then hB9 hb10)
        | (go_at_call 25; (with_reducible refine (KMR.out _ hB10).mono ?_); rintro e w11 ⟨rfl, hb11⟩; have hB11 := b_then hB10 hb11))
      go_ret
      exact ⟨rfl, hB11⟩
end Go.Proofs.YtpoejheienohjaaGreatDoor
