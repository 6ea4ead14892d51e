/- Walk of fixing.Set. -/
import Derived.Test.YtpoejheienohjaaGreatDoorFixO
import Derived.Test.YtpoejheienohjaaGreatDoorFixG
namespace Go.Proofs.YtpoejheienohjaaGreatDoor
open Go.RowKit
set_option linter.unusedVariables false
set_option linter.unusedSimpArgs false

theorem Blk.four {w : World} {g : Nat} {t : TypeId} {a b c d : Value} (h : Blk w g t #[a, b, c, d]) : w.cell? ⟨g, 0, none⟩ = some a ∧ w.cell? ⟨g, 1, none⟩ = some b ∧ w.cell? ⟨g, 2, none⟩ = some c ∧ w.cell? ⟨g, 3, none⟩ = some d :=
  ⟨h.cell 0, h.cell 1, h.cell 2, h.cell 3⟩
set_option maxRecDepth 100000 in
set_option maxHeartbeats 4000000 in
theorem p_set {A : Option Addr} {n c : Nat} {xs : List Fx} (a0 a2 a3 : ByteArray) (a1 : Int) (w : World) (hg : Glob w) (hx : Rd Fx.cs 4 w A n xs) (hn : n ≤ 900000) (hz : ∀ f ∈ xs, fxq f) (hf : fxq ⟨a0, a1, ⟨a2, a3⟩⟩) :
    Calls Tryz.prog 17 #[.slice A n c, .agg #[.string a0, .int .i64 a1, .string a2, .string a3]] w fun e w' => SetPost xs ⟨a0, a1, ⟨a2, a3⟩⟩ w e w' := by
  have hxl := hx.len
  obtain ⟨z1, z2, z3⟩ := hf
  dsimp only at z1 z2 z3
  have hB0 : Below w.heap.size w (w.alloc (.cells #[.string a0, .int .i64 a1, .string a2, .string a3] 26)) := b_alloc (Below.refl _ _) _
  have hM := p_may _ (hg.below hB0) (hx.below hB0) hz (c := c)
  cases c3 : fmay xs with
  | false =>
    rw [c3] at hM
    have hno := Lib.hid (fset_no1 (f := ⟨a0, a1, ⟨a2, a3⟩⟩) c3)
    go_enter Tryz.func17, Tryz.ntmps17
    go_wp2_with (go_at_call 24; (with_reducible refine (hM).mono ?_); rintro e w1 ⟨rfl, hb1⟩; obtain ⟨hc1, hf1⟩ := bcell hb1; have hs1 := hb1.size; (try simp at hs1))
    go_ret2
    exact setPost_no hno.out (by repeat (first | exact Below.refl _ _ | assumption | refine b_then ?_ (by assumption) | refine b_alloc ?_ _ | refine b_drewN ?_ _ | refine Below.drew ?_ | refine b_set ?_ (by first | exact Nat.le_refl _ | (simp; done) | (simp; omega) | omega) _))
  | true =>
    rw [c3] at hM
    cases c4 : fone ⟨a0, a1, ⟨a2, a3⟩⟩ with
    | false =>
      have hno : Hid (fset xs ⟨a0, a1, ⟨a2, a3⟩⟩ = none) := by
        unfold Hid fset
        have hfm : fmay (fins xs ⟨a0, a1, ⟨a2, a3⟩⟩) = false := by
          rw [fmay]
          have : (fins xs ⟨a0, a1, ⟨a2, a3⟩⟩).all fone = false := by
            rw [← Bool.not_eq_true, List.all_eq_true]
            intro h
            have := h ⟨a0, a1, ⟨a2, a3⟩⟩ (by unfold fins; simp)
            rw [c4] at this; cases this
          rw [this]; rfl
        rw [hfm, Bool.and_false]; rfl
      go_enter Tryz.func17, Tryz.ntmps17
      go_wp2_with (first | (go_at_call 24; (with_reducible refine (hM).mono ?_); rintro e w1 ⟨rfl, hb1⟩; obtain ⟨hc1, hf1⟩ := bcell hb1; have hs1 := hb1.size; (try simp at hs1)) | (go_at_call 55; (with_reducible refine (p_one a0 a2 a3 a1 w1 (hg.below (b_then hB0 hb1)) (by omega) z2 z3).mono ?_); rw [c4]; rintro e w2 ⟨rfl, hb2⟩))
      go_ret2
      exact setPost_no hno.out (by repeat (first | exact Below.refl _ _ | assumption | refine b_then ?_ (by assumption) | refine b_alloc ?_ _ | refine b_drewN ?_ _ | refine Below.drew ?_ | refine b_set ?_ (by first | exact Nat.le_refl _ | (simp; done) | (simp; omega) | omega) _))
    | true =>
      go_enter Tryz.func17, Tryz.ntmps17
      go_wp2_with (first | (go_at_call 24; (with_reducible refine (hM).mono ?_); rintro e w1 ⟨rfl, hb1⟩; obtain ⟨hc1, hf1⟩ := bcell hb1; have hs1 := hb1.size; (try simp at hs1)) | (go_at_call 55; (with_reducible refine (p_one a0 a2 a3 a1 w1 (hg.below (b_then hB0 hb1)) (by omega) z2 z3).mono ?_); rw [c4]; rintro e w2 ⟨rfl, hb2⟩; obtain ⟨hc2, hf2⟩ := bcell hb2; have hs2 := hb2.size; have hq1 : w.heap.size < w1.heap.size := by omega) | (go_at_call 56; (with_reducible refine (p_find a0 a1 w2 (hx.below (b_then (b_then hB0 hb1) hb2)) (by omega)).mono ?_); rintro e w3 ⟨i, rfl, hi, hb3⟩; revert hi))
      intro hi
      have hB3 : Below w.heap.size w w3 := b_then (b_then (b_then hB0 hb1) hb2) hb3
      have hi' : bsI xs ⟨a0, a1, ⟨a2, a3⟩⟩ i i := hi
      have hft' : fat xs ⟨a0, a1, ⟨a2, a3⟩⟩ i = fat xs ⟨a0, a1, rzero⟩ i := rfl
      have hcut := Lib.hid (fset_cut c3 hi')
      obtain ⟨hc3, hf3⟩ := bcell hb3
      have hq2 : w.heap.size < w2.heap.size := by have := hb2.size; omega
      have hq3 : w.heap.size < w3.heap.size := by have := hb3.size; omega
      have hil := hi.2.1
      cases hft : fat xs ⟨a0, a1, rzero⟩ i with
      | true =>
        have hno : Hid (fset xs ⟨a0, a1, ⟨a2, a3⟩⟩ = none) := by rw [Hid, hcut.out, c4, hft', hft]; rfl
        go_wp2
        go_ret2
        exact setPost_no hno.out hB3
      | false =>
        have hyes : Hid (fset xs ⟨a0, a1, ⟨a2, a3⟩⟩ = some (xs.take i ++ ⟨a0, a1, ⟨a2, a3⟩⟩ :: xs.drop i)) := by rw [Hid, hcut.out, c4, hft', hft]; rfl
        have hb3k : Blk w3 w.heap.size 26 #[.string a0, .int .i64 a1, .string a2, .string a3] := (((Blk.new w 26 _).below hb1).below hb2).below hb3
        have HBd : Below w.heap.size w w3.drew := hB3.drew
        have HBa : Below w.heap.size w (w3.alloc (.cells #[.string a0, .int .i64 a1, .string a2, .string a3] 26)).drew := (b_alloc hB3 _).drew
        have hn' : n ≤ 1000000 := by omega
        have hxn : xs.length ≤ 1000000 := by omega
        have hq5 : w.heap.size ≤ w3.drew.heap.size := Nat.le_of_lt hq3
        have hq6 : w.heap.size < w3.drew.heap.size := hq3
        have hq7 : w.heap.size ≤ (w3.alloc (.cells #[.string a0, .int .i64 a1, .string a2, .string a3] 26)).drew.heap.size := HBa.size
        have hBk : Blk (w3.alloc (.cells #[.string a0, .int .i64 a1, .string a2, .string a3] 26)).drew w3.heap.size 26 (Fx.cs ⟨a0, a1, ⟨a2, a3⟩⟩).toArray := Blk.new w3 _ _
        have hBl : w3.heap.size < (w3.alloc (.cells #[.string a0, .int .i64 a1, .string a2, .string a3] 26)).drew.heap.size := hBk.lt
        go_wp2
        go_region_with (first
          | (go_at_call 58; (with_reducible refine (p_clone w3.drew (hx.below HBd) hn').mono ?_); rintro e w4 ⟨v4, rfl, ho4, hb4⟩; have HB4 := b_then HBd hb4; have ho5 := ho4.lower (b := w.heap.size) hq5; have hq8 : v4.ownBlock ≠ some w4.heap.size := (fun e => Nat.lt_irrefl _ (ho4.lt _ e)); obtain ⟨k40, k41, k42, k43⟩ := Blk.four ((hb3k.drewN 1).below hb4); have hq9 := HB4.size;
             have hB5 : Blk (w4.alloc (.cells #[.string a0, .int .i64 a1, .string a2, .string a3] 26)) w4.heap.size 26 (Fx.cs ⟨a0, a1, ⟨a2, a3⟩⟩).toArray := Blk.new w4 _ _; have HB6 := b_alloc HB4 (.cells #[.string a0, .int .i64 a1, .string a2, .string a3] 26); have ho6 := ho5.alloc (.cells #[.string a0, .int .i64 a1, .string a2, .string a3] 26); have hq10 := HB6.size)
          | (go_at_call 58; (with_reducible refine (p_clone (w3.alloc (.cells #[.string a0, .int .i64 a1, .string a2, .string a3] 26)).drew (hx.below HBa) hn').mono ?_); rintro e w4 ⟨v4, rfl, ho4, hb4⟩; have HB6 := b_then HBa hb4; have ho6 := ho4.lower (b := w.heap.size) hq7; have hq8 : v4.ownBlock ≠ some w3.heap.size := ho4.apart hBl; have hB5 := hBk.below hb4; have hq10 := HB6.size)
          | (go_at_call 57; (with_reducible refine (p_ins _ ho6 hxn hq10 hB5 hq8 hil).mono ?_); rintro e w5 ⟨v5, rfl, ho7, hb7⟩))
        all_goals
          go_wp2
          go_ret2
          exact setPost_yes hyes.out ho7 (Nat.le_refl _) (HB6.trans hb7)
end Go.Proofs.YtpoejheienohjaaGreatDoor
