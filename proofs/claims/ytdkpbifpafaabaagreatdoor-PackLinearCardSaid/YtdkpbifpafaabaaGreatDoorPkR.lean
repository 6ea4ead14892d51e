/- The references' Light of packs; a part of a slice. -/
import Derived.Test.YtdkpbifpafaabaaGreatDoorPkV
namespace Go.Proofs.YtdkpbifpafaabaaGreatDoor
open Go.RowKit
set_option linter.unusedVariables false
set_option linter.unusedSimpArgs false

theorem ptsm_of {x : Pt} (h : ptsm x = true) : x.ratio.num.size ≤ 20 ∧ x.ratio.den.size ≤ 20 ∧ x.asset.size ≤ 100 := by
  unfold ptsm at h
  simp only [Bool.and_eq_true, decide_eq_true_eq] at h
  exact ⟨h.1, h.2.1, h.2.2⟩
theorem ptsm_mk {x : Pt} (h : x.ratio.num.size ≤ 20 ∧ x.ratio.den.size ≤ 20 ∧ x.asset.size ≤ 100) : ptsm x = true := by
  unfold ptsm
  simp [h.1, h.2.1, h.2.2]
theorem ptsm_no {x : Pt} (h : ¬ (x.ratio.num.size ≤ 20 ∧ x.ratio.den.size ≤ 20 ∧ x.asset.size ≤ 100)) : ptsm x = false := by
  cases c : ptsm x with
  | false => rfl
  | true => exact absurd (ptsm_of c) h
theorem pksm_of {l : List Pt} {c : RT} (h : pksm l c = true) : (∀ x ∈ l, ptq 20 x) ∧ l.length ≤ 4 ∧ c.num.size ≤ 20 ∧ c.den.size ≤ 20 := by
  unfold pksm at h
  simp only [Bool.and_eq_true, List.all_eq_true, decide_eq_true_eq] at h
  exact ⟨fun x hx => let ⟨h1, h2, h3⟩ := ptsm_of (h.1 x hx); ⟨by omega, h1, h2⟩, h.2.1, h.2.2.1, h.2.2.2⟩
set_option maxHeartbeats 2000000 in
theorem r16_light {A : Option Addr} {n c : Nat} {xs : List Pt} (c0 c1 : ByteArray) (w : World) (hx : Rd Pt.cs 3 w A n xs) (hz : ∀ x ∈ xs, x.asset.size ≤ 9223372036854775807 ∧ x.ratio.num.size ≤ 9223372036854775807 ∧ x.ratio.den.size ≤ 9223372036854775807) (hc0 : c0.size ≤ 9223372036854775807) (hc1 : c1.size ≤ 9223372036854775807) :
    Calls Tryz.prog 14 #[.agg #[.slice A n c, .string c0, .string c1]] w fun e w' => e = .returned (.bool (pksm xs ⟨c0, c1⟩)) ∧ Below w.heap.size w w' := by
  have hbig := hx.big
  have hB0 : Below w.heap.size w (WPk w A n c c0 c1) := b_alloc (Below.refl _ _) _
  have pb : Blk (WPk w A n c c0 c1) w.heap.size 28 #[.slice A n c, .string c0, .string c1] := Blk.new w _ _
  have PB := Lib.hid pb
  clear pb
  go_enter Tryz.func14, Tryz.ntmps14
  go_wp2
  go_loopw [3] (fun i wr => ∃ k : Nat, k ≤ n ∧ i = .int .i64 k ∧ Hid ((xs.take k).all ptsm = true) ∧ Below (WPk w A n c c0 c1).heap.size (WPk w A n c c0 c1) wr) (fun i _ => n - (intOf i).toNat)
  case atStart => exact ⟨0, Nat.zero_le _, rfl, by simp [Hid], Below.refl _ _⟩
  case round =>
    obtain ⟨k, hk, rfl, H, hB⟩ := hrel
    have hBw : Below w.heap.size w wr := b_then hB0 hB
    have pr := PB.out.below hB
    have hsl : w.heap.size < wr.heap.size := pr.lt
    have q0 := pr.cell 0
    have q1 := pr.cell 1
    have q2 := pr.cell 2
    simp at q0 q1 q2
    by_cases hlt : k < n
    · obtain ⟨ad, a0, a1, a2, rfl, hxk, hl⟩ := pt_in hx hBw hlt
      obtain ⟨z1, z2, z3⟩ := hz _ (List.mem_of_getElem? hxk)
      dsimp only at z1 z2 z3
      have HX := Lib.hid hxk
      obtain ⟨hx0, hx1, hx2, hx2'⟩ := hl wr (Below.refl _ _)
      clear hxk hl
      by_cases hp : a1.size ≤ 20 ∧ a2.size ≤ 20 ∧ a0.size ≤ 100
      · obtain ⟨p1, p2, p3⟩ := hp
        have e1 : ¬ (20 : Int) < (a1.size : Int) := by omega
        have e2 : ¬ (20 : Int) < (a2.size : Int) := by omega
        have e3 : ¬ (100 : Int) < (a0.size : Int) := by omega
        have H2 : Hid ((xs.take (k + 1)).all ptsm = true) := all_take_succ H.out HX.out (ptsm_mk ⟨p1, p2, p3⟩)
        go_wp2
        go_roundw
        case rel => exact ⟨k + 1, by omega, by go_num, H2, hB.trans ((b_alloc (Below.refl _ wr) _).mono hB.size)⟩
        case measure => simp [intOf]; omega
      · have H2 : Hid (pksm xs ⟨c0, c1⟩ = false) := by unfold Hid pksm; rw [all_no HX.out (ptsm_no hp)]; rfl
        have HP := Lib.hid hp
        clear hp
        go_wp2
        all_goals first
          | (go_ret; exact ⟨ret_bool H2.out.symm, (by repeat (first | exact Below.refl _ _ | assumption | refine b_then ?_ (by assumption) | refine b_alloc ?_ _ | refine b_drewN ?_ _ | refine Below.drew ?_ | refine b_set ?_ (by first | exact Nat.le_refl _ | (simp; done) | (simp; omega) | omega) _))⟩)
          | (exfalso; exact HP.out ⟨by omega, by omega, by omega⟩)
    · obtain rfl : k = n := by omega
      have H2 := H.out
      rw [← hx.len, List.take_length] at H2
      have H3 : Hid (pksm xs ⟨c0, c1⟩ = (decide (k ≤ 4) && (decide (c0.size ≤ 20) && decide (c1.size ≤ 20)))) := by unfold Hid pksm; rw [H2, hx.len]; rfl
      clear H2
      go_wp2
      all_goals
        go_ret
        exact ⟨ret_bool (by rw [H3.out]; grind), (by repeat (first | exact Below.refl _ _ | assumption | refine b_then ?_ (by assumption) | refine b_alloc ?_ _ | refine b_drewN ?_ _ | refine Below.drew ?_ | refine b_set ?_ (by first | exact Nat.le_refl _ | (simp; done) | (simp; omega) | omega) _))⟩
/-- One of a slice. -/
theorem Rd.sub {α : Type} {e : α → List Value} {z : Nat} {w : World} {ad : Addr} {n : Nat} {l : List α} (h : Rd e z w (some ad) n l) {k : Nat} {x : α} (hk : k < n) (hx : l[k]? = some x) : Rd e z w (some (ad.add (k * z))) 1 [x] := by
  obtain ⟨h1, h2, h3⟩ := h
  obtain ⟨ad', e1, e2, e3⟩ := h3 (by omega)
  obtain rfl : ad = ad' := Option.some.inj e1
  refine ⟨rfl, by omega, fun _ => ⟨_, rfl, by rw [add_block]; exact e2, fun j y hj i u hu => ?_⟩⟩
  obtain ⟨rfl, rfl⟩ : j = 0 ∧ x = y := by
    cases j with
    | zero => exact ⟨rfl, by simpa using hj⟩
    | succ j => simp at hj
  rw [add_add, Nat.zero_mul, Nat.zero_add]
  exact e3 k x hx i u hu
end Go.Proofs.YtdkpbifpafaabaaGreatDoor
