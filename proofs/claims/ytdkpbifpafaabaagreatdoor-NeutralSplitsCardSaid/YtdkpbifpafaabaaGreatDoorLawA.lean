/- The law's fixed calls: what they come to, and the walk. -/
import Derived.Test.YtdkpbifpafaabaaGreatDoorFixC
namespace Go.Proofs.YtdkpbifpafaabaaGreatDoor
open Go.RowKit
set_option linter.unusedVariables false
set_option linter.unusedSimpArgs false

theorem fcmp_same (s : ByteArray) (d e : Int) (p q : RT) : fcmp ⟨s, d, p⟩ ⟨s, e, q⟩ = Lib.compareInt d e := by
  unfold fcmp or2
  rw [if_pos ((cmpB_spec _ _).2.2 rfl)]
theorem cmpI_lt {d e : Int} (h : d < e) : Lib.compareInt d e < 0 := by unfold Lib.compareInt; rw [if_pos h]; omega
theorem cmpI_ge {d e : Int} (h : e ≤ d) : 0 ≤ Lib.compareInt d e := by unfold Lib.compareInt; rw [if_neg (by omega)]; split <;> omega
theorem cmpI_eq {d e : Int} : Lib.compareInt d e = 0 ↔ d = e := by unfold Lib.compareInt; split <;> (try split) <;> omega
def xS : ByteArray := ⟨#[120]⟩
def fxI (d z : Int) : Fx := ⟨xS, d, ⟨iS z, nS 1⟩⟩
theorem fone_I {d : Int} (z : Int) (h0 : 0 ≤ d) (h1 : d ≤ 9999) : fone (fxI d z) = true := by
  unfold fone fxI
  have h : rmay ⟨iS z, nS 1⟩ = true := rmay_enc ((z : Int) : Rat)
  rw [h, show isName xS = true by decide]
  simp [h0, h1]
theorem fx_set1 : fset [] (fxI 3 7) = some [fxI 3 7] := by
  have := fset_cut (l := []) (f := fxI 3 7) (i := 0) rfl (bsI_start [] _)
  rw [fone_I 7 (by decide) (by decide)] at this
  exact this
theorem fx_may1 : fmay [fxI 3 7] = true := by rw [fmay]; simp [fone_I 7 (show (0 : Int) ≤ 3 by decide) (by decide), rises]
theorem one_at {a b : Fx} {i : Nat} (h : [a][i]? = some b) : i = 0 ∧ a = b := by
  cases i with
  | zero => exact ⟨rfl, by simpa using h⟩
  | succ i => simp at h
theorem fx_set2 : fset [fxI 3 7] (fxI 3 8) = none := by
  have hb : bsI [fxI 3 7] (fxI 3 8) 0 0 := ⟨Nat.le_refl _, by simp, fun _ h => absurd h (by omega), fun a h => by
    obtain ⟨_, rfl⟩ := one_at h
    unfold fxI; rw [fcmp_same]; exact cmpI_ge (by omega)⟩
  rw [fset_cut fx_may1 hb]
  have : fat [fxI 3 7] (fxI 3 8) 0 = true := by
    show decide (fcmp (fxI 3 7) (fxI 3 8) = 0) = true
    unfold fxI; rw [fcmp_same]; exact decide_eq_true (cmpI_eq.2 rfl)
  rw [this]; simp
theorem fx_set3 : fset [fxI 3 7] (fxI 1 (-5)) = some [fxI 1 (-5), fxI 3 7] := by
  have hb : bsI [fxI 3 7] (fxI 1 (-5)) 0 0 := ⟨Nat.le_refl _, by simp, fun _ h => absurd h (by omega), fun a h => by
    obtain ⟨_, rfl⟩ := one_at h
    unfold fxI; rw [fcmp_same]; exact cmpI_ge (by omega)⟩
  rw [fset_cut fx_may1 hb, fone_I (-5) (by decide) (by decide)]
  have : fat [fxI 3 7] (fxI 1 (-5)) 0 = false := by
    show decide (fcmp (fxI 3 7) (fxI 1 (-5)) = 0) = false
    unfold fxI; rw [fcmp_same]; exact decide_eq_false (fun h => by have := cmpI_eq.1 h; omega)
  rw [this]; rfl
def fxM : List Fx := [fxI 1 (-5), fxI 3 7]
theorem fx_mayM : fmay fxM = true := by
  rw [fmay, fxM]
  have h : fahead (fxI 1 (-5)) (fxI 3 7) = true := by rw [fahead_lt]; unfold fxI; rw [fcmp_same]; exact cmpI_lt (by omega)
  simp [fone_I 7 (show (0 : Int) ≤ 3 by decide) (by decide), fone_I (-5) (show (0 : Int) ≤ 1 by decide) (by decide), rises, h]
theorem bs_M {d : Int} {p : RT} {i : Nat} (hi : i ≤ 2) (h0 : 0 < i → 1 < d) (h0' : i = 0 → d ≤ 1) (h1 : i = 2 → 3 < d) (h2 : i = 1 → d ≤ 3) : bsI fxM ⟨xS, d, p⟩ i i := by
  match i, hi with
  | 0, _ => exact ⟨Nat.le_refl _, by decide, fun _ h => absurd h (by omega), fun a h => by
      have : fxI 1 (-5) = a := by simpa [fxM] using h
      subst this; unfold fxI; rw [fcmp_same]; exact cmpI_ge (h0' rfl)⟩
  | 1, _ => exact ⟨Nat.le_refl _, by decide, fun a _ h => by
      have : fxI 1 (-5) = a := by simpa [fxM] using h
      subst this; unfold fxI; rw [fcmp_same]; exact cmpI_lt (h0 (by omega)), fun a h => by
      have : fxI 3 7 = a := by simpa [fxM] using h
      subst this; unfold fxI; rw [fcmp_same]; exact cmpI_ge (h2 rfl)⟩
  | 2, _ => exact ⟨Nat.le_refl _, by decide, fun a _ h => by
      have : fxI 3 7 = a := by simpa [fxM] using h
      subst this; unfold fxI; rw [fcmp_same]; exact cmpI_lt (h1 rfl), fun a h => by simp [fxM] at h⟩
theorem fx_get3 : fget fxM xS 3 = some ⟨iS 7, nS 1⟩ := by
  rw [fget_cut (p := rzero) fx_mayM (bs_M (i := 1) (by omega) (by omega) (by omega) (by omega) (by omega))]
  have : fat fxM ⟨xS, 3, rzero⟩ 1 = true := by
    show decide (fcmp (fxI 3 7) ⟨xS, 3, rzero⟩ = 0) = true
    unfold fxI; rw [fcmp_same]; exact decide_eq_true (cmpI_eq.2 rfl)
  rw [this]; rfl
theorem fx_get2 : fget fxM xS 2 = none := by
  rw [fget_cut (p := rzero) fx_mayM (bs_M (i := 1) (by omega) (by omega) (by omega) (by omega) (by omega))]
  have : fat fxM ⟨xS, 2, rzero⟩ 1 = false := by
    show decide (fcmp (fxI 3 7) ⟨xS, 2, rzero⟩ = 0) = false
    unfold fxI; rw [fcmp_same]; exact decide_eq_false (fun h => by have := cmpI_eq.1 h; omega)
  rw [this]; rfl
theorem fx_last2 : flast fxM xS 2 = some ⟨iS (-5), nS 1⟩ := by
  have hf : fat fxM ⟨xS, 2, rzero⟩ 1 = false := by
    show decide (fcmp (fxI 3 7) ⟨xS, 2, rzero⟩ = 0) = false
    unfold fxI; rw [fcmp_same]; exact decide_eq_false (fun h => by have := cmpI_eq.1 h; omega)
  exact (flast_cut (p := rzero) fx_mayM (bs_M (i := 1) (by omega) (by omega) (by omega) (by omega) (by omega))).2.2.1 hf (fxI 1 (-5)) (by omega) rfl rfl
theorem fx_last0 : flast fxM xS 0 = none := by
  have hf : fat fxM ⟨xS, 0, rzero⟩ 0 = false := by
    show decide (fcmp (fxI 1 (-5)) ⟨xS, 0, rzero⟩ = 0) = false
    unfold fxI; rw [fcmp_same]; exact decide_eq_false (fun h => by have := cmpI_eq.1 h; omega)
  exact (flast_cut (p := rzero) fx_mayM (bs_M (i := 0) (by omega) (by omega) (by omega) (by omega) (by omega))).2.1 hf rfl
theorem fx_empty : fmay [⟨⟨#[]⟩, 0, rzero⟩] = false := by
  rw [fmay, List.all_cons]
  have : fone ⟨⟨#[]⟩, 0, rzero⟩ = false := by unfold fone; rw [show isName ⟨#[]⟩ = false by decide]; rfl
  rw [this]; rfl
/-! ### Set, in the law's words -/
theorem c_ofI (z : Int) (w : World) (h1 : -9223372036854775808 ≤ z) (h2 : z ≤ 9223372036854775807) :
    Calls Tryz.prog 28 #[.int .i64 z] w fun e w' => e = .returned (.agg #[.string (iS z), .string (nS 1)]) ∧ Below w.heap.size w w' := r3_of z w h1 h2
theorem fxq_I {d z : Int} (h1 : -9223372036854775808 ≤ z) (h2 : z ≤ 9223372036854775807) : fxq (fxI d z) := by
  refine ⟨by show xS.size ≤ _; decide, ?_, by show (nS 1).size ≤ _; rw [nS_size, ndg_small (by omega)]; omega⟩
  show (iS z).size ≤ 890000000
  rw [iS_size]
  have := ndg_i64 (n := z.natAbs) (by omega)
  split <;> omega
end Go.Proofs.YtdkpbifpafaabaaGreatDoor
