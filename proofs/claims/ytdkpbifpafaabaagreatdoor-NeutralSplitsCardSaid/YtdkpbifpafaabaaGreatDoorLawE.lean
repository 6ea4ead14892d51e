/- FixingLast: plain law and walk (given the fixed calls). -/
import Derived.Test.YtdkpbifpafaabaaGreatDoorLawD
namespace Go.Proofs.YtdkpbifpafaabaaGreatDoor
open Go.RowKit
set_option linter.unusedVariables false
set_option linter.unusedSimpArgs false

theorem takeW_all {α : Type} (p : α → Bool) : ∀ (l : List α) (x : α), x ∈ l.takeWhile p → p x = true
  | [], _, h => by simp at h
  | a :: l, x, h => by
    rw [List.takeWhile_cons] at h
    cases hp : p a with
    | true =>
      rw [hp] at h
      rcases List.mem_cons.1 (by simpa using h) with rfl | h
      · exact hp
      · exact takeW_all p l x h
    | false => rw [hp] at h; simp at h
theorem bs_ex {l : List Fx} (t : Fx) : ∃ i, bsI l t i i := by
  have h1 := takeW_all (fahead · t) l
  have h2 := dropW_head (fahead · t) l
  have e : l.takeWhile (fahead · t) ++ l.dropWhile (fahead · t) = l := List.takeWhile_append_dropWhile
  obtain ⟨T, hT⟩ : ∃ T, l.takeWhile (fahead · t) = T := ⟨_, rfl⟩
  obtain ⟨D, hD⟩ : ∃ D, l.dropWhile (fahead · t) = D := ⟨_, rfl⟩
  rw [hT] at h1 e
  rw [hD] at h2 e
  subst e
  refine ⟨T.length, Nat.le_refl _, by simp, fun a h0 ha => ?_, fun a ha => ?_⟩
  · rw [List.getElem?_append_left (by omega)] at ha
    exact (fahead_lt _ _).1 (h1 a (List.mem_of_getElem? ha))
  · rw [List.getElem?_append_right (Nat.le_refl _), Nat.sub_self] at ha
    cases D with
    | nil => simp at ha
    | cons b r =>
      have h3 := h2 b r rfl
      have : b = a := by simpa using ha
      subst this
      exact ahead_no h3
theorem last_get {l : List Fx} {a : ByteArray} {d : Int} (hm : fmay l = true) {p : RT} (h : fget l a d = some p) : flast l a d = some p := by
  obtain ⟨i, hi⟩ := bs_ex (l := l) ⟨a, d, rzero⟩
  have h1 := fget_cut hm hi
  rw [h] at h1
  have hf : fat l ⟨a, d, rzero⟩ i = true := by
    cases hf : fat l ⟨a, d, rzero⟩ i with
    | true => rfl
    | false => rw [hf] at h1; cases h1
  rw [hf, if_pos rfl] at h1
  rw [(flast_cut hm hi).1 hf, ← h1]
theorem last_none {l : List Fx} {a : ByteArray} {d : Int} (hm : fmay l = true) (h : fget l a d = none) : flast l a d = flast l a (d - 1) := by
  rw [fget, if_pos hm, Option.map_eq_none_iff, List.find?_eq_none] at h
  rw [flast, if_pos hm, flast, if_pos hm]
  congr 2
  apply List.filter_congr
  intro f hf
  have h1 := h f hf
  rw [Bool.eq_iff_iff, fupto_iff, fupto_iff]
  constructor
  · rintro ⟨h2, h3⟩
    refine ⟨h2, ?_⟩
    have : ¬ f.day = d := fun e => h1 (by unfold fhit; rw [h2, e]; simp)
    omega
  · rintro ⟨h2, h3⟩; exact ⟨h2, by omega⟩
theorem last_neg {l : List Fx} {a : ByteArray} {d : Int} (hm : fmay l = true) (h : d < 0) : flast l a d = none := by
  have h2 : l.all fone = true := by rw [fmay, Bool.and_eq_true] at hm; exact hm.1
  rw [flast, if_pos hm, filter_none fun j b hb => ?_]
  · rfl
  · refine fupto_no fun ⟨_, h3⟩ => ?_
    have := List.all_eq_true.1 h2 b (List.mem_of_getElem? hb)
    unfold fone at this
    simp only [Bool.and_eq_true, decide_eq_true_eq] at this
    omega
theorem opt_of {o : Option RT} (h : o = none) : optR o = .tuple #[.agg #[.string ⟨#[]⟩, .string ⟨#[]⟩], .bool false] := by rw [h]; rfl
end Go.Proofs.YtdkpbifpafaabaaGreatDoor
