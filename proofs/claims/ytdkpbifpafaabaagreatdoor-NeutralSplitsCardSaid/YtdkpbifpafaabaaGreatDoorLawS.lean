/- Plain laws of tables: what was fixed stays. -/
import Derived.Test.YtdkpbifpafaabaaGreatDoorLawE
namespace Go.Proofs.YtdkpbifpafaabaaGreatDoor
open Go.RowKit
set_option linter.unusedVariables false
set_option linter.unusedSimpArgs false

theorem fhit_iff {a : ByteArray} {d : Int} {x : Fx} : fhit a d x = true ↔ x.asset = a ∧ x.day = d := by
  rw [fhit_cmp a d x.p, decide_eq_true_eq, fcmp_zero]
theorem rises_of {l : List Fx} (h : fmay l = true) : rises fahead l = true := by rw [fmay, Bool.and_eq_true] at h; exact h.2
theorem rises_head {a : Fx} {l : List Fx} (h : rises fahead (a :: l) = true) : (∀ x ∈ l, fahead a x = true) ∧ rises fahead l = true := by
  constructor
  · intro x hx
    obtain ⟨j, hj, rfl⟩ := List.mem_iff_getElem.1 hx
    exact rises_lt h (i := 0) (j := j + 1) (by omega) rfl (by simp [hj])
  · cases l with
    | nil => rfl
    | cons b l =>
      rw [rises, Bool.and_eq_true] at h
      exact h.2
theorem rises_hit : ∀ {l : List Fx}, rises fahead l = true → ∀ {x y : Fx}, x ∈ l → y ∈ l → x.asset = y.asset → x.day = y.day → x = y
  | [], _, _, _, hx, _, _, _ => by cases hx
  | a :: l, h, x, y, hx, hy, e1, e2 => by
    obtain ⟨h1, h2⟩ := rises_head h
    have no : ∀ z ∈ l, a.asset = z.asset → a.day = z.day → False := fun z hz f1 f2 => by
      have := h1 z hz
      rw [fahead_lt, (fcmp_zero a z).2 ⟨f1, f2⟩] at this
      omega
    rcases List.mem_cons.1 hx with rfl | hx'
    · rcases List.mem_cons.1 hy with rfl | hy'
      · rfl
      · exact (no y hy' e1 e2).elim
    · rcases List.mem_cons.1 hy with rfl | hy'
      · exact (no x hx' e1.symm e2.symm).elim
      · exact rises_hit h2 hx' hy' e1 e2
theorem fget_mem {l : List Fx} (hm : fmay l = true) {x : Fx} (hx : x ∈ l) : fget l x.asset x.day = some x.p := by
  rw [fget, if_pos hm]
  cases hf : l.find? (fhit x.asset x.day) with
  | none => exact absurd (fhit_iff.2 ⟨rfl, rfl⟩) (List.find?_eq_none.1 hf x hx)
  | some y =>
    have h1 := List.find?_some hf
    obtain ⟨e1, e2⟩ := fhit_iff.1 h1
    rw [rises_hit (rises_of hm) (List.mem_of_find?_eq_some hf) hx e1 e2]; rfl
theorem fget_none_of {l : List Fx} (hm : fmay l = true) {a : ByteArray} {d : Int} (h : ∀ x ∈ l, x.asset = a → x.day = d → False) : fget l a d = none := by
  rw [fget, if_pos hm, List.find?_eq_none.2 fun x hx hh => ?_]
  · rfl
  · obtain ⟨e1, e2⟩ := fhit_iff.1 hh
    exact h x hx e1 e2
theorem fget_none_at {l : List Fx} (hm : fmay l = true) {a : ByteArray} {d : Int} (h : fget l a d = none) : ∀ x ∈ l, x.asset = a → x.day = d → False := by
  rintro x hx rfl rfl
  rw [fget_mem hm hx] at h
  cases h
theorem fins_mem_iff {l : List Fx} {f x : Fx} : x ∈ fins l f ↔ x = f ∨ x ∈ l := by
  constructor
  · exact fins_mem
  · intro h
    unfold fins
    have e : l.takeWhile (fahead · f) ++ l.dropWhile (fahead · f) = l := List.takeWhile_append_dropWhile
    rcases h with rfl | h
    · simp
    · rw [← e, List.mem_append] at h
      rw [List.mem_append, List.mem_cons]
      rcases h with h | h
      · exact .inl h
      · exact .inr (.inr h)
theorem fins_len (l : List Fx) (f : Fx) : (fins l f).length = l.length + 1 := by
  have e : (l.takeWhile (fahead · f)).length + (l.dropWhile (fahead · f)).length = l.length := by rw [← List.length_append, List.takeWhile_append_dropWhile]
  unfold fins
  rw [List.length_append, List.length_cons]
  omega
theorem fset_is {l : List Fx} {f : Fx} (hm : fmay l = true) (hf : fone f = true) : (fset l f).isSome = !(fget l f.asset f.day).isSome := by
  obtain ⟨i, hi⟩ := bs_ex (l := l) f
  have hg := fget_cut (a := f.asset) (d := f.day) (p := f.p) hm hi
  rw [fset_cut hm hi, hg, hf, Bool.true_and]
  have e : fat l ⟨f.asset, f.day, f.p⟩ i = fat l f i := rfl
  rw [e]
  cases hft : fat l f i with
  | true =>
    unfold fat at hft
    cases hx : l[i]? with
    | none => rw [hx] at hft; cases hft
    | some b => rfl
  | false => rfl
theorem fset_some {l : List Fx} {f : Fx} (hm : fmay l = true) (hf : fone f = true) (h : fget l f.asset f.day = none) : fset l f = some (fins l f) ∧ fmay (fins l f) = true := by
  have h1 := fset_is hm hf
  rw [h] at h1
  unfold fset at h1 ⊢
  split
  · rename_i hc
    rw [Bool.and_eq_true] at hc
    exact ⟨rfl, hc.2⟩
  · rename_i hc
    rw [if_neg hc] at h1; cases h1
theorem fset_got {l a : List Fx} {f : Fx} (h : fset l f = some a) : a = fins l f ∧ fmay a = true := by
  unfold fset at h
  split at h
  · rename_i hc
    rw [Bool.and_eq_true] at hc
    cases h
    exact ⟨rfl, hc.2⟩
  · cases h
theorem fset_had {l : List Fx} {f : Fx} (hm : fmay l = true) (hf : fone f = true) {p : RT} (h : fget l f.asset f.day = some p) : fset l f = none := by
  have h1 := fset_is hm hf
  rw [h] at h1
  exact Option.isNone_iff_eq_none.1 (by rw [← Option.not_isSome, h1]; rfl)
theorem rises_ext : ∀ {l m : List Fx}, rises fahead l = true → rises fahead m = true → (∀ x, x ∈ l ↔ x ∈ m) → l = m
  | [], [], _, _, _ => rfl
  | [], b :: m, _, _, h => absurd ((h b).2 (by simp)) (by simp)
  | a :: l, [], _, _, h => absurd ((h a).1 (by simp)) (by simp)
  | a :: l, b :: m, hl, hm, h => by
    obtain ⟨h1, h2⟩ := rises_head hl
    obtain ⟨k1, k2⟩ := rises_head hm
    have hab : a = b := by
      rcases List.mem_cons.1 ((h a).1 (by simp)) with e | e
      · exact e
      · rcases List.mem_cons.1 ((h b).2 (by simp)) with e' | e'
        · exact e'.symm
        · have := fahead_trans (h1 b e') (k1 a e)
          rw [fahead_irr] at this; cases this
    subst hab
    refine congrArg _ (rises_ext h2 k2 fun x => ⟨fun hx => ?_, fun hx => ?_⟩)
    · rcases List.mem_cons.1 ((h x).1 (List.mem_cons_of_mem _ hx)) with e | e
      · subst e; have := h1 x hx; rw [fahead_irr] at this; cases this
      · exact e
    · rcases List.mem_cons.1 ((h x).2 (List.mem_cons_of_mem _ hx)) with e | e
      · subst e; have := k1 x hx; rw [fahead_irr] at this; cases this
      · exact e
/-- All that the law asks of a table, a fix that is set in it, and one more. -/
theorem stays {l : List Fx} {f g : Fx} (hm : fmay l = true) (hf : fone f = true) (hg : fone g = true) (h : fget l f.asset f.day = none) :
    fset l f = some (fins l f) ∧ fmay (fins l f) = true ∧ fget (fins l f) f.asset f.day = some f.p ∧ (∀ x ∈ l, fget (fins l f) x.asset x.day = some x.p) ∧ fset (fins l f) f = none := by
  obtain ⟨h1, h2⟩ := fset_some hm hf h
  have hmf : f ∈ fins l f := fins_mem_iff.2 (.inl rfl)
  exact ⟨h1, h2, fget_mem h2 hmf, fun x hx => fget_mem h2 (fins_mem_iff.2 (.inr hx)), fset_had h2 hf (fget_mem h2 hmf)⟩
theorem stays_two {l b : List Fx} {f g : Fx} (hm : fmay l = true) (hf : fone f = true) (hg : fone g = true) (h : fget l f.asset f.day = none) (hb : fset (fins l f) g = some b) :
    fset l g = some (fins l g) ∧ fset (fins l g) f = some b := by
  obtain ⟨h1, h2⟩ := fset_some hm hf h
  have hga : fget (fins l f) g.asset g.day = none := by
    cases hx : fget (fins l f) g.asset g.day with
    | none => rfl
    | some p => rw [fset_had h2 hg hx] at hb; cases hb
  have hga' := fget_none_at h2 hga
  have hgl : fget l g.asset g.day = none := fget_none_of hm fun x hx => hga' x (fins_mem_iff.2 (.inr hx))
  obtain ⟨c1, c2⟩ := fset_some hm hg hgl
  have hfc : fget (fins l g) f.asset f.day = none := fget_none_of c2 fun x hx e1 e2 => by
    rcases fins_mem hx with rfl | hx
    · exact hga' f (fins_mem_iff.2 (.inl rfl)) e1.symm e2.symm
    · exact fget_none_at hm h x hx e1 e2
  obtain ⟨d1, d2⟩ := fset_some c2 hf hfc
  obtain ⟨rfl, hb2⟩ := fset_got hb
  refine ⟨c1, d1.trans (congrArg some (rises_ext (rises_of d2) (rises_of hb2) fun x => ?_))⟩
  rw [fins_mem_iff, fins_mem_iff, fins_mem_iff, fins_mem_iff]
  exact or_left_comm
end Go.Proofs.YtdkpbifpafaabaaGreatDoor
