/- Sizes behind several actions; All of both. -/
import Derived.Test.YtdkpbifpafaabaaGreatDoorNeG
namespace Go.Proofs.YtdkpbifpafaabaaGreatDoor
open Go.RowKit Go.Shelf
set_option linter.unusedVariables false
set_option linter.unusedSimpArgs false
attribute [local go_sem] Oper.semAt_some

/-! ### Sizes -/
theorem pvalU_small {fs : List Fx} {K : Nat} (hf : ∀ f ∈ fs, fxr K f) (d : Int) : ∀ (l : List Pt) (k : Nat) (q : Rat) (v : RT), (∀ x ∈ l, pone x = true ∧ ptq 1000 x) → rsmall k q → pvalU l (enc q) fs d = some v → ∃ r, v = enc r ∧ rsmall (k + l.length * (K + 1001)) r
  | [], k, q, v, _, hq, h => ⟨q, by injection h with h; exact h.symm, by simpa using hq⟩
  | x :: l, k, q, v, hl, hq, h => by
    obtain ⟨x0, x1, x2⟩ := x
    have hx := hl ⟨x0, ⟨x1, x2⟩⟩ (by simp)
    obtain ⟨r, hr, hrs⟩ := pone_enc hx.1 hx.2.2.1 hx.2.2.2
    unfold pvalU at h
    rw [List.foldl_cons] at h
    cases hg : fget fs x0 d with
    | none =>
      have : pstep fs d (some (enc q)) ⟨x0, ⟨x1, x2⟩⟩ = none := by unfold pstep; rw [Option.bind_some, hg]; rfl
      rw [this, pvalU_none] at h
      cases h
    | some p =>
      obtain ⟨p, rfl, hp⟩ := fget_enc hf hg
      have : pstep fs d (some (enc q)) ⟨x0, ⟨x1, x2⟩⟩ = some (enc (q + r * p)) := by
        unfold pstep; rw [Option.bind_some, hg]
        show some (radd (enc q) (rmul ⟨x1, x2⟩ (enc p))) = _
        rw [hr, rmul_enc, radd_enc]
      rw [this] at h
      obtain ⟨v', e, hv⟩ := pvalU_small hf d l (k + (1000 + K) + 1) (q + r * p) v (fun y hy => hl y (by simp [hy])) (rsmall_add hq (rsmall_mul hrs hp)) h
      refine ⟨v', e, rsmall_mono hv ?_⟩
      rw [List.length_cons, Nat.succ_mul]; omega
theorem enc_size {q : Rat} {k : Nat} (h : rsmall k q) : (enc q).num.size ≤ k + 1 ∧ (enc q).den.size ≤ k + 1 := by
  refine ⟨?_, ?_⟩
  · show (iS q.num).size ≤ _
    have := iS_sz h.1; omega
  · show (nS q.den).size ≤ _
    rw [nS_size]; have := h.2; omega
theorem nworth_small {a : Ac} {xs : List Fx} {K : Nat} (hm : amay a = true) (hz : ∀ f ∈ xs, fxr K f) {d : Int} {v : RT} (h : nworth a xs d = some v) : v.num.size ≤ K + K + 2100 ∧ v.den.size ≤ K + K + 2100 := by
  unfold nworth pval at h
  split at h
  next hc =>
    have hl := pof_len hm
    have hl2 : (pofL a).length ≤ 2 := by split at hl <;> omega
    rw [pofC_yes hm] at h
    have o := amay_of hm
    obtain ⟨c, hcc⟩ := rmay_of o.rmayC
    rw [hcc] at h
    have hcs : rsmall 20 c := rsmall_of (by rw [← hcc]; exact o.cash20.1) (by rw [← hcc]; exact o.cash20.2)
    obtain ⟨r, e, hr⟩ := pvalU_small hz d _ 20 c v (fun x hx => ⟨pofL_pone hm x hx, npof_ptq hm x hx⟩) hcs h
    rw [e]
    have h2 : 20 + (pofL a).length * (K + 1001) ≤ 20 + 2 * (K + 1001) := Nat.add_le_add_left (Nat.mul_le_mul_right _ hl2) _
    obtain ⟨e1, e2⟩ := enc_size (rsmall_mono hr h2)
    omega
  next => cases h
theorem nmid_fxr {a : Ac} {xs : List Fx} {K : Nat} (hm : amay a = true) (hf : fmay xs = true) (hz : ∀ f ∈ xs, fxr K f) (k : Nat) : ∀ f ∈ nmid a xs k, fxr (K + K + 2100) f := by
  intro x hx
  have hk : ∀ k, k ≤ xs.length → ∀ f ∈ nmid a xs k, fxr (K + K + 2100) f := by
    intro k hk x hx
    rcases ((nmid_all hm hf k hk).2.1 x).1 hx with ⟨h1, _⟩ | ⟨h1, f, hfm, h2, h3, h4⟩
    · obtain ⟨z1, z2, z3⟩ := hz x h1
      exact ⟨z1, by omega, by omega⟩
    · obtain ⟨z1, z2⟩ := nworth_small hm hz h4
      refine ⟨?_, z1, z2⟩
      rw [h1]
      have := (isName_size (aasset_of (amay_of hm).asset).1).2
      omega
  by_cases h : k ≤ xs.length
  · exact hk k h x hx
  · have e : nmid a xs k = nmid a xs xs.length := by unfold nmid; rw [List.take_of_length_le (by omega), List.take_of_length_le (Nat.le_refl _)]
    rw [e] at hx
    exact hk _ (Nat.le_refl _) x hx
theorem nfix_fxr {a : Ac} {xs : List Fx} {K : Nat} (hm : amay a = true) (hf : fmay xs = true) (hz : ∀ f ∈ xs, fxr K f) : ∀ f ∈ nfix a xs, fxr (K + K + 2100) f := nmid_fxr hm hf hz _
theorem fxr_mono {f : Fx} {j k : Nat} (h : fxr j f) (hk : j ≤ k) : fxr k f := ⟨h.1, Nat.le_trans h.2.1 hk, Nat.le_trans h.2.2 hk⟩
/-- A table that may be, small behind so many actions. -/
structure NSz (j : Nat) (xs : List Fx) : Prop where
  may : fmay xs = true
  len : xs.length ≤ 60 * 2 ^ j
  dig : ∀ f ∈ xs, fxr (2200 * 2 ^ j - 2100) f
theorem NSz.next {j : Nat} {xs : List Fx} {a : Ac} (h : NSz j xs) (hm : amay a = true) : NSz (j + 1) (nfix a xs) := by
  have hp : 1 ≤ 2 ^ j := Nat.one_le_two_pow
  refine ⟨nfix_may hm h.may, ?_, fun f hf => fxr_mono (nfix_fxr hm h.may h.dig f hf) ?_⟩
  · have := nfix_len hm h.may
    have := h.len
    rw [Nat.pow_succ]; omega
  · rw [Nat.pow_succ]; omega
theorem NSz.ok {j : Nat} {xs : List Fx} (h : NSz j xs) (hj : j ≤ 5) : xs.length ≤ 400000 ∧ ∀ f ∈ xs, fxr 1000000 f := by
  have h1 : 2 ^ j ≤ 2 ^ 5 := Nat.pow_le_pow_right (by omega) hj
  have := h.len
  exact ⟨by omega, fun f hf => fxr_mono (h.dig f hf) (by omega)⟩
theorem NSz.of {xs : List Fx} (h1 : fmay xs = true) (h2 : xs.length ≤ 60) (h3 : ∀ f ∈ xs, fxr 40 f) : NSz 0 xs := ⟨h1, by simpa using h2, fun f hf => fxr_mono (h3 f hf) (by omega)⟩
theorem nfold_sz {xs : List Fx} (h : NSz 0 xs) : ∀ l : List Ac, l.all amay = true → NSz l.length (nfold xs l)
  | [], _ => h
  | a :: l, hl => by
    rw [List.all_cons, Bool.and_eq_true] at hl
    exact (nfold_sz h l hl.2).next hl.1
theorem nall_no1 {l : List Ac} {xs : List Fx} (h : fmay xs = false) : nall xs l = [] := by unfold nall; rw [h]; rfl
theorem nall_no2 {l : List Ac} {xs : List Fx} (h : l.all amay = false) : nall xs l = [] := by unfold nall; rw [h, Bool.and_false]; rfl
theorem nall_yes {l : List Ac} {xs : List Fx} (h : fmay xs = true) (h2 : l.all amay = true) : nall xs l = nfold xs l := by unfold nall; rw [h, h2]; rfl
/-- So many actions done, from the last one on. -/
def nrun (xs : List Fx) (l : List Ac) (pre : List (Fin l.length)) : List Fx := pre.foldl (fun ys i => nfix l[i.1] ys) xs
theorem nrun_snoc (xs : List Fx) (l : List Ac) (pre : List (Fin l.length)) (i : Fin l.length) : nrun xs l (pre ++ [i]) = nfix l[i.1] (nrun xs l pre) := by unfold nrun; rw [List.foldl_append]; rfl
theorem nrun_sz {xs : List Fx} {l : List Ac} (h : NSz 0 xs) (hl : l.all amay = true) : ∀ pre : List (Fin l.length), NSz pre.length (nrun xs l pre) := by
  intro pre
  have key : ∀ (pre : List (Fin l.length)) (j : Nat) (ys : List Fx), NSz j ys → NSz (j + pre.length) (pre.foldl (fun ys i => nfix l[i.1] ys) ys) := by
    intro pre
    induction pre with
    | nil => intro j ys h; exact h
    | cons i pre ih =>
      intro j ys h
      have := ih (j + 1) (nfix l[i.1] ys) (h.next (List.all_eq_true.1 hl _ (List.getElem_mem i.2)))
      rw [List.length_cons, show j + (pre.length + 1) = j + 1 + pre.length by omega]
      exact this
  have := key pre 0 xs h
  rwa [Nat.zero_add] at this
theorem nrun_all (xs : List Fx) (l : List Ac) : nrun xs l (List.finRange l.length).reverse = nfold xs l := by
  unfold nrun nfold
  rw [List.foldl_reverse]
  have e : l = (List.finRange l.length).map (fun i => l[i.1]) := by
    apply List.ext_getElem
    · simp
    · intro i h1 h2; simp
  conv => rhs; rw [e]
  rw [List.foldr_map]
end Go.Proofs.YtdkpbifpafaabaaGreatDoor
