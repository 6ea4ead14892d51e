/- Neutral prices: plain words and laws. -/
import Derived.Test.YtdkpbifpafaabaaGreatDoorNeC
namespace Go.Proofs.YtdkpbifpafaabaaGreatDoor
open Go.RowKit
set_option linter.unusedVariables false
set_option linter.unusedSimpArgs false

/-- The asset of an action's first part. -/
def npart (a : Ac) : ByteArray := match pofL a with | p :: _ => p.asset | [] => ⟨#[]⟩
def nhit (a : Ac) (f : Fx) : Bool := f.asset.toList == (npart a).toList && decide (a.ex ≤ f.day)
def nworth (a : Ac) (xs : List Fx) (d : Int) : Option RT := pval (pofL a) (pofC a) xs d
def nput (a : Ac) (out : List Fx) (d : Int) (o : Option RT) : List Fx := match o with | some v => fins out ⟨a.asset, d, v⟩ | none => out
def nstep (a : Ac) (xs out : List Fx) (f : Fx) : List Fx := if nhit a f then nput a out f.day (nworth a xs f.day) else out
def nmid (a : Ac) (xs : List Fx) (k : Nat) : List Fx := (xs.take k).foldl (nstep a xs) (xs.filter (nkeep a.asset a.ex))
def nfix (a : Ac) (xs : List Fx) : List Fx := nmid a xs xs.length
def nout (a : Ac) (xs : List Fx) : List Fx := if fmay xs && amay a then nfix a xs else []
/-- By several actions, from the last one to the first one. -/
def nfold (xs : List Fx) (l : List Ac) : List Fx := l.foldr nfix xs
def nall (xs : List Fx) (l : List Ac) : List Fx := if fmay xs && l.all amay then nfold xs l else []
theorem nmid_succ {a : Ac} {xs : List Fx} {k : Nat} {f : Fx} (h : xs[k]? = some f) : nmid a xs (k + 1) = nstep a xs (nmid a xs k) f := by
  unfold nmid
  rw [List.take_add_one, h, List.foldl_append]; rfl
theorem nmid_zero (a : Ac) (xs : List Fx) : nmid a xs 0 = xs.filter (nkeep a.asset a.ex) := rfl
theorem nkeep_iff {s : ByteArray} {ex : Int} {f : Fx} : nkeep s ex f = true ↔ (f.asset = s → f.day < ex) := by
  unfold nkeep ndel
  rw [Bool.not_eq_true', Bool.and_eq_false_iff, beq_eq_false_iff_ne, decide_eq_false_iff_not, s_eq]
  constructor
  · rintro (h | h) e
    · exact absurd (by rw [e]) h
    · omega
  · intro h
    by_cases e : f.asset.toList = s.toList
    · exact .inr (by have := h e; omega)
    · exact .inl e
theorem nhit_iff {a : Ac} {f : Fx} : nhit a f = true ↔ f.asset = npart a ∧ a.ex ≤ f.day := by
  unfold nhit
  rw [Bool.and_eq_true, beq_iff_eq, decide_eq_true_eq, s_eq]
theorem frises_pw : ∀ {l : List Fx}, rises fahead l = true → l.Pairwise fun a b => fahead a b = true
  | [], _ => .nil
  | a :: l, h => .cons (rises_head h).1 (frises_pw (rises_head h).2)
theorem fpw_rises : ∀ {l : List Fx}, (l.Pairwise fun a b => fahead a b = true) → rises fahead l = true
  | [], _ => rfl
  | [a], _ => rfl
  | a :: b :: l, h => by
    rw [List.pairwise_cons] at h
    show (fahead a b && rises fahead (b :: l)) = true
    rw [fpw_rises h.2, h.1 b (by simp)]; rfl
theorem fmay_filter {l : List Fx} (h : fmay l = true) (p : Fx → Bool) : fmay (l.filter p) = true := by
  rw [fmay, Bool.and_eq_true, List.all_eq_true] at h ⊢
  exact ⟨fun x hx => h.1 x (List.mem_filter.1 hx).1, fpw_rises ((frises_pw h.2).filter _)⟩
theorem fmay_one {l : List Fx} (h : fmay l = true) {f : Fx} (hf : f ∈ l) : isName f.asset = true ∧ 0 ≤ f.day ∧ f.day ≤ 9999 ∧ rmay f.p = true := by
  rw [fmay, Bool.and_eq_true, List.all_eq_true] at h
  have := h.1 f hf
  unfold fone at this
  simpa using this
theorem pval_may {l : List Pt} {c : RT} {fs : List Fx} {d : Int} {v : RT} (h : pval l c fs d = some v) : rmay v = true := by
  unfold pval at h
  split at h
  next hm =>
    rw [Bool.and_eq_true] at hm
    obtain ⟨h1, _, h3⟩ := pkmay_of hm.1
    rw [pvalU_eq] at h
    split at h
    · injection h with h
      rw [← h]
      clear h
      have : ∀ (m : List Pt) (s : RT), (∀ x ∈ m, rmay x.ratio = true) → rmay s = true → rmay (psum fs d m s) = true := by
        intro m
        induction m with
        | nil => intro s _ hs; exact hs
        | cons x m ih =>
          intro s hm hs
          unfold psum
          rw [List.foldl_cons]
          refine ih _ (fun y hy => hm y (by simp [hy])) ?_
          cases hg : fget fs x.asset d with
          | none => exact hs
          | some q =>
            obtain ⟨p, rfl⟩ := rmay_of hs
            obtain ⟨r, hr⟩ := rmay_of (rmul_may (hm x (by simp)) (fget_may hg))
            show rmay (radd (enc p) (rmul x.ratio q)) = true
            rw [hr, radd_enc]; exact rmay_enc _
      exact this l c (fun x hx => (h1 x hx).may) h3
    · cases h
  next => cases h
/-- What is in the table, so far. -/
theorem nmid_all {a : Ac} {xs : List Fx} (hm : amay a = true) (hf : fmay xs = true) : ∀ k, k ≤ xs.length → fmay (nmid a xs k) = true ∧
    (∀ x, x ∈ nmid a xs k ↔ (x ∈ xs ∧ nkeep a.asset a.ex x = true) ∨ (x.asset = a.asset ∧ ∃ f ∈ xs.take k, nhit a f = true ∧ x.day = f.day ∧ nworth a xs f.day = some x.p)) ∧
    (nmid a xs k).length ≤ xs.length + k
  | 0, _ => by
    rw [nmid_zero]
    refine ⟨fmay_filter hf _, fun x => ?_, List.length_filter_le _ _⟩
    rw [List.mem_filter]
    simp
  | k + 1, hk => by
    obtain ⟨i1, i2, i3⟩ := nmid_all hm hf k (by omega)
    have hkx : xs[k]? = some xs[k] := List.getElem?_eq_getElem (by omega)
    rw [nmid_succ hkx, List.take_add_one, hkx]
    generalize xs[k] = f at hkx
    have hmem := List.mem_of_getElem? hkx
    unfold nstep
    split
    next hh =>
      cases hv : nworth a xs f.day with
      | none =>
        refine ⟨i1, fun x => ?_, by show (nmid a xs k).length ≤ _; omega⟩
        show x ∈ nmid a xs k ↔ _
        rw [i2]
        constructor
        · rintro (h | ⟨e, g, hg, r⟩)
          · exact .inl h
          · exact .inr ⟨e, g, by simp [hg], r⟩
        · rintro (h | ⟨e, g, hg, r⟩)
          · exact .inl h
          · rw [List.mem_append] at hg
            rcases hg with hg | hg
            · exact .inr ⟨e, g, hg, r⟩
            · simp at hg; subst hg; rw [hv] at r; cases r.2.2
      | some v =>
        show fmay (fins (nmid a xs k) ⟨a.asset, f.day, v⟩) = true ∧ (∀ x, x ∈ fins (nmid a xs k) ⟨a.asset, f.day, v⟩ ↔ _) ∧ (fins (nmid a xs k) ⟨a.asset, f.day, v⟩).length ≤ _
        obtain ⟨f1, f2, f3, f4⟩ := fmay_one hf hmem
        obtain ⟨hh1, hh2⟩ := nhit_iff.1 hh
        have hone : fone ⟨a.asset, f.day, v⟩ = true := by
          unfold fone
          have h1 := (aasset_of (amay_of hm).asset).1
          have h2 := pval_may hv
          simp [h1, h2, f2, f3]
        have hnone : fget (nmid a xs k) a.asset f.day = none := by
          refine fget_none_of i1 fun x hx e1 e2 => ?_
          rcases (i2 x).1 hx with ⟨_, h⟩ | ⟨_, g, hg, g1, g2, g3⟩
          · have := nkeep_iff.1 h e1; omega
          · obtain ⟨g4, g5⟩ := nhit_iff.1 g1
            obtain ⟨j, hj⟩ := List.mem_iff_getElem?.1 hg
            rw [List.getElem?_take] at hj
            split at hj
            next hjk =>
              have := rises_lt (rises_of hf) hjk hj hkx
              rw [fahead_lt, (fcmp_zero g f).2 ⟨g4.trans hh1.symm, by omega⟩] at this
              omega
            next => cases hj
        refine ⟨(fset_some i1 hone hnone).2, fun x => ?_, by rw [fins_len]; omega⟩
        rw [fins_mem_iff, i2]
        constructor
        · rintro (rfl | h | ⟨e, g, hg, r⟩)
          · exact .inr ⟨rfl, f, by simp, hh, rfl, hv⟩
          · exact .inl h
          · exact .inr ⟨e, g, by simp [hg], r⟩
        · rintro (h | ⟨e, g, hg, r1, r2, r3⟩)
          · exact .inr (.inl h)
          · rw [List.mem_append] at hg
            rcases hg with hg | hg
            · exact .inr (.inr ⟨e, g, hg, r1, r2, r3⟩)
            · simp at hg
              subst hg
              rw [hv] at r3
              injection r3 with r3
              refine .inl ?_
              cases x
              simp_all
    next hh =>
      refine ⟨i1, fun x => ?_, by omega⟩
      rw [i2]
      constructor
      · rintro (h | ⟨e, g, hg, r⟩)
        · exact .inl h
        · exact .inr ⟨e, g, by simp [hg], r⟩
      · rintro (h | ⟨e, g, hg, r⟩)
        · exact .inl h
        · rw [List.mem_append] at hg
          rcases hg with hg | hg
          · exact .inr ⟨e, g, hg, r⟩
          · simp at hg; subst hg; exact absurd r.1 hh
theorem nfix_may {a : Ac} {xs : List Fx} (hm : amay a = true) (hf : fmay xs = true) : fmay (nfix a xs) = true := (nmid_all hm hf xs.length (Nat.le_refl _)).1
theorem nfix_len {a : Ac} {xs : List Fx} (hm : amay a = true) (hf : fmay xs = true) : (nfix a xs).length ≤ xs.length + xs.length := (nmid_all hm hf xs.length (Nat.le_refl _)).2.2
theorem nfix_mem {a : Ac} {xs : List Fx} (hm : amay a = true) (hf : fmay xs = true) {x : Fx} : x ∈ nfix a xs ↔ (x ∈ xs ∧ nkeep a.asset a.ex x = true) ∨ (x.asset = a.asset ∧ ∃ f ∈ xs, nhit a f = true ∧ x.day = f.day ∧ nworth a xs f.day = some x.p) := by
  have := (nmid_all hm hf xs.length (Nat.le_refl _)).2.1 x
  rwa [List.take_length] at this
/-- What is inserted behind so many is new, and may be. -/
theorem nmid_put {a : Ac} {xs : List Fx} (hm : amay a = true) (hf : fmay xs = true) {k : Nat} {f : Fx} {v : RT} (hk : xs[k]? = some f) (hh : nhit a f = true) (hv : nworth a xs f.day = some v) :
    nmid a xs (k + 1) = fins (nmid a xs k) ⟨a.asset, f.day, v⟩ ∧ fset (nmid a xs k) ⟨a.asset, f.day, v⟩ = some (nmid a xs (k + 1)) := by
  have hkl := (List.getElem?_eq_some_iff.1 hk).1
  have e : nmid a xs (k + 1) = fins (nmid a xs k) ⟨a.asset, f.day, v⟩ := by rw [nmid_succ hk]; unfold nstep; rw [if_pos hh, hv]; rfl
  refine ⟨e, ?_⟩
  have h1 := (nmid_all hm hf k (by omega)).1
  have h2 := (nmid_all hm hf (k + 1) (by omega)).1
  rw [e] at h2 ⊢
  unfold fset
  rw [h1, h2]; rfl
theorem nmid_idle {a : Ac} {xs : List Fx} {k : Nat} {f : Fx} (hk : xs[k]? = some f) (h : nhit a f = false ∨ nworth a xs f.day = none) : nmid a xs (k + 1) = nmid a xs k := by
  rw [nmid_succ hk]
  unfold nstep
  rcases h with h | h
  · rw [h]; rfl
  · rw [h]; split <;> rfl
end Go.Proofs.YtdkpbifpafaabaaGreatDoor
