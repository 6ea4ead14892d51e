/- Terms: which nodes may be; unlike terms have unlike prints. -/
import Derived.Test.YtjdofncognaaoaaGreatDoorTmG
namespace Go.Proofs.YtjdofncognaaoaaGreatDoor
open Go.RowKit
set_option linter.unusedVariables false
set_option linter.unusedSimpArgs false

def tlow (s : ByteArray) : Bool := match s.data.toList with | c :: _ => decide (97 ≤ c.toNat) && decide (c.toNat ≤ 122) | [] => false
/-- An asset's name, as a term may have it. -/
def tasset (s : ByteArray) : Bool := isName s && tlow s
def rzer (x : RT) : Bool := x.num.toList == [] && x.den.toList == []
/-- May a node be? -/
def nmay (n : Nd) : Bool :=
  if n.op = 0 then (n.asset.toList == [] && (n.a == 0 && n.b == 0)) && (rmay n.num && (decide (ndg (ival n.num.num.data.toList).natAbs ≤ 60) && decide (n.num.den.size ≤ 60)))
  else if n.op = 1 then (rzer n.num && n.b == 0) && (tasset n.asset && (decide (0 ≤ n.a) && decide (n.a ≤ 9999)))
  else if 2 ≤ n.op ∧ n.op ≤ 4 then rzer n.num && (tasset n.asset && (decide (0 ≤ n.a) && (decide (n.b ≤ 9999) && (decide (n.a ≤ n.b) && decide (n.b - n.a < 60)))))
  else rzer n.num && (n.asset.toList == [] && (n.a == 0 && n.b == 0))
def pmay (n : Nd) : Bool := decide (0 ≤ n.op) && nmay n
theorem empty_of {s : ByteArray} (h : (s.toList == []) = true) : s = ⟨#[]⟩ := s_eq.2 (by simpa using h)
theorem rzer_of {x : RT} (h : rzer x = true) : x = nzero := by
  unfold rzer at h
  rw [Bool.and_eq_true] at h
  obtain ⟨a, b⟩ := x
  have e1 := empty_of h.1
  have e2 := empty_of h.2
  dsimp only at e1 e2
  subst e1; subst e2; rfl
theorem name_no {s : ByteArray} (h : tasset s = true) : (44 : UInt8) ∉ s.data.toList := by
  unfold tasset isName at h
  rw [Bool.and_eq_true, Bool.and_eq_true] at h
  intro k
  obtain ⟨i, hi⟩ := List.mem_iff_getElem?.1 k
  have := (nmAll_iff _).1 h.1.1 i _ hi
  unfold nmAt nmc at this
  revert this
  cases i <;> simp
theorem pmay_ok (n : Nd) (h : pmay n = true) : nodeOk (fun x => rmay x = true) n := by
  unfold pmay at h
  rw [Bool.and_eq_true, decide_eq_true_eq] at h
  obtain ⟨h0, h⟩ := h
  unfold nmay at h
  split at h
  next e =>
    simp only [Bool.and_eq_true, beq_iff_eq, decide_eq_true_eq] at h
    exact .inl ⟨e, h.2.1, empty_of (by simpa using h.1.1), h.1.2.1, h.1.2.2⟩
  split at h
  next e =>
    simp only [Bool.and_eq_true, beq_iff_eq, decide_eq_true_eq] at h
    exact .inr (.inl ⟨e, rzer_of h.1.1, h.1.2, h.2.2.1, name_no h.2.1⟩)
  split at h
  next e =>
    simp only [Bool.and_eq_true, beq_iff_eq, decide_eq_true_eq] at h
    exact .inr (.inr (.inl ⟨e.1, e.2, rzer_of h.1, h.2.2.1, by omega, name_no h.2.1⟩))
  next e1 e2 e3 =>
    simp only [Bool.and_eq_true, beq_iff_eq, decide_eq_true_eq] at h
    exact .inr (.inr (.inr ⟨by omega, rzer_of h.1, empty_of (by simpa using h.2.1), h.2.2.1, h.2.2.2⟩))
/-- A term's print, in bytes; none where it may not be. -/
def tprint (t : List Nd) : Option Bs := tval (ptx numT pmay) t
theorem tprint_of {t : List Nd} {s : Bs} (h : tprint t = some s) : tfold (ptx numT pmay) [] t = some [s] ∧ t ≠ [] := by
  unfold tprint tval at h
  split at h
  · cases hf : tfold (ptx numT pmay) [] t with
    | none => rw [hf] at h; cases h
    | some st =>
      rw [hf] at h
      have h' : tone st = some s := h
      unfold tone at h'
      split at h'
      · injection h' with h'
        subst h'
        refine ⟨rfl, ?_⟩
        rintro rfl
        unfold tfold at hf
        injection hf with hf
        cases hf
      · cases h'
  · cases h
theorem tprint_ne {t : List Nd} {s : Bs} (h : tprint t = some s) : s ≠ [] := by
  obtain ⟨h1, h2⟩ := tprint_of h
  obtain ⟨b, y, e, _⟩ := pr_head num_ok pmay_ok h2 h1
  rw [e]
  exact List.cons_ne_nil _ _
/-- Unlike terms have unlike prints. -/
theorem tprint_inj {t t' : List Nd} {s : Bs} (h : tprint t = some s) (h' : tprint t' = some s) : t = t' := by
  obtain ⟨h1, h2⟩ := tprint_of h
  obtain ⟨g1, g2⟩ := tprint_of h'
  exact (apart num_ok pmay_ok t.length t t' s s [] [] (Nat.le_refl _) h2 g2 h1 g1 delim_nil delim_nil rfl).1
end Go.Proofs.YtjdofncognaaoaaGreatDoor
