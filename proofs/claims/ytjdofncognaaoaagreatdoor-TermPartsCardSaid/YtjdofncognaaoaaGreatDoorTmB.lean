/- Terms: where each begins, and what the last node takes. -/
import Derived.Test.YtjdofncognaaoaaGreatDoorTmA
namespace Go.Proofs.YtjdofncognaaoaaGreatDoor
open Go.RowKit
set_option linter.unusedVariables false
set_option linter.unusedSimpArgs false

/-- How many nodes lie in so many terms. -/
def tlen (us : List (List Nd)) : Nat := us.flatten.length
theorem tlen_append (us vs : List (List Nd)) : tlen (us ++ vs) = tlen us + tlen vs := by unfold tlen; rw [List.flatten_append, List.length_append]
theorem tlen_one (x : List Nd) : tlen [x] = x.length := by unfold tlen; simp
/-- Where each of so many terms begins, one behind the other. -/
def tstarts (us : List (List Nd)) : List Nat := (List.range us.length).map fun i => tlen (us.take i)
theorem tstarts_len (us : List (List Nd)) : (tstarts us).length = us.length := by unfold tstarts; simp
theorem tstarts_at {us : List (List Nd)} {i : Nat} (h : i < us.length) : (tstarts us)[i]? = some (tlen (us.take i)) := by unfold tstarts; simp [h]
theorem tstarts_take (us : List (List Nd)) (k : Nat) : (tstarts us).take k = tstarts (us.take k) := by
  apply List.ext_getElem?
  intro i
  rw [List.getElem?_take]
  split
  next h =>
    by_cases hl : i < us.length
    · rw [tstarts_at hl, tstarts_at (by simp; omega), List.take_take, Nat.min_eq_left (by omega)]
    · rw [List.getElem?_eq_none (by rw [tstarts_len]; omega), List.getElem?_eq_none (by rw [tstarts_len]; simp; omega)]
  next h => rw [List.getElem?_eq_none (by rw [tstarts_len]; simp; omega)]
theorem tstarts_snoc (us : List (List Nd)) (x : List Nd) : tstarts (us ++ [x]) = tstarts us ++ [tlen us] := by
  apply List.ext_getElem?
  intro i
  by_cases h : i < us.length
  · rw [List.getElem?_append_left (by rw [tstarts_len]; exact h), tstarts_at (by simp; omega), tstarts_at h, List.take_append_of_le_length (by omega)]
  · by_cases h2 : i = us.length
    · subst h2
      rw [tstarts_at (by simp), List.getElem?_append_right (by rw [tstarts_len]; omega), tstarts_len]
      simp
    · rw [List.getElem?_eq_none (by rw [tstarts_len]; simp; omega), List.getElem?_eq_none (by simp [tstarts_len]; omega)]
/-- A node on a stack of terms: where the new term begins. -/
theorem tpush {us vs : List (List Nd)} {n : Nd} (h : tstep nterm us n = some vs) : ∃ k, k = us.length - (arity n.op).toNat ∧ 0 ≤ arity n.op ∧ (arity n.op).toNat ≤ us.length ∧ vs = us.take k ++ [(us.drop k).flatten ++ [n]] ∧
    tstarts vs = (tstarts us).take k ++ [tlen (us.take k)] ∧ tlen vs = tlen us + 1 ∧ (arity n.op = 0 → tlen (us.take k) = tlen us) ∧ (0 < arity n.op → (tstarts us)[k]? = some (tlen (us.take k))) := by
  unfold tstep at h
  split at h
  · cases h
  next hc =>
    injection h with h
    subst h
    refine ⟨_, rfl, by omega, by omega, rfl, ?_, ?_, fun h0 => ?_, fun h0 => ?_⟩
    · rw [tstarts_snoc, tstarts_take]
    · rw [tlen_append, tlen_one, List.length_append]
      have : tlen us = tlen (us.take (us.length - (arity n.op).toNat)) + tlen (us.drop (us.length - (arity n.op).toNat)) := by rw [← tlen_append, List.take_append_drop]
      unfold tlen at this ⊢
      simp at this ⊢
      omega
    · rw [h0]; simp
    · exact tstarts_at (by omega)
/-- For each term on the stack: the place of its last node tells where it begins. -/
def tends (out : List Nat) (us : List (List Nd)) : Prop := ∀ i x, us[i]? = some x → 0 < x.length ∧ out[tlen (us.take i) + x.length - 1]? = some (tlen (us.take i))
theorem tends_nil (out : List Nat) : tends out [] := fun i x h => by simp at h
theorem tends_push {us vs : List (List Nd)} {out : List Nat} {n : Nd} (h : tends out us) (ho : out.length = tlen us) (hp : tstep nterm us n = some vs) : tends (out ++ [tlen (us.take (us.length - (arity n.op).toNat))]) vs := by
  obtain ⟨k, hk, h0, h1, hv, _, hl, _⟩ := tpush hp
  rw [← hk]
  subst hv
  intro i x hx
  have hkl : (us.take k).length = k := by rw [List.length_take]; omega
  by_cases hi : i < k
  · rw [List.getElem?_append_left (by omega), List.getElem?_take, if_pos hi] at hx
    obtain ⟨e1, e2⟩ := h i x hx
    have et : (us.take k ++ [(us.drop k).flatten ++ [n]]).take i = us.take i := by rw [List.take_append_of_le_length (by omega), List.take_take, Nat.min_eq_left (by omega)]
    rw [et]
    refine ⟨e1, ?_⟩
    rw [List.getElem?_append_left (List.getElem?_eq_some_iff.1 e2).1]
    exact e2
  · have hik : i = k := by
      have := (List.getElem?_eq_some_iff.1 hx).1
      simp at this
      omega
    subst hik
    rw [List.getElem?_append_right (by omega), hkl] at hx
    simp at hx
    subst hx
    have et : (us.take i ++ [(us.drop i).flatten ++ [n]]).take i = us.take i := by rw [List.take_append_of_le_length (by omega), List.take_take, Nat.min_self]
    rw [et]
    refine ⟨by simp, ?_⟩
    have hlu : tlen us = tlen (us.take i) + tlen (us.drop i) := by rw [← tlen_append, List.take_append_drop]
    have e : tlen (us.take i) + ((us.drop i).flatten ++ [n]).length - 1 = out.length := by
      rw [ho, hlu, List.length_append]
      unfold tlen
      simp
    rw [e]
    simp
/-- What a formed term's last node takes: the parts, by where they begin and end. -/
def targs (t : List Nd) : List (List Nd) := if tfold nterm [] t = some [t] then (match tfold nterm [] t.dropLast with | some l => l | none => []) else []
theorem targs_snoc {s : List Nd} {n : Nd} (h : Tm (s ++ [n])) : ∃ l, targs (s ++ [n]) = l ∧ tfold nterm [] s = some l ∧ (l.length : Int) = arity n.op ∧ l.flatten = s ∧ ∀ x ∈ l, Tm x := by
  obtain ⟨l, h1, h2, h3⟩ := tm_parts h
  refine ⟨l, ?_, h1, h2, h3, tm_all (fun x hx => by cases hx) h1⟩
  unfold targs
  have h' : tfold nterm [] (s ++ [n]) = some [s ++ [n]] := h
  rw [if_pos h', List.dropLast_concat, h1]
theorem targs_join {l : List (List Nd)} {n : Nd} (hl : ∀ x ∈ l, Tm x) (hn : (l.length : Int) = arity n.op) : targs (l.flatten ++ [n]) = l := by
  obtain ⟨h1, h2⟩ := tm_join hl hn
  obtain ⟨l', e1, e2, _⟩ := targs_snoc h1
  rw [e1]
  rw [h2] at e2
  injection e2 with e2
  exact e2.symm
/-- A part of the terms, by its place. -/
theorem tpart {us : List (List Nd)} {i : Nat} {x : List Nd} (h : us[i]? = some x) : (us.flatten.drop (tlen (us.take i))).take x.length = x := by
  have hi := (List.getElem?_eq_some_iff.1 h).1
  have e : us = us.take i ++ x :: us.drop (i + 1) := by
    have hx := (List.getElem?_eq_some_iff.1 h).2
    rw [← hx, List.getElem_cons_drop, List.take_append_drop]
  have e2 : us.flatten = (us.take i).flatten ++ (x ++ (us.drop (i + 1)).flatten) := by
    conv => lhs; rw [e]
    simp
  rw [e2]
  unfold tlen
  rw [List.drop_left', List.take_left']
  · rfl
  · rfl
end Go.Proofs.YtjdofncognaaoaaGreatDoor
