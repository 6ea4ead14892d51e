/- Terms: signs around a number; parts joined. -/
import Derived.Test.YtjdofncognaaoaaGreatDoorTmH
namespace Go.Proofs.YtjdofncognaaoaaGreatDoor
open Go.RowKit
set_option linter.unusedVariables false
set_option linter.unusedSimpArgs false

def n7 : Nd := ⟨0, enc 7, ⟨#[]⟩, 0, 0⟩
def nneg : Nd := ⟨5, nzero, ⟨#[]⟩, 0, 0⟩
def tnegs : Nat → List Nd
  | 0 => [n7]
  | k + 1 => tnegs k ++ [nneg]
theorem tnegs_len : ∀ k, (tnegs k).length = k + 1
  | 0 => rfl
  | k + 1 => by show (tnegs k ++ [nneg]).length = _; rw [List.length_append, tnegs_len k]; rfl
theorem n7_may : pmay n7 = true := by decide +kernel
theorem nneg_may : pmay nneg = true := by decide +kernel
theorem tnegs_tm : ∀ k, Tm (tnegs k)
  | 0 => rfl
  | k + 1 => by
    have := (tm_join (l := [tnegs k]) (n := nneg) (fun x hx => by simp at hx; subst hx; exact tnegs_tm k) rfl).1
    have e : tnegs (k + 1) = [tnegs k].flatten ++ [nneg] := by simp [tnegs]
    rw [e]; exact this
theorem tnegs_dep : ∀ k, tdep (tnegs k) = k + 1
  | 0 => rfl
  | k + 1 => by
    have := tdep_join (l := [tnegs k]) (n := nneg) (fun x hx => by simp at hx; subst hx; exact tnegs_tm k) rfl
    have h2 : tdep (tnegs (k + 1)) = ndeep [tdep (tnegs k)] + 1 := by
      rw [← List.map_singleton, ← this]
      simp [tnegs]
    rw [h2, tnegs_dep k]
    show max 0 ((k : Int) + 1) + 1 = _
    omega
theorem tnegs_print : ∀ k, ∃ s, tfold (ptx numT pmay) [] (tnegs k) = some [s] ∧ s.length = 1 + 3 * k
  | 0 => ⟨numT (enc 7), by decide +kernel, by decide +kernel⟩
  | k + 1 => by
    obtain ⟨s, h1, h2⟩ := tnegs_print k
    have := tfold_join (node := ptx numT pmay) (ps := [(tnegs k, s)]) (n := nneg) (fun p hp => by simp at hp; subst hp; exact h1) rfl
    have e : tnegs (k + 1) = (([(tnegs k, s)] : List (List Nd × Bs)).map (·.1)).flatten ++ [nneg] := by simp [tnegs]
    rw [e, this]
    refine ⟨40 :: 45 :: (s ++ 41 :: []), ?_, by simp; omega⟩
    unfold ptx
    rw [if_pos nneg_may]
    rfl
/-- Three terms joined by a choice. -/
theorem join3 {a b c : List Nd} {n : Nd} (ha : Tm a) (hb : Tm b) (hc : Tm c) (hn : arity n.op = 3) : targs (a ++ b ++ c ++ [n]) = [a, b, c] ∧ tdep (a ++ b ++ c ++ [n]) = max (max (tdep a) (tdep b)) (max (tdep c) 0) + 1 ∧ Tm (a ++ b ++ c ++ [n]) := by
  have hl : ∀ x ∈ [a, b, c], Tm x := by
    intro x hx
    simp at hx
    rcases hx with rfl | rfl | rfl
    · exact ha
    · exact hb
    · exact hc
  have e : a ++ b ++ c ++ [n] = [a, b, c].flatten ++ [n] := by simp
  rw [e]
  refine ⟨targs_join hl (by rw [hn]; rfl), ?_, (tm_join hl (by rw [hn]; rfl)).1⟩
  rw [tdep_join hl (by rw [hn]; rfl)]
  show max (max (max 0 (tdep a)) (tdep b)) (tdep c) + 1 = _
  omega
/-- A formed term's parts: as many as its last node takes, and together all but that. -/
theorem parts_len {s : List Nd} {n : Nd} (h : Tm (s ++ [n])) : ((targs (s ++ [n])).length : Int) = arity n.op ∧ ((targs (s ++ [n])).map List.length).foldr (· + ·) 0 = s.length := by
  obtain ⟨l, e, _, h2, h3, _⟩ := targs_snoc h
  rw [e]
  refine ⟨h2, ?_⟩
  rw [← h3]
  have key : ∀ l : List (List Nd), (l.map List.length).foldr (· + ·) 0 = l.flatten.length := by
    intro l
    induction l with
    | nil => rfl
    | cons x l ih =>
      rw [List.map_cons, List.foldr_cons, ih, List.flatten_cons, List.length_append]
  exact key l
end Go.Proofs.YtjdofncognaaoaaGreatDoor
