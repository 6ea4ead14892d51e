/- Arguments opened: a list of names. -/
import Derived.Test.YtpoejheienohjaaGreatDoorRowK
import Derived.Test.YtpoejheienohjaaGreatDoorPoO
namespace Go.Proofs.YtpoejheienohjaaGreatDoor
set_option maxRecDepth 100000
open Go.ChangeShapes Go.WideShapes Go.ChangeAt Go.RowKit
set_option linter.unusedVariables false
set_option linter.unusedSimpArgs false

section
variable {H : Type} {enc : TypeId × Value → H} {w : World} {base : Nat} {sp : Nat → Bool} {held : Bool}
theorem open_names {r : Reach} {b0 : Nat} {v : Value} {d : DataW H} {p : List MemPlace} (hv : Value.okWide Tryz.prog w r b0 67 v) (h : DataW.Trod enc Tryz.prog w base sp held 67 v d p) :
    ∃ A n c ss, v = .slice A n c ∧ Rd sCs 1 w A n ss ∧ ∀ s ∈ ss, s.size ≤ 9223372036854775807 := by
  obtain ⟨A, n, c, rfl⟩ := okWide_slice Tryz.underlying67 hv
  obtain ⟨fuel, hf⟩ := h
  rcases Go.Deep.open_slice Tryz.underlying67 hf with ⟨e, _⟩ | ⟨a, len, cap, m, k, D, Pl, e, hb, hl, hm, hmm, hx, hi⟩
  · have e' : Value.slice A n c = .slice none 0 0 := by simpa [Value.cells] using e
    injection e' with e1 e2 e3
    subst e1; subst e2; subst e3
    exact ⟨_, _, _, [], rfl, Rd.nil, fun f hf => by cases hf⟩
  · have e' : Value.slice A n c = .slice (some a) len cap := by simpa [Value.cells] using e
    injection e' with e1 e2 e3
    subst e1; subst e2; subst e3
    have hlm : n ≤ m := by rw [hmm]; split <;> omega
    have key : ∀ i : Fin n, ∃ s : ByteArray, s.size ≤ 9223372036854775807 ∧ ∀ j u, (sCs s)[j]? = some u → w.cell? (a.add (i.1 * 1 + j)) = some u := by
      intro i
      obtain ⟨cs', hc, htt⟩ := hi i.1 (by omega)
      rw [cSt] at hc
      obtain ⟨s, rfl, _, hs⟩ := DataW.trod_string Tryz.underlying9 htt
      obtain ⟨_, _, hat⟩ := World.cells?_some hc
      refine ⟨s, by simpa [maxLen] using hs, fun j u hu => ?_⟩
      have hj : j < 1 := (List.getElem?_eq_some_iff.1 hu).1
      rw [← add_add, hat j hj, hu]
    obtain ⟨F, hF⟩ := Classical.axiomOfChoice key
    refine ⟨_, _, _, List.ofFn F, rfl, ⟨by simp, by simp only [maxLen] at hm; omega, fun hn => ⟨a, rfl, ?_, ?_⟩⟩, ?_⟩
    · have := (hF ⟨0, hn⟩).2 0 _ rfl
      have h2 := block_lt_of_cell this
      rw [add_block] at h2
      exact h2
    · intro j x hj i u hu
      obtain ⟨hjl, rfl⟩ := List.getElem?_eq_some_iff.1 hj
      rw [List.getElem_ofFn] at hu
      exact (hF ⟨j, by simpa using hjl⟩).2 i u hu
    · intro f hf
      obtain ⟨i, rfl⟩ := List.mem_ofFn.1 hf
      exact (hF i).1
end
end Go.Proofs.YtpoejheienohjaaGreatDoor
