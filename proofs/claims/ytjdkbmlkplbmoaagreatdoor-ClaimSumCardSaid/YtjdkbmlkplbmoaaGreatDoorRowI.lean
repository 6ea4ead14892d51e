/- Arguments opened: a list of instructions, an instruction. -/
import Derived.Test.YtjdkbmlkplbmoaaGreatDoorRowK
import Derived.Test.YtjdkbmlkplbmoaaGreatDoorInB
namespace Go.Proofs.YtjdkbmlkplbmoaaGreatDoor
set_option maxRecDepth 100000
open Go.ChangeShapes Go.WideShapes Go.ChangeAt Go.RowKit
set_option linter.unusedVariables false
set_option linter.unusedSimpArgs false

theorem cIns : Tryz.prog.cellsOf 37 = 10 := by kernel_rfl
section
variable {H : Type} {enc : TypeId × Value → H} {w : World} {base : Nat} {sp : Nat → Bool} {held : Bool}
theorem instr_cells {fuel : Nat} {cs : List Value} {x : DataW H × List MemPlace} (h : DataW.trod enc Tryz.prog w base sp held fuel 37 cs = some x) :
    ∃ f : In, cs = In.cs f ∧ inok f := by
  obtain ⟨xs, n, _, _, hlen, hxl, hf⟩ := DataW.trod_struct Tryz.underlying37 h
  rw [cIns] at hlen
  obtain ⟨v0, v1, v2, v3, v4, v5, v6, v7, v8, v9, rfl⟩ : ∃ v0 v1 v2 v3 v4 v5 v6 v7 v8 v9, cs = [v0, v1, v2, v3, v4, v5, v6, v7, v8, v9] := by
    match cs, hlen with
    | [v0, v1, v2, v3, v4, v5, v6, v7, v8, v9], _ => exact ⟨v0, v1, v2, v3, v4, v5, v6, v7, v8, v9, rfl⟩
  have hx8 : xs.length = 8 := hxl
  have h0 : DataW.trod enc Tryz.prog w base sp held n 3 (List.take (Tryz.prog.cellsOf 3) (List.drop 0 [v0, v1, v2, v3, v4, v5, v6, v7, v8, v9])) = xs[0]? := hf 0 _ rfl
  have h1 : DataW.trod enc Tryz.prog w base sp held n 3 (List.take (Tryz.prog.cellsOf 3) (List.drop 1 [v0, v1, v2, v3, v4, v5, v6, v7, v8, v9])) = xs[1]? := hf 1 _ rfl
  have h2 : DataW.trod enc Tryz.prog w base sp held n 3 (List.take (Tryz.prog.cellsOf 3) (List.drop 2 [v0, v1, v2, v3, v4, v5, v6, v7, v8, v9])) = xs[2]? := hf 2 _ rfl
  have h3 : DataW.trod enc Tryz.prog w base sp held n 9 (List.take (Tryz.prog.cellsOf 9) (List.drop 3 [v0, v1, v2, v3, v4, v5, v6, v7, v8, v9])) = xs[3]? := hf 3 _ rfl
  have h4 : DataW.trod enc Tryz.prog w base sp held n 9 (List.take (Tryz.prog.cellsOf 9) (List.drop 4 [v0, v1, v2, v3, v4, v5, v6, v7, v8, v9])) = xs[4]? := hf 4 _ rfl
  have h5 : DataW.trod enc Tryz.prog w base sp held n 9 (List.take (Tryz.prog.cellsOf 9) (List.drop 5 [v0, v1, v2, v3, v4, v5, v6, v7, v8, v9])) = xs[5]? := hf 5 _ rfl
  have h6 : DataW.trod enc Tryz.prog w base sp held n 35 (List.take (Tryz.prog.cellsOf 35) (List.drop 6 [v0, v1, v2, v3, v4, v5, v6, v7, v8, v9])) = xs[6]? := hf 6 _ rfl
  have h7 : DataW.trod enc Tryz.prog w base sp held n 35 (List.take (Tryz.prog.cellsOf 35) (List.drop 8 [v0, v1, v2, v3, v4, v5, v6, v7, v8, v9])) = xs[7]? := hf 7 _ rfl
  rw [List.getElem?_eq_getElem (by omega)] at h0 h1 h2 h3 h4 h5 h6 h7
  rw [cSt] at h3 h4 h5
  rw [cIn] at h0 h1 h2
  rw [cRt] at h6 h7
  obtain ⟨k0, ek0, _, _⟩ := DataW.trod_int Tryz.underlying3 h0
  obtain ⟨k1, ek1, _, _⟩ := DataW.trod_int Tryz.underlying3 h1
  obtain ⟨k2, ek2, _, _⟩ := DataW.trod_int Tryz.underlying3 h2
  obtain ⟨s3, es3, _, hs3⟩ := DataW.trod_string Tryz.underlying9 h3
  obtain ⟨s4, es4, _, hs4⟩ := DataW.trod_string Tryz.underlying9 h4
  obtain ⟨s5, es5, _, hs5⟩ := DataW.trod_string Tryz.underlying9 h5
  obtain ⟨p6, q6, e6, hp6, hq6⟩ := rat_cellsK h6
  obtain ⟨p8, q8, e8, hp8, hq8⟩ := rat_cellsK h7
  have e0 : v0 = .int .i64 k0 := by simpa using ek0
  have e1 : v1 = .int .i64 k1 := by simpa using ek1
  have e2 : v2 = .int .i64 k2 := by simpa using ek2
  have e3 : v3 = .string s3 := by simpa using es3
  have e4 : v4 = .string s4 := by simpa using es4
  have e5 : v5 = .string s5 := by simpa using es5
  have e6' : v6 = .string p6 ∧ v7 = .string q6 := by simpa using e6
  have e8' : v8 = .string p8 ∧ v9 = .string q8 := by simpa using e8
  obtain ⟨g6, g7⟩ := e6'
  obtain ⟨g8, g9⟩ := e8'
  subst e0; subst e1; subst e2; subst e3; subst e4; subst e5; subst g6; subst g7; subst g8; subst g9
  exact ⟨⟨k0, k1, k2, s3, s4, s5, ⟨p6, q6⟩, ⟨p8, q8⟩⟩, rfl, by simpa [maxLen] using hs3, by simpa [maxLen] using hs4, by simpa [maxLen] using hs5, hp6, hq6, hp8, hq8⟩
/-- An instruction by value. -/
theorem open_instr {r : Reach} {b0 : Nat} {v : Value} {d : DataW H} {p : List MemPlace} (hv : Value.okWide Tryz.prog w r b0 37 v) (h : DataW.Trod enc Tryz.prog w base sp held 37 v d p) :
    ∃ f : In, v = f.v ∧ inok f := by
  obtain ⟨cs, rfl, hsz⟩ := okWide_struct Tryz.underlying37 hv
  obtain ⟨fuel, hf⟩ := h
  obtain ⟨f, he, hok⟩ := instr_cells hf
  obtain ⟨l⟩ := cs
  have he' : l = In.cs f := he
  subst he'
  exact ⟨f, rfl, hok⟩
theorem open_instrs {r : Reach} {b0 : Nat} {v : Value} {d : DataW H} {p : List MemPlace} (hv : Value.okWide Tryz.prog w r b0 24 v) (h : DataW.Trod enc Tryz.prog w base sp held 24 v d p) :
    ∃ A n c xs, v = .slice A n c ∧ Rd In.cs 10 w A n xs ∧ ∀ f ∈ xs, inok f := by
  obtain ⟨A, n, c, rfl⟩ := okWide_slice Tryz.underlying24 hv
  obtain ⟨fuel, hf⟩ := h
  rcases Go.Deep.open_slice Tryz.underlying24 hf with ⟨e, _⟩ | ⟨a, len, cap, m, k, D, Pl, e, hb, hl, hm, hmm, hx, hi⟩
  · have e' : Value.slice A n c = .slice none 0 0 := by simpa [Value.cells] using e
    injection e' with e1 e2 e3
    subst e1; subst e2; subst e3
    exact ⟨_, _, _, [], rfl, Rd.nil, fun f hf => by cases hf⟩
  · have e' : Value.slice A n c = .slice (some a) len cap := by simpa [Value.cells] using e
    injection e' with e1 e2 e3
    subst e1; subst e2; subst e3
    have hlm : n ≤ m := by rw [hmm]; split <;> omega
    have key : ∀ i : Fin n, ∃ f : In, inok f ∧ ∀ j u, (In.cs f)[j]? = some u → w.cell? (a.add (i.1 * 10 + j)) = some u := by
      intro i
      obtain ⟨cs', hc, htt⟩ := hi i.1 (by omega)
      rw [cIns] at hc
      obtain ⟨f, rfl, hok⟩ := instr_cells htt
      obtain ⟨_, _, hat⟩ := World.cells?_some hc
      refine ⟨f, hok, fun j u hu => ?_⟩
      have hj : j < 10 := (List.getElem?_eq_some_iff.1 hu).1
      rw [← add_add, hat j hj, hu]
    obtain ⟨F, hF⟩ := Classical.axiomOfChoice key
    refine ⟨_, _, _, List.ofFn F, rfl, ⟨by simp, by simp only [maxLen] at hm; omega, fun hn => ⟨a, rfl, ?_, ?_⟩⟩, ?_⟩
    · have := (hF ⟨0, hn⟩).2 0 _ rfl
      have h2 := block_lt_of_cell this
      rw [add_block] at h2
      exact h2
    · intro j x hj i u hu
      obtain ⟨hjl, rfl⟩ := List.getElem?_eq_some_iff.1 hj
      rw [List.getElem_ofFn] at hu
      exact (hF ⟨j, by simpa using hjl⟩).2 i u hu
    · intro f hf
      obtain ⟨i, rfl⟩ := List.mem_ofFn.1 hf
      exact (hF i).1
end
end Go.Proofs.YtjdkbmlkplbmoaaGreatDoor
