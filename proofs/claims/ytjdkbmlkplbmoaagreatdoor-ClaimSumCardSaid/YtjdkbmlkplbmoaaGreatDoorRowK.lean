/- Arguments opened: books, a line; the given tables; the world that bears them. -/
import Derived.Test.YtjdkbmlkplbmoaaGreatDoorBkJ
import Derived.Test.YtjdkbmlkplbmoaaGreatDoorRows
import Derived.ProofKit
import Derived.Deep.Slices
import Derived.ChangeSame
import Derived.Lay
import Derived.Lib.LaidTab
import Derived.Lib.LaidU8
import Derived.Stop.LaidErr
import Derived.Stop.Joined
import Derived.LaidMore
import Derived.Carry
namespace Go.Proofs.YtjdkbmlkplbmoaaGreatDoor
set_option maxRecDepth 100000
open Go.ChangeShapes Go.WideShapes Go.ChangeAt Go.RowKit
set_option linter.unusedVariables false
set_option linter.unusedSimpArgs false

theorem Tryz.ownK : ownKnob Tryz.prog.godebug = none := by kernel_rfl
theorem Tryz.laidOutK : laidOutB Tryz.prog = true := by kernel_rfl
theorem cLn : Tryz.prog.cellsOf 46 = 4 := by kernel_rfl
theorem cRt : Tryz.prog.cellsOf 35 = 2 := by kernel_rfl
theorem cSt : Tryz.prog.cellsOf 9 = 1 := by kernel_rfl
theorem cIn : Tryz.prog.cellsOf 3 = 1 := by kernel_rfl
section
variable {H : Type} {enc : TypeId × Value → H} {w : World} {base : Nat} {sp : Nat → Bool} {held : Bool}
theorem rat_cellsK {fuel : Nat} {cs : List Value} {x : DataW H × List MemPlace} (h : DataW.trod enc Tryz.prog w base sp held fuel 35 cs = some x) :
    ∃ a b : ByteArray, cs = [.string a, .string b] ∧ a.size ≤ 9223372036854775807 ∧ b.size ≤ 9223372036854775807 := by
  obtain ⟨xs, n, _, _, hlen, hxl, hf⟩ := DataW.trod_struct Tryz.underlying35 h
  rw [cRt] at hlen
  obtain ⟨v0, v1, rfl⟩ : ∃ v0 v1, cs = [v0, v1] := by
    match cs, hlen with
    | [v0, v1], _ => exact ⟨v0, v1, rfl⟩
  have hx2 : xs.length = 2 := hxl
  have h0 : DataW.trod enc Tryz.prog w base sp held n 9 (List.take (Tryz.prog.cellsOf 9) (List.drop 0 [v0, v1])) = xs[0]? := hf 0 _ rfl
  have h1 : DataW.trod enc Tryz.prog w base sp held n 9 (List.take (Tryz.prog.cellsOf 9) (List.drop 1 [v0, v1])) = xs[1]? := hf 1 _ rfl
  rw [List.getElem?_eq_getElem (by omega)] at h0 h1
  rw [cSt] at h0 h1
  obtain ⟨a, ea, _, ha⟩ := DataW.trod_string Tryz.underlying9 h0
  obtain ⟨b, eb, _, hb⟩ := DataW.trod_string Tryz.underlying9 h1
  have e0 : v0 = .string a := by simpa using ea
  have e1 : v1 = .string b := by simpa using eb
  subst e0; subst e1
  exact ⟨a, b, rfl, by simpa [maxLen] using ha, by simpa [maxLen] using hb⟩
theorem line_cells {fuel : Nat} {cs : List Value} {x : DataW H × List MemPlace} (h : DataW.trod enc Tryz.prog w base sp held fuel 46 cs = some x) :
    ∃ f : Ln, cs = Ln.cs f ∧ lnok f := by
  obtain ⟨xs, n, _, _, hlen, hxl, hf⟩ := DataW.trod_struct Tryz.underlying46 h
  rw [cLn] at hlen
  obtain ⟨v0, v1, v2, v3, rfl⟩ : ∃ v0 v1 v2 v3, cs = [v0, v1, v2, v3] := by
    match cs, hlen with
    | [v0, v1, v2, v3], _ => exact ⟨v0, v1, v2, v3, rfl⟩
  have hx3 : xs.length = 3 := hxl
  have h0 : DataW.trod enc Tryz.prog w base sp held n 9 (List.take (Tryz.prog.cellsOf 9) (List.drop 0 [v0, v1, v2, v3])) = xs[0]? := hf 0 _ rfl
  have h1 : DataW.trod enc Tryz.prog w base sp held n 9 (List.take (Tryz.prog.cellsOf 9) (List.drop 1 [v0, v1, v2, v3])) = xs[1]? := hf 1 _ rfl
  have h2 : DataW.trod enc Tryz.prog w base sp held n 35 (List.take (Tryz.prog.cellsOf 35) (List.drop 2 [v0, v1, v2, v3])) = xs[2]? := hf 2 _ rfl
  rw [List.getElem?_eq_getElem (by omega)] at h0 h1 h2
  rw [cSt] at h0 h1
  rw [cRt] at h2
  obtain ⟨a, ea, _, ha⟩ := DataW.trod_string Tryz.underlying9 h0
  obtain ⟨k, ek, _, hk⟩ := DataW.trod_string Tryz.underlying9 h1
  obtain ⟨p, q, ep, hp, hq⟩ := rat_cellsK h2
  have e0 : v0 = .string a := by simpa using ea
  have e1 : v1 = .string k := by simpa using ek
  have e2 : v2 = .string p ∧ v3 = .string q := by simpa using ep
  obtain ⟨e2, e3⟩ := e2
  subst e0; subst e1; subst e2; subst e3
  exact ⟨⟨a, k, ⟨p, q⟩⟩, rfl, by simpa [maxLen] using ha, by simpa [maxLen] using hk, hp, hq⟩
/-- A line by value. -/
theorem open_line {r : Reach} {b0 : Nat} {v : Value} {d : DataW H} {p : List MemPlace} (hv : Value.okWide Tryz.prog w r b0 46 v) (h : DataW.Trod enc Tryz.prog w base sp held 46 v d p) :
    ∃ f : Ln, v = .agg #[.string f.acct, .string f.asset, .string f.q.num, .string f.q.den] ∧ lnok f := by
  obtain ⟨cs, rfl, hsz⟩ := okWide_struct Tryz.underlying46 hv
  obtain ⟨fuel, hf⟩ := h
  obtain ⟨f, he, hok⟩ := line_cells hf
  obtain ⟨l⟩ := cs
  have he' : l = Ln.cs f := he
  subst he'
  exact ⟨f, rfl, hok⟩
/-- A list of lines, of whatever type of slices. -/
theorem open_lines {t : TypeId} {r : Reach} {b0 : Nat} {v : Value} {d : DataW H} {p : List MemPlace} (ht : Tryz.prog.underlying t = some (.slice 46)) (hv : Value.okWide Tryz.prog w r b0 t v) (h : DataW.Trod enc Tryz.prog w base sp held t v d p) :
    ∃ A n c xs, v = .slice A n c ∧ Rd Ln.cs 4 w A n xs ∧ ∀ f ∈ xs, lnok f := by
  obtain ⟨A, n, c, rfl⟩ := okWide_slice ht hv
  obtain ⟨fuel, hf⟩ := h
  rcases Go.Deep.open_slice ht hf with ⟨e, _⟩ | ⟨a, len, cap, m, k, D, Pl, e, hb, hl, hm, hmm, hx, hi⟩
  · have e' : Value.slice A n c = .slice none 0 0 := by simpa [Value.cells] using e
    injection e' with e1 e2 e3
    subst e1; subst e2; subst e3
    exact ⟨_, _, _, [], rfl, Rd.nil, fun f hf => by cases hf⟩
  · have e' : Value.slice A n c = .slice (some a) len cap := by simpa [Value.cells] using e
    injection e' with e1 e2 e3
    subst e1; subst e2; subst e3
    have hlm : n ≤ m := by rw [hmm]; split <;> omega
    have key : ∀ i : Fin n, ∃ f : Ln, lnok f ∧ ∀ j u, (Ln.cs f)[j]? = some u → w.cell? (a.add (i.1 * 4 + j)) = some u := by
      intro i
      obtain ⟨cs', hc, htt⟩ := hi i.1 (by omega)
      rw [cLn] at hc
      obtain ⟨f, rfl, hok⟩ := line_cells htt
      obtain ⟨_, _, hat⟩ := World.cells?_some hc
      refine ⟨f, hok, fun j u hu => ?_⟩
      have hj : j < 4 := (List.getElem?_eq_some_iff.1 hu).1
      rw [← add_add, hat j hj, hu]
    obtain ⟨F, hF⟩ := Classical.axiomOfChoice key
    refine ⟨_, _, _, List.ofFn F, rfl, ⟨by simp, by simp only [maxLen] at hm; omega, fun hn => ⟨a, rfl, ?_, ?_⟩⟩, ?_⟩
    · have := (hF ⟨0, hn⟩).2 0 _ rfl
      have h2 := block_lt_of_cell this
      rw [add_block] at h2
      exact h2
    · intro j x hj i u hu
      obtain ⟨hjl, rfl⟩ := List.getElem?_eq_some_iff.1 hj
      rw [List.getElem_ofFn] at hu
      exact (hF ⟨j, by simpa using hjl⟩).2 i u hu
    · intro f hf
      obtain ⟨i, rfl⟩ := List.mem_ofFn.1 hf
      exact (hF i).1
end
/-! ### The given tables -/
abbrev laidsK : List (String × DataW Unit) := Rows.instructTellsRow.laid
theorem globK {W : World} (h : laidMet Tryz.prog laidsK W) : Glob W :=
  Lib.tabIs_of_head (g := (Tryz.prog.globalNamed "internal/strconv.uint64pow10").getD 0) (by kernel_rfl) (t := 209) (by kernel_rfl) (n := 20) (e := 122) (by kernel_rfl) (by kernel_rfl) (by kernel_rfl) (by kernel_rfl) h.tail.tail
end Go.Proofs.YtjdkbmlkplbmoaaGreatDoor
