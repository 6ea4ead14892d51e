/- Arguments opened: rows of whatever struct; fractions; the given tables; the world that bears them; terms. -/
import Derived.Test.YtjdofncognaaoaaGreatDoorTnF
import Derived.Test.YtjdofncognaaoaaGreatDoorRows
import Derived.ProofKit
import Derived.Deep.Slices
import Derived.ChangeSame
import Derived.Lay
import Derived.Lib.LaidTab
import Derived.Lib.LaidU8
import Derived.Stop.LaidErr
import Derived.Stop.Joined
import Derived.LaidMore
import Derived.Carry
namespace Go.Proofs.YtjdofncognaaoaaGreatDoor
set_option maxRecDepth 100000
open Go.ChangeShapes Go.WideShapes Go.ChangeAt Go.RowKit
set_option linter.unusedVariables false
set_option linter.unusedSimpArgs false

theorem Tryz.ownK : ownKnob Tryz.prog.godebug = none := by kernel_rfl
theorem Tryz.laidOutK : laidOutB Tryz.prog = true := by kernel_rfl
theorem cFx : Tryz.prog.cellsOf 58 = 4 := by kernel_rfl
theorem cRt : Tryz.prog.cellsOf 39 = 2 := by kernel_rfl
theorem cSt : Tryz.prog.cellsOf 9 = 1 := by kernel_rfl
theorem cIn : Tryz.prog.cellsOf 3 = 1 := by kernel_rfl
/-- An int of 64 bits. -/
def i64ok (k : Int) : Prop := -9223372036854775808 ≤ k ∧ k ≤ 9223372036854775807
/-- A text that can be read. -/
def stok (s : ByteArray) : Prop := s.size ≤ 9223372036854775807
def rtok (x : RT) : Prop := stok x.num ∧ stok x.den
section
variable {H : Type} {enc : TypeId × Value → H} {w : World} {base : Nat} {sp : Nat → Bool} {held : Bool}
/-- A slice among cells: its elements. -/
theorem open_rows {t T : TypeId} {α : Type} {e : α → List Value} {z : Nat} {ok : α → Prop} (ht : Tryz.prog.underlying t = some (.slice T)) (hT : Tryz.prog.cellsOf T = z) (hz : ∀ x, (e x).length = z) (hzp : 0 < z) (h1 : ∀ x : α, ∃ u, (e x)[0]? = some u)
    (hc : ∀ fuel cs x, DataW.trod enc Tryz.prog w base sp held fuel T cs = some x → ∃ f, cs = e f ∧ ok f) {fuel : Nat} {cs : List Value} {x : DataW H × List MemPlace} (h : DataW.trod enc Tryz.prog w base sp held fuel t cs = some x) :
    ∃ A n c xs, cs = [.slice A n c] ∧ n ≤ c ∧ Rd e z w A n xs ∧ ∀ f ∈ xs, ok f := by
  rcases Go.Deep.open_slice ht h with ⟨e1, _⟩ | ⟨a, n, cap, m, k, D, Pl, e1, hb, hl, hm, hmm, hx, hi⟩
  · exact ⟨none, 0, 0, [], e1, Nat.le_refl _, Rd.nil, fun f hf => by cases hf⟩
  · have hlm : n ≤ m := by rw [hmm]; split <;> omega
    have key : ∀ i : Fin n, ∃ f : α, ok f ∧ ∀ j u, (e f)[j]? = some u → w.cell? (a.add (i.1 * z + j)) = some u := by
      intro i
      obtain ⟨cs', hc', htt⟩ := hi i.1 (by omega)
      rw [hT] at hc'
      obtain ⟨f, rfl, hok⟩ := hc _ _ _ htt
      obtain ⟨_, _, hat⟩ := World.cells?_some hc'
      refine ⟨f, hok, fun j u hu => ?_⟩
      have hj : j < z := by rw [← hz f]; exact (List.getElem?_eq_some_iff.1 hu).1
      rw [← add_add, hat j hj, hu]
    obtain ⟨F, hF⟩ := Classical.axiomOfChoice key
    refine ⟨_, _, _, List.ofFn F, e1, by omega, ⟨by simp, by simp only [maxLen] at hm; omega, fun hn => ⟨a, rfl, ?_, ?_⟩⟩, ?_⟩
    · obtain ⟨u, hu⟩ := h1 (F ⟨0, hn⟩)
      have := (hF ⟨0, hn⟩).2 0 u hu
      have h2 := block_lt_of_cell this
      rw [add_block] at h2
      exact h2
    · intro j x hj i u hu
      obtain ⟨hjl, rfl⟩ := List.getElem?_eq_some_iff.1 hj
      rw [List.getElem_ofFn] at hu
      exact (hF ⟨j, by simpa using hjl⟩).2 i u hu
    · intro f hf
      obtain ⟨i, rfl⟩ := List.mem_ofFn.1 hf
      exact (hF i).1
theorem str_cell {fuel : Nat} {v : Value} {x : DataW H × List MemPlace} (h : DataW.trod enc Tryz.prog w base sp held fuel 9 [v] = some x) : ∃ a : ByteArray, v = .string a ∧ stok a := by
  obtain ⟨a, ea, _, ha⟩ := DataW.trod_string Tryz.underlying9 h
  exact ⟨a, by simpa using ea, by simpa [maxLen, stok] using ha⟩
theorem int_cell {fuel : Nat} {v : Value} {x : DataW H × List MemPlace} (h : DataW.trod enc Tryz.prog w base sp held fuel 3 [v] = some x) : ∃ k : Int, v = .int .i64 k ∧ i64ok k := by
  obtain ⟨k, ek, _, hk⟩ := DataW.trod_int Tryz.underlying3 h
  exact ⟨k, by simpa using ek, by simpa [Lit.wf, IntKind.min, IntKind.max, IntKind.signed, IntKind.bits, i64ok] using hk⟩
theorem rat_cellsK {fuel : Nat} {cs : List Value} {x : DataW H × List MemPlace} (h : DataW.trod enc Tryz.prog w base sp held fuel 39 cs = some x) :
    ∃ f : RT, cs = RT.cs f ∧ rtok f := by
  obtain ⟨xs, n, _, _, hlen, hxl, hf⟩ := DataW.trod_struct Tryz.underlying39 h
  rw [cRt] at hlen
  obtain ⟨v0, v1, rfl⟩ : ∃ v0 v1, cs = [v0, v1] := by
    match cs, hlen with
    | [v0, v1], _ => exact ⟨v0, v1, rfl⟩
  have hx2 : xs.length = 2 := hxl
  have h0 : DataW.trod enc Tryz.prog w base sp held n 9 (List.take (Tryz.prog.cellsOf 9) (List.drop 0 [v0, v1])) = xs[0]? := hf 0 _ rfl
  have h1 : DataW.trod enc Tryz.prog w base sp held n 9 (List.take (Tryz.prog.cellsOf 9) (List.drop 1 [v0, v1])) = xs[1]? := hf 1 _ rfl
  rw [List.getElem?_eq_getElem (by omega)] at h0 h1
  rw [cSt] at h0 h1
  obtain ⟨a, rfl, ha⟩ := str_cell h0
  obtain ⟨b, rfl, hb⟩ := str_cell h1
  exact ⟨⟨a, b⟩, rfl, ha, hb⟩
end
/-! ### The given tables -/
abbrev laidsK : List (String × DataW Unit) := Rows.termTellsRow.laid
theorem globK {W : World} (h : laidMet Tryz.prog laidsK W) : Glob W :=
  Lib.tabIs_of_head (g := (Tryz.prog.globalNamed "internal/strconv.uint64pow10").getD 0) (by kernel_rfl) (t := 204) (by kernel_rfl) (n := 20) (e := 174) (by kernel_rfl) (by kernel_rfl) (by kernel_rfl) (by kernel_rfl) h.tail.tail
def ndeok (f : Nd) : Prop := i64ok f.op ∧ rtok f.num ∧ stok f.asset ∧ i64ok f.a ∧ i64ok f.b
theorem c_nde : Tryz.prog.cellsOf 41 = 6 := by kernel_rfl
theorem nde_cells {H : Type} {enc : TypeId × Value → H} {w : World} {base : Nat} {sp : Nat → Bool} {held : Bool} {fuel : Nat} {cs : List Value} {x : DataW H × List MemPlace} (h : DataW.trod enc Tryz.prog w base sp held fuel 41 cs = some x) : ∃ f : Nd, cs = Nd.cs f ∧ ndeok f := by
  obtain ⟨xs, n, _, _, hlen, hxl, hf⟩ := DataW.trod_struct Tryz.underlying41 h
  rw [c_nde] at hlen
  obtain ⟨v0, v1, v2, v3, v4, v5, rfl⟩ : ∃ v0 v1 v2 v3 v4 v5, cs = [v0, v1, v2, v3, v4, v5] := by
    match cs, hlen with
    | [v0, v1, v2, v3, v4, v5], _ => exact ⟨v0, v1, v2, v3, v4, v5, rfl⟩
  have hxl' : xs.length = 5 := hxl
  have h0 : DataW.trod enc Tryz.prog w base sp held n 3 (List.take (Tryz.prog.cellsOf 3) (List.drop 0 [v0, v1, v2, v3, v4, v5])) = xs[0]? := hf 0 _ rfl
  have h1 : DataW.trod enc Tryz.prog w base sp held n 39 (List.take (Tryz.prog.cellsOf 39) (List.drop 1 [v0, v1, v2, v3, v4, v5])) = xs[1]? := hf 1 _ rfl
  have h2 : DataW.trod enc Tryz.prog w base sp held n 9 (List.take (Tryz.prog.cellsOf 9) (List.drop 3 [v0, v1, v2, v3, v4, v5])) = xs[2]? := hf 2 _ rfl
  have h3 : DataW.trod enc Tryz.prog w base sp held n 3 (List.take (Tryz.prog.cellsOf 3) (List.drop 4 [v0, v1, v2, v3, v4, v5])) = xs[3]? := hf 3 _ rfl
  have h4 : DataW.trod enc Tryz.prog w base sp held n 3 (List.take (Tryz.prog.cellsOf 3) (List.drop 5 [v0, v1, v2, v3, v4, v5])) = xs[4]? := hf 4 _ rfl
  rw [List.getElem?_eq_getElem (by omega)] at h0 h1 h2 h3 h4
  rw [cSt] at h2
  rw [cIn] at h0 h3 h4
  rw [cRt] at h1
  obtain ⟨k0, rfl, hs0⟩ := int_cell h0
  obtain ⟨⟨p1, q1⟩, e1, hs1⟩ := rat_cellsK h1
  have e1' : v1 = .string p1 ∧ v2 = .string q1 := by simpa [RT.cs] using e1
  obtain ⟨g1, j1⟩ := e1'
  subst g1; subst j1
  obtain ⟨s2, rfl, hs2⟩ := str_cell h2
  obtain ⟨k3, rfl, hs3⟩ := int_cell h3
  obtain ⟨k4, rfl, hs4⟩ := int_cell h4
  exact ⟨⟨k0, ⟨p1, q1⟩, s2, k3, k4⟩, rfl, hs0, hs1, hs2, hs3, hs4⟩
theorem nde_rows {H : Type} {enc : TypeId × Value → H} {w : World} {base : Nat} {sp : Nat → Bool} {held : Bool} {fuel : Nat} {cs : List Value} {x : DataW H × List MemPlace} (h : DataW.trod enc Tryz.prog w base sp held fuel 23 cs = some x) : ∃ A n c xs, cs = [.slice A n c] ∧ n ≤ c ∧ Rd Nd.cs 6 w A n xs ∧ ∀ f ∈ xs, ndeok f :=
  open_rows Tryz.underlying23 c_nde (fun _ => rfl) (by omega) (fun _ => ⟨_, rfl⟩) (fun _ _ _ h => nde_cells h) h
theorem open_nde {H : Type} {enc : TypeId × Value → H} {w : World} {base : Nat} {sp : Nat → Bool} {held : Bool} {r : Reach} {b0 : Nat} {v : Value} {d : DataW H} {p : List MemPlace} (hv : Value.okWide Tryz.prog w r b0 41 v) (h : DataW.Trod enc Tryz.prog w base sp held 41 v d p) : ∃ f : Nd, v = .agg (Nd.cs f).toArray ∧ ndeok f := by
  obtain ⟨cs, rfl, hsz⟩ := okWide_struct Tryz.underlying41 hv
  obtain ⟨fuel, hf⟩ := h
  obtain ⟨f, he, hok⟩ := nde_cells hf
  obtain ⟨l⟩ := cs
  have he' : l = Nd.cs f := he
  subst he'
  exact ⟨f, rfl, hok⟩
theorem open_ndes {H : Type} {enc : TypeId × Value → H} {w : World} {base : Nat} {sp : Nat → Bool} {held : Bool} {r : Reach} {b0 : Nat} {v : Value} {d : DataW H} {p : List MemPlace} (hv : Value.okWide Tryz.prog w r b0 23 v) (h : DataW.Trod enc Tryz.prog w base sp held 23 v d p) : ∃ A n c xs, v = .slice A n c ∧ n ≤ c ∧ Rd Nd.cs 6 w A n xs ∧ ∀ f ∈ xs, ndeok f := by
  obtain ⟨A, n, c, rfl⟩ := okWide_slice Tryz.underlying23 hv
  obtain ⟨fuel, hf⟩ := h
  obtain ⟨A', n', c', xs, e, hn, hr, ho⟩ := nde_rows hf
  have e' : Value.slice A n c = .slice A' n' c' := by simpa [Value.cells] using e
  injection e' with e1 e2 e3
  subst e1; subst e2; subst e3
  exact ⟨_, _, _, xs, rfl, hn, hr, ho⟩
theorem nde_nd {x : Nd} (h : ndeok x) : ndok x := ⟨h.2.1.1, h.2.1.2, h.2.2.1⟩
end Go.Proofs.YtjdofncognaaoaaGreatDoor
