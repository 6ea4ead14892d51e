/- Arguments opened: fractions, prices, parts, actions, packs. -/
import Derived.Test.YtdkpbifpafaabaaGreatDoorRoB
namespace Go.Proofs.YtdkpbifpafaabaaGreatDoor
set_option maxRecDepth 100000
open Go.ChangeShapes Go.WideShapes Go.ChangeAt Go.RowKit
set_option linter.unusedVariables false
set_option linter.unusedSimpArgs false

theorem c_rt : Tryz.prog.cellsOf 23 = 2 := by kernel_rfl
theorem rt_cells {H : Type} {enc : TypeId × Value → H} {w : World} {base : Nat} {sp : Nat → Bool} {held : Bool} {fuel : Nat} {cs : List Value} {x : DataW H × List MemPlace} (h : DataW.trod enc Tryz.prog w base sp held fuel 23 cs = some x) : ∃ f : RT, cs = RT.cs f ∧ rtok f := by
  obtain ⟨xs, n, _, _, hlen, hxl, hf⟩ := DataW.trod_struct Tryz.underlying23 h
  rw [c_rt] at hlen
  obtain ⟨v0, v1, rfl⟩ : ∃ v0 v1, cs = [v0, v1] := by
    match cs, hlen with
    | [v0, v1], _ => exact ⟨v0, v1, rfl⟩
  have hxl' : xs.length = 2 := hxl
  have h0 : DataW.trod enc Tryz.prog w base sp held n 9 (List.take (Tryz.prog.cellsOf 9) (List.drop 0 [v0, v1])) = xs[0]? := hf 0 _ rfl
  have h1 : DataW.trod enc Tryz.prog w base sp held n 9 (List.take (Tryz.prog.cellsOf 9) (List.drop 1 [v0, v1])) = xs[1]? := hf 1 _ rfl
  rw [List.getElem?_eq_getElem (by omega)] at h0 h1
  rw [cSt] at h0 h1
  obtain ⟨s0, rfl, hs0⟩ := str_cell h0
  obtain ⟨s1, rfl, hs1⟩ := str_cell h1
  exact ⟨⟨s0, s1⟩, rfl, hs0, hs1⟩
theorem rt_rows {H : Type} {enc : TypeId × Value → H} {w : World} {base : Nat} {sp : Nat → Bool} {held : Bool} {fuel : Nat} {cs : List Value} {x : DataW H × List MemPlace} (h : DataW.trod enc Tryz.prog w base sp held fuel 42 cs = some x) : ∃ A n c xs, cs = [.slice A n c] ∧ n ≤ c ∧ Rd RT.cs 2 w A n xs ∧ ∀ f ∈ xs, rtok f :=
  open_rows Tryz.underlying42 c_rt (fun _ => rfl) (by omega) (fun _ => ⟨_, rfl⟩) (fun _ _ _ h => rt_cells h) h
theorem open_rt {H : Type} {enc : TypeId × Value → H} {w : World} {base : Nat} {sp : Nat → Bool} {held : Bool} {r : Reach} {b0 : Nat} {v : Value} {d : DataW H} {p : List MemPlace} (hv : Value.okWide Tryz.prog w r b0 23 v) (h : DataW.Trod enc Tryz.prog w base sp held 23 v d p) : ∃ f : RT, v = .agg (RT.cs f).toArray ∧ rtok f := by
  obtain ⟨cs, rfl, hsz⟩ := okWide_struct Tryz.underlying23 hv
  obtain ⟨fuel, hf⟩ := h
  obtain ⟨f, he, hok⟩ := rt_cells hf
  obtain ⟨l⟩ := cs
  have he' : l = RT.cs f := he
  subst he'
  exact ⟨f, rfl, hok⟩
theorem open_rts {H : Type} {enc : TypeId × Value → H} {w : World} {base : Nat} {sp : Nat → Bool} {held : Bool} {r : Reach} {b0 : Nat} {v : Value} {d : DataW H} {p : List MemPlace} (hv : Value.okWide Tryz.prog w r b0 42 v) (h : DataW.Trod enc Tryz.prog w base sp held 42 v d p) : ∃ A n c xs, v = .slice A n c ∧ n ≤ c ∧ Rd RT.cs 2 w A n xs ∧ ∀ f ∈ xs, rtok f := by
  obtain ⟨A, n, c, rfl⟩ := okWide_slice Tryz.underlying42 hv
  obtain ⟨fuel, hf⟩ := h
  obtain ⟨A', n', c', xs, e, hn, hr, ho⟩ := rt_rows hf
  have e' : Value.slice A n c = .slice A' n' c' := by simpa [Value.cells] using e
  injection e' with e1 e2 e3
  subst e1; subst e2; subst e3
  exact ⟨_, _, _, xs, rfl, hn, hr, ho⟩
def fixok (f : Fx) : Prop := stok f.asset ∧ i64ok f.day ∧ rtok f.p
theorem c_fix : Tryz.prog.cellsOf 47 = 4 := by kernel_rfl
theorem fix_cells {H : Type} {enc : TypeId × Value → H} {w : World} {base : Nat} {sp : Nat → Bool} {held : Bool} {fuel : Nat} {cs : List Value} {x : DataW H × List MemPlace} (h : DataW.trod enc Tryz.prog w base sp held fuel 47 cs = some x) : ∃ f : Fx, cs = Fx.cs f ∧ fixok f := by
  obtain ⟨xs, n, _, _, hlen, hxl, hf⟩ := DataW.trod_struct Tryz.underlying47 h
  rw [c_fix] at hlen
  obtain ⟨v0, v1, v2, v3, rfl⟩ : ∃ v0 v1 v2 v3, cs = [v0, v1, v2, v3] := by
    match cs, hlen with
    | [v0, v1, v2, v3], _ => exact ⟨v0, v1, v2, v3, rfl⟩
  have hxl' : xs.length = 3 := hxl
  have h0 : DataW.trod enc Tryz.prog w base sp held n 9 (List.take (Tryz.prog.cellsOf 9) (List.drop 0 [v0, v1, v2, v3])) = xs[0]? := hf 0 _ rfl
  have h1 : DataW.trod enc Tryz.prog w base sp held n 3 (List.take (Tryz.prog.cellsOf 3) (List.drop 1 [v0, v1, v2, v3])) = xs[1]? := hf 1 _ rfl
  have h2 : DataW.trod enc Tryz.prog w base sp held n 23 (List.take (Tryz.prog.cellsOf 23) (List.drop 2 [v0, v1, v2, v3])) = xs[2]? := hf 2 _ rfl
  rw [List.getElem?_eq_getElem (by omega)] at h0 h1 h2
  rw [cSt] at h0
  rw [cIn] at h1
  rw [cRt] at h2
  obtain ⟨s0, rfl, hs0⟩ := str_cell h0
  obtain ⟨k1, rfl, hs1⟩ := int_cell h1
  obtain ⟨⟨p2, q2⟩, e2, hs2⟩ := rat_cellsK h2
  have e2' : v2 = .string p2 ∧ v3 = .string q2 := by simpa [RT.cs] using e2
  obtain ⟨g2, j2⟩ := e2'
  subst g2; subst j2
  exact ⟨⟨s0, k1, ⟨p2, q2⟩⟩, rfl, hs0, hs1, hs2⟩
theorem fix_rows {H : Type} {enc : TypeId × Value → H} {w : World} {base : Nat} {sp : Nat → Bool} {held : Bool} {fuel : Nat} {cs : List Value} {x : DataW H × List MemPlace} (h : DataW.trod enc Tryz.prog w base sp held fuel 29 cs = some x) : ∃ A n c xs, cs = [.slice A n c] ∧ n ≤ c ∧ Rd Fx.cs 4 w A n xs ∧ ∀ f ∈ xs, fixok f :=
  open_rows Tryz.underlying29 c_fix (fun _ => rfl) (by omega) (fun _ => ⟨_, rfl⟩) (fun _ _ _ h => fix_cells h) h
theorem open_fix {H : Type} {enc : TypeId × Value → H} {w : World} {base : Nat} {sp : Nat → Bool} {held : Bool} {r : Reach} {b0 : Nat} {v : Value} {d : DataW H} {p : List MemPlace} (hv : Value.okWide Tryz.prog w r b0 47 v) (h : DataW.Trod enc Tryz.prog w base sp held 47 v d p) : ∃ f : Fx, v = .agg (Fx.cs f).toArray ∧ fixok f := by
  obtain ⟨cs, rfl, hsz⟩ := okWide_struct Tryz.underlying47 hv
  obtain ⟨fuel, hf⟩ := h
  obtain ⟨f, he, hok⟩ := fix_cells hf
  obtain ⟨l⟩ := cs
  have he' : l = Fx.cs f := he
  subst he'
  exact ⟨f, rfl, hok⟩
theorem open_fixs {H : Type} {enc : TypeId × Value → H} {w : World} {base : Nat} {sp : Nat → Bool} {held : Bool} {r : Reach} {b0 : Nat} {v : Value} {d : DataW H} {p : List MemPlace} (hv : Value.okWide Tryz.prog w r b0 29 v) (h : DataW.Trod enc Tryz.prog w base sp held 29 v d p) : ∃ A n c xs, v = .slice A n c ∧ n ≤ c ∧ Rd Fx.cs 4 w A n xs ∧ ∀ f ∈ xs, fixok f := by
  obtain ⟨A, n, c, rfl⟩ := okWide_slice Tryz.underlying29 hv
  obtain ⟨fuel, hf⟩ := h
  obtain ⟨A', n', c', xs, e, hn, hr, ho⟩ := fix_rows hf
  have e' : Value.slice A n c = .slice A' n' c' := by simpa [Value.cells] using e
  injection e' with e1 e2 e3
  subst e1; subst e2; subst e3
  exact ⟨_, _, _, xs, rfl, hn, hr, ho⟩
def ptok (f : Pt) : Prop := stok f.asset ∧ rtok f.ratio
theorem c_pt : Tryz.prog.cellsOf 45 = 3 := by kernel_rfl
theorem pt_cells {H : Type} {enc : TypeId × Value → H} {w : World} {base : Nat} {sp : Nat → Bool} {held : Bool} {fuel : Nat} {cs : List Value} {x : DataW H × List MemPlace} (h : DataW.trod enc Tryz.prog w base sp held fuel 45 cs = some x) : ∃ f : Pt, cs = Pt.cs f ∧ ptok f := by
  obtain ⟨xs, n, _, _, hlen, hxl, hf⟩ := DataW.trod_struct Tryz.underlying45 h
  rw [c_pt] at hlen
  obtain ⟨v0, v1, v2, rfl⟩ : ∃ v0 v1 v2, cs = [v0, v1, v2] := by
    match cs, hlen with
    | [v0, v1, v2], _ => exact ⟨v0, v1, v2, rfl⟩
  have hxl' : xs.length = 2 := hxl
  have h0 : DataW.trod enc Tryz.prog w base sp held n 9 (List.take (Tryz.prog.cellsOf 9) (List.drop 0 [v0, v1, v2])) = xs[0]? := hf 0 _ rfl
  have h1 : DataW.trod enc Tryz.prog w base sp held n 23 (List.take (Tryz.prog.cellsOf 23) (List.drop 1 [v0, v1, v2])) = xs[1]? := hf 1 _ rfl
  rw [List.getElem?_eq_getElem (by omega)] at h0 h1
  rw [cSt] at h0
  rw [cRt] at h1
  obtain ⟨s0, rfl, hs0⟩ := str_cell h0
  obtain ⟨⟨p1, q1⟩, e1, hs1⟩ := rat_cellsK h1
  have e1' : v1 = .string p1 ∧ v2 = .string q1 := by simpa [RT.cs] using e1
  obtain ⟨g1, j1⟩ := e1'
  subst g1; subst j1
  exact ⟨⟨s0, ⟨p1, q1⟩⟩, rfl, hs0, hs1⟩
theorem pt_rows {H : Type} {enc : TypeId × Value → H} {w : World} {base : Nat} {sp : Nat → Bool} {held : Bool} {fuel : Nat} {cs : List Value} {x : DataW H × List MemPlace} (h : DataW.trod enc Tryz.prog w base sp held fuel 26 cs = some x) : ∃ A n c xs, cs = [.slice A n c] ∧ n ≤ c ∧ Rd Pt.cs 3 w A n xs ∧ ∀ f ∈ xs, ptok f :=
  open_rows Tryz.underlying26 c_pt (fun _ => rfl) (by omega) (fun _ => ⟨_, rfl⟩) (fun _ _ _ h => pt_cells h) h
theorem open_pt {H : Type} {enc : TypeId × Value → H} {w : World} {base : Nat} {sp : Nat → Bool} {held : Bool} {r : Reach} {b0 : Nat} {v : Value} {d : DataW H} {p : List MemPlace} (hv : Value.okWide Tryz.prog w r b0 45 v) (h : DataW.Trod enc Tryz.prog w base sp held 45 v d p) : ∃ f : Pt, v = .agg (Pt.cs f).toArray ∧ ptok f := by
  obtain ⟨cs, rfl, hsz⟩ := okWide_struct Tryz.underlying45 hv
  obtain ⟨fuel, hf⟩ := h
  obtain ⟨f, he, hok⟩ := pt_cells hf
  obtain ⟨l⟩ := cs
  have he' : l = Pt.cs f := he
  subst he'
  exact ⟨f, rfl, hok⟩
theorem open_pts {H : Type} {enc : TypeId × Value → H} {w : World} {base : Nat} {sp : Nat → Bool} {held : Bool} {r : Reach} {b0 : Nat} {v : Value} {d : DataW H} {p : List MemPlace} (hv : Value.okWide Tryz.prog w r b0 26 v) (h : DataW.Trod enc Tryz.prog w base sp held 26 v d p) : ∃ A n c xs, v = .slice A n c ∧ n ≤ c ∧ Rd Pt.cs 3 w A n xs ∧ ∀ f ∈ xs, ptok f := by
  obtain ⟨A, n, c, rfl⟩ := okWide_slice Tryz.underlying26 hv
  obtain ⟨fuel, hf⟩ := h
  obtain ⟨A', n', c', xs, e, hn, hr, ho⟩ := pt_rows hf
  have e' : Value.slice A n c = .slice A' n' c' := by simpa [Value.cells] using e
  injection e' with e1 e2 e3
  subst e1; subst e2; subst e3
  exact ⟨_, _, _, xs, rfl, hn, hr, ho⟩
def acok (f : Ac) : Prop := stok f.name ∧ i64ok f.kind ∧ stok f.asset ∧ stok f.other ∧ rtok f.ratio ∧ rtok f.cash ∧ i64ok f.ex ∧ i64ok f.rcd ∧ i64ok f.pay
theorem c_ac : Tryz.prog.cellsOf 25 = 11 := by kernel_rfl
theorem ac_cells {H : Type} {enc : TypeId × Value → H} {w : World} {base : Nat} {sp : Nat → Bool} {held : Bool} {fuel : Nat} {cs : List Value} {x : DataW H × List MemPlace} (h : DataW.trod enc Tryz.prog w base sp held fuel 25 cs = some x) : ∃ f : Ac, cs = Ac.cs f ∧ acok f := by
  obtain ⟨xs, n, _, _, hlen, hxl, hf⟩ := DataW.trod_struct Tryz.underlying25 h
  rw [c_ac] at hlen
  obtain ⟨v0, v1, v2, v3, v4, v5, v6, v7, v8, v9, v10, rfl⟩ : ∃ v0 v1 v2 v3 v4 v5 v6 v7 v8 v9 v10, cs = [v0, v1, v2, v3, v4, v5, v6, v7, v8, v9, v10] := by
    match cs, hlen with
    | [v0, v1, v2, v3, v4, v5, v6, v7, v8, v9, v10], _ => exact ⟨v0, v1, v2, v3, v4, v5, v6, v7, v8, v9, v10, rfl⟩
  have hxl' : xs.length = 9 := hxl
  have h0 : DataW.trod enc Tryz.prog w base sp held n 9 (List.take (Tryz.prog.cellsOf 9) (List.drop 0 [v0, v1, v2, v3, v4, v5, v6, v7, v8, v9, v10])) = xs[0]? := hf 0 _ rfl
  have h1 : DataW.trod enc Tryz.prog w base sp held n 3 (List.take (Tryz.prog.cellsOf 3) (List.drop 1 [v0, v1, v2, v3, v4, v5, v6, v7, v8, v9, v10])) = xs[1]? := hf 1 _ rfl
  have h2 : DataW.trod enc Tryz.prog w base sp held n 9 (List.take (Tryz.prog.cellsOf 9) (List.drop 2 [v0, v1, v2, v3, v4, v5, v6, v7, v8, v9, v10])) = xs[2]? := hf 2 _ rfl
  have h3 : DataW.trod enc Tryz.prog w base sp held n 9 (List.take (Tryz.prog.cellsOf 9) (List.drop 3 [v0, v1, v2, v3, v4, v5, v6, v7, v8, v9, v10])) = xs[3]? := hf 3 _ rfl
  have h4 : DataW.trod enc Tryz.prog w base sp held n 23 (List.take (Tryz.prog.cellsOf 23) (List.drop 4 [v0, v1, v2, v3, v4, v5, v6, v7, v8, v9, v10])) = xs[4]? := hf 4 _ rfl
  have h5 : DataW.trod enc Tryz.prog w base sp held n 23 (List.take (Tryz.prog.cellsOf 23) (List.drop 6 [v0, v1, v2, v3, v4, v5, v6, v7, v8, v9, v10])) = xs[5]? := hf 5 _ rfl
  have h6 : DataW.trod enc Tryz.prog w base sp held n 3 (List.take (Tryz.prog.cellsOf 3) (List.drop 8 [v0, v1, v2, v3, v4, v5, v6, v7, v8, v9, v10])) = xs[6]? := hf 6 _ rfl
  have h7 : DataW.trod enc Tryz.prog w base sp held n 3 (List.take (Tryz.prog.cellsOf 3) (List.drop 9 [v0, v1, v2, v3, v4, v5, v6, v7, v8, v9, v10])) = xs[7]? := hf 7 _ rfl
  have h8 : DataW.trod enc Tryz.prog w base sp held n 3 (List.take (Tryz.prog.cellsOf 3) (List.drop 10 [v0, v1, v2, v3, v4, v5, v6, v7, v8, v9, v10])) = xs[8]? := hf 8 _ rfl
  rw [List.getElem?_eq_getElem (by omega)] at h0 h1 h2 h3 h4 h5 h6 h7 h8
  rw [cSt] at h0 h2 h3
  rw [cIn] at h1 h6 h7 h8
  rw [cRt] at h4 h5
  obtain ⟨s0, rfl, hs0⟩ := str_cell h0
  obtain ⟨k1, rfl, hs1⟩ := int_cell h1
  obtain ⟨s2, rfl, hs2⟩ := str_cell h2
  obtain ⟨s3, rfl, hs3⟩ := str_cell h3
  obtain ⟨⟨p4, q4⟩, e4, hs4⟩ := rat_cellsK h4
  have e4' : v4 = .string p4 ∧ v5 = .string q4 := by simpa [RT.cs] using e4
  obtain ⟨g4, j4⟩ := e4'
  subst g4; subst j4
  obtain ⟨⟨p5, q5⟩, e5, hs5⟩ := rat_cellsK h5
  have e5' : v6 = .string p5 ∧ v7 = .string q5 := by simpa [RT.cs] using e5
  obtain ⟨g5, j5⟩ := e5'
  subst g5; subst j5
  obtain ⟨k6, rfl, hs6⟩ := int_cell h6
  obtain ⟨k7, rfl, hs7⟩ := int_cell h7
  obtain ⟨k8, rfl, hs8⟩ := int_cell h8
  exact ⟨⟨s0, k1, s2, s3, ⟨p4, q4⟩, ⟨p5, q5⟩, k6, k7, k8⟩, rfl, hs0, hs1, hs2, hs3, hs4, hs5, hs6, hs7, hs8⟩
theorem ac_rows {H : Type} {enc : TypeId × Value → H} {w : World} {base : Nat} {sp : Nat → Bool} {held : Bool} {fuel : Nat} {cs : List Value} {x : DataW H × List MemPlace} (h : DataW.trod enc Tryz.prog w base sp held fuel 54 cs = some x) : ∃ A n c xs, cs = [.slice A n c] ∧ n ≤ c ∧ Rd Ac.cs 11 w A n xs ∧ ∀ f ∈ xs, acok f :=
  open_rows Tryz.underlying54 c_ac (fun _ => rfl) (by omega) (fun _ => ⟨_, rfl⟩) (fun _ _ _ h => ac_cells h) h
theorem open_ac {H : Type} {enc : TypeId × Value → H} {w : World} {base : Nat} {sp : Nat → Bool} {held : Bool} {r : Reach} {b0 : Nat} {v : Value} {d : DataW H} {p : List MemPlace} (hv : Value.okWide Tryz.prog w r b0 25 v) (h : DataW.Trod enc Tryz.prog w base sp held 25 v d p) : ∃ f : Ac, v = .agg (Ac.cs f).toArray ∧ acok f := by
  obtain ⟨cs, rfl, hsz⟩ := okWide_struct Tryz.underlying25 hv
  obtain ⟨fuel, hf⟩ := h
  obtain ⟨f, he, hok⟩ := ac_cells hf
  obtain ⟨l⟩ := cs
  have he' : l = Ac.cs f := he
  subst he'
  exact ⟨f, rfl, hok⟩
theorem open_acs {H : Type} {enc : TypeId × Value → H} {w : World} {base : Nat} {sp : Nat → Bool} {held : Bool} {r : Reach} {b0 : Nat} {v : Value} {d : DataW H} {p : List MemPlace} (hv : Value.okWide Tryz.prog w r b0 54 v) (h : DataW.Trod enc Tryz.prog w base sp held 54 v d p) : ∃ A n c xs, v = .slice A n c ∧ n ≤ c ∧ Rd Ac.cs 11 w A n xs ∧ ∀ f ∈ xs, acok f := by
  obtain ⟨A, n, c, rfl⟩ := okWide_slice Tryz.underlying54 hv
  obtain ⟨fuel, hf⟩ := h
  obtain ⟨A', n', c', xs, e, hn, hr, ho⟩ := ac_rows hf
  have e' : Value.slice A n c = .slice A' n' c' := by simpa [Value.cells] using e
  injection e' with e1 e2 e3
  subst e1; subst e2; subst e3
  exact ⟨_, _, _, xs, rfl, hn, hr, ho⟩
theorem c_pack : Tryz.prog.cellsOf 28 = 3 := by kernel_rfl
theorem c_pack0 : Tryz.prog.cellsOf 26 = 1 := by kernel_rfl
theorem pack_cells {H : Type} {enc : TypeId × Value → H} {w : World} {base : Nat} {sp : Nat → Bool} {held : Bool} {fuel : Nat} {cs : List Value} {x : DataW H × List MemPlace} (h : DataW.trod enc Tryz.prog w base sp held fuel 28 cs = some x) : ∃ (A : Option Addr) (n c : Nat) (xs : List Pt) (p1 q1 : ByteArray), cs = [.slice A n c, .string p1, .string q1] ∧ n ≤ c ∧ Rd Pt.cs 3 w A n xs ∧ (∀ f ∈ xs, ptok f) ∧ rtok ⟨p1, q1⟩ := by
  obtain ⟨xs, n, _, _, hlen, hxl, hf⟩ := DataW.trod_struct Tryz.underlying28 h
  rw [c_pack] at hlen
  obtain ⟨v0, v1, v2, rfl⟩ : ∃ v0 v1 v2, cs = [v0, v1, v2] := by
    match cs, hlen with
    | [v0, v1, v2], _ => exact ⟨v0, v1, v2, rfl⟩
  have hxl' : xs.length = 2 := hxl
  have h0 : DataW.trod enc Tryz.prog w base sp held n 26 (List.take (Tryz.prog.cellsOf 26) (List.drop 0 [v0, v1, v2])) = xs[0]? := hf 0 _ rfl
  have h1 : DataW.trod enc Tryz.prog w base sp held n 23 (List.take (Tryz.prog.cellsOf 23) (List.drop 1 [v0, v1, v2])) = xs[1]? := hf 1 _ rfl
  rw [List.getElem?_eq_getElem (by omega)] at h0 h1
  rw [c_pack0] at h0
  rw [cRt] at h1
  obtain ⟨A, m, c, ys, e0, hn, hr, ho⟩ := pt_rows h0
  have e0' : v0 = .slice A m c := by simpa using e0
  subst e0'
  obtain ⟨⟨p1, q1⟩, e1, hs1⟩ := rat_cellsK h1
  have e1' : v1 = .string p1 ∧ v2 = .string q1 := by simpa [RT.cs] using e1
  obtain ⟨g1, j1⟩ := e1'
  subst g1; subst j1
  exact ⟨A, m, c, ys, p1, q1, rfl, hn, hr, ho, hs1⟩
theorem open_pack {H : Type} {enc : TypeId × Value → H} {w : World} {base : Nat} {sp : Nat → Bool} {held : Bool} {r : Reach} {b0 : Nat} {v : Value} {d : DataW H} {p : List MemPlace} (hv : Value.okWide Tryz.prog w r b0 28 v) (h : DataW.Trod enc Tryz.prog w base sp held 28 v d p) : ∃ (A : Option Addr) (n c : Nat) (xs : List Pt) (p1 q1 : ByteArray), v = .agg #[.slice A n c, .string p1, .string q1] ∧ n ≤ c ∧ Rd Pt.cs 3 w A n xs ∧ (∀ f ∈ xs, ptok f) ∧ rtok ⟨p1, q1⟩ := by
  obtain ⟨cs, rfl, hsz⟩ := okWide_struct Tryz.underlying28 hv
  obtain ⟨fuel, hf⟩ := h
  obtain ⟨A, n, c, xs, p1, q1, he, hok⟩ := pack_cells hf
  obtain ⟨l⟩ := cs
  have he' : l = [.slice A n c, .string p1, .string q1] := he
  subst he'
  exact ⟨A, n, c, xs, p1, q1, rfl, hok⟩
theorem c_ask16 : Tryz.prog.cellsOf 31 = 3 := by kernel_rfl
theorem c_ask160 : Tryz.prog.cellsOf 29 = 1 := by kernel_rfl
theorem ask16_cells {H : Type} {enc : TypeId × Value → H} {w : World} {base : Nat} {sp : Nat → Bool} {held : Bool} {fuel : Nat} {cs : List Value} {x : DataW H × List MemPlace} (h : DataW.trod enc Tryz.prog w base sp held fuel 31 cs = some x) : ∃ (A : Option Addr) (n c : Nat) (xs : List Fx) (k1 : Int) (s2 : ByteArray), cs = [.slice A n c, .int .i64 k1, .string s2] ∧ n ≤ c ∧ Rd Fx.cs 4 w A n xs ∧ (∀ f ∈ xs, fixok f) ∧ i64ok k1 ∧ stok s2 := by
  obtain ⟨xs, n, _, _, hlen, hxl, hf⟩ := DataW.trod_struct Tryz.underlying31 h
  rw [c_ask16] at hlen
  obtain ⟨v0, v1, v2, rfl⟩ : ∃ v0 v1 v2, cs = [v0, v1, v2] := by
    match cs, hlen with
    | [v0, v1, v2], _ => exact ⟨v0, v1, v2, rfl⟩
  have hxl' : xs.length = 3 := hxl
  have h0 : DataW.trod enc Tryz.prog w base sp held n 29 (List.take (Tryz.prog.cellsOf 29) (List.drop 0 [v0, v1, v2])) = xs[0]? := hf 0 _ rfl
  have h1 : DataW.trod enc Tryz.prog w base sp held n 3 (List.take (Tryz.prog.cellsOf 3) (List.drop 1 [v0, v1, v2])) = xs[1]? := hf 1 _ rfl
  have h2 : DataW.trod enc Tryz.prog w base sp held n 9 (List.take (Tryz.prog.cellsOf 9) (List.drop 2 [v0, v1, v2])) = xs[2]? := hf 2 _ rfl
  rw [List.getElem?_eq_getElem (by omega)] at h0 h1 h2
  rw [c_ask160] at h0
  rw [cSt] at h2
  rw [cIn] at h1
  obtain ⟨A, m, c, ys, e0, hn, hr, ho⟩ := fix_rows h0
  have e0' : v0 = .slice A m c := by simpa using e0
  subst e0'
  obtain ⟨k1, rfl, hs1⟩ := int_cell h1
  obtain ⟨s2, rfl, hs2⟩ := str_cell h2
  exact ⟨A, m, c, ys, k1, s2, rfl, hn, hr, ho, hs1, hs2⟩
theorem open_ask16 {H : Type} {enc : TypeId × Value → H} {w : World} {base : Nat} {sp : Nat → Bool} {held : Bool} {r : Reach} {b0 : Nat} {v : Value} {d : DataW H} {p : List MemPlace} (hv : Value.okWide Tryz.prog w r b0 31 v) (h : DataW.Trod enc Tryz.prog w base sp held 31 v d p) : ∃ (A : Option Addr) (n c : Nat) (xs : List Fx) (k1 : Int) (s2 : ByteArray), v = .agg #[.slice A n c, .int .i64 k1, .string s2] ∧ n ≤ c ∧ Rd Fx.cs 4 w A n xs ∧ (∀ f ∈ xs, fixok f) ∧ i64ok k1 ∧ stok s2 := by
  obtain ⟨cs, rfl, hsz⟩ := okWide_struct Tryz.underlying31 hv
  obtain ⟨fuel, hf⟩ := h
  obtain ⟨A, n, c, xs, k1, s2, he, hok⟩ := ask16_cells hf
  obtain ⟨l⟩ := cs
  have he' : l = [.slice A n c, .int .i64 k1, .string s2] := he
  subst he'
  exact ⟨A, n, c, xs, k1, s2, rfl, hok⟩
end Go.Proofs.YtdkpbifpafaabaaGreatDoor
