/- Lists of fractions opened, with the bound on what their strings weigh. -/
import Derived.Test.YtdkpbifpafaabaaGreatDoorRoP
import Derived.SizedLaws
namespace Go.Proofs.YtdkpbifpafaabaaGreatDoor
set_option maxRecDepth 100000
open Go.ChangeShapes Go.WideShapes Go.ChangeAt Go.RowKit
set_option linter.unusedVariables false
set_option linter.unusedSimpArgs false

section
variable {H : Type} {enc : TypeId × Value → H} {w : World} {base : Nat} {sp : Nat → Bool} {held : Bool}
theorem weightsAll_mem {P : Program} {e : TypeId} : ∀ {l : List (DataW H)} {d : DataW H}, d ∈ l → ∀ n ∈ d.weights P e, n ∈ DataW.weightsAll P e l
  | a :: l, d, h, n, hn => by
    rw [DataW.weightsAll, List.mem_append]
    rcases List.mem_cons.1 h with rfl | h
    · exact .inl hn
    · exact .inr (weightsAll_mem h n hn)
theorem weights_agg {P : Program} {t : TypeId} {fs : Array Field} (hu : P.underlying t = some (.struct fs)) (parts : List (DataW H)) : (DataW.agg parts).weights P t = DataW.weightsEach P (fs.toList.map (·.type)) parts := by
  simp only [DataW.weights, hu]
theorem weights_slice {P : Program} {t e : TypeId} (hu : P.underlying t = some (.slice e)) (es sp : List (DataW H)) : (DataW.slice es sp).weights P t = (es.length + sp.length) * P.bytesOf e :: (DataW.weightsAll P e es ++ DataW.weightsAll P e sp) := by
  simp only [DataW.weights, hu]
theorem weights_str2 {P : Program} {t u : TypeId} (a b : ByteArray) : DataW.weightsEach P [t, u] [(DataW.lit (.string a.data.toList) : DataW H), .lit (.string b.data.toList)] = [a.data.toList.length, b.data.toList.length] := by
  simp [DataW.weightsEach, DataW.weights]
theorem rat_cellsW {fuel : Nat} {cs : List Value} {x : DataW H × List MemPlace} (h : DataW.trod enc Tryz.prog w base sp held fuel 23 cs = some x) (hw : ∀ n ∈ x.1.weights Tryz.prog 23, n ≤ reachBytes) :
    ∃ f : RT, cs = RT.cs f ∧ f.num.size ≤ reachBytes ∧ f.den.size ≤ reachBytes := by
  obtain ⟨xs, n, _, hx, hlen, hxl, hf⟩ := DataW.trod_struct Tryz.underlying23 h
  rw [c_rt] at hlen
  obtain ⟨v0, v1, rfl⟩ : ∃ v0 v1, cs = [v0, v1] := by
    match cs, hlen with
    | [v0, v1], _ => exact ⟨v0, v1, rfl⟩
  have hx2 : xs.length = 2 := hxl
  obtain ⟨y0, y1, rfl⟩ : ∃ y0 y1, xs = [y0, y1] := by
    match xs, hx2 with
    | [y0, y1], _ => exact ⟨y0, y1, rfl⟩
  have h0 : DataW.trod enc Tryz.prog w base sp held n 9 (List.take (Tryz.prog.cellsOf 9) (List.drop 0 [v0, v1])) = some y0 := hf 0 _ rfl
  have h1 : DataW.trod enc Tryz.prog w base sp held n 9 (List.take (Tryz.prog.cellsOf 9) (List.drop 1 [v0, v1])) = some y1 := hf 1 _ rfl
  rw [cSt] at h0 h1
  obtain ⟨a, ea, xa, _⟩ := DataW.trod_string Tryz.underlying9 h0
  obtain ⟨b, eb, xb, _⟩ := DataW.trod_string Tryz.underlying9 h1
  have e0 : v0 = .string a := by simpa using ea
  have e1 : v1 = .string b := by simpa using eb
  subst e0; subst e1; subst xa; subst xb; subst hx
  have hw' : ∀ n ∈ [a.data.toList.length, b.data.toList.length], n ≤ reachBytes := by
    intro n hn
    refine hw n ?_
    have e := weights_agg (H := H) Tryz.underlying23 [(DataW.lit (.string a.data.toList) : DataW H), .lit (.string b.data.toList)]
    have e2 : (DataW.agg ([(DataW.lit (.string a.data.toList), ([] : List MemPlace)), (DataW.lit (.string b.data.toList), [])].map (·.1))).weights Tryz.prog 23 = [a.data.toList.length, b.data.toList.length] := e.trans (weights_str2 (t := 9) (u := 9) a b)
    rw [e2]; exact hn
  have ha : a.data.toList.length = a.size := Array.length_toList
  have hb : b.data.toList.length = b.size := Array.length_toList
  exact ⟨⟨a, b⟩, rfl, ha ▸ hw' _ (List.mem_cons_self), hb ▸ hw' _ (List.mem_cons_of_mem _ List.mem_cons_self)⟩
theorem open_rtsW {r : Reach} {b0 : Nat} {v : Value} {d : DataW H} {p : List MemPlace} (hv : Value.okWide Tryz.prog w r b0 42 v) (h : DataW.Trod enc Tryz.prog w base sp held 42 v d p) (hw : ∀ n ∈ d.weights Tryz.prog 42, n ≤ reachBytes) :
    ∃ A n c xs, v = .slice A n c ∧ n ≤ c ∧ Rd RT.cs 2 w A n xs ∧ ∀ f ∈ xs, f.num.size ≤ reachBytes ∧ f.den.size ≤ reachBytes := by
  obtain ⟨A, n, c, rfl⟩ := okWide_slice Tryz.underlying42 hv
  obtain ⟨fuel, hf⟩ := h
  rcases Go.Deep.open_slice Tryz.underlying42 hf with ⟨e1, _⟩ | ⟨a, n', cap, m, k, D, Pl, e1, hb, hl, hm, hmm, hx, hi⟩
  · have e' : Value.slice A n c = .slice none 0 0 := by simpa [Value.cells] using e1
    injection e' with e1 e2 e3
    subst e1; subst e2; subst e3
    exact ⟨none, 0, 0, [], rfl, Nat.le_refl _, Rd.nil, fun f hf => by cases hf⟩
  · have e' : Value.slice A n c = .slice (some a) n' cap := by simpa [Value.cells] using e1
    injection e' with e1 e2 e3
    subst e1; subst e2; subst e3
    have hlm : n ≤ m := by rw [hmm]; split <;> omega
    have hd : d = .slice ((List.range n).map D) ((List.range (m - n)).map fun j => D (n + j)) := congrArg Prod.fst hx
    have key : ∀ i : Fin n, ∃ f : RT, (f.num.size ≤ reachBytes ∧ f.den.size ≤ reachBytes) ∧ ∀ j u, (RT.cs f)[j]? = some u → w.cell? (a.add (i.1 * 2 + j)) = some u := by
      intro i
      obtain ⟨cs', hc', htt⟩ := hi i.1 (by omega)
      rw [c_rt] at hc'
      have hwi : ∀ q ∈ (D i.1).weights Tryz.prog 23, q ≤ reachBytes := fun q hq => hw q (by
        rw [hd, weights_slice Tryz.underlying42, List.mem_cons, List.mem_append]
        exact .inr (.inl (weightsAll_mem (List.mem_map.2 ⟨i.1, List.mem_range.2 i.2, rfl⟩) q hq)))
      obtain ⟨f, rfl, hok⟩ := rat_cellsW htt hwi
      obtain ⟨_, _, hat⟩ := World.cells?_some hc'
      refine ⟨f, hok, fun j u hu => ?_⟩
      have hj : j < 2 := (List.getElem?_eq_some_iff.1 hu).1
      rw [← add_add, hat j hj, hu]
    obtain ⟨F, hF⟩ := Classical.axiomOfChoice key
    refine ⟨_, _, _, List.ofFn F, rfl, by omega, ⟨by simp, by simp only [maxLen] at hm; omega, fun hn => ⟨a, rfl, ?_, ?_⟩⟩, ?_⟩
    · have := (hF ⟨0, hn⟩).2 0 _ rfl
      have h2 := block_lt_of_cell this
      rw [add_block] at h2
      exact h2
    · intro j x hj i u hu
      obtain ⟨hjl, rfl⟩ := List.getElem?_eq_some_iff.1 hj
      rw [List.getElem_ofFn] at hu
      exact (hF ⟨j, by simpa using hjl⟩).2 i u hu
    · intro f hf
      obtain ⟨i, rfl⟩ := List.mem_ofFn.1 hf
      exact (hF i).1
end
/-- An argument's weights, out of all. -/
theorem wt_arg {H : Type} {P : Program} {ts us : List TypeId} {ds gs : List (DataW H)} (h : (DataW.weightsEach P (ts ++ us) (ds ++ gs)).all (· ≤ reachBytes) = true) {j : Nat} {t : TypeId} {d : DataW H} (ht : ts[j]? = some t) (hd : ds[j]? = some d) : ∀ n ∈ d.weights P t, n ≤ reachBytes := by
  intro n hn
  have h1 : (ts ++ us)[j]? = some t := by rw [List.getElem?_append_left (List.getElem?_eq_some_iff.1 ht).1]; exact ht
  have h2 : (ds ++ gs)[j]? = some d := by rw [List.getElem?_append_left (List.getElem?_eq_some_iff.1 hd).1]; exact hd
  simpa using List.all_eq_true.1 h n (DataW.weights_mem_each h1 h2 n hn)
end Go.Proofs.YtdkpbifpafaabaaGreatDoor
