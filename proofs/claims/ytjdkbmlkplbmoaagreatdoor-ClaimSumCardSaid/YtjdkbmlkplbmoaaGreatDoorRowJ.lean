/- Arguments opened: an account, an asset, a day. -/
import Derived.Test.YtjdkbmlkplbmoaaGreatDoorRowI
namespace Go.Proofs.YtjdkbmlkplbmoaaGreatDoor
set_option maxRecDepth 100000
open Go.ChangeShapes Go.WideShapes Go.ChangeAt Go.RowKit
set_option linter.unusedVariables false
set_option linter.unusedSimpArgs false

theorem cAsk : Tryz.prog.cellsOf 55 = 3 := by kernel_rfl
section
variable {H : Type} {enc : TypeId × Value → H} {w : World} {base : Nat} {sp : Nat → Bool} {held : Bool}
theorem ask_cells {fuel : Nat} {cs : List Value} {x : DataW H × List MemPlace} (h : DataW.trod enc Tryz.prog w base sp held fuel 55 cs = some x) :
    ∃ (a s : ByteArray) (k : Int), cs = [.string a, .string s, .int .i64 k] ∧ a.size ≤ 9223372036854775807 ∧ s.size ≤ 9223372036854775807 := by
  obtain ⟨xs, n, _, _, hlen, hxl, hf⟩ := DataW.trod_struct Tryz.underlying55 h
  rw [cAsk] at hlen
  obtain ⟨v0, v1, v2, rfl⟩ : ∃ v0 v1 v2, cs = [v0, v1, v2] := by
    match cs, hlen with
    | [v0, v1, v2], _ => exact ⟨v0, v1, v2, rfl⟩
  have hx3 : xs.length = 3 := hxl
  have h0 : DataW.trod enc Tryz.prog w base sp held n 9 (List.take (Tryz.prog.cellsOf 9) (List.drop 0 [v0, v1, v2])) = xs[0]? := hf 0 _ rfl
  have h1 : DataW.trod enc Tryz.prog w base sp held n 9 (List.take (Tryz.prog.cellsOf 9) (List.drop 1 [v0, v1, v2])) = xs[1]? := hf 1 _ rfl
  have h2 : DataW.trod enc Tryz.prog w base sp held n 3 (List.take (Tryz.prog.cellsOf 3) (List.drop 2 [v0, v1, v2])) = xs[2]? := hf 2 _ rfl
  rw [List.getElem?_eq_getElem (by omega)] at h0 h1 h2
  rw [cSt] at h0 h1
  rw [cIn] at h2
  obtain ⟨a, ea, _, ha⟩ := DataW.trod_string Tryz.underlying9 h0
  obtain ⟨s, es, _, hs⟩ := DataW.trod_string Tryz.underlying9 h1
  obtain ⟨k, ek, _, _⟩ := DataW.trod_int Tryz.underlying3 h2
  have e0 : v0 = .string a := by simpa using ea
  have e1 : v1 = .string s := by simpa using es
  have e2 : v2 = .int .i64 k := by simpa using ek
  subst e0; subst e1; subst e2
  exact ⟨a, s, k, rfl, by simpa [maxLen] using ha, by simpa [maxLen] using hs⟩
/-- An account, an asset, a day, by value. -/
theorem open_ask {r : Reach} {b0 : Nat} {v : Value} {d : DataW H} {p : List MemPlace} (hv : Value.okWide Tryz.prog w r b0 55 v) (h : DataW.Trod enc Tryz.prog w base sp held 55 v d p) :
    ∃ (a s : ByteArray) (k : Int), v = .agg #[.string a, .string s, .int .i64 k] ∧ a.size ≤ 9223372036854775807 ∧ s.size ≤ 9223372036854775807 := by
  obtain ⟨cs, rfl, hsz⟩ := okWide_struct Tryz.underlying55 hv
  obtain ⟨fuel, hf⟩ := h
  obtain ⟨a, s, k, he, h1, h2⟩ := ask_cells hf
  obtain ⟨l⟩ := cs
  have he' : l = [.string a, .string s, .int .i64 k] := he
  subst he'
  exact ⟨a, s, k, rfl, h1, h2⟩
end
end Go.Proofs.YtjdkbmlkplbmoaaGreatDoor
