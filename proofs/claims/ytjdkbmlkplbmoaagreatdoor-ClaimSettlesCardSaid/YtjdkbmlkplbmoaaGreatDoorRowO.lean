/- Arguments opened: a slice's length is within its capacity. -/
import Derived.Test.YtjdkbmlkplbmoaaGreatDoorRowI
namespace Go.Proofs.YtjdkbmlkplbmoaaGreatDoor
set_option maxRecDepth 100000
open Go.ChangeShapes Go.WideShapes Go.ChangeAt Go.RowKit
set_option linter.unusedVariables false
set_option linter.unusedSimpArgs false

theorem cap_slice {H : Type} {enc : TypeId × Value → H} {P : Program} {w : World} {base : Nat} {sp : Nat → Bool} {held : Bool} {t e : TypeId} {A : Option Addr} {n c : Nat} {d : DataW H} {p : List MemPlace} (ht : P.underlying t = some (.slice e)) (h : DataW.Trod enc P w base sp held t (.slice A n c) d p) : n ≤ c := by
  obtain ⟨fuel, hf⟩ := h
  rcases Go.Deep.open_slice ht hf with ⟨e, _⟩ | ⟨a, len, cap, m, k, D, Pl, e, hb, hl, _⟩
  · have e' : Value.slice A n c = .slice none 0 0 := by simpa [Value.cells] using e
    injection e' with e1 e2 e3
    omega
  · have e' : Value.slice A n c = .slice (some a) len cap := by simpa [Value.cells] using e
    injection e' with e1 e2 e3
    omega
end Go.Proofs.YtjdkbmlkplbmoaaGreatDoor
