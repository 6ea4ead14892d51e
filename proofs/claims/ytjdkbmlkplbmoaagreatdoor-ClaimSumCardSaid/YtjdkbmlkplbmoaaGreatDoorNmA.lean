/- Lists of names: their cells. -/
import Derived.Test.YtjdkbmlkplbmoaaGreatDoorRefJ
namespace Go.Proofs.YtjdkbmlkplbmoaaGreatDoor
open Go.RowKit
set_option linter.unusedVariables false
set_option linter.unusedSimpArgs false

abbrev sCs (s : ByteArray) : List Value := [.string s]
theorem sCs_length (s : ByteArray) : (sCs s).length = 1 := rfl
theorem nm_in {w wr : World} {A : Option Addr} {n : Nat} {ss : List ByteArray} (h : Rd sCs 1 w A n ss) (hB : Below w.heap.size w wr) {k : Nat} (hk : k < n) :
    ∃ ad s, A = some ad ∧ ss[k]? = some s ∧ ∀ w1, Below wr.heap.size wr w1 → w1.cell? (ad.add k) = some (.string s) := by
  obtain ⟨ad, s, e, hl, hs, hc⟩ := h.at_ hk
  refine ⟨ad, s, e, hs, fun w1 h1 => ?_⟩
  have h2 := b_then hB h1
  rw [h2.cell (by rw [add_block]; exact hl)]
  have := hc 0 _ rfl
  simpa using this
end Go.Proofs.YtjdkbmlkplbmoaaGreatDoor
