/- The references' packs of actions: Of. -/
import Derived.Test.YtdkpbifpafaabaaGreatDoorPkGa
import Derived.Test.YtdkpbifpafaabaaGreatDoorPkGb
import Derived.Test.YtdkpbifpafaabaaGreatDoorPkGc
namespace Go.Proofs.YtdkpbifpafaabaaGreatDoor
open Go.RowKit
set_option linter.unusedVariables false
set_option linter.unusedSimpArgs false

theorem r16_of (a0 : ByteArray) (a1 : Int) (a2 a3 a4 a5 a6 a7 : ByteArray) (a8 a9 a10 : Int) (w : World) (h0 : a0.size ≤ 9223372036854775807) (h2 : a2.size ≤ 9223372036854775807) (h3 : a3.size ≤ 9223372036854775807) (h4 : a4.size ≤ 400000000) (h5 : a5.size ≤ 400000000) (h6 : a6.size ≤ 400000000) (h7 : a7.size ≤ 400000000) :
    Calls Tryz.prog 21 #[.agg #[.string a0, .int .i64 a1, .string a2, .string a3, .string a4, .string a5, .string a6, .string a7, .int .i64 a8, .int .i64 a9, .int .i64 a10]] w (PackIs (pofL ⟨a0, a1, a2, a3, ⟨a4, a5⟩, ⟨a6, a7⟩, a8, a9, a10⟩) (pofC ⟨a0, a1, a2, a3, ⟨a4, a5⟩, ⟨a6, a7⟩, a8, a9, a10⟩) w) := by
  cases hm : amay ⟨a0, a1, a2, a3, ⟨a4, a5⟩, ⟨a6, a7⟩, a8, a9, a10⟩ with
  | false => rw [pofL_no hm, pofC_no hm]; exact r16_of_no a0 a1 a2 a3 a4 a5 a6 a7 a8 a9 a10 w h0 h2 h3 h4 h5 h6 h7 hm
  | true =>
    rw [pofC_yes hm]
    have hk := kinds (amay_of hm)
    dsimp only at hk
    rcases hk with rfl | rfl | rfl | rfl | rfl
    · exact r16_of_0 a0 a2 a3 a4 a5 a6 a7 a8 a9 a10 w h0 h2 h3 h4 h5 h6 h7 hm
    · exact r16_of_1 a0 a2 a3 a4 a5 a6 a7 a8 a9 a10 w h0 h2 h3 h4 h5 h6 h7 hm
    · exact r16_of_2 a0 a2 a3 a4 a5 a6 a7 a8 a9 a10 w h0 h2 h3 h4 h5 h6 h7 hm
    · exact r16_of_3 a0 a2 a3 a4 a5 a6 a7 a8 a9 a10 w h0 h2 h3 h4 h5 h6 h7 hm
    · exact r16_of_4 a0 a2 a3 a4 a5 a6 a7 a8 a9 a10 w h0 h2 h3 h4 h5 h6 h7 hm
end Go.Proofs.YtdkpbifpafaabaaGreatDoor
