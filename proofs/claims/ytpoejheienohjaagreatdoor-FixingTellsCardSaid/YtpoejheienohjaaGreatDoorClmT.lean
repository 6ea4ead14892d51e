/- Of every table, asset, day and fix: whether the table may be, what it has of an asset and day, and up to it, and the table with the fix more, is as the document says.
   Conditions: none beyond the statement's own. -/
import Derived.Test.YtpoejheienohjaaGreatDoorRowT
import Derived.Test.YtpoejheienohjaaGreatDoorLawB
namespace Go.Proofs.YtpoejheienohjaaGreatDoor
open Go.RowKit

theorem fixing_tells : Rows.FixingTellsCardSaid := tells_card fun w hg => p_fixed w hg
end Go.Proofs.YtpoejheienohjaaGreatDoor
