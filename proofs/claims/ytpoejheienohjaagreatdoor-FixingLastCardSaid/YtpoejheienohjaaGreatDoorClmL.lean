/- The last price up to a day is that of the day, if it is there, else what it was up to the day ahead; ahead of all there is none.
   Conditions: none beyond the statement's own. -/
import Derived.Test.YtpoejheienohjaaGreatDoorRowL
import Derived.Test.YtpoejheienohjaaGreatDoorLawB
namespace Go.Proofs.YtpoejheienohjaaGreatDoor
open Go.RowKit

theorem fixing_last : Rows.FixingLastCardSaid := last_card fun w hg => p_fixed w hg
end Go.Proofs.YtpoejheienohjaaGreatDoor
