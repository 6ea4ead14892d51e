/- So many days, fixed from the last one to the first one, are all there, in order.
   Conditions: none beyond the statement's own. -/
import Derived.Test.YtpoejheienohjaaGreatDoorRowN
import Derived.Test.YtpoejheienohjaaGreatDoorLawB
namespace Go.Proofs.YtpoejheienohjaaGreatDoor
open Go.RowKit

theorem fixing_many : Rows.FixingManyCardSaid := many_card fun w hg => p_fixed w hg
end Go.Proofs.YtpoejheienohjaaGreatDoor
