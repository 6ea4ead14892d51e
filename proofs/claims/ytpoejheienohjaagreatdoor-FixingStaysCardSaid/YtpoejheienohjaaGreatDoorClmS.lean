/- What was fixed stays, and cannot be fixed again; a fix more is there, and changes no other one; two are set in any order the same.
   Conditions: none beyond the statement's own. -/
import Derived.Test.YtpoejheienohjaaGreatDoorRowS
import Derived.Test.YtpoejheienohjaaGreatDoorLawB
namespace Go.Proofs.YtpoejheienohjaaGreatDoor
open Go.RowKit

theorem fixing_stays : Rows.FixingStaysCardSaid := stays_card fun w hg => p_fixed w hg
end Go.Proofs.YtpoejheienohjaaGreatDoor
