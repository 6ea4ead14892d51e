/- Names: letters and digits; a byte more at the end that is none makes it none.
   Conditions: none beyond the statement's own. -/
import Derived.Test.YtpoejheienohjaaGreatDoorRowV
namespace Go.Proofs.YtpoejheienohjaaGreatDoor
open Go.RowKit

theorem book_names : Rows.BookNamesCardSaid := bookNames_card fun w hg => p_fixed6 w hg
end Go.Proofs.YtpoejheienohjaaGreatDoor
