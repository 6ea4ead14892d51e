/- Books: an asset's holders are those that have some, and together have the total.
   Conditions: none beyond the statement's own. -/
import Derived.Test.YtpoejheienohjaaGreatDoorRowX
namespace Go.Proofs.YtpoejheienohjaaGreatDoor
open Go.RowKit

theorem book_holders : Rows.BookHoldersCardSaid := bookHolders_card fun w hg => p_fixed6 w hg
end Go.Proofs.YtpoejheienohjaaGreatDoor
