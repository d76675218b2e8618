/- AppenderQueues (16.1): the files AqCard, one after the other; each says ahead of its text what it shows and under which conditions. -/
import Derived.Test.YtklpgelalhnpcaaGreatDoorAqSaid
import Derived.Test.YtklpgelalhnpcaaGreatDoorAqPlain
set_option linter.all false

section PartAqCard
/- AppenderQueues (16.1), at arguments of bulk at most 1048576: the card. Conditions: none beyond the card. -/
namespace Go.Proofs.YtklpgelalhnpcaaGreatDoor.queues
open Go Go.Am Go.ChangeShapes Go.WideShapes Go.ChangeAt Go.RowKit
set_option maxRecDepth 1000000

/-- The card. -/
theorem cardUpto : Rows.AppenderQueuesUptoCardSaid :=
  Claim7.holds_tied_plain_at .later [] _ _ _ _ saidUpto (fun _ h => by cases h) (by kernel_rfl) (fun _ h => by cases h) appenderQueuesUpto_row_tie rfl ⟨rfl, rfl⟩ (by kernel_rfl) rfl plain (by kernel_rfl)
end Go.Proofs.YtklpgelalhnpcaaGreatDoor.queues
end PartAqCard
