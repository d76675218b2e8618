/- AppenderQueues (16.1): the files AqFacts3, one after the other; each says ahead of its text what it shows and under which conditions. -/
import Derived.Test.YtklpgelalhnpcaaGreatDoorAqHold
import Derived.JoinedCond
set_option linter.all false

section PartAqFacts3
/- AppenderQueues (16.1): closed facts of its row, part 3. No condition. -/
namespace Go.Proofs.YtklpgelalhnpcaaGreatDoor.queues
open Go Go.Am Go.ChangeShapes Go.WideShapes Go.ChangeAt Go.RowKit
set_option maxRecDepth 1000000

theorem fact11 : ((Rows.appenderQueuesUptoRow.recurses == Tryz.prog.recurses 3)) = true := by kernel_rfl
end Go.Proofs.YtklpgelalhnpcaaGreatDoor.queues
end PartAqFacts3
