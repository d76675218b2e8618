/- AppenderQueues (16.1): the files AqSaid, one after the other; each says ahead of its text what it shows and under which conditions. -/
import Derived.Test.YtklpgelalhnpcaaGreatDoorAqLift
import Derived.Test.YtklpgelalhnpcaaGreatDoorAqFacts
set_option linter.all false

section PartAqSaid
/- AppenderQueues (16.1), at arguments of bulk at most 1048576: the statement. Conditions: the listed tables of the library hold what the text of the program lays (the card ties them). -/
namespace Go.Proofs.YtklpgelalhnpcaaGreatDoor.queues
open Go Go.Am Go.ChangeShapes Go.WideShapes Go.ChangeAt Go.RowKit
set_option maxRecDepth 1000000

theorem saidUpto : Rows.AppenderQueuesUptoSaid :=
  OpenClaim.holds_of_cond 3 Tryz.f3 rfl rfl rfl rfl rfl rfl rfl ⟨rfl, rfl, rfl, rfl, rfl⟩ rfl rfl rfl rfl rfl (by kernel_rfl) Tryz.func3 facts
    (of_decide_eq_true (by kernel_rfl)) (by unfold Func.isWrapper; first | (rw [if_pos (by decide +kernel)]; kernel_rfl) | (rw [if_neg (by decide +kernel)]; exact ⟨rfl, rfl⟩))
    (fun os started H enc _ F => by rw [OpenClaim.pre_eq_preRow]; exact liftedUpto os started H enc F)

end Go.Proofs.YtklpgelalhnpcaaGreatDoor.queues
end PartAqSaid
