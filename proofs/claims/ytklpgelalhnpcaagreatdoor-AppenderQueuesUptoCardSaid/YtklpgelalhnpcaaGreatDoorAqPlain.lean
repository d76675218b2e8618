/- AppenderQueues (16.1): the files AqPlain, one after the other; each says ahead of its text what it shows and under which conditions. -/
import Derived.Test.YtklpgelalhnpcaaGreatDoorAqHold
set_option linter.all false

section PartAqPlain
/- AppenderQueues (16.1): its arguments need no stand-in. No condition. -/
namespace Go.Proofs.YtklpgelalhnpcaaGreatDoor.queues
open Go Go.Am Go.ChangeShapes Go.WideShapes Go.ChangeAt Go.RowKit
set_option maxRecDepth 1000000

theorem plain (f : FuncId) (fn : Func) (hf : Tryz.pinned.checked.prog.funcNamed "needlestore/needlestorelaw16.AppenderQueues" = some f) (hfn : Tryz.pinned.checked.prog.funcs[f]? = some fn) :
    false = Tryz.pinned.checked.prog.looks [] ∧ ∀ (j : Nat) t, fn.params[j]? = some t → Tryz.pinned.checked.prog.wantsStandIn t = false := by
  obtain rfl : f = 3 := Option.some.inj ((show Tryz.prog.funcNamed "needlestore/needlestorelaw16.AppenderQueues" = some 3 by kernel_rfl).symm.trans hf) |>.symm
  obtain rfl : fn = Tryz.f3 := (Option.some.inj (Tryz.func3.symm.trans hfn)).symm
  refine ⟨by kernel_rfl, fun j t ht => ?_⟩
  rw [pars] at ht
  have : t = 29 ∨ t = 34 := by simpa using Array.mem_of_getElem? ht
  rcases this with rfl | rfl
  · exact (show Tryz.prog.wantsStandIn 29 = false by kernel_rfl)
  · exact (show Tryz.prog.wantsStandIn 34 = false by kernel_rfl)

end Go.Proofs.YtklpgelalhnpcaaGreatDoor.queues
end PartAqPlain
