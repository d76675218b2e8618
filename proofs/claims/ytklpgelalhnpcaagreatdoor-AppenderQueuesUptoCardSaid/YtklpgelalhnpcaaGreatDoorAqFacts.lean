/- AppenderQueues (16.1): the files AqFacts, one after the other; each says ahead of its text what it shows and under which conditions. -/
import Derived.Test.YtklpgelalhnpcaaGreatDoorAqFacts1
import Derived.Test.YtklpgelalhnpcaaGreatDoorAqFacts2
import Derived.Test.YtklpgelalhnpcaaGreatDoorAqFacts3
import Derived.Test.YtklpgelalhnpcaaGreatDoorAqFacts4
set_option linter.all false

section PartAqFacts
/- AppenderQueues (16.1): the closed facts of its row. No condition. -/
namespace Go.Proofs.YtklpgelalhnpcaaGreatDoor.queues
open Go Go.Am Go.ChangeShapes Go.WideShapes Go.ChangeAt Go.RowKit
set_option maxRecDepth 1000000

theorem band {a b : Bool} (h : a = true) (k : b = true) : (a && b) = true := by rw [h, k]; rfl
theorem fact0 : (Rows.appenderQueuesUptoRow.wf (OpenSpec.ofChange (Rows.OpenSpec.upto Rows.appenderQueuesSpec).bare)) = true := by kernel_rfl
theorem fact2 : (mapsRowed Tryz.prog) = true := by kernel_rfl
theorem fact3 : (Tryz.f3.params.all (Tryz.prog.readableRec ·)) = true := by kernel_rfl
theorem fact4 : (namedTie Tryz.prog Rows.appenderQueuesUptoRow.named (Rows.OpenSpec.upto Rows.appenderQueuesSpec).bare.vars) = true := by kernel_rfl
theorem fact5 : ((Rows.appenderQueuesUptoRow.stops == [])) = true := by kernel_rfl
theorem fact6 : ((Tryz.prog.stops == [])) = true := by kernel_rfl
theorem fact7 : ((Rows.appenderQueuesUptoRow.knobs == [])) = true := by kernel_rfl
theorem fact8 : ((Tryz.prog.stopKnobs == [])) = true := by kernel_rfl
theorem fact13 : ((Rows.appenderQueuesUptoRow.maps == (Tryz.f3.params.toList ++ (Rows.OpenSpec.upto Rows.appenderQueuesSpec).bare.plain.varTypes Tryz.prog).any (Tryz.prog.mapsRec ·))) = true := by kernel_rfl
theorem fact14 : ((Rows.appenderQueuesUptoRow.ifaces == (Tryz.f3.params.toList ++ (Rows.OpenSpec.upto Rows.appenderQueuesSpec).bare.plain.varTypes Tryz.prog).any (Tryz.prog.ifacesRec ·))) = true := by kernel_rfl
theorem fact15 : ((Rows.appenderQueuesUptoRow.mapsOut == Tryz.prog.mapsAmong Tryz.f3.resultTypes.toList)) = true := by kernel_rfl
theorem fact16 : ((Rows.appenderQueuesUptoRow.loops == (Tryz.f3.params.toList ++ (Rows.OpenSpec.upto Rows.appenderQueuesSpec).bare.plain.varTypes Tryz.prog).any (Tryz.prog.loopsFrom ·))) = true := by kernel_rfl
theorem fact17 : ((Rows.appenderQueuesUptoRow.wideKeys == (Tryz.f3.params.toList ++ (Rows.OpenSpec.upto Rows.appenderQueuesSpec).bare.plain.varTypes Tryz.prog ++ Tryz.f3.resultTypes.toList).any (Tryz.prog.wideKeysFrom ·))) = true := by kernel_rfl
theorem fact18 : ((Rows.OpenSpec.upto Rows.appenderQueuesSpec).bare.vars.all (Tryz.prog.varReadable ·)) = true := by kernel_rfl
theorem fact19 : (Tryz.f3.resultTypes.all (fun t => Tryz.prog.readableRec t && decide (t < Tryz.prog.types.size))) = true := by kernel_rfl
theorem fact20 : ((Rows.appenderQueuesUptoRow.ifacesOut == Tryz.f3.resultTypes.toList.any (Tryz.prog.ifacesRec ·))) = true := by kernel_rfl
theorem fact21 : ((Rows.appenderQueuesUptoRow.loopsOut == Tryz.f3.resultTypes.toList.any (Tryz.prog.loopsFrom ·))) = true := by kernel_rfl
theorem fact22 : ((Rows.appenderQueuesUptoRow.plainKeys == Tryz.prog.plainKeys)) = true := by kernel_rfl
theorem fact23 : (Rows.appenderQueuesUptoRow.shortTexts.isNone) = true := by kernel_rfl
theorem fact24 : (Tryz.prog.stopsHeard) = true := by kernel_rfl
theorem fact25 : (Tryz.prog.mayEnter) = true := by kernel_rfl
theorem fact26 : ((Rows.appenderQueuesUptoRow.lifted == Tryz.prog.liftsFinal)) = true := by kernel_rfl
theorem fact27 : ((Tryz.prog.make == some Rows.appenderQueuesUptoRow.make)) = true := by kernel_rfl
theorem fact28 : ((Rows.appenderQueuesUptoRow.kinds == (if Rows.appenderQueuesUptoRow.domain.isEmpty then [] else Tryz.f3.params.toList.map fun t => match Tryz.prog.underlying t with | some (.int k) => some k | _ => none))) = true := by kernel_rfl
theorem fact29 : ((Rows.appenderQueuesUptoRow.pinned == Rows.appenderQueuesUptoRow.pinnedBy)) = true := by kernel_rfl
theorem fact30 : ((Rows.appenderQueuesUptoRow.veiled == (Tryz.f3.params.toList ++ (Rows.OpenSpec.upto Rows.appenderQueuesSpec).bare.plain.varTypes Tryz.prog ++ Tryz.f3.resultTypes.toList).any (Tryz.prog.veiledRec ·))) = true := by kernel_rfl
theorem fact31 : (Rows.appenderQueuesUptoRow.veiledFits Tryz.prog Tryz.f3.params.toList (Tryz.f3.params.toList ++ (Rows.OpenSpec.upto Rows.appenderQueuesSpec).bare.plain.varTypes Tryz.prog ++ Tryz.f3.resultTypes.toList)) = true := by kernel_rfl
theorem facts : joinedFacts Tryz.prog 3 Tryz.f3 (Rows.OpenSpec.upto Rows.appenderQueuesSpec).bare Rows.appenderQueuesUptoRow = true := by
  unfold joinedFacts
  exact band (band (band (band (band (band (band (band (band (band (band (band (band (band (band (band (band (band (band (band (band (band (band (band (band (band (band (band (band (band (band fact0 fact1) fact2) fact3) fact4) fact5) fact6) fact7) fact8) fact9) fact10) fact11) fact12) fact13) fact14) fact15) fact16) fact17) fact18) fact19) fact20) fact21) fact22) fact23) fact24) fact25) fact26) fact27) fact28) fact29) fact30) fact31
end Go.Proofs.YtklpgelalhnpcaaGreatDoor.queues
end PartAqFacts
