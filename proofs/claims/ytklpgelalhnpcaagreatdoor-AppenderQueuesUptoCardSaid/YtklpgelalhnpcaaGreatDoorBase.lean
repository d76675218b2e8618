/- AppenderQueues (16.1): the files AqSteps, AqLib, one after the other; each says ahead of its text what it shows and under which conditions. -/
import Derived.Test.YtklpgelalhnpcaaGreatDoorProg
import Derived.Test.YtklpgelalhnpcaaGreatDoorKit4
import Derived.Test.YtklpgelalhnpcaaGreatDoorKit3
set_option linter.all false

section PartAqSteps
/- The table of the appender's stages. -/
namespace Go.Am
open Go Go.Proofs
set_option maxRecDepth 100000

def stepsAt (i : Nat) : MapEntry := ⟨.int .i64 (i : Int), .func (.func (71 + i)) #[] #[], i⟩
def stepsUpto (n : Nat) : Array MapEntry := ((List.range n).map stepsAt).toArray
def stepsEs : List (Value × Value) := (stepsUpto 11).toList.map fun e => (e.key, e.val)

theorem under108 : Tryz.prog.underlying 108 = some (.map 3 107) := rfl
theorem under3 : Tryz.prog.underlying 3 = some (.int .i64) := rfl

theorem ins_step (w : World) (n : Nat) (hf : Instr.findNow (.int .i64) (.int .i64 (n : Int)) (stepsUpto n).toList 0 = some none) :
    (Instr.mapUpdate 108 (.map (some w.heap.size)) (.int .i64 (n : Int)) (.func (.func (71 + n)) #[] #[])).run Tryz.prog (mkMap w (stepsUpto n) n) = .ok () (mkMap w (stepsUpto (n + 1)) (n + 1)) := by
  rw [run_insert under108 under3 _ w _ _ hf]
  have : (stepsUpto n).push (stepsAt n) = stepsUpto (n + 1) := by simp [stepsUpto, List.range_succ]
  rw [← this]; rfl

theorem wpl_v {P : Program} {ops : Array Oper} {Q : Exit → Act → World → Prop} {rest : List Oper} {o : Oper} {a : Act} {w w' : World} {v : Value} (hg : o.guard = none) (hrun : (execOp a.eval o).run P w = .ok (.value v) w')
    (h : wpList P ops Q rest (a.put o.dst v) w') : wpList P ops Q (o :: rest) a w :=
  wpList_plain hg fun K hK => by unfold Oper.wp; rw [hrun]; exact hK _ _ h
theorem wpl_s {P : Program} {ops : Array Oper} {Q : Exit → Act → World → Prop} {rest : List Oper} {o : Oper} {a : Act} {w w' : World} (hg : o.guard = none) (hrun : (execOp a.eval o).run P w = .ok .skip w')
    (h : wpList P ops Q rest (a.put o.dst undef) w') : wpList P ops Q (o :: rest) a w :=
  wpList_plain hg fun K hK => by unfold Oper.wp; rw [hrun]; exact hK _ _ h

theorem ins_exec (w : World) (n : Nat) {o : Oper} {a : Act} {m k v : Operand} (hop : o.op = .insert 108 m k v) (hm : a.eval m = .map (some w.heap.size)) (hk : a.eval k = .int .i64 (n : Int)) (hv : a.eval v = .func (.func (71 + n)) #[] #[])
    (hf : Instr.findNow (.int .i64) (.int .i64 (n : Int)) (stepsUpto n).toList 0 = some none) :
    (execOp a.eval o).run Tryz.prog (mkMap w (stepsUpto n) n) = .ok .skip (mkMap w (stepsUpto (n + 1)) (n + 1)) := by
  simp [execOp, hop, hm, hk, hv, ins_step w n hf]

theorem steps_calls (w : World) : Calls Tryz.prog 41 #[] w fun e w' => ∃ ents c, e = .returned (.map (some w.heap.size)) ∧ w' = mkMap w ents c ∧ ents.toList.map (fun e => (e.key, e.val)) = stepsEs := by
  go_enter Tryz.func41, Tryz.ntmps41
  refine wp_seq (wp_region_lit (wpl_v rfl rfl ?_))
  refine wp_seq (wp_region_lit (wpl_v rfl (v := .map (some w.heap.size)) (w' := mkMap w (stepsUpto 0) 0) ?_ ?_))
  · simp only [execOp, Sem.run_bind, run_make, Result.andThen_ok, Sem.run_pure]; rfl
  refine wpl_s rfl (ins_exec w 0 rfl rfl rfl rfl (by kernel_rfl)) ?_
  refine wpl_s rfl (ins_exec w 1 rfl rfl rfl rfl (by kernel_rfl)) ?_
  refine wpl_s rfl (ins_exec w 2 rfl rfl rfl rfl (by kernel_rfl)) ?_
  refine wpl_s rfl (ins_exec w 3 rfl rfl rfl rfl (by kernel_rfl)) ?_
  refine wpl_s rfl (ins_exec w 4 rfl rfl rfl rfl (by kernel_rfl)) ?_
  refine wpl_s rfl (ins_exec w 5 rfl rfl rfl rfl (by kernel_rfl)) ?_
  refine wpl_s rfl (ins_exec w 6 rfl rfl rfl rfl (by kernel_rfl)) ?_
  refine wpl_s rfl (ins_exec w 7 rfl rfl rfl rfl (by kernel_rfl)) ?_
  refine wpl_s rfl (ins_exec w 8 rfl rfl rfl rfl (by kernel_rfl)) ?_
  refine wpl_s rfl (ins_exec w 9 rfl rfl rfl rfl (by kernel_rfl)) ?_
  refine wpl_s rfl (ins_exec w 10 rfl rfl rfl rfl (by kernel_rfl)) ?_
  refine wpl_v rfl (v := .map (some w.heap.size)) rfl ?_
  refine wpl_v rfl (v := .map (some w.heap.size)) rfl ?_
  refine wpList_nil ?_
  refine wp_ret ?_
  refine bodyPost_ret (v := .map (some w.heap.size)) ?_ rfl ⟨_, _, rfl, rfl, rfl⟩
  exact results_tmp (t := 0) rfl _ _ _

theorem steps_ok (H : Hp) : FC Tryz.prog 41 [] H (.rom stepsEs) H := FC_map steps_calls
end Go.Am
end PartAqSteps

section PartAqLib
/- What the run that decides itself may take for granted in this seat. -/
namespace Go.Am
open Go Go.Proofs

def aqLib : CallA := fun f az La => if f = 41 ∧ az.isEmpty = true then some (.rom stepsEs, La) else none

theorem aqLib_ok : CallOk Tryz.prog aqLib := by
  intro f az La v L' h
  unfold aqLib at h
  split at h <;> try (simp at h; done)
  rename_i hc
  simp only [Option.some.injEq, Prod.mk.injEq] at h; obtain ⟨rfl, rfl⟩ := h
  obtain ⟨rfl, ha⟩ := hc
  have : az = [] := by simpa using ha
  subst this
  exact steps_ok _
end Go.Am
end PartAqLib
