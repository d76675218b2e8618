/- Own rules for runs over blocks that the run made itself (values told by shape, the heap by numbered blocks): part 1. No condition; nothing of the program but its types and functions as they are given. -/
import Derived.Test.YtklpgelalhnpcaaGreatDoorKit0
set_option linter.all false

section PartAmStore
/- The store of a value into a block of one's own. -/
namespace Go.Am
open Go

def setCells (w : World) (b : Nat) : Nat → List Value → World
  | _, [] => w
  | o, v :: vs => setCells (w.setCell ⟨b, o, none⟩ v) b (o + 1) vs

theorem setCell_at {w : World} {b o : Nat} {v : Value} {c : Array Value} {t : TypeId} {fr : Nat × Nat} (h : w.heap[b]? = some (.cells c t fr)) :
    (w.setCell ⟨b, o, none⟩ v).heap[b]? = some (.cells (c.setIfInBounds o v) t fr) := by
  simp only [World.setCell, Array.getElem?_modify]
  simp [h]

theorem setCell_other {w : World} {b o b' : Nat} {v : Value} (h : b' ≠ b) : (w.setCell ⟨b, o, none⟩ v).heap[b']? = w.heap[b']? := by
  simp only [World.setCell, Array.getElem?_modify]
  simp [Ne.symm h]

theorem setCell_size {w : World} {a : Addr} {v : Value} : (w.setCell a v).heap.size = w.heap.size := by simp [World.setCell]

theorem setCells_fields (b : Nat) : ∀ (vs : List Value) (w : World) (o : Nat), (setCells w b o vs).os = w.os ∧ (setCells w b o vs).tape = w.tape ∧ (setCells w b o vs).output = w.output ∧ (setCells w b o vs).heap.size = w.heap.size ∧
    ∀ b', b' ≠ b → (setCells w b o vs).heap[b']? = w.heap[b']?
  | [], w, o => ⟨rfl, rfl, rfl, rfl, fun _ _ => rfl⟩
  | v :: vs, w, o => by
    obtain ⟨h1, h2, h3, h4, h5⟩ := setCells_fields b vs (w.setCell ⟨b, o, none⟩ v) (o + 1)
    exact ⟨h1, h2, h3, h4.trans setCell_size, fun b' hb => (h5 b' hb).trans (setCell_other hb)⟩

theorem setCells_at (b : Nat) : ∀ (vs : List Value) (w : World) (o : Nat) (c : Array Value) (t : TypeId) (fr : Nat × Nat), w.heap[b]? = some (.cells c t fr) → o + vs.length ≤ c.size →
    ∃ c' : Array Value, (setCells w b o vs).heap[b]? = some (.cells c' t fr) ∧ c'.size = c.size ∧ ∀ x, c'[x]? = if o ≤ x ∧ x < o + vs.length then vs[x - o]? else c[x]?
  | [], w, o, c, t, fr, h, _ => ⟨c, h, rfl, fun x => by rw [if_neg (by simp only [List.length_nil]; omega)]⟩
  | v :: vs, w, o, c, t, fr, h, hsz => by
    simp only [List.length_cons] at hsz
    obtain ⟨c', h1, h2, h3⟩ := setCells_at b vs (w.setCell ⟨b, o, none⟩ v) (o + 1) _ t fr (setCell_at h) (by simp; omega)
    refine ⟨c', h1, by simpa using h2, fun x => ?_⟩
    rw [h3]
    by_cases hx : x = o
    · subst hx
      rw [if_neg (by omega), if_pos (by simp), Array.getElem?_setIfInBounds, if_pos rfl, if_pos (by omega)]; simp
    · by_cases hy : o + 1 ≤ x ∧ x < o + 1 + vs.length
      · rw [if_pos hy, if_pos (by simp; omega), show x - o = (x - (o + 1)) + 1 from by omega]; simp
      · rw [if_neg hy, if_neg (by simp; omega)]
        rw [Array.getElem?_setIfInBounds]; simp [Ne.symm hx]

theorem run_storeCells {P : Program} {b o : Nat} : ∀ (vs : List Value) (w : World) (k : Nat) (c : Array Value) (t : TypeId) (fr : Nat × Nat), w.heap[b]? = some (.cells c t fr) → (fr.1 = fr.2 ∨ c.size ≤ fr.1) →
    o + k + vs.length ≤ c.size → (∀ v ∈ vs, v.oneCell' = true) → (storeCells ⟨b, o, none⟩ vs k).run P w = .ok () (setCells w b (o + k) vs)
  | [], w, k, c, t, fr, h, hf, hsz, hv => by simp [storeCells, setCells]
  | v :: vs, w, k, c, t, fr, h, hf, hsz, hv => by
    simp only [List.length_cons] at hsz
    have hcell : w.cell? ⟨b, o + k, none⟩ = some c[o + k] := by rw [cell_of_block h, Array.getElem?_eq_getElem (by omega)]
    have hfz : w.frozen? ⟨b, o + k, none⟩ = false := by
      unfold World.frozen?; simp only [h]; simp; omega
    simp only [storeCells, Sem.run_bind]
    rw [Addr.add_none, run_store P w _ v .plain (hv v List.mem_cons_self), hcell]
    simp only [hfz, Bool.false_eq_true, if_false, Result.andThen_ok]
    rw [run_storeCells vs _ (k + 1) _ t fr (setCell_at h) (by simpa using hf) (by simp; omega) fun u hu => hv u (List.mem_cons_of_mem _ hu)]
    rfl

theorem putAt_get : ∀ (cs e : List AV) (j x : Nat), j + cs.length ≤ e.length → (putAt e j cs)[x]? = if j ≤ x ∧ x < j + cs.length then cs[x - j]? else e[x]?
  | [], e, j, x, _ => by rw [putAt, if_neg (by simp only [List.length_nil]; omega)]
  | c :: cs, e, j, x, h => by
    simp only [List.length_cons] at h
    rw [putAt, putAt_get cs _ (j + 1) x (by simp; omega)]
    by_cases hx : x = j
    · subst hx
      rw [if_neg (by omega), if_pos (by simp), List.getElem?_set, if_pos rfl, if_pos (by omega)]; simp
    · by_cases hy : j + 1 ≤ x ∧ x < j + 1 + cs.length
      · rw [if_pos hy, if_pos (by simp; omega), show x - j = (x - (j + 1)) + 1 from by omega]; simp
      · rw [if_neg hy, if_neg (by simp; omega), List.getElem?_set]; simp [Ne.symm hx]

/-- A block with other cells from place (i, j) on; e: its row number i. -/
def Blk.putRow (B : Blk) (i : Nat) (e : List AV) : Blk := match B with
  | .box v _ => .box v e
  | .arr n v rows => .arr n v (rows.set i e)

theorem putRow_ver {B : Blk} {i : Nat} {e : List AV} : (B.putRow i e).ver = B.ver := by cases B <;> rfl

theorem putRow_rows {B : Blk} {i : Nat} {e e' : List AV} (h : B.rows[i]? = some e) : (B.putRow i e').rows = B.rows.set i e' := by
  cases B with
  | box v d => cases i with
    | zero => rfl
    | succ i => simp [Blk.rows] at h
  | arr n v rows => rfl

theorem putRow_esz {B : Blk} {i : Nat} {e e' : List AV} (h : B.rows[i]? = some e) (hl : e'.length = e.length) : (B.putRow i e').esz = B.esz := by
  cases B with
  | box v d => cases i with
    | zero => simp [Blk.rows] at h; subst h; exact hl
    | succ i => simp [Blk.rows] at h
  | arr n v rows => rfl

theorem store_ok {E : Env} (hI : Inv E) {id i j : Nat} {B : Blk} {e cs : List AV} {vs : List Value} (hB : E.H id = some B) (hl : E.live id) (hi : B.rows[i]? = some e)
    (hc : Cs E cs vs) (h1v : ∀ v ∈ vs, v.oneCell' = true) (hj : j + cs.length ≤ e.length) :
    Inv (E.put id (B.putRow i (putAt e j cs)) (E.addr id) (setCells E.w (E.addr id).block ((E.addr id).off + i * B.esz + j) vs)) ∧
    Le E (E.put id (B.putRow i (putAt e j cs)) (E.addr id) (setCells E.w (E.addr id).block ((E.addr id).off + i * B.esz + j) vs)) := by
  obtain ⟨hsp, c, t, fr, hblk, hfr, hsz, hrel⟩ := hI.blk id B hB hl
  have he : e.length = B.esz := by
    cases B with
    | box v d => cases i with
      | zero => simp [Blk.rows] at hi; subst hi; rfl
      | succ i => simp [Blk.rows] at hi
    | arr n v rows => exact ((Rows_iff _ _).1 hrel i e hi).1
  have hvl : vs.length = cs.length := Cs.length _ _ hc
  have hilt : i < B.rows.length := (List.getElem?_eq_some_iff.1 hi).1
  have hmul : (i + 1) * B.esz ≤ B.rows.length * B.esz := Nat.mul_le_mul_right _ hilt
  have hsm : (i + 1) * B.esz = i * B.esz + B.esz := Nat.succ_mul _ _
  have hpl : (putAt e j cs).length = e.length := putAt_length _ _ _
  obtain ⟨f1, f2, f3, f4, f5⟩ := setCells_fields (E.addr id).block vs E.w ((E.addr id).off + i * B.esz + j)
  obtain ⟨c', g1, g2, g3⟩ := setCells_at (E.addr id).block vs E.w ((E.addr id).off + i * B.esz + j) c t fr hblk (by omega)
  have g3a : ∀ x, (E.addr id).off + i * B.esz + j ≤ x → x < (E.addr id).off + i * B.esz + j + vs.length → c'[x]? = vs[x - ((E.addr id).off + i * B.esz + j)]? := fun x h1 h2 => by rw [g3, if_pos ⟨h1, h2⟩]
  have g3b : ∀ x, (x < (E.addr id).off + i * B.esz + j ∨ (E.addr id).off + i * B.esz + j + vs.length ≤ x) → c'[x]? = c[x]? := fun x h1 => by rw [g3, if_neg (by omega)]
  clear g3
  have hbs : bsz (setCells E.w (E.addr id).block ((E.addr id).off + i * B.esz + j) vs) (E.addr id).block = bsz E.w (E.addr id).block := by
    unfold bsz; rw [g1, hblk]; exact g2
  have hp : PutOk E id (B.putRow i (putAt e j cs)) (E.addr id) (setCells E.w (E.addr id).block ((E.addr id).off + i * B.esz + j) vs) := {
    os := f1
    tape := f2
    output := f3
    size := Nat.le_of_eq f4.symm
    keep := fun b _ hn => f5 b fun hb => hn ⟨B, hB, hl, hb.symm⟩
    place := .inr ⟨B, hB, hl, rfl⟩
    ver := fun B0 h0 => by
      rw [hB] at h0; simp only [Option.some.injEq] at h0; subst h0
      exact .inr ⟨putRow_ver.symm, putRow_esz hi hpl, by rw [putRow_rows hi]; simp, fun _ => ⟨rfl, hbs⟩⟩ }
  have hL := put_le hI hp
  have hcell : ∀ y, (E.put id (B.putRow i (putAt e j cs)) (E.addr id) (setCells E.w (E.addr id).block ((E.addr id).off + i * B.esz + j) vs)).w.cell? ⟨(E.addr id).block, y, none⟩ = c'[y]? := fun y => cell_of_block g1
  refine ⟨put_inv hI hp hsp ⟨c', t, fr, g1, by rw [g2]; exact hfr, ?_⟩ ?_, hL⟩
  · rw [putRow_esz hi hpl, putRow_rows hi, g2]; simpa using hsz
  · cases B with
    | box v d =>
      have hi0 : i = 0 := by cases i with
        | zero => rfl
        | succ i => simp [Blk.rows] at hi
      subst hi0
      have hde : d = e := by simpa [Blk.rows] using hi
      subst hde
      simp only [Blk.esz, Nat.zero_mul, Nat.add_zero] at *
      show At _ _ _ _
      rw [At_iff]
      intro x y hx
      rw [putAt_get _ _ _ _ hj] at hx
      by_cases hin : j ≤ x ∧ x < j + cs.length
      · rw [if_pos hin] at hx
        obtain ⟨v, k1, k2⟩ := Cs.get? _ _ _ _ hc hx
        refine ⟨v, ?_, h1v v (List.mem_of_getElem? k1), CRel.mono hI hL _ _ k2⟩
        rw [hcell, g3a _ (by omega) (by omega), show (E.addr id).off + x - ((E.addr id).off + j) = x - j from by omega]; exact k1
      · rw [if_neg hin] at hx
        obtain ⟨u, k1, k0, k2⟩ := (At_iff _ _).1 hrel x y hx
        refine ⟨u, ?_, k0, CRel.mono hI hL _ _ k2⟩
        rw [hcell, g3b _ (by omega)]; rw [cell_of_block hblk] at k1; exact k1
    | arr n v rows =>
      have hrow := (Rows_iff _ _).1 hrel
      show Rows _ _ _ _ _
      rw [Rows_iff]
      intro i' e' hi'
      simp only [Blk.esz, Blk.rows] at *
      rw [List.getElem?_set] at hi'
      by_cases hii : i = i'
      · subst hii
        rw [if_pos rfl, if_pos hilt] at hi'
        simp only [Option.some.injEq] at hi'; subst hi'
        refine ⟨by rw [hpl, he], ?_⟩
        rw [At_iff]
        intro x d hx
        rw [putAt_get _ _ _ _ hj] at hx
        by_cases hin : j ≤ x ∧ x < j + cs.length
        · rw [if_pos hin] at hx
          obtain ⟨u, k1, k2⟩ := Cs.get? _ _ _ _ hc hx
          refine ⟨u, ?_, h1v u (List.mem_of_getElem? k1), CRel.mono hI hL _ _ k2⟩
          rw [hcell, g3a _ (by omega) (by omega), show (E.addr id).off + i * n + x - ((E.addr id).off + i * n + j) = x - j from by omega]; exact k1
        · rw [if_neg hin] at hx
          obtain ⟨y, k1, k0, k2⟩ := (At_iff _ _).1 (hrow i e hi).2 x d hx
          refine ⟨y, ?_, k0, CRel.mono hI hL _ _ k2⟩
          rw [hcell, g3b _ (by omega)]; rw [cell_of_block hblk] at k1; exact k1
      · rw [if_neg hii] at hi'
        obtain ⟨k1, k2⟩ := hrow i' e' hi'
        refine ⟨k1, ?_⟩
        rw [At_iff] at k2 ⊢
        intro x d hx
        obtain ⟨y, m1, m0, m2⟩ := k2 x d hx
        have hxl : x < n := by have := (List.getElem?_eq_some_iff.1 hx).1; omega
        refine ⟨y, ?_, m0, CRel.mono hI hL _ _ m2⟩
        rw [hcell, g3b]
        · rw [cell_of_block hblk] at m1; exact m1
        · rcases Nat.lt_or_gt_of_ne hii with h | h
          · have : (i + 1) * n ≤ i' * n := Nat.mul_le_mul_right _ h
            omega
          · have h1 : (i' + 1) * n ≤ i * n := Nat.mul_le_mul_right _ h
            have h2 : (i' + 1) * n = i' * n + n := Nat.succ_mul _ _
            omega

/-- The store of a value: which block is another one afterwards. -/
def storeOp (P : Program) (H : Hp) (t : TypeId) : AV → AV → List Sc → Option (Nat × Blk × List Sc × List Prop)
  | .ptr id ver i j, v, sc =>
    if okPart v = true ∧ (cellsAV v).all cellOk = true ∧ szOf P t = some (cellsAV v).length then
      match H id with
      | some (.box w e) => if w = ver ∧ i = 0 ∧ j + (cellsAV v).length ≤ e.length then some (id, .box w (putAt e j (cellsAV v)), sc, []) else none
      | some (.arr n w rows) => match sc with
        | .el e :: sc => if w = ver ∧ j + (cellsAV v).length ≤ e.length then some (id, .arr n w (rows.set i (putAt e j (cellsAV v))), sc, [rows[i]? = some e]) else none
        | _ => none
      | none => none
    else none
  | _, _, _ => none

theorem run_storeAt {P : Program} {E : Env} (hI : Inv E) {t : TypeId} {id i j : Nat} {B : Blk} {e : List AV} {v : AV} {x : Value} (hB : E.H id = some B) (hl : E.live id) (hi : B.rows[i]? = some e)
    (hv : okPart v = true) (ha : (cellsAV v).all cellOk = true) (hs : szOf P t = some (cellsAV v).length) (hj : j + (cellsAV v).length ≤ e.length) (hx : CRel E v x) :
    (Instr.storeAt t (.pointer (some ⟨(E.addr id).block, (E.addr id).off + i * B.esz + j, none⟩)) x).run P E.w = .ok () (setCells E.w (E.addr id).block ((E.addr id).off + i * B.esz + j) x.cells.toList) := by
  have hc := cellsAV_ok hv hx
  have hlen : x.cells.size = (cellsAV v).length := by simpa using Cs.length _ _ hc
  obtain ⟨hsp, c, ty, fr, hblk, hfr, hsz, hrel⟩ := hI.blk id B hB hl
  have he : e.length = B.esz := by
    cases B with
    | box v d => cases i with
      | zero => simp [Blk.rows] at hi; subst hi; rfl
      | succ i => simp [Blk.rows] at hi
    | arr n v rows => exact ((Rows_iff _ _).1 hrel i e hi).1
  have hilt : i < B.rows.length := (List.getElem?_eq_some_iff.1 hi).1
  have hmul : (i + 1) * B.esz ≤ B.rows.length * B.esz := Nat.mul_le_mul_right _ hilt
  have hsm : (i + 1) * B.esz = i * B.esz + B.esz := Nat.succ_mul _ _
  have := run_storeCells (P := P) (b := (E.addr id).block) (o := (E.addr id).off + i * B.esz + j) x.cells.toList E.w 0 c ty fr hblk hfr (by simp [hlen]; omega) (Cs.all_one _ _ hc ha)
  rw [Nat.add_zero] at this
  simp only [Instr.storeAt, Instr.sureAddr, storeVar, pure_bind, Sem.run_bind, run_szOf hs, Result.andThen_ok, hlen, ne_eq, not_true_eq_false, if_false]
  exact this

theorem storeOp_ok {P : Program} {o : Oper} {l : List AV} {H : Hp} {t : TypeId} {p q : Operand} {sc sc' : List Sc} {obs : List Prop} {id : Nat} {B' : Blk} (hop : o.op = .store t p q)
    (h : storeOp P H t (aev l p) (aev l q) sc = some (id, B', sc', obs)) (ho : ∀ r ∈ obs, r) : OOk P o l H (.lit undef) (upd H id B') := by
  intro E a hH hI hl next Q hn
  have hp := aev_ok hl p
  have hq := aev_ok hl q
  unfold storeOp at h
  split at h <;> try (simp at h; done)
  rename_i id' ver i j hav
  rw [hav] at hp
  split at h <;> try (simp at h; done)
  rename_i hk
  obtain ⟨hone, B, hB, hv, hr⟩ := hp
  have hB' : H id' = some B := by rw [← hH]; exact hB
  have fin : ∀ e, B.rows[i]? = some e → B.ver = ver → j + (cellsAV (aev l q)).length ≤ e.length → B' = B.putRow i (putAt e j (cellsAV (aev l q))) → id = id' → o.wp P a E.w next Q := by
    intro e he hver hj hB'' hid
    subst hid hB''
    obtain ⟨hlv, _, hptr⟩ := hr hver.symm
    obtain ⟨h1, h2⟩ := store_ok hI hB hlv he (cellsAV_ok hk.1 hq) (Cs.all_one _ _ (cellsAV_ok hk.1 hq) hk.2.1) hj
    have hrun : (execOp a.eval o).run P E.w = .ok .skip (setCells E.w (E.addr id).block ((E.addr id).off + i * B.esz + j) (a.eval q).cells.toList) := by
      simp only [execOp, hop, hptr, Sem.run_bind, run_storeAt hI hB hlv he hk.1 hk.2.1 hk.2.2 hj hq, Result.andThen_ok, Sem.run_pure]
    unfold Oper.wp; rw [hrun]
    exact hn _ _ (by simp [Env.put, hH]) h1 h2 rfl
  split at h
  · rename_i w e hHB
    rw [hB'] at hHB; simp only [Option.some.injEq] at hHB; subst hHB
    split at h <;> try (simp at h; done)
    rename_i hc
    simp only [Option.some.injEq, Prod.mk.injEq] at h
    obtain ⟨rfl, rfl, _, _⟩ := h
    exact fin e (by rw [hc.2.1]; rfl) hc.1 hc.2.2 rfl rfl
  · rename_i n w rows hHB
    rw [hB'] at hHB; simp only [Option.some.injEq] at hHB; subst hHB
    split at h <;> try (simp at h; done)
    rename_i e sc0
    split at h <;> try (simp at h; done)
    rename_i hc
    simp only [Option.some.injEq, Prod.mk.injEq] at h
    obtain ⟨rfl, rfl, _, rfl⟩ := h
    exact fin e (ho _ (List.mem_singleton.2 rfl)) hc.1 hc.2 rfl rfl
  · simp at h

end Go.Am
end PartAmStore

section PartAmCall
/- Calls: the contract of a function, told by abstract values; what is its own becomes data when it returns. -/
namespace Go.Am
open Go

/-- Function f, called with args where the heap reads H, returns v and leaves H'. -/
def FC (P : Program) (f : FuncId) (args : List AV) (H : Hp) (v : AV) (H' : Hp) : Prop :=
  ∀ (E : Env) (vs : Array Value), E.H = H → Inv E → Cs E args vs.toList → Calls P f vs E.w fun e w' =>
    ∃ x E', e = .returned x ∧ E'.w = w' ∧ E'.H = H' ∧ Inv E' ∧ Le E E' ∧ CRel E' v x

def hnil : Hp := fun _ => none

/-- A function that only computes: data in, data out. -/
def PureC (P : Program) (f : FuncId) (args : List AV) (v : AV) : Prop := FC P f args hnil v hnil

def enters (P : Program) (f : FuncId) : Bool :=
  match P.funcs[f]? with
  | some fn => fn.body.isSome && !(fn.name == "runtime.NumGoroutine")
  | none => false

theorem run_callFunc {P : Program} {f : FuncId} (h : enters P f = true) (args : Array Value) (w : World) : (callFunc f args).run P w = .ok (.enter f args) w := by
  unfold enters at h
  split at h <;> try (simp at h; done)
  rename_i fn hf
  simp only [Bool.and_eq_true, Bool.not_eq_true'] at h
  have hb : fn.body ≠ none := by intro hb; rw [hb] at h; simp at h
  have hn : fn.name ≠ "runtime.NumGoroutine" := by simpa using h.2
  simp [callFunc, hf, hn, hb]

/-- The view of a callee that sees no block of its caller's. -/
def Env.shut (E : Env) : Env := ⟨hnil, E.addr, E.live, E.S, E.w⟩
/-- The caller's view, behind such a call. -/
def Env.back (E E' : Env) : Env := ⟨E.H, E.addr, E.live, E'.S, E'.w⟩

theorem shut_inv {E : Env} (hI : Inv E) : Inv E.shut where
  owned := by rintro b ⟨i, B, _, h, _⟩; simp [Env.shut, hnil] at h
  small := hI.small
  blk := by intro i B h; simp [Env.shut, hnil] at h
  inj := by intro i j B C _ _ h; simp [Env.shut, hnil] at h

theorem not_owned_shut {E : Env} {b : Nat} : ¬ Owned E.shut b := by rintro ⟨i, B, _, h, _⟩; simp [Env.shut, hnil] at h

theorem back_le {E E' : Env} (hI : Inv E) (hL : Le E.shut E') : Le E (E.back E') where
  os := hL.os
  tape := hL.tape
  output := hL.output
  osub := fun b _ h => h
  size := hL.size
  keep := fun b hb _ => hL.keep b hb not_owned_shut
  sub := hL.sub
  sup := hL.sup
  ids := fun i B hB => ⟨B, hB, Nat.le_refl _, fun _ => ⟨rfl, rfl, fun hl => ⟨hl, rfl, bsz_congr (hL.keep _ (hI.small _ (hI.owned _ ⟨i, B, hl, hB, rfl⟩)) not_owned_shut)⟩⟩⟩

theorem back_inv {E E' : Env} (hI : Inv E) (hI' : Inv E') (hL : Le E.shut E') : Inv (E.back E') where
  owned := fun b h => hL.sup b (hI.owned b h)
  small := hI'.small
  blk := by
    intro i B hB hl
    obtain ⟨h1, c, t, fr, h2, h3, h4, h5⟩ := hI.blk i B hB hl
    have hk : E'.w.heap[(E.addr i).block]? = E.w.heap[(E.addr i).block]? := hL.keep _ (hI.small _ (hI.owned _ ⟨i, B, hl, hB, rfl⟩)) not_owned_shut
    exact ⟨h1, c, t, fr, by rw [← h2]; exact hk, h3, h4, BRel.keep hI (back_le hI hL) hk h5⟩
  inj := hI.inj

/-- A function that only computes does so wherever it is called. -/
theorem PureC.frame {P : Program} {f : FuncId} {args : List AV} {v : AV} (h : PureC P f args v) (ha : dataAll args = true) (hv : dataOk v = true) (H : Hp) : FC P f args H v H := by
  intro E vs hH hI hc
  have hd : DCs E.S E.w args vs.toList := Cs.down args _ ha hc
  refine (h E.shut vs rfl (shut_inv hI) (DCs.up (E := E.shut) args _ hd)).mono ?_
  rintro e w' ⟨x, E', he, hw, hH', hI', hL, hx⟩
  have hdx : DRel E'.S E'.w v x := CRel.down v x hv hx
  exact ⟨x, E.back E', he, hw, hH, back_inv hI hI' hL, back_le hI hL, DRel.up (E := E.back E') v x hdx⟩

/-- What is called: the function, and the arguments with what it has captured. -/
def callee (l : List AV) (c : Call) : Option (FuncId × List AV) :=
  match c.callee with
  | .value x => match aev l x with
    | .fn (.func f) first captured => some (f, first ++ c.args.toList.map (aev l) ++ captured)
    | _ => none
  | _ => none

theorem callee_ok {P : Program} {E : Env} {l : List AV} {a : Act} {o : Oper} {c : Call} {f : FuncId} {args : List AV} (hl : Cs E l a.tmps.toList) (hop : o.op = .call c) (h : callee l c = some (f, args))
    (he : enters P f = true) : ∃ vs : Array Value, (execOp a.eval o).run P E.w = .ok (.enter f vs) E.w ∧ Cs E args vs.toList := by
  unfold callee at h
  split at h <;> try (simp at h; done)
  rename_i x hcal
  split at h <;> try (simp at h; done)
  rename_i g first captured hav
  simp only [Option.some.injEq, Prod.mk.injEq] at h
  obtain ⟨rfl, rfl⟩ := h
  have hx := aev_ok hl x
  rw [hav] at hx
  obtain ⟨va, vb, h1, h2, h3⟩ := hx
  refine ⟨va ++ c.args.map a.eval ++ vb, ?_, ?_⟩
  · simp [execOp, hop, resolve, hcal, h1, Deferred.ofValue, invoke, run_callFunc he]
  · simp only [Array.toList_append, Array.toList_map]
    exact Cs.append _ _ _ _ (Cs.append _ _ _ _ h2 (Cs_map hl _)) h3

theorem call_ok {P : Program} {l : List AV} {o : Oper} {c : Call} {f : FuncId} {args : List AV} {H H' : Hp} {v : AV} (hop : o.op = .call c) (h : callee l c = some (f, args)) (he : enters P f = true)
    (hc : FC P f args H v H') : OOk P o l H v H' := by
  intro E a hH hI hl next Q hn
  obtain ⟨vs, hr, hcs⟩ := callee_ok hl hop h he
  unfold Oper.wp; rw [hr]
  simp only [Oper.upon]
  refine (hc E vs hH hI hcs).mono ?_
  rintro e w' ⟨x, E', rfl, rfl, hH', hI', hL, hx⟩
  exact hn E' x hH' hI' hL hx

mutual
/-- A value whose slices of one's own become data. -/
def frz (H : Hp) : AV → Option (AV × List Prop)
  | .own id ver off len nz => match H id with
    | some (.arr n v rows) => some (.ro n ((rows.drop off).take len) nz, [v = ver, len ≤ LIM, ((rows.drop off).take len).all dataAll = true])
    | _ => none
  | .ptr .. => none
  | .win .. => none
  | .agg cs => match frzL H cs with | some (r, p) => some (.agg r, p) | none => none
  | .tup cs => match frzL H cs with | some (r, p) => some (.tup r, p) | none => none
  | .fn f a b => if (dataAll a && dataAll b) = true then some (.fn f a b, []) else none
  | .ifc t v => match frz H v with | some (r, p) => some (.ifc t r, p) | none => none
  | v => some (v, [])
def frzL (H : Hp) : List AV → Option (List AV × List Prop)
  | [] => some ([], [])
  | c :: cs => match frz H c, frzL H cs with | some (r, p), some (rs, ps) => some (r :: rs, p ++ ps) | _, _ => none
end

mutual
theorem frz_ok {E : Env} (hI : Inv E) {S : Nat → Prop} (hS : ∀ b, S b → E.S b ∧ ¬ Owned E b) : ∀ (av v : AV) (obs : List Prop) (x : Value), frz E.H av = some (v, obs) → (∀ q ∈ obs, q) → CRel E av x → DRel S E.w v x
  | .lit u, v, obs, x, h, ho, hx => by simp only [frz, Option.some.injEq, Prod.mk.injEq] at h; obtain ⟨rfl, _⟩ := h; exact hx
  | .ro n xs nz, v, obs, x, h, ho, hx => by
    simp only [frz, Option.some.injEq, Prod.mk.injEq] at h; obtain ⟨rfl, _⟩ := h
    exact DRel.mono ⟨Nat.le_refl _, fun _ _ _ => rfl, fun b _ hb => (hS b hb).1⟩ (.ro n xs nz) x hx
  | .rop e j, v, obs, x, h, ho, hx => by
    simp only [frz, Option.some.injEq, Prod.mk.injEq] at h; obtain ⟨rfl, _⟩ := h
    exact DRel.mono ⟨Nat.le_refl _, fun _ _ _ => rfl, fun b _ hb => (hS b hb).1⟩ (.rop e j) x hx
  | .rom e, v, obs, x, h, ho, hx => by
    simp only [frz, Option.some.injEq, Prod.mk.injEq] at h; obtain ⟨rfl, _⟩ := h
    exact DRel.mono ⟨Nat.le_refl _, fun _ _ _ => rfl, fun b _ hb => (hS b hb).1⟩ (.rom e) x hx
  | .any, v, obs, x, h, ho, hx => by simp only [frz, Option.some.injEq, Prod.mk.injEq] at h; obtain ⟨rfl, _⟩ := h; trivial
  | .ptr .., v, obs, x, h, ho, hx => by simp [frz] at h
  | .win .., v, obs, x, h, ho, hx => by simp [frz] at h
  | .fn f a b, v, obs, x, h, ho, hx => by
    simp only [frz] at h
    split at h <;> try (simp at h; done)
    rename_i hk
    simp only [Option.some.injEq, Prod.mk.injEq] at h; obtain ⟨rfl, _⟩ := h
    exact DRel.mono ⟨Nat.le_refl _, fun _ _ _ => rfl, fun b _ hb => (hS b hb).1⟩ (.fn f a b) x (CRel.down (.fn f a b) x (by simpa [dataOk] using hk) hx)
  | .agg cs, v, obs, x, h, ho, ⟨vs, h1, h2⟩ => by
    simp only [frz] at h
    split at h <;> try (simp at h; done)
    rename_i r p hr
    simp only [Option.some.injEq, Prod.mk.injEq] at h; obtain ⟨rfl, rfl⟩ := h
    exact ⟨vs, h1, frzL_ok hI hS cs r _ _ hr ho h2⟩
  | .tup cs, v, obs, x, h, ho, ⟨vs, h1, h2⟩ => by
    simp only [frz] at h
    split at h <;> try (simp at h; done)
    rename_i r p hr
    simp only [Option.some.injEq, Prod.mk.injEq] at h; obtain ⟨rfl, rfl⟩ := h
    exact ⟨vs, h1, frzL_ok hI hS cs r _ _ hr ho h2⟩
  | .ifc t u, v, obs, x, h, ho, ⟨y, h1, h2⟩ => by
    simp only [frz] at h
    split at h <;> try (simp at h; done)
    rename_i r p hr
    simp only [Option.some.injEq, Prod.mk.injEq] at h; obtain ⟨rfl, rfl⟩ := h
    exact ⟨y, h1, frz_ok hI hS u r _ _ hr ho h2⟩
  | .own id ver off len nz, v, obs, x, h, ho, hx => by
    simp only [frz] at h
    split at h <;> try (simp at h; done)
    rename_i n w rows hB
    simp only [Option.some.injEq, Prod.mk.injEq] at h; obtain ⟨rfl, rfl⟩ := h
    have hv := ho _ List.mem_cons_self
    have hlim := ho _ (List.mem_cons_of_mem _ List.mem_cons_self)
    have hdat := ho _ (List.mem_cons_of_mem _ (List.mem_cons_of_mem _ (List.mem_singleton.2 rfl)))
    obtain ⟨_, B, hB', _, hr⟩ := hx
    rw [hB] at hB'; simp only [Option.some.injEq] at hB'; subst hB'
    obtain ⟨hlen, hr⟩ := hr hv.symm
    simp only [Blk.rows, Blk.esz] at hlen hr
    have hl : ((rows.drop off).take len).length = len := by simp; omega
    rcases hr with ⟨cap, hlv, rfl, h3, h4⟩ | ⟨a, rfl, rfl, _, hz⟩
    · refine ⟨_, cap, by rw [hl], fun _ => by simp, fun h => by simp at h, by rw [hl]; omega, by rw [hl]; exact hlim, .inr ⟨(E.addr id).block, (E.addr id).off + off * n, rfl, ?_, ?_, ?_, ?_⟩⟩
      · exact fun hs => (hS _ hs).2 ⟨id, _, hlv, hB, rfl⟩
      · exact hI.small _ (hI.owned _ ⟨id, _, hlv, hB, rfl⟩)
      · rw [Nat.add_assoc, ← Nat.add_mul]; exact h4
      · obtain ⟨_, c, t, fr, _, _, _, hrel⟩ := hI.blk id _ hB hlv
        exact DRows.keep ⟨Nat.le_refl _, fun _ _ _ => rfl, fun b _ hb => (hS b hb).1⟩ rfl (Rows.down _ _ hdat (Rows.take _ _ _ (Rows.drop _ _ _ hrel)))
    · exact ⟨a, 0, by rw [hl], hz, fun _ => rfl, by rw [hl]; omega, by rw [hl]; exact hlim, .inl (List.eq_nil_of_length_eq_zero hl)⟩
theorem frzL_ok {E : Env} (hI : Inv E) {S : Nat → Prop} (hS : ∀ b, S b → E.S b ∧ ¬ Owned E b) : ∀ (cs rs : List AV) (obs : List Prop) (vs : List Value), frzL E.H cs = some (rs, obs) → (∀ q ∈ obs, q) → Cs E cs vs → DCs S E.w rs vs
  | [], rs, obs, vs, h, ho, hc => by simp only [frzL, Option.some.injEq, Prod.mk.injEq] at h; obtain ⟨rfl, _⟩ := h; exact hc
  | c :: cs, rs, obs, _, h, ho, ⟨v, r, h1, h2, h3⟩ => by
    simp only [frzL] at h
    split at h <;> try (simp at h; done)
    rename_i q p qs ps hq hqs
    simp only [Option.some.injEq, Prod.mk.injEq] at h; obtain ⟨rfl, rfl⟩ := h
    exact ⟨v, r, h1, frz_ok hI hS c q _ _ hq (fun z hz => ho z (List.mem_append_left _ hz)) h2, frzL_ok hI hS cs qs _ _ hqs (fun z hz => ho z (List.mem_append_right _ hz)) h3⟩
end

end Go.Am
end PartAmCall

section PartAmCode
/- What a piece of code does, told by abstract states: sequences, tests, blocks, loops, regions. -/
namespace Go.Am
open Go

def Ex.toExit : Ex → Exit
  | .normal => .normal
  | .ret => .ret
  | .exit id => .exit id
  | .goto l => .goto l

/-- Code c, begun in state s, ends by ex in state s'. -/
def CW (P : Program) (c : Code) (s : St) (ex : Ex) (s' : St) : Prop :=
  ∀ (E0 E : Env) (a : Act) (df : List Deferred) (Q : Exit → Act → World → Prop), Rel E0 E s a df →
    (∀ E' a', Rel E0 E' s' a' df → Q ex.toExit a' E'.w) → c.wp P Q a E.w

section
variable {P : Program}

theorem CW.skip {s : St} : CW P .skip s .normal s := fun _ E a _ _ hr hq => wp_skip (hq E a hr)
theorem CW.ret {s : St} : CW P .ret s .ret s := fun _ E a _ _ hr hq => wp_ret (hq E a hr)
theorem CW.exit {s : St} {id : Nat} : CW P (.exit id) s (.exit id) s := fun _ E a _ _ hr hq => wp_exit (hq E a hr)
theorem CW.label {s : St} {l : Nat} : CW P (.label l) s .normal s := fun _ E a _ _ hr hq => wp_label (hq E a hr)

theorem CW.seq {x y : Code} {s s1 s' : St} {ex : Ex} (h1 : CW P x s .normal s1) (h2 : CW P y s1 ex s') : CW P (.seq x y) s ex s' :=
  fun E0 E a df Q hr hq => wp_seq (h1 E0 E a df _ hr fun E' a' hr' => h2 E0 E' a' df Q hr' hq)

theorem CW.seq_out {x y : Code} {s s' : St} {ex : Ex} (h1 : CW P x s ex s') (hn : ex ≠ .normal) : CW P (.seq x y) s ex s' :=
  fun E0 E a df Q hr hq => wp_seq (h1 E0 E a df _ hr fun E' a' hr' => by
    have := hq E' a' hr'
    cases ex <;> first | exact absurd rfl hn | exact this)

theorem CW.cond {c : Operand} {x y : Code} {s s' : St} {b : Bool} {ex : Ex} (hc : aev s.1 c = .lit (.bool b)) (h : CW P (if b then x else y) s ex s') : CW P (.cond c x y) s ex s' :=
  fun E0 E a df Q hr hq => by
    have := aev_ok hr.cs c
    rw [hc] at this
    exact wp_cond this (h E0 E a df Q hr hq)

theorem CW.block {id : Nat} {c : Code} {s s' : St} {ex : Ex} (h : CW P c s ex s') (hn : ex ≠ .exit id) : CW P (.block id c) s ex s' :=
  fun E0 E a df Q hr hq => wp_block (h E0 E a df _ hr fun E' a' hr' => by
    have := hq E' a' hr'
    cases ex with
    | exit id' => simp only [Ex.toExit, Exit.inBlock]; rw [if_neg (fun e => hn (by rw [e]))]; exact this
    | _ => exact this)

theorem CW.block_exit {id : Nat} {c : Code} {s s' : St} (h : CW P c s (.exit id) s') : CW P (.block id c) s .normal s' :=
  fun E0 E a df Q hr hq => wp_block (h E0 E a df _ hr fun E' a' hr' => by
    simp only [Ex.toExit, Exit.inBlock, if_true]; exact hq E' a' hr')

/-- A loop: some rounds, and one that leaves it. -/
theorem CW.loop {c : Code} {s' : St} {ex : Ex} (hn : ex ≠ .normal) (σ : Nat → St) (n : Nat) (hr : ∀ i, i < n → CW P c (σ i) .normal (σ (i + 1))) (he : CW P c (σ n) ex s') : CW P (.loop c) (σ 0) ex s' := by
  intro E0 E a df Q hrel hq b k cs
  have key : ∀ m i E a, i + m = n → Rel E0 E (σ i) a df → ∃ e a' w', Q e a' w' ∧ Arrives P (lone (b.at a (.code c :: .inLoop c :: k)) cs E.w) b k cs e a' w' := by
    intro m
    induction m with
    | zero =>
      intro i E a hi hrel
      have : i = n := by omega
      subst this
      obtain ⟨e, a₁, w₁, hq₁, harr⟩ := he E0 E a df (fun e a w => e = ex.toExit ∧ Q e a w) hrel (fun E' a' h => ⟨rfl, hq E' a' h⟩) b (.inLoop c :: k) cs
      obtain ⟨rfl, hq₁⟩ := hq₁
      refine ⟨_, a₁, w₁, hq₁, Arrives.pass (x := .inLoop c) rfl (fun _ _ => .inl ?_) harr⟩
      cases ex <;> first | exact absurd rfl hn | (simp [Ex.toExit])
    | succ m ih =>
      intro i E a hi hrel
      obtain ⟨e, a₁, w₁, ⟨rfl, E', rfl, hrel'⟩, harr⟩ := hr i (by omega) E0 E a df (fun e a w => e = .normal ∧ ∃ E', E'.w = w ∧ Rel E0 E' (σ (i + 1)) a df) hrel
        (fun E' a' h => ⟨rfl, E', rfl, h⟩) b (.inLoop c :: k) cs
      obtain ⟨e₂, a₂, w₂, hq₂, harr₂⟩ := ih (i + 1) E' a₁ (by omega) hrel'
      exact ⟨e₂, a₂, w₂, hq₂, .of_steps (Steps.trans harr (.one step_inLoop)) harr₂⟩
  obtain ⟨e, a', w', hq', harr⟩ := key n 0 E a (by omega) hrel
  exact ⟨e, a', w', hq', .of_steps (.one step_loop) harr⟩

/-- The slots that a mask leaves; the others are forgotten. -/
def maskL : List Bool → List AV → List AV
  | true :: m, v :: l => v :: maskL m l
  | _ :: m, _ :: l => .any :: maskL m l
  | [], l => l
  | _, [] => []

theorem maskL_ok {E : Env} : ∀ (m : List Bool) (l : List AV) (vs : List Value), Cs E l vs → Cs E (maskL m l) vs
  | [], l, vs, h => by cases l <;> exact h
  | true :: m, [], vs, h => h
  | false :: m, [], vs, h => h
  | true :: m, v :: l, _, ⟨x, r, h1, h2, h3⟩ => ⟨x, r, h1, h2, maskL_ok m l r h3⟩
  | false :: m, v :: l, _, ⟨x, r, h1, _, h3⟩ => ⟨x, r, h1, trivial, maskL_ok m l r h3⟩

theorem CW.weak {c : Code} {s s' : St} {ex : Ex} {l : List AV} (m : List Bool) (h : CW P c s ex s') (hl : maskL m s'.1 = l) : CW P c s ex (l, s'.2) :=
  fun E0 E a df Q hr hq => h E0 E a df Q hr fun E' a' hr' => hq E' a' ⟨hr'.H, hr'.inv, hl ▸ maskL_ok m _ _ hr'.cs, hr'.le, hr'.df⟩

theorem CW.weak_in {c : Code} {s s' : St} {ex : Ex} {l : List AV} (m : List Bool) (hl : maskL m s.1 = l) (h : CW P c (l, s.2) ex s') : CW P c s ex s' :=
  fun E0 E a df Q hr hq => h E0 E a df Q ⟨hr.H, hr.inv, hl ▸ maskL_ok m _ _ hr.cs, hr.le, hr.df⟩ hq

mutual
/-- No block of one's own from number n on is named. -/
def under (n : Nat) : AV → Bool
  | .own id .. | .ptr id .. | .win id .. => id < n
  | .agg cs | .tup cs => underAll n cs
  | .fn _ a b => underAll n a && underAll n b
  | .ifc _ v => under n v
  | _ => true
def underAll (n : Nat) : List AV → Bool
  | [] => true
  | c :: cs => under n c && underAll n cs
end

/-- The view without the blocks from number n on. -/
def Env.cut (E : Env) (n : Nat) : Env := ⟨fun i => if i < n then E.H i else none, E.addr, E.live, E.S, E.w⟩

mutual
theorem CRel.cut {E : Env} {n : Nat} : ∀ (av : AV) (x : Value), under n av = true → CRel E av x → CRel (E.cut n) av x
  | .lit _, _, _, h => h
  | .agg cs, _, k, ⟨vs, h1, h2⟩ => ⟨vs, h1, Cs.cut cs _ (by simpa [under] using k) h2⟩
  | .tup cs, _, k, ⟨vs, h1, h2⟩ => ⟨vs, h1, Cs.cut cs _ (by simpa [under] using k) h2⟩
  | .ro _ _ _, _, _, h => h
  | .rop _ _, _, _, h => h
  | .rom _, _, _, h => h
  | .own id .., _, k, ⟨h0, B, hB, hr⟩ => ⟨h0, B, by simp only [under, decide_eq_true_eq] at k; simp [Env.cut, k, hB], hr⟩
  | .ptr id .., _, k, ⟨h0, B, hB, hr⟩ => ⟨h0, B, by simp only [under, decide_eq_true_eq] at k; simp [Env.cut, k, hB], hr⟩
  | .win id .., _, k, ⟨h0, B, hB, hr⟩ => ⟨h0, B, by simp only [under, decide_eq_true_eq] at k; simp [Env.cut, k, hB], hr⟩
  | .fn _ first captured, _, k, ⟨a, b, h1, h2, h3⟩ => by
    simp only [under, Bool.and_eq_true] at k
    exact ⟨a, b, h1, Cs.cut first _ k.1 h2, Cs.cut captured _ k.2 h3⟩
  | .ifc _ v, _, k, ⟨y, h1, h2⟩ => ⟨y, h1, CRel.cut v _ (by simpa [under] using k) h2⟩
  | .any, _, _, _ => trivial
theorem Cs.cut {E : Env} {n : Nat} : ∀ (cs : List AV) (vs : List Value), underAll n cs = true → Cs E cs vs → Cs (E.cut n) cs vs
  | [], _, _, h => h
  | c :: cs, _, k, ⟨v, r, h1, h2, h3⟩ => by
    simp only [underAll, Bool.and_eq_true] at k
    exact ⟨v, r, h1, CRel.cut c v k.1 h2, Cs.cut cs r k.2 h3⟩
end

theorem At.cut {E : Env} {n b : Nat} : ∀ (cs : List AV) (o : Nat), underAll n cs = true → At E b o cs → At (E.cut n) b o cs
  | [], _, _, _ => trivial
  | c :: cs, o, k, ⟨⟨y, h1, h0, h2⟩, h3⟩ => by
    simp only [underAll, Bool.and_eq_true] at k
    exact ⟨⟨y, h1, h0, CRel.cut c y k.1 h2⟩, At.cut cs (o + 1) k.2 h3⟩

theorem Rows.cut {E : Env} {n b k : Nat} : ∀ (xs : List (List AV)) (o : Nat), xs.all (underAll n) = true → Rows E b o k xs → Rows (E.cut n) b o k xs
  | [], _, _, _ => trivial
  | e :: es, o, h, ⟨h1, h2, h3⟩ => by
    simp only [List.all_cons, Bool.and_eq_true] at h
    exact ⟨h1, At.cut e o h.1 h2, Rows.cut es (o + k) h.2 h3⟩

def blkUnder (n : Nat) : Blk → Bool
  | .box _ e => underAll n e
  | .arr _ _ rows => rows.all (underAll n)

def hof (L : HL) : Hp := fun i => L[i]?

theorem cut_le {E0 E : Env} {n : Nat} (h : Le E0 E) (hn : ∀ i B, E0.H i = some B → i < n) : Le E0 (E.cut n) where
  os := h.os
  tape := h.tape
  output := h.output
  osub := by
    rintro b hb ⟨i, B, h1, h2, h3⟩
    simp only [Env.cut] at h1 h2 h3
    split at h2
    · exact h.osub b hb ⟨i, B, h1, h2, h3⟩
    · simp at h2
  size := h.size
  keep := h.keep
  sub := h.sub
  sup := h.sup
  ids := fun i B hB => by
    obtain ⟨B', hB', hr⟩ := h.ids i B hB
    exact ⟨B', by simp [Env.cut, hn i B hB, hB'], hr⟩

theorem cut_inv {E : Env} {n : Nat} (hI : Inv E) (hb : ∀ i B, i < n → E.H i = some B → blkUnder n B = true) : Inv (E.cut n) where
  owned := by
    rintro b ⟨i, B, h1, h2, h3⟩
    simp only [Env.cut] at h1 h2 h3
    split at h2
    · exact hI.owned b ⟨i, B, h1, h2, h3⟩
    · simp at h2
  small := hI.small
  blk := by
    intro i B hB hl
    simp only [Env.cut] at hB
    split at hB
    · rename_i hi
      obtain ⟨h1, c, t, fr, h2, h3, h4, h5⟩ := hI.blk i B hB hl
      refine ⟨h1, c, t, fr, h2, h3, h4, ?_⟩
      have hu := hb i B hi hB
      cases B with
      | box v e => exact At.cut e _ hu h5
      | arr k v rows => exact Rows.cut rows _ hu h5
    · simp at hB
  inj := by
    intro i j B C hli hlj hB hC
    simp only [Env.cut] at hB hC
    split at hB
    · split at hC
      · exact hI.inj i j B C hli hlj hB hC
      · simp at hC
    · simp at hB

/-- The blocks from number n on are forgotten. -/
theorem CW.drop {c : Code} {s : St} {ex : Ex} {l : List AV} {L : HL} (n : Nat) (h : CW P c s ex (l, hof L)) (hn : ∀ i, n ≤ i → s.2 i = none) (hl : underAll n l = true)
    (hL : (L.take n).all (blkUnder n) = true) : CW P c s ex (l, hof (L.take n)) := by
  intro E0 E a df Q hr hq
  refine h E E a df Q ⟨hr.H, hr.inv, hr.cs, Le.refl E, hr.df⟩ fun E' a' hr' => ?_
  have hle : Le E (E'.cut n) := cut_le hr'.le fun i B hB => by
    rcases Nat.lt_or_ge i n with h | h
    · exact h
    · rw [hr.H, hn i h] at hB; simp at hB
  have hcut : E'.w = (E'.cut n).w := rfl
  rw [hcut]
  refine hq (E'.cut n) a' ⟨?_, cut_inv hr'.inv ?_, Cs.cut _ _ hl hr'.cs, hr.le.trans hle, hr'.df⟩
  · funext i
    simp only [Env.cut, hr'.H, hof, List.getElem?_take]
  · intro i B hi hB
    rw [hr'.H] at hB
    simp only [hof] at hB
    have : B ∈ L.take n := List.mem_of_getElem? (i := i) (by rw [List.getElem?_take, if_pos hi]; exact hB)
    exact (List.all_eq_true.1 hL) B this

end
end Go.Am
end PartAmCode

section PartAmDraw
/- Operations of a region that may change places. -/
namespace Go.Am
open Go

def one (id : Nat) (B : Blk) : Hp := fun i => if i = id then some B else none

/-- What an operation has to do with the blocks of one's own. -/
inductive K where
  | p
  | q (id : Nat) (chk : Blk → Prop)
  | h (id ver esz : Nat)
  | a (id : Nat) (B : Blk) (rd : List (Nat × Blk))
  | s (id : Nat) (B B' : Blk) (rd : List (Nat × Blk))
  | m (rd : List (Nat × Blk)) (new : List Nat) (wr : List (Nat × Blk))

def sees (H : Hp) (rd : List (Nat × Blk)) : Prop := ∀ p ∈ rd, H p.1 = some p.2

def K.ph : K → Hp → Prop
  | .p, _ => True
  | .q id chk, H => ∃ B, H id = some B ∧ chk B
  | .h id ver esz, H => ∃ B, H id = some B ∧ B.ver = ver ∧ B.esz = esz
  | .a id _ rd, H => H id = none ∧ sees H rd
  | .s id B _ rd, H => H id = some B ∧ sees H rd
  | .m rd new _, H => (∀ i ∈ new, H i = none) ∧ sees H rd

def K.wr : K → List (Nat × Blk)
  | .a id B _ => [(id, B)]
  | .s id _ B' _ => [(id, B')]
  | .m _ _ wr => wr
  | _ => []

/-- The blocks that it looks at. -/
def K.foot : K → List Nat
  | .p => []
  | .q id _ => [id]
  | .h id _ _ => [id]
  | .a id _ rd => id :: rd.map (·.1)
  | .s id _ _ rd => id :: rd.map (·.1)
  | .m rd new _ => new ++ rd.map (·.1)

def opTmps (o : Oper) : List Tmp := o.op.operands.toList.filterMap fun | .tmp t => some t | _ => none

/-- The temporaries of two operations have nothing to do with each other. -/
def apartT (ops : Array Oper) (x y : Oper) : Bool :=
  (match x.dst with
    | some d => !(opTmps y).contains d && !((gtmp ops y).toList.contains d) && !(y.dst.toList.contains d)
    | none => true) &&
  (match y.dst with
    | some d => !(opTmps x).contains d && !((gtmp ops x).toList.contains d)
    | none => true)

theorem upd_ne {H : Hp} {id i : Nat} {B : Blk} (h : i ≠ id) : upd H id B i = H i := by simp [upd, h]
theorem upd_same {H : Hp} {id : Nat} {B : Blk} : upd H id B id = some B := by simp [upd]
theorem upd_comm {H : Hp} {i j : Nat} {B C : Blk} (h : i ≠ j) : upd (upd H i B) j C = upd (upd H j C) i B := by
  funext x; simp only [upd]; split <;> split <;> simp_all

theorem upds_ne {i : Nat} : ∀ {wr : List (Nat × Blk)} {H : Hp}, i ∉ wr.map (·.1) → upds H wr i = H i
  | [], H, _ => rfl
  | (j, B) :: wr, H, h => by
    simp only [List.map_cons, List.mem_cons, not_or] at h
    simp only [upds]; rw [upds_ne h.2, upd_ne h.1]

theorem upds_upd {i : Nat} {B : Blk} : ∀ {wr : List (Nat × Blk)} {H : Hp}, i ∉ wr.map (·.1) → upds (upd H i B) wr = upd (upds H wr) i B
  | [], H, _ => rfl
  | (j, C) :: wr, H, h => by
    simp only [List.map_cons, List.mem_cons, not_or] at h
    simp only [upds]; rw [upd_comm h.1, upds_upd h.2]

theorem upds_comm : ∀ {a b : List (Nat × Blk)} {H : Hp}, (∀ i ∈ a.map (·.1), i ∉ b.map (·.1)) → upds (upds H a) b = upds (upds H b) a
  | [], b, H, _ => rfl
  | (i, B) :: a, b, H, h => by
    simp only [List.map_cons, List.mem_cons, forall_eq_or_imp] at h
    simp only [upds]; rw [upds_comm h.2, upds_upd h.1]

theorem K.ph_congr {k : K} {H H' : Hp} (h : ∀ i ∈ k.foot, H i = H' i) (hp : k.ph H) : k.ph H' := by
  have hs : ∀ rd : List (Nat × Blk), (∀ i ∈ rd.map (·.1), H i = H' i) → sees H rd → sees H' rd := fun rd h1 h2 p hp => by
    rw [← h1 p.1 (List.mem_map_of_mem hp)]; exact h2 p hp
  cases k with
  | p => trivial
  | q id chk => obtain ⟨B, h1, h2⟩ := hp; exact ⟨B, by rw [← h id (by simp [K.foot])]; exact h1, h2⟩
  | h id ver esz => obtain ⟨B, h1, h2⟩ := hp; exact ⟨B, by rw [← h id (by simp [K.foot])]; exact h1, h2⟩
  | a id B rd => exact ⟨by rw [← h id (by simp [K.foot])]; exact hp.1, hs rd (fun i hi => h i (List.mem_cons_of_mem _ hi)) hp.2⟩
  | s id B B' rd => exact ⟨by rw [← h id (by simp [K.foot])]; exact hp.1, hs rd (fun i hi => h i (List.mem_cons_of_mem _ hi)) hp.2⟩
  | m rd new wr => exact ⟨fun i hi => by rw [← h i (List.mem_append_left _ hi)]; exact hp.1 i hi, hs rd (fun i hi => h i (List.mem_append_right _ hi)) hp.2⟩

def noneIn (xs ys : List Nat) : Bool := xs.all fun x => !ys.contains x

theorem noneIn_ok {xs ys : List Nat} (h : noneIn xs ys = true) : ∀ i ∈ xs, i ∉ ys := fun i hi hy => by
  have := List.all_eq_true.1 h i hi
  simp at this; exact this hy

def K.wrs (k : K) : List Nat := k.wr.map (·.1)

/-- Neither writes where the other one looks or writes. -/
def K.apart (x y : K) : Bool := noneIn x.wrs y.foot && noneIn y.wrs x.foot && noneIn x.wrs y.wrs

theorem K.swap_apart {x y : K} (h : x.apart y = true) {H : Hp} (hx : x.ph H) (hy : y.ph (upds H x.wr)) :
    y.ph H ∧ x.ph (upds H y.wr) ∧ upds (upds H x.wr) y.wr = upds (upds H y.wr) x.wr := by
  simp only [K.apart, Bool.and_eq_true] at h
  obtain ⟨⟨h1, h2⟩, h3⟩ := h
  refine ⟨K.ph_congr (fun i hi => upds_ne fun hw => noneIn_ok h1 i hw hi) hy, K.ph_congr (fun i hi => (upds_ne fun hw => noneIn_ok h2 i hw hi).symm) hx, upds_comm (noneIn_ok h3)⟩

/-- A block keeps its version and width where such writes go. -/
def keepsH (id ver esz : Nat) (rd wr : List (Nat × Blk)) : Bool :=
  (wr.all fun p => p.1 != id || (p.2.ver == ver && p.2.esz == esz)) && (!(wr.map (·.1)).contains id || rd.any fun p => p.1 == id && p.2.ver == ver && p.2.esz == esz)

/-- May two operations change places? -/
def K.free (x y : K) : Bool :=
  x.apart y ||
  match x, y with
  | .h id ver esz, .s id' B B' _ | .s id' B B' _, .h id ver esz => id == id' && B.ver == ver && B.esz == esz && B'.ver == ver && B'.esz == esz
  | .h id ver esz, .m rd _ wr | .m rd _ wr, .h id ver esz => keepsH id ver esz rd wr
  | _, _ => false

theorem upds_keeps {id ver esz : Nat} : ∀ {wr : List (Nat × Blk)} {H : Hp}, (wr.all fun p => p.1 != id || (p.2.ver == ver && p.2.esz == esz)) = true → (∃ B, H id = some B ∧ B.ver = ver ∧ B.esz = esz) →
    ∃ B, upds H wr id = some B ∧ B.ver = ver ∧ B.esz = esz
  | [], _, _, h => h
  | (j, C) :: wr, H, ha, h => by
    simp only [List.all_cons, Bool.and_eq_true, Bool.or_eq_true, bne_iff_ne, beq_iff_eq] at ha
    simp only [upds]
    refine upds_keeps (wr := wr) (by simpa using ha.2) ?_
    by_cases e : j = id
    · subst e
      rcases ha.1 with h1 | h1
      · exact absurd rfl h1
      · exact ⟨C, upd_same, h1.1, h1.2⟩
    · rw [upd_ne (Ne.symm e)]; exact h

theorem keepsH_ok {id ver esz : Nat} {rd wr : List (Nat × Blk)} (h : keepsH id ver esz rd wr = true) {H : Hp} (hs : sees H rd) : (∃ B, H id = some B ∧ B.ver = ver ∧ B.esz = esz) ↔ (∃ B, upds H wr id = some B ∧ B.ver = ver ∧ B.esz = esz) := by
  simp only [keepsH, Bool.and_eq_true, Bool.or_eq_true, Bool.not_eq_true', List.contains_eq_mem, decide_eq_false_iff_not, List.any_eq_true, beq_iff_eq] at h
  refine ⟨upds_keeps h.1, fun hu => ?_⟩
  rcases h.2 with hn | ⟨p, hp, ⟨hpi, hv⟩, he⟩
  · rwa [upds_ne hn] at hu
  · exact ⟨p.2, by rw [← hpi]; exact hs p hp, hv, he⟩

/-- What is owed where two operations are to change places; none: they may not. -/
def K.owed (x y : K) : Option (List Prop) :=
  if x.apart y = true then some [] else
  match x, y with
  | .q id chk, .s id' B B' _ | .s id' B B' _, .q id chk => if id = id' then some [chk B, chk B'] else none
  | .h id ver esz, .s id' B B' _ | .s id' B B' _, .h id ver esz => if id = id' ∧ B.ver = ver ∧ B.esz = esz ∧ B'.ver = ver ∧ B'.esz = esz then some [] else none
  | _, _ => none

theorem K.swap {x y : K} {obs : List Prop} (h : x.owed y = some obs) (ho : ∀ q ∈ obs, q) {H : Hp} (hx : x.ph H) (hy : y.ph (upds H x.wr)) :
    y.ph H ∧ x.ph (upds H y.wr) ∧ upds (upds H x.wr) y.wr = upds (upds H y.wr) x.wr := by
  unfold K.owed at h
  split at h
  · rename_i ha; exact K.swap_apart ha hx hy
  · split at h <;> try (simp at h; done)
    · split at h <;> try (simp at h; done)
      rename_i he; subst he
      simp only [Option.some.injEq] at h; subst h
      exact ⟨hy, ⟨_, upd_same, ho _ (by simp)⟩, rfl⟩
    · split at h <;> try (simp at h; done)
      rename_i he; subst he
      simp only [Option.some.injEq] at h; subst h
      exact ⟨⟨_, hx.1, ho _ (by simp)⟩, hx, rfl⟩
    · split at h <;> try (simp at h; done)
      rename_i hc
      obtain ⟨rfl, h1, h2, h3, h4⟩ := hc
      exact ⟨hy, ⟨_, upd_same, h3, h4⟩, rfl⟩
    · split at h <;> try (simp at h; done)
      rename_i hc
      obtain ⟨rfl, h1, h2, h3, h4⟩ := hc
      exact ⟨⟨_, hx.1, h1, h2⟩, hx, rfl⟩

theorem K.swap_free {x y : K} (h : x.free y = true) {H : Hp} (hx : x.ph H) (hy : y.ph (upds H x.wr)) :
    y.ph H ∧ x.ph (upds H y.wr) ∧ upds (upds H x.wr) y.wr = upds (upds H y.wr) x.wr := by
  unfold K.free at h
  simp only [Bool.or_eq_true] at h
  rcases h with h | h
  · exact K.swap_apart h hx hy
  · split at h <;> try (simp at h; done)
    · simp only [Bool.and_eq_true, beq_iff_eq] at h
      obtain ⟨⟨⟨⟨rfl, h1⟩, h2⟩, h3⟩, h4⟩ := h
      exact ⟨hy, ⟨_, upd_same, h3, h4⟩, rfl⟩
    · simp only [Bool.and_eq_true, beq_iff_eq] at h
      obtain ⟨⟨⟨⟨rfl, h1⟩, h2⟩, h3⟩, h4⟩ := h
      exact ⟨⟨_, hx.1, h1, h2⟩, hx, rfl⟩
    · exact ⟨hy, (keepsH_ok h hy.2).1 hx, rfl⟩
    · exact ⟨(keepsH_ok h hx.2).2 hy, hx, rfl⟩

/-- An operation as it stands in the text's order. -/
structure TI where
  idx : Nat
  o : Oper
  l : List AV
  want : Bool
  v : AV
  k : K

def TI.tn (t : TI) : Tn := ⟨t.idx, t.o, t.l, t.want, t.v, t.k.ph, t.k.wr⟩

theorem aev_putL {l : List AV} {d : Option Tmp} {v : AV} {x : Operand} (h : ∀ t, d = some t → x ≠ .tmp t) : aev (putL l d v) x = aev l x := by
  cases d with
  | none => rfl
  | some d =>
    cases x with
    | tmp t =>
      have hne : t ≠ d := fun e => h d rfl (by rw [e])
      simp only [aev, putL, List.getD_eq_getElem?_getD, List.getElem?_set]
      rw [if_neg (Ne.symm hne)]
    | _ => rfl

theorem getD_putL {l : List AV} {d : Option Tmp} {v : AV} {t : Tmp} (h : d ≠ some t) : (putL l d v).getD t .any = l.getD t .any := by
  cases d with
  | none => rfl
  | some d =>
    have hne : d ≠ t := fun e => h (by rw [e])
    simp only [putL, List.getD_eq_getElem?_getD, List.getElem?_set]
    rw [if_neg hne]

theorem putL_comm {l : List AV} {d d' : Option Tmp} {v v' : AV} (h : ∀ t, d = some t → d' ≠ some t) : putL (putL l d v) d' v' = putL (putL l d' v') d v := by
  cases d with
  | none => rfl
  | some d =>
    cases d' with
    | none => rfl
    | some d' => exact List.set_comm _ _ (fun e => h d rfl (by rw [e]))

theorem mem_opTmps {o : Oper} {t : Tmp} (h : Operand.tmp t ∈ o.op.operands) : t ∈ opTmps o := by
  unfold opTmps; rw [List.mem_filterMap]; exact ⟨.tmp t, by simpa using h, rfl⟩

theorem TI.indep_of {ops : Array Oper} {j i : TI} (hap : apartT ops j.o i.o = true)
    (hsw : j.want = true → i.want = true → ∀ H : Hp, j.k.ph H → i.k.ph (upds H j.k.wr) → i.k.ph H ∧ j.k.ph (upds H i.k.wr) ∧ upds (upds H j.k.wr) i.k.wr = upds (upds H i.k.wr) j.k.wr) :
    Indep ops j.tn i.tn := by
  unfold apartT at hap
  simp only [Bool.and_eq_true] at hap
  obtain ⟨ha, hb⟩ := hap
  have a1 : ∀ d, j.o.dst = some d → d ∉ opTmps i.o ∧ gtmp ops i.o ≠ some d ∧ i.o.dst ≠ some d := by
    intro d hd; rw [hd] at ha
    simp only [Bool.and_eq_true, Bool.not_eq_true', List.contains_eq_mem, decide_eq_false_iff_not, Option.mem_toList] at ha
    exact ⟨ha.1.1, ha.1.2, ha.2⟩
  have a2 : ∀ d, i.o.dst = some d → d ∉ opTmps j.o ∧ gtmp ops j.o ≠ some d := by
    intro d hd; rw [hd] at hb
    simp only [Bool.and_eq_true, Bool.not_eq_true', List.contains_eq_mem, decide_eq_false_iff_not, Option.mem_toList] at hb
    exact hb
  intro s hj hi
  obtain ⟨j1, j2, j3⟩ := hj
  obtain ⟨i1, i2, i3⟩ := hi
  have e1 : ∀ x ∈ i.o.op.operands, aev (j.tn.next s).1 x = aev s.1 x := fun x hx => aev_putL fun t ht e => (a1 t ht).1 (mem_opTmps (e ▸ hx))
  have e2 : ∀ x ∈ j.o.op.operands, aev (i.tn.next s).1 x = aev s.1 x := fun x hx => aev_putL fun t ht e => (a2 t ht).1 (mem_opTmps (e ▸ hx))
  have g1 : ∀ d, gtmp ops i.o = some d → (j.tn.next s).1.getD d .any = s.1.getD d .any := fun d hd => getD_putL fun e => (a1 d e).2.1 hd
  have g2 : ∀ d, gtmp ops j.o = some d → (i.tn.next s).1.getD d .any = s.1.getD d .any := fun d hd => getD_putL fun e => (a2 d e).2 hd
  have hheap : (i.want = true → i.k.ph s.2) ∧ (j.want = true → j.k.ph (i.tn.next s).2) ∧ (i.tn.next (j.tn.next s)).2 = (j.tn.next (i.tn.next s)).2 := by
    simp only [Tn.next, TI.tn] at *
    by_cases wj : j.want = true <;> by_cases wi : i.want = true
    · have hsw' := hsw wj wi
      simp only [wj, wi, if_true, true_implies] at *
      exact hsw' _ j3 i3
    · have wi' : i.want = false := by simpa using wi
      simp only [wj, wi', if_true, Bool.false_eq_true, if_false, false_implies, true_implies] at *
      exact ⟨trivial, j3, trivial⟩
    · have wj' : j.want = false := by simpa using wj
      simp only [wj', wi, if_true, Bool.false_eq_true, if_false, false_implies, true_implies] at *
      exact ⟨i3, trivial, trivial⟩
    · have wi' : i.want = false := by simpa using wi
      have wj' : j.want = false := by simpa using wj
      simp [wi', wj']
  refine ⟨⟨fun x hx => (e1 x hx).symm.trans (i1 x hx), fun d hd => (g1 d hd).symm.trans (i2 d hd), hheap.1⟩, ⟨fun x hx => (e2 x hx).trans (j1 x hx), fun d hd => (g2 d hd).trans (j2 d hd), hheap.2.1⟩, ?_⟩
  refine Prod.ext ?_ hheap.2.2
  exact putL_comm fun t ht e => (a1 t ht).2.2 e

theorem TI.indep {ops : Array Oper} {j i : TI} {obs : List Prop} (hap : apartT ops j.o i.o = true) (h : (if j.want && i.want then j.k.owed i.k else some []) = some obs) (ho : ∀ q ∈ obs, q) :
    Indep ops j.tn i.tn :=
  TI.indep_of hap fun wj wi H hj hi => by
    simp only [wj, wi, Bool.and_self, if_true] at h
    exact K.swap h ho hj hi

theorem TI.indep_free {ops : Array Oper} {j i : TI} (hap : apartT ops j.o i.o = true) (h : (!(j.want && i.want) || j.k.free i.k) = true) : Indep ops j.tn i.tn :=
  TI.indep_of hap fun wj wi H hj hi => by
    simp only [wj, wi, Bool.and_self, Bool.not_true, Bool.false_or] at h
    exact K.swap_free h hj hi

end Go.Am
end PartAmDraw

section PartAmRun
/- The run of a piece of code, as a function: what it needs from outside stands in a script; what it owes is written down. -/
namespace Go.Am
open Go

def idOf : AV → Option Nat
  | .own id .. | .ptr id .. => some id
  | _ => none

/-- The block of one's own that an operation looks at. -/
def qid (l : List AV) (o : Oper) : Option Nat :=
  match o.op with
  | .nilCheck x | .fieldAddr _ x _ | .load _ x | .slice _ x _ _ _ | .indexAddr _ x _ => idOf (aev l x)
  | .call { callee := .builtin .len, args, argTypes := _ } => match args[0]? with | some x => idOf (aev l x) | none => none
  | _ => none

theorem now_congr {H H' : Hp} {id ver : Nat} (h : H id = H' id) : now H id ver = now H' id ver := by unfold now; rw [h]

theorem sliceOp_local {P : Program} {t : TypeId} {p : AV} {lo hi : Option AV} {H H' : Hp} (h : ∀ id, idOf p = some id → H id = H' id) : sliceOp P H t p lo hi = sliceOp P H' t p lo hi := by
  unfold sliceOp
  split
  · rename_i n id ver off len nz hn; rw [h id rfl]
  · rfl
  · rfl

theorem qop_local {P : Program} {l : List AV} {o : Oper} {sc : List Sc} {H H' : Hp} (h : ∀ id, qid l o = some id → H id = H' id) : qop P H l o sc = qop P H' l o sc := by
  unfold qop
  split
  case h_3 x hop =>
    have h' : ∀ id, idOf (aev l x) = some id → H id = H' id := fun id hi => h id (by simp only [qid, hop]; exact hi)
    split
    · rename_i id ver i j hav; rw [now_congr (h' id (by rw [hav]; rfl))]
    · rfl
    · rfl
    · rfl
  case h_5 s x f hop =>
    have h' : ∀ id, idOf (aev l x) = some id → H id = H' id := fun id hi => h id (by simp only [qid, hop]; exact hi)
    unfold fieldAddrOp
    split
    · rename_i id ver i j hav; rw [now_congr (h' id (by rw [hav]; rfl))]
    · rfl
    · rfl
  case h_6 t x ix hop =>
    have h' : ∀ id, idOf (aev l x) = some id → H id = H' id := fun id hi => h id (by simp only [qid, hop]; exact hi)
    unfold indexAddrOp
    split
    · rename_i id ver off len nz k i hav _; rw [h' id (by rw [hav]; rfl)]
    · rfl
    · rename_i id ver r j k i hav _; rw [now_congr (h' id (by rw [hav]; rfl))]
    · rfl
    · rfl
  case h_7 t x hop =>
    have h' : ∀ id, idOf (aev l x) = some id → H id = H' id := fun id hi => h id (by simp only [qid, hop]; exact hi)
    unfold loadOp
    split
    · rfl
    · rename_i id ver i j hav; rw [h' id (by rw [hav]; rfl)]
    · rfl
  case h_11 t x lo hi hop =>
    have h' : ∀ id, idOf (aev l x) = some id → H id = H' id := fun id hi => h id (by simp only [qid, hop]; exact hi)
    rw [sliceOp_local h']
  case h_15 args ts hop =>
    split
    · rename_i x t hx ht
      have h' : ∀ id, idOf (aev l x) = some id → H id = H' id := fun id hi => h id (by simp only [qid, hop, hx]; exact hi)
      split
      · unfold lenOp
        split
        · rename_i id ver _ len _ hav; rw [now_congr (h' id (by rw [hav]; rfl))]
        · rfl
        · rfl
      · rfl
    · rfl
  all_goals rfl

def isLoad : Op → Bool | .load .. => true | _ => false

theorem now_shape {H H' : Hp} {id ver : Nat} {B B' : Blk} (h : H id = some B) (h' : H' id = some B') (hv : B.ver = B'.ver) : now H id ver = now H' id ver := by unfold now; simp only [h, h', hv]

/-- All but loads look at a block's shape alone. -/
theorem qop_shape {P : Program} {l : List AV} {o : Oper} {sc : List Sc} {H H' : Hp} {id : Nat} {B B' : Blk} (hq : qid l o = some id) (hL : isLoad o.op = false) (h : H id = some B) (h' : H' id = some B') (hv : B.ver = B'.ver) (he : B.esz = B'.esz) :
    qop P H l o sc = qop P H' l o sc := by
  unfold qop
  split
  case h_3 x hop =>
    have hi : idOf (aev l x) = some id := by simp only [qid, hop] at hq; exact hq
    split
    · rename_i id' ver i j hav
      rw [hav] at hi; simp only [idOf, Option.some.injEq] at hi; subst hi
      rw [now_shape h h' hv]
    · rfl
    · rfl
    · rfl
  case h_5 s x f hop =>
    have hi : idOf (aev l x) = some id := by simp only [qid, hop] at hq; exact hq
    unfold fieldAddrOp
    split
    · rename_i id' ver i j hav
      rw [hav] at hi; simp only [idOf, Option.some.injEq] at hi; subst hi
      rw [now_shape h h' hv]
    · rfl
    · rfl
  case h_6 t x ix hop =>
    have hi : idOf (aev l x) = some id := by simp only [qid, hop] at hq; exact hq
    unfold indexAddrOp
    split
    · rename_i id' ver off len nz k i hav _
      rw [hav] at hi; simp only [idOf, Option.some.injEq] at hi; subst hi
      cases sliceElem P t <;> simp [h, h', hv, he]
    · rfl
    · rename_i id' ver r j k i hav _
      rw [hav] at hi; simp only [idOf, Option.some.injEq] at hi; subst hi
      rw [now_shape h h' hv]
    · rfl
    · rfl
  case h_7 t x hop => rw [hop] at hL; simp [isLoad] at hL
  case h_11 t x lo hi hop =>
    have hi' : idOf (aev l x) = some id := by simp only [qid, hop] at hq; exact hq
    have : sliceOp P H t (aev l x) (lo.map (aev l)) (hi.map (aev l)) = sliceOp P H' t (aev l x) (lo.map (aev l)) (hi.map (aev l)) := by
      unfold sliceOp
      split
      · rename_i n id' ver off len nz hn hav
        rw [hav] at hi'; simp only [idOf, Option.some.injEq] at hi'; subst hi'
        cases optInt 0 (lo.map (aev l)) <;> cases optInt (len : Int) (hi.map (aev l)) <;> simp [h, h', hv, he]
      · rfl
      · rfl
    rw [this]
  case h_15 args ts hop =>
    split
    · rename_i x t hx ht
      have hi : idOf (aev l x) = some id := by simp only [qid, hop, hx] at hq; exact hq
      split
      · unfold lenOp
        split
        · rename_i id' ver _ len _ hav
          rw [hav] at hi; simp only [idOf, Option.some.injEq] at hi; subst hi
          rw [now_shape h h' hv]
        · rfl
        · rfl
      · rfl
    · rfl
  all_goals rfl

/-- One operation in a state: its value, the state behind it, what it has to do with the heap. -/
def effOp (P : Program) (l : List AV) (L : HL) (o : Oper) (sc : List Sc) : Option (AV × HL × List Sc × List Prop × K) :=
  match o.op with
  | .alloc _ | .box _ _ => match allocOp P l L.length o with | some (v, B) => some (v, L ++ [B], sc, [], .a L.length B []) | none => none
  | .store t p x => match storeOp P (hof L) t (aev l p) (aev l x) sc with
    | some (id, B', sc', obs) => match L[id]? with
      | some B => some (.lit undef, L.set id B', sc', obs, .s id B B' [])
      | none => none
    | none => none
  | .call { callee := .value x, args, argTypes } => match callee l ⟨.value x, args, argTypes⟩, sc with
    | some (f, as), .fn v :: sc => if (enters P f && dataAll as && dataOk v) = true then some (v, L, sc, [PureC P f as v], .p) else none
    | _, _ => none
  | _ => match qop P (hof L) l o sc with
    | some (v, sc', obs) => match qid l o with
      | none => some (v, L, sc', obs, .p)
      | some id => match L[id]? with
        | some B => some (v, L, sc', obs, if isLoad o.op = true then .q id fun B => qop P (one id B) l o sc = some (v, sc', obs) else .h id B.ver B.esz)
        | none => none
    | none => none

theorem hof_push {L : HL} {B : Blk} : hof (L ++ [B]) = upd (hof L) L.length B := by
  funext i; simp only [hof, upd, List.getElem?_append]
  split
  · rw [if_neg (by omega)]
  · rename_i h
    by_cases e : i = L.length
    · subst e; simp
    · rw [if_neg e]
      have h2 : L[i]? = none := List.getElem?_eq_none (by omega)
      have h1 : [B][i - L.length]? = none := List.getElem?_eq_none (by simp; omega)
      rw [h1, h2]

theorem hof_set {L : HL} {id : Nat} {B B' : Blk} (h : L[id]? = some B) : hof (L.set id B') = upd (hof L) id B' := by
  have hlt : id < L.length := (List.getElem?_eq_some_iff.1 h).1
  funext i; simp only [hof, upd, List.getElem?_set]
  by_cases e : i = id
  · subst e; simp [hlt]
  · rw [if_neg e, if_neg (Ne.symm e)]

theorem hof_end {L : HL} : hof L L.length = none := by simp [hof]

/-- What an operation does wherever its kind lets it. -/
def KOk (P : Program) (o : Oper) (l : List AV) (v : AV) (k : K) : Prop := ∀ H, k.ph H → ∀ l' : List AV, (∀ x ∈ o.op.operands, aev l' x = aev l x) → OOk P o l' H v (upds H k.wr)

theorem storeOp_local {P : Program} {t : TypeId} {p v : AV} {sc sc' : List Sc} {obs : List Prop} {id : Nat} {B B' : Blk} {H H' : Hp} (h : storeOp P H t p v sc = some (id, B', sc', obs)) (hB : H id = some B) (hB' : H' id = some B) :
    storeOp P H' t p v sc = some (id, B', sc', obs) := by
  unfold storeOp at h ⊢
  split at h
  · rename_i id' ver i j
    have hid : id' = id := by
      split at h <;> try (simp at h; done)
      split at h
      · split at h <;> try (simp at h; done)
        simp only [Option.some.injEq, Prod.mk.injEq] at h; exact h.1
      · split at h <;> try (simp at h; done)
        split at h <;> try (simp at h; done)
        simp only [Option.some.injEq, Prod.mk.injEq] at h; exact h.1
      · simp at h
    subst hid
    rw [hB] at h; rw [hB']; exact h
  · simp at h


theorem scal_env {P : Program} {l l' : List AV} {o : Oper} (h : ∀ x ∈ o.op.operands, aev l' x = aev l x) : scal P l' o = scal P l o := by
  have h1 : ∀ xs : List Operand, (∀ x ∈ xs, aev l' x = aev l x) → allV l' xs = allV l xs := by
    intro xs
    induction xs with
    | nil => intro _; rfl
    | cons y r ih => intro hx; simp only [allV]; rw [hx y List.mem_cons_self, ih fun x hx' => hx x (List.mem_cons_of_mem _ hx')]
  unfold scal
  rw [h1 o.op.operands.toList fun x hx => h x (by simpa using hx)]
  split
  · rename_i hc
    rw [execOp_congr (ρ := litEval l') (ρ' := litEval l) o (fun cs b he => by have := hc.1; rw [he] at this; simp [isSelect] at this) (fun x hx => by unfold litEval; rw [h x hx])]
  · rfl

theorem scalR_env {P : Program} {l l' : List AV} {o : Oper} {sc : List Sc} (h : ∀ x ∈ o.op.operands, aev l' x = aev l x) : scalR P l' o sc = scalR P l o sc := by
  unfold scalR; rw [scal_env h]

theorem map_env {l l' : List AV} {xs : List Operand} (h : ∀ x ∈ xs, aev l' x = aev l x) : xs.map (aev l') = xs.map (aev l) := List.map_congr_left h

theorem opt_env {l l' : List AV} {x : Option Operand} (h : ∀ y, x = some y → aev l' y = aev l y) : x.map (aev l') = x.map (aev l) := by
  cases x with
  | none => rfl
  | some y => simp [h y rfl]

theorem qop_env {P : Program} {l l' : List AV} {o : Oper} {sc : List Sc} {H : Hp} (h : ∀ x ∈ o.op.operands, aev l' x = aev l x) : qop P H l' o sc = qop P H l o sc := by
  unfold qop
  split
  case h_1 x hop => rw [h x (by rw [hop]; simp [Op.operands])]
  case h_2 x hop => rw [h x (by rw [hop]; simp [Op.operands])]
  case h_3 x hop => rw [h x (by rw [hop]; simp [Op.operands])]
  case h_4 c x y hop => rw [h c (by rw [hop]; simp [Op.operands]), h x (by rw [hop]; simp [Op.operands]), h y (by rw [hop]; simp [Op.operands])]
  case h_5 s x f hop => rw [h x (by rw [hop]; simp [Op.operands])]
  case h_6 t x ix hop => rw [h x (by rw [hop]; simp [Op.operands]), h ix (by rw [hop]; simp [Op.operands])]
  case h_7 t x hop => rw [h x (by rw [hop]; simp [Op.operands])]
  case h_8 t x f hop => rw [h x (by rw [hop]; simp [Op.operands])]
  case h_9 x k hop => rw [h x (by rw [hop]; simp [Op.operands])]
  case h_10 t parts hop =>
    have : (parts.toList.map fun p => (p.1, aev l' p.2)) = parts.toList.map fun p => (p.1, aev l p.2) := List.map_congr_left fun p hp => by
      rw [h p.2 (by rw [hop]; simp only [Op.operands]; simp; exact ⟨p.1, by simpa using hp⟩)]
    rw [this]
  case h_11 t x lo hi hop =>
    rw [h x (by rw [hop]; simp [Op.operands]), opt_env (x := lo) fun y hy => h y (by rw [hop, hy]; simp [Op.operands]), opt_env (x := hi) fun y hy => h y (by rw [hop, hy]; simp [Op.operands]), scalR_env h]
  case h_12 t x hop => rw [h x (by rw [hop]; simp [Op.operands])]
  case h_13 fn first captured hop =>
    rw [map_env (xs := first.toList) fun x hx => h x (by rw [hop]; simp only [Op.operands]; simp; exact .inl (by simpa using hx)),
      map_env (xs := captured.toList) fun x hx => h x (by rw [hop]; simp only [Op.operands]; simp; exact .inr (by simpa using hx))]
  case h_14 t x y ty hop => rw [h x (by rw [hop]; simp [Op.operands]), h y (by rw [hop]; simp [Op.operands]), scalR_env h]
  case h_15 args ts hop =>
    split
    · rename_i x t hx ht
      rw [h x (by rw [hop]; simp only [Op.operands, Call.operands]; simp; exact Array.mem_of_getElem? hx), scalR_env h]
    · rfl
  case h_16 => exact scalR_env h

theorem allocOp_env {P : Program} {l l' : List AV} {o : Oper} {id : Nat} (h : ∀ x ∈ o.op.operands, aev l' x = aev l x) : allocOp P l' id o = allocOp P l id o := by
  unfold allocOp
  split
  · rfl
  · rename_i t x hop; rw [h x (by rw [hop]; simp [Op.operands])]
  · rfl

theorem callee_env {l l' : List AV} {c : Call} (h : ∀ x ∈ c.operands, aev l' x = aev l x) : callee l' c = callee l c := by
  unfold callee
  split
  · rename_i x hc
    rw [h x (by simp [Call.operands, hc]), map_env (xs := c.args.toList) fun y hy => h y (by simp [Call.operands, hc]; exact .inr (by simpa using hy))]
  · rfl

theorem effOp_ok {P : Program} {l : List AV} {L L' : HL} {o : Oper} {sc sc' : List Sc} {v : AV} {obs : List Prop} {k : K} (h : effOp P l L o sc = some (v, L', sc', obs, k)) (ho : ∀ q ∈ obs, q) :
    KOk P o l v k ∧ k.ph (hof L) ∧ hof L' = upds (hof L) k.wr := by
  have quiet : ∀ r, (match qop P (hof L) l o sc with
    | some (v, sc', obs) => match qid l o with
      | none => some (v, L, sc', obs, K.p)
      | some id => match L[id]? with
        | some B => some (v, L, sc', obs, if isLoad o.op = true then K.q id fun B => qop P (one id B) l o sc = some (v, sc', obs) else K.h id B.ver B.esz)
        | none => none
    | none => none) = some r → r = (v, L', sc', obs, k) → KOk P o l v k ∧ k.ph (hof L) ∧ hof L' = upds (hof L) k.wr := by
    intro r h hr
    split at h <;> try (simp at h; done)
    rename_i v0 sc0 obs0 hq
    split at h
    · rename_i hn
      simp only [Option.some.injEq] at h; subst h
      simp only [Prod.mk.injEq] at hr; obtain ⟨rfl, rfl, rfl, rfl, rfl⟩ := hr
      refine ⟨fun H _ l' hl' => OOk.of_q (qop_ok (sc := sc) (sc' := sc0) ?_ ho), trivial, rfl⟩
      rw [qop_env hl', ← hq]; exact qop_local fun id hid => by rw [hn] at hid; simp at hid
    · rename_i id hid
      split at h <;> try (simp at h; done)
      rename_i B hB
      simp only [Option.some.injEq] at h; subst h
      simp only [Prod.mk.injEq] at hr; obtain ⟨rfl, rfl, rfl, rfl, rfl⟩ := hr
      have hloc : ∀ H B, H id = some B → qop P H l o sc = qop P (one id B) l o sc := fun H B hH => qop_local fun id' hid' => by
        rw [hid] at hid'; simp only [Option.some.injEq] at hid'; subst hid'; simp [one, hH]
      by_cases hld : isLoad o.op = true
      · rw [if_pos hld]
        refine ⟨?_, ⟨B, hB, ?_⟩, rfl⟩
        · rintro H ⟨B0, h1, h2⟩ l' hl'
          exact OOk.of_q (qop_ok (sc := sc) (by rw [qop_env hl', hloc H B0 h1]; exact h2) ho)
        · show qop P (one id B) l o sc = _
          rw [← hloc (hof L) B hB]; exact hq
      · rw [if_neg hld]
        refine ⟨?_, ⟨B, hB, rfl, rfl⟩, rfl⟩
        rintro H ⟨B0, h1, h2, h3⟩ l' hl'
        refine OOk.of_q (qop_ok (sc := sc) (sc' := sc0) ?_ ho)
        rw [qop_env hl', ← hq]
        exact qop_shape hid (by simpa using hld) h1 hB h2 h3
  unfold effOp at h
  split at h
  · rename_i t hop
    split at h <;> try (simp at h; done)
    rename_i v0 B hal
    simp only [Option.some.injEq, Prod.mk.injEq] at h; obtain ⟨rfl, rfl, rfl, rfl, rfl⟩ := h
    exact ⟨fun H hH l' hl' => allocOp_ok (by rw [allocOp_env hl']; exact hal) hH.1, ⟨hof_end, by simp [sees]⟩, hof_push⟩
  · rename_i t x hop
    split at h <;> try (simp at h; done)
    rename_i v0 B hal
    simp only [Option.some.injEq, Prod.mk.injEq] at h; obtain ⟨rfl, rfl, rfl, rfl, rfl⟩ := h
    exact ⟨fun H hH l' hl' => allocOp_ok (by rw [allocOp_env hl']; exact hal) hH.1, ⟨hof_end, by simp [sees]⟩, hof_push⟩
  · rename_i t p x hop
    split at h <;> try (simp at h; done)
    rename_i id B' sc0 obs0 hst
    split at h <;> try (simp at h; done)
    rename_i B hB
    simp only [Option.some.injEq, Prod.mk.injEq] at h; obtain ⟨rfl, rfl, rfl, rfl, rfl⟩ := h
    refine ⟨fun H hH l' hl' => storeOp_ok hop (sc := sc) (sc' := sc0) (obs := obs0) ?_ ho, ⟨hB, by simp [sees]⟩, hof_set hB⟩
    rw [hl' p (by rw [hop]; simp [Op.operands]), hl' x (by rw [hop]; simp [Op.operands])]
    exact storeOp_local hst hB hH.1
  · rename_i x args ts hop
    split at h <;> try (simp at h; done)
    rename_i f as v0 sc0 hcal
    split at h <;> try (simp at h; done)
    rename_i hk
    simp only [Option.some.injEq, Prod.mk.injEq] at h; obtain ⟨rfl, rfl, rfl, rfl, rfl⟩ := h
    simp only [Bool.and_eq_true] at hk
    have hp := ho _ (List.mem_singleton.2 rfl)
    exact ⟨fun H _ l' hl' => call_ok hop (by rw [callee_env (l := l) fun y hy => hl' y (by rw [hop]; exact hy)]; exact hcal) hk.1.1 (PureC.frame hp hk.1.2 hk.2 H), trivial, rfl⟩
  · exact quiet _ h rfl

end Go.Am
end PartAmRun

section PartAmReg
/- The run of a region, in the text's order; and that it serves every order. -/
namespace Go.Am
open Go

/-- The state of a run. -/
structure RS where
  l : List AV
  L : HL
  sc : List Sc
  obs : List Prop

def RS.st (s : RS) : St := (s.l, hof s.L)

/-- Is an operation wanted? Its guard's outcome is told by the script, and owed. -/
def guardR (ops : Array Oper) (o : Oper) (s : RS) : Option (Bool × List Sc × List Prop) :=
  match o.guard with
  | none => some (true, s.sc, s.obs)
  | some (j, b) => match (ops[j]?).bind (·.dst) with
    | some d => match s.l.getD d .any with
      | .lit (.bool c) => match s.sc with
        | .dec c' :: sc => some (c' == b, sc, s.obs ++ [c = c'])
        | _ => none
      | .lit (.tuple _) => some (false, s.sc, s.obs)
      | _ => none
    | none => none

/-- What the guard's temporary is known to hold, behind the script's word. -/
def guardL (ops : Array Oper) (o : Oper) (s : RS) : List AV :=
  match o.guard with
  | none => s.l
  | some (j, _) => match (ops[j]?).bind (·.dst) with
    | some d => match s.l.getD d .any, s.sc with
      | .lit (.bool _), .dec c' :: _ => s.l.set d (.lit (.bool c'))
      | _, _ => s.l
    | none => s.l

def stepR (P : Program) (ops : Array Oper) (i : Nat) (o : Oper) (s : RS) : Option (RS × TI) :=
  match guardR ops o s with
  | some (true, sc, obs) => match effOp P (guardL ops o s) s.L o sc with
    | some (v, L', sc', obs', k) => some (⟨putL (guardL ops o s) o.dst v, L', sc', obs ++ obs'⟩, ⟨i, o, guardL ops o s, true, v, k⟩)
    | none => none
  | some (false, sc, obs) => some (⟨putL (guardL ops o s) o.dst (.lit undef), s.L, sc, obs⟩, ⟨i, o, guardL ops o s, false, .any, .p⟩)
  | none => none

def runR (P : Program) (ops : Array Oper) : Nat → List Oper → RS → Option (RS × List TI)
  | _, [], s => some (s, [])
  | i, o :: os, s => match stepR P ops i o s with
    | some (s', t) => match runR P ops (i + 1) os s' with
      | some (s'', ts) => some (s'', t :: ts)
      | none => none
    | none => none

theorem guardR_mono {ops : Array Oper} {o : Oper} {s : RS} {b : Bool} {sc : List Sc} {obs : List Prop} (h : guardR ops o s = some (b, sc, obs)) (ho : ∀ q ∈ obs, q) : (∀ q ∈ s.obs, q) ∧ guardL ops o s = s.l ∧
    (match o.guard with
    | none => b = true
    | some (j, c) => ∃ d u, (ops[j]?).bind (·.dst) = some d ∧ s.l.getD d .any = .lit u ∧ b = gv u c) := by
  unfold guardR at h
  unfold guardL
  split at h
  · rename_i hg
    simp only [Option.some.injEq, Prod.mk.injEq] at h; obtain ⟨rfl, rfl, rfl⟩ := h
    exact ⟨ho, rfl, rfl⟩
  · rename_i j c hg
    split at h <;> try (simp at h; done)
    rename_i d hd
    split at h <;> try (simp at h; done)
    · rename_i u hl
      split at h <;> try (simp at h; done)
      rename_i c' sc0 hsc
      simp only [Option.some.injEq, Prod.mk.injEq] at h; obtain ⟨rfl, rfl, rfl⟩ := h
      have hu : u = c' := ho _ (by simp)
      subst hu
      refine ⟨fun q hq => ho q (by simp [hq]), ?_, d, _, hd, hl, rfl⟩
      simp only [hd, hl, hsc]
      rcases Nat.lt_or_ge d s.l.length with h' | h'
      · have : s.l[d] = .lit (.bool u) := by rw [List.getD_eq_getElem?_getD, List.getElem?_eq_getElem h'] at hl; simpa using hl
        rw [← this]; exact List.set_getElem_self h'
      · rw [List.getD_eq_getElem?_getD, List.getElem?_eq_none h'] at hl; simp at hl
    · rename_i u hl
      simp only [Option.some.injEq, Prod.mk.injEq] at h; obtain ⟨rfl, rfl, rfl⟩ := h
      refine ⟨ho, ?_, d, _, hd, hl, rfl⟩
      simp only [hd, hl]

theorem stepR_ok {P : Program} {ops : Array Oper} {i : Nat} {o : Oper} {s s' : RS} {t : TI} (h : stepR P ops i o s = some (s', t)) (hi : ops[i]? = some o) (ho : ∀ q ∈ s'.obs, q) :
    (∀ q ∈ s.obs, q) ∧ t.tn.Good P ops ∧ t.tn.pre ops s.st ∧ t.tn.next s.st = s'.st ∧ t.idx = i ∧ t.o = o := by
  unfold stepR at h
  split at h <;> try (simp at h; done)
  · rename_i sc obs hg
    split at h <;> try (simp at h; done)
    rename_i v L' sc' obs' k he
    simp only [Option.some.injEq, Prod.mk.injEq] at h; obtain ⟨rfl, rfl⟩ := h
    have ho1 : ∀ q ∈ obs, q := fun q hq => ho q (by simp [hq])
    have ho2 : ∀ q ∈ obs', q := fun q hq => ho q (by simp [hq])
    obtain ⟨g1, g2, g3⟩ := guardR_mono hg ho1
    rw [g2] at he ⊢
    obtain ⟨e1, e2, e3⟩ := effOp_ok he ho2
    refine ⟨g1, ⟨hi, ?_, fun _ H hH l' hl' => e1 H hH l' hl'⟩, ⟨fun _ _ => rfl, fun _ _ => rfl, fun _ => e2⟩, ?_, rfl, rfl⟩
    · simp only [TI.tn]; split
      · trivial
      · rename_i j c hgd
        rw [hgd] at g3; exact g3
    · simp only [Tn.next, TI.tn, RS.st, if_true]; rw [e3]
  · rename_i sc obs hg
    simp only [Option.some.injEq, Prod.mk.injEq] at h; obtain ⟨rfl, rfl⟩ := h
    obtain ⟨g1, g2, g3⟩ := guardR_mono hg ho
    rw [g2]
    refine ⟨g1, ⟨hi, ?_, fun hw => by simp [TI.tn] at hw⟩, ⟨fun _ _ => rfl, fun _ _ => rfl, fun hw => by simp [TI.tn] at hw⟩, ?_, rfl, rfl⟩
    · simp only [TI.tn]; split
      · rename_i hgd; rw [hgd] at g3; simp at g3
      · rename_i j c hgd
        rw [hgd] at g3; exact g3
    · simp [Tn.next, TI.tn, RS.st]

theorem runR_ok {P : Program} {ops : Array Oper} : ∀ (os : List Oper) (i : Nat) (s s' : RS) (ts : List TI), runR P ops i os s = some (s', ts) → (∀ k o, os[k]? = some o → ops[i + k]? = some o) → (∀ q ∈ s'.obs, q) →
    (∀ q ∈ s.obs, q) ∧ Lex ops (ts.map TI.tn) s.st s'.st ∧ (∀ t ∈ ts, t.tn.Good P ops) ∧ ts.map (·.idx) = List.range' i os.length ∧ ts.map (·.o) = os
  | [], i, s, s', ts, h, _, ho => by
    simp only [runR, Option.some.injEq, Prod.mk.injEq] at h; obtain ⟨rfl, rfl⟩ := h
    exact ⟨ho, rfl, by simp, rfl, rfl⟩
  | o :: os, i, s, s', ts, h, hi, ho => by
    simp only [runR] at h
    split at h <;> try (simp at h; done)
    rename_i s1 t hs
    split at h <;> try (simp at h; done)
    rename_i s2 ts' hr
    simp only [Option.some.injEq, Prod.mk.injEq] at h; obtain ⟨rfl, rfl⟩ := h
    obtain ⟨r1, r2, r3, r4, r5⟩ := runR_ok os (i + 1) s1 s2 ts' hr (fun k o' hk => by have := hi (k + 1) o' (by simpa using hk); rw [show i + 1 + k = i + (k + 1) from by omega]; exact this) ho
    obtain ⟨q1, q2, q3, q4, q5, q6⟩ := stepR_ok hs (by simpa using hi 0 o (by simp)) r1
    refine ⟨q1, ⟨q3, by rw [q4]; exact r2⟩, ?_, ?_, ?_⟩
    · intro t' ht'; rcases List.mem_cons.1 ht' with rfl | ht'
      · exact q2
      · exact r3 t' ht'
    · simp [r4, q5, List.range'_succ]
    · simp [r5, q6]

/-- In the text's order, where no order is drawn. -/
theorem wpOps_of_lex {P : Program} {ops : Array Oper} {E0 : Env} {df : List Deferred} {s' : St} {Q : Exit → Act → World → Prop} (hQ : ∀ E a, Rel E0 E s' a df → Q .normal a E.w) :
    ∀ (ts : List Tn) (s : St) (E : Env) (a : Act), (∀ t ∈ ts, t.Good P ops) → Lex ops ts s s' → Rel E0 E s a df → wpOps P ops Q (ts.map (·.idx)) a E.w
  | [], s, E, a, _, hl, hr => by simp only [Lex] at hl; exact hQ E a (hl ▸ hr)
  | t :: ts, s, E, a, hg, ⟨hp, hl⟩, hr => by
    have g := hg t List.mem_cons_self
    have ih := wpOps_of_lex (P := P) (ops := ops) hQ ts (t.next s)
    simp only [List.map_cons]
    rw [wpOps_cons]; unfold wpOp
    rw [g.at_]; simp only
    rw [wanted_ok g hp hr.cs]
    by_cases hw : t.want = true
    · rw [hw]; simp only [if_true]
      refine .inl ((g.ok hw s.2 (hp.2.2 hw) s.1 hp.1) E a hr.H hr.inv hr.cs _ _ fun E' x hH' hI' hL' hx => ih E' _ (fun u hu => hg u (List.mem_cons_of_mem _ hu)) hl ⟨?_, hI', ?_, hr.le.trans hL', ?_⟩)
      · simp [Tn.next, hw, hH']
      · simp only [Tn.next, hw, if_true]; exact putL_ok _ (Cs.mono hr.inv hL' _ _ hr.cs) hx
      · rw [put_defers]; exact hr.df
    · have hw' : t.want = false := by simpa using hw
      rw [hw']; simp only [Bool.false_eq_true, if_false]
      refine ih E _ (fun u hu => hg u (List.mem_cons_of_mem _ hu)) hl ⟨?_, hr.inv, ?_, hr.le, ?_⟩
      · simp [Tn.next, hw', hr.H]
      · simp only [Tn.next, hw', Bool.false_eq_true, if_false]; exact putL_ok _ hr.cs rfl
      · rw [put_defers]; exact hr.df

theorem text_of_lex {P : Program} {id : Nat} {ops : Array Oper} {s s' : St} {ts : List TI} (r2 : Lex ops (ts.map TI.tn) s s') (r3 : ∀ t ∈ ts, t.tn.Good P ops) (r4 : ts.map (·.idx) = List.range' 0 ops.toList.length) : CW P (.region id ops false) s .normal s' := by
  intro E0 E a df Q hr hq
  refine wp_region ?_
  have := wpOps_of_lex (E0 := E0) (df := df) hq (ts.map TI.tn) s E a (fun t ht => by obtain ⟨u, hu, rfl⟩ := List.mem_map.1 ht; exact r3 u hu) r2 hr
  have hidx : (ts.map TI.tn).map (·.idx) = List.range ops.size := by
    rw [List.map_map]
    have : ((fun t => t.idx) ∘ TI.tn) = (fun t : TI => t.idx) := rfl
    rw [this, r4, List.range_eq_range']; simp
  rw [hidx] at this; exact this

theorem region_text {P : Program} {id : Nat} {ops : Array Oper} {s s' : RS} {ts : List TI} (h : runR P ops 0 ops.toList s = some (s', ts)) (ho : ∀ q ∈ s'.obs, q) : CW P (.region id ops false) s.st .normal s'.st := by
  obtain ⟨_, r2, r3, r4, _⟩ := runR_ok ops.toList 0 s s' ts h (fun k o hk => by simpa using hk) ho
  exact text_of_lex r2 r3 r4

def maskOf (acc : List Nat) (es : List Edge) : Nat := es.foldl (fun s e => if Region.binds .any e = true then s ||| 2 ^ e.on ||| acc.getD e.on 0 else s) 0

/-- For each operation the ones that every order puts ahead of it, as bits. -/
def bitsL : List Nat → List Oper → List Nat
  | acc, [] => acc
  | acc, o :: os => bitsL (acc ++ [maskOf acc o.after.toList]) os

theorem maskOf_ok {acc : List Nat} {j : Nat} : ∀ (es : List Edge) (s : Nat), (es.foldl (fun s e => if Region.binds .any e = true then s ||| 2 ^ e.on ||| acc.getD e.on 0 else s) s).testBit j = true →
    s.testBit j = true ∨ ∃ e ∈ es, Region.binds .any e = true ∧ (e.on = j ∨ (acc.getD e.on 0).testBit j = true)
  | [], s, h => .inl h
  | e :: es, s, h => by
    simp only [List.foldl_cons] at h
    rcases maskOf_ok es _ h with h1 | ⟨e', he', hr⟩
    · split at h1
      · rename_i hb
        simp only [Nat.testBit_or, Bool.or_eq_true] at h1
        rcases h1 with (h1 | h1) | h1
        · exact .inl h1
        · rw [Nat.testBit_two_pow] at h1
          exact .inr ⟨e, List.mem_cons_self, hb, .inl (by simpa using h1)⟩
        · exact .inr ⟨e, List.mem_cons_self, hb, .inr h1⟩
      · exact .inl h1
    · exact .inr ⟨e', List.mem_cons_of_mem _ he', hr⟩

theorem bitsL_ok {ops : Array Oper} : ∀ (os : List Oper) (acc : List Nat), (∀ k o, os[k]? = some o → ops[acc.length + k]? = some o) → (∀ i j, (acc.getD i 0).testBit j = true → Anc .any ops j i) →
    ∀ i j, ((bitsL acc os).getD i 0).testBit j = true → Anc .any ops j i
  | [], acc, _, h, i, j, hb => h i j hb
  | o :: os, acc, hi, h, i, j, hb => by
    refine bitsL_ok os (acc ++ [maskOf acc o.after.toList]) (fun k o' hk => ?_) (fun i j hb => ?_) i j hb
    · have := hi (k + 1) o' (by simpa using hk)
      simp only [List.length_append, List.length_cons, List.length_nil]
      rw [show acc.length + (0 + 1) + k = acc.length + (k + 1) from by omega]; exact this
    · rw [List.getD_eq_getElem?_getD, List.getElem?_append] at hb
      split at hb
      · exact h i j (by rw [List.getD_eq_getElem?_getD]; exact hb)
      · rename_i hge
        by_cases he : i = acc.length
        · subst he
          simp only [Nat.sub_self, List.getElem?_cons_zero, Option.getD_some] at hb
          have hop : ops[acc.length]? = some o := by simpa using hi 0 o (by simp)
          rcases maskOf_ok o.after.toList 0 hb with h0 | ⟨e, he, hbd, h1 | h1⟩
          · simp at h0
          · subst h1; exact .step hop (by simpa using he) hbd
          · exact .trans hop (by simpa using he) hbd (h _ _ h1)
        · have : [maskOf acc o.after.toList][i - acc.length]? = none := List.getElem?_eq_none (by simp; omega)
          rw [this] at hb; simp at hb

def owedWith (ops : Array Oper) (bi : Nat) (i : TI) : List TI → Option (List Prop)
  | [] => some []
  | j :: js =>
    if bi.testBit j.idx = true then owedWith ops bi i js else
    if apartT ops j.o i.o = true then
      match (if j.want && i.want then j.k.owed i.k else some []), owedWith ops bi i js with
      | some p, some ps => some (p ++ ps)
      | _, _ => none
    else none

def owedAll (ops : Array Oper) (bits : List Nat) : List TI → List TI → Option (List Prop)
  | _, [] => some []
  | prev, i :: is =>
    match owedWith ops (bits.getD i.idx 0) i prev, owedAll ops bits (i :: prev) is with
    | some p, some ps => some (p ++ ps)
    | _, _ => none

theorem owedWith_ok {ops : Array Oper} {bi : Nat} {i : TI} : ∀ (js : List TI) (obs : List Prop), owedWith ops bi i js = some obs → (∀ q ∈ obs, q) → ∀ j ∈ js, bi.testBit j.idx = true ∨ Indep ops j.tn i.tn
  | [], _, _, _, j, hj => by simp at hj
  | k :: js, obs, h, ho, j, hj => by
    simp only [owedWith] at h
    split at h
    · rename_i hb
      rcases List.mem_cons.1 hj with rfl | hj
      · exact .inl hb
      · exact owedWith_ok js obs h ho j hj
    · split at h <;> try (simp at h; done)
      rename_i hap
      split at h <;> try (simp at h; done)
      rename_i p ps hp hps
      simp only [Option.some.injEq] at h; subst h
      rcases List.mem_cons.1 hj with rfl | hj
      · exact .inr (TI.indep hap hp fun q hq => ho q (List.mem_append_left _ hq))
      · exact owedWith_ok js ps hps (fun q hq => ho q (List.mem_append_right _ hq)) j hj

theorem owedAll_ok {ops : Array Oper} {bits : List Nat} : ∀ (is prev : List TI) (obs : List Prop), owedAll ops bits prev is = some obs → (∀ q ∈ obs, q) → (prev.reverse ++ is).Pairwise (fun x y => x.idx < y.idx) →
    ∀ j ∈ prev.reverse ++ is, ∀ i ∈ is, j.idx < i.idx → (bits.getD i.idx 0).testBit j.idx = true ∨ Indep ops j.tn i.tn
  | [], _, _, _, _, _, j, _, i, hi, _ => by simp at hi
  | k :: is, prev, obs, h, ho, hpw, j, hj, i, hi, hlt => by
    simp only [owedAll] at h
    split at h <;> try (simp at h; done)
    rename_i p ps hp hps
    simp only [Option.some.injEq] at h; subst h
    rcases List.mem_cons.1 hi with rfl | hi
    · have hjp : j ∈ prev := by
        rcases List.mem_append.1 hj with hj | hj
        · simpa using hj
        · exfalso
          have h2 := (List.pairwise_append.1 hpw).2.1
          rcases List.mem_cons.1 hj with rfl | hj
          · omega
          · have := (List.pairwise_cons.1 h2).1 j hj; omega
      exact owedWith_ok prev p hp (fun q hq => ho q (List.mem_append_left _ hq)) j hjp
    · refine owedAll_ok is (k :: prev) ps hps (fun q hq => ho q (List.mem_append_right _ hq)) (by simpa using hpw) j ?_ i hi hlt
      simpa using hj

def backOk (os : List Oper) : Bool := go 0 os
where
  go : Nat → List Oper → Bool
    | _, [] => true
    | i, o :: os => (o.after.toList.all fun e => !(Region.binds .any e) || e.on < i) && go (i + 1) os

theorem backOk_ok : ∀ (os : List Oper) (i : Nat), backOk.go i os = true → ∀ k o, os[k]? = some o → ∀ e ∈ o.after, Region.binds .any e = true → e.on < i + k
  | [], _, _, k, o, h, _, _, _ => by simp at h
  | p :: os, i, hb, k, o, h, e, he, hbd => by
    simp only [backOk.go, Bool.and_eq_true] at hb
    cases k with
    | zero =>
      simp at h; subst h
      have := List.all_eq_true.1 hb.1 e (by simpa using he)
      simpa [hbd] using this
    | succ k =>
      have := backOk_ok os (i + 1) hb.2 k o (by simpa using h) e he hbd
      omega

theorem drew_rel {E0 E : Env} {s : St} {a : Act} {df : List Deferred} (h : Rel E0 E s a df) : Rel E0 E.drew s a df :=
  ⟨h.H, drew_inv h.inv, Cs.mono h.inv (drew_le E) _ _ h.cs, h.le.trans (drew_le E), h.df⟩

theorem draw_of_lex {P : Program} (hm : P.follows .mixedOrders = true) {id : Nat} {ops : Array Oper} {s s' : St} {ts : List TI} (r2 : Lex ops (ts.map TI.tn) s s') (r3 : ∀ t ∈ ts, t.tn.Good P ops) (r4 : ts.map (·.idx) = List.range' 0 ops.toList.length)
    (hb : backOk ops.toList = true) (hind : ∀ j ∈ ts, ∀ i ∈ ts, j.idx < i.idx → ¬ Anc .any ops j.idx i.idx → Indep ops j.tn i.tn) : CW P (.region id ops true) s .normal s' := by
  have hidx : ts.map (·.idx) = List.range ops.size := by rw [r4, List.range_eq_range']; simp
  have hpw : ts.Pairwise (fun x y => x.idx < y.idx) := by
    have := List.pairwise_lt_range (n := ops.size)
    rw [← hidx, List.pairwise_map] at this; exact this
  intro E0 E a df Q hr hq
  refine wp_region_any hm ?_
  have hmem : ∀ k, k < ops.size ↔ ∃ t ∈ ts.map TI.tn, t.idx = k := by
    intro k
    rw [← List.mem_range, ← hidx, List.mem_map]
    constructor
    · rintro ⟨t, ht, he⟩; exact ⟨t.tn, List.mem_map_of_mem ht, he⟩
    · rintro ⟨t, ht, he⟩; obtain ⟨u, hu, rfl⟩ := List.mem_map.1 ht; exact ⟨u, hu, he⟩
  have := any_of_lex (P := P) (md := .any) (ops := ops) (E0 := E0) (df := df) (s' := s') hq (fun i o hi e he hbd => by
      have := backOk_ok ops.toList 0 hb i o (by simpa using hi) e he hbd; omega) ops.size (ts.map TI.tn) (Array.replicate ops.size false) s E.drew a
    (by rw [List.length_map]; have := congrArg List.length hidx; simp at this; omega)
    (fun t ht => by obtain ⟨u, hu, rfl⟩ := List.mem_map.1 ht; exact r3 u hu)
    (by rw [List.pairwise_map]; exact hpw)
    (fun k => by
      rw [← hmem k, Array.getD_eq_getD_getElem?, Array.getElem?_replicate]
      split <;> simp_all)
    (fun k o hk hl e he hbd => by
      have hlt : k < ops.size := (Array.getElem?_eq_some_iff.1 hk).1
      rw [Array.getD_eq_getD_getElem?, Array.getElem?_replicate, if_pos hlt] at hl; simp at hl)
    (fun j hj i hi hlt hn => by
      obtain ⟨j', hj', rfl⟩ := List.mem_map.1 hj
      obtain ⟨i', hi', rfl⟩ := List.mem_map.1 hi
      exact hind j' hj' i' hi' hlt hn)
    r2 (drew_rel hr)
  exact this

theorem idx_pairwise {ts : List TI} {n : Nat} (r4 : ts.map (·.idx) = List.range' 0 n) : ts.Pairwise (fun x y => x.idx < y.idx) := by
  have := List.pairwise_lt_range (n := n)
  rw [List.range_eq_range', ← r4, List.pairwise_map] at this; exact this

theorem region_draw {P : Program} (hm : P.follows .mixedOrders = true) {id : Nat} {ops : Array Oper} {s s' : RS} {ts : List TI} {obs : List Prop} (h : runR P ops 0 ops.toList s = some (s', ts)) (ho : ∀ q ∈ s'.obs, q)
    (hb : backOk ops.toList = true) (hw : owedAll ops (bitsL [] ops.toList) [] ts = some obs) (ho2 : ∀ q ∈ obs, q) : CW P (.region id ops true) s.st .normal s'.st := by
  obtain ⟨_, r2, r3, r4, r5⟩ := runR_ok ops.toList 0 s s' ts h (fun k o hk => by simpa using hk) ho
  refine draw_of_lex hm r2 r3 r4 hb fun j hj i hi hlt hn => ?_
  rcases owedAll_ok ts [] obs hw ho2 (idx_pairwise r4) j hj i hi hlt with h1 | h1
  · exact absurd (bitsL_ok ops.toList [] (fun k o hk => by simpa using hk) (fun i j hb => by simp at hb) _ _ h1) hn
  · exact h1

end Go.Am
end PartAmReg

section PartAmExec
/- The run of code and of a function. -/
namespace Go.Am
open Go

def runC (P : Program) : Code → RS → Option (Ex × RS)
  | .skip, s => some (.normal, s)
  | .label _, s => some (.normal, s)
  | .ret, s => some (.ret, s)
  | .exit id, s => some (.exit id, s)
  | .seq a b, s => match runC P a s with
    | some (.normal, s') => runC P b s'
    | r => r
  | .cond c x y, s => match aev s.l c, s.sc with
    | .lit (.bool b), .dec true :: sc => runC P x ⟨s.l, s.L, sc, s.obs ++ [b = true]⟩
    | .lit (.bool b), .dec false :: sc => runC P y ⟨s.l, s.L, sc, s.obs ++ [b = false]⟩
    | _, _ => none
  | .block id c, s => match runC P c s with
    | some (.exit id', s') => if id' = id then some (.normal, s') else some (.exit id', s')
    | r => r
  | .loop c, s => match s.sc with
    | .lp ex l' L' :: sc => some (ex, ⟨l', L', sc, s.obs ++ [CW P (.loop c) s.st ex (l', hof L')]⟩)
    | _ => none
  | .region _ ops false, s => match runR P ops 0 ops.toList s with
    | some (s', _) => some (.normal, s')
    | none => none
  | .region _ ops true, s => match runR P ops 0 ops.toList s with
    | some (s', ts) => if backOk ops.toList = true then match owedAll ops (bitsL [] ops.toList) [] ts with
        | some obs => some (.normal, ⟨s'.l, s'.L, s'.sc, s'.obs ++ obs⟩)
        | none => none
      else none
    | none => none
  | _, _ => none

theorem runC_ok {P : Program} (hm : P.follows .mixedOrders = true) : ∀ (c : Code) (s s' : RS) (ex : Ex), runC P c s = some (ex, s') → (∀ q ∈ s'.obs, q) → (∀ q ∈ s.obs, q) ∧ CW P c s.st ex s'.st
  | .skip, s, s', ex, h, ho => by
    simp only [runC, Option.some.injEq, Prod.mk.injEq] at h; obtain ⟨rfl, rfl⟩ := h; exact ⟨ho, CW.skip⟩
  | .label _, s, s', ex, h, ho => by
    simp only [runC, Option.some.injEq, Prod.mk.injEq] at h; obtain ⟨rfl, rfl⟩ := h; exact ⟨ho, CW.label⟩
  | .ret, s, s', ex, h, ho => by
    simp only [runC, Option.some.injEq, Prod.mk.injEq] at h; obtain ⟨rfl, rfl⟩ := h; exact ⟨ho, CW.ret⟩
  | .exit id, s, s', ex, h, ho => by
    simp only [runC, Option.some.injEq, Prod.mk.injEq] at h; obtain ⟨rfl, rfl⟩ := h; exact ⟨ho, CW.exit⟩
  | .seq a b, s, s', ex, h, ho => by
    simp only [runC] at h
    cases ha : runC P a s with
    | none => rw [ha] at h; simp at h
    | some r =>
      obtain ⟨ex1, s1⟩ := r
      rw [ha] at h
      by_cases he : ex1 = .normal
      · subst he
        simp only at h
        obtain ⟨o1, c1⟩ := runC_ok hm b s1 s' ex h ho
        obtain ⟨o2, c2⟩ := runC_ok hm a s s1 .normal ha o1
        exact ⟨o2, CW.seq c2 c1⟩
      · have h' : ex1 = ex ∧ s1 = s' := by cases ex1 <;> first | exact absurd rfl he | (simpa using h)
        obtain ⟨rfl, rfl⟩ := h'
        obtain ⟨o2, c2⟩ := runC_ok hm a s s1 ex1 ha ho
        exact ⟨o2, CW.seq_out c2 he⟩
  | .cond c x y, s, s', ex, h, ho => by
    simp only [runC] at h
    split at h <;> try (simp at h; done)
    · rename_i b sc hc hs
      obtain ⟨o1, c1⟩ := runC_ok hm x _ s' ex h ho
      have hb : b = true := o1 _ (by simp)
      subst hb
      exact ⟨fun q hq => o1 q (by simp [hq]), CW.cond (b := true) hc c1⟩
    · rename_i b sc hc hs
      obtain ⟨o1, c1⟩ := runC_ok hm y _ s' ex h ho
      have hb : b = false := o1 _ (by simp)
      subst hb
      exact ⟨fun q hq => o1 q (by simp [hq]), CW.cond (b := false) hc c1⟩
  | .block id c, s, s', ex, h, ho => by
    simp only [runC] at h
    cases hc : runC P c s with
    | none => rw [hc] at h; simp at h
    | some r =>
      obtain ⟨ex1, s1⟩ := r
      rw [hc] at h
      cases ex1 with
      | exit id' =>
        simp only at h
        split at h
        · rename_i he; subst he
          simp only [Option.some.injEq, Prod.mk.injEq] at h; obtain ⟨rfl, rfl⟩ := h
          obtain ⟨o1, c1⟩ := runC_ok hm c s s1 _ hc ho
          exact ⟨o1, CW.block_exit c1⟩
        · rename_i he
          simp only [Option.some.injEq, Prod.mk.injEq] at h; obtain ⟨rfl, rfl⟩ := h
          obtain ⟨o1, c1⟩ := runC_ok hm c s s1 _ hc ho
          exact ⟨o1, CW.block c1 (by simpa using he)⟩
      | _ =>
        simp only [Option.some.injEq, Prod.mk.injEq] at h; obtain ⟨rfl, rfl⟩ := h
        obtain ⟨o1, c1⟩ := runC_ok hm c s s1 _ hc ho
        exact ⟨o1, CW.block c1 (by simp)⟩
  | .loop c, s, s', ex, h, ho => by
    simp only [runC] at h
    split at h <;> try (simp at h; done)
    simp only [Option.some.injEq, Prod.mk.injEq] at h; obtain ⟨rfl, rfl⟩ := h
    exact ⟨fun q hq => ho q (List.mem_append_left _ hq), ho _ (List.mem_append_right _ (List.mem_singleton.2 rfl))⟩
  | .region _ ops false, s, s', ex, h, ho => by
    simp only [runC] at h
    split at h <;> try (simp at h; done)
    rename_i s1 ts hr
    simp only [Option.some.injEq, Prod.mk.injEq] at h; obtain ⟨rfl, rfl⟩ := h
    exact ⟨(runR_ok ops.toList 0 s s1 ts hr (fun k o hk => by simpa using hk) ho).1, region_text hr ho⟩
  | .region rid ops true, s, s', ex, h, ho => by
    simp only [runC] at h
    split at h <;> try (simp at h; done)
    rename_i s1 ts hr
    split at h <;> try (simp at h; done)
    rename_i hb
    split at h <;> try (simp at h; done)
    rename_i obs hw
    simp only [Option.some.injEq, Prod.mk.injEq] at h; obtain ⟨rfl, rfl⟩ := h
    have o1 : ∀ q ∈ s1.obs, q := fun q hq => ho q (by simp [hq])
    have hd : CW P (.region rid ops true) s.st .normal s1.st := region_draw hm hr o1 hb hw fun q hq => ho q (by simp [hq])
    exact ⟨(runR_ok ops.toList 0 s s1 ts hr (fun k o hk => by simpa using hk) o1).1, hd⟩
  | .scope _, _, _, _, h, _ => by simp [runC] at h
  | .goto _, _, _, _, h, _ => by simp [runC] at h
  | .rangeFunc .., _, _, _, h, _ => by simp [runC] at h
  | .refuse _, _, _, _, h, _ => by simp [runC] at h

/-- The results of a function. -/
def resAV (P : Program) (L : HL) (l : List AV) : List ResultVar → Option (List AV)
  | [] => some []
  | .tmp t :: r => match resAV P L l r with | some vs => some (l.getD t .any :: vs) | none => none
  | .cell a t :: r => match loadOp P (hof L) t (l.getD a .any) [], resAV P L l r with
    | some (v, [], []), some vs => some (v :: vs)
    | _, _ => none

def retAV : List AV → AV
  | [v] => v
  | vs => .tup vs

def resM (tmps : Array Value) : ResultVar → Sem Value
  | .tmp t => pure (tmps.getD t undef)
  | .cell a t => do loadVar t (← asAddr (tmps.getD a undef))

theorem resAV_ok {P : Program} {E : Env} {L : HL} {l : List AV} {tmps : Array Value} (hH : E.H = hof L) (hI : Inv E) (hl : Cs E l tmps.toList) : ∀ (rs : List ResultVar) (vs : List AV), resAV P L l rs = some vs →
    ∃ us : List Value, (rs.mapM (resM tmps)).run P E.w = .ok us E.w ∧ Cs E vs us
  | [], vs, h => by simp only [resAV, Option.some.injEq] at h; subst h; exact ⟨[], by simp, rfl⟩
  | .tmp t :: r, vs, h => by
    simp only [resAV] at h
    split at h <;> try (simp at h; done)
    rename_i ws hw
    simp only [Option.some.injEq] at h; subst h
    obtain ⟨us, h1, h2⟩ := resAV_ok hH hI hl r ws hw
    exact ⟨tmps.getD t undef :: us, by simp only [List.mapM_cons, Sem.run_bind, resM, Sem.run_pure, Result.andThen_ok, h1], _, us, rfl, by have := Cs.getD l _ t hl; simpa using this, h2⟩
  | .cell a t :: r, vs, h => by
    simp only [resAV] at h
    split at h <;> try (simp at h; done)
    rename_i v ws hv hw
    simp only [Option.some.injEq] at h; subst h
    obtain ⟨us, h1, h2⟩ := resAV_ok hH hI hl r ws hw
    have ha := Cs.getD l _ a hl
    obtain ⟨y, hy, hc⟩ := loadOp_ok (P := P) hv (by simp) hH hI ha
    have hy' : (resM tmps (.cell a t)).run P E.w = .ok y E.w := by
      show (do loadVar t (← asAddr (tmps.getD a undef)) : Sem Value).run P E.w = .ok y E.w
      have e : tmps.toList.getD a undef = tmps.getD a undef := by simp
      rw [e] at hy
      cases hx : tmps.getD a undef with
      | pointer q => cases q with
        | none => rw [hx] at hy; simp [Instr.loadAt, Instr.sureAddr] at hy
        | some q => rw [hx] at hy; simpa [Instr.loadAt, Instr.sureAddr, asAddr] using hy
      | _ => rw [hx] at hy; simp [Instr.loadAt, Instr.sureAddr] at hy
    exact ⟨y :: us, by simp only [List.mapM_cons, Sem.run_bind, hy', Result.andThen_ok, h1, Sem.run_pure], y, us, rfl, hc, h2⟩

theorem results_ok {P : Program} {E : Env} {L : HL} {l : List AV} {fn : Func} {tmps : Array Value} {vs : List AV} (hH : E.H = hof L) (hI : Inv E) (hl : Cs E l tmps.toList) (h : resAV P L l fn.results.toList = some vs) :
    ∃ x, (results fn tmps).run P E.w = .ok x E.w ∧ CRel E (retAV vs) x := by
  obtain ⟨us, h1, h2⟩ := resAV_ok (P := P) hH hI hl fn.results.toList vs h
  have hlen := Cs.length _ _ h2
  have hrun : (results fn tmps).run P E.w = .ok (if h : us.toArray.size = 1 then us.toArray[0] else .tuple us.toArray) E.w := by
    have hfn : results fn tmps = (do let vs ← fn.results.mapM (resM tmps); pure (if h : vs.size = 1 then vs[0] else .tuple vs)) := rfl
    rw [hfn, Array.mapM_eq_mapM_toList]
    simp only [Sem.run_bind, Sem.run_map, h1, Result.andThen_ok, Sem.run_pure]
  refine ⟨_, hrun, ?_⟩
  match vs, us, h2, hlen with
  | [v], _, ⟨u, _, rfl, hu, rfl⟩, _ => simpa [retAV] using hu
  | [], us, h2, _ => simp only [Cs] at h2; subst h2; exact ⟨#[], by simp, rfl⟩
  | v :: w :: r, us, h2, hlen =>
    have : ¬ us.toArray.size = 1 := by simp at hlen ⊢; omega
    rw [dif_neg this]
    exact ⟨us.toArray, rfl, by simpa using h2⟩

/-- The run of a whole function that only computes: what it gives, what is owed. -/
def runF (P : Program) (fn : Func) (args : List AV) (sc : List Sc) : Option (AV × List Prop) :=
  match fn.body with
  | none => none
  | some c => match runC P c ⟨args ++ List.replicate (fn.ntmps - args.length) (.lit undef), [], sc, []⟩ with
    | some (.normal, s) | some (.ret, s) => match resAV P s.L s.l fn.results.toList with
      | some rs => match frz (hof s.L) (retAV rs) with
        | some (v, obs) => some (v, s.obs ++ obs)
        | none => none
      | none => none
    | _ => none

theorem Cs_replicate {E : Env} : ∀ n, Cs E (List.replicate n (.lit undef)) (List.replicate n undef)
  | 0 => rfl
  | n + 1 => ⟨undef, _, rfl, rfl, Cs_replicate n⟩

theorem runF_ok {P : Program} (hm : P.follows .mixedOrders = true) {f : FuncId} {fn : Func} {args : List AV} {sc : List Sc} {v : AV} {obs : List Prop} (hf : P.funcs[f]? = some fn) (h : runF P fn args sc = some (v, obs))
    (ho : ∀ q ∈ obs, q) : PureC P f args v := by
  intro E vs hH hI hc
  unfold runF at h
  split at h <;> try (simp at h; done)
  rename_i c hb
  have hlen : vs.size = args.length := by simpa using Cs.length _ _ hc
  have fin : ∀ ex s, (ex = Ex.normal ∨ ex = Ex.ret) → runC P c ⟨args ++ List.replicate (fn.ntmps - args.length) (.lit undef), [], sc, []⟩ = some (ex, s) →
      (match resAV P s.L s.l fn.results.toList with
        | some rs => match frz (hof s.L) (retAV rs) with
          | some (v, obs) => some (v, s.obs ++ obs)
          | none => none
        | none => none) = some (v, obs) → Calls P f vs E.w fun e w' => ∃ x E', e = .returned x ∧ E'.w = w' ∧ E'.H = hnil ∧ Inv E' ∧ Le E E' ∧ CRel E' v x := by
    intro ex s hex hr h
    split at h <;> try (simp at h; done)
    rename_i rs hrs
    split at h <;> try (simp at h; done)
    rename_i v' obs' hfz
    simp only [Option.some.injEq, Prod.mk.injEq] at h; obtain ⟨rfl, rfl⟩ := h
    obtain ⟨_, hcw⟩ := runC_ok hm c _ s ex hr fun q hq => ho q (List.mem_append_left _ hq)
    refine calls_of_wp hf hb ?_
    refine hcw E E _ [] _ ⟨?_, hI, ?_, Le.refl E, rfl⟩ ?_
    · rw [hH]; funext i; simp [RS.st, hof, hnil]
    · simp only [RS.st, Array.toList_append, Array.toList_replicate, hlen]
      exact Cs.append _ _ _ _ hc (Cs_replicate _)
    · intro E' a' hr'
      obtain ⟨x, h1, h2⟩ := results_ok (P := P) (fn := fn) hr'.H hr'.inv hr'.cs hrs
      have hnO : ∀ b, E.S b → E'.S b ∧ ¬ Owned E' b := fun b hb => ⟨hr'.le.sup b hb, fun hO => by
        obtain ⟨i, B, _, h0, _⟩ := hr'.le.osub b (hI.small b hb) hO
        rw [hH] at h0; simp [hnil] at h0⟩
      have hd : DRel E.S E'.w v' x := frz_ok hr'.inv hnO (retAV rs) v' obs' x (by rw [hr'.H]; exact hfz) (fun q hq => ho q (List.mem_append_right _ hq)) h2
      have hend : ∃ x' E'', Ending.returned x = .returned x' ∧ E''.w = E'.w ∧ E''.H = hnil ∧ Inv E'' ∧ Le E E'' ∧ CRel E'' v' x' := by
        refine ⟨x, ⟨hnil, E'.addr, E'.live, E.S, E'.w⟩, rfl, rfl, rfl, ?_, ?_, DRel.up (E := ⟨hnil, E'.addr, E'.live, E.S, E'.w⟩) v' x hd⟩
        · exact {
            owned := by rintro b ⟨i, B, _, h0, _⟩; simp [hnil] at h0
            small := fun b hb => Nat.lt_of_lt_of_le (hI.small b hb) hr'.le.size
            blk := by intro i B h0; simp [hnil] at h0
            inj := by intro i j B C _ _ h0; simp [hnil] at h0 }
        · exact {
            os := hr'.le.os
            tape := hr'.le.tape
            output := hr'.le.output
            osub := by rintro b _ ⟨i, B, _, h0, _⟩; simp [hnil] at h0
            size := hr'.le.size
            keep := hr'.le.keep
            sub := fun b _ hb => hb
            sup := fun b hb => hb
            ids := by intro i B h0; rw [hH] at h0; simp [hnil] at h0 }
      rcases hex with rfl | rfl
      · exact ⟨hr'.df, x, h1, hend⟩
      · exact ⟨hr'.df, x, h1, hend⟩
  split at h
  · rename_i s hr; exact fin _ s (.inl rfl) hr h
  · rename_i s hr; exact fin _ s (.inr rfl) hr h
  · simp at h

end Go.Am
end PartAmExec
