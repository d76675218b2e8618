/- Own rules for runs over blocks that the run made itself (values told by shape, the heap by numbered blocks): part 2. No condition; nothing of the program but its types and functions as they are given. -/
import Derived.Test.YtklpgelalhnpcaaGreatDoorKit1
import Derived.Laws.IdiomStrings
set_option linter.all false

section PartAmAppend
/- Slices that are made: literals, and append. -/
namespace Go.Am
open Go

def chunks (n : Nat) : Nat → List AV → List (List AV)
  | 0, _ => []
  | k + 1, l => l.take n :: chunks n k (l.drop n)

theorem chunks_length (n : Nat) : ∀ (k : Nat) (l : List AV), (chunks n k l).length = k
  | 0, _ => rfl
  | k + 1, l => by simp [chunks, chunks_length n k]

theorem chunks_get (n : Nat) : ∀ (k : Nat) (l : List AV) (i : Nat) (e : List AV), (chunks n k l)[i]? = some e → i < k ∧ e = (l.drop (i * n)).take n
  | 0, _, i, e, h => by simp [chunks] at h
  | k + 1, l, 0, e, h => by simp [chunks] at h; exact ⟨by omega, by simp [h]⟩
  | k + 1, l, i + 1, e, h => by
    have := chunks_get n k (l.drop n) i e (by simpa [chunks] using h)
    refine ⟨by omega, ?_⟩
    rw [this.2, List.drop_drop, Nat.succ_mul, Nat.add_comm n]

theorem DCs.drop {S : Nat → Prop} {w : World} : ∀ (l : List AV) (vs : List Value) (j : Nat), DCs S w l vs → DCs S w (l.drop j) (vs.drop j)
  | l, vs, 0, h => by simpa using h
  | [], vs, j + 1, h => by simp only [DCs] at h; subst h; simp [DCs]
  | c :: l, _, j + 1, ⟨v, r, h1, _, h3⟩ => by subst h1; simpa using DCs.drop l r j h3

theorem DCs.take {S : Nat → Prop} {w : World} : ∀ (l : List AV) (vs : List Value) (j : Nat), DCs S w l vs → DCs S w (l.take j) (vs.take j)
  | l, vs, 0, h => by simp [DCs]
  | [], vs, j + 1, h => by simp only [DCs] at h; subst h; simp [DCs]
  | c :: l, _, j + 1, ⟨v, r, h1, h2, h3⟩ => by subst h1; exact ⟨v, r.take j, by simp, h2, DCs.take l r j h3⟩

theorem DCs.length {S : Nat → Prop} {w : World} : ∀ (l : List AV) (vs : List Value), DCs S w l vs → vs.length = l.length
  | [], vs, h => by simp only [DCs] at h; subst h; rfl
  | c :: l, _, ⟨v, r, h1, _, h3⟩ => by subst h1; simp [DCs.length l r h3]

theorem DCs.append {S : Nat → Prop} {w : World} : ∀ (xs ys : List AV) (vs us : List Value), DCs S w xs vs → DCs S w ys us → DCs S w (xs ++ ys) (vs ++ us)
  | [], _, _, _, h, k => by simp only [DCs] at h; subst h; exact k
  | x :: xs, ys, _, us, ⟨v, r, h1, h2, h3⟩, k => ⟨v, r ++ us, by rw [h1]; rfl, h2, DCs.append xs ys r us h3 k⟩

theorem flatten_get {n : Nat} : ∀ (rows : List (List AV)) (i : Nat) (e : List AV), (∀ r ∈ rows, r.length = n) → rows[i]? = some e → (rows.flatten.drop (i * n)).take n = e
  | r :: rows, 0, e, h, hi => by
    simp at hi; subst hi
    have := h r List.mem_cons_self
    simp [← this]
  | r :: rows, i + 1, e, h, hi => by
    have hr := h r List.mem_cons_self
    have := flatten_get rows i e (fun x hx => h x (List.mem_cons_of_mem _ hx)) (by simpa using hi)
    rw [List.flatten_cons, Nat.succ_mul, Nat.add_comm, ← List.drop_drop, List.drop_append]
    rw [show r.drop n = [] from by rw [List.drop_eq_nil_iff]; omega, hr, Nat.sub_self]; simpa using this
  | [], i, e, _, hi => by simp at hi

theorem flatten_length {n : Nat} : ∀ (rows : List (List AV)), (∀ r ∈ rows, r.length = n) → rows.flatten.length = rows.length * n
  | [], _ => by simp
  | r :: rows, h => by
    rw [List.flatten_cons, List.length_append, flatten_length rows fun x hx => h x (List.mem_cons_of_mem _ hx), h r List.mem_cons_self, List.length_cons, Nat.succ_mul]; omega

/-- A row of a list of rows lies in the flat cells. -/
theorem row_in {E : Env} {n : Nat} {rows : List (List AV)} {c : Array Value} {us : List Value} (hn : ∀ r ∈ rows, r.length = n) (hc : Cs E rows.flatten us)
    (h1 : ∀ v ∈ us, v.oneCell' = true) (hu : ∀ j, j < us.length → c[j]? = us[j]?) : ∀ i e, rows[i]? = some e → e.length = n ∧ ∃ us : List Value, Cs E e us ∧ (∀ v ∈ us, v.oneCell' = true) ∧ ∀ j, j < e.length → c[i * n + j]? = us[j]? := by
  intro i e hi
  have he : e.length = n := hn e (List.mem_of_getElem? hi)
  have hfe := flatten_get rows i e hn hi
  have hlen := Cs.length _ _ hc
  rw [flatten_length rows hn] at hlen
  have hilt : i < rows.length := (List.getElem?_eq_some_iff.1 hi).1
  have hmul : (i + 1) * n ≤ rows.length * n := Nat.mul_le_mul_right _ hilt
  have hsm : (i + 1) * n = i * n + n := Nat.succ_mul _ _
  refine ⟨he, (us.drop (i * n)).take n, by rw [← hfe]; exact Cs.take _ _ _ (Cs.drop _ _ _ hc), fun v hv => h1 v (List.mem_of_mem_drop (List.mem_of_mem_take hv)), fun j hj => ?_⟩
  rw [hu _ (by omega), List.getElem?_take, if_pos (by omega), List.getElem?_drop]

/-- A block of data in new memory: a new one, or a later version of an old one. -/
theorem fresh_arr {E : Env} (hI : Inv E) {id n v : Nat} {rows : List (List AV)} {c : Array Value} {t : TypeId} {fr : Nat × Nat} (hid : ∀ B, E.H id = some B → B.ver < v)
    (hr : ∀ i e, rows[i]? = some e → e.length = n ∧ ∃ us : List Value, Cs E e us ∧ (∀ v ∈ us, v.oneCell' = true) ∧ ∀ j, j < e.length → c[i * n + j]? = us[j]?) (hsz : rows.length * n ≤ c.size) (hfr : fr.1 = fr.2 ∨ c.size ≤ fr.1 := by exact .inl rfl) :
    Inv (E.put id (.arr n v rows) ⟨E.w.heap.size, 0, none⟩ (World.pushed E.w c t fr)) ∧ Le E (E.put id (.arr n v rows) ⟨E.w.heap.size, 0, none⟩ (World.pushed E.w c t fr)) := by
  have hp : PutOk E id (.arr n v rows) ⟨E.w.heap.size, 0, none⟩ (World.pushed E.w c t fr) := {
    os := rfl
    tape := rfl
    output := rfl
    size := by simp [World.pushed]
    keep := fun b hb _ => pushed_old hb
    place := .inl ⟨Nat.le_refl _, by simp [World.pushed]⟩
    ver := fun B h => .inl (hid B h) }
  have hL := put_le hI hp
  refine ⟨put_inv hI hp rfl ⟨c, t, fr, pushed_at, hfr, by simpa [Blk.rows, Blk.esz] using hsz⟩ ?_, hL⟩
  show Rows _ _ _ _ _
  rw [Rows_iff]
  intro i e hi
  obtain ⟨h1, us, h2, h2', h3⟩ := hr i e hi
  refine ⟨h1, At_of_cells (pushed_at) (Cs.mono hI hL _ _ h2) h2' fun j hj => ?_⟩
  rw [Nat.zero_add]; exact h3 j hj

/-- A slice of a whole block in new memory. -/
theorem fresh_own {E : Env} {id n v len cap : Nat} {nz : Bool} {rows : List (List AV)} {c : Array Value} {t : TypeId} {fr : Nat × Nat} (hlen : rows.length = len) (hcap : len ≤ cap) (hc : cap * n ≤ c.size) :
    CRel (E.put id (.arr n v rows) ⟨E.w.heap.size, 0, none⟩ (World.pushed E.w c t fr)) (.own id v 0 len nz) (.slice (some ⟨E.w.heap.size, 0, none⟩) len cap) := by
  refine ⟨rfl, .arr n v rows, by simp [Env.put, upd], Nat.le_refl _, fun _ => ⟨by simp [Blk.rows, hlen], .inl ⟨cap, .inl rfl, ?_, ?_, ?_⟩⟩⟩
  · simp [Env.put]
  · simp [Blk.rows, hlen]; exact hcap
  · simp only [Env.put, if_true, Blk.esz, Nat.zero_add]; rw [bsz_pushed]; exact hc

/-- A slice literal. -/
def bsOp (P : Program) (l : List AV) (id : Nat) (o : Oper) : Option (AV × Blk) :=
  match o.op with
  | .buildSlice t len parts =>
    match P.underlying t with
    | some (.slice elem) => match szOf P elem, pureRun P (zeroValue elem) with
      | some n, some z =>
        if len * n ≤ 2 ^ 24 ∧ z.cells.toList.all Value.oneCell' = true ∧ (parts.toList.all fun p => (cellsAV (aev l p.2)).all cellOk) = true then
          match fillAV (fun i => some (i * n, n)) ((List.range (len * n)).map fun k => .lit (z.cells[k % z.cells.size]!)) (parts.toList.map fun p => (p.1, aev l p.2)) with
          | some flat => if flat.all cellOk = true ∧ flat.length = len * n then some (.own id 0 0 len true, .arr n 0 (chunks n len flat)) else none
          | none => none
        else none
      | _, _ => none
    | _ => none
  | _ => none

theorem bsOp_ok {P : Program} {l : List AV} {id : Nat} {o : Oper} {v : AV} {B : Blk} (h : bsOp P l id o = some (v, B)) {H : Hp} (hid : H id = none) : OOk P o l H v (upd H id B) := by
  intro E a hH hI hl next Q hn
  unfold bsOp at h
  split at h <;> try (simp at h; done)
  rename_i t len parts hop
  split at h <;> try (simp at h; done)
  rename_i elem hu
  split at h <;> try (simp at h; done)
  rename_i n z hs hz
  split at h <;> try (simp at h; done)
  rename_i hk
  split at h <;> try (simp at h; done)
  rename_i flat hfl
  split at h <;> try (simp at h; done)
  rename_i hd
  simp only [Option.some.injEq, Prod.mk.injEq] at h; obtain ⟨rfl, rfl⟩ := h
  have hz0 : (Array.range (len * n)).map (z.cells[· % z.cells.size]!) = ((List.range (len * n)).map fun k => z.cells[k % z.cells.size]!).toArray := by
    apply Array.ext'; simp
  have hcs0 : Cs E ((List.range (len * n)).map fun k => .lit (z.cells[k % z.cells.size]!)) ((Array.range (len * n)).map (z.cells[· % z.cells.size]!)).toList := by
    rw [hz0]
    have := Cs.lits (E := E) ((List.range (len * n)).map fun k => z.cells[k % z.cells.size]!)
    rw [List.map_map] at this; exact this
  have hparts := Cs_map hl (parts.toList.map (·.2))
  obtain ⟨rs, h1, h2⟩ := fillAV_ok (E := E) (parts.toList.map fun p => (p.1, aev l p.2)) (parts.map fun p => (p.1, a.eval p.2)).toList _ flat _ hfl (by simp) (by simpa [List.map_map, Function.comp_def] using hparts) hcs0
  have hrl : rs.size = len * n := by have := Cs.length _ _ h2; simpa [hd.2] using this
  have hrun : (execOp a.eval o).run P E.w = .ok (.value (.slice (some ⟨E.w.heap.size, 0, none⟩) len len)) (World.pushed E.w rs elem) := by
    have hlim : ¬ len * n > 2 ^ 24 := by omega
    by_cases h0 : len * n = 0
    · have er : Array.range 0 = (#[] : Array Nat) := rfl
      have h1' : Instr.fill (fun i => some (i * n, n)) #[] (parts.toList.map fun p => (p.1, a.eval p.2)) = some rs := by
        rw [h0, er] at h1; simpa using h1
      simp [execOp, hop, Instr.buildSlice, run_und hu, run_szOf hs, h0, er, h1', run_newRow]
    · simp only [execOp, hop, Instr.buildSlice, Sem.run_bind, run_und hu, Result.andThen_ok, run_szOf hs, hlim, if_false, h0, pureRun_ok _ hz, Sem.run_pure, h1, run_newRow]
  obtain ⟨i1, i2⟩ := fresh_arr (fr := (0, 0)) (t := elem) (id := id) (n := n) (v := 0) (rows := chunks n len flat) (c := rs) hI (fun B hB => by rw [hH, hid] at hB; simp at hB) (by
    intro i e hi
    obtain ⟨k1, k2⟩ := chunks_get n len flat i e hi
    have hmul : (i + 1) * n ≤ len * n := Nat.mul_le_mul_right _ k1
    have hsm : (i + 1) * n = i * n + n := Nat.succ_mul _ _
    have hel : e.length = n := by rw [k2]; simp [hd.2]; omega
    refine ⟨hel, (rs.toList.drop (i * n)).take n, ?_, fun v hv => Cs.all_one _ _ h2 hd.1 v (List.mem_of_mem_drop (List.mem_of_mem_take hv)), fun j hj => ?_⟩
    · rw [k2]; exact Cs.take _ _ _ (Cs.drop _ _ _ h2)
    · rw [List.getElem?_take, if_pos (by omega), List.getElem?_drop]; simp) (by rw [chunks_length, hrl]; exact Nat.le_refl _)
  unfold Oper.wp; rw [hrun]
  exact hn _ _ (by simp [Env.put, hH]) i1 i2 (fresh_own (chunks_length _ _ _) (Nat.le_refl _) (by rw [hrl]; exact Nat.le_refl _))

end Go.Am
end PartAmAppend

section PartAmApp2
/- append. -/
namespace Go.Am
open Go

/-- The rows that are appended: those of a slice, or the bytes of a string; and which block they lie in. -/
def ysOf (H : Hp) : AV → Option (List (List AV) × List (Nat × Blk))
  | .own id ver off len nz => match H id with
    | some (.arr n v rows) => if v = ver then some ((rows.drop off).take len, [(id, .arr n v rows)]) else none
    | _ => none
  | .ro _ xs _ => some (xs, [])
  | .lit (.slice none 0 0) => some ([], [])
  | .lit (.string s) => some (s.data.toList.map fun b => [.lit (.int .u8 b.toNat)], [])
  | _ => none

/-- How wide a row of it is. -/
def wOf (H : Hp) : AV → Option Nat
  | .own id _ _ _ _ => match H id with | some (.arr n _ _) => some n | _ => none
  | .ro n _ _ => some n
  | .lit (.slice none 0 0) => none
  | .lit (.string _) => some 1
  | _ => none

theorem Rows_flat {E : Env} {b n : Nat} : ∀ (ys : List (List AV)) (o : Nat), Rows E b o n ys → At E b o ys.flatten ∧ ∀ r ∈ ys, r.length = n
  | [], _, _ => ⟨trivial, by simp⟩
  | e :: es, o, ⟨h1, h2, h3⟩ => by
    obtain ⟨k1, k2⟩ := Rows_flat es (o + n) h3
    refine ⟨?_, fun r hr => ?_⟩
    · rw [At_iff] at *
      intro j c hj
      rw [List.flatten_cons, List.getElem?_append] at hj
      split at hj
      · exact h2 j c hj
      · obtain ⟨y, m1, m2⟩ := k1 (j - e.length) c hj
        refine ⟨y, ?_, m2⟩
        rw [show o + n + (j - e.length) = o + j from by omega] at m1; exact m1
    · rcases List.mem_cons.1 hr with rfl | hr
      · exact h1
      · exact k2 r hr

/-- What a slice or a string hands over to an append: the same in every world with this heap. -/
structure Gives (P : Program) (E : Env) (n : Nat) (x : Value) (ys : List (List AV)) : Prop where
  len : (Builtin.lenOf x).run P E.w = .ok ys.length E.w ∧ ∀ w, (Builtin.lenOf x).run P w = .ok ys.length w
  rows : ∀ r ∈ ys, r.length = n
  cells : ∃ vs : Array Value, Cs E ys.flatten vs.toList ∧ (∀ v ∈ vs.toList, v.oneCell' = true) ∧ ∀ w, w.heap = E.w.heap → (Builtin.firstCells n ys.length x).run P w = .ok vs w

theorem run_loadFromU {P : Program} {w : World} {b o : Nat} : ∀ (us : List Value) (i : Nat) (acc : Array Value), (∀ j y, us[j]? = some y → w.cell? ⟨b, o + i + j, none⟩ = some y) →
    (loadCellsFrom ⟨b, o, none⟩ i us.length acc).run P w = .ok (acc ++ us.toArray) w
  | [], i, acc, _ => by simp [loadCellsFrom]
  | u :: us, i, acc, h => by
    simp only [List.length_cons, loadCellsFrom, Sem.run_bind]
    rw [Addr.add_none, Go.Am.run_load (by simpa using h 0 u (by simp)), Result.andThen_ok,
      run_loadFromU us (i + 1) (acc.push u) fun j y hj => by have := h (j + 1) y (by simpa using hj); rw [show o + (i + 1) + j = o + i + (j + 1) from by omega]; exact this]
    simp

theorem At_vals {E : Env} {b : Nat} : ∀ (cs : List AV) (o : Nat), At E b o cs →
    ∃ us : List Value, us.length = cs.length ∧ Cs E cs us ∧ (∀ v ∈ us, v.oneCell' = true) ∧ ∀ j y, us[j]? = some y → E.w.cell? ⟨b, o + j, none⟩ = some y
  | [], _, _ => ⟨[], rfl, rfl, by simp, by simp⟩
  | c :: cs, o, ⟨⟨y, h1, h0, h2⟩, h3⟩ => by
    obtain ⟨us, k1, k2, k3, k4⟩ := At_vals cs (o + 1) h3
    refine ⟨y :: us, by simp [k1], ⟨y, us, rfl, h2, k2⟩, fun v hv => ?_, fun j z hj => ?_⟩
    · rcases List.mem_cons.1 hv with rfl | hv
      · exact h0
      · exact k3 v hv
    · cases j with
      | zero => simp at hj; subst hj; exact h1
      | succ j => rw [show o + (j + 1) = o + 1 + j from by omega]; exact k4 j z (by simpa using hj)

theorem loads_of {P : Program} {E : Env} {b o n : Nat} {ys : List (List AV)} (h : Rows E b o n ys) :
    ∃ vs : Array Value, Cs E ys.flatten vs.toList ∧ (∀ v ∈ vs.toList, v.oneCell' = true) ∧ ∀ w, w.heap = E.w.heap → (loadCells ⟨b, o, none⟩ (ys.length * n)).run P w = .ok vs w := by
  obtain ⟨h1, h2⟩ := Rows_flat ys o h
  obtain ⟨us, k1, k2, k3, k4⟩ := At_vals ys.flatten o h1
  refine ⟨us.toArray, by simpa using k2, by simpa using k3, fun w hw => ?_⟩
  rw [← flatten_length ys h2, ← k1]
  have := run_loadFromU (P := P) (w := w) (b := b) (o := o) us 0 #[] fun j y hj => by rw [cell_congr (w := E.w) (by rw [hw])]; exact k4 j y hj
  simpa [loadCells] using this

theorem extract_all (s : ByteArray) : (s.extract 0 s.size).data = s.data := by
  simp

theorem ysOf_gives {P : Program} {E : Env} (hI : Inv E) {x : AV} {v : Value} {ys : List (List AV)} {rd : List (Nat × Blk)} {n : Nat} (h : ysOf E.H x = some (ys, rd)) (hw : ∀ m, wOf E.H x = some m → m = n) (hx : CRel E x v) :
    Gives P E n v ys := by
  unfold ysOf at h
  split at h
  · rename_i id ver off len nz
    split at h <;> try (simp at h; done)
    rename_i k w rows hB
    split at h <;> try (simp at h; done)
    rename_i hv
    simp only [Option.some.injEq, Prod.mk.injEq] at h; obtain ⟨rfl, rfl⟩ := h
    have hk : k = n := hw k (by simp [wOf, hB])
    subst hk
    obtain ⟨_, B, hB', _, hr⟩ := hx
    rw [hB] at hB'; simp only [Option.some.injEq] at hB'; subst hB'
    obtain ⟨hlen, hr⟩ := hr hv.symm
    simp only [Blk.rows, Blk.esz] at hlen hr
    have hl : ((rows.drop off).take len).length = len := by simp; omega
    rcases hr with ⟨cap, hlv, rfl, _, _⟩ | ⟨a, rfl, rfl, _⟩
    · obtain ⟨_, c, t, fr, _, _, _, hrel⟩ := hI.blk id _ hB hlv
      have hd : Rows E (E.addr id).block ((E.addr id).off + off * k) k ((rows.drop off).take len) := Rows.take _ _ _ (Rows.drop _ _ _ hrel)
      refine ⟨⟨by simp [Builtin.lenOf, hl], fun w => by simp [Builtin.lenOf, hl]⟩, (Rows_flat _ _ hd).2, ?_⟩
      obtain ⟨vs, m1, m2, m3⟩ := loads_of (P := P) hd
      exact ⟨vs, m1, m2, fun w hw' => by simp only [Builtin.firstCells]; exact m3 w hw'⟩
    · have hnil : (rows.drop off).take 0 = [] := by simp
      rw [hnil]
      refine ⟨⟨by simp [Builtin.lenOf], fun w => by simp [Builtin.lenOf]⟩, by simp, #[], rfl, by simp, fun w _ => ?_⟩
      cases a <;> simp [Builtin.firstCells, loadCells, loadCellsFrom]
  · rename_i k xs nz0
    simp only [Option.some.injEq, Prod.mk.injEq] at h; obtain ⟨rfl, rfl⟩ := h
    have hk : k = n := hw k (by simp [wOf])
    subst hk
    obtain ⟨a, cap, rfl, _, _, _, _, hr⟩ := hx
    have hg : (∀ r ∈ xs, r.length = k) ∧ ∃ vs : Array Value, Cs E xs.flatten vs.toList ∧ (∀ v ∈ vs.toList, v.oneCell' = true) ∧ ∀ w, w.heap = E.w.heap → (Builtin.firstCells k xs.length (.slice a xs.length cap)).run P w = .ok vs w := by
      rcases hr with rfl | ⟨b, o, rfl, _, _, _, hd⟩
      · exact ⟨by simp, #[], rfl, by simp, fun w _ => by cases a <;> simp [Builtin.firstCells, loadCells, loadCellsFrom]⟩
      · have hd := DRows.up _ _ hd
        refine ⟨(Rows_flat _ _ hd).2, ?_⟩
        obtain ⟨vs, m1, m2, m3⟩ := loads_of (P := P) hd
        exact ⟨vs, m1, m2, fun w hw' => by simp only [Builtin.firstCells]; exact m3 w hw'⟩
    exact ⟨⟨by simp [Builtin.lenOf], fun w => by simp [Builtin.lenOf]⟩, hg.1, hg.2⟩
  · simp only [Option.some.injEq, Prod.mk.injEq] at h; obtain ⟨rfl, rfl⟩ := h
    simp only [CRel] at hx; subst hx
    exact ⟨⟨by simp [Builtin.lenOf], fun w => by simp [Builtin.lenOf]⟩, by simp, #[], rfl, by simp, fun w _ => by simp [Builtin.firstCells]⟩
  · rename_i s
    simp only [Option.some.injEq, Prod.mk.injEq] at h; obtain ⟨rfl, rfl⟩ := h
    simp only [CRel] at hx; subst hx
    have hk : 1 = n := hw 1 (by simp [wOf])
    subst hk
    have hsz : (s.data.toList.map fun b => [AV.lit (.int .u8 b.toNat)]).length = s.size := by rw [List.length_map]; rfl
    have hfl : (s.data.toList.map fun b => [AV.lit (.int .u8 b.toNat)]).flatten = s.data.toList.map fun b => AV.lit (.int .u8 b.toNat) := by
      induction s.data.toList with
      | nil => rfl
      | cons b r ih => simp [ih]
    refine ⟨⟨by rw [hsz]; simp [Builtin.lenOf], fun w => by rw [hsz]; simp [Builtin.lenOf]⟩, by simp, s.data.map fun b => .int .u8 b.toNat, ?_, by simp [Value.oneCell'], fun w _ => ?_⟩
    · rw [hfl]
      simp only [Array.toList_map]
      induction s.data.toList with
      | nil => rfl
      | cons b r ih => exact ⟨_, _, rfl, rfl, ih⟩
    · rw [hsz]; simp only [Builtin.firstCells, extract_all, Sem.run_pure]
  · simp at h

end Go.Am
end PartAmApp2

section PartAmApp3
/- append, continued: the model's own steps. -/
namespace Go.Am
open Go

/-- The types of an append: the slice's element, its cells, its bytes. -/
structure AppT (P : Program) (st xt elem : TypeId) (n bt : Nat) : Prop where
  st : P.underlying st = some (.slice elem)
  xt : (∃ e, P.underlying xt = some (.slice e)) ∨ P.underlying xt = some .string
  info : ∃ i z, P.info? elem = some i ∧ i.size = n ∧ i.bytes = bt ∧ i.zero = some z
  pos : 0 < bt
  zsize : ∀ i z, P.info? elem = some i → i.zero = some z → z.cells.size = n

section
variable {P : Program} {st xt elem : TypeId} {n bt : Nat}

theorem AppT.size (h : AppT P st xt elem n bt) : szOf P elem = some n := by
  obtain ⟨i, z, h1, h2, _, _⟩ := h.info
  simp [szOf, h1, h2]

theorem run_append_in {E : Env} (h : AppT P st xt elem n bt) {ty : TypeId} {a : Addr} {sLen sCap m : Nat} {x : Value} {vs : Array Value} {w' : World}
    (hl : (Builtin.lenOf x).run P E.w = .ok m E.w) (hc : (Builtin.firstCells n m x).run P E.w = .ok vs E.w) (hn : sLen + m ≤ sCap)
    (hs : (storeCells (a.add (sLen * n)) vs.toList).run P E.w = .ok () w') :
    (Builtin.append_ #[st, xt] ty #[.slice (some a) sLen sCap, x]).run P E.w = .ok (.slice (some a) (sLen + m) sCap) w' := by
  have hsz := run_szOf (P := P) h.size
  rcases h.xt with ⟨e, hx⟩ | hx <;> simp [Builtin.append_, run_und h.st, hsz, run_und hx, hl, hn, hc, hs]

theorem run_append_nothing {E : Env} (h : AppT P st xt elem n bt) {ty : TypeId} {base : Option Addr} {x : Value} {vs : Array Value}
    (hl : (Builtin.lenOf x).run P E.w = .ok 0 E.w) (hc : (Builtin.firstCells n 0 x).run P E.w = .ok vs E.w) (hv : vs.toList = []) :
    (Builtin.append_ #[st, xt] ty #[.slice base 0 0, x]).run P E.w = .ok (.slice base 0 0) E.w := by
  have hsz := run_szOf (P := P) h.size
  have hv' : vs = #[] := by simpa using hv
  subst hv'
  rcases h.xt with ⟨e, hx⟩ | hx <;> cases base <;> simp [Builtin.append_, run_und h.st, hsz, run_und hx, hl, hc, storeCells]

theorem growBy_le (newLen : Nat) : ∀ (r c : Nat), c ≤ 2 * newLen + 1024 → Builtin.growBy newLen r c ≤ 2 * newLen + 1024
  | 0, c, h => h
  | r + 1, c, h => by
    simp only [Builtin.growBy]
    split
    · exact h
    · exact growBy_le newLen r _ (by omega)

theorem nextcap_le {newLen oldCap : Nat} (h : oldCap < newLen) : Builtin.nextslicecap newLen oldCap ≤ 2 * newLen + 1024 := by
  unfold Builtin.nextslicecap
  split
  · omega
  · split
    · omega
    · exact growBy_le _ _ _ (by omega)

theorem run_append_new {E : Env} (h : AppT P st xt elem n bt) {ty : TypeId} {base : Option Addr} {sLen sCap : Nat} {x : Value} {m : Nat} {vs old : Array Value}
    (hl : (Builtin.lenOf x).run P E.w = .ok m E.w) (hn : sCap < sLen + m) (hlim : (2 * (sLen + m) + 1024) * bt ≤ 2 ^ 48)
    (ho : (Builtin.firstCells n sLen (.slice base sLen sCap)).run P E.drew.w = .ok old E.drew.w) (hc : (Builtin.firstCells n m x).run P E.drew.w = .ok vs E.drew.w) :
    ∃ (cap : Nat) (rest : Array Value), sLen + m ≤ cap ∧ (old ++ vs).size + (cap - (sLen + m)) * n = (old ++ vs ++ rest).size ∧
      (Builtin.append_ #[st, xt] ty #[.slice base sLen sCap, x]).run P E.w = .ok (.slice (some ⟨E.w.heap.size, 0, none⟩) (sLen + m) cap) (World.pushed E.drew.w (old ++ vs ++ rest) elem) := by
  obtain ⟨i, z, i1, i2, i3, i4⟩ := h.info
  have hsz := run_szOf (P := P) h.size
  have hpos := h.pos
  have hq : (Question.appendCap (sLen + m) sCap elem).forced = false := rfl
  have hcut : sLen + m ≤ (Question.appendCap (sLen + m) sCap elem).cut (E.w.tape E.w.drawn (Question.appendCap (sLen + m) sCap elem)) := by
    simp only [Question.cut]; omega
  have hnc := nextcap_le hn
  have hb0 : ¬ i.bytes = 0 := by omega
  have hcapb : ¬ Builtin.nextslicecap (sLen + m) sCap * i.bytes > 2 ^ 48 := by
    have : Builtin.nextslicecap (sLen + m) sCap * i.bytes ≤ (2 * (sLen + m) + 1024) * bt := Nat.mul_le_mul hnc (by omega)
    omega
  have hnot : ¬ sLen + m ≤ sCap := by omega
  refine ⟨(Question.appendCap (sLen + m) sCap elem).cut (E.w.tape E.w.drawn (Question.appendCap (sLen + m) sCap elem)), Builtin.zeroCells z.cells (((Question.appendCap (sLen + m) sCap elem).cut (E.w.tape E.w.drawn (Question.appendCap (sLen + m) sCap elem))) - (sLen + m)), hcut, ?_, ?_⟩
  · simp [Builtin.zeroCells, h.zsize i z i1 i4, Nat.add_assoc]
  · have hti : ∀ w, (typeInfo elem).run P w = .ok i w := fun w => by simp [typeInfo, i1]
    have hzv : ∀ w, (zeroValue elem).run P w = .ok z w := fun w => by simp [zeroValue, hti, i4]
    have ho' : (Builtin.firstCells n sLen (.slice base sLen sCap)).run P E.w.drew = .ok old E.w.drew := ho
    have hc' : (Builtin.firstCells n m x).run P E.w.drew = .ok vs E.w.drew := hc
    rcases h.xt with ⟨e, hx⟩ | hx
    all_goals
      simp only [Builtin.append_]
      simp [run_und h.st, hsz, run_und hx, hl, hnot, hti, hb0, hcapb, hq, hzv]
      rw [ho', Result.andThen_ok, hc', Result.andThen_ok, run_newRow, Result.andThen_ok]
      rfl

end
end Go.Am
end PartAmApp3

section PartAmApp4
/- append, continued: what becomes of the view. -/
namespace Go.Am
open Go

/-- A view in which number id is an array of which nothing lies in memory. -/
def Env.nothing (E : Env) (id n v : Nat) : Env := ⟨upd E.H id (.arr n v []), E.addr, fun i => i ≠ id ∧ E.live i, E.S, E.w⟩

theorem nothing_le {E : Env} {id n v : Nat} (hid : ∀ B, E.H id = some B → B.ver < v) : Le E (E.nothing id n v) where
  os := rfl
  tape := rfl
  output := rfl
  osub := by
    rintro b _ ⟨i, B, ⟨h0, h1⟩, h2, h3⟩
    simp only [Env.nothing, upd, h0, if_false] at h2
    exact ⟨i, B, h1, h2, h3⟩
  size := Nat.le_refl _
  keep := fun _ _ _ => rfl
  sub := fun _ _ h => h
  sup := fun _ h => h
  ids := by
    intro i B hB
    by_cases e : i = id
    · subst e
      exact ⟨.arr n v [], by simp [Env.nothing, upd], Nat.le_of_lt (hid B hB), fun he => absurd (hid B hB) (by rw [he]; exact Nat.lt_irrefl _)⟩
    · exact ⟨B, by simp [Env.nothing, upd, e, hB], Nat.le_refl _, fun _ => ⟨rfl, rfl, fun hl => ⟨⟨e, hl⟩, rfl, rfl⟩⟩⟩

theorem nothing_inv {E : Env} (hI : Inv E) {id n v : Nat} (hid : ∀ B, E.H id = some B → B.ver < v) : Inv (E.nothing id n v) where
  owned := by
    rintro b ⟨i, B, ⟨h0, h1⟩, h2, h3⟩
    simp only [Env.nothing, upd, h0, if_false] at h2
    exact hI.owned b ⟨i, B, h1, h2, h3⟩
  small := hI.small
  blk := by
    rintro i B hB ⟨h0, h1⟩
    simp only [Env.nothing, upd, h0, if_false] at hB
    obtain ⟨k1, c, t, fr, k2, k3, k4, k5⟩ := hI.blk i B hB h1
    exact ⟨k1, c, t, fr, k2, k3, k4, BRel.keep hI (nothing_le hid) rfl k5⟩
  inj := by
    rintro i j B C ⟨a1, a2⟩ ⟨b1, b2⟩ hB hC he
    simp only [Env.nothing, upd, a1, b1, if_false] at hB hC
    exact hI.inj i j B C a2 b2 hB hC he

theorem nothing_own {E : Env} {id n v : Nat} {a : Option Addr} {nz : Bool} (hz : nz = true → a ≠ none) : CRel (E.nothing id n v) (.own id v 0 0 nz) (.slice a 0 0) :=
  ⟨rfl, .arr n v [], by simp [Env.nothing, upd], Nat.le_refl _, fun _ => ⟨by simp, .inr ⟨a, rfl, rfl, rfl, hz⟩⟩⟩

section
variable {P : Program} {st xt elem : TypeId} {n bt : Nat}

theorem Gives.drew {E : Env} {x : Value} {ys : List (List AV)} (h : Gives P E n x ys) : ∃ vs : Array Value, Cs E ys.flatten vs.toList ∧ (∀ v ∈ vs.toList, v.oneCell' = true) ∧
    (Builtin.firstCells n ys.length x).run P E.w = .ok vs E.w ∧ (Builtin.firstCells n ys.length x).run P E.drew.w = .ok vs E.drew.w := by
  obtain ⟨vs, h1, h2, h3⟩ := h.cells
  exact ⟨vs, h1, h2, h3 _ rfl, h3 _ rfl⟩

theorem first_none {P : Program} {n : Nat} {a : Option Addr} {cap : Nat} (w : World) : (Builtin.firstCells n 0 (.slice a 0 cap)).run P w = .ok #[] w := by
  cases a <;> simp [Builtin.firstCells, loadCells, loadCellsFrom]

/-- An append that finds no room: the rows lie in a new block. -/
theorem app_new {E : Env} (hI : Inv E) (hT : AppT P st xt elem n bt) {ty : TypeId} {id v sCap : Nat} {base : Option Addr} {x : Value} {pre ys : List (List AV)} {old : Array Value}
    (hid : ∀ B, E.H id = some B → B.ver < v) (hg : Gives P E n x ys) (hp : ∀ r ∈ pre, r.length = n) (hold : Cs E pre.flatten old.toList) (h1 : ∀ v ∈ old.toList, v.oneCell' = true)
    (ho : (Builtin.firstCells n pre.length (.slice base pre.length sCap)).run P E.drew.w = .ok old E.drew.w) (hn : sCap < pre.length + ys.length) (hlim : (2 * (pre.length + ys.length) + 1024) * bt ≤ 2 ^ 48) :
    ∃ (E' : Env) (r : Value), (Builtin.append_ #[st, xt] ty #[.slice base pre.length sCap, x]).run P E.w = .ok r E'.w ∧ E'.H = upd E.H id (.arr n v (pre ++ ys)) ∧ Inv E' ∧ Le E E' ∧
      ∀ nz, CRel E' (.own id v 0 (pre.length + ys.length) nz) r := by
  obtain ⟨vs, g1, g2, g3, g4⟩ := hg.drew
  obtain ⟨cap, rest, c1, c2, c3⟩ := run_append_new (P := P) (E := E) hT (ty := ty) (base := base) (sLen := pre.length) (sCap := sCap) (x := x) (m := ys.length) (vs := vs) (old := old) hg.len.1 hn hlim ho g4
  have hrows : ∀ r ∈ pre ++ ys, r.length = n := fun r hr => by
    rcases List.mem_append.1 hr with h | h
    · exact hp r h
    · exact hg.rows r h
  have hdr := drew_inv hI
  have hall : Cs E.drew (pre ++ ys).flatten (old ++ vs).toList := by
    rw [List.flatten_append, Array.toList_append]
    exact Cs.mono hI (drew_le E) _ _ (Cs.append _ _ _ _ hold g1)
  have hsize : (old ++ vs).size = (pre.length + ys.length) * n := by
    have := Cs.length _ _ hall
    rw [flatten_length _ hrows, List.length_append] at this; simpa using this
  have hcapn : cap * n = (pre.length + ys.length) * n + (cap - (pre.length + ys.length)) * n := by
    rw [← Nat.add_mul, show pre.length + ys.length + (cap - (pre.length + ys.length)) = cap from by omega]
  obtain ⟨i1, i2⟩ := fresh_arr (E := E.drew) (fr := (0, 0)) (t := elem) (id := id) (n := n) (v := v) (rows := pre ++ ys) (c := old ++ vs ++ rest) hdr hid (row_in hrows hall (fun w hw => by
    rw [Array.toList_append] at hw
    rcases List.mem_append.1 hw with h | h
    · exact h1 w h
    · exact g2 w h) (fun j hj => by
      rw [Array.getElem?_append]
      have hj' : j < (old ++ vs).size := by simpa using hj
      rw [if_pos hj', Array.getElem?_toList])) (by rw [List.length_append, ← c2, ← hsize]; exact Nat.le_add_right _ _)
  refine ⟨_, _, c3, rfl, i1, (drew_le E).trans i2, fun nz => ?_⟩
  exact fresh_own (E := E.drew) (by simp) c1 (by rw [← c2, hsize, ← hcapn]; exact Nat.le_refl _)

/-- An append that finds room: the rows lie behind those that are there. -/
theorem app_in {E : Env} (hI : Inv E) (hT : AppT P st xt elem n bt) {ty : TypeId} {id ver off len cap : Nat} {x : Value} {rows ys : List (List AV)}
    (hB : E.H id = some (.arr n ver rows)) (hl : E.live id) (hg : Gives P E n x ys) (hlen : off + len ≤ rows.length) (hcap : (E.addr id).off + (off + cap) * n ≤ bsz E.w (E.addr id).block) (hn : len + ys.length ≤ cap) :
    ∃ (E' : Env) (r : Value), (Builtin.append_ #[st, xt] ty #[.slice (some ⟨(E.addr id).block, (E.addr id).off + off * n, none⟩) len cap, x]).run P E.w = .ok r E'.w ∧
      E'.H = upd E.H id (.arr n (ver + 1) ((rows.drop off).take len ++ ys)) ∧ Inv E' ∧ Le E E' ∧ ∀ nz, CRel E' (.own id (ver + 1) 0 (len + ys.length) nz) r := by
  obtain ⟨vs, g1, g2, g3, _⟩ := hg.drew
  obtain ⟨hsp, c, t, fr, hblk, hfr, hsz, hrel⟩ := hI.blk id _ hB hl
  simp only [Blk.rows, Blk.esz] at hsz
  have hrel' : Rows E (E.addr id).block (E.addr id).off n rows := hrel
  have hbs : bsz E.w (E.addr id).block = c.size := by unfold bsz; rw [hblk]
  have hvl : vs.size = ys.length * n := by
    have := Cs.length _ _ g1
    rw [flatten_length _ hg.rows] at this; simpa using this
  have e1 : (off + cap) * n = off * n + cap * n := Nat.add_mul _ _ _
  have e2 : (len + ys.length) * n = len * n + ys.length * n := Nat.add_mul _ _ _
  have e3 : (len + ys.length) * n ≤ cap * n := Nat.mul_le_mul_right _ hn
  have hpre : ((rows.drop off).take len).length = len := by simp; omega
  have hprerow := (Rows_iff _ _).1 (Rows.take _ _ len (Rows.drop _ _ off hrel'))
  have hst := run_storeCells (P := P) (b := (E.addr id).block) (o := (E.addr id).off + off * n + len * n) vs.toList E.w 0 c t fr hblk hfr (by simp; omega) g2
  rw [Nat.add_zero] at hst
  have hrun := run_append_in (P := P) hT (ty := ty) (a := ⟨(E.addr id).block, (E.addr id).off + off * n, none⟩) hg.len.1 g3 hn (by rw [Addr.add_none]; exact hst)
  obtain ⟨f1, f2, f3, f4, f5⟩ := setCells_fields (E.addr id).block vs.toList E.w ((E.addr id).off + off * n + len * n)
  obtain ⟨c', k1, k2, k3⟩ := setCells_at (E.addr id).block vs.toList E.w ((E.addr id).off + off * n + len * n) c t fr hblk (by simp; omega)
  have k3a : ∀ y, (E.addr id).off + off * n + len * n ≤ y → y < (E.addr id).off + off * n + len * n + vs.size → c'[y]? = vs[y - ((E.addr id).off + off * n + len * n)]? := fun y q1 q2 => by
    rw [k3, if_pos ⟨q1, by simpa using q2⟩, Array.getElem?_toList]
  have k3b : ∀ y, y < (E.addr id).off + off * n + len * n → c'[y]? = c[y]? := fun y q1 => by rw [k3, if_neg (by omega)]
  have hp : PutOk E id (.arr n (ver + 1) ((rows.drop off).take len ++ ys)) ⟨(E.addr id).block, (E.addr id).off + off * n, none⟩ (setCells E.w (E.addr id).block ((E.addr id).off + off * n + len * n) vs.toList) := {
    os := f1
    tape := f2
    output := f3
    size := Nat.le_of_eq f4.symm
    keep := fun b _ hn' => f5 b fun hb => hn' ⟨_, hB, hl, hb.symm⟩
    place := .inr ⟨_, hB, hl, rfl⟩
    ver := fun B0 h0 => by
      rw [hB] at h0; simp only [Option.some.injEq] at h0; subst h0
      exact .inl (by simp [Blk.ver]) }
  have hL := put_le hI hp
  refine ⟨_, _, hrun, rfl, put_inv hI hp rfl ⟨c', t, fr, k1, by rw [k2]; exact hfr, ?_⟩ ?_, hL, fun nz => ?_⟩
  · simp only [Blk.rows, Blk.esz, List.length_append, hpre, k2]; omega
  · show Rows _ (E.addr id).block ((E.addr id).off + off * n) n ((rows.drop off).take len ++ ys)
    rw [Rows_iff]
    intro i e hi
    have hcell : ∀ y, (E.put id (.arr n (ver + 1) ((rows.drop off).take len ++ ys)) ⟨(E.addr id).block, (E.addr id).off + off * n, none⟩ (setCells E.w (E.addr id).block ((E.addr id).off + off * n + len * n) vs.toList)).w.cell? ⟨(E.addr id).block, y, none⟩ = c'[y]? := fun y => cell_of_block k1
    rw [List.getElem?_append, hpre] at hi
    split at hi
    · rename_i hlt
      obtain ⟨m1, m2⟩ := hprerow i e hi
      refine ⟨m1, ?_⟩
      rw [At_iff] at m2 ⊢
      intro j d hj
      obtain ⟨y, q1, q2, q3⟩ := m2 j d hj
      have hjl : j < n := by have := (List.getElem?_eq_some_iff.1 hj).1; omega
      have hmul : (i + 1) * n ≤ len * n := Nat.mul_le_mul_right _ hlt
      have hsm : (i + 1) * n = i * n + n := Nat.succ_mul _ _
      refine ⟨y, ?_, q2, CRel.mono hI hL _ _ q3⟩
      rw [hcell, k3b _ (by omega)]; rw [cell_of_block hblk] at q1; exact q1
    · rename_i hge
      have hel : e.length = n := hg.rows e (List.mem_of_getElem? hi)
      obtain ⟨_, us, q1, q2, q3⟩ := row_in hg.rows g1 g2 (c := vs) (fun j hj => by rw [Array.getElem?_toList]) (i - len) e hi
      refine ⟨hel, ?_⟩
      rw [At_iff]
      intro j d hj
      obtain ⟨y, m1, m2⟩ := Cs.get? _ _ _ _ q1 hj
      have hjl : j < n := by have := (List.getElem?_eq_some_iff.1 hj).1; omega
      have hil : i - len < ys.length := (List.getElem?_eq_some_iff.1 hi).1
      have hmul : (i - len + 1) * n ≤ ys.length * n := Nat.mul_le_mul_right _ hil
      have hsm : (i - len + 1) * n = (i - len) * n + n := Nat.succ_mul _ _
      have hin : i * n = len * n + (i - len) * n := by rw [← Nat.add_mul, show len + (i - len) = i from by omega]
      refine ⟨y, ?_, q2 y (List.mem_of_getElem? m1), CRel.mono hI hL _ _ m2⟩
      rw [hcell, k3a _ (by omega) (by omega), ← m1, ← q3 j (by omega)]
      congr 1; omega
  · refine ⟨rfl, .arr n (ver + 1) ((rows.drop off).take len ++ ys), by simp [Env.put, upd], Nat.le_refl _, fun _ => ⟨by simp only [Blk.rows, List.length_append, hpre]; omega, .inl ⟨cap, .inl rfl, ?_, ?_, ?_⟩⟩⟩
    · simp [Env.put, Blk.esz]
    · simp only [Blk.rows, List.length_append, hpre]; omega
    · simp only [Env.put, if_true, Blk.esz, Nat.zero_add]
      have : bsz (setCells E.w (E.addr id).block ((E.addr id).off + off * n + len * n) vs.toList) (E.addr id).block = bsz E.w (E.addr id).block := by unfold bsz; rw [k1, hblk]; exact k2
      rw [this]; omega

end
end Go.Am
end PartAmApp4

section PartAmApp5
/- append, the operation. -/
namespace Go.Am
open Go

def xtOk (P : Program) (xt : TypeId) : Bool := match P.underlying xt with | some (.slice _) => true | some .string => true | _ => false

/-- The types of an append: how many cells an element has, and how many bytes. -/
def appTy (P : Program) (st xt : TypeId) : Option (TypeId × Nat × Nat) :=
  match P.underlying st with
  | some (.slice elem) =>
    if xtOk P xt = true then
      match P.info? elem with
      | some i => match i.zero with
        | some z => if 0 < i.bytes ∧ z.cells.size = i.size then some (elem, i.size, i.bytes) else none
        | none => none
      | none => none
    else none
  | _ => none

theorem appTy_ok {P : Program} {st xt elem : TypeId} {n bt : Nat} (h : appTy P st xt = some (elem, n, bt)) : AppT P st xt elem n bt := by
  unfold appTy at h
  split at h <;> try (simp at h; done)
  rename_i e hst
  split at h <;> try (simp at h; done)
  rename_i hxt
  split at h <;> try (simp at h; done)
  rename_i i hi
  split at h <;> try (simp at h; done)
  rename_i z hz
  split at h <;> try (simp at h; done)
  rename_i hc
  simp only [Option.some.injEq, Prod.mk.injEq] at h; obtain ⟨rfl, rfl, rfl⟩ := h
  exact {
    st := hst
    xt := by
      unfold xtOk at hxt
      split at hxt
      · rename_i e' he'; exact .inl ⟨e', he'⟩
      · rename_i he'; exact .inr he'
      · simp at hxt
    info := ⟨i, z, hi, rfl, rfl, hz⟩
    pos := hc.1
    zsize := fun j y hj hy => by
      rw [hi] at hj; simp only [Option.some.injEq] at hj; subst hj
      rw [hz] at hy; simp only [Option.some.injEq] at hy; subst hy; exact hc.2 }

def wFits (H : Hp) (x : AV) (n : Nat) : Bool := match wOf H x with | some m => m == n | none => true

def appOp (P : Program) (H : Hp) (l : List AV) (fresh : Nat) (o : Oper) : Option (AV × K × Nat) :=
  match o.op with
  | .call { callee := .builtin .append, args, argTypes } =>
    match args.toList, argTypes.toList with
    | [x, y], [st, xt] =>
      match appTy P st xt, ysOf H (aev l y) with
      | some (_, n, bt), some (ys, rd) =>
        if wFits H (aev l y) n = true then
          match aev l x with
          | .lit (.slice none 0 0) => match ys with
            | [] => some (.lit (.slice none 0 0), .m rd [] [], 0)
            | y0 :: ys0 => some (.own fresh 0 0 (y0 :: ys0).length true, .a fresh (.arr n 0 (y0 :: ys0)) rd, (2 * (y0 :: ys0).length + 1024) * bt)
          | .own id ver off len nz => match H id with
            | some (.arr k v rows) => if v = ver ∧ k = n then
                some (.own id (ver + 1) 0 (len + ys.length) nz, .s id (.arr k v rows) (.arr n (ver + 1) ((rows.drop off).take len ++ ys)) rd, (2 * (len + ys.length) + 1024) * bt)
              else none
            | _ => none
          | _ => none
        else none
      | _, _ => none
    | _, _ => none
  | _ => none

theorem ysOf_sees {H H' : Hp} {x : AV} {ys : List (List AV)} {rd : List (Nat × Blk)} (h : ysOf H x = some (ys, rd)) (hs : sees H' rd) : ysOf H' x = some (ys, rd) ∧ wOf H' x = wOf H x := by
  unfold ysOf at h
  split at h
  · rename_i id ver off len nz
    split at h <;> try (simp at h; done)
    rename_i k w rows hB
    split at h <;> try (simp at h; done)
    rename_i hv
    simp only [Option.some.injEq, Prod.mk.injEq] at h; obtain ⟨rfl, rfl⟩ := h
    have hB' := hs (id, .arr k w rows) (by simp)
    simp only at hB'
    exact ⟨by simp [ysOf, hB', hv], by simp [wOf, hB', hB]⟩
  · exact ⟨by simpa [ysOf] using h, rfl⟩
  · exact ⟨by simpa [ysOf] using h, rfl⟩
  · exact ⟨by simpa [ysOf] using h, rfl⟩
  · simp at h

theorem ysOf_sees_self {H : Hp} {x : AV} {ys : List (List AV)} {rd : List (Nat × Blk)} (h : ysOf H x = some (ys, rd)) : sees H rd := by
  unfold ysOf at h
  split at h
  · split at h <;> try (simp at h; done)
    rename_i hB
    split at h <;> try (simp at h; done)
    simp only [Option.some.injEq, Prod.mk.injEq] at h; obtain ⟨rfl, rfl⟩ := h
    intro p hp; simp at hp; subst hp; exact hB
  · simp only [Option.some.injEq, Prod.mk.injEq] at h; obtain ⟨rfl, rfl⟩ := h; simp [sees]
  · simp only [Option.some.injEq, Prod.mk.injEq] at h; obtain ⟨rfl, rfl⟩ := h; simp [sees]
  · simp only [Option.some.injEq, Prod.mk.injEq] at h; obtain ⟨rfl, rfl⟩ := h; simp [sees]
  · simp at h

theorem append_run {P : Program} {a : Act} {o : Oper} {args : Array Operand} {ts : Array TypeId} (hop : o.op = .call { callee := .builtin .append, args := args, argTypes := ts }) {x y : Operand} {st xt : TypeId} (ha : args.toList = [x, y]) (ht : ts.toList = [st, xt]) {w w' : World} {r : Value}
    (h : (Builtin.append_ #[st, xt] o.type #[a.eval x, a.eval y]).run P w = .ok r w') : (execOp a.eval o).run P w = .ok (.value r) w' := by
  have e1 : args = #[x, y] := by apply Array.ext'; simpa using ha
  have e2 : ts = #[st, xt] := by apply Array.ext'; simpa using ht
  subst e1 e2
  simp [execOp, hop, resolve, invoke, builtin, h]

theorem appOp_ok {P : Program} {H : Hp} {l : List AV} {fresh : Nat} {o : Oper} {v : AV} {k : K} {z : Nat} (h : appOp P H l fresh o = some (v, k, z)) (hlim : z ≤ 2 ^ 48) : KOk P o l v k ∧ (H fresh = none → k.ph H) := by
  unfold appOp at h
  split at h <;> try (simp at h; done)
  rename_i args ts hop
  split at h <;> try (simp at h; done)
  rename_i x y st xt hx hy
  split at h <;> try (simp at h; done)
  rename_i elem n bt ys rd hty hys
  split at h <;> try (simp at h; done)
  rename_i hw
  have hT := appTy_ok hty
  have hmx : x ∈ o.op.operands := by
    rw [hop]; simp only [Op.operands, Call.operands]; simp
    have : x ∈ args.toList := by rw [hx]; simp
    simpa using this
  have hmy : y ∈ o.op.operands := by
    rw [hop]; simp only [Op.operands, Call.operands]; simp
    have : y ∈ args.toList := by rw [hx]; simp
    simpa using this
  have gives : ∀ (H1 : Hp), sees H1 rd → ∀ (E : Env) (l' : List AV) (a : Act), E.H = H1 → Inv E → Cs E l' a.tmps.toList → aev l' y = aev l y → Gives P E n (a.eval y) ys := by
    intro H1 hs E l' a hH hI hl he
    obtain ⟨q1, q2⟩ := ysOf_sees hys hs
    refine ysOf_gives (rd := rd) hI (by rw [hH]; exact q1) (fun m hm => ?_) (he ▸ aev_ok hl y)
    rw [hH, q2] at hm
    unfold wFits at hw; rw [hm] at hw; simpa using hw
  split at h
  · rename_i hav
    have hnil : ∀ a : Act, ∀ E : Env, ∀ l' : List AV, (∀ x ∈ o.op.operands, aev l' x = aev l x) → Cs E l' a.tmps.toList → a.eval x = .slice none 0 0 := fun a E l' hl' hl => by
      have hxv := aev_ok hl x
      rw [hl' x hmx, hav] at hxv; simpa only [CRel] using hxv
    cases ys with
    | nil =>
      simp only [Option.some.injEq, Prod.mk.injEq] at h; obtain ⟨rfl, rfl, rfl⟩ := h
      refine ⟨?_, fun hf => ⟨by simp, ysOf_sees_self hys⟩⟩
      rintro H1 ⟨_, hs⟩ l' hl' E a hH hI hl next Q hn
      have hg := gives H1 hs E l' a hH hI hl (hl' y hmy)
      obtain ⟨vs, g1, g2, g3, _⟩ := hg.drew
      have hv0 : vs.toList = [] := by simpa [Cs] using g1
      unfold Oper.wp
      rw [append_run hop hx hy (r := .slice none 0 0) (w' := E.w) (by rw [hnil a E l' hl' hl]; exact run_append_nothing hT hg.len.1 g3 hv0)]
      exact hn E _ (by simp [hH, K.wr, upds]) hI (Le.refl E) rfl
    | cons y0 ys0 =>
      simp only [Option.some.injEq, Prod.mk.injEq] at h; obtain ⟨rfl, rfl, rfl⟩ := h
      refine ⟨?_, fun hf => ⟨hf, ysOf_sees_self hys⟩⟩
      rintro H1 ⟨hf, hs⟩ l' hl' E a hH hI hl next Q hn
      have hg := gives H1 hs E l' a hH hI hl (hl' y hmy)
      have hid : ∀ B, E.H fresh = some B → B.ver < 0 := fun B hB => by rw [hH, hf] at hB; simp at hB
      unfold Oper.wp
      obtain ⟨E', r, h1, h2, h3, h4, h5⟩ := app_new (P := P) hI hT (ty := o.type) (id := fresh) (v := 0) (sCap := 0) (base := none) (x := a.eval y) (pre := []) (ys := y0 :: ys0) (old := #[]) hid hg (by simp) rfl (by simp) (first_none _) (by simp) (by simpa using hlim)
      rw [append_run hop hx hy (by rw [hnil a E l' hl' hl]; exact h1)]
      exact hn E' r (by rw [h2, hH]; simp [K.wr, upds]) h3 h4 (by simpa using h5 true)
  · rename_i id ver off len nz hav
    split at h <;> try (simp at h; done)
    rename_i k0 v0 rows hB
    split at h <;> try (simp at h; done)
    rename_i hc
    obtain ⟨rfl, rfl⟩ := hc
    simp only [Option.some.injEq, Prod.mk.injEq] at h; obtain ⟨rfl, rfl, rfl⟩ := h
    refine ⟨?_, fun _ => ⟨hB, ysOf_sees_self hys⟩⟩
    rintro H1 ⟨hf, hs⟩ l' hl' E a hH hI hl next Q hn
    have hg := gives H1 hs E l' a hH hI hl (hl' y hmy)
    have hxv := aev_ok hl x
    rw [hl' x hmx, hav] at hxv
    obtain ⟨_, B, hB', _, hr⟩ := hxv
    have hEB : E.H id = some (.arr k0 v0 rows) := by rw [hH]; exact hf
    rw [hEB] at hB'; simp only [Option.some.injEq] at hB'; subst hB'
    obtain ⟨hlen, hr⟩ := hr rfl
    simp only [Blk.rows, Blk.esz] at hlen hr
    have hpl : ((rows.drop off).take len).length = len := by simp; omega
    have hid : ∀ B, E.H id = some B → B.ver < v0 + 1 := fun B hB => by
      rw [hEB] at hB; simp only [Option.some.injEq] at hB; subst hB; exact Nat.lt_succ_self _
    unfold Oper.wp
    rcases hr with ⟨cap, hlv, hsl, hcap, hroom⟩ | ⟨b, hsl, rfl, hoff, hbz⟩
    · by_cases hfit : len + ys.length ≤ cap
      · obtain ⟨E', r, h1, h2, h3, h4, h5⟩ := app_in (P := P) hI hT (ty := o.type) hEB hlv hg hlen hroom hfit
        rw [append_run hop hx hy (by rw [hsl]; exact h1)]
        exact hn E' r (by rw [h2, hH]; simp [K.wr, upds]) h3 h4 (h5 nz)
      · obtain ⟨_, c, t, fr, _, _, _, hrel⟩ := hI.blk id _ hEB hlv
        have hd : Rows E (E.addr id).block ((E.addr id).off + off * k0) k0 ((rows.drop off).take len) := Rows.take _ _ _ (Rows.drop _ _ _ hrel)
        obtain ⟨old, m1, m2, m3⟩ := loads_of (P := P) hd
        have ho' : (Builtin.firstCells k0 len (.slice (some ⟨(E.addr id).block, (E.addr id).off + off * k0, none⟩) len cap)).run P E.drew.w = .ok old E.drew.w := by
          simp only [Builtin.firstCells]
          have := m3 E.drew.w rfl
          rw [hpl] at this; exact this
        obtain ⟨E', r, h1, h2, h3, h4, h5⟩ := app_new (P := P) hI hT (ty := o.type) (id := id) (v := v0 + 1) (sCap := cap) (base := some ⟨(E.addr id).block, (E.addr id).off + off * k0, none⟩) (x := a.eval y)
          (pre := (rows.drop off).take len) (ys := ys) (old := old) hid hg (Rows_flat _ _ hd).2 m1 m2 (by rw [hpl]; exact ho') (by rw [hpl]; omega) (by rw [hpl]; exact hlim)
        rw [hpl] at h1 h5
        rw [append_run hop hx hy (by rw [hsl]; exact h1)]
        exact hn E' r (by rw [h2, hH]; simp [K.wr, upds]) h3 h4 (h5 nz)
    · have hnil : (rows.drop off).take 0 = [] := by simp
      cases hys0 : ys with
      | nil =>
        subst hys0
        obtain ⟨vs, g1, g2, g3, _⟩ := hg.drew
        have hv0 : vs.toList = [] := by simpa [Cs] using g1
        rw [append_run hop hx hy (r := .slice b 0 0) (w' := E.w) (by rw [hsl]; exact run_append_nothing hT hg.len.1 g3 hv0)]
        exact hn (E.nothing id k0 (v0 + 1)) _ (by simp [Env.nothing, hH, K.wr, upds]) (nothing_inv hI hid) (nothing_le hid) (by simpa using nothing_own hbz)
      | cons y0 ys0 =>
        obtain ⟨E', r, h1, h2, h3, h4, h5⟩ := app_new (P := P) hI hT (ty := o.type) (id := id) (v := v0 + 1) (sCap := 0) (base := b) (x := a.eval y) (pre := []) (ys := ys) (old := #[]) hid hg (by simp) rfl (by simp) (first_none _) (by rw [hys0]; simp) (by simpa using hlim)
        rw [append_run hop hx hy (by rw [hsl]; exact h1)]
        exact hn E' r (by rw [h2, hH]; simp [K.wr, upds]) h3 h4 (by simpa using h5 nz)
  · simp at h

end Go.Am
end PartAmApp5

section PartAmRen
/- A contract told in numbers of its own: it holds wherever these numbers are taken to others. -/
namespace Go.Am
open Go

mutual
def ren (ρ : Nat → Nat) : AV → AV
  | .own id ver off len nz => .own (ρ id) ver off len nz
  | .ptr id ver i j => .ptr (ρ id) ver i j
  | .win id ver i j esz len => .win (ρ id) ver i j esz len
  | .agg cs => .agg (renL ρ cs)
  | .tup cs => .tup (renL ρ cs)
  | .fn f a b => .fn f (renL ρ a) (renL ρ b)
  | .ifc t v => .ifc t (ren ρ v)
  | v => v
def renL (ρ : Nat → Nat) : List AV → List AV
  | [] => []
  | c :: cs => ren ρ c :: renL ρ cs
end

def renR (ρ : Nat → Nat) : List (List AV) → List (List AV)
  | [] => []
  | r :: rs => renL ρ r :: renR ρ rs

def Blk.ren (ρ : Nat → Nat) : Blk → Blk
  | .box v e => .box v (renL ρ e)
  | .arr n v rows => .arr n v (renR ρ rows)

theorem renL_length (ρ : Nat → Nat) : ∀ l : List AV, (renL ρ l).length = l.length
  | [] => rfl
  | c :: cs => by simp [renL, renL_length ρ cs]
theorem renR_length (ρ : Nat → Nat) : ∀ l : List (List AV), (renR ρ l).length = l.length
  | [] => rfl
  | c :: cs => by simp [renR, renR_length ρ cs]
theorem ren_ver {ρ : Nat → Nat} {B : Blk} : (B.ren ρ).ver = B.ver := by cases B <;> rfl
theorem ren_esz {ρ : Nat → Nat} {B : Blk} : (B.ren ρ).esz = B.esz := by cases B <;> simp [Blk.ren, Blk.esz, renL_length]
theorem ren_rows {ρ : Nat → Nat} {B : Blk} : (B.ren ρ).rows.length = B.rows.length := by cases B <;> simp [Blk.ren, Blk.rows, renR_length]

/-- One view tells of a block what another one tells under another number. -/
structure Same (E F : Env) (i j : Nat) : Prop where
  blk : ∀ B, E.H i = some B → ∃ C, F.H j = some C ∧ C.ver = B.ver ∧ C.esz = B.esz ∧ C.rows.length = B.rows.length
  addr : F.addr j = E.addr i
  live : E.live i → F.live j

mutual
theorem CRel.ren {E F : Env} {ρ : Nat → Nat} {n : Nat} (hS : F.S = E.S) (hw : F.w = E.w) (hs : ∀ i, i < n → Same E F i (ρ i)) : ∀ (av : AV) (x : Value), under n av = true → CRel E av x → CRel F (ren ρ av) x
  | .lit _, _, _, h => h
  | .agg cs, _, k, ⟨vs, h1, h2⟩ => ⟨vs, h1, Cs.ren hS hw hs cs _ (by simpa [under] using k) h2⟩
  | .tup cs, _, k, ⟨vs, h1, h2⟩ => ⟨vs, h1, Cs.ren hS hw hs cs _ (by simpa [under] using k) h2⟩
  | .ro n xs nz, x, _, h => by simp only [CRel, Am.ren] at h ⊢; rw [hS, hw]; exact h
  | .rop e j, x, _, h => by simp only [CRel, Am.ren] at h ⊢; rw [hS, hw]; exact h
  | .rom e, x, _, h => by simp only [CRel, Am.ren] at h ⊢; rw [hS, hw]; exact h
  | .own id ver off len nz, x, k, h => by
    obtain ⟨h0, B, hB, hv, hr⟩ := h
    simp only [under, decide_eq_true_eq] at k
    obtain ⟨s1, s2, s3⟩ := hs id k
    obtain ⟨C, c1, c2, c3, c4⟩ := s1 B hB
    refine ⟨h0, C, c1, by rw [c2]; exact hv, fun he => ?_⟩
    obtain ⟨q1, q2⟩ := hr (by rw [← c2]; exact he)
    refine ⟨by rw [c4]; exact q1, q2.imp (fun ⟨cap, r1, r2, r3, r4⟩ => ⟨cap, s3 r1, by rw [s2, c3]; exact r2, by rw [c4]; exact r3, by rw [s2, c3, hw]; exact r4⟩) (fun ⟨a, r1, r2, r3, r4⟩ => ⟨a, r1, r2, by rw [c4]; exact r3, r4⟩)⟩
  | .ptr id ver i j, x, k, h => by
    obtain ⟨h0, B, hB, hv, hr⟩ := h
    simp only [under, decide_eq_true_eq] at k
    obtain ⟨s1, s2, s3⟩ := hs id k
    obtain ⟨C, c1, c2, c3, c4⟩ := s1 B hB
    refine ⟨h0, C, c1, by rw [c2]; exact hv, fun he => ?_⟩
    obtain ⟨q1, q2, q3⟩ := hr (by rw [← c2]; exact he)
    exact ⟨s3 q1, by rw [c4]; exact q2, by rw [s2, c3]; exact q3⟩
  | .win id ver i j esz len, x, k, h => by
    obtain ⟨h0, B, hB, hv, hr⟩ := h
    simp only [under, decide_eq_true_eq] at k
    obtain ⟨s1, s2, s3⟩ := hs id k
    obtain ⟨C, c1, c2, c3, c4⟩ := s1 B hB
    refine ⟨h0, C, c1, by rw [c2]; exact hv, fun he => ?_⟩
    obtain ⟨q1, q2, q3, cap, q4, q5⟩ := hr (by rw [← c2]; exact he)
    exact ⟨s3 q1, by rw [c4]; exact q2, by rw [c3]; exact q3, cap, q4, by rw [s2, c3]; exact q5⟩
  | .fn _ first captured, _, k, ⟨a, b, h1, h2, h3⟩ => by
    simp only [under, Bool.and_eq_true] at k
    exact ⟨a, b, h1, Cs.ren hS hw hs first _ k.1 h2, Cs.ren hS hw hs captured _ k.2 h3⟩
  | .ifc _ v, _, k, ⟨y, h1, h2⟩ => ⟨y, h1, CRel.ren hS hw hs v _ (by simpa [under] using k) h2⟩
  | .any, _, _, _ => trivial
theorem Cs.ren {E F : Env} {ρ : Nat → Nat} {n : Nat} (hS : F.S = E.S) (hw : F.w = E.w) (hs : ∀ i, i < n → Same E F i (ρ i)) : ∀ (cs : List AV) (vs : List Value), underAll n cs = true → Cs E cs vs → Cs F (renL ρ cs) vs
  | [], _, _, h => h
  | c :: cs, _, k, ⟨v, r, h1, h2, h3⟩ => by
    simp only [underAll, Bool.and_eq_true] at k
    exact ⟨v, r, h1, CRel.ren hS hw hs c v k.1 h2, Cs.ren hS hw hs cs r k.2 h3⟩
end

mutual
theorem CRel.ner {E F : Env} {ρ : Nat → Nat} {n : Nat} (hS : F.S = E.S) (hw : F.w = E.w) (hs : ∀ i, i < n → Same E F (ρ i) i) : ∀ (av : AV) (x : Value), under n av = true → CRel E (ren ρ av) x → CRel F av x
  | .lit _, _, _, h => h
  | .agg cs, _, k, ⟨vs, h1, h2⟩ => ⟨vs, h1, Cs.ner hS hw hs cs _ (by simpa [under] using k) h2⟩
  | .tup cs, _, k, ⟨vs, h1, h2⟩ => ⟨vs, h1, Cs.ner hS hw hs cs _ (by simpa [under] using k) h2⟩
  | .ro n xs nz, x, _, h => by simp only [CRel, Am.ren] at h ⊢; rw [hS, hw]; exact h
  | .rop e j, x, _, h => by simp only [CRel, Am.ren] at h ⊢; rw [hS, hw]; exact h
  | .rom e, x, _, h => by simp only [CRel, Am.ren] at h ⊢; rw [hS, hw]; exact h
  | .own id ver off len nz, x, k, h => by
    obtain ⟨h0, B, hB, hv, hr⟩ := h
    simp only [under, decide_eq_true_eq] at k
    obtain ⟨s1, s2, s3⟩ := hs id k
    obtain ⟨C, c1, c2, c3, c4⟩ := s1 B hB
    refine ⟨h0, C, c1, by rw [c2]; exact hv, fun he => ?_⟩
    obtain ⟨q1, q2⟩ := hr (by rw [← c2]; exact he)
    refine ⟨by rw [c4]; exact q1, q2.imp (fun ⟨cap, r1, r2, r3, r4⟩ => ⟨cap, s3 r1, by rw [s2, c3]; exact r2, by rw [c4]; exact r3, by rw [s2, c3, hw]; exact r4⟩) (fun ⟨a, r1, r2, r3, r4⟩ => ⟨a, r1, r2, by rw [c4]; exact r3, r4⟩)⟩
  | .ptr id ver i j, x, k, h => by
    obtain ⟨h0, B, hB, hv, hr⟩ := h
    simp only [under, decide_eq_true_eq] at k
    obtain ⟨s1, s2, s3⟩ := hs id k
    obtain ⟨C, c1, c2, c3, c4⟩ := s1 B hB
    refine ⟨h0, C, c1, by rw [c2]; exact hv, fun he => ?_⟩
    obtain ⟨q1, q2, q3⟩ := hr (by rw [← c2]; exact he)
    exact ⟨s3 q1, by rw [c4]; exact q2, by rw [s2, c3]; exact q3⟩
  | .win id ver i j esz len, x, k, h => by
    obtain ⟨h0, B, hB, hv, hr⟩ := h
    simp only [under, decide_eq_true_eq] at k
    obtain ⟨s1, s2, s3⟩ := hs id k
    obtain ⟨C, c1, c2, c3, c4⟩ := s1 B hB
    refine ⟨h0, C, c1, by rw [c2]; exact hv, fun he => ?_⟩
    obtain ⟨q1, q2, q3, cap, q4, q5⟩ := hr (by rw [← c2]; exact he)
    exact ⟨s3 q1, by rw [c4]; exact q2, by rw [c3]; exact q3, cap, q4, by rw [s2, c3]; exact q5⟩
  | .fn _ first captured, _, k, ⟨a, b, h1, h2, h3⟩ => by
    simp only [under, Bool.and_eq_true] at k
    exact ⟨a, b, h1, Cs.ner hS hw hs first _ k.1 h2, Cs.ner hS hw hs captured _ k.2 h3⟩
  | .ifc _ v, _, k, ⟨y, h1, h2⟩ => ⟨y, h1, CRel.ner hS hw hs v _ (by simpa [under] using k) h2⟩
  | .any, _, _, _ => trivial
theorem Cs.ner {E F : Env} {ρ : Nat → Nat} {n : Nat} (hS : F.S = E.S) (hw : F.w = E.w) (hs : ∀ i, i < n → Same E F (ρ i) i) : ∀ (cs : List AV) (vs : List Value), underAll n cs = true → Cs E (renL ρ cs) vs → Cs F cs vs
  | [], _, _, h => h
  | c :: cs, _, k, ⟨v, r, h1, h2, h3⟩ => by
    simp only [underAll, Bool.and_eq_true] at k
    exact ⟨v, r, h1, CRel.ner hS hw hs c v k.1 h2, Cs.ner hS hw hs cs r k.2 h3⟩
end

theorem At.ren {E F : Env} {ρ : Nat → Nat} {n b : Nat} (hS : F.S = E.S) (hw : F.w = E.w) (hs : ∀ i, i < n → Same E F i (ρ i)) : ∀ (cs : List AV) (o : Nat), underAll n cs = true → At E b o cs → At F b o (renL ρ cs)
  | [], _, _, _ => trivial
  | c :: cs, o, k, ⟨⟨y, h1, h0, h2⟩, h3⟩ => by
    simp only [underAll, Bool.and_eq_true] at k
    exact ⟨⟨y, by rw [hw]; exact h1, h0, CRel.ren hS hw hs c y k.1 h2⟩, At.ren hS hw hs cs (o + 1) k.2 h3⟩

theorem At.ner {E F : Env} {ρ : Nat → Nat} {n b : Nat} (hS : F.S = E.S) (hw : F.w = E.w) (hs : ∀ i, i < n → Same E F (ρ i) i) : ∀ (cs : List AV) (o : Nat), underAll n cs = true → At E b o (renL ρ cs) → At F b o cs
  | [], _, _, _ => trivial
  | c :: cs, o, k, ⟨⟨y, h1, h0, h2⟩, h3⟩ => by
    simp only [underAll, Bool.and_eq_true] at k
    exact ⟨⟨y, by rw [hw]; exact h1, h0, CRel.ner hS hw hs c y k.1 h2⟩, At.ner hS hw hs cs (o + 1) k.2 h3⟩

theorem Rows.ren {E F : Env} {ρ : Nat → Nat} {n b m : Nat} (hS : F.S = E.S) (hw : F.w = E.w) (hs : ∀ i, i < n → Same E F i (ρ i)) : ∀ (cs : List (List AV)) (o : Nat), cs.all (underAll n) = true → Rows E b o m cs → Rows F b o m (renR ρ cs)
  | [], _, _, _ => trivial
  | c :: cs, o, k, ⟨h1, h2, h3⟩ => by
    simp only [List.all_cons, Bool.and_eq_true] at k
    exact ⟨by rw [renL_length]; exact h1, At.ren hS hw hs c o k.1 h2, Rows.ren hS hw hs cs (o + m) k.2 h3⟩

theorem Rows.ner {E F : Env} {ρ : Nat → Nat} {n b m : Nat} (hS : F.S = E.S) (hw : F.w = E.w) (hs : ∀ i, i < n → Same E F (ρ i) i) : ∀ (cs : List (List AV)) (o : Nat), cs.all (underAll n) = true → Rows E b o m (renR ρ cs) → Rows F b o m cs
  | [], _, _, _ => trivial
  | c :: cs, o, k, ⟨h1, h2, h3⟩ => by
    simp only [List.all_cons, Bool.and_eq_true] at k
    exact ⟨by rw [renL_length] at h1; exact h1, At.ner hS hw hs c o k.1 h2, Rows.ner hS hw hs cs (o + m) k.2 h3⟩

theorem BRel.ren {E F : Env} {ρ : Nat → Nat} {n b o : Nat} (hS : F.S = E.S) (hw : F.w = E.w) (hs : ∀ i, i < n → Same E F i (ρ i)) {B : Blk} (hu : blkUnder n B = true) (h : BRel E b o B) : BRel F b o (B.ren ρ) := by
  cases B with
  | box v e => exact At.ren hS hw hs e o hu h
  | arr k v rows => exact Rows.ren hS hw hs rows o hu h

theorem BRel.ner {E F : Env} {ρ : Nat → Nat} {n b o : Nat} (hS : F.S = E.S) (hw : F.w = E.w) (hs : ∀ i, i < n → Same E F (ρ i) i) {B : Blk} (hu : blkUnder n B = true) (h : BRel E b o (B.ren ρ)) : BRel F b o B := by
  cases B with
  | box v e => exact At.ner hS hw hs e o hu h
  | arr k v rows => exact Rows.ner hS hw hs rows o hu h

/-- Where number j stands in a list of numbers. -/
def place (j : Nat) : List Nat → Option Nat
  | [] => none
  | r :: rs => if r = j then some 0 else (place j rs).map (· + 1)

theorem place_some {j : Nat} : ∀ {R : List Nat} {i : Nat}, place j R = some i → R[i]? = some j
  | [], _, h => by simp [place] at h
  | r :: rs, i, h => by
    simp only [place] at h
    split at h
    · rename_i e; simp only [Option.some.injEq] at h; subst h; subst e; simp
    · obtain ⟨k, hk, rfl⟩ := Option.map_eq_some_iff.1 h
      simpa using place_some hk

theorem place_of {j : Nat} : ∀ {R : List Nat} {i : Nat}, R.Nodup → R[i]? = some j → place j R = some i
  | [], _, _, h => by simp at h
  | r :: rs, 0, _, h => by simp at h; simp [place, h]
  | r :: rs, i + 1, hn, h => by
    simp only [List.getElem?_cons_succ] at h
    have hne : r ≠ j := fun e => (List.nodup_cons.1 hn).1 (e ▸ List.mem_of_getElem? h)
    simp [place, hne, place_of (List.nodup_cons.1 hn).2 h]

def rof (R : List Nat) (i : Nat) : Nat := R.getD i 0

theorem rof_get {R : List Nat} {i : Nat} (h : i < R.length) : R[i]? = some (rof R i) := by
  simp [rof, List.getD_eq_getElem?_getD, List.getElem?_eq_getElem h]

/-- The view of a callee that sees the blocks with the numbers R as 0, 1, .. -/
def Env.see (E : Env) (R : List Nat) (La : HL) : Env := ⟨hof La, fun i => E.addr (rof R i), fun i => E.live (rof R i), E.S, E.w⟩

/-- The caller's view behind it: the callee's blocks have the numbers R. -/
def Env.took (E E' : Env) (R : List Nat) (La : HL) : Env :=
  ⟨fun j => match place j R with | some i => (La[i]?).map (Blk.ren (rof R)) | none => E.H j,
   fun j => match place j R with | some i => E'.addr i | none => E.addr j,
   fun j => match place j R with | some i => E'.live i | none => E.live j, E'.S, E'.w⟩

section
variable {E : Env} {R : List Nat} {La La' : HL}

theorem see_same (h : ∀ i B, La[i]? = some B → E.H (rof R i) = some (B.ren (rof R))) (i : Nat) (hi : i < La.length) : Same E (E.see R La) (rof R i) i where
  blk := fun B hB => by
    have := h i _ (List.getElem?_eq_getElem hi)
    rw [hB] at this; simp only [Option.some.injEq] at this; subst this
    exact ⟨La[i], by simp [Env.see, hof, hi], ren_ver.symm, ren_esz.symm, ren_rows.symm⟩
  addr := rfl
  live := fun hl => hl

theorem see_owned (h : ∀ i B, La[i]? = some B → E.H (rof R i) = some (B.ren (rof R))) {b : Nat} (ho : Owned (E.see R La) b) : Owned E b := by
  obtain ⟨i, B, h1, h2, h3⟩ := ho
  exact ⟨rof R i, _, h1, h i B h2, h3⟩

theorem see_inv (hI : Inv E) (hn : R.Nodup) (hlen : La.length ≤ R.length) (h : ∀ i B, La[i]? = some B → E.H (rof R i) = some (B.ren (rof R))) (hu : La.all (blkUnder La.length) = true) : Inv (E.see R La) where
  owned := fun b hb => hI.owned b (see_owned h hb)
  small := hI.small
  blk := by
    intro i B hB hl
    have hB' : La[i]? = some B := hB
    obtain ⟨h1, c, t, fr, h2, h3, h4, h5⟩ := hI.blk _ _ (h i B hB') hl
    rw [ren_rows, ren_esz] at h4
    exact ⟨h1, c, t, fr, h2, h3, h4, BRel.ner (E := E) (F := E.see R La) (ρ := rof R) (n := La.length) rfl rfl (fun k hk => see_same h k hk) (List.all_eq_true.1 hu B (List.mem_of_getElem? hB')) h5⟩
  inj := by
    intro i j B C hi hj hB hC he
    have hB' : La[i]? = some B := hB
    have hC' : La[j]? = some C := hC
    have := hI.inj _ _ _ _ hi hj (h i B hB') (h j C hC') he
    have hi' : i < La.length := (List.getElem?_eq_some_iff.1 hB').1
    have hj' : j < La.length := (List.getElem?_eq_some_iff.1 hC').1
    have e1 := rof_get (R := R) (i := i) (by omega)
    have e2 := rof_get (R := R) (i := j) (by omega)
    rw [this] at e1
    have p1 := place_of hn e1
    have p2 := place_of hn e2
    rw [p1] at p2; simpa using p2

theorem took_at {E' : Env} (hn : R.Nodup) {i : Nat} (hi : i < R.length) : place (rof R i) R = some i := place_of hn (rof_get hi)

theorem took_same {E' : Env} (hn : R.Nodup) (hH : E'.H = hof La') (hlen : La'.length ≤ R.length) (i : Nat) (hi : i < La'.length) : Same E' (E.took E' R La') i (rof R i) where
  blk := fun B hB => by
    rw [hH] at hB
    have hB' : La'[i]? = some B := hB
    exact ⟨B.ren (rof R), by simp [Env.took, took_at (E' := E') hn (show i < R.length by omega), hB'], ren_ver, ren_esz, ren_rows⟩
  addr := by simp [Env.took, took_at (E' := E') hn (show i < R.length by omega)]
  live := fun hl => by simp only [Env.took, took_at (E' := E') hn (show i < R.length by omega)]; exact hl

/-- The caller's other blocks are no callee's. -/
theorem other_block {E' : Env} (hI : Inv E) (hL : Le (E.see R La) E') (hI' : Inv E') (h : ∀ i B, La[i]? = some B → E.H (rof R i) = some (B.ren (rof R))) (hlen : La.length ≤ R.length) {j : Nat} {C : Blk} (hj : place j R = none) (hC : E.H j = some C) (hl : E.live j) :
    ¬ Owned E' (E.addr j).block ∧ ¬ Owned (E.see R La) (E.addr j).block ∧ (E.addr j).block < E.w.heap.size := by
  have hlt : (E.addr j).block < E.w.heap.size := hI.small _ (hI.owned _ ⟨j, C, hl, hC, rfl⟩)
  have hno : ¬ Owned (E.see R La) (E.addr j).block := by
    rintro ⟨i, B, h1, h2, h3⟩
    have hB' : La[i]? = some B := h2
    have hi' : i < La.length := (List.getElem?_eq_some_iff.1 hB').1
    have := hI.inj _ _ _ _ h1 hl (h i B hB') hC h3
    have e1 := rof_get (R := R) (i := i) (by omega)
    rw [this] at e1
    have hmem := List.mem_of_getElem? e1
    have key : ∀ (R : List Nat), j ∈ R → place j R ≠ none := by
      intro R
      induction R with
      | nil => simp
      | cons r rs ih =>
        intro hm
        simp only [place]
        split
        · simp
        · rename_i hne
          rcases List.mem_cons.1 hm with rfl | hm
          · exact absurd rfl hne
          · have := ih hm
            cases hp : place j rs with
            | none => exact absurd hp this
            | some k => simp
    exact key R hmem hj
  exact ⟨fun ho => hno (hL.osub _ hlt ho), hno, hlt⟩

theorem took_le {E' : Env} (hI : Inv E) (hL : Le (E.see R La) E') (hI' : Inv E') (hn : R.Nodup) (hlen : La.length ≤ La'.length) (hlen' : La'.length = R.length) (h : ∀ i B, La[i]? = some B → E.H (rof R i) = some (B.ren (rof R)))
    (hnew : ∀ i, La.length ≤ i → i < R.length → E.H (rof R i) = none) (hH : E'.H = hof La') : Le E (E.took E' R La') where
  os := hL.os
  tape := hL.tape
  output := hL.output
  osub := by
    rintro b hb ⟨j, B, h1, h2, h3⟩
    simp only [Env.took] at h1 h2 h3
    cases hp : place j R with
    | none => simp only [hp] at h1 h2 h3; exact ⟨j, B, h1, h2, h3⟩
    | some i =>
      simp only [hp] at h1 h2 h3
      obtain ⟨C, hC, rfl⟩ := Option.map_eq_some_iff.1 h2
      exact see_owned h (hL.osub b hb ⟨i, C, h1, by rw [hH]; exact hC, h3⟩)
  size := hL.size
  keep := fun b hb hno => hL.keep b hb fun ho => hno (see_owned h ho)
  sub := hL.sub
  sup := hL.sup
  ids := by
    intro j B hB
    cases hp : place j R with
    | none =>
      refine ⟨B, by simp [Env.took, hp, hB], Nat.le_refl _, fun _ => ⟨rfl, rfl, fun hl => ⟨by simp only [Env.took, hp]; exact hl, by simp [Env.took, hp], ?_⟩⟩⟩
      obtain ⟨_, k2, k3⟩ := other_block hI hL hI' h (by omega) hp hB hl
      exact bsz_congr (hL.keep _ k3 k2)
    | some i =>
      have hR := place_some hp
      have hi : i < R.length := (List.getElem?_eq_some_iff.1 hR).1
      have hj : rof R i = j := by have := rof_get hi; rw [hR] at this; simpa using this.symm
      have hi' : i < La.length := by
        rcases Nat.lt_or_ge i La.length with h' | h'
        · exact h'
        · have := hnew i h' hi; rw [hj, hB] at this; simp at this
      have hb := h i _ (List.getElem?_eq_getElem hi')
      rw [hj, hB] at hb; simp only [Option.some.injEq] at hb
      obtain ⟨B', hB', hv, hs⟩ := hL.ids i La[i] (by simp [Env.see, hof, hi'])
      rw [hH] at hB'
      have hB'' : La'[i]? = some B' := hB'
      refine ⟨B'.ren (rof R), by simp [Env.took, hp, hB''], by rw [hb, ren_ver, ren_ver]; exact hv, fun he => ?_⟩
      rw [hb, ren_ver, ren_ver] at he
      obtain ⟨s1, s2, s3⟩ := hs he
      refine ⟨by rw [hb, ren_esz, ren_esz]; exact s1, by rw [hb, ren_rows, ren_rows]; exact s2, fun hl => ?_⟩
      obtain ⟨t1, t2, t3⟩ := s3 (show E.live (rof R i) by rw [hj]; exact hl)
      simp only [Env.see, hj] at t2 t3
      exact ⟨by simp only [Env.took, hp]; exact t1, by simp only [Env.took, hp]; exact t2, t3⟩

theorem took_inv {E' : Env} (hI : Inv E) (hL : Le (E.see R La) E') (hI' : Inv E') (hn : R.Nodup) (hlen : La.length ≤ La'.length) (hlen' : La'.length = R.length) (h : ∀ i B, La[i]? = some B → E.H (rof R i) = some (B.ren (rof R)))
    (hnew : ∀ i, La.length ≤ i → i < R.length → E.H (rof R i) = none) (hH : E'.H = hof La') (hu : La'.all (blkUnder La'.length) = true) : Inv (E.took E' R La') where
  owned := by
    rintro b ⟨j, B, h1, h2, h3⟩
    simp only [Env.took] at h1 h2 h3
    cases hp : place j R with
    | none => simp only [hp] at h1 h2 h3; exact hL.sup b (hI.owned b ⟨j, B, h1, h2, h3⟩)
    | some i =>
      simp only [hp] at h1 h2 h3
      obtain ⟨C, hC, rfl⟩ := Option.map_eq_some_iff.1 h2
      exact hI'.owned b ⟨i, C, h1, by rw [hH]; exact hC, h3⟩
  small := hI'.small
  blk := by
    intro j B hB hl
    have hle := took_le hI hL hI' hn hlen hlen' h hnew hH
    cases hp : place j R with
    | none =>
      simp only [Env.took, hp] at hB hl ⊢
      obtain ⟨k1, k2, k3⟩ := other_block hI hL hI' h (by omega) hp hB hl
      obtain ⟨h1, c, t, fr, h2, h3, h4, h5⟩ := hI.blk j B hB hl
      have hk : E'.w.heap[(E.addr j).block]? = E.w.heap[(E.addr j).block]? := hL.keep _ k3 k2
      exact ⟨h1, c, t, fr, by rw [← h2]; exact hk, h3, h4, BRel.keep hI hle hk h5⟩
    | some i =>
      simp only [Env.took, hp] at hB hl ⊢
      obtain ⟨C, hC, rfl⟩ := Option.map_eq_some_iff.1 hB
      obtain ⟨h1, c, t, fr, h2, h3, h4, h5⟩ := hI'.blk i C (by rw [hH]; exact hC) hl
      refine ⟨h1, c, t, fr, h2, h3, by rw [ren_rows, ren_esz]; exact h4, ?_⟩
      exact BRel.ren (E := E') (F := E.took E' R La') (ρ := rof R) (n := La'.length) rfl rfl (fun k hk => took_same hn hH (by omega) k hk) (List.all_eq_true.1 hu C (List.mem_of_getElem? hC)) h5
  inj := by
    intro i j B C hi hj hB hC he
    simp only [Env.took] at hi hj hB hC he
    cases hp : place i R with
    | none =>
      cases hq : place j R with
      | none => simp only [hp, hq] at hi hj hB hC he; exact hI.inj _ _ _ _ hi hj hB hC he
      | some k =>
        exfalso
        simp only [hp, hq] at hi hj hB hC he
        obtain ⟨D, hD, rfl⟩ := Option.map_eq_some_iff.1 hC
        exact (other_block hI hL hI' h (by omega) hp hB hi).1 ⟨k, D, hj, by rw [hH]; exact hD, he.symm⟩
    | some k =>
      cases hq : place j R with
      | none =>
        exfalso
        simp only [hp, hq] at hi hj hB hC he
        obtain ⟨D, hD, rfl⟩ := Option.map_eq_some_iff.1 hB
        exact (other_block hI hL hI' h (by omega) hq hC hj).1 ⟨k, D, hi, by rw [hH]; exact hD, he⟩
      | some m =>
        simp only [hp, hq] at hi hj hB hC he
        obtain ⟨D, hD, rfl⟩ := Option.map_eq_some_iff.1 hB
        obtain ⟨D', hD', rfl⟩ := Option.map_eq_some_iff.1 hC
        have := hI'.inj _ _ _ _ hi hj (by rw [hH]; exact hD) (by rw [hH]; exact hD') he
        have e1 := place_some hp
        have e2 := place_some hq
        rw [this, e2] at e1; simpa using e1.symm

end

/-- Numbers are written over one after the other. -/
def wrOf (R : List Nat) (La : HL) : List (Nat × Blk) := (R.zip La).map fun p => (p.1, p.2.ren (rof R))

theorem FC.ren {P : Program} {f : FuncId} {args : List AV} {La La' : HL} {v : AV} (hf : FC P f args (hof La) v (hof La')) {R : List Nat} {H : Hp} (hn : R.Nodup) (hlen : La.length ≤ La'.length) (hlen' : La'.length = R.length)
    (h : ∀ i B, La[i]? = some B → H (rof R i) = some (B.ren (rof R))) (hnew : ∀ i, La.length ≤ i → i < R.length → H (rof R i) = none) (hu : La.all (blkUnder La.length) = true) (hu' : La'.all (blkUnder La'.length) = true)
    (ha : underAll La.length args = true) (hv : under La'.length v = true) :
    FC P f (renL (rof R) args) H (ren (rof R) v) (fun j => match place j R with | some i => (La'[i]?).map (Blk.ren (rof R)) | none => H j) := by
  intro E vs hH hI hc
  subst hH
  refine (hf (E.see R La) vs rfl (see_inv hI hn (by omega) h hu) (Cs.ner (E := E) (F := E.see R La) (ρ := rof R) (n := La.length) rfl rfl (fun k hk => see_same h k hk) args _ ha hc)).mono ?_
  rintro e w' ⟨x, E', he, hw, hH', hI', hL, hx⟩
  exact ⟨x, E.took E' R La', he, hw, rfl, took_inv hI hL hI' hn hlen hlen' h hnew hH' hu', took_le hI hL hI' hn hlen hlen' h hnew hH', CRel.ren (E := E') (F := E.took E' R La') (ρ := rof R) (n := La'.length) rfl rfl (fun k hk => took_same hn hH' (by omega) k hk) v x hv hx⟩

end Go.Am
end PartAmRen

section PartAmGc
/- The numbers of one's own blocks, taken to others; what is not reached any more is forgotten. -/
namespace Go.Am
open Go

def inv (R : List Nat) (j : Nat) : Nat := (place j R).getD 0

mutual
def idsIn (R : List Nat) : AV → Bool
  | .own id .. | .ptr id .. | .win id .. => (place id R).isSome
  | .agg cs | .tup cs => idsInL R cs
  | .fn _ a b => idsInL R a && idsInL R b
  | .ifc _ v => idsIn R v
  | _ => true
def idsInL (R : List Nat) : List AV → Bool
  | [] => true
  | c :: cs => idsIn R c && idsInL R cs
end

def idsInB (R : List Nat) : Blk → Bool
  | .box _ e => idsInL R e
  | .arr _ _ rows => rows.all (idsInL R)

theorem inv_ok {R : List Nat} {j : Nat} (h : (place j R).isSome = true) : rof R (inv R j) = j ∧ inv R j < R.length := by
  obtain ⟨i, hi⟩ := Option.isSome_iff_exists.1 h
  have hR := place_some hi
  have hlt := (List.getElem?_eq_some_iff.1 hR).1
  have := rof_get hlt
  rw [hR] at this
  simp only [inv, hi, Option.getD_some]
  exact ⟨by simpa using this.symm, hlt⟩

mutual
theorem ren_inv {R : List Nat} : ∀ av : AV, idsIn R av = true → ren (rof R) (ren (inv R) av) = av ∧ under R.length (ren (inv R) av) = true
  | .lit _, _ => ⟨rfl, rfl⟩
  | .ro _ _ _, _ => ⟨rfl, rfl⟩
  | .rop _ _, _ => ⟨rfl, rfl⟩
  | .rom _, _ => ⟨rfl, rfl⟩
  | .any, _ => ⟨rfl, rfl⟩
  | .own id ver off len nz, h => by
    obtain ⟨h1, h2⟩ := inv_ok (R := R) (j := id) h
    exact ⟨by simp [ren, h1], by simp [ren, under, h2]⟩
  | .ptr id ver i j, h => by
    obtain ⟨h1, h2⟩ := inv_ok (R := R) (j := id) h
    exact ⟨by simp [ren, h1], by simp [ren, under, h2]⟩
  | .win id ver i j esz len, h => by
    obtain ⟨h1, h2⟩ := inv_ok (R := R) (j := id) h
    exact ⟨by simp [ren, h1], by simp [ren, under, h2]⟩
  | .agg cs, h => by
    obtain ⟨h1, h2⟩ := renL_inv cs (by simpa [idsIn] using h)
    exact ⟨by simp [ren, h1], by simp [ren, under, h2]⟩
  | .tup cs, h => by
    obtain ⟨h1, h2⟩ := renL_inv cs (by simpa [idsIn] using h)
    exact ⟨by simp [ren, h1], by simp [ren, under, h2]⟩
  | .fn f a b, h => by
    simp only [idsIn, Bool.and_eq_true] at h
    obtain ⟨h1, h2⟩ := renL_inv a h.1
    obtain ⟨h3, h4⟩ := renL_inv b h.2
    exact ⟨by simp [ren, h1, h3], by simp [ren, under, h2, h4]⟩
  | .ifc t v, h => by
    obtain ⟨h1, h2⟩ := ren_inv v (by simpa [idsIn] using h)
    exact ⟨by simp [ren, h1], by simp [ren, under, h2]⟩
theorem renL_inv {R : List Nat} : ∀ cs : List AV, idsInL R cs = true → renL (rof R) (renL (inv R) cs) = cs ∧ underAll R.length (renL (inv R) cs) = true
  | [], _ => ⟨rfl, rfl⟩
  | c :: cs, h => by
    simp only [idsInL, Bool.and_eq_true] at h
    obtain ⟨h1, h2⟩ := ren_inv c h.1
    obtain ⟨h3, h4⟩ := renL_inv cs h.2
    exact ⟨by simp [renL, h1, h3], by simp [renL, underAll, h2, h4]⟩
end

theorem renR_inv {R : List Nat} : ∀ rs : List (List AV), rs.all (idsInL R) = true → renR (rof R) (renR (inv R) rs) = rs ∧ (renR (inv R) rs).all (underAll R.length) = true
  | [], _ => ⟨rfl, rfl⟩
  | c :: cs, h => by
    simp only [List.all_cons, Bool.and_eq_true] at h
    obtain ⟨h1, h2⟩ := renL_inv c h.1
    obtain ⟨h3, h4⟩ := renR_inv cs h.2
    exact ⟨by simp [renR, h1, h3], by simp [renR, h2, h4]⟩

theorem blk_inv {R : List Nat} {B : Blk} (h : idsInB R B = true) : (B.ren (inv R)).ren (rof R) = B ∧ blkUnder R.length (B.ren (inv R)) = true := by
  cases B with
  | box v e => obtain ⟨h1, h2⟩ := renL_inv e h; exact ⟨by simp [Blk.ren, h1], h2⟩
  | arr n v rows => obtain ⟨h1, h2⟩ := renR_inv rows h; exact ⟨by simp [Blk.ren, h1], h2⟩

mutual
theorem ren_congr {ρ ρ' : Nat → Nat} {n : Nat} (h : ∀ i, i < n → ρ i = ρ' i) : ∀ av : AV, under n av = true → ren ρ av = ren ρ' av
  | .lit _, _ => rfl
  | .ro _ _ _, _ => rfl
  | .rop _ _, _ => rfl
  | .rom _, _ => rfl
  | .any, _ => rfl
  | .own id ver off len nz, k => by simp only [under, decide_eq_true_eq] at k; simp [ren, h id k]
  | .ptr id ver i j, k => by simp only [under, decide_eq_true_eq] at k; simp [ren, h id k]
  | .win id ver i j esz len, k => by simp only [under, decide_eq_true_eq] at k; simp [ren, h id k]
  | .agg cs, k => by simp [ren, renL_congr h cs (by simpa [under] using k)]
  | .tup cs, k => by simp [ren, renL_congr h cs (by simpa [under] using k)]
  | .fn f a b, k => by
    simp only [under, Bool.and_eq_true] at k
    simp [ren, renL_congr h a k.1, renL_congr h b k.2]
  | .ifc t v, k => by simp [ren, ren_congr h v (by simpa [under] using k)]
theorem renL_congr {ρ ρ' : Nat → Nat} {n : Nat} (h : ∀ i, i < n → ρ i = ρ' i) : ∀ cs : List AV, underAll n cs = true → renL ρ cs = renL ρ' cs
  | [], _ => rfl
  | c :: cs, k => by
    simp only [underAll, Bool.and_eq_true] at k
    simp [renL, ren_congr h c k.1, renL_congr h cs k.2]
end

theorem renR_congr {ρ ρ' : Nat → Nat} {n : Nat} (h : ∀ i, i < n → ρ i = ρ' i) : ∀ cs : List (List AV), cs.all (underAll n) = true → renR ρ cs = renR ρ' cs
  | [], _ => rfl
  | c :: cs, k => by
    simp only [List.all_cons, Bool.and_eq_true] at k
    simp [renR, renL_congr h c k.1, renR_congr h cs k.2]

theorem blk_congr {ρ ρ' : Nat → Nat} {n : Nat} (h : ∀ i, i < n → ρ i = ρ' i) {B : Blk} (k : blkUnder n B = true) : B.ren ρ = B.ren ρ' := by
  cases B with
  | box v e => simp [Blk.ren, renL_congr h e k]
  | arr m v rows => simp [Blk.ren, renR_congr h rows k]

/-- What is not reached from the result is forgotten. -/
theorem FC.gc {P : Program} {f : FuncId} {args : List AV} {La L1 L2 : HL} {v v2 : AV} (hf : FC P f args (hof La) v (hof L1)) {R : List Nat} (hn : R.Nodup) (hla : La.length ≤ L2.length) (hlen : L2.length = R.length)
    (hid : ∀ i, i < La.length → rof R i = i) (h : ∀ i B, L2[i]? = some B → L1[rof R i]? = some (B.ren (rof R))) (hu : L2.all (blkUnder L2.length) = true) (hv : v = Am.ren (rof R) v2) (hv2 : under L2.length v2 = true) :
    FC P f args (hof La) v2 (hof L2) := by
  intro E vs hH hI hc
  refine (hf E vs hH hI hc).mono ?_
  rintro e w' ⟨x, E', he, hw, hH', hI', hL, hx⟩
  have hsee : ∀ i B, L2[i]? = some B → E'.H (rof R i) = some (B.ren (rof R)) := fun i B hB => by rw [hH']; exact h i B hB
  refine ⟨x, E'.see R L2, he, hw, rfl, see_inv hI' hn (by omega) hsee hu, ?_, CRel.ner (E := E') (F := E'.see R L2) (ρ := rof R) (n := L2.length) rfl rfl (fun k hk => see_same hsee k hk) v2 x hv2 (hv ▸ hx)⟩
  exact {
    os := hL.os
    tape := hL.tape
    output := hL.output
    osub := fun b hb ho => hL.osub b hb (see_owned hsee ho)
    size := hL.size
    keep := hL.keep
    sub := hL.sub
    sup := hL.sup
    ids := fun i B hB => by
      rw [hH] at hB
      have hB' : La[i]? = some B := hB
      have hi : i < La.length := (List.getElem?_eq_some_iff.1 hB').1
      obtain ⟨C, hC, hvC, hs⟩ := hL.ids i B (by rw [hH]; exact hB)
      have h2 := h i _ (List.getElem?_eq_getElem (show i < L2.length by omega))
      rw [hid i hi] at h2
      rw [hH'] at hC
      have hC' : L1[i]? = some C := hC
      rw [h2] at hC'; simp only [Option.some.injEq] at hC'; rw [← hC'] at hvC hs
      rw [ren_ver] at hvC hs
      rw [ren_esz, ren_rows] at hs
      refine ⟨L2[i], by simp [Env.see, hof, show i < L2.length by omega], hvC, fun he' => ?_⟩
      obtain ⟨s1, s2, s3⟩ := hs he'
      refine ⟨s1, s2, fun hl => ?_⟩
      obtain ⟨t1, t2, t3⟩ := s3 hl
      exact ⟨by simp only [Env.see, hid i hi]; exact t1, by simp only [Env.see, hid i hi]; exact t2, t3⟩ }

end Go.Am
end PartAmGc

section PartAmEv
/- A run that decides everything itself, where all values are known. -/
namespace Go.Am
open Go

def sliceB (P : Program) (H : Nat → Option Blk) (t : TypeId) (p : AV) (lo hi : Option AV) : Bool :=
  match sliceElem P t, p with
  | some _, .own id _ _ len _ =>
    match H id, optInt 0 lo, optInt len hi with
    | some _, some l, some h => decide (0 ≤ l ∧ l ≤ h ∧ h ≤ (len : Int))
    | _, _, _ => false
  | some _, .ro _ xs _ =>
    match optInt 0 lo, optInt xs.length hi with
    | some l, some h => decide (0 ≤ l ∧ l ≤ h ∧ h ≤ (xs.length : Int))
    | _, _ => false
  | _, _ => false

theorem sliceB_ok {P : Program} {H : Nat → Option Blk} {t : TypeId} {p v : AV} {lo hi : Option AV} {obs : List Prop} (h : sliceOp P H t p lo hi = some (v, obs)) (hb : sliceB P H t p lo hi = true) : ∀ q ∈ obs, q := by
  unfold sliceOp at h
  unfold sliceB at hb
  split at h
  · rename_i n id ver off len nz hn
    split at h <;> try (simp at h; done)
    rename_i B l u hB hl hu
    split at h <;> try (simp at h; done)
    simp only [Option.some.injEq, Prod.mk.injEq] at h; obtain ⟨_, rfl⟩ := h
    simp only [hn, hB, hl, hu, decide_eq_true_eq] at hb
    intro q hq; rw [List.mem_singleton.1 hq]; exact hb
  · rename_i n esz xs nz hn
    split at h <;> try (simp at h; done)
    rename_i l u hl hu
    split at h <;> try (simp at h; done)
    simp only [Option.some.injEq, Prod.mk.injEq] at h; obtain ⟨_, rfl⟩ := h
    simp only [hn, hl, hu, decide_eq_true_eq] at hb
    intro q hq; rw [List.mem_singleton.1 hq]; exact hb
  · simp at h

def elemAt (H : Nat → Option Blk) (id i : Nat) : Option (List Sc) :=
  match H id with
  | some (.arr _ _ rows) => match rows[i]? with | some e => some [.el e] | none => none
  | _ => some []

/-- The script of an operation on known values; none: it does not go well. -/
def scriptOf (P : Program) (H : Nat → Option Blk) (l : List AV) (o : Oper) : Option (List Sc) :=
  match o.op with
  | .indexAddr t x ix =>
    match aev l x, aev l ix with
    | .own _ _ _ len _, .lit (.int _ i) => if 0 ≤ i ∧ i < (len : Int) then some [] else none
    | .ro _ xs _, .lit (.int _ i) => if 0 ≤ i then match xs[i.toNat]? with | some e => some [.el e] | none => none else none
    | .ptr .., .lit (.int _ i) | .rop .., .lit (.int _ i) => match arrElem P t with | some (len, _) => if 0 ≤ i ∧ i < (len : Int) then some [] else none | none => none
    | _, _ => none
  | .load _ a => match aev l a with | .ptr id _ i _ => elemAt H id i | _ => some []
  | .binOp .add _ x y _ => match aev l x, aev l y with | .lit (.string a), .lit (.string b) => if a.size + b.size ≤ 2 ^ 62 then some [] else none | _, _ => some []
  | .slice t x lo hi none => if isSliceV (aev l x) = true then (if sliceB P H t (aev l x) (lo.map (aev l)) (hi.map (aev l)) = true then some [] else none) else some []
  | _ => some []

theorem scalR_obs {P : Program} {l : List AV} {o : Oper} {sc sc' : List Sc} {v : AV} {obs : List Prop} (h : scalR P l o sc = some (v, sc', obs)) : ∀ q ∈ obs, q := by
  unfold scalR at h
  split at h
  · simp only [Option.some.injEq, Prod.mk.injEq] at h; obtain ⟨_, _, rfl⟩ := h; simp
  · simp at h

theorem simple_obs {sc sc' : List Sc} {r : Option AV} {v : AV} {obs : List Prop} (h : simple sc r = some (v, sc', obs)) : ∀ q ∈ obs, q := by
  obtain ⟨_, _, rfl⟩ := simple_some h; simp

theorem scriptOf_ok {P : Program} {H : Nat → Option Blk} {l : List AV} {o : Oper} {sc sc' : List Sc} {v : AV} {obs : List Prop} (hs : scriptOf P H l o = some sc) (h : qop P H l o sc = some (v, sc', obs)) : ∀ q ∈ obs, q := by
  unfold qop at h
  split at h
  · simp only [Option.some.injEq, Prod.mk.injEq] at h; obtain ⟨_, _, rfl⟩ := h; simp
  · simp only [Option.some.injEq, Prod.mk.injEq] at h; obtain ⟨_, _, rfl⟩ := h; simp
  · split at h
    · split at h <;> try (simp at h; done)
      simp only [Option.some.injEq, Prod.mk.injEq] at h; obtain ⟨_, _, rfl⟩ := h; simp
    · simp only [Option.some.injEq, Prod.mk.injEq] at h; obtain ⟨_, _, rfl⟩ := h; simp
    · simp only [Option.some.injEq, Prod.mk.injEq] at h; obtain ⟨_, _, rfl⟩ := h; simp
    · simp at h
  · exact simple_obs h
  · exact simple_obs h
  · rename_i t x ix hop
    simp only [scriptOf, hop] at hs
    unfold indexAddrOp at h
    split at h
    · rename_i id ver off len nz k i hx hi
      simp only [hx, hi] at hs
      split at hs <;> try (simp at hs; done)
      rename_i hc
      split at h <;> try (simp at h; done)
      split at h <;> try (simp at h; done)
      simp only [Option.some.injEq, Prod.mk.injEq] at h; obtain ⟨_, _, rfl⟩ := h
      intro q hq; rw [List.mem_singleton.1 hq]; exact hc
    · rename_i esz xs nz k i e sc0 hx hi
      simp only [hx, hi] at hs
      split at hs <;> try (simp at hs; done)
      rename_i hc
      split at hs <;> try (simp at hs; done)
      rename_i e' he'
      simp only [Option.some.injEq, List.cons.injEq, Sc.el.injEq] at hs; obtain ⟨rfl, rfl⟩ := hs
      split at h <;> try (simp at h; done)
      split at h <;> try (simp at h; done)
      simp only [Option.some.injEq, Prod.mk.injEq] at h; obtain ⟨_, _, rfl⟩ := h
      intro q hq; rw [List.mem_singleton.1 hq]; exact ⟨hc, he'⟩
    · rename_i id ver r j k i hx hi
      simp only [hx, hi] at hs
      split at h <;> try (simp at h; done)
      split at h <;> try (simp at h; done)
      rename_i len n hae
      simp only [hae] at hs
      split at hs <;> try (simp at hs; done)
      rename_i hc
      simp only [Option.some.injEq, Prod.mk.injEq] at h; obtain ⟨_, _, rfl⟩ := h
      intro q hq; rw [List.mem_singleton.1 hq]; exact hc
    · rename_i e j k i hx hi
      simp only [hx, hi] at hs
      split at h <;> try (simp at h; done)
      rename_i len n hae
      simp only [hae] at hs
      split at hs <;> try (simp at hs; done)
      rename_i hc
      simp only [Option.some.injEq, Prod.mk.injEq] at h; obtain ⟨_, _, rfl⟩ := h
      intro q hq; rw [List.mem_singleton.1 hq]; exact hc
    · simp at h
  · rename_i t x hop
    simp only [scriptOf, hop] at hs
    unfold loadOp at h
    split at h
    · split at h <;> try (simp at h; done)
      simp only [Option.some.injEq, Prod.mk.injEq] at h; obtain ⟨_, _, rfl⟩ := h; simp
    · rename_i id ver i j hx
      simp only [hx, elemAt] at hs
      split at h
      · split at h <;> try (simp at h; done)
        split at h <;> try (simp at h; done)
        simp only [Option.some.injEq, Prod.mk.injEq] at h; obtain ⟨_, _, rfl⟩ := h; simp
      · rename_i n v0 rows hB
        simp only [hB] at hs
        split at h <;> try (simp at h; done)
        split at h <;> try (simp at h; done)
        split at h <;> try (simp at h; done)
        rename_i e sc0 u hu
        split at hs <;> try (simp at hs; done)
        rename_i e' he'
        simp only [Option.some.injEq, List.cons.injEq, Sc.el.injEq] at hs; obtain ⟨rfl, rfl⟩ := hs
        simp only [Option.some.injEq, Prod.mk.injEq] at h; obtain ⟨_, _, rfl⟩ := h
        intro q hq; rw [List.mem_singleton.1 hq]; exact he'
      · simp at h
    · simp at h
  · exact simple_obs h
  · exact simple_obs h
  · exact simple_obs h
  · rename_i t x lo hi hop
    simp only [scriptOf, hop] at hs
    split at h
    · rename_i hx
      simp only [hx, if_true] at hs
      split at hs <;> try (simp at hs; done)
      rename_i hb
      split at h <;> try (simp at h; done)
      rename_i u obs' hsl
      simp only [Option.some.injEq, Prod.mk.injEq] at h; obtain ⟨_, _, rfl⟩ := h
      exact sliceB_ok hsl hb
    · exact scalR_obs h
  · split at h <;> try (simp at h; done)
    simp only [Option.some.injEq, Prod.mk.injEq] at h; obtain ⟨_, _, rfl⟩ := h; simp
  · simp only [Option.some.injEq, Prod.mk.injEq] at h; obtain ⟨_, _, rfl⟩ := h; simp
  · rename_i t x y ty hop
    simp only [scriptOf, hop] at hs
    split at h
    · unfold strAdd at h
      split at h <;> try (simp at h; done)
      rename_i s u h1 h2
      simp only [h1, h2] at hs
      split at hs <;> try (simp at hs; done)
      rename_i hc
      simp only [Option.some.injEq, Prod.mk.injEq] at h; obtain ⟨_, _, rfl⟩ := h
      intro q hq; rw [List.mem_singleton.1 hq]; exact hc
    · exact scalR_obs h
  · split at h <;> try (simp at h; done)
    split at h
    · exact simple_obs h
    · exact scalR_obs h
  · exact scalR_obs h

/-- A call, as it is run. -/
abbrev CallA := FuncId → List AV → HL → Option (AV × HL)

def CallOk (P : Program) (call : CallA) : Prop := ∀ f as La v L', call f as La = some (v, L') → FC P f as (hof La) v (hof L')

mutual
def idsOf : AV → List Nat
  | .own id .. | .ptr id .. | .win id .. => [id]
  | .agg cs | .tup cs => idsOfL cs
  | .fn _ a b => idsOfL a ++ idsOfL b
  | .ifc _ v => idsOf v
  | _ => []
def idsOfL : List AV → List Nat
  | [] => []
  | c :: cs => idsOf c ++ idsOfL cs
end

def idsOfB : Blk → List Nat
  | .box _ e => idsOfL e
  | .arr _ _ rows => rows.flatMap idsOfL

/-- The blocks that are reached. -/
def reach (L : HL) : Nat → List Nat → List Nat → List Nat
  | 0, _, seen => seen
  | _ + 1, [], seen => seen
  | n + 1, j :: todo, seen =>
    if seen.contains j = true then reach L n todo seen else
    match L[j]? with
    | some B => reach L n (idsOfB B ++ todo) (seen ++ [j])
    | none => reach L n todo (seen ++ [j])

def nodupB : List Nat → Bool
  | [] => true
  | x :: xs => !xs.contains x && nodupB xs

theorem nodupB_ok : ∀ {l : List Nat}, nodupB l = true → l.Nodup
  | [], _ => List.nodup_nil
  | x :: xs, h => by
    simp only [nodupB, Bool.and_eq_true, Bool.not_eq_true', List.contains_eq_mem, decide_eq_false_iff_not] at h
    exact List.nodup_cons.2 ⟨h.1, nodupB_ok h.2⟩

/-- The blocks with these numbers, in numbers of their own. -/
def pickL (L : HL) (R0 : List Nat) : List Nat → Option HL
  | [] => some []
  | j :: R => match L[j]?, pickL L R0 R with
    | some B, some r => if idsInB R0 B = true then some (B.ren (inv R0) :: r) else none
    | _, _ => none

theorem pickL_ok {L : HL} {R0 : List Nat} : ∀ {R : List Nat} {La : HL}, pickL L R0 R = some La → La.length = R.length ∧ ∀ (i : Nat) (B : Blk), La[i]? = some B → ∃ j : Nat, R[i]? = some j ∧ L[j]? = some (B.ren (rof R0)) ∧ blkUnder R0.length B = true
  | [], La, h => by simp only [pickL, Option.some.injEq] at h; subst h; exact ⟨rfl, by simp⟩
  | j :: R, La, h => by
    simp only [pickL] at h
    split at h <;> try (simp at h; done)
    rename_i B r hB hr
    split at h <;> try (simp at h; done)
    rename_i hin
    simp only [Option.some.injEq] at h; subst h
    obtain ⟨h1, h2⟩ := pickL_ok hr
    obtain ⟨b1, b2⟩ := blk_inv hin
    refine ⟨by simp [h1], fun i C hC => ?_⟩
    cases i with
    | zero => simp at hC; subst hC; exact ⟨j, by simp, by rw [b1]; exact hB, b2⟩
    | succ i => exact h2 i C (by simpa using hC)

def blocksOf (L : HL) (R : List Nat) : List (Nat × Blk) := R.filterMap fun j => (L[j]?).map fun B => (j, B)

def callA (call : CallA) (L : HL) (f : FuncId) (as : List AV) : Option (AV × K) :=
  let R := reach L 100000 (idsOfL as) []
  match pickL L R R with
  | some La =>
    if nodupB R = true ∧ idsInL R as = true then
      match call f (renL (inv R) as) La with
      | some (v, La') =>
        let new := List.range' L.length (La'.length - La.length)
        if La.length ≤ La'.length ∧ La'.all (blkUnder La'.length) = true ∧ under La'.length v = true then
          some (ren (rof (R ++ new)) v, .m (blocksOf L R) new (wrOf (R ++ new) La'))
        else none
      | none => none
    else none
  | none => none

theorem upds_wrOf {H : Hp} (ρ : Nat → Nat) : ∀ {R : List Nat} {L : HL}, R.Nodup → L.length = R.length → upds H ((R.zip L).map fun p => (p.1, p.2.ren ρ)) = fun j => match place j R with | some i => (L[i]?).map (Blk.ren ρ) | none => H j
  | [], L, _, _ => by funext j; simp [upds, place]
  | r :: R, [], _, h => by simp at h
  | r :: R, B :: L, hn, h => by
    have hn' := List.nodup_cons.1 hn
    funext j
    simp only [List.zip_cons_cons, List.map_cons, upds]
    rw [upds_wrOf ρ hn'.2 (by simpa using h)]
    simp only [place]
    by_cases e : r = j
    · subst e
      have : place r R = none := by
        cases hp : place r R with
        | none => rfl
        | some i => exact absurd (List.mem_of_getElem? (place_some hp)) hn'.1
      simp [this, upd]
    · rw [if_neg e]
      cases hp : place j R with
      | none => simp [upd, Ne.symm e]
      | some i => simp

theorem callA_ok {P : Program} {call : CallA} (hcall : CallOk P call) {l : List AV} {L : HL} {o : Oper} {c : Call} {f : FuncId} {as : List AV} {v : AV} {k : K} (hop : o.op = .call c) (hc : callee l c = some (f, as)) (he : enters P f = true)
    (h : callA call L f as = some (v, k)) : KOk P o l v k ∧ k.ph (hof L) := by
  unfold callA at h
  simp only at h
  generalize hR : reach L 100000 (idsOfL as) [] = R at h
  split at h <;> try (simp at h; done)
  rename_i La hLa
  split at h <;> try (simp at h; done)
  rename_i hk
  split at h <;> try (simp at h; done)
  rename_i v0 La' hcl
  split at h <;> try (simp at h; done)
  rename_i hk2
  simp only [Option.some.injEq, Prod.mk.injEq] at h; obtain ⟨rfl, rfl⟩ := h
  obtain ⟨p1, p2⟩ := pickL_ok hLa
  have hf := hcall _ _ _ _ _ hcl
  have hnd : R.Nodup := nodupB_ok hk.1
  obtain ⟨a1, a2⟩ := renL_inv as hk.2
  have hRlt : ∀ i j, R[i]? = some j → j < L.length := fun i j hij => by
    have hi : i < La.length := by rw [p1]; exact (List.getElem?_eq_some_iff.1 hij).1
    obtain ⟨j', q1, q2, _⟩ := p2 i _ (List.getElem?_eq_getElem hi)
    rw [hij] at q1; simp only [Option.some.injEq] at q1; subst q1
    exact (List.getElem?_eq_some_iff.1 q2).1
  have hnd' : (R ++ List.range' L.length (La'.length - La.length)).Nodup := by
    refine List.nodup_append.2 ⟨hnd, List.nodup_range', ?_⟩
    intro a ha b hb e
    obtain ⟨i, hi, rfl⟩ := List.mem_iff_getElem.1 ha
    have := hRlt i _ (List.getElem?_eq_getElem hi)
    have := (List.mem_range'_1.1 hb).1
    omega
  have hrof : ∀ i, i < R.length → rof (R ++ List.range' L.length (La'.length - La.length)) i = rof R i := fun i hi => by
    simp [rof, List.getD_eq_getElem?_getD, List.getElem?_append, hi]
  have hlen' : La'.length = (R ++ List.range' L.length (La'.length - La.length)).length := by simp; omega
  have hua : La.all (blkUnder La.length) = true := by
    rw [List.all_eq_true]; intro B hB
    obtain ⟨i, hi, rfl⟩ := List.mem_iff_getElem.1 hB
    obtain ⟨j, _, _, q3⟩ := p2 i _ (List.getElem?_eq_getElem hi)
    rw [p1]; exact q3
  have has : renL (rof (R ++ List.range' L.length (La'.length - La.length))) (renL (inv R) as) = as := by
    rw [renL_congr (ρ' := rof R) hrof _ a2]; exact a1
  constructor
  · rintro H ⟨hnew, hsees⟩ l' hl'
    have hsee : ∀ i B, La[i]? = some B → H (rof (R ++ List.range' L.length (La'.length - La.length)) i) = some (B.ren (rof (R ++ List.range' L.length (La'.length - La.length)))) := by
      intro i B hB
      have hi : i < R.length := by rw [← p1]; exact (List.getElem?_eq_some_iff.1 hB).1
      obtain ⟨j, q1, q2, q3⟩ := p2 i B hB
      have hj : rof R i = j := by have := rof_get hi; rw [q1] at this; simpa using this.symm
      rw [hrof i hi, hj, blk_congr (ρ' := rof R) hrof q3]
      have := hsees (j, B.ren (rof R)) (by
        unfold blocksOf
        rw [List.mem_filterMap]
        exact ⟨j, List.mem_of_getElem? q1, by simp [q2]⟩)
      exact this
    have := FC.ren hf (R := R ++ List.range' L.length (La'.length - La.length)) (H := H) hnd' hk2.1 hlen' hsee (by
      intro i h1 h2
      have hi : i - R.length < La'.length - La.length := by simp at h2; omega
      have hmem : rof (R ++ List.range' L.length (La'.length - La.length)) i ∈ List.range' L.length (La'.length - La.length) := by
        have hg : rof (R ++ List.range' L.length (La'.length - La.length)) i = L.length + (i - R.length) := by
          simp only [rof, List.getD_eq_getElem?_getD, List.getElem?_append]
          rw [if_neg (by omega), List.getElem?_range' hi]; simp
        rw [hg, List.mem_range'_1]; omega
      exact hnew _ hmem) hua hk2.2.1 (by rw [p1]; exact a2) hk2.2.2
    rw [has] at this
    have hw : upds H (K.m (blocksOf L R) (List.range' L.length (La'.length - La.length)) (wrOf (R ++ List.range' L.length (La'.length - La.length)) La')).wr = fun j => match place j (R ++ List.range' L.length (La'.length - La.length)) with | some i => (La'[i]?).map (Blk.ren (rof (R ++ List.range' L.length (La'.length - La.length)))) | none => H j := upds_wrOf _ hnd' hlen'
    rw [hw]
    exact call_ok hop (by rw [callee_env (l := l) fun y hy => hl' y (by rw [hop]; exact hy)]; exact hc) he this
  · refine ⟨fun i hi => ?_, ?_⟩
    · have := (List.mem_range'_1.1 hi).1
      simp only [hof]; exact List.getElem?_eq_none (by omega)
    · rintro ⟨j, B⟩ hp
      unfold blocksOf at hp
      rw [List.mem_filterMap] at hp
      obtain ⟨j', hj', he'⟩ := hp
      obtain ⟨C, hC, he''⟩ := Option.map_eq_some_iff.1 he'
      simp only [Prod.mk.injEq] at he''; obtain ⟨rfl, rfl⟩ := he''
      exact hC

end Go.Am
end PartAmEv

section PartAmConv
/- Strings to bytes and back; make; copy. -/
namespace Go.Am
open Go

def isBytes (P : Program) (t : TypeId) : Option TypeId :=
  match P.underlying t with
  | some (.slice e) => match P.underlying e with
    | some (.int .u8) => if szOf P e = some 1 then some e else none
    | _ => none
  | _ => none

def isStrT (P : Program) (t : TypeId) : Bool := match P.underlying t with | some .string => true | _ => false

theorem isBytes_ok {P : Program} {t e : TypeId} (h : isBytes P t = some e) : P.underlying t = some (.slice e) ∧ P.underlying e = some (.int .u8) ∧ szOf P e = some 1 := by
  unfold isBytes at h
  split at h <;> try (simp at h; done)
  rename_i e' h1
  split at h <;> try (simp at h; done)
  rename_i h2
  split at h <;> try (simp at h; done)
  rename_i h3
  simp only [Option.some.injEq] at h; subst h
  exact ⟨h1, h2, h3⟩

theorem isStrT_ok {P : Program} {t : TypeId} (h : isStrT P t = true) : P.underlying t = some .string := by
  unfold isStrT at h
  split at h
  · assumption
  · simp at h

def byteRows (s : ByteArray) : List (List AV) := s.data.toList.map fun b => [.lit (.int .u8 b.toNat)]

/-- []byte(s) -/
def convS (P : Program) (l : List AV) (id : Nat) (o : Oper) : Option (AV × Blk) :=
  match o.op with
  | .convert src dst x => match aev l x, isBytes P dst with
    | .lit (.string s), some _ => if isStrT P src = true then some (.own id 0 0 s.size true, .arr 1 0 (byteRows s)) else none
    | _, _ => none
  | _ => none

theorem byteRows_length (s : ByteArray) : (byteRows s).length = s.size := by simp [byteRows]

theorem convS_ok {P : Program} {l : List AV} {id : Nat} {o : Oper} {v : AV} {B : Blk} (h : convS P l id o = some (v, B)) {H : Hp} (hid : H id = none) : OOk P o l H v (upd H id B) := by
  intro E a hH hI hl next Q hn
  unfold convS at h
  split at h <;> try (simp at h; done)
  rename_i src dst x hop
  split at h <;> try (simp at h; done)
  rename_i s e hx hb
  split at h <;> try (simp at h; done)
  rename_i hs
  simp only [Option.some.injEq, Prod.mk.injEq] at h; obtain ⟨rfl, rfl⟩ := h
  obtain ⟨b1, b2, b3⟩ := isBytes_ok hb
  have hxv := aev_ok hl x
  rw [hx] at hxv; simp only [CRel] at hxv
  have hrun := run_bytes_of_string (P := P) E.w src dst e s (isStrT_ok hs) b1 b2
  have hcap : s.size ≤ grownCap E.w s.size 0 e := by simp only [grownCap, Question.cut]; omega
  generalize grownCap E.w s.size 0 e = cap at hrun hcap
  have hsz : (bytesRow s cap).size = cap := by simp [bytesRow]; omega
  obtain ⟨i1, i2⟩ := fresh_arr (E := E.drew) (t := e) (id := id) (n := 1) (v := 0) (rows := byteRows s) (c := bytesRow s cap) (fr := ((bytesRow s cap).size, (bytesRow s cap).size + 1)) (drew_inv hI)
    (fun B hB => by rw [show E.drew.H = E.H from rfl, hH, hid] at hB; simp at hB) (fun i r hi => by
      simp only [byteRows, List.getElem?_map, Option.map_eq_some_iff] at hi
      obtain ⟨b, hb', rfl⟩ := hi
      have hi' : i < s.data.size := by have := (List.getElem?_eq_some_iff.1 hb').1; simpa using this
      refine ⟨rfl, [.int .u8 b.toNat], ⟨_, [], rfl, rfl, rfl⟩, by simp [Value.oneCell'], fun j hj => ?_⟩
      have hj0 : j = 0 := by simp at hj; omega
      subst hj0
      simp only [Nat.mul_one, Nat.add_zero, bytesRow]
      rw [Array.getElem?_append, if_pos (by simpa using hi'), Array.getElem?_map]
      have : s.data[i]? = some b := by simpa using hb'
      simp [this]) (by rw [byteRows_length, hsz]; omega) (.inr (Nat.le_refl _))
  have hex : (execOp a.eval o).run P E.w = .ok (.value (.slice (some ⟨E.w.heap.size, 0, none⟩) s.size cap)) (World.pushed E.drew.w (bytesRow s cap) e ((bytesRow s cap).size, (bytesRow s cap).size + 1)) := by
    simp only [execOp, hop, hxv, Sem.run_bind, hrun, Result.andThen_ok, Sem.run_pure]
    rfl
  unfold Oper.wp; rw [hex]
  exact hn _ _ (by simp [Env.put, Env.drew, hH]) i1 ((drew_le E).trans i2) (fresh_own (E := E.drew) (byteRows_length s) hcap (by rw [hsz]; omega))

/-- The cells of a slice. -/
theorem slice_rows {E : Env} (hI : Inv E) {x : AV} {v : Value} {ys : List (List AV)} {rd : List (Nat × Blk)} {n : Nat} (h : ysOf E.H x = some (ys, rd)) (hw : wFits E.H x n = true) (hs : isStrV x = false) (hx : CRel E x v) :
    ∃ a cap, v = .slice a ys.length cap ∧ (ys = [] ∨ ∃ b o, a = some ⟨b, o, none⟩ ∧ Rows E b o n ys) := by
  unfold ysOf at h
  split at h
  · rename_i id ver off len nz
    split at h <;> try (simp at h; done)
    rename_i k w rows hB
    split at h <;> try (simp at h; done)
    rename_i hv
    simp only [Option.some.injEq, Prod.mk.injEq] at h; obtain ⟨rfl, rfl⟩ := h
    have hk : k = n := by unfold wFits at hw; simp only [wOf, hB] at hw; simpa using hw
    subst hk
    obtain ⟨_, B, hB', _, hr⟩ := hx
    rw [hB] at hB'; simp only [Option.some.injEq] at hB'; subst hB'
    obtain ⟨hlen, hr⟩ := hr hv.symm
    simp only [Blk.rows, Blk.esz] at hlen hr
    have hl : ((rows.drop off).take len).length = len := by simp; omega
    rcases hr with ⟨cap, hlv, rfl, _, _⟩ | ⟨a, rfl, rfl, _⟩
    · obtain ⟨_, c, t, fr, _, _, _, hrel⟩ := hI.blk id _ hB hlv
      exact ⟨_, cap, by rw [hl], .inr ⟨_, _, rfl, Rows.take _ _ _ (Rows.drop _ _ _ hrel)⟩⟩
    · exact ⟨a, 0, by rw [hl], .inl (by simp)⟩
  · rename_i k xs nz0
    simp only [Option.some.injEq, Prod.mk.injEq] at h; obtain ⟨rfl, rfl⟩ := h
    have hk : k = n := by unfold wFits at hw; simp only [wOf] at hw; simpa using hw
    subst hk
    obtain ⟨a, cap, rfl, _, _, _, _, hr⟩ := hx
    exact ⟨a, cap, rfl, hr.imp id fun ⟨b, o, h1, _, _, _, h2⟩ => ⟨b, o, h1, DRows.up _ _ h2⟩⟩
  · simp only [Option.some.injEq, Prod.mk.injEq] at h; obtain ⟨rfl, rfl⟩ := h
    simp only [CRel] at hx; subst hx
    exact ⟨none, 0, rfl, .inl rfl⟩
  · simp [isStrV] at hs
  · simp at h

def rowBytes : List (List AV) → Option (List UInt8)
  | [] => some []
  | [.lit (.int .u8 n)] :: r => if 0 ≤ n ∧ n < 256 then match rowBytes r with | some bs => some (UInt8.ofNat n.toNat :: bs) | none => none else none
  | _ => none

theorem rowBytes_ok : ∀ (ys : List (List AV)) (bs : List UInt8), rowBytes ys = some bs → ys = bs.map fun b => [.lit (.int .u8 b.toNat)]
  | [], bs, h => by simp only [rowBytes, Option.some.injEq] at h; subst h; rfl
  | y :: r, bs, h => by
    unfold rowBytes at h
    split at h
    · rename_i he; simp at he
    · rename_i n r' he
      simp only [List.cons.injEq] at he; obtain ⟨rfl, rfl⟩ := he
      split at h <;> try (simp at h; done)
      rename_i hc
      split at h <;> try (simp at h; done)
      rename_i bs' hb
      simp only [Option.some.injEq] at h; subst h
      have ih := rowBytes_ok _ _ hb
      simp only [List.map_cons, ← ih]
      have h1 : ((UInt8.ofNat n.toNat).toNat : Int) = n := by
        have : n.toNat < 256 := by omega
        simp [UInt8.toNat_ofNat']; omega
      rw [h1]
    · simp at h

/-- string(b) -/
def convB (P : Program) (H : Hp) (l : List AV) (o : Oper) : Option (AV × List (Nat × Blk)) :=
  match o.op with
  | .convert src dst x => match ysOf H (aev l x), isBytes P src with
    | some (ys, rd), some _ =>
      if isStrT P dst = true ∧ wFits H (aev l x) 1 = true ∧ isStrV (aev l x) = false then
        match rowBytes ys with | some bs => some (.lit (.string ⟨bs.toArray⟩), rd) | none => none
      else none
    | _, _ => none
  | _ => none

theorem convB_ok {P : Program} {H : Hp} {l : List AV} {o : Oper} {v : AV} {rd : List (Nat × Blk)} (h : convB P H l o = some (v, rd)) : KOk P o l v (.m rd [] []) ∧ sees H rd := by
  unfold convB at h
  split at h <;> try (simp at h; done)
  rename_i src dst x hop
  split at h <;> try (simp at h; done)
  rename_i ys rd0 e hys hb
  split at h <;> try (simp at h; done)
  rename_i hk
  split at h <;> try (simp at h; done)
  rename_i bs hbs
  simp only [Option.some.injEq, Prod.mk.injEq] at h; obtain ⟨rfl, rfl⟩ := h
  obtain ⟨b1, b2, b3⟩ := isBytes_ok hb
  refine ⟨?_, ysOf_sees_self hys⟩
  rintro H1 ⟨_, hs⟩ l' hl' E a hH hI hl next Q hn
  have hxv := aev_ok hl x
  rw [hl' x (by rw [hop]; simp [Op.operands])] at hxv
  obtain ⟨q1, q2⟩ := ysOf_sees hys hs
  obtain ⟨a0, cap, hv, hr⟩ := slice_rows (n := 1) hI (by rw [hH]; exact q1) (by rw [hH]; unfold wFits; rw [q2]; exact hk.2.1) hk.2.2 hxv
  have hyb := rowBytes_ok ys bs hbs
  have hlen : ys.length = bs.length := by rw [hyb]; simp
  have hrun : (convert src dst (a.eval x)).run P E.w = .ok (.string ⟨bs.toArray⟩) E.w := by
    rw [hv, hlen]
    rcases hr with h0 | ⟨b, o', rfl, hr⟩
    · have hb0 : bs = [] := by cases bs with
        | nil => rfl
        | cons b r => rw [hyb] at h0; simp at h0
      subst hb0
      cases a0 with
      | none => simp [convert, run_und b1, run_und b2, run_und (isStrT_ok hk.1), Conv.bytesToString]; rfl
      | some a1 => exact run_convert_bytes_back E.w src dst e a1 cap [] b1 b2 (isStrT_ok hk.1) (fun j hj => absurd hj (Nat.not_lt_zero j))
    · refine run_convert_bytes_back E.w src dst e _ cap bs b1 b2 (isStrT_ok hk.1) fun j hj => ?_
      have hj' : ys[j]? = some [.lit (.int .u8 bs[j].toNat)] := by rw [hyb]; simp [hj]
      obtain ⟨_, hat⟩ := Rows.get _ _ j _ hr hj'
      obtain ⟨y, y1, y2⟩ := At.get _ _ 0 _ hat rfl
      simp only [CRel] at y2; subst y2
      rw [Addr.add_none]; simpa using y1
  have hex : (execOp a.eval o).run P E.w = .ok (.value (.string ⟨bs.toArray⟩)) E.w := by
    simp only [execOp, hop, Sem.run_bind, hrun, Result.andThen_ok, Sem.run_pure]
  unfold Oper.wp; rw [hex]
  exact hn E _ hH hI (Le.refl E) rfl

end Go.Am
end PartAmConv

section PartAmMake
/- make of a slice, a full slice expression, copy. -/
namespace Go.Am
open Go

def intOf : AV → Option Int
  | .lit (.int _ i) => some i
  | _ => none

/-- make([]T, n) -/
def makeOp (P : Program) (l : List AV) (id : Nat) (o : Oper) : Option (AV × Blk) :=
  match o.op with
  | .makeSlice t len cap => match P.underlying t, intOf (aev l len), intOf (aev l cap) with
    | some (.slice e), some n, some c => match P.info? e, pureRun P (zeroValue e) with
      | some i, some z =>
        if n = c ∧ 0 ≤ n ∧ n < 2 ^ 62 ∧ ((i.bytes : Int) * n ≤ 2 ^ 48) ∧ z.cells.size = i.size ∧ z.cells.toList.all Value.oneCell' = true then
          some (.own id 0 0 n.toNat true, .arr i.size 0 (List.replicate n.toNat (z.cells.toList.map .lit)))
        else none
      | _, _ => none
    | _, _, _ => none
  | _ => none

theorem wrap64 {n : Int} (h0 : 0 ≤ n) (h : n < 2 ^ 62) : IntKind.i64.wrap n = n := by
  unfold IntKind.wrap
  simp only [IntKind.signed, IntKind.bits]
  simp [Int.bmod]
  omega

theorem makeOp_ok {P : Program} {l : List AV} {id : Nat} {o : Oper} {v : AV} {B : Blk} (h : makeOp P l id o = some (v, B)) {H : Hp} (hid : H id = none) : OOk P o l H v (upd H id B) := by
  intro E a hH hI hl next Q hn
  unfold makeOp at h
  split at h <;> try (simp at h; done)
  rename_i t len cap hop
  split at h <;> try (simp at h; done)
  rename_i e n c hu h1 h2
  split at h <;> try (simp at h; done)
  rename_i i z hi hz
  split at h <;> try (simp at h; done)
  rename_i hk
  obtain ⟨rfl, hn0, hn1, hby, hsz, hone⟩ := hk
  simp only [Option.some.injEq, Prod.mk.injEq] at h; obtain ⟨rfl, rfl⟩ := h
  have ev : ∀ (x : Operand) (m : Int), intOf (aev l x) = some m → ∃ k, a.eval x = .int k m := by
    intro x m hm
    have hx := aev_ok hl x
    unfold intOf at hm
    split at hm <;> try (simp at hm; done)
    rename_i av k j hav
    simp only [Option.some.injEq] at hm; subst hm
    rw [hav] at hx; exact ⟨k, hx⟩
  obtain ⟨k1, e1⟩ := ev len n h1
  obtain ⟨k2, e2⟩ := ev cap n h2
  have hw := wrap64 hn0 hn1
  have hti : ∀ w, (typeInfo e).run P w = .ok i w := fun w => by simp [typeInfo, hi]
  have hs : szOf P e = some i.size := by simp [szOf, hi]
  have hnt : ¬ ((n < 0) ∨ (i.bytes : Int) * n > 2 ^ 48) := by omega
  obtain ⟨i1, i2⟩ := fresh_arr (E := E) (fr := (0, 0)) (t := e) (id := id) (n := i.size) (v := 0) (rows := List.replicate n.toNat (z.cells.toList.map .lit)) (c := (Array.range (n.toNat * i.size)).map fun k => if n.toNat * i.size = 0 then undef else z.cells[k % z.cells.size]!) hI
    (fun B hB => by rw [hH, hid] at hB; simp at hB) (fun j r hr => by
      rw [List.getElem?_replicate] at hr
      split at hr <;> try (simp at hr; done)
      rename_i hj
      simp only [Option.some.injEq] at hr; subst hr
      refine ⟨by simp [hsz], z.cells.toList, Cs.lits _, fun v hv => List.all_eq_true.1 hone v hv, fun m hm => ?_⟩
      have hm' : m < i.size := by rw [← hsz]; simpa using hm
      have hlt : j * i.size + m < n.toNat * i.size := by
        have : (j + 1) * i.size ≤ n.toNat * i.size := Nat.mul_le_mul_right _ hj
        rw [Nat.succ_mul] at this; omega
      have hne : ¬ n.toNat * i.size = 0 := by omega
      have hmod : (j * i.size + m) % i.size = m := by rw [Nat.mul_comm, Nat.mul_add_mod]; exact Nat.mod_eq_of_lt hm'
      rw [Array.getElem?_map, Array.getElem?_range, if_pos hlt]
      simp only [Option.map_some, hne, if_false, hsz, hmod]
      rw [Array.getElem?_toList, getElem!_pos z.cells m (by rw [hsz]; exact hm'), Array.getElem?_eq_getElem (by rw [hsz]; exact hm')]) (by simp)
  have hrun : (execOp a.eval o).run P E.w = .ok (.value (.slice (some ⟨E.w.heap.size, 0, none⟩) n.toNat n.toNat)) (World.pushed E.w ((Array.range (n.toNat * i.size)).map fun k => if n.toNat * i.size = 0 then undef else z.cells[k % z.cells.size]!) e) := by
    have hc1 : ((decide (n < 0) || decide ((i.bytes : Int) * n > 2 ^ 48)) || decide (n < 0) || decide (n > n)) = false := by
      simp only [Bool.or_eq_false_iff, decide_eq_false_iff_not]; omega
    by_cases h0 : n.toNat * i.size = 0
    · have er : Array.range 0 = (#[] : Array Nat) := rfl
      simp only [execOp, hop, Instr.makeSlice, Sem.run_bind, run_und hu, Result.andThen_ok, e1, e2, asInt, asIntOf, hti, Sem.run_pure, hw, hc1, Bool.false_eq_true, if_false, run_askRoom, run_szOf hs, h0, if_true, er, Array.map_empty, run_newRow]
    · simp only [execOp, hop, Instr.makeSlice, Sem.run_bind, run_und hu, Result.andThen_ok, e1, e2, asInt, asIntOf, hti, Sem.run_pure, hw, hc1, Bool.false_eq_true, if_false, run_askRoom, run_szOf hs, h0, pureRun_ok _ hz, run_newRow]
  unfold Oper.wp; rw [hrun]
  exact hn _ _ (by simp [Env.put, hH]) i1 i2 (fresh_own (by simp) (Nat.le_refl _) (by simp))

end Go.Am
end PartAmMake
