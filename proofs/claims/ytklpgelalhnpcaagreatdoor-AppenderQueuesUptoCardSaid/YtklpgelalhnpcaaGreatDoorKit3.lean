/- Own rules for runs over blocks that the run made itself (values told by shape, the heap by numbered blocks): part 3. No condition; nothing of the program but its types and functions as they are given. -/
import Derived.Test.YtklpgelalhnpcaaGreatDoorKit2
import Derived.Laws.Cover3
import Derived.Test.YtklpgelalhnpcaaGreatDoorKit1
set_option linter.all false

section PartAmCopy
/- copy; a full slice expression. -/
namespace Go.Am
open Go

/-- Rows written over. -/
def overRows (rows ys : List (List AV)) (off : Nat) : List (List AV) := rows.take off ++ ys ++ rows.drop (off + ys.length)

theorem overRows_length {rows ys : List (List AV)} {off : Nat} (h : off + ys.length ≤ rows.length) : (overRows rows ys off).length = rows.length := by
  simp [overRows]; omega

theorem overRows_get {rows ys : List (List AV)} {off : Nat} (h : off + ys.length ≤ rows.length) (i : Nat) : (overRows rows ys off)[i]? = if off ≤ i ∧ i < off + ys.length then ys[i - off]? else rows[i]? := by
  unfold overRows
  rw [List.append_assoc, List.getElem?_append, List.length_take, Nat.min_eq_left (by omega)]
  by_cases h1 : i < off
  · rw [if_pos h1, if_neg (by omega), List.getElem?_take, if_pos h1]
  · rw [if_neg h1, List.getElem?_append]
    by_cases h2 : i - off < ys.length
    · rw [if_pos h2, if_pos (by omega)]
    · rw [if_neg h2, if_neg (by omega), List.getElem?_drop]
      congr 1; omega

/-- Rows of a block of one's own are written over. -/
theorem over_ok {E : Env} (hI : Inv E) {id n v off : Nat} {rows ys : List (List AV)} {vs : List Value} (hB : E.H id = some (.arr n v rows)) (hl : E.live id) (hys : ∀ r ∈ ys, r.length = n) (hc : Cs E ys.flatten vs) (h1v : ∀ x ∈ vs, x.oneCell' = true) (ho : off + ys.length ≤ rows.length) :
    Inv (E.put id (.arr n v (overRows rows ys off)) (E.addr id) (setCells E.w (E.addr id).block ((E.addr id).off + off * n) vs)) ∧
    Le E (E.put id (.arr n v (overRows rows ys off)) (E.addr id) (setCells E.w (E.addr id).block ((E.addr id).off + off * n) vs)) := by
  obtain ⟨hsp, c, t, fr, hblk, hfr, hsz, hrel⟩ := hI.blk id _ hB hl
  simp only [Blk.rows, Blk.esz] at hsz
  have hrel' : Rows E (E.addr id).block (E.addr id).off n rows := hrel
  have hvl : vs.length = ys.length * n := by
    have := Cs.length _ _ hc
    rw [flatten_length _ hys] at this; exact this
  have hm : (off + ys.length) * n ≤ rows.length * n := Nat.mul_le_mul_right _ ho
  have e1 : (off + ys.length) * n = off * n + ys.length * n := Nat.add_mul _ _ _
  obtain ⟨f1, f2, f3, f4, f5⟩ := setCells_fields (E.addr id).block vs E.w ((E.addr id).off + off * n)
  obtain ⟨c', g1, g2, g3⟩ := setCells_at (E.addr id).block vs E.w ((E.addr id).off + off * n) c t fr hblk (by omega)
  have g3a : ∀ x, (E.addr id).off + off * n ≤ x → x < (E.addr id).off + off * n + vs.length → c'[x]? = vs[x - ((E.addr id).off + off * n)]? := fun x h1 h2 => by rw [g3, if_pos ⟨h1, h2⟩]
  have g3b : ∀ x, (x < (E.addr id).off + off * n ∨ (E.addr id).off + off * n + vs.length ≤ x) → c'[x]? = c[x]? := fun x h1 => by rw [g3, if_neg (by omega)]
  clear g3
  have hbs : bsz (setCells E.w (E.addr id).block ((E.addr id).off + off * n) vs) (E.addr id).block = bsz E.w (E.addr id).block := by
    unfold bsz; rw [g1, hblk]; exact g2
  have hp : PutOk E id (.arr n v (overRows rows ys off)) (E.addr id) (setCells E.w (E.addr id).block ((E.addr id).off + off * n) vs) := {
    os := f1
    tape := f2
    output := f3
    size := Nat.le_of_eq f4.symm
    keep := fun b _ hn => f5 b fun hb => hn ⟨_, hB, hl, hb.symm⟩
    place := .inr ⟨_, hB, hl, rfl⟩
    ver := fun B0 h0 => by
      rw [hB] at h0; simp only [Option.some.injEq] at h0; subst h0
      exact .inr ⟨rfl, rfl, overRows_length ho, fun _ => ⟨rfl, hbs⟩⟩ }
  have hL := put_le hI hp
  refine ⟨put_inv hI hp hsp ⟨c', t, fr, g1, by rw [g2]; exact hfr, ?_⟩ ?_, hL⟩
  · simp only [Blk.rows, Blk.esz]; rw [overRows_length ho, g2]; exact hsz
  · show Rows _ (E.addr id).block (E.addr id).off n (overRows rows ys off)
    rw [Rows_iff]
    intro i e hi
    have hcell : ∀ y, (E.put id (.arr n v (overRows rows ys off)) (E.addr id) (setCells E.w (E.addr id).block ((E.addr id).off + off * n) vs)).w.cell? ⟨(E.addr id).block, y, none⟩ = c'[y]? := fun y => cell_of_block g1
    rw [overRows_get ho] at hi
    by_cases hin : off ≤ i ∧ i < off + ys.length
    · rw [if_pos hin] at hi
      have hel : e.length = n := hys e (List.mem_of_getElem? hi)
      have hfe := flatten_get ys (i - off) e hys hi
      refine ⟨hel, ?_⟩
      rw [At_iff]
      intro j d hj
      have hjl : j < n := by have := (List.getElem?_eq_some_iff.1 hj).1; omega
      have hmul : (i - off + 1) * n ≤ ys.length * n := Nat.mul_le_mul_right _ (by omega)
      have hsm : (i - off + 1) * n = (i - off) * n + n := Nat.succ_mul _ _
      have hin' : i * n = off * n + (i - off) * n := by rw [← Nat.add_mul, show off + (i - off) = i from by omega]
      have hj' : ys.flatten[(i - off) * n + j]? = some d := by
        rw [← hfe, List.getElem?_take, if_pos hjl, List.getElem?_drop] at hj; exact hj
      obtain ⟨u, k1, k2⟩ := Cs.get? _ _ _ _ hc hj'
      refine ⟨u, ?_, h1v u (List.mem_of_getElem? k1), CRel.mono hI hL _ _ k2⟩
      rw [hcell, g3a _ (by omega) (by omega), ← k1]; congr 1; omega
    · rw [if_neg hin] at hi
      obtain ⟨k1, k2⟩ := (Rows_iff _ _).1 hrel' i e hi
      refine ⟨k1, ?_⟩
      rw [At_iff] at k2 ⊢
      intro j d hj
      obtain ⟨u, m1, m0, m2⟩ := k2 j d hj
      have hjl : j < n := by have := (List.getElem?_eq_some_iff.1 hj).1; omega
      refine ⟨u, ?_, m0, CRel.mono hI hL _ _ m2⟩
      rw [hcell, g3b]
      · rw [cell_of_block hblk] at m1; exact m1
      · rcases Nat.lt_or_ge i off with h | h
        · have : (i + 1) * n ≤ off * n := Nat.mul_le_mul_right _ h
          have hsm : (i + 1) * n = i * n + n := Nat.succ_mul _ _
          omega
        · have : (off + ys.length) * n ≤ i * n := Nat.mul_le_mul_right _ (by omega)
          omega

def copyOp (P : Program) (H : Hp) (l : List AV) (o : Oper) : Option (AV × K) :=
  match o.op with
  | .call { callee := .builtin .copy, args, argTypes } =>
    match args.toList, argTypes.toList with
    | [x, y], st :: _ =>
      match sliceElem P st, ysOf H (aev l y), aev l x with
      | some n, some (ys, rd), .own id ver off len nz => match H id with
        | some (.arr k v rows) =>
          if v = ver ∧ k = n ∧ wFits H (aev l y) n = true ∧ isStrV (aev l y) = false then
            some (.lit (.int .i64 (min ys.length len : Nat)), .s id (.arr k v rows) (.arr k v (overRows rows (ys.take (min ys.length len)) off)) rd)
          else none
        | _ => none
      | _, _, _ => none
    | _, _ => none
  | _ => none

theorem copy_run {P : Program} {a : Act} {o : Oper} {args : Array Operand} {ts : Array TypeId} (hop : o.op = .call { callee := .builtin .copy, args := args, argTypes := ts }) {x y : Operand} {st : TypeId} {tr : List TypeId} (ha : args.toList = [x, y]) (ht : ts.toList = st :: tr)
    {n m dLen dCap sCap : Nat} {base sb : Option Addr} {w w' : World} {vs : Array Value} (hst : sliceElem P st = some n) (hx : a.eval x = .slice base dLen dCap) (hy : a.eval y = .slice sb m sCap)
    (hc : (Builtin.firstCells n (min m dLen) (.slice sb m sCap)).run P w = .ok vs w) (hs : (match base with | some b => storeCells b vs.toList | none => pure ()).run P w = .ok () w') :
    (execOp a.eval o).run P w = .ok (.value (.int .i64 (min m dLen : Nat))) w' := by
  have e1 : args = #[x, y] := by apply Array.ext'; simpa using ha
  have e2 : ts = (st :: tr).toArray := by apply Array.ext'; simpa using ht
  subst e1 e2
  unfold sliceElem at hst
  split at hst <;> try (simp at hst; done)
  rename_i elem hu
  have hsz := run_szOf (P := P) hst
  have hmin : Nat.min m dLen = min m dLen := rfl
  cases base with
  | none =>
    simp only [Sem.run_pure, Result.ok.injEq, true_and] at hs; subst hs
    simp [execOp, hop, resolve, invoke, builtin, Builtin.copy_, run_und hu, hx, hy, Builtin.lenOf, hsz, hmin, hc, goInt]
  | some b =>
    simp only at hs
    simp [execOp, hop, resolve, invoke, builtin, Builtin.copy_, run_und hu, hx, hy, Builtin.lenOf, hsz, hmin, hc, hs, goInt]

theorem copyOp_ok {P : Program} {H : Hp} {l : List AV} {o : Oper} {v : AV} {k : K} (h : copyOp P H l o = some (v, k)) : KOk P o l v k ∧ k.ph H := by
  unfold copyOp at h
  split at h <;> try (simp at h; done)
  rename_i args ts hop
  split at h <;> try (simp at h; done)
  rename_i x y st tr hx hy
  split at h <;> try (simp at h; done)
  rename_i n ys rd id ver off len nz hst hys hav
  split at h <;> try (simp at h; done)
  rename_i k0 v0 rows hB
  split at h <;> try (simp at h; done)
  rename_i hc
  obtain ⟨rfl, rfl, hw, hns⟩ := hc
  simp only [Option.some.injEq, Prod.mk.injEq] at h; obtain ⟨rfl, rfl⟩ := h
  have hmx : x ∈ o.op.operands := by
    rw [hop]; simp only [Op.operands, Call.operands]; simp
    have : x ∈ args.toList := by rw [hx]; simp
    simpa using this
  have hmy : y ∈ o.op.operands := by
    rw [hop]; simp only [Op.operands, Call.operands]; simp
    have : y ∈ args.toList := by rw [hx]; simp
    simpa using this
  refine ⟨?_, hB, ysOf_sees_self hys⟩
  rintro H1 ⟨hf, hs⟩ l' hl' E a hH hI hl next Q hn
  have hxv := aev_ok hl x
  rw [hl' x hmx, hav] at hxv
  have hyv := aev_ok hl y
  rw [hl' y hmy] at hyv
  obtain ⟨_, B, hB', _, hr⟩ := hxv
  have hEB : E.H id = some (.arr k0 v0 rows) := by rw [hH]; exact hf
  rw [hEB] at hB'; simp only [Option.some.injEq] at hB'; subst hB'
  obtain ⟨hlen, hr⟩ := hr rfl
  simp only [Blk.rows, Blk.esz] at hlen hr
  obtain ⟨q1, q2⟩ := ysOf_sees hys hs
  obtain ⟨sb, sCap, hvy, hrows⟩ := slice_rows (n := k0) hI (by rw [hH]; exact q1) (by rw [hH]; unfold wFits; rw [q2]; exact hw) hns hyv
  have hm : (ys.take (min ys.length len)).length = min ys.length len := by rw [List.length_take]; omega
  have hcells : (∀ r ∈ ys.take (min ys.length len), r.length = k0) ∧ ∃ vs : Array Value, Cs E (ys.take (min ys.length len)).flatten vs.toList ∧ (∀ v ∈ vs.toList, v.oneCell' = true) ∧ (Builtin.firstCells k0 (min ys.length len) (.slice sb ys.length sCap)).run P E.w = .ok vs E.w := by
    rcases hrows with rfl | ⟨b, o', rfl, hro⟩
    · refine ⟨by simp, #[], by simp [Cs], by simp, ?_⟩
      cases sb <;> simp [Builtin.firstCells, loadCells, loadCellsFrom]
    · have hd := Rows.take ys o' (min ys.length len) hro
      refine ⟨(Rows_flat _ _ hd).2, ?_⟩
      obtain ⟨vs, m1, m2, m3⟩ := loads_of (P := P) hd
      refine ⟨vs, m1, m2, ?_⟩
      have := m3 E.w rfl
      rw [hm] at this
      simp only [Builtin.firstCells]; exact this
  obtain ⟨hrl, vs, c1, c2, c3⟩ := hcells
  unfold Oper.wp
  rcases hr with ⟨cap, hlv, hsl, hcap, hroom⟩ | ⟨b, hsl, rfl, hoff⟩
  · obtain ⟨_, c, t, fr, hblk, hfr, hsz, hrel⟩ := hI.blk id _ hEB hlv
    simp only [Blk.rows, Blk.esz] at hsz
    have hvl : vs.size = (min ys.length len) * k0 := by
      have := Cs.length _ _ c1
      rw [flatten_length _ hrl, hm] at this; simpa using this
    have hmul : (off + min ys.length len) * k0 ≤ rows.length * k0 := Nat.mul_le_mul_right _ (by omega)
    have e1 : (off + min ys.length len) * k0 = off * k0 + (min ys.length len) * k0 := Nat.add_mul _ _ _
    have hst' := run_storeCells (P := P) (b := (E.addr id).block) (o := (E.addr id).off + off * k0) vs.toList E.w 0 c t fr hblk hfr (by simp; omega) c2
    rw [Nat.add_zero] at hst'
    obtain ⟨i1, i2⟩ := over_ok (off := off) hI hEB hlv hrl c1 c2 (by rw [hm]; omega)
    rw [copy_run hop hx hy hst hsl hvy c3 hst']
    exact hn _ _ (by simp [Env.put, hH, K.wr, upds]) i1 i2 rfl
  · have h0 : min ys.length 0 = 0 := by omega
    have hv0 : vs = #[] := by
      have := Cs.length _ _ c1
      rw [flatten_length _ hrl, hm, h0] at this; simpa using this
    subst hv0
    rw [copy_run hop hx hy hst hsl hvy c3 (w' := E.w) (by cases b <;> simp [storeCells])]
    refine hn E _ ?_ hI (Le.refl E) rfl
    rw [hH]
    funext i
    have hov : overRows rows (ys.take (min ys.length 0)) off = rows := by simp [overRows]
    simp only [K.wr, upds, hov, upd]
    split
    · rename_i e; subst e; exact hf
    · rfl

end Go.Am
end PartAmCopy

section PartAmFast
/- The commonest operations on known values, by a short road (the kernel is slow where a big definition is unfolded). -/
namespace Go.Am
open Go

/-- Integer operations that always give a value. -/
def fastBin (P : Program) (op : BinOp) (k : IntKind) (a b : Int) : Option Value :=
  match op with
  | .add | .sub | .mul => pureRun P (Op.intArith op k a b)
  | .eql | .neq | .lss | .leq | .gtr | .geq => pureRun P (Op.intCmp op a b)
  | _ => none

def fastA (P : Program) (l : List AV) (o : Oper) : Option AV :=
  match o.op with
  | .move x | .assign x => some (aev l x)
  | .binOp op _ x y _ => match aev l x, aev l y with
    | .lit (.int k a), .lit (.int k' b) => if k = k' then (match fastBin P op k a b with | some v => some (.lit v) | none => none) else none
    | _, _ => none
  | .pick c a b => pickOp (aev l c) (aev l a) (aev l b)
  | .extract x k => extractOp k (aev l x)
  | _ => none

theorem fastA_env {P : Program} {l l' : List AV} {o : Oper} (h : ∀ x ∈ o.op.operands, aev l' x = aev l x) : fastA P l' o = fastA P l o := by
  unfold fastA
  split
  · rename_i x hop; rw [h x (by rw [hop]; simp [Op.operands])]
  · rename_i x hop; rw [h x (by rw [hop]; simp [Op.operands])]
  · rename_i op t x y ty hop; rw [h x (by rw [hop]; simp [Op.operands]), h y (by rw [hop]; simp [Op.operands])]
  · rename_i c a b hop; rw [h c (by rw [hop]; simp [Op.operands]), h a (by rw [hop]; simp [Op.operands]), h b (by rw [hop]; simp [Op.operands])]
  · rename_i x k hop; rw [h x (by rw [hop]; simp [Op.operands])]
  · rfl

theorem fastA_q {P : Program} {H : Nat → Option Blk} {l : List AV} {o : Oper} {v : AV} (h : fastA P l o = some v) : QOk P o l H v := by
  intro E a hH hI hl
  unfold fastA at h
  split at h
  · rename_i x hop
    simp only [Option.some.injEq] at h; subst h
    exact ⟨a.eval x, by simp [execOp, hop], aev_ok hl x⟩
  · rename_i x hop
    simp only [Option.some.injEq] at h; subst h
    exact ⟨a.eval x, by simp [execOp, hop], aev_ok hl x⟩
  · rename_i op t x y ty hop
    split at h <;> try (simp at h; done)
    rename_i k i k' j hx hy
    split at h <;> try (simp at h; done)
    rename_i hk; subst hk
    split at h <;> try (simp at h; done)
    rename_i u hu
    simp only [Option.some.injEq] at h; subst h
    have ex := aev_ok hl x
    have ey := aev_ok hl y
    rw [hx] at ex; rw [hy] at ey
    simp only [CRel] at ex ey
    refine ⟨u, ?_, rfl⟩
    unfold fastBin at hu
    have hg : (eqGuard op t x y (.int k i) (.int k j)).run P E.w = .ok () E.w := by
      unfold eqGuard; cases op <;> rfl
    have hb : (binOp op t (.int k i) (.int k j)).run P E.w = .ok u E.w := by
      split at hu
      all_goals first
        | (simp at hu; done)
        | (have := pureRun_ok _ hu E.w; simpa [binOp] using this)
    simp only [execOp, hop, ex, ey, Sem.run_bind, hg, Result.andThen_ok, hb, Sem.run_pure]
  · rename_i c x y hop
    have hc := aev_ok hl c
    unfold pickOp at h
    split at h <;> try (simp at h; done)
    · rename_i hav
      rw [hav] at hc; simp only [CRel] at hc
      simp only [Option.some.injEq] at h; subst h
      exact ⟨a.eval x, by simp [execOp, hop, hc, asBool], aev_ok hl x⟩
    · rename_i hav
      rw [hav] at hc; simp only [CRel] at hc
      simp only [Option.some.injEq] at h; subst h
      exact ⟨a.eval y, by simp [execOp, hop, hc, asBool], aev_ok hl y⟩
  · rename_i x k hop
    obtain ⟨y, hr, hc⟩ := extractOp_ok (P := P) h (aev_ok hl x)
    exact ⟨y, by simp [execOp, hop, hr], hc⟩
  · simp at h

theorem fastA_ok {P : Program} {l : List AV} {o : Oper} {v : AV} (h : fastA P l o = some v) : KOk P o l v .p :=
  fun H _ l' hl' => OOk.of_q (fastA_q (by rw [fastA_env hl']; exact h))

end Go.Am
end PartAmFast

section PartAmMark
/- A conversion of bytes to bytes: the place behind the block is marked. -/
namespace Go.Am
open Go

def markW (w : World) (b n : Nat) : World := w.freeze ⟨b, n, none⟩ 1

theorem mark_heap {w : World} {b n : Nat} {c : Array Value} {t : TypeId} {fr : Nat × Nat} (h : w.heap[b]? = some (.cells c t fr)) :
    (markW w b n).heap[b]? = some (.cells c t (if fr.1 == fr.2 then (n, n + 1) else (min fr.1 n, max fr.2 (n + 1)))) := by
  simp [markW, World.freeze, Array.getElem?_modify, h]

theorem mark_other {w : World} {b b' n : Nat} (h : b' ≠ b) : (markW w b n).heap[b']? = w.heap[b']? := by
  simp [markW, World.freeze, Array.getElem?_modify, Ne.symm h]

/-- The view in the world that is marked. -/
def Env.marked (E : Env) (b n : Nat) : Env := ⟨E.H, E.addr, E.live, E.S, markW E.w b n⟩

theorem marked_ok {E : Env} (hI : Inv E) {id : Nat} {B : Blk} (hB : E.H id = some B) (hl : E.live id) {c : Array Value} {t : TypeId} {fr : Nat × Nat} (hblk : E.w.heap[(E.addr id).block]? = some (.cells c t fr)) :
    Inv (E.marked (E.addr id).block c.size) ∧ Le E (E.marked (E.addr id).block c.size) := by
  have hown : Owned E (E.addr id).block := ⟨id, B, hl, hB, rfl⟩
  have hbs : bsz (markW E.w (E.addr id).block c.size) (E.addr id).block = bsz E.w (E.addr id).block := by
    unfold bsz; rw [mark_heap hblk, hblk]
  have hsize : (markW E.w (E.addr id).block c.size).heap.size = E.w.heap.size := by simp [markW, World.freeze]
  have hbsz : ∀ b, bsz (markW E.w (E.addr id).block c.size) b = bsz E.w b := fun b => by
    by_cases e : b = (E.addr id).block
    · rw [e]; exact hbs
    · exact bsz_congr (mark_other e)
  have hcell : ∀ b o, (markW E.w (E.addr id).block c.size).cell? ⟨b, o, none⟩ = E.w.cell? ⟨b, o, none⟩ := fun b o => by
    by_cases e : b = (E.addr id).block
    · rw [e, cell_of_block (mark_heap hblk), cell_of_block hblk]
    · exact cell_congr (mark_other e)
  have hL : Le E (E.marked (E.addr id).block c.size) := {
    os := rfl
    tape := rfl
    output := rfl
    osub := fun _ _ h => h
    size := Nat.le_of_eq hsize.symm
    keep := fun b _ hn => mark_other fun e => hn (e ▸ hown)
    sub := fun _ _ h => h
    sup := fun _ h => h
    ids := fun i C hC => ⟨C, hC, Nat.le_refl _, fun _ => ⟨rfl, rfl, fun hl => ⟨hl, rfl, hbsz _⟩⟩⟩ }
  refine ⟨{
    owned := hI.owned
    small := fun b hb => by
      show b < (markW E.w (E.addr id).block c.size).heap.size
      rw [hsize]; exact hI.small b hb
    blk := fun i C hC hl' => by
      obtain ⟨h1, c', t', fr', h2, h3, h4, h5⟩ := hI.blk i C hC hl'
      have hat : ∀ (cs : List AV) (b o : Nat), At E b o cs → At (E.marked (E.addr id).block c.size) b o cs := fun cs b o h => by
        rw [At_iff] at h ⊢
        intro j d hj
        obtain ⟨y, k1, k0, k2⟩ := h j d hj
        exact ⟨y, (hcell _ _).trans k1, k0, CRel.mono hI hL _ _ k2⟩
      have hbrel : BRel (E.marked (E.addr id).block c.size) (E.addr i).block (E.addr i).off C := by
        cases C with
        | box v e => exact hat _ _ _ h5
        | arr n v rows =>
          have h5' : Rows E (E.addr i).block (E.addr i).off n rows := h5
          show Rows _ _ _ n rows
          rw [Rows_iff] at h5' ⊢
          intro k e hk
          exact ⟨(h5' k e hk).1, hat _ _ _ (h5' k e hk).2⟩
      by_cases e : (E.addr i).block = (E.addr id).block
      · rw [e] at h2
        rw [hblk] at h2; simp only [Option.some.injEq, Obj.cells.injEq] at h2
        obtain ⟨rfl, rfl, rfl⟩ := h2
        refine ⟨h1, c, t, _, by rw [show (E.marked (E.addr id).block c.size).addr i = E.addr i from rfl, e]; exact mark_heap hblk, ?_, h4, hbrel⟩
        right
        rcases h3 with h3 | h3
        · simp [h3]
        · split
          · exact Nat.le_refl _
          · simp only; omega
      · exact ⟨h1, c', t', fr', (mark_other e).trans h2, h3, h4, hbrel⟩
    inj := hI.inj }, hL⟩

/-- []byte(b) of bytes. -/
def convF (P : Program) (H : Hp) (l : List AV) (o : Oper) : Option (AV × Nat × Nat × Nat) :=
  match o.op with
  | .convert src dst x => match aev l x, isBytes P src with
    | .own id ver off len nz, some _ => match H id with
      | some B => if src = dst ∧ B.ver = ver ∧ 0 < len then some (.own id ver off len nz, id, ver, B.esz) else none
      | none => none
    | _, _ => none
  | _ => none

theorem convF_ok {P : Program} {H : Hp} {l : List AV} {o : Oper} {v : AV} {id ver esz : Nat} (h : convF P H l o = some (v, id, ver, esz)) : KOk P o l v (.h id ver esz) ∧ (K.h id ver esz).ph H := by
  unfold convF at h
  split at h <;> try (simp at h; done)
  rename_i src dst x hop
  split at h <;> try (simp at h; done)
  rename_i id' ver' off len nz e hx hb
  split at h <;> try (simp at h; done)
  rename_i B hB
  split at h <;> try (simp at h; done)
  rename_i hc
  obtain ⟨rfl, hv, hlen⟩ := hc
  simp only [Option.some.injEq, Prod.mk.injEq] at h; obtain ⟨rfl, rfl, rfl, rfl⟩ := h
  obtain ⟨b1, b2, b3⟩ := isBytes_ok hb
  refine ⟨?_, B, hB, hv, rfl⟩
  rintro H1 ⟨B1, g1, g2, g3⟩ l' hl' E a hH hI hl next Q hn
  have hxv := aev_ok hl x
  rw [hl' x (by rw [hop]; simp [Op.operands]), hx] at hxv
  have hxv' := hxv
  obtain ⟨_, C, hC, _, hr⟩ := hxv
  rw [hH, g1] at hC; simp only [Option.some.injEq] at hC; subst hC
  obtain ⟨_, hr⟩ := hr g2.symm
  rcases hr with ⟨cap, hlv, hsl, _, _⟩ | ⟨_, _, h0, _⟩
  · obtain ⟨_, c, t, fr, hblk, _, _, _⟩ := hI.blk id' B1 (by rw [hH]; exact g1) hlv
    obtain ⟨i1, i2⟩ := marked_ok hI (by rw [hH]; exact g1) hlv hblk
    have hsh : E.w.shape? (E.addr id').block = some (t, c.size) := by simp [World.shape?, hblk]
    have hex : (execOp a.eval o).run P E.w = .ok (.value (a.eval x)) (markW E.w (E.addr id').block c.size) := by
      simp only [execOp, hop, hsl, convert, Sem.run_bind, run_und b1, run_und b2, Result.andThen_ok, beq_self_eq_true, markStringish, run_shape, hsh, run_freeze, Sem.run_pure]
      rfl
    unfold Oper.wp; rw [hex]
    exact hn (E.marked (E.addr id').block c.size) _ hH i1 i2 (CRel.mono hI i2 _ _ hxv')
  · omega

end Go.Am
end PartAmMark

section PartAmNil
/- Is a slice of one's own nil? -/
namespace Go.Am
open Go

/-- A slice with elements is not nil. -/
def nilOp (P : Program) (H : Hp) (l : List AV) (o : Oper) : Option (AV × Nat × Nat × Nat) :=
  match o.op with
  | .binOp op t x y _ => match aev l x, aev l y, sliceElem P t with
    | .own id ver _ len nz, .lit (.slice none 0 0), some _ => match H id, op with
      | some B, .eql => if B.ver = ver ∧ (0 < len ∨ nz = true) then some (.lit (.bool false), id, ver, B.esz) else none
      | some B, .neq => if B.ver = ver ∧ (0 < len ∨ nz = true) then some (.lit (.bool true), id, ver, B.esz) else none
      | _, _ => none
    | _, _, _ => none
  | _ => none

theorem nilOp_ok {P : Program} {H : Hp} {l : List AV} {o : Oper} {v : AV} {id ver esz : Nat} (h : nilOp P H l o = some (v, id, ver, esz)) : KOk P o l v (.h id ver esz) ∧ (K.h id ver esz).ph H := by
  unfold nilOp at h
  split at h <;> try (simp at h; done)
  rename_i op t x y ty hop
  split at h <;> try (simp at h; done)
  rename_i id' ver' off len nz n hx hy hn
  have hu : ∃ e, P.underlying t = some (.slice e) := by
    unfold sliceElem at hn
    split at hn <;> try (simp at hn; done)
    rename_i e hu; exact ⟨e, hu⟩
  obtain ⟨e, hu⟩ := hu
  have key : ∀ B, H id' = some B → B.ver = ver' → (0 < len ∨ nz = true) → ∀ (bb : Bool), (op = .eql ∧ bb = false) ∨ (op = .neq ∧ bb = true) → KOk P o l (.lit (.bool bb)) (.h id' ver' B.esz) ∧ (K.h id' ver' B.esz).ph H := by
    intro B hB hv hlen bb hb
    refine ⟨?_, B, hB, hv, rfl⟩
    rintro H1 ⟨B1, g1, g2, g3⟩ l' hl' E a hH hI hl next Q hnx
    have hxv := aev_ok hl x
    rw [hl' x (by rw [hop]; simp [Op.operands]), hx] at hxv
    have hyv := aev_ok hl y
    rw [hl' y (by rw [hop]; simp [Op.operands]), hy] at hyv
    simp only [CRel] at hyv
    obtain ⟨_, C, hC, _, hr⟩ := hxv
    rw [hH, g1] at hC; simp only [Option.some.injEq] at hC; subst hC
    obtain ⟨_, hr⟩ := hr g2.symm
    rcases hr with ⟨cap, hlv, hsl, _, _⟩ | ⟨b, hsl, h0, _, hz⟩
    · have hex : (execOp a.eval o).run P E.w = .ok (.value (.bool bb)) E.w := by
        rcases hb with ⟨rfl, rfl⟩ | ⟨rfl, rfl⟩ <;>
          simp [execOp, hop, hsl, hyv, eqGuard, binOp, run_equal_slice_nil E.w t e _ _ _ hu]
      unfold Oper.wp; rw [hex]
      exact hnx E _ hH hI (Le.refl E) rfl
    · have hnb : b ≠ none := hlen.elim (fun h => by omega) hz
      obtain ⟨q, rfl⟩ := Option.ne_none_iff_exists'.1 hnb
      have hex : (execOp a.eval o).run P E.w = .ok (.value (.bool bb)) E.w := by
        rcases hb with ⟨rfl, rfl⟩ | ⟨rfl, rfl⟩ <;>
          simp [execOp, hop, hsl, hyv, eqGuard, binOp, run_equal_slice_nil E.w t e _ _ _ hu]
      unfold Oper.wp; rw [hex]
      exact hnx E _ hH hI (Le.refl E) rfl
  split at h <;> try (simp at h; done)
  · rename_i B hB
    split at h <;> try (simp at h; done)
    rename_i hc
    simp only [Option.some.injEq, Prod.mk.injEq] at h; obtain ⟨rfl, rfl, rfl, rfl⟩ := h
    exact key B hB hc.1 hc.2 false (.inl ⟨rfl, rfl⟩)
  · rename_i B hB
    split at h <;> try (simp at h; done)
    rename_i hc
    simp only [Option.some.injEq, Prod.mk.injEq] at h; obtain ⟨rfl, rfl, rfl, rfl⟩ := h
    exact key B hB hc.1 hc.2 true (.inr ⟨rfl, rfl⟩)

end Go.Am
end PartAmNil

section PartAmWin
/- Slices of arrays: windows. -/
namespace Go.Am
open Go

/-- The array that a slice expression is of: told by its own type, or by a pointer's. -/
def arrOf (P : Program) (t : TypeId) : Option (Nat × Nat) :=
  match P.underlying t with
  | some (.pointer arr) => arrElem P arr
  | some (.array _ _) => arrElem P t
  | _ => none

theorem run_arrSlice {P : Program} {t : TypeId} {n m b o : Nat} (h : arrOf P t = some (n, m)) (w : World) :
    (Instr.sliceAt t (.pointer (some ⟨b, o, none⟩)) none none none).run P w = .ok (.slice (some ⟨b, o, none⟩) n n) w := by
  have key : ∀ arr, arrElem P arr = some (n, m) → ∃ elem, P.underlying arr = some (.array n elem) ∧ szOf P elem = some m := by
    intro arr hae
    unfold arrElem at hae
    split at hae <;> try (simp at hae; done)
    rename_i n' elem hua
    split at hae <;> try (simp at hae; done)
    rename_i m' hs
    simp only [Option.some.injEq, Prod.mk.injEq] at hae; obtain ⟨rfl, rfl⟩ := hae
    exact ⟨elem, hua, hs⟩
  unfold arrOf at h
  split at h <;> try (simp at h; done)
  · rename_i arr hu
    obtain ⟨elem, hua, hs⟩ := key arr h
    simp [Instr.sliceAt, Instr.slice, run_und hu, asAddr, run_und hua, Instr.sliceBounds, run_szOf hs, Addr.add_none]
  · rename_i hu
    obtain ⟨elem, hua, hs⟩ := key t h
    simp [Instr.sliceAt, run_und hua, Instr.sureAddr, Instr.sliceBounds, run_szOf hs, Addr.add_none]

def winOp (P : Program) (H : Hp) (l : List AV) (o : Oper) : Option (AV × Nat × Nat × Nat) :=
  match o.op with
  | .slice t x none none none => match aev l x with
    | .ptr id ver i j => match arrOf P t, H id with
      | some (n, m), some B => if B.ver = ver ∧ j + n * m ≤ B.esz then some (.win id ver i j m n, id, ver, B.esz) else none
      | _, _ => none
    | _ => none
  | .indexAddr t x ix => match aev l x, aev l ix with
    | .win id ver i j m n, .lit (.int _ k) => match sliceElem P t, H id with
      | some m', some B => if B.ver = ver ∧ m' = m ∧ 0 ≤ k ∧ k < (n : Int) then some (.ptr id ver i (j + k.toNat * m), id, ver, B.esz) else none
      | _, _ => none
    | _, _ => none
  | .call { callee := .builtin .len, args, argTypes } => match args.toList, argTypes.toList with
    | [x], [t] => match aev l x, sliceElem P t with
      | .win id ver _ _ _ n, some _ => match H id with
        | some B => if B.ver = ver then some (.lit (.int .i64 n), id, ver, B.esz) else none
        | none => none
      | _, _ => none
    | _, _ => none
  | _ => none

theorem win_now {E : Env} {H : Hp} {id ver i j m n esz : Nat} {x : Value} {B : Blk} (hH : E.H = H) (hB : H id = some B) (hv : B.ver = ver) (he : B.esz = esz) (hx : CRel E (.win id ver i j m n) x) :
    E.live id ∧ i < B.rows.length ∧ j + n * m ≤ esz ∧ ∃ cap, n ≤ cap ∧ x = .slice (some ⟨(E.addr id).block, (E.addr id).off + i * esz + j, none⟩) n cap := by
  obtain ⟨_, C, hC, _, hr⟩ := hx
  rw [hH, hB] at hC; simp only [Option.some.injEq] at hC; subst hC; subst he
  exact hr hv.symm

theorem winOp_ok {P : Program} {H : Hp} {l : List AV} {o : Oper} {v : AV} {id ver esz : Nat} (h : winOp P H l o = some (v, id, ver, esz)) : KOk P o l v (.h id ver esz) ∧ (K.h id ver esz).ph H := by
  unfold winOp at h
  split at h <;> try (simp at h; done)
  · rename_i t x hop
    split at h <;> try (simp at h; done)
    rename_i id' ver' i j hx
    split at h <;> try (simp at h; done)
    rename_i n m B hae hB
    split at h <;> try (simp at h; done)
    rename_i hc
    simp only [Option.some.injEq, Prod.mk.injEq] at h; obtain ⟨rfl, rfl, rfl, rfl⟩ := h
    refine ⟨?_, B, hB, hc.1, rfl⟩
    rintro H1 ⟨B1, g1, g2, g3⟩ l' hl' E a hH hI hl next Q hn
    have hxv := aev_ok hl x
    rw [hl' x (by rw [hop]; simp [Op.operands]), hx] at hxv
    obtain ⟨_, C, hC, _, hr⟩ := hxv
    rw [hH, g1] at hC; simp only [Option.some.injEq] at hC; subst hC
    obtain ⟨r1, r2, r3⟩ := hr g2.symm
    have hex : (execOp a.eval o).run P E.w = .ok (.value (.slice (some ⟨(E.addr id').block, (E.addr id').off + i * B1.esz + j, none⟩) n n)) E.w := by
      simp [execOp, hop, r3, run_arrSlice hae]
    unfold Oper.wp; rw [hex]
    exact hn E _ hH hI (Le.refl E) ⟨rfl, B1, by rw [hH]; exact g1, by omega, fun _ => ⟨r1, r2, by rw [g3]; exact hc.2, n, Nat.le_refl _, rfl⟩⟩
  · rename_i t x ix hop
    split at h <;> try (simp at h; done)
    rename_i id' ver' i j m n kk k hx hix
    split at h <;> try (simp at h; done)
    rename_i m' B hse hB
    split at h <;> try (simp at h; done)
    rename_i hc
    obtain ⟨hv, rfl, h0, h1⟩ := hc
    simp only [Option.some.injEq, Prod.mk.injEq] at h; obtain ⟨rfl, rfl, rfl, rfl⟩ := h
    refine ⟨?_, B, hB, hv, rfl⟩
    rintro H1 ⟨B1, g1, g2, g3⟩ l' hl' E a hH hI hl next Q hn
    have hxv := aev_ok hl x
    rw [hl' x (by rw [hop]; simp [Op.operands]), hx] at hxv
    have hiv := aev_ok hl ix
    rw [hl' ix (by rw [hop]; simp [Op.operands]), hix] at hiv
    simp only [CRel] at hiv
    obtain ⟨r1, r2, r3, cap, r4, r5⟩ := win_now hH g1 g2 g3 hxv
    have hex : (execOp a.eval o).run P E.w = .ok (.value (.pointer (some ⟨(E.addr id').block, (E.addr id').off + i * B.esz + j + k.toNat * m', none⟩))) E.w := by
      simp [execOp, hop, r5, hiv, run_indexAt_slice hse h0 h1]
    unfold Oper.wp; rw [hex]
    refine hn E _ hH hI (Le.refl E) ⟨rfl, B1, by rw [hH]; exact g1, by omega, fun _ => ⟨r1, r2, by rw [g3, Nat.add_assoc]⟩⟩
  · rename_i args ts hop
    split at h <;> try (simp at h; done)
    rename_i x t ha ht
    split at h <;> try (simp at h; done)
    rename_i id' ver' i j m n m' hx hse
    split at h <;> try (simp at h; done)
    rename_i B hB
    split at h <;> try (simp at h; done)
    rename_i hv
    simp only [Option.some.injEq, Prod.mk.injEq] at h; obtain ⟨rfl, rfl, rfl, rfl⟩ := h
    refine ⟨?_, B, hB, hv, rfl⟩
    rintro H1 ⟨B1, g1, g2, g3⟩ l' hl' E a hH hI hl next Q hn
    have e1 : args = #[x] := by apply Array.ext'; simpa using ha
    have e2 : ts = #[t] := by apply Array.ext'; simpa using ht
    subst e1 e2
    have hxv := aev_ok hl x
    rw [hl' x (by rw [hop]; simp [Op.operands, Call.operands]), hx] at hxv
    obtain ⟨r1, r2, r3, cap, r4, r5⟩ := win_now hH g1 g2 g3 hxv
    unfold sliceElem at hse
    split at hse <;> try (simp at hse; done)
    rename_i elem hu
    have hex : (execOp a.eval o).run P E.w = .ok (.value (.int .i64 n)) E.w := by
      simp [execOp, hop, resolve, invoke, builtin, Builtin.len_, run_und hu, r5, goInt]
    unfold Oper.wp; rw [hex]
    exact hn E _ hH hI (Le.refl E) rfl

end Go.Am
end PartAmWin

section PartAmMap
/- A map that is only read: the look-up of an integer key. -/
namespace Go.Am
open Go

def findE (k : IntKind) (i : Int) : List (Value × Value) → Option Value
  | [] => none
  | (.int k' j, v) :: r => if k = k' then (if i = j then some v else findE k i r) else none
  | _ => none

theorem findE_now {d : IntKind} {k : IntKind} {i : Int} {v : Value} : ∀ (es : List MapEntry) (n : Nat), findE k i (es.map fun e => (e.key, e.val)) = some v → ∃ m, Instr.findNow (.int d) (.int k i) es n = some (some (m, v))
  | [], n, h => by simp [findE] at h
  | e :: es, n, h => by
    obtain ⟨key, val, born⟩ := e
    cases key <;> simp only [List.map_cons, findE] at h <;> try (simp at h; done)
    rename_i k' j
    split at h <;> try (simp at h; done)
    rename_i hk; subst hk
    by_cases hij : i = j
    · subst hij
      simp only [if_true, Option.some.injEq] at h; subst h
      exact ⟨n, by simp [Instr.findNow, Instr.sameNow]⟩
    · simp only [hij, if_false] at h
      obtain ⟨m, hm⟩ := findE_now (d := d) es (n + 1) h
      have hb : (i == j) = false := by simp [hij]
      exact ⟨m, by simp only [Instr.findNow, Instr.sameNow, if_true, hb]; exact hm⟩

/-- A value that may be a function, as an abstract one. -/
def ofF : Value → AV
  | .func f a b => .fn f (a.toList.map .lit) (b.toList.map .lit)
  | v => ofV v

theorem ofF_rel {E : Env} (v : Value) : CRel E (ofF v) v := by
  cases v
  case func f a b => exact ⟨a, b, rfl, Cs.lits _, Cs.lits _⟩
  all_goals (simp only [ofF]; exact ofV_rel _)

def mapOp (P : Program) (l : List AV) (o : Oper) : Option AV :=
  match o.op with
  | .lookup t x ix false => match aev l x, aev l ix with
    | .rom es, .lit (.int k i) => match P.underlying t with
      | some (.map kt _) => match P.underlying kt with
        | some (.int _) => match findE k i es with
          | some v => some (ofF v)
          | none => none
        | _ => none
      | _ => none
    | _, _ => none
  | _ => none

theorem mapOp_env {P : Program} {l l' : List AV} {o : Oper} (h : ∀ x ∈ o.op.operands, aev l' x = aev l x) : mapOp P l' o = mapOp P l o := by
  unfold mapOp
  split
  · rename_i t x ix hop; rw [h x (by rw [hop]; simp [Op.operands]), h ix (by rw [hop]; simp [Op.operands])]
  · rfl

theorem mapOp_q {P : Program} {H : Nat → Option Blk} {l : List AV} {o : Oper} {v : AV} (h : mapOp P l o = some v) : QOk P o l H v := by
  intro E a hH hI hl
  unfold mapOp at h
  split at h <;> try (simp at h; done)
  rename_i t x ix hop
  split at h <;> try (simp at h; done)
  rename_i es k i hx hix
  split at h <;> try (simp at h; done)
  rename_i kt et ht
  split at h <;> try (simp at h; done)
  rename_i d hkt
  split at h <;> try (simp at h; done)
  rename_i u hu
  simp only [Option.some.injEq] at h; subst h
  have ex := aev_ok hl x
  have ei := aev_ok hl ix
  rw [hx] at ex; rw [hix] at ei
  obtain ⟨b, ents, clock, h1, h2, h3, h4, h5⟩ := ex
  simp only [CRel] at ei
  subst h5
  obtain ⟨m, hm⟩ := findE_now (d := d) ents.toList 0 hu
  refine ⟨u, ?_, ofF_rel u⟩
  have hobj : (getObj b).run P E.w = .ok (.map ents clock) E.w := by simp [getObj, Sem.run, h4]
  have hck : (Instr.checkKey ents.isEmpty 10000 kt (.int k i)).run P E.w = .ok () E.w := by
    generalize hn : (10000 : Nat) = n
    cases n with
    | zero => simp at hn
    | succ n => simp only [Instr.checkKey, Sem.run_bind, run_und hkt, Result.andThen_ok, Sem.run_pure]
  have hfk : (Instr.findKey kt (.int k i) ents.toList).run P E.w = .ok (some (m, u)) E.w := by
    simp only [Instr.findKey, Sem.run_bind, run_und hkt, Result.andThen_ok, hm, Sem.run_pure]
  have hrun : (Instr.lookup t (.map (some b)) (.int k i) false).run P E.w = .ok u E.w := by
    simp only [Instr.lookup, Sem.run_bind, run_und ht, Result.andThen_ok, hobj, Sem.run_pure, hck, hfk]
    rfl
  simp [execOp, hop, h1, ei, hrun]

theorem mapOp_ok {P : Program} {l : List AV} {o : Oper} {v : AV} (h : mapOp P l o = some v) : KOk P o l v .p :=
  fun _ _ _ hl' => OOk.of_q (mapOp_q (by rw [mapOp_env hl']; exact h))

end Go.Am
end PartAmMap

section PartAmIdx
/- An element of an array that is a value. -/
namespace Go.Am
open Go

def idxOp (P : Program) (l : List AV) (o : Oper) : Option AV :=
  match o.op with
  | .index t x ix => match aev l x, aev l ix with
    | .agg cs, .lit (.int _ i) => match arrElemT P t with
      | some (n, elem, m) => if 0 ≤ i ∧ i < (n : Int) then partAV P elem cs (i.toNat * m) else none
      | none => none
    | _, _ => none
  | _ => none
where
  arrElemT (P : Program) (t : TypeId) : Option (Nat × TypeId × Nat) :=
    match P.underlying t with
    | some (.array n elem) => match szOf P elem with | some m => some (n, elem, m) | none => none
    | _ => none

theorem idxOp_env {P : Program} {l l' : List AV} {o : Oper} (h : ∀ x ∈ o.op.operands, aev l' x = aev l x) : idxOp P l' o = idxOp P l o := by
  unfold idxOp
  split
  · rename_i t x ix hop; rw [h x (by rw [hop]; simp [Op.operands]), h ix (by rw [hop]; simp [Op.operands])]
  · rfl

theorem idxOp_q {P : Program} {H : Nat → Option Blk} {l : List AV} {o : Oper} {v : AV} (h : idxOp P l o = some v) : QOk P o l H v := by
  intro E a hH hI hl
  unfold idxOp at h
  split at h <;> try (simp at h; done)
  rename_i t x ix hop
  split at h <;> try (simp at h; done)
  rename_i cs k i hx hix
  split at h <;> try (simp at h; done)
  rename_i n elem m hae
  split at h <;> try (simp at h; done)
  rename_i hc
  unfold idxOp.arrElemT at hae
  split at hae <;> try (simp at hae; done)
  rename_i n' elem' hu
  split at hae <;> try (simp at hae; done)
  rename_i m' hs
  simp only [Option.some.injEq, Prod.mk.injEq] at hae; obtain ⟨rfl, rfl, rfl⟩ := hae
  have ex := aev_ok hl x
  have ei := aev_ok hl ix
  rw [hx] at ex; rw [hix] at ei
  obtain ⟨vs, h1, h2⟩ := ex
  simp only [CRel] at ei
  obtain ⟨y, r1, r2⟩ := run_part (P := P) h2 h
  refine ⟨y, ?_, r2⟩
  simp [execOp, hop, h1, ei, Instr.index, asIntOf, run_und hu, hc, run_szOf hs, r1]

theorem idxOp_ok {P : Program} {l : List AV} {o : Oper} {v : AV} (h : idxOp P l o = some v) : KOk P o l v .p :=
  fun _ _ _ hl' => OOk.of_q (idxOp_q (by rw [idxOp_env hl']; exact h))

end Go.Am
end PartAmIdx

section PartAmZap
/- append(nil, make([]T, n)...), as the model has it: n zero elements are appended to nil. -/
namespace Go.Am
open Go

def zapTy (P : Program) (st xt : TypeId) : Option (TypeId × TypeInfo × Value) :=
  match P.underlying st, P.underlying xt with
  | some (.slice elem), some (.int _) => match P.info? elem, pureRun P (zeroValue elem) with
    | some i, some z => some (elem, i, z)
    | _, _ => none
  | _, _ => none

def zapOp (P : Program) (l : List AV) (id : Nat) (o : Oper) : Option (AV × Blk) :=
  match o.op with
  | .call { callee := .builtin .append, args, argTypes } =>
    match args.toList, argTypes.toList with
    | [x, y], [st, xt] => match zapTy P st xt, aev l x, aev l y with
      | some (_, i, z), .lit (.slice none 0 0), .lit (.int _ n) =>
        if 0 < n ∧ n < 2 ^ 62 ∧ 0 < i.bytes ∧ (2 * n.toNat + 1024) * i.bytes ≤ 2 ^ 48 ∧ z.cells.size = i.size ∧ z.cells.toList.all Value.oneCell' = true then
          some (.own id 0 0 n.toNat true, .arr i.size 0 (List.replicate n.toNat (z.cells.toList.map .lit)))
        else none
      | _, _, _ => none
    | _, _ => none
  | _ => none

theorem zapOp_env {P : Program} {l l' : List AV} {o : Oper} {id : Nat} (h : ∀ x ∈ o.op.operands, aev l' x = aev l x) : zapOp P l' id o = zapOp P l id o := by
  unfold zapOp
  split
  · rename_i args ts hop
    split
    · rename_i x y st xt hx hy
      have hmx : x ∈ o.op.operands := by
        rw [hop]; simp only [Op.operands, Call.operands]; simp
        have : x ∈ args.toList := by rw [hx]; simp
        simpa using this
      have hmy : y ∈ o.op.operands := by
        rw [hop]; simp only [Op.operands, Call.operands]; simp
        have : y ∈ args.toList := by rw [hx]; simp
        simpa using this
      rw [h x hmx, h y hmy]
    · rfl
  · rfl

theorem zapOp_ok {P : Program} {l : List AV} {id : Nat} {o : Oper} {v : AV} {B : Blk} (h : zapOp P l id o = some (v, B)) {H : Hp} (hid : H id = none) : OOk P o l H v (upd H id B) := by
  intro E a hH hI hl next Q hnx
  unfold zapOp at h
  split at h <;> try (simp at h; done)
  rename_i args ts hop
  split at h <;> try (simp at h; done)
  rename_i x y st xt hx hy
  split at h <;> try (simp at h; done)
  rename_i elem i z kk n hty hax hay
  split at h <;> try (simp at h; done)
  rename_i hk
  obtain ⟨hn0, hn1, hb0, hby, hsz, hone⟩ := hk
  simp only [Option.some.injEq, Prod.mk.injEq] at h; obtain ⟨rfl, rfl⟩ := h
  unfold zapTy at hty
  split at hty <;> try (simp at hty; done)
  rename_i elem' kx hst hxt
  split at hty <;> try (simp at hty; done)
  rename_i i' z' hi hz
  simp only [Option.some.injEq, Prod.mk.injEq] at hty; obtain ⟨rfl, rfl, rfl⟩ := hty
  have ex := aev_ok hl x
  have ey := aev_ok hl y
  rw [hax] at ex; rw [hay] at ey
  simp only [CRel] at ex ey
  have hw := wrap64 (Int.le_of_lt hn0) hn1
  have hs : szOf P elem' = some i'.size := by simp [szOf, hi]
  have hsr := run_szOf (P := P) hs
  have hti : ∀ w, (typeInfo elem').run P w = .ok i' w := fun w => by simp [typeInfo, hi]
  have hzv : ∀ w, (zeroValue elem').run P w = .ok z' w := fun w => pureRun_ok _ hz w
  obtain ⟨m, rfl⟩ : ∃ m : Nat, n = (m : Int) := ⟨n.toNat, by omega⟩
  simp only [Int.toNat_natCast] at hby ⊢
  have hm0 : 0 < m := by omega
  have hq : (Question.appendCap m 0 elem').forced = false := rfl
  have hcut : m ≤ (Question.appendCap m 0 elem').cut (E.w.tape E.w.drawn (Question.appendCap m 0 elem')) := by
    simp only [Question.cut]; omega
  generalize hcap : (Question.appendCap m 0 elem').cut (E.w.tape E.w.drawn (Question.appendCap m 0 elem')) = cap at hcut
  have hnc := nextcap_le (newLen := m) (oldCap := 0) hm0
  have hb1 : ¬ i'.bytes = 0 := by omega
  have hcapb : ¬ Builtin.nextslicecap m 0 * i'.bytes > 2 ^ 48 := by
    have : Builtin.nextslicecap m 0 * i'.bytes ≤ (2 * m + 1024) * i'.bytes := Nat.mul_le_mul_right _ hnc
    omega
  have hmb : ¬ (m : Int) * (i'.bytes : Int) > 2 ^ 48 := by
    have h1 : m * i'.bytes ≤ (2 * m + 1024) * i'.bytes := Nat.mul_le_mul_right _ (by omega)
    have h2 : ((m * i'.bytes : Nat) : Int) ≤ (2 ^ 48 : Nat) := by exact_mod_cast Nat.le_trans h1 hby
    simpa using h2
  have hmax : ¬ ((m : Int) > IntKind.i64.max) := by
    have : IntKind.i64.max = 9223372036854775807 := by decide
    rw [this]; omega
  have happ : ∀ w, ((if m * i'.size = 0 then pure #[] else do pure (Builtin.zeroCells (← zeroValue elem').cells m) : Sem (Array Value))).run P w = .ok (Builtin.zeroCells z'.cells m) w := fun w => by
    split
    · rename_i h0
      have : Builtin.zeroCells z'.cells m = #[] := by
        have er : Array.range 0 = (#[] : Array Nat) := rfl
        simp [Builtin.zeroCells, hsz, h0, er]
      rw [this]; simp
    · simp [hzv]
  have hrun : (execOp a.eval o).run P E.w = .ok (.value (.slice (some ⟨E.w.heap.size, 0, none⟩) m cap)) (World.pushed E.drew.w (Builtin.zeroCells z'.cells m ++ Builtin.zeroCells z'.cells (cap - m)) elem') := by
    refine append_run hop hx hy ?_
    rw [ex, ey]
    have hnot : ¬ m ≤ 0 := by omega
    have hwi : ∀ w, (asInt (.int kk (m : Int))).run P w = .ok (m : Int) w := fun w => by simp [asInt, asIntOf]
    have hneg : ¬ ((m : Int) < 0) := by omega
    have q1 : ¬ (281474976710656 < (m : Int) * (i'.bytes : Int)) := by simpa using hmb
    have q2 : ¬ m = 0 := by omega
    have q3 : ¬ (9223372036854775807 < (m : Int)) := by omega
    have q4 : ¬ 281474976710656 < Builtin.nextslicecap m 0 * i'.bytes := by simpa using hcapb
    simp only [Builtin.append_]
    simp [run_und hst, hsr, run_und hxt, hwi, hw, hneg, hti, q1, q2, q3, q4, hb1, hq, hcap, hzv, Builtin.firstCells]
    by_cases h0 : m * i'.size = 0
    · have hz0 : Builtin.zeroCells z'.cells m = #[] := by
        have er : Array.range 0 = (#[] : Array Nat) := rfl
        simp [Builtin.zeroCells, hsz, h0, er]
      simp [h0, hz0, run_newRow]
      rfl
    · simp [h0, run_newRow]
      rfl
  have hone' : ∀ v ∈ z'.cells.toList, v.oneCell' = true := fun v hv => List.all_eq_true.1 hone v hv
  obtain ⟨i1, i2⟩ := fresh_arr (E := E.drew) (fr := (0, 0)) (t := elem') (id := id) (n := i'.size) (v := 0) (rows := List.replicate m (z'.cells.toList.map .lit)) (c := Builtin.zeroCells z'.cells m ++ Builtin.zeroCells z'.cells (cap - m)) (drew_inv hI)
    (fun B hB => by simp only [Env.drew] at hB; rw [hH, hid] at hB; simp at hB) (fun j r hr => by
      rw [List.getElem?_replicate] at hr
      split at hr <;> try (simp at hr; done)
      rename_i hj
      simp only [Option.some.injEq] at hr; subst hr
      refine ⟨by simp [hsz], z'.cells.toList, Cs.lits _, hone', fun q hqq => ?_⟩
      have hm' : q < i'.size := by rw [← hsz]; simpa using hqq
      have hlt : j * i'.size + q < m * i'.size := by
        have : (j + 1) * i'.size ≤ m * i'.size := Nat.mul_le_mul_right _ hj
        rw [Nat.succ_mul] at this; omega
      have hmod : (j * i'.size + q) % i'.size = q := by rw [Nat.mul_comm, Nat.mul_add_mod]; exact Nat.mod_eq_of_lt hm'
      have hzs : (Builtin.zeroCells z'.cells m).size = m * i'.size := by simp [Builtin.zeroCells, hsz]
      rw [Array.getElem?_append, if_pos (by rw [hzs]; exact hlt)]
      simp only [Builtin.zeroCells, Array.getElem?_map, hsz]
      rw [Array.getElem?_range, if_pos hlt]
      simp only [Option.map_some, hmod]
      rw [Array.getElem?_toList, getElem!_pos z'.cells q (by rw [hsz]; exact hm'), Array.getElem?_eq_getElem (by rw [hsz]; exact hm')]) (by simp [Builtin.zeroCells, hsz])
  unfold Oper.wp; rw [hrun]
  refine hnx _ _ (by simp [Env.put, Env.drew, hH]) i1 ((drew_le E).trans i2) (fresh_own (E := E.drew) (by simp) hcut ?_)
  simp only [Builtin.zeroCells, Array.size_append, Array.size_map, Array.size_range, hsz]
  rw [← Nat.add_mul, show m + (cap - m) = cap from by omega]; exact Nat.le_refl _

end Go.Am
end PartAmZap

section PartAmEv2
/- The run that decides itself: operations, regions, code, functions. -/
namespace Go.Am
open Go

def quietA (P : Program) (l : List AV) (L : HL) (o : Oper) : Option (AV × K) :=
  match scriptOf P (hof L) l o with
  | some sc => match qop P (hof L) l o sc with
    | some (v, _, _) => match qid l o with
      | none => some (v, .p)
      | some id => match L[id]? with
        | some B => some (v, if isLoad o.op = true then .m [(id, B)] [] [] else .h id B.ver B.esz)
        | none => none
    | none => none
  | none => none

theorem quietA_ok {P : Program} {l : List AV} {L : HL} {o : Oper} {v : AV} {k : K} (h : quietA P l L o = some (v, k)) : KOk P o l v k ∧ k.ph (hof L) := by
  unfold quietA at h
  split at h <;> try (simp at h; done)
  rename_i sc hsc
  split at h <;> try (simp at h; done)
  rename_i v0 sc0 obs0 hq
  have ho := scriptOf_ok hsc hq
  split at h
  · rename_i hn
    simp only [Option.some.injEq, Prod.mk.injEq] at h; obtain ⟨rfl, rfl⟩ := h
    refine ⟨fun H _ l' hl' => OOk.of_q (qop_ok (sc := sc) (sc' := sc0) ?_ ho), trivial⟩
    rw [qop_env hl', ← hq]; exact qop_local fun id hid => by rw [hn] at hid; simp at hid
  · rename_i id hid
    split at h <;> try (simp at h; done)
    rename_i B hB
    simp only [Option.some.injEq, Prod.mk.injEq] at h; obtain ⟨rfl, rfl⟩ := h
    by_cases hld : isLoad o.op = true
    · rw [if_pos hld]
      refine ⟨?_, by simp, fun p hp => by rw [List.mem_singleton.1 hp]; exact hB⟩
      rintro H ⟨_, hs⟩ l' hl'
      refine OOk.of_q (qop_ok (sc := sc) (sc' := sc0) ?_ ho)
      rw [qop_env hl', ← hq]
      exact qop_local fun id' hid' => by
        rw [hid] at hid'; simp only [Option.some.injEq] at hid'; subst hid'
        rw [hs (id, B) (by simp)]; exact hB.symm
    · rw [if_neg hld]
      refine ⟨?_, B, hB, rfl, rfl⟩
      rintro H ⟨B0, h1, h2, h3⟩ l' hl'
      refine OOk.of_q (qop_ok (sc := sc) (sc' := sc0) ?_ ho)
      rw [qop_env hl', ← hq]
      exact qop_shape hid (by simpa using hld) h1 hB h2 h3

def storeA (P : Program) (l : List AV) (L : HL) (t : TypeId) (p x : Operand) : Option (AV × K) :=
  match aev l p with
  | .ptr id _ i _ => match L[id]?, elemAt (hof L) id i with
    | some B, some sc => match storeOp P (hof L) t (aev l p) (aev l x) sc with
      | some (id', B', _, _) => if id' = id then some (.lit undef, .s id B B' []) else none
      | none => none
    | _, _ => none
  | _ => none

theorem storeA_ok {P : Program} {l : List AV} {L : HL} {o : Oper} {t : TypeId} {p x : Operand} {v : AV} {k : K} (hop : o.op = .store t p x) (h : storeA P l L t p x = some (v, k)) : KOk P o l v k ∧ k.ph (hof L) := by
  unfold storeA at h
  split at h <;> try (simp at h; done)
  rename_i id ver i j hav
  split at h <;> try (simp at h; done)
  rename_i B sc hB hsc
  split at h <;> try (simp at h; done)
  rename_i id' B' sc' obs hst
  split at h <;> try (simp at h; done)
  rename_i hid; subst hid
  simp only [Option.some.injEq, Prod.mk.injEq] at h; obtain ⟨rfl, rfl⟩ := h
  have ho : ∀ q ∈ obs, q := by
    rw [hav] at hst
    simp only [storeOp] at hst
    split at hst <;> try (simp at hst; done)
    split at hst
    · split at hst <;> try (simp at hst; done)
      simp only [Option.some.injEq, Prod.mk.injEq] at hst; obtain ⟨_, _, _, rfl⟩ := hst; simp
    · rename_i n w rows hr
      split at hst <;> try (simp at hst; done)
      rename_i e sc1
      split at hst <;> try (simp at hst; done)
      simp only [Option.some.injEq, Prod.mk.injEq] at hst; obtain ⟨_, _, _, rfl⟩ := hst
      simp only [elemAt, hr] at hsc
      split at hsc <;> try (simp at hsc; done)
      rename_i e' he'
      simp only [Option.some.injEq, List.cons.injEq, Sc.el.injEq] at hsc; obtain ⟨rfl, _⟩ := hsc
      intro q hq; rw [List.mem_singleton.1 hq]; exact he'
    · simp at hst
  refine ⟨fun H hH l' hl' => storeOp_ok hop (sc := sc) (sc' := sc') (obs := obs) ?_ ho, hB, by simp [sees]⟩
  rw [hl' p (by rw [hop]; simp [Op.operands]), hl' x (by rw [hop]; simp [Op.operands])]
  exact storeOp_local hst hB hH.1

/-- Operations that make or write blocks in other ways; or else leave them alone. -/
def effX (P : Program) (l : List AV) (L : HL) (o : Oper) : Option (AV × K) :=
  match winOp P (hof L) l o with
  | some (v, id, ver, esz) => some (v, .h id ver esz)
  | none =>
  match o.op with
  | .convert _ _ _ => match convS P l L.length o with
    | some (v, B) => some (v, .a L.length B [])
    | none => match convB P (hof L) l o with
      | some (v, rd) => some (v, .m rd [] [])
      | none => match convF P (hof L) l o with
        | some (v, id, ver, esz) => some (v, .h id ver esz)
        | none => quietA P l L o
  | .lookup _ _ _ _ => match mapOp P l o with | some v => some (v, .p) | none => quietA P l L o
  | .index _ _ _ => match idxOp P l o with | some v => some (v, .p) | none => quietA P l L o
  | .makeSlice _ _ _ => match makeOp P l L.length o with | some (v, B) => some (v, .a L.length B []) | none => none
  | .binOp _ _ _ _ _ => match nilOp P (hof L) l o with | some (v, id, ver, esz) => some (v, .h id ver esz) | none => quietA P l L o
  | .call { callee := .builtin .copy, args := _, argTypes := _ } => match copyOp P (hof L) l o with | some r => some r | none => quietA P l L o
  | _ => quietA P l L o

theorem convS_env {P : Program} {l l' : List AV} {o : Oper} {id : Nat} (h : ∀ x ∈ o.op.operands, aev l' x = aev l x) : convS P l' id o = convS P l id o := by
  unfold convS
  split
  · rename_i src dst x hop; rw [h x (by rw [hop]; simp [Op.operands])]
  · rfl

theorem makeOp_env {P : Program} {l l' : List AV} {o : Oper} {id : Nat} (h : ∀ x ∈ o.op.operands, aev l' x = aev l x) : makeOp P l' id o = makeOp P l id o := by
  unfold makeOp
  split
  · rename_i t n c hop; rw [h n (by rw [hop]; simp [Op.operands]), h c (by rw [hop]; simp [Op.operands])]
  · rfl

theorem effX_ok {P : Program} {l : List AV} {L : HL} {o : Oper} {v : AV} {k : K} (h : effX P l L o = some (v, k)) : KOk P o l v k ∧ k.ph (hof L) := by
  unfold effX at h
  split at h
  · rename_i v0 id ver esz hw
    simp only [Option.some.injEq, Prod.mk.injEq] at h; obtain ⟨rfl, rfl⟩ := h
    exact winOp_ok hw
  split at h
  · split at h
    · rename_i v0 B hal
      simp only [Option.some.injEq, Prod.mk.injEq] at h; obtain ⟨rfl, rfl⟩ := h
      exact ⟨fun H hH l' hl' => convS_ok (by rw [convS_env hl']; exact hal) hH.1, hof_end, by simp [sees]⟩
    · split at h
      · rename_i v0 rd hcb
        simp only [Option.some.injEq, Prod.mk.injEq] at h; obtain ⟨rfl, rfl⟩ := h
        obtain ⟨h1, h2⟩ := convB_ok hcb
        exact ⟨h1, by simp, h2⟩
      · split at h
        · rename_i v0 id ver esz hcf
          simp only [Option.some.injEq, Prod.mk.injEq] at h; obtain ⟨rfl, rfl⟩ := h
          exact convF_ok hcf
        · exact quietA_ok h
  · split at h
    · rename_i v0 hm
      simp only [Option.some.injEq, Prod.mk.injEq] at h; obtain ⟨rfl, rfl⟩ := h
      exact ⟨mapOp_ok hm, trivial⟩
    · exact quietA_ok h
  · split at h
    · rename_i v0 hm
      simp only [Option.some.injEq, Prod.mk.injEq] at h; obtain ⟨rfl, rfl⟩ := h
      exact ⟨idxOp_ok hm, trivial⟩
    · exact quietA_ok h
  · split at h <;> try (simp at h; done)
    rename_i v0 B hal
    simp only [Option.some.injEq, Prod.mk.injEq] at h; obtain ⟨rfl, rfl⟩ := h
    exact ⟨fun H hH l' hl' => makeOp_ok (by rw [makeOp_env hl']; exact hal) hH.1, hof_end, by simp [sees]⟩
  · split at h
    · rename_i v0 id ver esz hnl
      simp only [Option.some.injEq, Prod.mk.injEq] at h; obtain ⟨rfl, rfl⟩ := h
      exact nilOp_ok hnl
    · exact quietA_ok h
  · split at h
    · rename_i r hr
      simp only [Option.some.injEq] at h; subst h
      exact copyOp_ok hr
    · exact quietA_ok h
  · exact quietA_ok h

/-- One operation on known values, the long way. -/
def effS (P : Program) (call : CallA) (l : List AV) (L : HL) (o : Oper) : Option (AV × K) :=
  match o.op with
  | .alloc _ | .box _ _ => match allocOp P l L.length o with | some (v, B) => some (v, .a L.length B []) | none => none
  | .buildSlice _ _ _ => match bsOp P l L.length o with | some (v, B) => some (v, .a L.length B []) | none => none
  | .store t p x => storeA P l L t p x
  | .call { callee := .builtin .append, args := _, argTypes := _ } => match appOp P (hof L) l L.length o with
    | some (v, k, z) => if z ≤ 2 ^ 48 then some (v, k) else none
    | none => match zapOp P l L.length o with | some (v, B) => some (v, .a L.length B []) | none => none
  | .call { callee := .value x, args, argTypes } => match callee l ⟨.value x, args, argTypes⟩ with
    | some (f, as) => if enters P f = true then callA call L f as else none
    | none => none
  | _ => effX P l L o

theorem bsOp_env {P : Program} {l l' : List AV} {o : Oper} {id : Nat} (h : ∀ x ∈ o.op.operands, aev l' x = aev l x) : bsOp P l' id o = bsOp P l id o := by
  unfold bsOp
  split
  · rename_i t len parts hop
    have h1 : ∀ p ∈ parts.toList, aev l' p.2 = aev l p.2 := fun p hp => h p.2 (by rw [hop]; simp only [Op.operands]; simp; exact ⟨p.1, by simpa using hp⟩)
    have e1 : (parts.toList.map fun p => (p.1, aev l' p.2)) = parts.toList.map fun p => (p.1, aev l p.2) := List.map_congr_left fun p hp => by rw [h1 p hp]
    have e2 : (parts.toList.all fun p => (cellsAV (aev l' p.2)).all cellOk) = parts.toList.all fun p => (cellsAV (aev l p.2)).all cellOk := by
      rw [Bool.eq_iff_iff, List.all_eq_true, List.all_eq_true]
      exact ⟨fun k p hp => by rw [← h1 p hp]; exact k p hp, fun k p hp => by rw [h1 p hp]; exact k p hp⟩
    rw [e1, e2]
  · rfl

theorem effS_ok {P : Program} {call : CallA} (hcall : CallOk P call) {l : List AV} {L : HL} {o : Oper} {v : AV} {k : K} (h : effS P call l L o = some (v, k)) : KOk P o l v k ∧ k.ph (hof L) := by
  unfold effS at h
  split at h
  · split at h <;> try (simp at h; done)
    rename_i v0 B hal
    simp only [Option.some.injEq, Prod.mk.injEq] at h; obtain ⟨rfl, rfl⟩ := h
    exact ⟨fun H hH l' hl' => allocOp_ok (by rw [allocOp_env hl']; exact hal) hH.1, hof_end, by simp [sees]⟩
  · split at h <;> try (simp at h; done)
    rename_i v0 B hal
    simp only [Option.some.injEq, Prod.mk.injEq] at h; obtain ⟨rfl, rfl⟩ := h
    exact ⟨fun H hH l' hl' => allocOp_ok (by rw [allocOp_env hl']; exact hal) hH.1, hof_end, by simp [sees]⟩
  · split at h <;> try (simp at h; done)
    rename_i v0 B hal
    simp only [Option.some.injEq, Prod.mk.injEq] at h; obtain ⟨rfl, rfl⟩ := h
    exact ⟨fun H hH l' hl' => bsOp_ok (by rw [bsOp_env hl']; exact hal) hH.1, hof_end, by simp [sees]⟩
  · rename_i t p x hop
    exact storeA_ok hop h
  · split at h
    · rename_i v0 k0 z hap
      split at h <;> try (simp at h; done)
      rename_i hz
      simp only [Option.some.injEq, Prod.mk.injEq] at h; obtain ⟨rfl, rfl⟩ := h
      obtain ⟨h1, h2⟩ := appOp_ok hap hz
      exact ⟨h1, h2 hof_end⟩
    · split at h <;> try (simp at h; done)
      rename_i v0 B hal
      simp only [Option.some.injEq, Prod.mk.injEq] at h; obtain ⟨rfl, rfl⟩ := h
      exact ⟨fun H hH l' hl' => zapOp_ok (by rw [zapOp_env hl']; exact hal) hH.1, hof_end, by simp [sees]⟩
  · rename_i x args ts hop
    split at h <;> try (simp at h; done)
    rename_i f as hc
    split at h <;> try (simp at h; done)
    rename_i he
    exact callA_ok hcall hop hc he h
  · exact effX_ok h

/-- One operation on known values. -/
def effA (P : Program) (call : CallA) (l : List AV) (L : HL) (o : Oper) : Option (AV × K) :=
  match fastA P l o with
  | some v => some (v, .p)
  | none => effS P call l L o

theorem effA_ok {P : Program} {call : CallA} (hcall : CallOk P call) {l : List AV} {L : HL} {o : Oper} {v : AV} {k : K} (h : effA P call l L o = some (v, k)) : KOk P o l v k ∧ k.ph (hof L) := by
  unfold effA at h
  split at h
  · rename_i u hu
    simp only [Option.some.injEq, Prod.mk.injEq] at h; obtain ⟨rfl, rfl⟩ := h
    exact ⟨fastA_ok hu, trivial⟩
  · exact effS_ok hcall h

/-- The heap with blocks written. -/
def setL : HL → List (Nat × Blk) → Option HL
  | L, [] => some L
  | L, (i, B) :: wr => if i < L.length then setL (L.set i B) wr else if i = L.length then setL (L ++ [B]) wr else none

theorem setL_ok : ∀ {wr : List (Nat × Blk)} {L L' : HL}, setL L wr = some L' → hof L' = upds (hof L) wr
  | [], L, L', h => by simp only [setL, Option.some.injEq] at h; subst h; rfl
  | (i, B) :: wr, L, L', h => by
    simp only [setL] at h
    split at h
    · rename_i hi
      rw [setL_ok h, hof_set (List.getElem?_eq_getElem hi)]; rfl
    · split at h <;> try (simp at h; done)
      rename_i hi
      rw [setL_ok h, hof_push, ← hi]; rfl

def guardA (ops : Array Oper) (o : Oper) (l : List AV) : Option Bool :=
  match o.guard with
  | none => some true
  | some (j, b) => match (ops[j]?).bind (·.dst) with
    | some d => match l.getD d .any with
      | .lit u => some (gv u b)
      | _ => none
    | none => none

theorem guardA_ok {ops : Array Oper} {o : Oper} {l : List AV} {b : Bool} (h : guardA ops o l = some b) : match o.guard with
    | none => b = true
    | some (j, c) => ∃ d u, (ops[j]?).bind (·.dst) = some d ∧ l.getD d .any = .lit u ∧ b = gv u c := by
  unfold guardA at h
  split at h
  · simp only [Option.some.injEq] at h; simp_all
  · rename_i j c hg
    split at h <;> try (simp at h; done)
    rename_i d hd
    split at h <;> try (simp at h; done)
    rename_i u hu
    simp only [Option.some.injEq] at h
    exact ⟨d, u, hd, hu, h.symm⟩

def stepA (P : Program) (call : CallA) (ops : Array Oper) (i : Nat) (o : Oper) (l : List AV) (L : HL) : Option (List AV × HL × TI) :=
  match guardA ops o l with
  | some true => match effA P call l L o with
    | some (v, k) => match setL L k.wr with
      | some L' => some (putL l o.dst v, L', ⟨i, o, l, true, v, k⟩)
      | none => none
    | none => none
  | some false => some (putL l o.dst (.lit undef), L, ⟨i, o, l, false, .any, .p⟩)
  | none => none

def regA (P : Program) (call : CallA) (ops : Array Oper) : Nat → List Oper → List AV → HL → Option (List AV × HL × List TI)
  | _, [], l, L => some (l, L, [])
  | i, o :: os, l, L => match stepA P call ops i o l L with
    | some (l', L', t) => match regA P call ops (i + 1) os l' L' with
      | some (l'', L'', ts) => some (l'', L'', t :: ts)
      | none => none
    | none => none

theorem stepA_ok {P : Program} {call : CallA} (hcall : CallOk P call) {ops : Array Oper} {i : Nat} {o : Oper} {l l' : List AV} {L L' : HL} {t : TI} (h : stepA P call ops i o l L = some (l', L', t)) (hi : ops[i]? = some o) :
    t.tn.Good P ops ∧ t.tn.pre ops (l, hof L) ∧ t.tn.next (l, hof L) = (l', hof L') ∧ t.idx = i ∧ t.o = o := by
  unfold stepA at h
  split at h <;> try (simp at h; done)
  · rename_i hg
    split at h <;> try (simp at h; done)
    rename_i v k he
    split at h <;> try (simp at h; done)
    rename_i L1 hL1
    simp only [Option.some.injEq, Prod.mk.injEq] at h; obtain ⟨rfl, rfl, rfl⟩ := h
    have g3 := guardA_ok hg
    obtain ⟨e1, e2⟩ := effA_ok hcall he
    refine ⟨⟨hi, ?_, fun _ H hH l' hl' => e1 H hH l' hl'⟩, ⟨fun _ _ => rfl, fun _ _ => rfl, fun _ => e2⟩, ?_, rfl, rfl⟩
    · simp only [TI.tn]; split
      · trivial
      · rename_i j c hgd
        rw [hgd] at g3; exact g3
    · simp only [Tn.next, TI.tn, if_true]; rw [setL_ok hL1]
  · rename_i hg
    simp only [Option.some.injEq, Prod.mk.injEq] at h; obtain ⟨rfl, rfl, rfl⟩ := h
    have g3 := guardA_ok hg
    refine ⟨⟨hi, ?_, fun hw => by simp [TI.tn] at hw⟩, ⟨fun _ _ => rfl, fun _ _ => rfl, fun hw => by simp [TI.tn] at hw⟩, ?_, rfl, rfl⟩
    · simp only [TI.tn]; split
      · rename_i hgd; rw [hgd] at g3; simp at g3
      · rename_i j c hgd
        rw [hgd] at g3; exact g3
    · simp [Tn.next, TI.tn]

theorem regA_ok {P : Program} {call : CallA} (hcall : CallOk P call) {ops : Array Oper} : ∀ (os : List Oper) (i : Nat) (l l' : List AV) (L L' : HL) (ts : List TI), regA P call ops i os l L = some (l', L', ts) → (∀ k o, os[k]? = some o → ops[i + k]? = some o) →
    Lex ops (ts.map TI.tn) (l, hof L) (l', hof L') ∧ (∀ t ∈ ts, t.tn.Good P ops) ∧ ts.map (·.idx) = List.range' i os.length
  | [], i, l, l', L, L', ts, h, _ => by
    simp only [regA, Option.some.injEq, Prod.mk.injEq] at h; obtain ⟨rfl, rfl, rfl⟩ := h
    exact ⟨rfl, by simp, rfl⟩
  | o :: os, i, l, l', L, L', ts, h, hi => by
    simp only [regA] at h
    split at h <;> try (simp at h; done)
    rename_i l1 L1 t hs
    split at h <;> try (simp at h; done)
    rename_i l2 L2 ts' hr
    simp only [Option.some.injEq, Prod.mk.injEq] at h; obtain ⟨rfl, rfl, rfl⟩ := h
    obtain ⟨r2, r3, r4⟩ := regA_ok hcall os (i + 1) l1 l2 L1 L2 ts' hr (fun k o' hk => by have := hi (k + 1) o' (by simpa using hk); rw [show i + 1 + k = i + (k + 1) from by omega]; exact this)
    obtain ⟨q2, q3, q4, q5, _⟩ := stepA_ok hcall hs (by simpa using hi 0 o (by simp))
    refine ⟨⟨q3, by rw [q4]; exact r2⟩, ?_, ?_⟩
    · intro t' ht'; rcases List.mem_cons.1 ht' with rfl | ht'
      · exact q2
      · exact r3 t' ht'
    · simp [r4, q5, List.range'_succ]

def freeWith (ops : Array Oper) (bi : Nat) (i : TI) : List TI → Bool
  | [] => true
  | j :: js => (bi.testBit j.idx || (apartT ops j.o i.o && (!(j.want && i.want) || j.k.free i.k))) && freeWith ops bi i js

def freeAll (ops : Array Oper) (bits : List Nat) : List TI → List TI → Bool
  | _, [] => true
  | prev, i :: is => freeWith ops (bits.getD i.idx 0) i prev && freeAll ops bits (i :: prev) is

theorem freeWith_ok {ops : Array Oper} {bi : Nat} {i : TI} : ∀ (js : List TI), freeWith ops bi i js = true → ∀ j ∈ js, bi.testBit j.idx = true ∨ Indep ops j.tn i.tn
  | [], _, j, hj => by simp at hj
  | k :: js, h, j, hj => by
    simp only [freeWith, Bool.and_eq_true, Bool.or_eq_true (bi.testBit _)] at h
    rcases List.mem_cons.1 hj with rfl | hj
    · exact h.1.imp id fun hh => TI.indep_free hh.1 hh.2
    · exact freeWith_ok js h.2 j hj

theorem freeAll_ok {ops : Array Oper} {bits : List Nat} : ∀ (is prev : List TI), freeAll ops bits prev is = true → (prev.reverse ++ is).Pairwise (fun x y => x.idx < y.idx) →
    ∀ j ∈ prev.reverse ++ is, ∀ i ∈ is, j.idx < i.idx → (bits.getD i.idx 0).testBit j.idx = true ∨ Indep ops j.tn i.tn
  | [], _, _, _, j, _, i, hi, _ => by simp at hi
  | k :: is, prev, h, hpw, j, hj, i, hi, hlt => by
    simp only [freeAll, Bool.and_eq_true] at h
    rcases List.mem_cons.1 hi with rfl | hi
    · have hjp : j ∈ prev := by
        rcases List.mem_append.1 hj with hj | hj
        · simpa using hj
        · exfalso
          have h2 := (List.pairwise_append.1 hpw).2.1
          rcases List.mem_cons.1 hj with rfl | hj
          · omega
          · have := (List.pairwise_cons.1 h2).1 j hj; omega
      exact freeWith_ok prev h.1 j hjp
    · refine freeAll_ok is (k :: prev) h.2 (by simpa using hpw) j ?_ i hi hlt
      simpa using hj

/-- Rounds of a loop. -/
def iterA (f : List AV → HL → Option (Ex × List AV × HL)) : Nat → List AV → HL → Option (Ex × List AV × HL)
  | 0, _, _ => none
  | n + 1, l, L => match f l L with
    | some (.normal, l', L') => iterA f n l' L'
    | r => r

def runA (P : Program) (call : CallA) : Code → List AV → HL → Option (Ex × List AV × HL)
  | .skip, l, L => some (.normal, l, L)
  | .label _, l, L => some (.normal, l, L)
  | .ret, l, L => some (.ret, l, L)
  | .exit id, l, L => some (.exit id, l, L)
  | .seq a b, l, L => match runA P call a l L with
    | some (.normal, l', L') => runA P call b l' L'
    | r => r
  | .cond c x y, l, L => match aev l c with
    | .lit (.bool true) => runA P call x l L
    | .lit (.bool false) => runA P call y l L
    | _ => none
  | .block id c, l, L => match runA P call c l L with
    | some (.exit id', l', L') => if id' = id then some (.normal, l', L') else some (.exit id', l', L')
    | r => r
  | .loop c, l, L => iterA (fun l L => runA P call c l L) 100000 l L
  | .region _ ops d, l, L => match regA P call ops 0 ops.toList l L with
    | some (l', L', ts) => if (!d || (backOk ops.toList && freeAll ops (bitsL [] ops.toList) [] ts)) = true then some (.normal, l', L') else none
    | none => none
  | _, _, _ => none

theorem iterA_ok {P : Program} {c : Code} {f : List AV → HL → Option (Ex × List AV × HL)} (hf : ∀ l L ex l' L', f l L = some (ex, l', L') → CW P c (l, hof L) ex (l', hof L')) : ∀ (n : Nat) (l : List AV) (L : HL) (ex : Ex) (l' : List AV) (L' : HL), iterA f n l L = some (ex, l', L') →
    ex ≠ .normal ∧ ∃ (m : Nat) (σ : Nat → St), σ 0 = (l, hof L) ∧ (∀ i, i < m → CW P c (σ i) .normal (σ (i + 1))) ∧ CW P c (σ m) ex (l', hof L')
  | 0, _, _, _, _, _, h => by simp [iterA] at h
  | n + 1, l, L, ex, l', L', h => by
    simp only [iterA] at h
    cases hr : f l L with
    | none => rw [hr] at h; simp at h
    | some r =>
      obtain ⟨ex1, l1, L1⟩ := r
      rw [hr] at h
      have h1 := hf _ _ _ _ _ hr
      by_cases he : ex1 = .normal
      · subst he
        simp only at h
        obtain ⟨k1, m, σ, k2, k3, k4⟩ := iterA_ok hf n l1 L1 ex l' L' h
        refine ⟨k1, m + 1, fun i => match i with | 0 => (l, hof L) | i + 1 => σ i, rfl, fun i hi => ?_, k4⟩
        cases i with
        | zero => simp only; rw [k2]; exact h1
        | succ i => exact k3 i (by omega)
      · have h' : ex1 = ex ∧ l1 = l' ∧ L1 = L' := by cases ex1 <;> first | exact absurd rfl he | (simpa using h)
        obtain ⟨rfl, rfl, rfl⟩ := h'
        exact ⟨he, 0, fun _ => (l, hof L), rfl, fun i hi => absurd hi (Nat.not_lt_zero i), h1⟩

theorem runA_ok {P : Program} (hm : P.follows .mixedOrders = true) {call : CallA} (hcall : CallOk P call) : ∀ (c : Code) (l l' : List AV) (L L' : HL) (ex : Ex), runA P call c l L = some (ex, l', L') → CW P c (l, hof L) ex (l', hof L')
  | .skip, l, l', L, L', ex, h => by
    simp only [runA, Option.some.injEq, Prod.mk.injEq] at h; obtain ⟨rfl, rfl, rfl⟩ := h; exact CW.skip
  | .label _, l, l', L, L', ex, h => by
    simp only [runA, Option.some.injEq, Prod.mk.injEq] at h; obtain ⟨rfl, rfl, rfl⟩ := h; exact CW.label
  | .ret, l, l', L, L', ex, h => by
    simp only [runA, Option.some.injEq, Prod.mk.injEq] at h; obtain ⟨rfl, rfl, rfl⟩ := h; exact CW.ret
  | .exit id, l, l', L, L', ex, h => by
    simp only [runA, Option.some.injEq, Prod.mk.injEq] at h; obtain ⟨rfl, rfl, rfl⟩ := h; exact CW.exit
  | .seq a b, l, l', L, L', ex, h => by
    simp only [runA] at h
    cases ha : runA P call a l L with
    | none => rw [ha] at h; simp at h
    | some r =>
      obtain ⟨ex1, l1, L1⟩ := r
      rw [ha] at h
      have c2 := runA_ok hm hcall a l l1 L L1 ex1 ha
      by_cases he : ex1 = .normal
      · subst he
        simp only at h
        exact CW.seq c2 (runA_ok hm hcall b l1 l' L1 L' ex h)
      · have h' : ex1 = ex ∧ l1 = l' ∧ L1 = L' := by cases ex1 <;> first | exact absurd rfl he | (simpa using h)
        obtain ⟨rfl, rfl, rfl⟩ := h'
        exact CW.seq_out c2 he
  | .cond c x y, l, l', L, L', ex, h => by
    simp only [runA] at h
    split at h <;> try (simp at h; done)
    · rename_i hc; exact CW.cond (b := true) hc (runA_ok hm hcall x l l' L L' ex h)
    · rename_i hc; exact CW.cond (b := false) hc (runA_ok hm hcall y l l' L L' ex h)
  | .block id c, l, l', L, L', ex, h => by
    simp only [runA] at h
    cases hc : runA P call c l L with
    | none => rw [hc] at h; simp at h
    | some r =>
      obtain ⟨ex1, l1, L1⟩ := r
      rw [hc] at h
      have c1 := runA_ok hm hcall c l l1 L L1 ex1 hc
      cases ex1 with
      | exit id' =>
        simp only at h
        split at h
        · rename_i he; subst he
          simp only [Option.some.injEq, Prod.mk.injEq] at h; obtain ⟨rfl, rfl, rfl⟩ := h
          exact CW.block_exit c1
        · rename_i he
          simp only [Option.some.injEq, Prod.mk.injEq] at h; obtain ⟨rfl, rfl, rfl⟩ := h
          exact CW.block c1 (by simpa using he)
      | _ =>
        simp only [Option.some.injEq, Prod.mk.injEq] at h; obtain ⟨rfl, rfl, rfl⟩ := h
        exact CW.block c1 (by simp)
  | .loop c, l, l', L, L', ex, h => by
    simp only [runA] at h
    obtain ⟨k1, m, σ, k2, k3, k4⟩ := iterA_ok (P := P) (c := c) (fun l L ex l' L' h => runA_ok hm hcall c l l' L L' ex h) 100000 l L ex l' L' h
    rw [← k2]; exact CW.loop k1 σ m k3 k4
  | .region rid ops d, l, l', L, L', ex, h => by
    simp only [runA] at h
    split at h <;> try (simp at h; done)
    rename_i l1 L1 ts hr
    split at h <;> try (simp at h; done)
    rename_i hk
    simp only [Option.some.injEq, Prod.mk.injEq] at h; obtain ⟨rfl, rfl, rfl⟩ := h
    obtain ⟨r2, r3, r4⟩ := regA_ok hcall ops.toList 0 l l1 L L1 ts hr fun k o hk => by simpa using hk
    cases d with
    | false => exact text_of_lex r2 r3 r4
    | true =>
      simp only [Bool.not_true, Bool.false_or, Bool.and_eq_true] at hk
      refine draw_of_lex hm r2 r3 r4 hk.1 fun j hj i hi hlt hn => ?_
      rcases freeAll_ok ts [] hk.2 (idx_pairwise r4) j hj i hi hlt with h1 | h1
      · exact absurd (bitsL_ok ops.toList [] (fun k o hk => by simpa using hk) (fun i j hb => by simp at hb) _ _ h1) hn
      · exact h1
  | .scope _, _, _, _, _, _, h => by simp [runA] at h
  | .goto _, _, _, _, _, _, h => by simp [runA] at h
  | .rangeFunc .., _, _, _, _, _, h => by simp [runA] at h
  | .refuse _, _, _, _, _, _, h => by simp [runA] at h

end Go.Am
end PartAmEv2

section PartAmEv3
/- The run that decides itself: whole functions, and calls of calls. -/
namespace Go.Am
open Go

/-- What is left of the heap behind a function that began with n blocks. -/
def gcA (n : Nat) (v : AV) (L1 : HL) : Option (AV × HL) :=
  let R := reach L1 100000 ((L1.take n).flatMap idsOfB ++ idsOf v) (List.range n)
  match pickL L1 R R with
  | some L2 => if nodupB R = true ∧ idsIn R v = true ∧ n ≤ R.length ∧ ((List.range n).all fun i => rof R i == i) = true then some (ren (inv R) v, L2) else none
  | none => none

theorem gcA_ok {P : Program} {f : FuncId} {args : List AV} {La L1 L2 : HL} {v v2 : AV} (hf : FC P f args (hof La) v (hof L1)) (h : gcA La.length v L1 = some (v2, L2)) : FC P f args (hof La) v2 (hof L2) := by
  unfold gcA at h
  simp only at h
  generalize hR : reach L1 100000 ((L1.take La.length).flatMap idsOfB ++ idsOf v) (List.range La.length) = R at h
  split at h <;> try (simp at h; done)
  rename_i Lx hL
  split at h <;> try (simp at h; done)
  rename_i hk
  simp only [Option.some.injEq, Prod.mk.injEq] at h; obtain ⟨rfl, rfl⟩ := h
  obtain ⟨p1, p2⟩ := pickL_ok hL
  obtain ⟨r1, r2⟩ := ren_inv v hk.2.1
  refine FC.gc hf (R := R) (nodupB_ok hk.1) (by omega) p1 (fun i hi => ?_) (fun i B hB => ?_) ?_ r1.symm (by rw [p1]; exact r2)
  · have := List.all_eq_true.1 hk.2.2.2 i (List.mem_range.2 hi)
    simpa using this
  · obtain ⟨j, q1, q2, _⟩ := p2 i B hB
    have hi : i < R.length := (List.getElem?_eq_some_iff.1 q1).1
    have hj : rof R i = j := by have := rof_get hi; rw [q1] at this; simpa using this.symm
    rw [hj]; exact q2
  · rw [List.all_eq_true]; intro B hB
    obtain ⟨i, hi, rfl⟩ := List.mem_iff_getElem.1 hB
    obtain ⟨j, _, _, q3⟩ := p2 i _ (List.getElem?_eq_getElem hi)
    rw [p1]; exact q3

/-- The run of a function's body. -/
def bodyA (P : Program) (call : CallA) (fn : Func) (args : List AV) (La : HL) : Option (AV × HL) :=
  match fn.body with
  | none => none
  | some c => match runA P call c (args ++ List.replicate (fn.ntmps - args.length) (.lit undef)) La with
    | some (ex, l, L) => if ex = .normal ∨ ex = .ret then
        match resAV P L l fn.results.toList with
        | some rs => gcA La.length (retAV rs) L
        | none => none
      else none
    | none => none

theorem bodyA_ok {P : Program} (hm : P.follows .mixedOrders = true) {call : CallA} (hcall : CallOk P call) {f : FuncId} {fn : Func} {args : List AV} {La L2 : HL} {v : AV} (hf : P.funcs[f]? = some fn) (h : bodyA P call fn args La = some (v, L2)) :
    FC P f args (hof La) v (hof L2) := by
  unfold bodyA at h
  split at h <;> try (simp at h; done)
  rename_i c hb
  split at h <;> try (simp at h; done)
  rename_i ex l L hr
  split at h <;> try (simp at h; done)
  rename_i hex
  split at h <;> try (simp at h; done)
  rename_i rs hrs
  refine gcA_ok (L1 := L) (v := retAV rs) ?_ h
  have hcw := runA_ok hm hcall c _ l La L ex hr
  intro E vs hH hI hc
  have hlen : vs.size = args.length := by simpa using Cs.length _ _ hc
  refine calls_of_wp hf hb ?_
  refine hcw E E _ [] _ ⟨hH, hI, ?_, Le.refl E, rfl⟩ ?_
  · simp only [Array.toList_append, Array.toList_replicate, hlen]
    exact Cs.append _ _ _ _ hc (Cs_replicate _)
  · intro E' a' hr'
    obtain ⟨x, h1, h2⟩ := results_ok (P := P) (fn := fn) hr'.H hr'.inv hr'.cs hrs
    have hend : ∃ x' E'', Ending.returned x = .returned x' ∧ E''.w = E'.w ∧ E''.H = hof L ∧ Inv E'' ∧ Le E E'' ∧ CRel E'' (retAV rs) x' := ⟨x, E', rfl, rfl, hr'.H, hr'.inv, hr'.le, h2⟩
    rcases hex with rfl | rfl
    · exact ⟨hr'.df, x, h1, hend⟩
    · exact ⟨hr'.df, x, h1, hend⟩

/-- The run of a function: by what the library promises, or else by its body. -/
def evA (P : Program) (lib : CallA) : Nat → CallA
  | 0, _, _, _ => none
  | n + 1, f, args, La => match lib f args La with
    | some r => some r
    | none => match P.funcs[f]? with
      | some fn => bodyA P (evA P lib n) fn args La
      | none => none

theorem evA_ok {P : Program} (hm : P.follows .mixedOrders = true) {lib : CallA} (hlib : CallOk P lib) : ∀ n, CallOk P (evA P lib n)
  | 0 => fun f as La v L' h => by simp [evA] at h
  | n + 1 => fun f as La v L' h => by
    simp only [evA] at h
    split at h
    · rename_i r hr; simp only [Option.some.injEq] at h; subst h; exact hlib _ _ _ _ _ hr
    · split at h <;> try (simp at h; done)
      rename_i fn hf
      exact bodyA_ok hm (evA_ok hm hlib n) hf h

def noLib : CallA := fun _ _ _ => none

theorem noLib_ok {P : Program} : CallOk P noLib := fun _ _ _ _ _ h => by simp [noLib] at h

end Go.Am
end PartAmEv3

section PartAmNilR
/- Is a read-only slice nil? And: its bytes as a string. -/
namespace Go.Am
open Go

def nilRo (P : Program) (l : List AV) (o : Oper) : Option AV :=
  match o.op with
  | .binOp op t x y _ => match aev l x, aev l y, sliceElem P t, op with
    | .ro _ _ true, .lit (.slice none 0 0), some _, .eql => some (.lit (.bool false))
    | .ro _ _ true, .lit (.slice none 0 0), some _, .neq => some (.lit (.bool true))
    | _, _, _, _ => none
  | _ => none

theorem nilRo_ok {P : Program} {l : List AV} {o : Oper} {v : AV} (h : nilRo P l o = some v) : KOk P o l v .p := by
  unfold nilRo at h
  split at h <;> try (simp at h; done)
  rename_i op t x y ty hop
  have key : ∀ (n : Nat) (xs : List (List AV)) (m : Nat) (bb : Bool), aev l x = .ro n xs true → aev l y = .lit (.slice none 0 0) → sliceElem P t = some m → (op = .eql ∧ bb = false) ∨ (op = .neq ∧ bb = true) → KOk P o l (.lit (.bool bb)) .p := by
    intro n xs m bb hx hy hn hb H _ l' hl'
    refine OOk.of_q ?_
    intro E a hH hI hl
    have hxv := aev_ok hl x
    rw [hl' x (by rw [hop]; simp [Op.operands]), hx] at hxv
    have hyv := aev_ok hl y
    rw [hl' y (by rw [hop]; simp [Op.operands]), hy] at hyv
    simp only [CRel] at hyv
    have hu : ∃ e, P.underlying t = some (.slice e) := by
      unfold sliceElem at hn
      split at hn <;> try (simp at hn; done)
      rename_i e hu; exact ⟨e, hu⟩
    obtain ⟨e, hu⟩ := hu
    obtain ⟨b, cap, hsl, hz, _⟩ := hxv
    obtain ⟨q, rfl⟩ := Option.ne_none_iff_exists'.1 (hz rfl)
    refine ⟨.bool bb, ?_, rfl⟩
    rcases hb with ⟨rfl, rfl⟩ | ⟨rfl, rfl⟩ <;>
      simp [execOp, hop, hsl, hyv, eqGuard, binOp, run_equal_slice_nil E.w t e _ _ _ hu]
  split at h <;> try (simp at h; done)
  · rename_i n xs m hx hy hn
    simp only [Option.some.injEq] at h; subst h
    exact key n xs m false hx hy hn (.inl ⟨rfl, rfl⟩)
  · rename_i n xs m hx hy hn
    simp only [Option.some.injEq] at h; subst h
    exact key n xs m true hx hy hn (.inr ⟨rfl, rfl⟩)

end Go.Am
end PartAmNilR

section PartAmSym
/- The run of a piece of code on values that may be symbolic: what is not decided is told by a script, and owed. The operations' effects are a parameter. -/
namespace Go.Am
open Go

/-- A block of data: no number stands in it. -/
def Flat (B : Blk) : Prop := (∀ ρ, B.ren ρ = B) ∧ blkUnder 0 B = true

mutual
theorem ren_data {ρ : Nat → Nat} : ∀ av : AV, dataOk av = true → ren ρ av = av ∧ under 0 av = true
  | .lit _, _ => ⟨rfl, rfl⟩
  | .ro _ _ _, _ => ⟨rfl, rfl⟩
  | .rop _ _, _ => ⟨rfl, rfl⟩
  | .rom _, _ => ⟨rfl, rfl⟩
  | .any, _ => ⟨rfl, rfl⟩
  | .own .., h => by simp [dataOk] at h
  | .ptr .., h => by simp [dataOk] at h
  | .win .., h => by simp [dataOk] at h
  | .agg cs, h => by obtain ⟨h1, h2⟩ := renL_data (ρ := ρ) cs h; exact ⟨by simp [ren, h1], h2⟩
  | .tup cs, h => by obtain ⟨h1, h2⟩ := renL_data (ρ := ρ) cs h; exact ⟨by simp [ren, h1], h2⟩
  | .fn f a b, h => by
    simp only [dataOk, Bool.and_eq_true] at h
    obtain ⟨h1, h2⟩ := renL_data (ρ := ρ) a h.1
    obtain ⟨h3, h4⟩ := renL_data (ρ := ρ) b h.2
    exact ⟨by simp [ren, h1, h3], by simp [under, h2, h4]⟩
  | .ifc t v, h => by obtain ⟨h1, h2⟩ := ren_data (ρ := ρ) v h; exact ⟨by simp [ren, h1], h2⟩
theorem renL_data {ρ : Nat → Nat} : ∀ cs : List AV, dataAll cs = true → renL ρ cs = cs ∧ underAll 0 cs = true
  | [], _ => ⟨rfl, rfl⟩
  | c :: cs, h => by
    simp only [dataAll, Bool.and_eq_true] at h
    obtain ⟨h1, h2⟩ := ren_data (ρ := ρ) c h.1
    obtain ⟨h3, h4⟩ := renL_data (ρ := ρ) cs h.2
    exact ⟨by simp [renL, h1, h3], by simp [underAll, h2, h4]⟩
end

theorem renR_data {ρ : Nat → Nat} : ∀ rs : List (List AV), rs.all dataAll = true → renR ρ rs = rs ∧ rs.all (underAll 0) = true
  | [], _ => ⟨rfl, rfl⟩
  | r :: rs, h => by
    simp only [List.all_cons, Bool.and_eq_true] at h
    obtain ⟨h1, h2⟩ := renL_data (ρ := ρ) r h.1
    obtain ⟨h3, h4⟩ := renR_data (ρ := ρ) rs h.2
    exact ⟨by simp [renR, h1, h3], by simp only [List.all_cons, h2, h4, Bool.and_self]⟩

theorem Flat.arr {n v : Nat} {rows : List (List AV)} (h : rows.all dataAll = true) : Flat (.arr n v rows) :=
  ⟨fun ρ => by simp [Blk.ren, (renR_data (ρ := ρ) rows h).1], (renR_data (ρ := id) rows h).2⟩
theorem Flat.box {v : Nat} {e : List AV} (h : dataAll e = true) : Flat (.box v e) :=
  ⟨fun ρ => by simp [Blk.ren, (renL_data (ρ := ρ) e h).1], (renL_data (ρ := id) e h).2⟩

mutual
theorem under_mono {n m : Nat} (h : n ≤ m) : ∀ av : AV, under n av = true → under m av = true
  | .lit _, _ => rfl
  | .ro _ _ _, _ => rfl
  | .rop _ _, _ => rfl
  | .rom _, _ => rfl
  | .any, _ => rfl
  | .own .., k => by simp only [under, decide_eq_true_eq] at *; omega
  | .ptr .., k => by simp only [under, decide_eq_true_eq] at *; omega
  | .win .., k => by simp only [under, decide_eq_true_eq] at *; omega
  | .agg cs, k => underAll_mono h cs k
  | .tup cs, k => underAll_mono h cs k
  | .fn _ a b, k => by
    simp only [under, Bool.and_eq_true] at *
    exact ⟨underAll_mono h a k.1, underAll_mono h b k.2⟩
  | .ifc _ v, k => under_mono h v k
theorem underAll_mono {n m : Nat} (h : n ≤ m) : ∀ cs : List AV, underAll n cs = true → underAll m cs = true
  | [], _ => rfl
  | c :: cs, k => by
    simp only [underAll, Bool.and_eq_true] at *
    exact ⟨under_mono h c k.1, underAll_mono h cs k.2⟩
end

theorem blkUnder_mono {n m : Nat} (h : n ≤ m) {B : Blk} (k : blkUnder n B = true) : blkUnder m B = true := by
  cases B with
  | box v e => exact underAll_mono h e k
  | arr a v rows =>
    simp only [blkUnder, List.all_eq_true] at *
    exact fun r hr => underAll_mono h r (k r hr)

/-- What a call on data promises: a value, blocks of data that are made; and what it asks. -/
structure SEnt where
  f : FuncId
  go : List AV → Option (AV × HL × List Prop)

def SEnt.Ok (P : Program) (s : SEnt) : Prop := ∀ az v Bs obs, s.go az = some (v, Bs, obs) → (∀ q ∈ obs, q) → FC P s.f az hnil v (hof Bs) ∧ under Bs.length v = true ∧ ∀ B ∈ Bs, Flat B
def SOk (P : Program) (S : List SEnt) : Prop := ∀ s ∈ S, s.Ok P
theorem SOk.nil {P : Program} : SOk P [] := fun _ h => by simp at h
theorem SOk.cons {P : Program} {s : SEnt} {S : List SEnt} (h : s.Ok P) (k : SOk P S) : SOk P (s :: S) := fun x hx => by
  rcases List.mem_cons.1 hx with rfl | hx
  · exact h
  · exact k x hx

def symLib : List SEnt → FuncId → List AV → Option (AV × HL × List Prop)
  | [], _, _ => none
  | s :: S, f, az => if Nat.beq s.f f = true then s.go az else symLib S f az

theorem symLib_ok {P : Program} : ∀ {S : List SEnt}, SOk P S → ∀ {f : FuncId} {az : List AV} {v : AV} {Bs : HL} {obs : List Prop}, symLib S f az = some (v, Bs, obs) → (∀ q ∈ obs, q) → FC P f az hnil v (hof Bs) ∧ under Bs.length v = true ∧ ∀ B ∈ Bs, Flat B
  | [], _, _, _, _, _, _, h => by simp [symLib] at h
  | s :: S, hS, f, az, v, Bs, obs, h => by
    simp only [symLib] at h
    split at h
    · rename_i hc
      have := Nat.eq_of_beq_eq_true hc
      subst this
      exact hS s List.mem_cons_self az v Bs obs h
    · exact symLib_ok (S := S) (fun x hx => hS x (List.mem_cons_of_mem _ hx)) h

theorem hof_nil : hof [] = hnil := by funext i; simp [hof, hnil]

/-- A call on data, in whatever heap: its blocks have the next numbers. -/
theorem FC.make {P : Program} {f : FuncId} {az : List AV} {v : AV} {Bs : HL} (hf : FC P f az hnil v (hof Bs)) (ha : dataAll az = true) (hv : under Bs.length v = true) (hB : ∀ B ∈ Bs, Flat B) {n : Nat} {H : Hp}
    (hnew : ∀ i ∈ List.range' n Bs.length, H i = none) : FC P f az H (Am.ren (n + ·) v) (upds H ((List.range' n Bs.length).zip Bs)) := by
  have hR : (List.range' n Bs.length).Nodup := List.nodup_range'
  have hg : ∀ i, i < Bs.length → rof (List.range' n Bs.length) i = n + i := fun i hi => by
    simp only [rof, List.getD_eq_getElem?_getD]
    rw [List.getElem?_range' hi]; simp
  have := FC.ren (P := P) (f := f) (args := az) (La := []) (La' := Bs) (v := v) (by rw [hof_nil]; exact hf) (R := List.range' n Bs.length) (H := H) hR (by simp) (by simp) (by simp)
    (fun i _ hi => hnew _ (by rw [hg i (by simpa using hi)]; rw [List.mem_range'_1]; simp at hi; omega)) rfl
    (by rw [List.all_eq_true]; intro B hb; exact blkUnder_mono (Nat.zero_le _) (hB B hb).2) (renL_data (ρ := id) az ha).2 hv
  rw [(renL_data (ρ := rof (List.range' n Bs.length)) az ha).1, ren_congr (ρ := rof (List.range' n Bs.length)) (ρ' := (n + ·)) hg v hv] at this
  have hw := upds_wrOf (H := H) (rof (List.range' n Bs.length)) hR (show Bs.length = (List.range' n Bs.length).length by simp)
  have hm : ((List.range' n Bs.length).zip Bs).map (fun p => (p.1, p.2.ren (rof (List.range' n Bs.length)))) = (List.range' n Bs.length).zip Bs := by
    conv => rhs; rw [← List.map_id ((List.range' n Bs.length).zip Bs)]
    refine List.map_congr_left fun p hp => ?_
    have := (hB p.2 (List.of_mem_zip hp).2).1 (rof (List.range' n Bs.length))
    simp [this]
  rw [← hm, hw]
  exact this

abbrev Eff := List AV → HL → Oper → List Sc → Option (AV × HL × List Sc × List Prop × K)
def EffOk (P : Program) (eff : Eff) : Prop := ∀ l L o sc v L' sc' obs k, eff l L o sc = some (v, L', sc', obs, k) → (∀ q ∈ obs, q) → KOk P o l v k ∧ k.ph (hof L) ∧ hof L' = upds (hof L) k.wr

/-- An operation that decides itself, as one of a run by script. -/
def plainK (L : HL) (sc : List Sc) (r : Option (AV × K)) : Option (AV × HL × List Sc × List Prop × K) :=
  match r with
  | some (v, k) => match setL L k.wr with | some L' => some (v, L', sc, [], k) | none => none
  | none => none

/-- The bytes of a slice, as a string that the script tells. -/
def strOp (P : Program) (l : List AV) (o : Oper) (sc : List Sc) : Option (AV × List Sc × List Prop) :=
  match o.op with
  | .convert src dst x => match aev l x, sc with
    | .ro 1 xs _, .av (.lit (.string s)) :: sc => if isBytes P src ≠ none ∧ isStrT P dst = true then some (.lit (.string s), sc, [rowBytes xs = some s.data.toList]) else none
    | _, _ => none
  | _ => none

/-- append to a slice of one's own whose version may be symbolic. -/
def appQ (P : Program) (H : Hp) (l : List AV) (o : Oper) : Option (AV × K × Nat × Prop) :=
  match o.op with
  | .call { callee := .builtin .append, args, argTypes } =>
    match args.toList, argTypes.toList with
    | [x, y], [st, xt] =>
      match appTy P st xt, ysOf H (aev l y), aev l x with
      | some (_, n, bt), some (ys, rd), .own id ver off len nz =>
        if wFits H (aev l y) n = true then
          match H id with
          | some (.arr k v rows) => if k = n then
              some (.own id (ver + 1) 0 (len + ys.length) nz, .s id (.arr k v rows) (.arr n (ver + 1) ((rows.drop off).take len ++ ys)) rd, (2 * (len + ys.length) + 1024) * bt, v = ver)
            else none
          | _ => none
        else none
      | _, _, _ => none
    | _, _ => none
  | _ => none

theorem appQ_ok {P : Program} {H : Hp} {l : List AV} {o : Oper} {v : AV} {k : K} {z : Nat} {q : Prop} (fresh : Nat) (h : appQ P H l o = some (v, k, z, q)) (hq : q) : appOp P H l fresh o = some (v, k, z) := by
  unfold appQ at h
  split at h <;> try (simp at h; done)
  rename_i args ts hop
  split at h <;> try (simp at h; done)
  rename_i x y st xt hx hy
  split at h <;> try (simp at h; done)
  rename_i e n bt ys rd id ver off len nz hty hys hav
  split at h <;> try (simp at h; done)
  rename_i hw
  split at h <;> try (simp at h; done)
  rename_i k0 v0 rows hB
  split at h <;> try (simp at h; done)
  rename_i hk
  simp only [Option.some.injEq, Prod.mk.injEq] at h; obtain ⟨rfl, rfl, rfl, rfl⟩ := h
  unfold appOp
  rw [hop]
  simp only [hx, hy, hty, hys, hw, if_true, hav, hB, hq, hk, and_self]

def effQ (P : Program) (S : List SEnt) : Eff := fun l L o sc =>
  match o.op with
  | .buildSlice _ _ _ => match bsOp P l L.length o with | some (v, B) => some (v, L ++ [B], sc, [], .a L.length B []) | none => none
  | .call { callee := .builtin .append, args := _, argTypes := _ } => match appQ P (hof L) l o with
    | some (v, k, z, q) => match setL L k.wr with | some L' => some (v, L', sc, [q, z ≤ 2 ^ 48], k) | none => none
    | none => match appOp P (hof L) l L.length o with
      | some (v, k, z) => match setL L k.wr with | some L' => some (v, L', sc, [z ≤ 2 ^ 48], k) | none => none
      | none => none
  | .call { callee := .value x, args, argTypes } => match callee l ⟨.value x, args, argTypes⟩ with
    | some (f, az) => if (enters P f && dataAll az) = true then
        match symLib S f az with
        | some (v, Bs, obs) => some (Am.ren (L.length + ·) v, L ++ Bs, sc, obs, .m [] (List.range' L.length Bs.length) ((List.range' L.length Bs.length).zip Bs))
        | none => none
      else none
    | none => none
  | .convert _ _ _ => match strOp P l o sc with
    | some (v, sc', obs) => some (v, L, sc', obs, .m [] [] [])
    | none => effOp P l L o sc
  | .binOp _ _ _ _ _ => match nilRo P l o with
    | some v => some (v, L, sc, [], .p)
    | none => match nilOp P (hof L) l o with
      | some (v, id, ver, esz) => some (v, L, sc, [], .h id ver esz)
      | none => effOp P l L o sc
  | .index _ _ _ => match idxOp P l o with | some v => some (v, L, sc, [], .p) | none => effOp P l L o sc
  | _ => effOp P l L o sc


theorem strOp_ok {P : Program} {l : List AV} {H : Hp} {o : Oper} {sc sc' : List Sc} {v : AV} {obs : List Prop} (h : strOp P l o sc = some (v, sc', obs)) (ho : ∀ q ∈ obs, q) : KOk P o l v (.m [] [] []) := by
  unfold strOp at h
  split at h <;> try (simp at h; done)
  rename_i src dst x hop
  split at h <;> try (simp at h; done)
  rename_i xs nz s sc0 hx
  split at h <;> try (simp at h; done)
  rename_i hc
  simp only [Option.some.injEq, Prod.mk.injEq] at h; obtain ⟨rfl, rfl, rfl⟩ := h
  have hr := ho _ (List.mem_singleton.2 rfl)
  have : convB P H l o = some (.lit (.string s), []) := by
    unfold convB
    rw [hop]
    simp only [hx, ysOf, hc.2, wFits, wOf, isStrV, hr]
    cases hb : isBytes P src with
    | none => exact absurd hb hc.1
    | some e => simp [hr]
  exact (convB_ok this).1

theorem upds_append {H : Hp} : ∀ {a b : List (Nat × Blk)}, upds H (a ++ b) = upds (upds H a) b
  | [], _ => rfl
  | _ :: a, b => by simp only [List.cons_append, upds]; exact upds_append

theorem hof_append {L : HL} : ∀ {Bs : HL}, hof (L ++ Bs) = upds (hof L) ((List.range' L.length Bs.length).zip Bs)
  | [] => by simp [upds]
  | B :: Bs => by
    have ih := hof_append (L := L ++ [B]) (Bs := Bs)
    simp only [List.append_assoc, List.cons_append, List.nil_append, List.length_append, List.length_cons, List.length_nil] at ih
    simp only [List.length_cons, List.range'_succ, List.zip_cons_cons, upds, ← hof_push]
    exact ih

theorem effQ_ok {P : Program} {S : List SEnt} (hS : SOk P S) : EffOk P (effQ P S) := by
  intro l L o sc v L' sc' obs k h ho
  unfold effQ at h
  split at h
  · split at h <;> try (simp at h; done)
    rename_i v0 B hal
    simp only [Option.some.injEq, Prod.mk.injEq] at h; obtain ⟨rfl, rfl, rfl, rfl, rfl⟩ := h
    exact ⟨fun H hH l' hl' => bsOp_ok (by rw [bsOp_env hl']; exact hal) hH.1, ⟨hof_end, by simp [sees]⟩, hof_push⟩
  · split at h
    · rename_i v0 k0 z q hap
      split at h <;> try (simp at h; done)
      rename_i L1 hL1
      simp only [Option.some.injEq, Prod.mk.injEq] at h; obtain ⟨rfl, rfl, rfl, rfl, rfl⟩ := h
      obtain ⟨h1, h2⟩ := appOp_ok (appQ_ok L.length hap (ho _ List.mem_cons_self)) (ho _ (List.mem_cons_of_mem _ (List.mem_singleton.2 rfl)))
      exact ⟨h1, h2 hof_end, setL_ok hL1⟩
    · split at h <;> try (simp at h; done)
      rename_i v0 k0 z hap
      split at h <;> try (simp at h; done)
      rename_i L1 hL1
      simp only [Option.some.injEq, Prod.mk.injEq] at h; obtain ⟨rfl, rfl, rfl, rfl, rfl⟩ := h
      obtain ⟨h1, h2⟩ := appOp_ok hap (ho _ (List.mem_singleton.2 rfl))
      exact ⟨h1, h2 hof_end, setL_ok hL1⟩
  · rename_i x args ts hop
    split at h <;> try (simp at h; done)
    rename_i f az hc
    split at h <;> try (simp at h; done)
    rename_i hk
    split at h <;> try (simp at h; done)
    rename_i v0 Bs obs0 hs
    simp only [Option.some.injEq, Prod.mk.injEq] at h; obtain ⟨rfl, rfl, rfl, rfl, rfl⟩ := h
    simp only [Bool.and_eq_true] at hk
    obtain ⟨s1, s2, s3⟩ := symLib_ok hS hs ho
    refine ⟨fun H hH l' hl' => ?_, ⟨fun i hi => ?_, by simp [sees]⟩, hof_append⟩
    · exact call_ok hop (by rw [callee_env (l := l) fun y hy => hl' y (by rw [hop]; exact hy)]; exact hc) hk.1 (FC.make s1 hk.2 s2 s3 hH.1)
    · simp only [hof]; exact List.getElem?_eq_none (by have := (List.mem_range'_1.1 hi).1; omega)
  · split at h
    · rename_i v0 sc0 obs0 hs
      simp only [Option.some.injEq, Prod.mk.injEq] at h; obtain ⟨rfl, rfl, rfl, rfl, rfl⟩ := h
      exact ⟨strOp_ok (H := hof L) hs ho, ⟨by simp, by simp [sees]⟩, rfl⟩
    · exact effOp_ok h ho
  · split at h
    · rename_i v0 hs
      simp only [Option.some.injEq, Prod.mk.injEq] at h; obtain ⟨rfl, rfl, rfl, rfl, rfl⟩ := h
      exact ⟨nilRo_ok hs, trivial, rfl⟩
    · split at h
      · rename_i v0 id ver esz hnl
        simp only [Option.some.injEq, Prod.mk.injEq] at h; obtain ⟨rfl, rfl, rfl, rfl, rfl⟩ := h
        obtain ⟨h1, h2⟩ := nilOp_ok hnl
        exact ⟨h1, h2, rfl⟩
      · exact effOp_ok h ho
  · split at h
    · rename_i v0 hs
      simp only [Option.some.injEq, Prod.mk.injEq] at h; obtain ⟨rfl, rfl, rfl, rfl, rfl⟩ := h
      exact ⟨idxOp_ok hs, trivial, rfl⟩
    · exact effOp_ok h ho
  · exact effOp_ok h ho

end Go.Am
end PartAmSym

section PartAmSymRun
/- The run of a region, of code and of a function, by script, with the operations' effects as a parameter. -/
namespace Go.Am
open Go

def stepG (eff : Eff) (ops : Array Oper) (i : Nat) (o : Oper) (s : RS) : Option (RS × TI) :=
  match guardR ops o s with
  | some (true, sc, obs) => match eff (guardL ops o s) s.L o sc with
    | some (v, L', sc', obs', k) => some (⟨putL (guardL ops o s) o.dst v, L', sc', obs ++ obs'⟩, ⟨i, o, guardL ops o s, true, v, k⟩)
    | none => none
  | some (false, sc, obs) => some (⟨putL (guardL ops o s) o.dst (.lit undef), s.L, sc, obs⟩, ⟨i, o, guardL ops o s, false, .any, .p⟩)
  | none => none

def runG (eff : Eff) (ops : Array Oper) : Nat → List Oper → RS → Option (RS × List TI)
  | _, [], s => some (s, [])
  | i, o :: os, s => match stepG eff ops i o s with
    | some (s', t) => match runG eff ops (i + 1) os s' with
      | some (s'', ts) => some (s'', t :: ts)
      | none => none
    | none => none

theorem stepG_ok {P : Program} {eff : Eff} (he : EffOk P eff) {ops : Array Oper} {i : Nat} {o : Oper} {s s' : RS} {t : TI} (h : stepG eff ops i o s = some (s', t)) (hi : ops[i]? = some o) (ho : ∀ q ∈ s'.obs, q) :
    (∀ q ∈ s.obs, q) ∧ t.tn.Good P ops ∧ t.tn.pre ops s.st ∧ t.tn.next s.st = s'.st ∧ t.idx = i ∧ t.o = o := by
  unfold stepG at h
  split at h <;> try (simp at h; done)
  · rename_i sc obs hg
    split at h <;> try (simp at h; done)
    rename_i v L' sc' obs' k hef
    simp only [Option.some.injEq, Prod.mk.injEq] at h; obtain ⟨rfl, rfl⟩ := h
    have ho1 : ∀ q ∈ obs, q := fun q hq => ho q (by simp [hq])
    have ho2 : ∀ q ∈ obs', q := fun q hq => ho q (by simp [hq])
    obtain ⟨g1, g2, g3⟩ := guardR_mono hg ho1
    rw [g2] at hef ⊢
    obtain ⟨e1, e2, e3⟩ := he _ _ _ _ _ _ _ _ _ hef ho2
    refine ⟨g1, ⟨hi, ?_, fun _ H hH l' hl' => e1 H hH l' hl'⟩, ⟨fun _ _ => rfl, fun _ _ => rfl, fun _ => e2⟩, ?_, rfl, rfl⟩
    · simp only [TI.tn]; split
      · trivial
      · rename_i j c hgd
        rw [hgd] at g3; exact g3
    · simp only [Tn.next, TI.tn, RS.st, if_true]; rw [e3]
  · rename_i sc obs hg
    simp only [Option.some.injEq, Prod.mk.injEq] at h; obtain ⟨rfl, rfl⟩ := h
    obtain ⟨g1, g2, g3⟩ := guardR_mono hg ho
    rw [g2]
    refine ⟨g1, ⟨hi, ?_, fun hw => by simp [TI.tn] at hw⟩, ⟨fun _ _ => rfl, fun _ _ => rfl, fun hw => by simp [TI.tn] at hw⟩, ?_, rfl, rfl⟩
    · simp only [TI.tn]; split
      · rename_i hgd; rw [hgd] at g3; simp at g3
      · rename_i j c hgd
        rw [hgd] at g3; exact g3
    · simp [Tn.next, TI.tn, RS.st]

theorem runG_ok {P : Program} {eff : Eff} (he : EffOk P eff) {ops : Array Oper} : ∀ (os : List Oper) (i : Nat) (s s' : RS) (ts : List TI), runG eff ops i os s = some (s', ts) → (∀ k o, os[k]? = some o → ops[i + k]? = some o) → (∀ q ∈ s'.obs, q) →
    (∀ q ∈ s.obs, q) ∧ Lex ops (ts.map TI.tn) s.st s'.st ∧ (∀ t ∈ ts, t.tn.Good P ops) ∧ ts.map (·.idx) = List.range' i os.length ∧ ts.map (·.o) = os
  | [], i, s, s', ts, h, _, ho => by
    simp only [runG, Option.some.injEq, Prod.mk.injEq] at h; obtain ⟨rfl, rfl⟩ := h
    exact ⟨ho, rfl, by simp, rfl, rfl⟩
  | o :: os, i, s, s', ts, h, hi, ho => by
    simp only [runG] at h
    split at h <;> try (simp at h; done)
    rename_i s1 t hs
    split at h <;> try (simp at h; done)
    rename_i s2 ts' hr
    simp only [Option.some.injEq, Prod.mk.injEq] at h; obtain ⟨rfl, rfl⟩ := h
    obtain ⟨r1, r2, r3, r4, r5⟩ := runG_ok he os (i + 1) s1 s2 ts' hr (fun k o' hk => by have := hi (k + 1) o' (by simpa using hk); rw [show i + 1 + k = i + (k + 1) from by omega]; exact this) ho
    obtain ⟨q1, q2, q3, q4, q5, q6⟩ := stepG_ok he hs (by simpa using hi 0 o (by simp)) r1
    refine ⟨q1, ⟨q3, by rw [q4]; exact r2⟩, ?_, ?_, ?_⟩
    · intro t' ht'; rcases List.mem_cons.1 ht' with rfl | ht'
      · exact q2
      · exact r3 t' ht'
    · simp [r4, q5, List.range'_succ]
    · simp [r5, q6]

theorem regionG_text {P : Program} {eff : Eff} (he : EffOk P eff) {id : Nat} {ops : Array Oper} {s s' : RS} {ts : List TI} (h : runG eff ops 0 ops.toList s = some (s', ts)) (ho : ∀ q ∈ s'.obs, q) : CW P (.region id ops false) s.st .normal s'.st := by
  obtain ⟨_, r2, r3, r4, _⟩ := runG_ok he ops.toList 0 s s' ts h (fun k o hk => by simpa using hk) ho
  exact text_of_lex r2 r3 r4

theorem regionG_draw {P : Program} {eff : Eff} (he : EffOk P eff) (hm : P.follows .mixedOrders = true) {id : Nat} {ops : Array Oper} {s s' : RS} {ts : List TI} {obs : List Prop} (h : runG eff ops 0 ops.toList s = some (s', ts)) (ho : ∀ q ∈ s'.obs, q)
    (hb : backOk ops.toList = true) (hw : owedAll ops (bitsL [] ops.toList) [] ts = some obs) (ho2 : ∀ q ∈ obs, q) : CW P (.region id ops true) s.st .normal s'.st := by
  obtain ⟨_, r2, r3, r4, r5⟩ := runG_ok he ops.toList 0 s s' ts h (fun k o hk => by simpa using hk) ho
  refine draw_of_lex hm r2 r3 r4 hb fun j hj i hi hlt hn => ?_
  rcases owedAll_ok ts [] obs hw ho2 (idx_pairwise r4) j hj i hi hlt with h1 | h1
  · exact absurd (bitsL_ok ops.toList [] (fun k o hk => by simpa using hk) (fun i j hb => by simp at hb) _ _ h1) hn
  · exact h1

/-- A mask, as a script bears it: a place that is told is kept. -/
def maskAV : List AV → List Bool
  | [] => []
  | .any :: r => false :: maskAV r
  | _ :: r => true :: maskAV r

def runCG (P : Program) (eff : Eff) : Code → RS → Option (Ex × RS)
  | .skip, s => some (.normal, s)
  | .label _, s => some (.normal, s)
  | .ret, s => some (.ret, s)
  | .exit id, s => some (.exit id, s)
  | .seq a b, s => match runCG P eff a s with
    | some (.normal, s') => runCG P eff b s'
    | r => r
  | .cond c x y, s => match aev s.l c, s.sc with
    | .lit (.bool b), .dec true :: sc => runCG P eff x ⟨s.l, s.L, sc, s.obs ++ [b = true]⟩
    | .lit (.bool b), .dec false :: sc => runCG P eff y ⟨s.l, s.L, sc, s.obs ++ [b = false]⟩
    | _, _ => none
  | .block id c, s => match runCG P eff c s with
    | some (.exit id', s') => if id' = id then some (.normal, s') else some (.exit id', s')
    | r => r
  | .loop c, s => match s.sc with
    | .lp ex l' L' :: sc => some (ex, ⟨l', L', sc, s.obs ++ [CW P (.loop c) s.st ex (l', hof L')]⟩)
    | .av (.tup m) :: .lp ex l' L' :: sc => some (ex, ⟨l', L', sc, s.obs ++ [CW P (.loop c) (maskL (maskAV m) s.l, hof s.L) ex (l', hof L')]⟩)
    | _ => none
  | .region _ ops false, s => match runG eff ops 0 ops.toList s with
    | some (s', _) => some (.normal, s')
    | none => none
  | .region _ ops true, s => match runG eff ops 0 ops.toList s with
    | some (s', ts) => if backOk ops.toList = true then match owedAll ops (bitsL [] ops.toList) [] ts with
        | some obs => some (.normal, ⟨s'.l, s'.L, s'.sc, s'.obs ++ obs⟩)
        | none => none
      else none
    | none => none
  | _, _ => none

theorem runCG_ok {P : Program} {eff : Eff} (he : EffOk P eff) (hm : P.follows .mixedOrders = true) : ∀ (c : Code) (s s' : RS) (ex : Ex), runCG P eff c s = some (ex, s') → (∀ q ∈ s'.obs, q) → (∀ q ∈ s.obs, q) ∧ CW P c s.st ex s'.st
  | .skip, s, s', ex, h, ho => by
    simp only [runCG, Option.some.injEq, Prod.mk.injEq] at h; obtain ⟨rfl, rfl⟩ := h; exact ⟨ho, CW.skip⟩
  | .label _, s, s', ex, h, ho => by
    simp only [runCG, Option.some.injEq, Prod.mk.injEq] at h; obtain ⟨rfl, rfl⟩ := h; exact ⟨ho, CW.label⟩
  | .ret, s, s', ex, h, ho => by
    simp only [runCG, Option.some.injEq, Prod.mk.injEq] at h; obtain ⟨rfl, rfl⟩ := h; exact ⟨ho, CW.ret⟩
  | .exit id, s, s', ex, h, ho => by
    simp only [runCG, Option.some.injEq, Prod.mk.injEq] at h; obtain ⟨rfl, rfl⟩ := h; exact ⟨ho, CW.exit⟩
  | .seq a b, s, s', ex, h, ho => by
    simp only [runCG] at h
    cases ha : runCG P eff a s with
    | none => rw [ha] at h; simp at h
    | some r =>
      obtain ⟨ex1, s1⟩ := r
      rw [ha] at h
      by_cases hx : ex1 = .normal
      · subst hx
        simp only at h
        obtain ⟨o1, c1⟩ := runCG_ok he hm b s1 s' ex h ho
        obtain ⟨o2, c2⟩ := runCG_ok he hm a s s1 .normal ha o1
        exact ⟨o2, CW.seq c2 c1⟩
      · have h' : ex1 = ex ∧ s1 = s' := by cases ex1 <;> first | exact absurd rfl hx | (simpa using h)
        obtain ⟨rfl, rfl⟩ := h'
        obtain ⟨o2, c2⟩ := runCG_ok he hm a s s1 ex1 ha ho
        exact ⟨o2, CW.seq_out c2 hx⟩
  | .cond c x y, s, s', ex, h, ho => by
    simp only [runCG] at h
    split at h <;> try (simp at h; done)
    · rename_i b sc hc hs
      obtain ⟨o1, c1⟩ := runCG_ok he hm x _ s' ex h ho
      have hb : b = true := o1 _ (by simp)
      subst hb
      exact ⟨fun q hq => o1 q (by simp [hq]), CW.cond (b := true) hc c1⟩
    · rename_i b sc hc hs
      obtain ⟨o1, c1⟩ := runCG_ok he hm y _ s' ex h ho
      have hb : b = false := o1 _ (by simp)
      subst hb
      exact ⟨fun q hq => o1 q (by simp [hq]), CW.cond (b := false) hc c1⟩
  | .block id c, s, s', ex, h, ho => by
    simp only [runCG] at h
    cases hc : runCG P eff c s with
    | none => rw [hc] at h; simp at h
    | some r =>
      obtain ⟨ex1, s1⟩ := r
      rw [hc] at h
      cases ex1 with
      | exit id' =>
        simp only at h
        split at h
        · rename_i hx; subst hx
          simp only [Option.some.injEq, Prod.mk.injEq] at h; obtain ⟨rfl, rfl⟩ := h
          obtain ⟨o1, c1⟩ := runCG_ok he hm c s s1 _ hc ho
          exact ⟨o1, CW.block_exit c1⟩
        · rename_i hx
          simp only [Option.some.injEq, Prod.mk.injEq] at h; obtain ⟨rfl, rfl⟩ := h
          obtain ⟨o1, c1⟩ := runCG_ok he hm c s s1 _ hc ho
          exact ⟨o1, CW.block c1 (by simpa using hx)⟩
      | _ =>
        simp only [Option.some.injEq, Prod.mk.injEq] at h; obtain ⟨rfl, rfl⟩ := h
        obtain ⟨o1, c1⟩ := runCG_ok he hm c s s1 _ hc ho
        exact ⟨o1, CW.block c1 (by simp)⟩
  | .loop c, s, s', ex, h, ho => by
    simp only [runCG] at h
    split at h <;> try (simp at h; done)
    · simp only [Option.some.injEq, Prod.mk.injEq] at h; obtain ⟨rfl, rfl⟩ := h
      exact ⟨fun q hq => ho q (List.mem_append_left _ hq), ho _ (List.mem_append_right _ (List.mem_singleton.2 rfl))⟩
    · rename_i m ex0 l' L' sc hsc
      simp only [Option.some.injEq, Prod.mk.injEq] at h; obtain ⟨rfl, rfl⟩ := h
      exact ⟨fun q hq => ho q (List.mem_append_left _ hq), CW.weak_in (maskAV m) rfl (ho _ (List.mem_append_right _ (List.mem_singleton.2 rfl)))⟩
  | .region _ ops false, s, s', ex, h, ho => by
    simp only [runCG] at h
    split at h <;> try (simp at h; done)
    rename_i s1 ts hr
    simp only [Option.some.injEq, Prod.mk.injEq] at h; obtain ⟨rfl, rfl⟩ := h
    exact ⟨(runG_ok he ops.toList 0 s s1 ts hr (fun k o hk => by simpa using hk) ho).1, regionG_text he hr ho⟩
  | .region rid ops true, s, s', ex, h, ho => by
    simp only [runCG] at h
    split at h <;> try (simp at h; done)
    rename_i s1 ts hr
    split at h <;> try (simp at h; done)
    rename_i hb
    split at h <;> try (simp at h; done)
    rename_i obs hw
    simp only [Option.some.injEq, Prod.mk.injEq] at h; obtain ⟨rfl, rfl⟩ := h
    have o1 : ∀ q ∈ s1.obs, q := fun q hq => ho q (by simp [hq])
    have hd : CW P (.region rid ops true) s.st .normal s1.st := regionG_draw he hm hr o1 hb hw fun q hq => ho q (by simp [hq])
    exact ⟨(runG_ok he ops.toList 0 s s1 ts hr (fun k o hk => by simpa using hk) o1).1, hd⟩
  | .scope _, _, _, _, h, _ => by simp [runCG] at h
  | .goto _, _, _, _, h, _ => by simp [runCG] at h
  | .rangeFunc .., _, _, _, h, _ => by simp [runCG] at h
  | .refuse _, _, _, _, h, _ => by simp [runCG] at h


end Go.Am
end PartAmSymRun
