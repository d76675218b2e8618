/- Own rules for runs over blocks that the run made itself (values told by shape, the heap by numbered blocks): part 0. No condition; nothing of the program but its types and functions as they are given. -/
import Derived.Calls
import Derived.Orders
import Derived.Below
import Derived.Laws.Sem
set_option linter.all false

section PartAmBase
/- The abstract values of our abstract machine, and what it means that a value of the model is one of them in a world. -/
namespace Go.Am
open Go

/-- The longest list that is told (more would need a bound of its own). -/
def LIM : Nat := 2 ^ 36

inductive AV where
  | lit (v : Value)
  | agg (cs : List AV)
  | tup (cs : List AV)
  | ro (esz : Nat) (xs : List (List AV)) (nz : Bool)
  | rop (e : List AV) (j : Nat)
  | rom (es : List (Value × Value))
  | own (id ver off len : Nat) (nz : Bool)
  | ptr (id ver i j : Nat)
  | win (id ver i j esz len : Nat)
  | fn (f : Fn) (first captured : List AV)
  | ifc (t : TypeId) (v : AV)
  | any

/-- A block that is owned: a box (one variable), or an array. -/
inductive Blk where
  | box (ver : Nat) (e : List AV)
  | arr (esz ver : Nat) (rows : List (List AV))
def Blk.esz : Blk → Nat | .box _ e => e.length | .arr n _ _ => n
def Blk.ver : Blk → Nat | .box v _ => v | .arr _ v _ => v
def Blk.rows : Blk → List (List AV) | .box _ e => [e] | .arr _ _ r => r

/-- A view of a world: the blocks that are owned (by numbers), where they lie, the set of blocks that nothing told as read-only lies in. -/
structure Env where
  H : Nat → Option Blk
  addr : Nat → Addr
  live : Nat → Prop
  S : Nat → Prop
  w : World

def Addr.at' (a : Addr) (n : Nat) : Addr := ⟨a.block, a.off + n, none⟩

/-- How many cells block number b has. -/
def bsz (w : World) (b : Nat) : Nat := match w.heap[b]? with | some (.cells c _ _) => c.size | _ => 0

mutual
/-- Data: what is told without blocks of one's own. It lies outside of S. -/
def DRel (S : Nat → Prop) (w : World) : AV → Value → Prop
  | .lit v, x => x = v
  | .agg cs, x => ∃ vs : Array Value, x = .agg vs ∧ DCs S w cs vs.toList
  | .tup cs, x => ∃ vs : Array Value, x = .tuple vs ∧ DCs S w cs vs.toList
  | .ro esz xs nz, x => ∃ a cap, x = .slice a xs.length cap ∧ (nz = true → a ≠ none) ∧ (a = none → cap = 0) ∧ xs.length ≤ cap ∧ xs.length ≤ LIM ∧
      (xs = [] ∨ ∃ b o, a = some ⟨b, o, none⟩ ∧ ¬ S b ∧ b < w.heap.size ∧ o + cap * esz ≤ bsz w b ∧ DRows S w b o esz xs)
  | .rop e j, x => ∃ b o, x = .pointer (some ⟨b, o + j, none⟩) ∧ ¬ S b ∧ b < w.heap.size ∧ DAt S w b o e
  | .rom es, x => ∃ b ents clock, x = .map (some b) ∧ ¬ S b ∧ b < w.heap.size ∧ w.heap[b]? = some (.map ents clock) ∧ ents.toList.map (fun e => (e.key, e.val)) = es
  | .fn f first captured, x => ∃ a b : Array Value, x = .func f a b ∧ DCs S w first a.toList ∧ DCs S w captured b.toList
  | .ifc t v, x => ∃ y, x = .iface t y ∧ DRel S w v y
  | .any, _ => True
  | .own .., _ | .ptr .., _ | .win .., _ => False
def DCs (S : Nat → Prop) (w : World) : List AV → List Value → Prop
  | [], vs => vs = []
  | c :: cs, vs => ∃ v r, vs = v :: r ∧ DRel S w c v ∧ DCs S w cs r
def DAt (S : Nat → Prop) (w : World) (b : Nat) : Nat → List AV → Prop
  | _, [] => True
  | o, c :: cs => (∃ y, w.cell? ⟨b, o, none⟩ = some y ∧ y.oneCell' = true ∧ DRel S w c y) ∧ DAt S w b (o + 1) cs
def DRows (S : Nat → Prop) (w : World) (b : Nat) : Nat → Nat → List (List AV) → Prop
  | _, _, [] => True
  | o, esz, e :: es => e.length = esz ∧ DAt S w b o e ∧ DRows S w b (o + esz) esz es
end

section
variable (E : Env)

mutual
def CRel : AV → Value → Prop
  | .lit v, x => x = v
  | .agg cs, x => ∃ vs : Array Value, x = .agg vs ∧ Cs cs vs.toList
  | .tup cs, x => ∃ vs : Array Value, x = .tuple vs ∧ Cs cs vs.toList
  | .ro esz xs nz, x => DRel E.S E.w (.ro esz xs nz) x
  | .rop e j, x => DRel E.S E.w (.rop e j) x
  | .rom es, x => DRel E.S E.w (.rom es) x
  | .own id ver off len nz, x => x.oneCell' = true ∧ ∃ B, E.H id = some B ∧ ver ≤ B.ver ∧ (ver = B.ver → off + len ≤ B.rows.length ∧
      ((∃ cap, E.live id ∧ x = .slice (some ⟨(E.addr id).block, (E.addr id).off + off * B.esz, none⟩) len cap ∧ B.rows.length ≤ off + cap ∧
          (E.addr id).off + (off + cap) * B.esz ≤ bsz E.w (E.addr id).block) ∨
       (∃ a, x = .slice a 0 0 ∧ len = 0 ∧ off = B.rows.length ∧ (nz = true → a ≠ none))))
  | .ptr id ver i j, x => x.oneCell' = true ∧ ∃ B, E.H id = some B ∧ ver ≤ B.ver ∧ (ver = B.ver → E.live id ∧ i < B.rows.length ∧
      x = .pointer (some ⟨(E.addr id).block, (E.addr id).off + i * B.esz + j, none⟩))
  | .win id ver i j esz len, x => x.oneCell' = true ∧ ∃ B, E.H id = some B ∧ ver ≤ B.ver ∧ (ver = B.ver → E.live id ∧ i < B.rows.length ∧ j + len * esz ≤ B.esz ∧
      ∃ cap, len ≤ cap ∧ x = .slice (some ⟨(E.addr id).block, (E.addr id).off + i * B.esz + j, none⟩) len cap)
  | .fn f first captured, x => ∃ a b : Array Value, x = .func f a b ∧ Cs first a.toList ∧ Cs captured b.toList
  | .ifc t v, x => ∃ y, x = .iface t y ∧ CRel v y
  | .any, _ => True
def Cs : List AV → List Value → Prop
  | [], vs => vs = []
  | c :: cs, vs => ∃ v r, vs = v :: r ∧ CRel c v ∧ Cs cs r
end

def At (b : Nat) : Nat → List AV → Prop
  | _, [] => True
  | o, c :: cs => (∃ y, E.w.cell? ⟨b, o, none⟩ = some y ∧ y.oneCell' = true ∧ CRel E c y) ∧ At b (o + 1) cs

def Rows (b : Nat) : Nat → Nat → List (List AV) → Prop
  | _, _, [] => True
  | o, esz, e :: es => e.length = esz ∧ At E b o e ∧ Rows b (o + esz) esz es

/-- What lies in a block of one's own. -/
def BRel (b o : Nat) : Blk → Prop
  | .box _ e => At E b o e
  | .arr n _ rows => Rows E b o n rows
end

mutual
theorem DRel.up {E : Env} : ∀ (av : AV) (x : Value), DRel E.S E.w av x → CRel E av x
  | .lit _, _, h => h
  | .agg cs, _, ⟨vs, h1, h2⟩ => ⟨vs, h1, DCs.up cs _ h2⟩
  | .tup cs, _, ⟨vs, h1, h2⟩ => ⟨vs, h1, DCs.up cs _ h2⟩
  | .ro _ _ _, _, h => h
  | .rop _ _, _, h => h
  | .rom _, _, h => h
  | .own .., _, h => h.elim
  | .ptr .., _, h => h.elim
  | .win .., _, h => h.elim
  | .fn _ first captured, _, ⟨a, b, h1, h2, h3⟩ => ⟨a, b, h1, DCs.up first _ h2, DCs.up captured _ h3⟩
  | .ifc _ v, _, ⟨y, h1, h2⟩ => ⟨y, h1, DRel.up v _ h2⟩
  | .any, _, _ => trivial
theorem DCs.up {E : Env} : ∀ (cs : List AV) (vs : List Value), DCs E.S E.w cs vs → Cs E cs vs
  | [], _, h => h
  | c :: cs, _, ⟨v, r, h1, h2, h3⟩ => ⟨v, r, h1, DRel.up c v h2, DCs.up cs r h3⟩
end

theorem DAt.up {E : Env} {b : Nat} : ∀ (cs : List AV) (o : Nat), DAt E.S E.w b o cs → At E b o cs
  | [], _, _ => trivial
  | c :: cs, o, ⟨⟨y, h1, h0, h2⟩, h3⟩ => ⟨⟨y, h1, h0, DRel.up c y h2⟩, DAt.up cs (o + 1) h3⟩

theorem DRows.up {E : Env} {b n : Nat} : ∀ (xs : List (List AV)) (o : Nat), DRows E.S E.w b o n xs → Rows E b o n xs
  | [], _, _ => trivial
  | e :: es, o, ⟨h1, h2, h3⟩ => ⟨h1, DAt.up e o h2, DRows.up es (o + n) h3⟩

mutual
/-- Nothing in it is a block of one's own. -/
def dataOk : AV → Bool
  | .own .. | .ptr .. | .win .. => false
  | .agg cs | .tup cs => dataAll cs
  | .fn _ a b => dataAll a && dataAll b
  | .ifc _ v => dataOk v
  | _ => true
def dataAll : List AV → Bool
  | [] => true
  | c :: cs => dataOk c && dataAll cs
end

mutual
theorem CRel.down {E : Env} : ∀ (av : AV) (x : Value), dataOk av = true → CRel E av x → DRel E.S E.w av x
  | .lit _, _, _, h => h
  | .agg cs, _, k, ⟨vs, h1, h2⟩ => ⟨vs, h1, Cs.down cs _ k h2⟩
  | .tup cs, _, k, ⟨vs, h1, h2⟩ => ⟨vs, h1, Cs.down cs _ k h2⟩
  | .ro _ _ _, _, _, h => h
  | .rop _ _, _, _, h => h
  | .rom _, _, _, h => h
  | .own .., _, k, _ => by simp [dataOk] at k
  | .ptr .., _, k, _ => by simp [dataOk] at k
  | .win .., _, k, _ => by simp [dataOk] at k
  | .fn _ first captured, _, k, ⟨a, b, h1, h2, h3⟩ => by
    simp only [dataOk, Bool.and_eq_true] at k
    exact ⟨a, b, h1, Cs.down first _ k.1 h2, Cs.down captured _ k.2 h3⟩
  | .ifc _ v, _, k, ⟨y, h1, h2⟩ => ⟨y, h1, CRel.down v _ k h2⟩
  | .any, _, _, _ => trivial
theorem Cs.down {E : Env} : ∀ (cs : List AV) (vs : List Value), dataAll cs = true → Cs E cs vs → DCs E.S E.w cs vs
  | [], _, _, h => h
  | c :: cs, _, k, ⟨v, r, h1, h2, h3⟩ => by
    simp only [dataAll, Bool.and_eq_true] at k
    exact ⟨v, r, h1, CRel.down c v k.1 h2, Cs.down cs r k.2 h3⟩
end

theorem At.down {E : Env} {b : Nat} : ∀ (cs : List AV) (o : Nat), dataAll cs = true → At E b o cs → DAt E.S E.w b o cs
  | [], _, _, _ => trivial
  | c :: cs, o, k, ⟨⟨y, h1, h0, h2⟩, h3⟩ => by
    simp only [dataAll, Bool.and_eq_true] at k
    exact ⟨⟨y, h1, h0, CRel.down c y k.1 h2⟩, At.down cs (o + 1) k.2 h3⟩

theorem Rows.down {E : Env} {b n : Nat} : ∀ (xs : List (List AV)) (o : Nat), xs.all dataAll = true → Rows E b o n xs → DRows E.S E.w b o n xs
  | [], _, _, _ => trivial
  | e :: es, o, k, ⟨h1, h2, h3⟩ => by
    simp only [List.all_cons, Bool.and_eq_true] at k
    exact ⟨h1, At.down e o k.1 h2, Rows.down es (o + n) k.2 h3⟩

def Owned (E : Env) (b : Nat) : Prop := ∃ id B, E.live id ∧ E.H id = some B ∧ (E.addr id).block = b

/-- What a later view keeps of an earlier one. -/
structure Le (E E' : Env) : Prop where
  os : E'.w.os = E.w.os
  tape : E'.w.tape = E.w.tape
  output : E'.w.output = E.w.output
  osub : ∀ b, b < E.w.heap.size → Owned E' b → Owned E b
  size : E.w.heap.size ≤ E'.w.heap.size
  keep : ∀ b, b < E.w.heap.size → ¬ Owned E b → E'.w.heap[b]? = E.w.heap[b]?
  sub : ∀ b, b < E.w.heap.size → E'.S b → E.S b
  sup : ∀ b, E.S b → E'.S b
  ids : ∀ id B, E.H id = some B → ∃ B', E'.H id = some B' ∧ B.ver ≤ B'.ver ∧ (B.ver = B'.ver →
    B'.esz = B.esz ∧ B'.rows.length = B.rows.length ∧ (E.live id → E'.live id ∧ E'.addr id = E.addr id ∧ bsz E'.w (E.addr id).block = bsz E.w (E.addr id).block))

/-- What holds of every view. -/
structure Inv (E : Env) : Prop where
  owned : ∀ b, Owned E b → E.S b
  small : ∀ b, E.S b → b < E.w.heap.size
  blk : ∀ id B, E.H id = some B → E.live id → (E.addr id).spot = none ∧ ∃ c t fr, E.w.heap[(E.addr id).block]? = some (.cells c t fr) ∧ (fr.1 = fr.2 ∨ c.size ≤ fr.1) ∧
    (E.addr id).off + B.rows.length * B.esz ≤ c.size ∧ BRel E (E.addr id).block (E.addr id).off B
  inj : ∀ id id' B B', E.live id → E.live id' → E.H id = some B → E.H id' = some B' → (E.addr id).block = (E.addr id').block → id = id'

theorem Le.refl (E : Env) : Le E E :=
  ⟨rfl, rfl, rfl, fun _ _ h => h, Nat.le_refl _, fun _ _ _ => rfl, fun _ _ h => h, fun _ h => h, fun _ B h => ⟨B, h, Nat.le_refl _, fun _ => ⟨rfl, rfl, fun hl => ⟨hl, rfl, rfl⟩⟩⟩⟩

theorem Le.trans {E F G : Env} (h : Le E F) (k : Le F G) : Le E G where
  os := k.os.trans h.os
  tape := k.tape.trans h.tape
  output := k.output.trans h.output
  osub := fun b hb ho => h.osub b hb (k.osub b (Nat.lt_of_lt_of_le hb h.size) ho)
  size := Nat.le_trans h.size k.size
  keep := fun b hb hn => (k.keep b (Nat.lt_of_lt_of_le hb h.size) fun ho => hn (h.osub b hb ho)).trans (h.keep b hb hn)
  sub := fun b hb hs => h.sub b hb (k.sub b (Nat.lt_of_lt_of_le hb h.size) hs)
  sup := fun b hs => k.sup b (h.sup b hs)
  ids := fun id B hB => by
    obtain ⟨B', hB', hv, hs⟩ := h.ids id B hB
    obtain ⟨B'', hB'', hv', hs'⟩ := k.ids id B' hB'
    refine ⟨B'', hB'', Nat.le_trans hv hv', fun e => ?_⟩
    have e1 : B.ver = B'.ver := Nat.le_antisymm hv (e ▸ hv')
    obtain ⟨a1, a2, a3⟩ := hs e1
    obtain ⟨b1, b2, b3⟩ := hs' (e1 ▸ e)
    refine ⟨b1.trans a1, b2.trans a2, fun hl => ?_⟩
    obtain ⟨c1, c2, c3⟩ := a3 hl
    obtain ⟨d1, d2, d3⟩ := b3 c1
    exact ⟨d1, d2.trans c2, by rw [c2] at d3; exact d3.trans c3⟩

theorem bsz_congr {w w' : World} {b : Nat} (h : w'.heap[b]? = w.heap[b]?) : bsz w' b = bsz w b := by unfold bsz; rw [h]

theorem cell_congr {w w' : World} {b o : Nat} (h : w'.heap[b]? = w.heap[b]?) : w'.cell? ⟨b, o, none⟩ = w.cell? ⟨b, o, none⟩ := by
  unfold World.cell?; simp only; rw [h]

theorem lt_of_cell {w : World} {b o : Nat} {y : Value} (h : w.cell? ⟨b, o, none⟩ = some y) : b < w.heap.size := by
  unfold World.cell? at h
  simp only at h
  rcases Nat.lt_or_ge b w.heap.size with hb | hb
  · exact hb
  · rw [Array.getElem?_eq_none hb] at h; simp at h

theorem Le.same {E E' : Env} (hI : Inv E) (hL : Le E E') {b : Nat} (hb : b < E.w.heap.size) (hs : ¬ E.S b) : E'.w.heap[b]? = E.w.heap[b]? := hL.keep b hb fun h => hs (hI.owned b h)

/-- Data stay data where nothing outside of S turns and S takes in nothing old. -/
structure LeS (S : Nat → Prop) (w : World) (S' : Nat → Prop) (w' : World) : Prop where
  size : w.heap.size ≤ w'.heap.size
  keep : ∀ b, b < w.heap.size → ¬ S b → w'.heap[b]? = w.heap[b]?
  sub : ∀ b, b < w.heap.size → S' b → S b

mutual
theorem DRel.mono {S S' : Nat → Prop} {w w' : World} (hL : LeS S w S' w') : ∀ (av : AV) (x : Value), DRel S w av x → DRel S' w' av x
  | .lit _, _, h => h
  | .agg cs, _, ⟨vs, h1, h2⟩ => ⟨vs, h1, DCs.mono hL cs _ h2⟩
  | .tup cs, _, ⟨vs, h1, h2⟩ => ⟨vs, h1, DCs.mono hL cs _ h2⟩
  | .ro esz xs nz, _, ⟨a, cap, h1, hz, hz', h2, h3, h4⟩ => ⟨a, cap, h1, hz, hz', h2, h3, h4.imp id fun ⟨b, o, e1, e2, e3, e4, e5⟩ =>
      ⟨b, o, e1, fun hs => e2 (hL.sub b e3 hs), Nat.lt_of_lt_of_le e3 hL.size, by rw [bsz_congr (hL.keep b e3 e2)]; exact e4, DRows.mono hL xs b o esz e2 e5⟩⟩
  | .rop e _, _, ⟨b, o, h1, h2, h3, h4⟩ => ⟨b, o, h1, fun hs => h2 (hL.sub b h3 hs), Nat.lt_of_lt_of_le h3 hL.size, DAt.mono hL e b o h2 h4⟩
  | .rom _, _, ⟨b, ents, clock, h1, h2, h3, h4, h5⟩ => ⟨b, ents, clock, h1, fun hs => h2 (hL.sub b h3 hs), Nat.lt_of_lt_of_le h3 hL.size, by rw [hL.keep b h3 h2]; exact h4, h5⟩
  | .own .., _, h => h.elim
  | .ptr .., _, h => h.elim
  | .win .., _, h => h.elim
  | .fn _ first captured, _, ⟨a, b, h1, h2, h3⟩ => ⟨a, b, h1, DCs.mono hL first _ h2, DCs.mono hL captured _ h3⟩
  | .ifc _ v, _, ⟨y, h1, h2⟩ => ⟨y, h1, DRel.mono hL v _ h2⟩
  | .any, _, _ => trivial
theorem DCs.mono {S S' : Nat → Prop} {w w' : World} (hL : LeS S w S' w') : ∀ (cs : List AV) (vs : List Value), DCs S w cs vs → DCs S' w' cs vs
  | [], _, h => h
  | c :: cs, _, ⟨v, r, h1, h2, h3⟩ => ⟨v, r, h1, DRel.mono hL c v h2, DCs.mono hL cs r h3⟩
theorem DAt.mono {S S' : Nat → Prop} {w w' : World} (hL : LeS S w S' w') : ∀ (cs : List AV) (b o : Nat), ¬ S b → DAt S w b o cs → DAt S' w' b o cs
  | [], _, _, _, _ => trivial
  | c :: cs, b, o, hs, ⟨⟨y, h1, h0, h2⟩, h3⟩ => ⟨⟨y, by rw [cell_congr (hL.keep b (lt_of_cell h1) hs)]; exact h1, h0, DRel.mono hL c y h2⟩, DAt.mono hL cs b (o + 1) hs h3⟩
theorem DRows.mono {S S' : Nat → Prop} {w w' : World} (hL : LeS S w S' w') : ∀ (xs : List (List AV)) (b o esz : Nat), ¬ S b → DRows S w b o esz xs → DRows S' w' b o esz xs
  | [], _, _, _, _, _ => trivial
  | e :: es, b, o, esz, hs, ⟨h1, h2, h3⟩ => ⟨h1, DAt.mono hL e b o hs h2, DRows.mono hL es b (o + esz) esz hs h3⟩
end

theorem Le.data {E E' : Env} (hI : Inv E) (hL : Le E E') : LeS E.S E.w E'.S E'.w := ⟨hL.size, fun b hb hs => Le.same hI hL hb hs, hL.sub⟩

mutual
theorem CRel.mono {E E' : Env} (hI : Inv E) (hL : Le E E') : ∀ (av : AV) (x : Value), CRel E av x → CRel E' av x
  | .lit _, _, h => h
  | .agg cs, _, ⟨vs, h1, h2⟩ => ⟨vs, h1, Cs.mono hI hL cs _ h2⟩
  | .tup cs, _, ⟨vs, h1, h2⟩ => ⟨vs, h1, Cs.mono hI hL cs _ h2⟩
  | .ro esz xs nz, x, h => DRel.mono (Le.data hI hL) (.ro esz xs nz) x h
  | .rop e j, x, h => DRel.mono (Le.data hI hL) (.rop e j) x h
  | .rom es, x, h => DRel.mono (Le.data hI hL) (.rom es) x h
  | .own id ver off len nz, _, h => by
      simp only [CRel] at h ⊢
      obtain ⟨hone, B, hB, hv, hr⟩ := h
      obtain ⟨B', hB', hle, hsame⟩ := hL.ids id B hB
      refine ⟨hone, B', hB', Nat.le_trans hv hle, fun he => ?_⟩
      have hvB : ver = B.ver := Nat.le_antisymm hv (he ▸ hle)
      obtain ⟨s1, s2, s3⟩ := hsame (hvB ▸ he)
      obtain ⟨hlen, hr⟩ := hr hvB
      refine ⟨by rw [s2]; exact hlen, hr.imp (fun ⟨cap, l1, l2, l3, l4⟩ => ?_) (fun ⟨a, l1, l2, l3, l4⟩ => ⟨a, l1, l2, by rw [s2]; exact l3, l4⟩)⟩
      obtain ⟨t1, t2, t3⟩ := s3 l1
      exact ⟨cap, t1, by rw [t2, s1]; exact l2, by rw [s2]; exact l3, by rw [t2, s1, t3]; exact l4⟩
  | .ptr id ver i j, _, h => by
      simp only [CRel] at h ⊢
      obtain ⟨hone, B, hB, hv, hr⟩ := h
      obtain ⟨B', hB', hle, hsame⟩ := hL.ids id B hB
      refine ⟨hone, B', hB', Nat.le_trans hv hle, fun he => ?_⟩
      have hvB : ver = B.ver := Nat.le_antisymm hv (he ▸ hle)
      obtain ⟨s1, s2, s3⟩ := hsame (hvB ▸ he)
      obtain ⟨l1, l2, l3⟩ := hr hvB
      obtain ⟨t1, t2, t3⟩ := s3 l1
      exact ⟨t1, by rw [s2]; exact l2, by rw [t2, s1]; exact l3⟩
  | .win id ver i j esz len, _, h => by
      simp only [CRel] at h ⊢
      obtain ⟨hone, B, hB, hv, hr⟩ := h
      obtain ⟨B', hB', hle, hsame⟩ := hL.ids id B hB
      refine ⟨hone, B', hB', Nat.le_trans hv hle, fun he => ?_⟩
      have hvB : ver = B.ver := Nat.le_antisymm hv (he ▸ hle)
      obtain ⟨s1, s2, s3⟩ := hsame (hvB ▸ he)
      obtain ⟨l1, l2, l3, cap, l4, l5⟩ := hr hvB
      obtain ⟨t1, t2, t3⟩ := s3 l1
      exact ⟨t1, by rw [s2]; exact l2, by rw [s1]; exact l3, cap, l4, by rw [t2, s1]; exact l5⟩
  | .fn _ first captured, _, ⟨a, b, h1, h2, h3⟩ => ⟨a, b, h1, Cs.mono hI hL first _ h2, Cs.mono hI hL captured _ h3⟩
  | .ifc _ v, _, ⟨y, h1, h2⟩ => ⟨y, h1, CRel.mono hI hL v _ h2⟩
  | .any, _, _ => trivial
theorem Cs.mono {E E' : Env} (hI : Inv E) (hL : Le E E') : ∀ (cs : List AV) (vs : List Value), Cs E cs vs → Cs E' cs vs
  | [], _, h => h
  | c :: cs, _, ⟨v, r, h1, h2, h3⟩ => ⟨v, r, h1, CRel.mono hI hL c v h2, Cs.mono hI hL cs r h3⟩
end

end Go.Am
end PartAmBase

section PartAmMem
/- Reading memory: what a load gives where the cells are told. And: what is computed without memory. -/
namespace Go.Am
open Go

theorem Addr.add_none (b o n : Nat) : (⟨b, o, none⟩ : Addr).add n = ⟨b, o + n, none⟩ := by
  unfold Addr.add; split
  · subst_vars; rfl
  · rfl

theorem run_load {P : Program} {w : World} {a : Addr} {y : Value} (h : w.cell? a = some y) : (load a).run P w = .ok y w := by
  simp [load, Sem.run, h]

theorem Cs.append {E : Env} : ∀ (xs ys : List AV) (vs us : List Value), Cs E xs vs → Cs E ys us → Cs E (xs ++ ys) (vs ++ us)
  | [], _, _, _, h, k => by simp only [Cs] at h; subst h; exact k
  | x :: xs, ys, _, us, ⟨v, r, h1, h2, h3⟩, k => ⟨v, r ++ us, by rw [h1]; rfl, h2, Cs.append xs ys r us h3 k⟩

theorem run_loadFrom {P : Program} {E : Env} {b o : Nat} : ∀ (cs : List AV) (i : Nat) (acc : Array Value), At E b (o + i) cs →
    ∃ vs : List Value, (loadCellsFrom ⟨b, o, none⟩ i cs.length acc).run P E.w = .ok (acc ++ vs.toArray) E.w ∧ Cs E cs vs
  | [], i, acc, _ => ⟨[], by simp [loadCellsFrom], rfl⟩
  | c :: cs, i, acc, ⟨⟨y, h1, _, h2⟩, h3⟩ => by
    obtain ⟨vs, hr, hc⟩ := run_loadFrom cs (i + 1) (acc.push y) h3
    refine ⟨y :: vs, ?_, y, vs, rfl, h2, hc⟩
    simp only [List.length_cons, loadCellsFrom, Sem.run_bind]
    rw [Addr.add_none, run_load h1]
    rw [Result.andThen_ok, hr]; simp

theorem run_loadCells {P : Program} {E : Env} {b o : Nat} (cs : List AV) (h : At E b o cs) :
    ∃ vs : Array Value, (loadCells ⟨b, o, none⟩ cs.length).run P E.w = .ok vs E.w ∧ Cs E cs vs.toList := by
  obtain ⟨vs, h1, h2⟩ := run_loadFrom (P := P) cs 0 #[] h
  exact ⟨vs.toArray, by simpa [loadCells] using h1, by simpa using h2⟩

theorem At.drop {E : Env} {b : Nat} : ∀ (cs : List AV) (o j : Nat), At E b o cs → At E b (o + j) (cs.drop j)
  | cs, o, 0, h => h
  | [], o, j + 1, _ => trivial
  | c :: cs, o, j + 1, ⟨_, h⟩ => by
    have := At.drop cs (o + 1) j h
    rw [show o + (j + 1) = o + 1 + j from by omega]; exact this

theorem At.take {E : Env} {b : Nat} : ∀ (cs : List AV) (o j : Nat), At E b o cs → At E b o (cs.take j)
  | cs, o, 0, h => by simp [At]
  | [], o, j + 1, _ => trivial
  | c :: cs, o, j + 1, ⟨h1, h⟩ => ⟨h1, At.take cs (o + 1) j h⟩

theorem DRows.get {S : Nat → Prop} {w : World} {b esz : Nat} : ∀ (xs : List (List AV)) (o i : Nat) (e : List AV), DRows S w b o esz xs → xs[i]? = some e → e.length = esz ∧ DAt S w b (o + i * esz) e
  | x :: xs, o, 0, e, ⟨h1, h2, _⟩, h => by simp at h; subst h; exact ⟨h1, by simpa using h2⟩
  | x :: xs, o, i + 1, e, ⟨_, _, h3⟩, h => by
    have := DRows.get xs (o + esz) i e h3 (by simpa using h)
    rw [show o + (i + 1) * esz = o + esz + i * esz from by rw [Nat.succ_mul]; omega]; exact this
  | [], _, i, _, _, h => by simp at h

theorem Rows.get {E : Env} {b esz : Nat} : ∀ (xs : List (List AV)) (o i : Nat) (e : List AV), Rows E b o esz xs → xs[i]? = some e → e.length = esz ∧ At E b (o + i * esz) e
  | x :: xs, o, 0, e, ⟨h1, h2, _⟩, h => by simp at h; subst h; exact ⟨h1, by simpa using h2⟩
  | x :: xs, o, i + 1, e, ⟨_, _, h3⟩, h => by
    have := Rows.get xs (o + esz) i e h3 (by simpa using h)
    rw [show o + (i + 1) * esz = o + esz + i * esz from by rw [Nat.succ_mul]; omega]; exact this
  | [], _, i, _, _, h => by simp at h

theorem run_loadFromD {P : Program} {S : Nat → Prop} {w : World} {b o : Nat} : ∀ (cs : List AV) (i : Nat) (acc : Array Value), DAt S w b (o + i) cs →
    ∃ vs : List Value, (loadCellsFrom ⟨b, o, none⟩ i cs.length acc).run P w = .ok (acc ++ vs.toArray) w ∧ DCs S w cs vs ∧ ∀ v ∈ vs, v.oneCell' = true
  | [], i, acc, _ => ⟨[], by simp [loadCellsFrom], rfl, by simp⟩
  | c :: cs, i, acc, ⟨⟨y, h1, h0, h2⟩, h3⟩ => by
    obtain ⟨vs, hr, hc, ho⟩ := run_loadFromD (P := P) cs (i + 1) (acc.push y) h3
    refine ⟨y :: vs, ?_, ⟨y, vs, rfl, h2, hc⟩, ?_⟩
    · simp only [List.length_cons, loadCellsFrom, Sem.run_bind]
      rw [Addr.add_none, run_load h1]
      rw [Result.andThen_ok, hr]; simp
    · intro v hv
      rcases List.mem_cons.1 hv with rfl | hv
      · exact h0
      · exact ho v hv

theorem run_loadCellsD {P : Program} {S : Nat → Prop} {w : World} {b o : Nat} (cs : List AV) (h : DAt S w b o cs) :
    ∃ vs : Array Value, (loadCells ⟨b, o, none⟩ cs.length).run P w = .ok vs w ∧ DCs S w cs vs.toList ∧ ∀ v ∈ vs.toList, v.oneCell' = true := by
  obtain ⟨vs, h1, h2, h3⟩ := run_loadFromD (P := P) cs 0 #[] h
  exact ⟨vs.toArray, by simpa [loadCells] using h1, by simpa using h2, by simpa using h3⟩

/-- What is computed without memory, draws or halts. -/
def pureRun {α : Type} (P : Program) : Sem α → Option α
  | .pure a => some a
  | .program k => pureRun P (k P)
  | .mark _ k => pureRun P k
  | _ => none

theorem pureRun_ok {α : Type} {P : Program} (s : Sem α) {a : α} (h : pureRun P s = some a) (w : World) : s.run P w = .ok a w := by
  induction s with
  | pure b => simp [pureRun] at h; subst h; rfl
  | program k ih => exact ih P h
  | mark m k ih => exact ih h
  | _ => simp [pureRun] at h

end Go.Am
end PartAmMem

section PartAmOps
/- Operations that leave memory alone: what each gives, told by abstract values. -/
namespace Go.Am
open Go

theorem Cs.getD {E : Env} : ∀ (l : List AV) (vs : List Value) (t : Nat), Cs E l vs → CRel E (l.getD t .any) (vs.getD t undef)
  | [], vs, t, h => by simp only [Cs] at h; subst h; simp [CRel]
  | c :: l, _, 0, ⟨v, r, h1, h2, _⟩ => by subst h1; simpa using h2
  | c :: l, _, t + 1, ⟨v, r, h1, _, h3⟩ => by subst h1; simpa using Cs.getD l r t h3

theorem Cs.length {E : Env} : ∀ (l : List AV) (vs : List Value), Cs E l vs → vs.length = l.length
  | [], vs, h => by simp only [Cs] at h; subst h; rfl
  | c :: l, _, ⟨v, r, h1, _, h3⟩ => by subst h1; simp [Cs.length l r h3]

theorem Cs.get? {E : Env} : ∀ (l : List AV) (vs : List Value) (t : Nat) (c : AV), Cs E l vs → l[t]? = some c → ∃ v, vs[t]? = some v ∧ CRel E c v
  | [], _, t, _, _, hc => by simp at hc
  | d :: l, _, 0, c, ⟨v, r, h1, h2, _⟩, hc => by subst h1; simp at hc; subst hc; exact ⟨v, by simp, h2⟩
  | d :: l, _, t + 1, c, ⟨v, r, h1, _, h3⟩, hc => by subst h1; simpa using Cs.get? l r t c h3 (by simpa using hc)

theorem Cs.set {E : Env} : ∀ (l : List AV) (vs : List Value) (t : Nat) (c : AV) (x : Value), Cs E l vs → CRel E c x → Cs E (l.set t c) (vs.set t x)
  | [], vs, t, _, _, h, _ => by simp only [Cs] at h; subst h; simp [Cs]
  | d :: l, _, 0, c, x, ⟨v, r, h1, h2, h3⟩, hc => by subst h1; exact ⟨x, r, by simp, hc, h3⟩
  | d :: l, _, t + 1, c, x, ⟨v, r, h1, h2, h3⟩, hc => by subst h1; exact ⟨v, r.set t x, by simp, h2, Cs.set l r t c x h3 hc⟩

theorem Cs.drop {E : Env} : ∀ (l : List AV) (vs : List Value) (j : Nat), Cs E l vs → Cs E (l.drop j) (vs.drop j)
  | l, vs, 0, h => by simpa using h
  | [], vs, j + 1, h => by simp only [Cs] at h; subst h; simp [Cs]
  | c :: l, _, j + 1, ⟨v, r, h1, _, h3⟩ => by subst h1; simpa using Cs.drop l r j h3

theorem Cs.take {E : Env} : ∀ (l : List AV) (vs : List Value) (j : Nat), Cs E l vs → Cs E (l.take j) (vs.take j)
  | l, vs, 0, h => by simp [Cs]
  | [], vs, j + 1, h => by simp only [Cs] at h; subst h; simp [Cs]
  | c :: l, _, j + 1, ⟨v, r, h1, h2, h3⟩ => by subst h1; exact ⟨v, r.take j, by simp, h2, Cs.take l r j h3⟩

theorem Cs.lits {E : Env} : ∀ (vs : List Value), Cs E (vs.map .lit) vs
  | [] => rfl
  | v :: vs => ⟨v, vs, rfl, rfl, Cs.lits vs⟩

/-- A value without addresses of memory that is told, as an abstract one: an aggregate by its cells. -/
def ofV : Value → AV
  | .agg cs => .agg (cs.toList.map .lit)
  | v => .lit v

theorem ofV_rel {E : Env} (v : Value) : CRel E (ofV v) v := by
  cases v <;> simp [ofV, CRel, Cs.lits]

def litsOf : List AV → Option (List Value)
  | [] => some []
  | .lit v :: r => match litsOf r with | some vs => some (v :: vs) | none => none
  | _ => none

theorem litsOf_ok {E : Env} : ∀ (l : List AV) (us vs : List Value), litsOf l = some us → Cs E l vs → vs = us
  | [], us, vs, h, k => by simp only [litsOf, Option.some.injEq] at h; simp only [Cs] at k; rw [k, h]
  | .lit v :: r, us, vs, h, ⟨x, y, h1, h2, h3⟩ => by
    simp only [litsOf] at h
    split at h
    · rename_i ws hw; simp only [Option.some.injEq] at h; subst h; subst h1; simp only [CRel] at h2; subst h2; rw [litsOf_ok r ws y hw h3]
    · simp at h
  | .agg _ :: _, _, _, h, _ | .tup _ :: _, _, _, h, _ | .ro _ _ _ :: _, _, _, h, _ | .rop _ _ :: _, _, _, h, _ | .rom _ :: _, _, _, h, _ | .own .. :: _, _, _, h, _
  | .ptr .. :: _, _, _, h, _ | .win .. :: _, _, _, h, _ | .fn .. :: _, _, _, h, _ | .ifc .. :: _, _, _, h, _ | .any :: _, _, _, h, _ => by simp [litsOf] at h

/-- The value of an abstract value that leaves nothing open. -/
def toV : AV → Option Value
  | .lit v => some v
  | .agg cs => match litsOf cs with | some vs => some (.agg vs.toArray) | none => none
  | _ => none

theorem toV_ok {E : Env} {av : AV} {v x : Value} (h : toV av = some v) (k : CRel E av x) : x = v := by
  cases av with
  | lit u => simp only [toV, Option.some.injEq] at h; simp only [CRel] at k; rw [k, h]
  | agg cs =>
    simp only [toV] at h
    split at h
    · rename_i us hu
      simp only [Option.some.injEq] at h
      obtain ⟨ws, h1, h2⟩ := k
      have := litsOf_ok cs us _ hu h2
      subst h1; subst h; rw [← this]
    · simp at h
  | _ => simp [toV] at h

def aev (l : List AV) : Operand → AV
  | .tmp t => l.getD t .any
  | .const v => ofV v
  | .global g => .lit (.pointer (some ⟨g, 0, none⟩))
  | .func f => .fn (.func f) [] []

theorem aev_ok {E : Env} {l : List AV} {a : Act} (h : Cs E l a.tmps.toList) (x : Operand) : CRel E (aev l x) (a.eval x) := by
  cases x with
  | tmp t => have := Cs.getD l _ t h; simpa [aev, Act.eval] using this
  | const v => exact ofV_rel v
  | global g => rfl
  | func f => exact ⟨#[], #[], rfl, rfl, rfl⟩

/-- What an operation that leaves memory alone gives. -/
def QOk (P : Program) (o : Oper) (l : List AV) (H : Nat → Option Blk) (v : AV) : Prop :=
  ∀ (E : Env) (a : Act), E.H = H → Inv E → Cs E l a.tmps.toList → ∃ x, (execOp a.eval o).run P E.w = .ok (.value x) E.w ∧ CRel E v x

def allV (l : List AV) : List Operand → Bool
  | [] => true
  | x :: r => (toV (aev l x)).isSome && allV l r

def litEval (l : List AV) (x : Operand) : Value := (toV (aev l x)).getD undef

theorem allV_ok {E : Env} {l : List AV} {a : Act} (h : Cs E l a.tmps.toList) : ∀ (xs : List Operand), allV l xs = true → ∀ x ∈ xs, a.eval x = litEval l x
  | [], _, x, hx => by simp at hx
  | y :: r, hk, x, hx => by
    simp only [allV, Bool.and_eq_true] at hk
    rcases List.mem_cons.1 hx with rfl | hx
    · obtain ⟨v, hv⟩ := Option.isSome_iff_exists.1 hk.1
      rw [toV_ok hv (aev_ok h x), litEval, hv]; rfl
    · exact allV_ok h r hk.2 x hx

def isSelect : Op → Bool | .select .. => true | _ => false

/-- An operation on values that leave nothing open: by the model's own function. -/
def scal (P : Program) (l : List AV) (o : Oper) : Option AV :=
  if isSelect o.op = false ∧ allV l o.op.operands.toList = true then
    match pureRun P (execOp (litEval l) o) with
    | some (.value v) => some (ofV v)
    | _ => none
  else none

theorem scal_ok {P : Program} {l : List AV} {H : Nat → Option Blk} {o : Oper} {v : AV} (h : scal P l o = some v) : QOk P o l H v := by
  intro E a hH hI hl
  unfold scal at h
  split at h
  · rename_i hc
    split at h
    · rename_i u hu
      simp only [Option.some.injEq] at h; subst h
      have hcong : execOp a.eval o = execOp (litEval l) o := execOp_congr o (fun cs b he => by have := hc.1; rw [he] at this; simp [isSelect] at this)
        (fun x hx => allV_ok hl _ hc.2 x (by simpa using hx))
      exact ⟨u, by rw [hcong]; exact pureRun_ok _ hu E.w, ofV_rel u⟩
    · simp at h
  · simp at h

end Go.Am
end PartAmOps

section PartAmOps2
/- Operations that leave memory alone, continued: addresses, loads, parts, slices. -/
namespace Go.Am
open Go

/-- How a piece of code ends. -/
inductive Ex where
  | normal
  | ret
  | exit (id : Nat)
  | goto (l : Nat)
  deriving DecidableEq

abbrev HL := List Blk

/-- What a run is told from outside: a test's outcome, the row that an index meets, what a call gives, what a loop leaves. -/
inductive Sc where
  | dec (b : Bool)
  | el (e : List AV)
  | fn (v : AV)
  | fnH (v : AV) (L : HL)
  | lp (ex : Ex) (l : List AV) (L : HL)
  | av (v : AV)

def isAggT (P : Program) (t : TypeId) : Option Bool :=
  match P.underlying t with
  | some (.struct _) => some true
  | some (.array _ _) => some true
  | some _ => some false
  | none => none

def szOf (P : Program) (t : TypeId) : Option Nat := (P.info? t).map (·.size)

def partAV (P : Program) (t : TypeId) (row : List AV) (j : Nat) : Option AV :=
  match szOf P t, isAggT P t with
  | some n, some true => if ((row.drop j).take n).length = n then some (.agg ((row.drop j).take n)) else none
  | some _, some false => row[j]?
  | _, _ => none

section
variable {P : Program} {E : Env}

theorem run_und {t : TypeId} {d : TypeDesc} (h : P.underlying t = some d) (w : World) : (underlying t).run P w = .ok d w := by
  simp [underlying, h]

theorem run_isAggT {t : TypeId} {b : Bool} (h : isAggT P t = some b) (w : World) : (isAgg t).run P w = .ok b w := by
  unfold isAggT at h
  split at h <;> first | (simp at h; done) | skip
  all_goals (rename_i hu; simp only [Option.some.injEq] at h; subst h; simp [isAgg, run_und hu])

theorem run_szOf {t : TypeId} {n : Nat} (h : szOf P t = some n) (w : World) : (sizeOf t).run P w = .ok n w := by
  unfold szOf at h
  obtain ⟨i, hi, rfl⟩ := Option.map_eq_some_iff.1 h
  simp [sizeOf, typeInfo, hi]

theorem At.get {b : Nat} : ∀ (cs : List AV) (o j : Nat) (c : AV), At E b o cs → cs[j]? = some c → ∃ y, E.w.cell? ⟨b, o + j, none⟩ = some y ∧ CRel E c y
  | [], _, _, _, _, h => by simp at h
  | c :: cs, o, 0, d, ⟨⟨y, h1, _, h2⟩, _⟩, h => by simp at h; subst h; exact ⟨y, h1, h2⟩
  | c :: cs, o, j + 1, d, ⟨_, h2⟩, h => by
    have := At.get cs (o + 1) j d h2 (by simpa using h)
    rw [show o + (j + 1) = o + 1 + j from by omega]; exact this

theorem run_loadVar {t : TypeId} {row : List AV} {b o j : Nat} {v : AV} (h : At E b o row) (hp : partAV P t row j = some v) :
    ∃ x, (loadVar t ⟨b, o + j, none⟩).run P E.w = .ok x E.w ∧ CRel E v x := by
  unfold partAV at hp
  split at hp
  · rename_i n hn ha
    split at hp
    · rename_i hlen
      simp only [Option.some.injEq] at hp; subst hp
      obtain ⟨vs, h1, h2⟩ := run_loadCells (P := P) ((row.drop j).take n) (At.take _ _ n (At.drop row o j h))
      rw [hlen] at h1
      exact ⟨.agg vs, by simp [loadVar, run_isAggT ha, run_szOf hn, h1], vs, rfl, h2⟩
    · simp at hp
  · rename_i n hn ha
    obtain ⟨y, h1, h2⟩ := At.get row o j v h hp
    exact ⟨y, by simp [loadVar, run_isAggT ha, h1], h2⟩
  · simp at hp

theorem run_part {t : TypeId} {row : List AV} {cs : Array Value} {j : Nat} {v : AV} (h : Cs E row cs.toList) (hp : partAV P t row j = some v) :
    ∃ x, (part t cs j).run P E.w = .ok x E.w ∧ CRel E v x := by
  unfold partAV at hp
  split at hp
  · rename_i n hn ha
    split at hp
    · rename_i hlen
      simp only [Option.some.injEq] at hp; subst hp
      refine ⟨.agg (cs.extract j (j + n)), by simp [part, run_isAggT ha, run_szOf hn], _, rfl, ?_⟩
      have := Cs.take _ _ n (Cs.drop row _ j h)
      rw [Array.toList_extract]
      simpa [List.extract] using this
    · simp at hp
  · rename_i n hn ha
    obtain ⟨y, h1, h2⟩ := Cs.get? row _ j v h hp
    refine ⟨y, ?_, h2⟩
    have h1' : cs[j]? = some y := by simpa using h1
    simp [part, run_isAggT ha, h1']
  · simp at hp

/-- The load of a variable of type t through a pointer. -/
def loadOp (P : Program) (H : Nat → Option Blk) (t : TypeId) : AV → List Sc → Option (AV × List Sc × List Prop)
  | .rop e j, sc => match partAV P t e j with | some v => some (v, sc, []) | none => none
  | .ptr id ver i j, sc =>
    match H id with
    | some (.box v e) => if v = ver ∧ i = 0 then match partAV P t e j with | some u => some (u, sc, []) | none => none else none
    | some (.arr _ v rows) => if v = ver then
        match sc with
        | .el e :: sc => match partAV P t e j with | some u => some (u, sc, [rows[i]? = some e]) | none => none
        | _ => none
      else none
    | none => none
  | _, _ => none

theorem loadOp_ok {H : Nat → Option Blk} {t : TypeId} {p v : AV} {sc sc' : List Sc} {obs : List Prop} {x : Value} (h : loadOp P H t p sc = some (v, sc', obs)) (ho : ∀ q ∈ obs, q)
    (hH : E.H = H) (hI : Inv E) (hx : CRel E p x) : ∃ y, (Instr.loadAt t x).run P E.w = .ok y E.w ∧ CRel E v y := by
  unfold loadOp at h
  split at h
  · rename_i e j
    obtain ⟨b, o, h1, _, _, h4⟩ := hx
    split at h
    · rename_i u hu
      simp only [Option.some.injEq, Prod.mk.injEq] at h
      obtain ⟨rfl, rfl, rfl⟩ := h
      obtain ⟨y, hr, hc⟩ := run_loadVar (P := P) (DAt.up _ _ h4) hu
      exact ⟨y, by subst h1; simp [Instr.loadAt, Instr.sureAddr, hr], hc⟩
    · simp at h
  · rename_i id ver i j
    obtain ⟨_, B, hB, _, hr⟩ := hx
    rw [hH] at hB
    split at h
    · rename_i v' e hL
      rw [hB] at hL; simp only [Option.some.injEq] at hL; subst hL
      split at h
      · rename_i hc
        obtain ⟨hl, _, hp⟩ := hr hc.1.symm
        split at h
        · rename_i u hu
          simp only [Option.some.injEq, Prod.mk.injEq] at h
          obtain ⟨rfl, rfl, rfl⟩ := h
          obtain ⟨_, _, _, _, _, _, _, hrows⟩ := hI.blk id _ (by rw [hH]; exact hB) hl
          have hat : At E _ _ e := hrows
          obtain ⟨y, hr', hc'⟩ := run_loadVar (P := P) hat hu
          refine ⟨y, ?_, hc'⟩
          subst hp; rw [hc.2]; simp [Instr.loadAt, Instr.sureAddr, hr']
        · simp at h
      · simp at h
    · rename_i esz v' rows hL
      rw [hB] at hL; simp only [Option.some.injEq] at hL; subst hL
      split at h
      · rename_i hc
        obtain ⟨hl, _, hp⟩ := hr hc.symm
        split at h
        · split at h
          · rename_i e sc1 o1 u hu
            simp only [Option.some.injEq, Prod.mk.injEq] at h
            obtain ⟨rfl, rfl, rfl⟩ := h
            obtain ⟨_, _, _, _, _, _, _, hrows⟩ := hI.blk id _ (by rw [hH]; exact hB) hl
            have hat := (Rows.get _ _ i _ hrows (ho _ (List.mem_singleton.2 rfl))).2
            obtain ⟨y, hr', hc'⟩ := run_loadVar (P := P) hat hu
            refine ⟨y, ?_, hc'⟩
            subst hp; simp only [Blk.esz]; simp [Instr.loadAt, Instr.sureAddr, hr']
          · simp at h
        · simp at h
      · simp at h
    · simp at h
  · simp at h

end
end Go.Am
end PartAmOps2

section PartAmOps3
/- Operations that leave memory alone, continued: addresses of parts, slices, composites; and the one function that tells all of them. -/
namespace Go.Am
open Go

/-- Is this version of block id the present one? -/
def now (H : Nat → Option Blk) (id ver : Nat) : Bool := match H id with | some B => B.ver == ver | none => false

def fieldOff (P : Program) (s : TypeId) (f : Nat) : Option Nat :=
  match P.underlying s with
  | some (.struct fields) => match fields[f]? with
    | some fd => match szOf P fd.type with
      | some (_ + 1) => some fd.offset
      | _ => none
    | none => none
  | _ => none

def fieldAddrOp (P : Program) (H : Nat → Option Blk) (s : TypeId) (f : Nat) : AV → Option AV
  | .ptr id ver i j => if now H id ver = true then (match fieldOff P s f with | some n => some (.ptr id ver i (j + n)) | none => none) else none
  | .rop e j => match fieldOff P s f with | some n => some (.rop e (j + n)) | none => none
  | _ => none

def sliceElem (P : Program) (t : TypeId) : Option Nat :=
  match P.underlying t with
  | some (.slice elem) => szOf P elem
  | _ => none

def arrElem (P : Program) (t : TypeId) : Option (Nat × Nat) :=
  match P.underlying t with
  | some (.array len elem) => match szOf P elem with | some n => some (len, n) | none => none
  | _ => none

def indexAddrOp (P : Program) (H : Nat → Option Blk) (t : TypeId) : AV → AV → List Sc → Option (AV × List Sc × List Prop)
  | .own id ver off len nz, .lit (.int _ i), sc =>
    match sliceElem P t, H id with
    | some n, some B => if B.ver = ver ∧ n = B.esz then some (.ptr id ver (off + i.toNat) 0, sc, [0 ≤ i ∧ i < (len : Int)]) else none
    | _, _ => none
  | .ro esz xs _, .lit (.int _ i), .el e :: sc =>
    match sliceElem P t with
    | some n => if n = esz then some (.rop e 0, sc, [0 ≤ i ∧ xs[i.toNat]? = some e]) else none
    | _ => none
  | .ptr id ver r j, .lit (.int _ i), sc =>
    if now H id ver = true then match arrElem P t with
      | some (len, n) => some (.ptr id ver r (j + i.toNat * n), sc, [0 ≤ i ∧ i < (len : Int)])
      | none => none
    else none
  | .rop e j, .lit (.int _ i), sc =>
    match arrElem P t with
    | some (len, n) => some (.rop e (j + i.toNat * n), sc, [0 ≤ i ∧ i < (len : Int)])
    | none => none
  | _, _, _ => none

def fieldOp (P : Program) (xType : TypeId) (f : Nat) : AV → Option AV
  | .agg cs =>
    match P.underlying xType with
    | some (.struct fields) => match fields[f]? with
      | some fd => partAV P fd.type cs fd.offset
      | none => none
    | _ => none
  | _ => none

def extractOp (k : Nat) : AV → Option AV
  | .tup cs => cs[k]?
  | _ => none

def cellsAV : AV → List AV
  | .agg cs => cs
  | v => [v]

def isOne : AV → Bool
  | .agg _ | .any => false
  | .lit (.agg _) => false
  | _ => true

def okPart : AV → Bool
  | .agg _ => true
  | v => isOne v

/-- 'cells', from place off on, with the cells cs. -/
def putAt (cells : List AV) (off : Nat) : List AV → List AV
  | [] => cells
  | c :: cs => putAt (cells.set off c) (off + 1) cs

def fillAV (place : Nat → Option (Nat × Nat)) (cells : List AV) : List (Nat × AV) → Option (List AV)
  | [] => some cells
  | (i, v) :: rest =>
    match place i with
    | none => none
    | some (off, size) =>
      if okPart v = true ∧ (cellsAV v).length = size ∧ off + size ≤ cells.length then fillAV place (putAt cells off (cellsAV v)) rest else none

section
variable {P : Program} {E : Env}

theorem now_ok {H : Nat → Option Blk} {id ver i j : Nat} {x : Value} (hn : now H id ver = true) (hH : E.H = H) (hx : CRel E (.ptr id ver i j) x) :
    ∃ B, H id = some B ∧ B.ver = ver ∧ E.live id ∧ i < B.rows.length ∧ x = .pointer (some ⟨(E.addr id).block, (E.addr id).off + i * B.esz + j, none⟩) := by
  obtain ⟨_, B, hB, hv, hr⟩ := hx
  rw [hH] at hB
  unfold now at hn; rw [hB] at hn; simp only [beq_iff_eq] at hn
  obtain ⟨h1, h2, h3⟩ := hr hn.symm
  exact ⟨B, hB, hn, h1, h2, h3⟩

theorem ptr_mk {H : Nat → Option Blk} {id ver i j : Nat} {B : Blk} (hH : E.H = H) (hB : H id = some B) (hv : B.ver = ver) (hl : E.live id) (hi : i < B.rows.length) :
    CRel E (.ptr id ver i j) (.pointer (some ⟨(E.addr id).block, (E.addr id).off + i * B.esz + j, none⟩)) :=
  ⟨rfl, B, by rw [hH]; exact hB, by omega, fun _ => ⟨hl, hi, rfl⟩⟩

theorem run_fieldAt {s : TypeId} {f n b o : Nat} (h : fieldOff P s f = some n) (w : World) :
    (Instr.fieldAt s (.pointer (some ⟨b, o, none⟩)) f).run P w = .ok (.pointer (some ⟨b, o + n, none⟩)) w := by
  unfold fieldOff at h
  split at h <;> try (simp at h; done)
  rename_i fields hu
  split at h <;> try (simp at h; done)
  rename_i fd hf
  split at h <;> try (simp at h; done)
  rename_i m hn
  simp only [Option.some.injEq] at h; subst h
  simp [Instr.fieldAt, run_und hu, hf, Instr.sureAddr, fieldPlace, run_szOf hn, Addr.add_none]

theorem fieldAddrOp_ok {H : Nat → Option Blk} {s : TypeId} {f : Nat} {p v : AV} {x : Value} (h : fieldAddrOp P H s f p = some v) (hH : E.H = H) (hx : CRel E p x) :
    ∃ y, (Instr.fieldAt s x f).run P E.w = .ok y E.w ∧ CRel E v y := by
  unfold fieldAddrOp at h
  split at h
  · rename_i id ver i j
    split at h <;> try (simp at h; done)
    rename_i hn
    split at h <;> try (simp at h; done)
    rename_i n ho
    simp only [Option.some.injEq] at h; subst h
    obtain ⟨B, hB, hv, hl, hi, rfl⟩ := now_ok hn hH hx
    exact ⟨_, run_fieldAt ho _, by rw [Nat.add_assoc]; exact ptr_mk hH hB hv hl hi⟩
  · rename_i e j
    split at h <;> try (simp at h; done)
    rename_i n ho
    simp only [Option.some.injEq] at h; subst h
    obtain ⟨b, o, hp, h2, h3, h4⟩ := hx
    subst hp
    exact ⟨_, run_fieldAt ho _, b, o, by rw [Nat.add_assoc], h2, h3, h4⟩
  · simp at h

theorem run_indexAt_slice {t : TypeId} {n b o len cap : Nat} {k : IntKind} {i : Int} (h : sliceElem P t = some n) (h0 : 0 ≤ i) (hi : i < len) (w : World) :
    (Instr.indexAt t (.slice (some ⟨b, o, none⟩) len cap) (.int k i)).run P w = .ok (.pointer (some ⟨b, o + i.toNat * n, none⟩)) w := by
  unfold sliceElem at h
  split at h <;> try (simp at h; done)
  rename_i elem hu
  simp [Instr.indexAt, asIntOf, run_und hu, h0, hi, run_szOf h, Addr.add_none]

theorem run_indexAt_arr {t : TypeId} {n b o len : Nat} {k : IntKind} {i : Int} (h : arrElem P t = some (len, n)) (h0 : 0 ≤ i) (hi : i < len) (w : World) :
    (Instr.indexAt t (.pointer (some ⟨b, o, none⟩)) (.int k i)).run P w = .ok (.pointer (some ⟨b, o + i.toNat * n, none⟩)) w := by
  unfold arrElem at h
  split at h <;> try (simp at h; done)
  rename_i l elem hu
  split at h <;> try (simp at h; done)
  rename_i m hm
  simp only [Option.some.injEq, Prod.mk.injEq] at h
  obtain ⟨rfl, rfl⟩ := h
  simp [Instr.indexAt, asIntOf, run_und hu, h0, hi, run_szOf hm, Addr.add_none, Instr.sureAddr]

theorem indexAddrOp_ok {H : Nat → Option Blk} {t : TypeId} {p ix v : AV} {sc sc' : List Sc} {obs : List Prop} {x y : Value} (h : indexAddrOp P H t p ix sc = some (v, sc', obs)) (ho : ∀ q ∈ obs, q)
    (hH : E.H = H) (hx : CRel E p x) (hy : CRel E ix y) : ∃ z, (Instr.indexAt t x y).run P E.w = .ok z E.w ∧ CRel E v z := by
  unfold indexAddrOp at h
  split at h
  · rename_i id ver off len nz k i
    simp only [CRel] at hy; subst hy
    split at h <;> try (simp at h; done)
    rename_i n B hn hB
    split at h <;> try (simp at h; done)
    rename_i hc
    simp only [Option.some.injEq, Prod.mk.injEq] at h
    obtain ⟨rfl, rfl, rfl⟩ := h
    obtain ⟨h0, hi⟩ := ho _ (List.mem_singleton.2 rfl)
    obtain ⟨_, B', hB', hv, hr⟩ := hx
    rw [hH] at hB'; rw [hB] at hB'; simp only [Option.some.injEq] at hB'; subst hB'
    obtain ⟨hlen, hr⟩ := hr hc.1.symm
    rcases hr with ⟨cap, hl, rfl, _, _⟩ | ⟨a, rfl, hz, _⟩
    · refine ⟨_, run_indexAt_slice hn h0 hi _, ?_⟩
      have := ptr_mk (j := 0) (i := off + i.toNat) hH hB hc.1 hl (by omega)
      rw [hc.2, Nat.add_assoc, ← Nat.add_mul]; exact this
    · omega
  · rename_i esz xs nz k i e sc0
    simp only [CRel] at hy; subst hy
    split at h <;> try (simp at h; done)
    rename_i n hn
    split at h <;> try (simp at h; done)
    rename_i hc
    simp only [Option.some.injEq, Prod.mk.injEq] at h
    obtain ⟨rfl, rfl, rfl⟩ := h
    obtain ⟨h0, hi⟩ := ho _ (List.mem_singleton.2 rfl)
    obtain ⟨a, cap, rfl, _, _, _, _, hr⟩ := hx
    have hlt : i.toNat < xs.length := (List.getElem?_eq_some_iff.1 hi).1
    rcases hr with rfl | ⟨b, o, rfl, h2, h3, _, hrows⟩
    · simp at hlt
    · refine ⟨_, run_indexAt_slice hn h0 (by omega) _, b, o + i.toNat * n, rfl, h2, h3, ?_⟩
      rw [hc]; exact (DRows.get _ _ _ _ hrows hi).2
  · rename_i id ver r j k i
    simp only [CRel] at hy; subst hy
    split at h <;> try (simp at h; done)
    rename_i hn
    split at h <;> try (simp at h; done)
    rename_i len n ha
    simp only [Option.some.injEq, Prod.mk.injEq] at h
    obtain ⟨rfl, rfl, rfl⟩ := h
    obtain ⟨h0, hi⟩ := ho _ (List.mem_singleton.2 rfl)
    obtain ⟨B, hB, hv, hl, hir, rfl⟩ := now_ok hn hH hx
    exact ⟨_, run_indexAt_arr ha h0 hi _, by rw [Nat.add_assoc]; exact ptr_mk hH hB hv hl hir⟩
  · rename_i e j k i
    simp only [CRel] at hy; subst hy
    split at h <;> try (simp at h; done)
    rename_i len n ha
    simp only [Option.some.injEq, Prod.mk.injEq] at h
    obtain ⟨rfl, rfl, rfl⟩ := h
    obtain ⟨h0, hi⟩ := ho _ (List.mem_singleton.2 rfl)
    obtain ⟨b, o, rfl, h2, h3, h4⟩ := hx
    exact ⟨_, run_indexAt_arr ha h0 hi _, b, o, by rw [Nat.add_assoc], h2, h3, h4⟩
  · simp at h

theorem fieldOp_ok {t : TypeId} {f : Nat} {p v : AV} {x : Value} (h : fieldOp P t f p = some v) (hx : CRel E p x) : ∃ y, (Instr.field t x f).run P E.w = .ok y E.w ∧ CRel E v y := by
  unfold fieldOp at h
  split at h <;> try (simp at h; done)
  rename_i cs
  split at h <;> try (simp at h; done)
  rename_i fields hu
  split at h <;> try (simp at h; done)
  rename_i fd hf
  obtain ⟨vs, rfl, hc⟩ := hx
  obtain ⟨y, h1, h2⟩ := run_part (P := P) hc h
  exact ⟨y, by simp [Instr.field, run_und hu, hf, asAgg, h1], h2⟩

theorem extractOp_ok {k : Nat} {p v : AV} {x : Value} (h : extractOp k p = some v) (hx : CRel E p x) : ∃ y, (Instr.extract x k).run P E.w = .ok y E.w ∧ CRel E v y := by
  unfold extractOp at h
  split at h <;> try (simp at h; done)
  rename_i cs
  obtain ⟨vs, rfl, hc⟩ := hx
  obtain ⟨y, h1, h2⟩ := Cs.get? cs _ k v hc h
  have h1' : vs[k]? = some y := by simpa using h1
  exact ⟨y, by simp [Instr.extract, h1'], h2⟩

theorem one_cells {x : Value} (h : x.oneCell' = true) : x.cells = #[x] := by cases x <;> first | rfl | (simp [Value.oneCell'] at h)

theorem isOne_cells {v : AV} {x : Value} (h : isOne v = true) (hx : CRel E v x) : x.cells = #[x] := by
  cases v <;> simp only [CRel] at hx <;> try (simp [isOne] at h; done)
  case lit u => subst hx; cases x <;> simp_all [isOne, Value.cells]
  case tup cs => obtain ⟨_, rfl, _⟩ := hx; rfl
  case ro => obtain ⟨_, _, rfl, _⟩ := hx; rfl
  case rop => obtain ⟨_, _, rfl, _⟩ := hx; rfl
  case rom => obtain ⟨_, _, _, rfl, _⟩ := hx; rfl
  case fn => obtain ⟨_, _, rfl, _⟩ := hx; rfl
  case ifc => obtain ⟨_, rfl, _⟩ := hx; rfl
  case own => exact one_cells hx.1
  case ptr => exact one_cells hx.1
  case win => exact one_cells hx.1

end
end Go.Am
end PartAmOps3

section PartAmOps4
/- Operations that leave memory alone, continued: composites, slices, lengths; and the one function that tells all of them. -/
namespace Go.Am
open Go

section
variable {P : Program} {E : Env}

theorem cellsAV_ok {v : AV} {x : Value} (h : okPart v = true) (hx : CRel E v x) : Cs E (cellsAV v) x.cells.toList := by
  by_cases hv : ∃ cs, v = .agg cs
  · obtain ⟨cs, rfl⟩ := hv
    obtain ⟨vs, rfl, hc⟩ := hx
    exact hc
  · have h1 : isOne v = true := by
      cases v <;> first | exact h | exact absurd ⟨_, rfl⟩ hv
    have h2 : cellsAV v = [v] := by
      cases v <;> first | rfl | exact absurd ⟨_, rfl⟩ hv
    rw [h2, isOne_cells h1 hx]
    exact ⟨x, [], rfl, hx, rfl⟩

theorem putAt_ok (off : Nat) : ∀ (vs : List AV) (us : List Value) (k : Nat) (cells : List AV) (cs : Array Value), Cs E vs us → Cs E cells cs.toList →
    Cs E (putAt cells (off + k) vs) ((us.zipIdx k).foldl (fun cs p => cs.setIfInBounds (off + p.2) p.1) cs).toList
  | [], us, k, cells, cs, h, hc => by simp only [Cs] at h; subst h; simpa [putAt] using hc
  | v :: vs, _, k, cells, cs, ⟨u, r, h1, h2, h3⟩, hc => by
    subst h1
    simp only [putAt, List.zipIdx_cons, List.foldl_cons]
    rw [Nat.add_assoc]
    exact putAt_ok off vs r (k + 1) _ _ h3 (by rw [Array.toList_setIfInBounds]; exact Cs.set _ _ _ _ _ hc h2)

theorem putAt_length : ∀ (vs : List AV) (cells : List AV) (off : Nat), (putAt cells off vs).length = cells.length
  | [], cells, off => rfl
  | v :: vs, cells, off => by rw [putAt, putAt_length vs]; simp

theorem fillAV_ok {place : Nat → Option (Nat × Nat)} : ∀ (parts : List (Nat × AV)) (us : List (Nat × Value)) (cells r : List AV) (cs : Array Value),
    fillAV place cells parts = some r → us.map (·.1) = parts.map (·.1) → Cs E (parts.map (·.2)) (us.map (·.2)) → Cs E cells cs.toList →
    ∃ rs, Instr.fill place cs us = some rs ∧ Cs E r rs.toList
  | [], us, cells, r, cs, h, hn, _, hc => by
    simp only [fillAV, Option.some.injEq] at h; subst h
    simp at hn; subst hn
    exact ⟨cs, rfl, hc⟩
  | (i, v) :: parts, us, cells, r, cs, h, hn, hp, hc => by
    cases us with
    | nil => simp at hn
    | cons p us =>
      obtain ⟨j, u⟩ := p
      simp only [List.map_cons, List.cons.injEq] at hn
      obtain ⟨rfl, hn⟩ := hn
      simp only [List.map_cons, Cs] at hp
      obtain ⟨u', r', h1, h2, h3⟩ := hp
      simp only [List.cons.injEq] at h1
      obtain ⟨rfl, rfl⟩ := h1
      simp only [fillAV] at h
      simp only [Instr.fill]
      split at h
      · simp at h
      · rename_i off size hpl
        split at h
        · rename_i hk
          obtain ⟨k1, k2, k3⟩ := hk
          have hcs := cellsAV_ok k1 h2
          have hlen : u.cells.size = size := by have := Cs.length _ _ hcs; simpa [k2] using this
          have hlenc : cs.size = cells.length := by simpa using Cs.length _ _ hc
          rw [hpl]
          have hcond : ¬ ((u.cells.size != size || decide (off + u.cells.size > cs.size)) = true) := by simp [hlen, hlenc]; omega
          simp only [hlen, hlenc]
          have hn1 : (decide (size ≠ size) || decide (off + size > cells.length)) = false := by simp; omega
          rw [hn1]
          simp only [Bool.false_eq_true, if_false]
          refine fillAV_ok parts us _ r _ h hn h3 ?_
          have := putAt_ok (E := E) off (cellsAV v) u.cells.toList 0 cells cs hcs hc
          rw [← Array.foldl_toList, Array.toList_zipIdx]
          exact this
        · simp at h

end

def buildOp (P : Program) (t : TypeId) (parts : List (Nat × AV)) : Option AV :=
  match pureRun P (zeroValue t), P.underlying t with
  | some z, some (.struct fields) =>
    match pureRun P (fields.mapM fun f => do pure (f.offset, ← sizeOf f.type)) with
    | some places => match fillAV (places[·]?) (z.cells.toList.map .lit) parts with | some r => some (.agg r) | none => none
    | none => none
  | some z, some (.array _ elem) =>
    match szOf P elem with
    | some size => match fillAV (fun i => some (i * size, size)) (z.cells.toList.map .lit) parts with | some r => some (.agg r) | none => none
    | none => none
  | _, _ => none

section
variable {P : Program} {E : Env}

theorem buildOp_ok {t : TypeId} {parts : List (Nat × AV)} {us : Array (Nat × Value)} {v : AV} (h : buildOp P t parts = some v) (hn : us.toList.map (·.1) = parts.map (·.1))
    (hp : Cs E (parts.map (·.2)) (us.toList.map (·.2))) : ∃ y, (Instr.build t us).run P E.w = .ok y E.w ∧ CRel E v y := by
  unfold buildOp at h
  split at h
  · rename_i z fields hz hu
    split at h <;> try (simp at h; done)
    rename_i places hpl
    split at h <;> try (simp at h; done)
    rename_i r hr
    simp only [Option.some.injEq] at h; subst h
    obtain ⟨rs, h1, h2⟩ := fillAV_ok (E := E) parts us.toList _ r z.cells hr hn hp (Cs.lits _)
    refine ⟨.agg rs, ?_, rs, rfl, h2⟩
    have hpl' := pureRun_ok _ hpl E.w
    simp only [Instr.build, Sem.run_bind, pureRun_ok _ hz, Result.andThen_ok, run_und hu, hpl', h1, Sem.run_pure]
  · rename_i z n elem hz hu
    split at h <;> try (simp at h; done)
    rename_i size hs
    split at h <;> try (simp at h; done)
    rename_i r hr
    simp only [Option.some.injEq] at h; subst h
    obtain ⟨rs, h1, h2⟩ := fillAV_ok (E := E) parts us.toList _ r z.cells hr hn hp (Cs.lits _)
    refine ⟨.agg rs, ?_, rs, rfl, h2⟩
    simp only [Instr.build, Sem.run_bind, pureRun_ok _ hz, Result.andThen_ok, run_und hu, run_szOf hs, h1, Sem.run_pure]
  · simp at h

end
end Go.Am
end PartAmOps4

section PartAmOps5
/- Operations that leave memory alone, continued: slices, lengths; and the one function that tells all of them. -/
namespace Go.Am
open Go

/-- An index that may be missing. -/
def optInt (d : Int) : Option AV → Option Int
  | none => some d
  | some (.lit (.int _ i)) => some i
  | _ => none

def sliceOp (P : Program) (H : Nat → Option Blk) (t : TypeId) (p : AV) (lo hi : Option AV) : Option (AV × List Prop) :=
  match sliceElem P t, p with
  | some n, .own id ver off len nz =>
    match H id, optInt 0 lo, optInt len hi with
    | some B, some l, some h => if B.ver = ver ∧ n = B.esz then some (.own id ver (off + l.toNat) (h.toNat - l.toNat) nz, [0 ≤ l ∧ l ≤ h ∧ h ≤ len]) else none
    | _, _, _ => none
  | some n, .ro esz xs nz =>
    match optInt 0 lo, optInt xs.length hi with
    | some l, some h => if n = esz then some (.ro esz ((xs.drop l.toNat).take (h.toNat - l.toNat)) nz, [0 ≤ l ∧ l ≤ h ∧ h ≤ xs.length]) else none
    | _, _ => none
  | _, _ => none

def lenOp (P : Program) (H : Nat → Option Blk) (t : TypeId) : AV → Option AV
  | .own id ver _ len _ => match P.underlying t with | some (.slice _) => if now H id ver = true then some (.lit (.int .i64 len)) else none | _ => none
  | .ro _ xs _ => match P.underlying t with | some (.slice _) => some (.lit (.int .i64 xs.length)) | _ => none
  | _ => none

/-- An operand that may be missing. -/
def OptRel (E : Env) : Option AV → Option Value → Prop
  | some v, some y => CRel E v y
  | none, none => True
  | _, _ => False

section
variable {P : Program} {E : Env}

theorem run_sliceBound {k : IntKind} {i : Int} {y : Nat} {c : BoundsCode} (h0 : 0 ≤ i) (hi : i ≤ y) (w : World) : (Instr.sliceBound (.int k i) y c).run P w = .ok i.toNat w := by
  simp [Instr.sliceBound, asIntOf, h0, hi]

theorem optInt_rel {d i : Int} {o : Option AV} {x : Option Value} (h : optInt d o = some i) (hx : OptRel E o x) :
    (o = none ∧ x = none ∧ i = d) ∨ ∃ k, x = some (.int k i) := by
  unfold optInt at h
  split at h
  · simp only [Option.some.injEq] at h; cases x with
    | none => exact .inl ⟨rfl, rfl, h.symm⟩
    | some y => simp [OptRel] at hx
  · rename_i k j; simp only [Option.some.injEq] at h; subst h
    cases x with
    | none => simp [OptRel] at hx
    | some y => simp only [OptRel, CRel] at hx; exact .inr ⟨k, by rw [hx]⟩
  · simp at h

theorem loOf {d i : Int} {o : Option AV} {x : Option Value} (h : optInt d o = some i) (hx : OptRel E o x) : (x = none ∧ i = d) ∨ ∃ k, x = some (.int k i) := by
  rcases optInt_rel h hx with ⟨_, a, b⟩ | c
  · exact .inl ⟨a, b⟩
  · exact .inr c

theorem run_sliceBounds {len cap : Nat} {l h : Int} {lo hi : Option Value} (hl : (lo = none ∧ l = 0) ∨ ∃ k, lo = some (.int k l)) (hh : (hi = none ∧ h = len) ∨ ∃ k, hi = some (.int k h))
    (h0 : 0 ≤ l) (h1 : l ≤ h) (h2 : h ≤ len) (hc : len ≤ cap) (w : World) : (Instr.sliceBounds true len cap lo hi none).run P w = .ok (l.toNat, h.toNat, cap) w := by
  have e1 : (match hi, (none : Option Value) with
      | some v, some _ => Instr.sliceBound v cap .slice3B | some v, none => Instr.sliceBound v cap (if true then .sliceAcap else .sliceAlen)
      | none, none => pure len | none, some _ => stuck "Slice: max without high" : Sem Nat).run P w = .ok h.toNat w := by
    rcases hh with ⟨rfl, rfl⟩ | ⟨k, rfl⟩
    · simp
    · simp only; exact run_sliceBound (by omega) (by omega) w
  rcases hl with ⟨rfl, rfl⟩ | ⟨k, rfl⟩
  · rcases hh with ⟨rfl, rfl⟩ | ⟨k, rfl⟩
    · simp [Instr.sliceBounds]
    · simp [Instr.sliceBounds, run_sliceBound (P := P) (show 0 ≤ h by omega) (show h ≤ cap by omega)]
  · rcases hh with ⟨rfl, rfl⟩ | ⟨k', rfl⟩
    · simp [Instr.sliceBounds, run_sliceBound (P := P) h0 (show l ≤ ((len : Nat) : Int) by omega)]
    · simp [Instr.sliceBounds, run_sliceBound (P := P) (show 0 ≤ h by omega) (show h ≤ cap by omega), run_sliceBound (P := P) h0 (show l ≤ ((h.toNat : Nat) : Int) by omega)]

theorem run_sliceAt {t elem : TypeId} {n len cap l h : Nat} {a : Option Addr} {lo hi : Option Value} {w : World} (hu : P.underlying t = some (.slice elem)) (hn : szOf P elem = some n)
    (hb : (Instr.sliceBounds true len cap lo hi none).run P w = .ok (l, h, cap) w) :
    (Instr.sliceAt t (.slice a len cap) lo hi none).run P w = .ok (.slice (if cap = l then a else a.map (·.add (l * n))) (h - l) (cap - l)) w := by
  simp [Instr.sliceAt, Instr.slice, run_und hu, hb, run_szOf hn]

theorem Rows.drop {E : Env} {b esz : Nat} : ∀ (xs : List (List AV)) (o j : Nat), Rows E b o esz xs → Rows E b (o + j * esz) esz (xs.drop j)
  | xs, o, 0, h => by simpa using h
  | [], o, j + 1, _ => by simp [Rows]
  | x :: xs, o, j + 1, ⟨_, _, h⟩ => by
    have := Rows.drop xs (o + esz) j h
    rw [show o + (j + 1) * esz = o + esz + j * esz from by rw [Nat.succ_mul]; omega]; exact this

theorem Rows.take {E : Env} {b esz : Nat} : ∀ (xs : List (List AV)) (o j : Nat), Rows E b o esz xs → Rows E b o esz (xs.take j)
  | xs, o, 0, h => by simp [Rows]
  | [], o, j + 1, _ => by simp [Rows]
  | x :: xs, o, j + 1, ⟨h1, h2, h⟩ => ⟨h1, h2, Rows.take xs (o + esz) j h⟩

theorem DRows.drop {S : Nat → Prop} {w : World} {b esz : Nat} : ∀ (xs : List (List AV)) (o j : Nat), DRows S w b o esz xs → DRows S w b (o + j * esz) esz (xs.drop j)
  | xs, o, 0, h => by simpa using h
  | [], o, j + 1, _ => by simp [DRows]
  | x :: xs, o, j + 1, ⟨_, _, h⟩ => by
    have := DRows.drop xs (o + esz) j h
    rw [show o + (j + 1) * esz = o + esz + j * esz from by rw [Nat.succ_mul]; omega]; exact this

theorem DRows.take {S : Nat → Prop} {w : World} {b esz : Nat} : ∀ (xs : List (List AV)) (o j : Nat), DRows S w b o esz xs → DRows S w b o esz (xs.take j)
  | xs, o, 0, h => by simp [DRows]
  | [], o, j + 1, _ => by simp [DRows]
  | x :: xs, o, j + 1, ⟨h1, h2, h⟩ => ⟨h1, h2, DRows.take xs (o + esz) j h⟩

theorem sliceOp_ok {H : Nat → Option Blk} {t : TypeId} {p v : AV} {lo hi : Option AV} {obs : List Prop} {x : Value} {lo' hi' : Option Value} (h : sliceOp P H t p lo hi = some (v, obs)) (ho : ∀ q ∈ obs, q)
    (hH : E.H = H) (hx : CRel E p x) (hlo : OptRel E lo lo') (hhi : OptRel E hi hi') : ∃ z, (Instr.sliceAt t x lo' hi' none).run P E.w = .ok z E.w ∧ CRel E v z := by
  unfold sliceOp at h
  split at h
  · rename_i n id ver off len nz hn
    split at h <;> try (simp at h; done)
    rename_i B l h hB hl hhh
    split at h <;> try (simp at h; done)
    rename_i hc
    simp only [Option.some.injEq, Prod.mk.injEq] at h
    obtain ⟨rfl, rfl⟩ := h
    obtain ⟨h0, h1, h2⟩ := ho _ (List.mem_singleton.2 rfl)
    obtain ⟨_, B', hB', hv, hr⟩ := hx
    rw [hH] at hB'; rw [hB] at hB'; simp only [Option.some.injEq] at hB'; subst hB'
    obtain ⟨hlen, hr⟩ := hr hc.1.symm
    unfold sliceElem at hn
    split at hn <;> try (simp at hn; done)
    rename_i elem hu
    have hLo := loOf hl hlo
    have hHi := loOf hhh hhi
    rcases hr with ⟨cap, hlv, rfl, hr1, hr2⟩ | ⟨a, rfl, hz, hr1, hr2⟩
    · have hb := run_sliceBounds (P := P) (cap := cap) hLo hHi h0 h1 h2 (by omega) E.w
      by_cases hm : cap = l.toNat
      · refine ⟨_, run_sliceAt hu hn hb, ?_⟩
        simp only [hm, if_true]
        refine ⟨rfl, B, by rw [hH]; exact hB, by omega, fun _ => ⟨by omega, .inr ⟨some ⟨(E.addr id).block, (E.addr id).off + off * B.esz, none⟩, ?_, by omega, by omega, by simp⟩⟩⟩
        rw [show Int.toNat _ - l.toNat = 0 from by omega, show l.toNat - l.toNat = 0 from by omega]
      · refine ⟨_, run_sliceAt hu hn hb, ?_⟩
        simp only [hm, if_false, Option.map_some, Addr.add_none]
        refine ⟨rfl, B, by rw [hH]; exact hB, by omega, fun _ => ⟨by omega, .inl ⟨cap - l.toNat, hlv, ?_, by omega, ?_⟩⟩⟩
        · rw [hc.2, Nat.add_assoc, ← Nat.add_mul]
        · rw [show off + l.toNat + (cap - l.toNat) = off + cap from by omega]; exact hr2
    · have hb := run_sliceBounds (P := P) (len := 0) (cap := 0) hLo (by rcases hHi with ⟨a, b⟩ | c; exact .inl ⟨a, by omega⟩; exact .inr c) h0 h1 (by omega) (by omega) E.w
      have e0 : l = 0 := by omega
      have e1 : h = 0 := by omega
      subst e0 e1
      refine ⟨_, run_sliceAt hu hn hb, rfl, B, by rw [hH]; exact hB, by omega, fun _ => ⟨by simp; omega, .inr ⟨_, rfl, rfl, by simpa using hr1, by simpa using hr2⟩⟩⟩
  · rename_i n esz xs nz hn
    split at h <;> try (simp at h; done)
    rename_i l h hl hhh
    split at h <;> try (simp at h; done)
    rename_i hc
    simp only [Option.some.injEq, Prod.mk.injEq] at h
    obtain ⟨rfl, rfl⟩ := h
    obtain ⟨h0, h1, h2⟩ := ho _ (List.mem_singleton.2 rfl)
    obtain ⟨a, cap, rfl, hnz, hnc, hcap, hlim, hr⟩ := hx
    unfold sliceElem at hn
    split at hn <;> try (simp at hn; done)
    rename_i elem hu
    have hLo := loOf hl hlo
    have hHi := loOf hhh hhi
    have hb := run_sliceBounds (P := P) (cap := cap) hLo hHi h0 h1 h2 hcap E.w
    have hlen : ((xs.drop l.toNat).take (h.toNat - l.toNat)).length = h.toNat - l.toNat := by simp; omega
    refine ⟨_, run_sliceAt hu hn hb, ?_⟩
    refine ⟨_, cap - l.toNat, by rw [hlen], fun hz => ?_, fun hn0 => ?_, by rw [hlen]; omega, by rw [hlen]; omega, ?_⟩
    · obtain ⟨q, hq⟩ := Option.ne_none_iff_exists'.1 (hnz hz)
      subst hq; split <;> simp
    · split at hn0
      · omega
      · have := hnc (by simpa using hn0); omega
    rcases hr with rfl | ⟨b, o, rfl, r1, r2, r3, r4⟩
    · exact .inl (by simp)
    · by_cases hm : cap = l.toNat
      · exact .inl (List.eq_nil_of_length_eq_zero (by omega))
      · refine .inr ⟨b, o + l.toNat * n, by simp [hm, Addr.add_none], r1, r2, ?_, ?_⟩
        · rw [hc, Nat.add_assoc, ← Nat.add_mul, show l.toNat + (cap - l.toNat) = cap from by omega]; exact r3
        · rw [hc]; exact DRows.take _ _ _ (DRows.drop _ _ _ r4)
  · simp at h

theorem lenOp_ok {H : Nat → Option Blk} {t : TypeId} {p v : AV} {x : Value} {ts : Array TypeId} {ty : TypeId} {args : Array Value} (h : lenOp P H t p = some v) (hts : ts[0]? = some t) (hx : CRel E p x)
    (ha : args[0]? = some x) (hH : E.H = H) : ∃ z, (Builtin.len_ ts ty args).run P E.w = .ok z E.w ∧ CRel E v z := by
  unfold lenOp at h
  split at h
  · rename_i id ver off len nz
    split at h <;> try (simp at h; done)
    rename_i e hu
    split at h <;> try (simp at h; done)
    rename_i hn
    simp only [Option.some.injEq] at h; subst h
    obtain ⟨_, B, hB, _, hr⟩ := hx
    rw [hH] at hB
    unfold now at hn; rw [hB] at hn; simp only [beq_iff_eq] at hn
    obtain ⟨_, ⟨cap, _, rfl, _⟩ | ⟨a, rfl, rfl, _⟩⟩ := hr hn.symm
    · exact ⟨_, by simp [Builtin.len_, hts, ha, run_und hu, goInt], rfl⟩
    · exact ⟨_, by simp [Builtin.len_, hts, ha, run_und hu, goInt], rfl⟩
  · rename_i esz xs nz
    split at h <;> try (simp at h; done)
    rename_i e hu
    simp only [Option.some.injEq] at h; subst h
    obtain ⟨a, cap, rfl, _⟩ := hx
    exact ⟨_, by simp [Builtin.len_, hts, ha, run_und hu, goInt], rfl⟩
  · simp at h

end
end Go.Am
end PartAmOps5

section PartAmQop
/- The operations that leave memory alone: one function that tells what each gives, and that it does. -/
namespace Go.Am
open Go

def isIface (P : Program) (t : TypeId) : Option Bool :=
  match P.underlying t with
  | some (.interface _) => some true
  | some _ => some false
  | none => none

def pickOp : AV → AV → AV → Option AV
  | .lit (.bool true), a, _ => some a
  | .lit (.bool false), _, b => some b
  | _, _, _ => none

def scalR (P : Program) (l : List AV) (o : Oper) (sc : List Sc) : Option (AV × List Sc × List Prop) :=
  match scal P l o with | some v => some (v, sc, []) | none => none

def strAdd : AV → AV → List Sc → Option (AV × List Sc × List Prop)
  | .lit (.string x), .lit (.string y), sc => some (.lit (.string (x ++ y)), sc, [x.size + y.size ≤ 2 ^ 62])
  | _, _, _ => none

def isSliceV : AV → Bool | .own .. | .ro .. => true | _ => false
def isStrV : AV → Bool | .lit (.string _) => true | _ => false
def isAggV : AV → Bool | .agg _ => true | _ => false

def simple (sc : List Sc) : Option AV → Option (AV × List Sc × List Prop)
  | some v => some (v, sc, [])
  | none => none

def qop (P : Program) (H : Nat → Option Blk) (l : List AV) (o : Oper) (sc : List Sc) : Option (AV × List Sc × List Prop) :=
  match o.op with
  | .move x | .assign x => some (aev l x, sc, [])
  | .nilCheck x =>
    match aev l x with
    | .ptr id ver i j => if now H id ver = true then some (.ptr id ver i j, sc, []) else none
    | .rop e j => some (.rop e j, sc, [])
    | .fn (.func f) a b => some (.fn (.func f) a b, sc, [])
    | _ => none
  | .pick c a b => simple sc (pickOp (aev l c) (aev l a) (aev l b))
  | .fieldAddr s x f => simple sc (fieldAddrOp P H s f (aev l x))
  | .indexAddr t x ix => indexAddrOp P H t (aev l x) (aev l ix) sc
  | .load t a => loadOp P H t (aev l a) sc
  | .field t x f => simple sc (fieldOp P t f (aev l x))
  | .extract x k => simple sc (extractOp k (aev l x))
  | .build t parts => simple sc (buildOp P t (parts.toList.map fun p => (p.1, aev l p.2)))
  | .slice t x lo hi none =>
    if isSliceV (aev l x) = true then
      match sliceOp P H t (aev l x) (lo.map (aev l)) (hi.map (aev l)) with | some (v, obs) => some (v, sc, obs) | none => none
    else scalR P l o sc
  | .makeInterface t x => if isIface P t = some false then some (.ifc t (aev l x), sc, []) else none
  | .makeFunc fn first captured => some (.fn fn (first.toList.map (aev l)) (captured.toList.map (aev l)), sc, [])
  | .binOp .add _ x y _ => if isStrV (aev l x) = true then strAdd (aev l x) (aev l y) sc else scalR P l o sc
  | .call { callee := .builtin .len, args, argTypes } =>
    match args[0]?, argTypes[0]? with
    | some x, some t => if isSliceV (aev l x) = true then simple sc (lenOp P H t (aev l x)) else scalR P l o sc
    | _, _ => none
  | _ => scalR P l o sc

theorem simple_some {sc sc' : List Sc} {r : Option AV} {v : AV} {obs : List Prop} (h : simple sc r = some (v, sc', obs)) : r = some v ∧ sc' = sc ∧ obs = [] := by
  cases r with
  | none => simp [simple] at h
  | some u => simp [simple] at h; exact ⟨by rw [h.1], h.2.1.symm, by simp [h.2.2]⟩

theorem scalR_some {P : Program} {l : List AV} {o : Oper} {sc sc' : List Sc} {v : AV} {obs : List Prop} (h : scalR P l o sc = some (v, sc', obs)) : scal P l o = some v := by
  unfold scalR at h
  split at h
  · rename_i u hu; simp at h; rw [hu, h.1]
  · simp at h

theorem Cs_map {E : Env} {l : List AV} {a : Act} (hl : Cs E l a.tmps.toList) : ∀ (xs : List Operand), Cs E (xs.map (aev l)) (xs.map a.eval)
  | [] => rfl
  | x :: xs => ⟨_, _, rfl, aev_ok hl x, Cs_map hl xs⟩

theorem opt_rel {E : Env} {l : List AV} {a : Act} (hl : Cs E l a.tmps.toList) (x : Option Operand) : OptRel E (x.map (aev l)) (x.map a.eval) := by
  cases x with
  | none => trivial
  | some x => exact aev_ok hl x

theorem qop_ok {P : Program} {H : Nat → Option Blk} {l : List AV} {o : Oper} {sc sc' : List Sc} {v : AV} {obs : List Prop} (h : qop P H l o sc = some (v, sc', obs)) (ho : ∀ q ∈ obs, q) : QOk P o l H v := by
  by_cases hs : scal P l o = some v
  · exact scal_ok hs
  intro E a hH hI hl
  unfold qop at h
  split at h
  · rename_i x hop
    simp only [Option.some.injEq, Prod.mk.injEq] at h; obtain ⟨rfl, _, _⟩ := h
    exact ⟨a.eval x, by simp [execOp, hop], aev_ok hl x⟩
  · rename_i x hop
    simp only [Option.some.injEq, Prod.mk.injEq] at h; obtain ⟨rfl, _, _⟩ := h
    exact ⟨a.eval x, by simp [execOp, hop], aev_ok hl x⟩
  · rename_i x hop
    have hx := aev_ok hl x
    split at h
    · rename_i id ver i j hav
      split at h <;> try (simp at h; done)
      rename_i hn
      simp only [Option.some.injEq, Prod.mk.injEq] at h; obtain ⟨rfl, _, _⟩ := h
      rw [hav] at hx
      obtain ⟨B, _, _, _, _, hp⟩ := now_ok hn hH hx
      exact ⟨a.eval x, by simp [execOp, hop, hp], hx⟩
    · rename_i e j hav
      simp only [Option.some.injEq, Prod.mk.injEq] at h; obtain ⟨rfl, _, _⟩ := h
      rw [hav] at hx
      have hx' := hx
      obtain ⟨b, q, hp, _⟩ := hx'
      exact ⟨a.eval x, by simp [execOp, hop, hp], hx⟩
    · rename_i f as bs hav
      simp only [Option.some.injEq, Prod.mk.injEq] at h; obtain ⟨rfl, _, _⟩ := h
      rw [hav] at hx
      have hx' := hx
      obtain ⟨_, _, hp, _⟩ := hx'
      exact ⟨a.eval x, by simp [execOp, hop, hp], hx⟩
    · simp at h
  · rename_i c x y hop
    obtain ⟨h1, _, _⟩ := simple_some h
    have hc := aev_ok hl c
    unfold pickOp at h1
    split at h1 <;> try (simp at h1; done)
    · rename_i hav
      rw [hav] at hc; simp only [CRel] at hc
      simp only [Option.some.injEq] at h1; subst h1
      exact ⟨a.eval x, by simp [execOp, hop, hc, asBool], aev_ok hl x⟩
    · rename_i hav
      rw [hav] at hc; simp only [CRel] at hc
      simp only [Option.some.injEq] at h1; subst h1
      exact ⟨a.eval y, by simp [execOp, hop, hc, asBool], aev_ok hl y⟩
  · rename_i s x f hop
    obtain ⟨h1, _, _⟩ := simple_some h
    obtain ⟨y, hr, hc⟩ := fieldAddrOp_ok (P := P) h1 hH (aev_ok hl x)
    exact ⟨y, by simp [execOp, hop, hr], hc⟩
  · rename_i t x ix hop
    obtain ⟨y, hr, hc⟩ := indexAddrOp_ok (P := P) h ho hH (aev_ok hl x) (aev_ok hl ix)
    exact ⟨y, by simp [execOp, hop, hr], hc⟩
  · rename_i t x hop
    obtain ⟨y, hr, hc⟩ := loadOp_ok (P := P) h ho hH hI (aev_ok hl x)
    exact ⟨y, by simp [execOp, hop, hr], hc⟩
  · rename_i t x f hop
    obtain ⟨h1, _, _⟩ := simple_some h
    obtain ⟨y, hr, hc⟩ := fieldOp_ok (P := P) h1 (aev_ok hl x)
    exact ⟨y, by simp [execOp, hop, hr], hc⟩
  · rename_i x k hop
    obtain ⟨h1, _, _⟩ := simple_some h
    obtain ⟨y, hr, hc⟩ := extractOp_ok (P := P) h1 (aev_ok hl x)
    exact ⟨y, by simp [execOp, hop, hr], hc⟩
  · rename_i t parts hop
    obtain ⟨h1, _, _⟩ := simple_some h
    obtain ⟨y, hr, hc⟩ := buildOp_ok (P := P) (E := E) (us := parts.map fun p => (p.1, a.eval p.2)) h1 (by simp) (by
      simp only [List.map_map, Array.toList_map]
      have := Cs_map hl (parts.toList.map (·.2))
      simpa [List.map_map, Function.comp_def] using this)
    exact ⟨y, by simp [execOp, hop, hr], hc⟩
  · rename_i t x lo hi hop
    split at h
    · split at h <;> try (simp at h; done)
      rename_i u obs' hsl
      simp only [Option.some.injEq, Prod.mk.injEq] at h; obtain ⟨rfl, _, rfl⟩ := h
      obtain ⟨y, hr, hc⟩ := sliceOp_ok (P := P) hsl ho hH (aev_ok hl x) (opt_rel hl lo) (opt_rel hl hi)
      exact ⟨y, by simp [execOp, hop, hr], hc⟩
    · exact absurd (scalR_some h) hs
  · rename_i t x hop
    split at h <;> try (simp at h; done)
    rename_i hi
    simp only [Option.some.injEq, Prod.mk.injEq] at h; obtain ⟨rfl, _, _⟩ := h
    refine ⟨.iface t (a.eval x), ?_, a.eval x, rfl, aev_ok hl x⟩
    unfold isIface at hi
    split at hi <;> try (simp at hi; done)
    rename_i d hni hu
    simp only [execOp, hop, Instr.makeInterface, Sem.run_bind, run_und hu, Result.andThen_ok]
    cases d <;> first | rfl | (exact absurd rfl (hni _))
  · rename_i fn first captured hop
    simp only [Option.some.injEq, Prod.mk.injEq] at h; obtain ⟨rfl, _, _⟩ := h
    refine ⟨.func fn (first.map a.eval) (captured.map a.eval), by simp [execOp, hop, Instr.makeFunc], _, _, rfl, ?_, ?_⟩
    · have := Cs_map hl first.toList; simpa using this
    · have := Cs_map hl captured.toList; simpa using this
  · rename_i t x y ty hop
    split at h
    · have hx := aev_ok hl x
      have hy := aev_ok hl y
      unfold strAdd at h
      split at h <;> try (simp at h; done)
      rename_i s u hav1 hav2
      simp only [Option.some.injEq, Prod.mk.injEq] at h; obtain ⟨rfl, _, rfl⟩ := h
      have hb := ho _ (List.mem_singleton.2 rfl)
      rw [hav1] at hx; rw [hav2] at hy
      simp only [CRel] at hx hy
      refine ⟨.string (s ++ u), ?_, rfl⟩
      have hmax : ¬ ((s.size + u.size : Nat) : Int) > IntKind.i64.max := by
        have : IntKind.i64.max = 9223372036854775807 := by decide
        omega
      simp only [execOp, hop, hx, hy, eqGuard, binOp, Op.stringOp, hmax, if_false]
      rfl
    · exact absurd (scalR_some h) hs
  · rename_i args ts hop
    split at h <;> try (simp at h; done)
    rename_i x t hx ht
    split at h
    · obtain ⟨h1, _, _⟩ := simple_some h
      obtain ⟨z, hr, hc⟩ := lenOp_ok (P := P) (ty := o.type) (args := args.map a.eval) h1 ht (aev_ok hl x) (by simp [hx]) hH
      exact ⟨z, by simp [execOp, hop, resolve, invoke, builtin, hr], hc⟩
    · exact absurd (scalR_some h) hs
  · exact absurd (scalR_some h) hs

end Go.Am
end PartAmQop

section PartAmRegion
/- A region whose order is drawn: one walk of the text's order serves every order that its edges allow, if what is not ordered does not meddle. -/
namespace Go.Am
open Go

abbrev Hp := Nat → Option Blk
def upd (H : Hp) (id : Nat) (b : Blk) : Hp := fun x => if x = id then some b else H x
def upds (H : Hp) : List (Nat × Blk) → Hp
  | [] => H
  | p :: r => upds (upd H p.1 p.2) r

def putL (l : List AV) (d : Option Tmp) (v : AV) : List AV := match d with | some d => l.set d v | none => l

theorem putL_ok {E : Env} {l : List AV} {a : Act} {v : AV} {x : Value} (d : Option Tmp) (hl : Cs E l a.tmps.toList) (hv : CRel E v x) : Cs E (putL l d v) (a.put d x).tmps.toList := by
  cases d with
  | none => exact hl
  | some d => simp only [putL, Act.put, Array.toList_setIfInBounds]; exact Cs.set _ _ _ _ _ hl hv

/-- What an operation does, told from a list of slots and a heap: the value that it yields, the heap behind it. -/
def OOk (P : Program) (o : Oper) (l : List AV) (H : Hp) (v : AV) (H' : Hp) : Prop :=
  ∀ (E : Env) (a : Act), E.H = H → Inv E → Cs E l a.tmps.toList → ∀ (next : Act → World → Prop) (Q : Exit → Act → World → Prop),
    (∀ (E' : Env) (x : Value), E'.H = H' → Inv E' → Le E E' → CRel E' v x → next (a.put o.dst x) E'.w) → o.wp P a E.w next Q

theorem OOk.of_q {P : Program} {o : Oper} {l : List AV} {H : Hp} {v : AV} (h : QOk P o l H v) : OOk P o l H v H := by
  intro E a hH hI hl next Q hn
  obtain ⟨x, hr, hc⟩ := h E a hH hI hl
  unfold Oper.wp; rw [hr]
  exact hn E x hH hI (Le.refl E) hc

structure Tn where
  idx : Nat
  o : Oper
  l : List AV
  want : Bool
  v : AV
  ph : Hp → Prop
  wr : List (Nat × Blk)

abbrev St := List AV × Hp

def gtmp (ops : Array Oper) (o : Oper) : Option Tmp := match o.guard with | none => none | some (j, _) => (ops[j]?).bind (·.dst)

def Tn.pre (ops : Array Oper) (t : Tn) (s : St) : Prop :=
  (∀ x ∈ t.o.op.operands, aev s.1 x = aev t.l x) ∧ (∀ d, gtmp ops t.o = some d → s.1.getD d .any = t.l.getD d .any) ∧ (t.want = true → t.ph s.2)

def Tn.next (t : Tn) (s : St) : St := (putL s.1 t.o.dst (if t.want then t.v else .lit undef), if t.want then upds s.2 t.wr else s.2)

/-- Does a guard's value let the operation run? -/
def gv : Value → Bool → Bool
  | .bool b', b => b' == b
  | _, _ => false

structure Tn.Good (P : Program) (ops : Array Oper) (t : Tn) : Prop where
  at_ : ops[t.idx]? = some t.o
  guard : match t.o.guard with
    | none => t.want = true
    | some (j, b) => ∃ d u, (ops[j]?).bind (·.dst) = some d ∧ t.l.getD d .any = .lit u ∧ t.want = gv u b
  ok : t.want = true → ∀ H, t.ph H → ∀ l : List AV, (∀ x ∈ t.o.op.operands, aev l x = aev t.l x) → OOk P t.o l H t.v (upds H t.wr)

def Lex (ops : Array Oper) : List Tn → St → St → Prop
  | [], s, s' => s = s'
  | t :: ts, s, s' => t.pre ops s ∧ Lex ops ts (t.next s) s'

def Indep (ops : Array Oper) (j i : Tn) : Prop :=
  ∀ s, j.pre ops s → i.pre ops (j.next s) → i.pre ops s ∧ j.pre ops (i.next s) ∧ i.next (j.next s) = j.next (i.next s)

theorem bring {ops : Array Oper} {i : Tn} {ts2 : List Tn} {s' : St} : ∀ (ts1 : List Tn) (s : St), Lex ops (ts1 ++ i :: ts2) s s' → (∀ j ∈ ts1, Indep ops j i) →
    i.pre ops s ∧ Lex ops (ts1 ++ ts2) (i.next s) s'
  | [], _, h, _ => h
  | j :: ts1, s, ⟨hj, h⟩, hind => by
    obtain ⟨h1, h2⟩ := bring ts1 (j.next s) h fun k hk => hind k (List.mem_cons_of_mem _ hk)
    obtain ⟨k1, k2, k3⟩ := hind j List.mem_cons_self s hj h1
    exact ⟨k1, k2, by rw [← k3]; exact h2⟩

inductive Anc (md : Region.Mode) (ops : Array Oper) : Nat → Nat → Prop
  | step {i : Nat} {o : Oper} {e : Edge} (h : ops[i]? = some o) (he : e ∈ o.after) (hb : Region.binds md e = true) : Anc md ops e.on i
  | trans {i j : Nat} {o : Oper} {e : Edge} (h : ops[i]? = some o) (he : e ∈ o.after) (hb : Region.binds md e = true) (k : Anc md ops j e.on) : Anc md ops j i

theorem wanted_ok {E : Env} {ops : Array Oper} {t : Tn} {P : Program} {s : St} {a : Act} (hg : t.Good P ops) (hp : t.pre ops s) (hl : Cs E s.1 a.tmps.toList) :
    Region.wanted t.o (yielded ops a.tmps) = t.want := by
  have g := hg.guard
  unfold Region.wanted
  split at g
  · rename_i hn; rw [hn]; exact g.symm
  · rename_i j b hn
    obtain ⟨d, u, h1, h2, h3⟩ := g
    rw [hn]; simp only
    have h4 := hp.2.1 d (by simp [gtmp, hn, h1])
    have h5 := Cs.getD s.1 _ d hl
    rw [h4, h2] at h5
    simp only [CRel] at h5
    rw [List.getD_eq_getElem?_getD, Array.getElem?_toList] at h5
    rw [h3]
    unfold yielded; rw [h1]; simp only [Option.bind_some]
    cases h7 : a.tmps[d]? with
    | none => rw [h7] at h5; simp only [Option.getD_none] at h5; subst h5; simp [undef, gv]
    | some y =>
      rw [h7] at h5; simp only [Option.getD_some] at h5; subst h5
      cases y <;> simp [gv]

structure Rel (E0 E : Env) (s : St) (a : Act) (df : List Deferred) : Prop where
  H : E.H = s.2
  inv : Inv E
  cs : Cs E s.1 a.tmps.toList
  le : Le E0 E
  df : a.defers = df

theorem put_defers {a : Act} (d : Option Tmp) (x : Value) : (a.put d x).defers = a.defers := by cases d <;> rfl

theorem getD_of_false {listed : Array Bool} {k : Nat} (h : listed.getD k false = true) : listed.getD k true = true := by
  rw [Array.getD_eq_getD_getElem?] at h ⊢
  cases hx : listed[k]? with
  | none => rfl
  | some b => rw [hx] at h; simpa using h

theorem getD_lt {listed : Array Bool} {k : Nat} (h : listed.getD k true = false) : k < listed.size := by
  rcases Nat.lt_or_ge k listed.size with h' | h'
  · exact h'
  · rw [Array.getD_eq_getD_getElem?, Array.getElem?_eq_none h'] at h; simp at h

theorem any_of_lex {P : Program} {md : Region.Mode} {ops : Array Oper} {E0 : Env} {df : List Deferred} {s' : St} {Q : Exit → Act → World → Prop}
    (hQ : ∀ E a, Rel E0 E s' a df → Q .normal a E.w) (hback : ∀ i o, ops[i]? = some o → ∀ e ∈ o.after, Region.binds md e = true → e.on < i) : ∀ (fuel : Nat) (ts : List Tn) (listed : Array Bool) (s : St) (E : Env) (a : Act), ts.length ≤ fuel →
    (∀ t ∈ ts, t.Good P ops) → ts.Pairwise (fun x y => x.idx < y.idx) →
    (∀ k, listed.getD k true = false ↔ ∃ t ∈ ts, t.idx = k) →
    (∀ k o, ops[k]? = some o → listed.getD k true = true → ∀ e ∈ o.after, Region.binds md e = true → listed.getD e.on false = true) →
    (∀ j ∈ ts, ∀ i ∈ ts, j.idx < i.idx → ¬ Anc md ops j.idx i.idx → Indep ops j i) →
    Lex ops ts s s' → Rel E0 E s a df → wpAny P md ops Q fuel listed a E.w
  | 0, ts, listed, s, E, a, hf, hgood, hpw, hun, hcl, hind, hlex, hrel => by
    have : ts = [] := List.eq_nil_of_length_eq_zero (by omega)
    subst this
    simp only [Lex] at hlex
    refine ⟨?_, hQ E a (hlex ▸ hrel)⟩
    apply List.eq_nil_iff_forall_not_mem.2
    intro j hj
    obtain ⟨h1, _⟩ := mem_ready.1 hj
    obtain ⟨t, ht, _⟩ := (hun j).1 h1
    simp at ht
  | fuel + 1, ts, listed, s, E, a, hf, hgood, hpw, hun, hcl, hind, hlex, hrel => by
    refine ⟨fun hr => ?_, fun i hi => ?_⟩
    · cases ts with
      | nil => simp only [Lex] at hlex; exact hQ E a (hlex ▸ hrel)
      | cons t ts =>
        exfalso
        have hu := (hun t.idx).2 ⟨t, List.mem_cons_self, rfl⟩
        have : t.idx ∈ Region.ready md ops listed := by
          refine mem_ready.2 ⟨hu, t.o, (hgood t List.mem_cons_self).at_, fun e he hb => ?_⟩
          have hlt := hback _ _ (hgood t List.mem_cons_self).at_ e he hb
          have hsz := getD_lt hu
          cases hx : listed.getD e.on true with
          | false =>
            obtain ⟨u, hu1, hu2⟩ := (hun e.on).1 hx
            rcases List.mem_cons.1 hu1 with rfl | h
            · omega
            · have := (List.pairwise_cons.1 hpw).1 u h; omega
          | true =>
            rw [Array.getD_eq_getD_getElem?] at hx ⊢
            rw [Array.getElem?_eq_getElem (by omega)] at hx ⊢
            simpa using hx
        rw [hr] at this; simp at this
    · obtain ⟨h1, o, ho, hpred⟩ := mem_ready.1 hi
      obtain ⟨t, ht, rfl⟩ := (hun i).1 h1
      have hg := hgood t ht
      obtain ⟨ts1, ts2, rfl⟩ := List.append_of_mem ht
      have hto : o = t.o := by have := hg.at_; rw [ho] at this; simpa using this
      subst hto
      have hnot : ∀ j ∈ ts1, ¬ Anc md ops j.idx t.idx := by
        intro j hj hanc
        have hjl : listed.getD j.idx true = false := (hun j.idx).2 ⟨j, by simp [hj], rfl⟩
        have key : ∀ k m, Anc md ops k m → (∀ o, ops[m]? = some o → ∀ e ∈ o.after, Region.binds md e = true → listed.getD e.on false = true) → listed.getD k false = true := by
          intro k m h
          induction h with
          | step h he hb => exact fun hp => hp _ h _ he hb
          | trans h he hb k ih =>
            intro hp
            have hl := hp _ h _ he hb
            refine ih fun o' ho' e' he' hb' => ?_
            refine hcl _ o' ho' ?_ e' he' hb'
            exact getD_of_false hl
        have := key _ _ hanc fun o' ho' => by rw [hg.at_] at ho'; simp only [Option.some.injEq] at ho'; subst ho'; exact hpred
        rw [getD_of_false this] at hjl; simp at hjl
      have hpw' := List.pairwise_append.1 hpw
      obtain ⟨hpre, hlex'⟩ := bring ts1 s hlex fun j hj => hind j (by simp [hj]) t (by simp) (hpw'.2.2 j hj t List.mem_cons_self) (hnot j hj)
      have hlen : (ts1 ++ ts2).length ≤ fuel := by simp at hf ⊢; omega
      have cont : ∀ (E' : Env) (a' : Act), Rel E0 E' (t.next s) a' df → wpAny P md ops Q fuel (listed.setIfInBounds t.idx true) a' E'.w := by
        intro E' a' hrel'
        have hlt : t.idx < listed.size := getD_lt h1
        refine any_of_lex hQ hback fuel (ts1 ++ ts2) _ (t.next s) E' a' hlen (fun u hu => hgood u ?_) ?_ ?_ ?_ (fun j hj i hi => hind j ?_ i ?_) hlex' hrel'
        · rcases List.mem_append.1 hu with h | h <;> simp [h]
        · exact hpw.sublist (List.Sublist.append_left (List.sublist_cons_self _ _) _)
        · intro k
          by_cases hk : t.idx = k
          · subst hk
            constructor
            · intro h; rw [Array.getD_eq_getD_getElem?, Array.getElem?_setIfInBounds] at h; simp [hlt] at h
            · rintro ⟨u, hu, he⟩
              exfalso
              rcases List.mem_append.1 hu with h | h
              · have := hpw'.2.2 u h t List.mem_cons_self; omega
              · have := (List.pairwise_cons.1 hpw'.2.1).1 u h; omega
          · rw [getD_set_ne _ hk, hun k]
            constructor
            · rintro ⟨u, hu, rfl⟩
              rcases List.mem_append.1 hu with h | h
              · exact ⟨u, by simp [h], rfl⟩
              · rcases List.mem_cons.1 h with rfl | h
                · exact absurd rfl hk
                · exact ⟨u, by simp [h], rfl⟩
            · rintro ⟨u, hu, rfl⟩
              rcases List.mem_append.1 hu with h | h
              · exact ⟨u, by simp [h], rfl⟩
              · exact ⟨u, by simp [h], rfl⟩
        · intro k o' ho' hk e he hb
          by_cases hkt : t.idx = k
          · subst hkt
            rw [hg.at_] at ho'; simp only [Option.some.injEq] at ho'; subst ho'
            exact getD_set_true (hpred e he hb)
          · rw [getD_set_ne _ hkt] at hk
            exact getD_set_true (hcl k o' ho' hk e he hb)
        · rcases List.mem_append.1 hj with h | h <;> simp [h]
        · rcases List.mem_append.1 hi with h | h <;> simp [h]
      unfold wpOp
      rw [hg.at_]; simp only
      rw [wanted_ok hg hpre hrel.cs]
      by_cases hw : t.want = true
      · rw [hw]; simp only [if_true]
        refine .inl ((hg.ok hw s.2 (hpre.2.2 hw) s.1 hpre.1) E a hrel.H hrel.inv hrel.cs _ _ fun E' x hH' hI' hL' hx => cont E' _ ⟨?_, hI', ?_, hrel.le.trans hL', ?_⟩)
        · simp [Tn.next, hw, hH']
        · simp only [Tn.next, hw, if_true]; exact putL_ok _ (Cs.mono hrel.inv hL' _ _ hrel.cs) hx
        · rw [put_defers]; exact hrel.df
      · have hw' : t.want = false := by simpa using hw
        rw [hw']; simp only [Bool.false_eq_true, if_false]
        refine cont E _ ⟨?_, hrel.inv, ?_, hrel.le, ?_⟩
        · simp [Tn.next, hw', hrel.H]
        · simp only [Tn.next, hw', Bool.false_eq_true, if_false]; exact putL_ok _ hrel.cs rfl
        · rw [put_defers]; exact hrel.df

end Go.Am
end PartAmRegion

section PartAmHeap
/- What becomes of a view when a block of its own is made, written or grown. -/
namespace Go.Am
open Go

theorem At_iff {E : Env} {b : Nat} : ∀ (cs : List AV) (o : Nat), At E b o cs ↔ ∀ j c, cs[j]? = some c → ∃ y, E.w.cell? ⟨b, o + j, none⟩ = some y ∧ y.oneCell' = true ∧ CRel E c y
  | [], o => by simp [At]
  | c :: cs, o => by
    constructor
    · rintro ⟨h1, h2⟩ j d hj
      cases j with
      | zero => simp at hj; subst hj; simpa using h1
      | succ j =>
        have := (At_iff cs (o + 1)).1 h2 j d (by simpa using hj)
        rw [show o + (j + 1) = o + 1 + j from by omega]; exact this
    · intro h
      refine ⟨by simpa using h 0 c (by simp), (At_iff cs (o + 1)).2 fun j d hj => ?_⟩
      have := h (j + 1) d (by simpa using hj)
      rw [show o + 1 + j = o + (j + 1) from by omega]; exact this

theorem DAt_iff {S : Nat → Prop} {w : World} {b : Nat} : ∀ (cs : List AV) (o : Nat), DAt S w b o cs ↔ ∀ j c, cs[j]? = some c → ∃ y, w.cell? ⟨b, o + j, none⟩ = some y ∧ y.oneCell' = true ∧ DRel S w c y
  | [], o => by simp [DAt]
  | c :: cs, o => by
    constructor
    · rintro ⟨h1, h2⟩ j d hj
      cases j with
      | zero => simp at hj; subst hj; simpa using h1
      | succ j =>
        have := (DAt_iff cs (o + 1)).1 h2 j d (by simpa using hj)
        rw [show o + (j + 1) = o + 1 + j from by omega]; exact this
    · intro h
      refine ⟨by simpa using h 0 c (by simp), (DAt_iff cs (o + 1)).2 fun j d hj => ?_⟩
      have := h (j + 1) d (by simpa using hj)
      rw [show o + 1 + j = o + (j + 1) from by omega]; exact this

theorem DRows_iff {S : Nat → Prop} {w : World} {b esz : Nat} : ∀ (xs : List (List AV)) (o : Nat), DRows S w b o esz xs ↔ ∀ i e, xs[i]? = some e → e.length = esz ∧ DAt S w b (o + i * esz) e
  | [], o => by simp [DRows]
  | x :: xs, o => by
    constructor
    · intro h i e hi; exact DRows.get _ _ _ _ h hi
    · intro h
      have h0 := h 0 x (by simp)
      refine ⟨h0.1, by simpa using h0.2, (DRows_iff xs (o + esz)).2 fun i e hi => ?_⟩
      have := h (i + 1) e (by simpa using hi)
      rw [show o + esz + i * esz = o + (i + 1) * esz from by rw [Nat.succ_mul]; omega]; exact this

theorem Rows_iff {E : Env} {b esz : Nat} : ∀ (xs : List (List AV)) (o : Nat), Rows E b o esz xs ↔ ∀ i e, xs[i]? = some e → e.length = esz ∧ At E b (o + i * esz) e
  | [], o => by simp [Rows]
  | x :: xs, o => by
    constructor
    · intro h i e hi; exact Rows.get _ _ _ _ h hi
    · intro h
      have h0 := h 0 x (by simp)
      refine ⟨h0.1, by simpa using h0.2, (Rows_iff xs (o + esz)).2 fun i e hi => ?_⟩
      have := h (i + 1) e (by simpa using hi)
      rw [show o + esz + i * esz = o + (i + 1) * esz from by rw [Nat.succ_mul]; omega]; exact this

theorem At.keep {E E' : Env} (hI : Inv E) (hL : Le E E') {b o : Nat} {cs : List AV} (hb : E'.w.heap[b]? = E.w.heap[b]?) (h : At E b o cs) : At E' b o cs := by
  rw [At_iff] at h ⊢
  intro j c hj
  obtain ⟨y, h1, h0, h2⟩ := h j c hj
  exact ⟨y, by rw [cell_congr hb]; exact h1, h0, CRel.mono hI hL c y h2⟩

theorem DAt.keep {S S' : Nat → Prop} {w w' : World} (hL : LeS S w S' w') {b o : Nat} {cs : List AV} (hb : w'.heap[b]? = w.heap[b]?) (h : DAt S w b o cs) : DAt S' w' b o cs := by
  rw [DAt_iff] at h ⊢
  intro j c hj
  obtain ⟨y, h1, h0, h2⟩ := h j c hj
  exact ⟨y, by rw [cell_congr hb]; exact h1, h0, DRel.mono hL c y h2⟩

theorem DRows.keep {S S' : Nat → Prop} {w w' : World} (hL : LeS S w S' w') {b o esz : Nat} {xs : List (List AV)} (hb : w'.heap[b]? = w.heap[b]?) (h : DRows S w b o esz xs) : DRows S' w' b o esz xs := by
  rw [DRows_iff] at h ⊢
  intro i e hi
  obtain ⟨h1, h2⟩ := h i e hi
  exact ⟨h1, DAt.keep hL hb h2⟩

theorem Rows.keep {E E' : Env} (hI : Inv E) (hL : Le E E') {b o esz : Nat} {xs : List (List AV)} (hb : E'.w.heap[b]? = E.w.heap[b]?) (h : Rows E b o esz xs) : Rows E' b o esz xs := by
  rw [Rows_iff] at h ⊢
  intro i e hi
  obtain ⟨h1, h2⟩ := h i e hi
  exact ⟨h1, At.keep hI hL hb h2⟩

theorem BRel.keep {E E' : Env} (hI : Inv E) (hL : Le E E') {b o : Nat} {B : Blk} (hb : E'.w.heap[b]? = E.w.heap[b]?) (h : BRel E b o B) : BRel E' b o B := by
  cases B with
  | box v e => exact At.keep hI hL hb h
  | arr n v rows => exact Rows.keep hI hL hb h

/-- A view in which block number id is B', at place a'. -/
def Env.put (E : Env) (id : Nat) (B' : Blk) (a' : Addr) (w' : World) : Env :=
  ⟨upd E.H id B', fun x => if x = id then a' else E.addr x, fun x => x = id ∨ E.live x, fun b => b = a'.block ∨ E.S b, w'⟩

/-- The block in which id lay. -/
def Env.held (E : Env) (id b : Nat) : Prop := ∃ B, E.H id = some B ∧ E.live id ∧ (E.addr id).block = b

theorem held_lt {E : Env} (hI : Inv E) {id b : Nat} (h : E.held id b) : b < E.w.heap.size := by
  obtain ⟨B, hB, hl, rfl⟩ := h
  exact hI.small _ (hI.owned _ ⟨id, B, hl, hB, rfl⟩)

structure PutOk (E : Env) (id : Nat) (B' : Blk) (a' : Addr) (w' : World) : Prop where
  os : w'.os = E.w.os
  tape : w'.tape = E.w.tape
  output : w'.output = E.w.output
  size : E.w.heap.size ≤ w'.heap.size
  keep : ∀ b, b < E.w.heap.size → ¬ E.held id b → w'.heap[b]? = E.w.heap[b]?
  place : (E.w.heap.size ≤ a'.block ∧ a'.block < w'.heap.size) ∨ E.held id a'.block
  ver : ∀ B, E.H id = some B → B.ver < B'.ver ∨ (B.ver = B'.ver ∧ B'.esz = B.esz ∧ B'.rows.length = B.rows.length ∧ (E.live id → a' = E.addr id ∧ bsz w' (E.addr id).block = bsz E.w (E.addr id).block))

theorem put_le {E : Env} {id : Nat} {B' : Blk} {a' : Addr} {w' : World} (hI : Inv E) (h : PutOk E id B' a' w') : Le E (E.put id B' a' w') where
  os := h.os
  tape := h.tape
  output := h.output
  osub := by
    rintro b hb ⟨i, B, h1, h2, h3⟩
    simp only [Env.put, upd] at h1 h2 h3
    by_cases e : i = id
    · subst e
      simp only [if_true] at h3
      rcases h.place with hp | hp
      · omega
      · rw [h3] at hp; obtain ⟨B0, q1, q2, q3⟩ := hp; exact ⟨i, B0, q2, q1, q3⟩
    · simp only [e, if_false, false_or] at h1 h2 h3
      exact ⟨i, B, h1, h2, h3⟩
  size := h.size
  keep := fun b hb hn => h.keep b hb fun ⟨B, q1, q2, q3⟩ => hn ⟨id, B, q2, q1, q3⟩
  sub := by
    rintro b hb (rfl | hs)
    · rcases h.place with hp | ⟨B, q1, q2, q3⟩
      · omega
      · exact hI.owned _ ⟨id, B, q2, q1, q3⟩
    · exact hs
  sup := fun b hs => .inr hs
  ids := by
    intro i B hB
    by_cases e : i = id
    · subst e
      refine ⟨B', by simp [Env.put, upd], ?_, ?_⟩
      · rcases h.ver B hB with hv | hv <;> omega
      · intro hv
        rcases h.ver B hB with hv' | ⟨_, h2, h3, h4⟩
        · omega
        · refine ⟨h2, h3, fun hl => ⟨.inl rfl, ?_, (h4 hl).2⟩⟩
          simp only [Env.put, if_true]; exact (h4 hl).1
    · refine ⟨B, by simp [Env.put, upd, e, hB], Nat.le_refl _, fun _ => ⟨rfl, rfl, fun hl => ⟨.inr hl, by simp [Env.put, e], ?_⟩⟩⟩
      refine bsz_congr (h.keep _ ?_ ?_)
      · exact held_lt hI ⟨B, hB, hl, rfl⟩
      · rintro ⟨B0, q1, q2, q3⟩; exact e (hI.inj _ _ _ _ hl q2 hB q1 q3.symm)

theorem put_inv {E : Env} {id : Nat} {B' : Blk} {a' : Addr} {w' : World} (hI : Inv E) (h : PutOk E id B' a' w') (hs : a'.spot = none)
    (hb : ∃ c t fr, w'.heap[a'.block]? = some (.cells c t fr) ∧ (fr.1 = fr.2 ∨ c.size ≤ fr.1) ∧ a'.off + B'.rows.length * B'.esz ≤ c.size)
    (hr : BRel (E.put id B' a' w') a'.block a'.off B') : Inv (E.put id B' a' w') where
  owned := by
    rintro b ⟨i, B, h1, h2, h3⟩
    simp only [Env.put, upd] at h1 h2 h3
    by_cases e : i = id
    · subst e; simp only [if_true] at h3; exact .inl h3.symm
    · simp only [e, if_false, false_or] at h1 h2 h3
      exact .inr (hI.owned b ⟨i, B, h1, h2, h3⟩)
  small := by
    rintro b (rfl | hs)
    · rcases h.place with hp | hp
      · exact hp.2
      · exact Nat.lt_of_lt_of_le (held_lt hI hp) h.size
    · exact Nat.lt_of_lt_of_le (hI.small b hs) h.size
  blk := by
    intro i B hB hl
    by_cases e : i = id
    · subst e
      simp only [Env.put, upd, if_true, Option.some.injEq] at hB; subst hB
      obtain ⟨c, t, fr, q1, q2, q3⟩ := hb
      simp only [Env.put, if_true]
      exact ⟨hs, c, t, fr, q1, q2, q3, hr⟩
    · simp only [Env.put, upd, e, if_false, false_or] at hB hl
      obtain ⟨p1, c, t, fr, p2, p3, p4, p5⟩ := hI.blk i B hB hl
      have hk : w'.heap[(E.addr i).block]? = E.w.heap[(E.addr i).block]? := h.keep _ (held_lt hI ⟨B, hB, hl, rfl⟩) (by
        rintro ⟨B0, q1, q2, q3⟩; exact e (hI.inj _ _ _ _ hl q2 hB q1 q3.symm))
      have ha : (E.put id B' a' w').addr i = E.addr i := by simp [Env.put, e]
      rw [ha]
      exact ⟨p1, c, t, fr, by rw [← p2]; exact hk, p3, p4, BRel.keep hI (put_le hI h) hk p5⟩
  inj := by
    intro i j B C hli hlj hB hC he
    by_cases ei : i = id <;> by_cases ej : j = id
    · rw [ei, ej]
    · exfalso
      simp only [Env.put, upd, ei, ej, if_false, if_true, false_or, true_or] at hli hlj hB hC he
      rcases h.place with hp | ⟨B0, q1, q2, q3⟩
      · have := held_lt hI ⟨C, hC, hlj, rfl⟩; omega
      · exact ej (hI.inj _ _ _ _ hlj q2 hC q1 (by rw [q3, he]))
    · exfalso
      simp only [Env.put, upd, ei, ej, if_false, if_true, false_or, true_or] at hli hlj hB hC he
      rcases h.place with hp | ⟨B0, q1, q2, q3⟩
      · have := held_lt hI ⟨B, hB, hli, rfl⟩; omega
      · exact ei (hI.inj _ _ _ _ hli q2 hB q1 (by rw [q3, he]))
    · simp only [Env.put, upd, ei, ej, if_false, false_or] at hli hlj hB hC he
      exact hI.inj _ _ _ _ hli hlj hB hC he

def Env.drew (E : Env) : Env := ⟨E.H, E.addr, E.live, E.S, { E.w with drawn := E.w.drawn + 1 }⟩

theorem drew_le (E : Env) : Le E E.drew :=
  ⟨rfl, rfl, rfl, fun _ _ h => h, Nat.le_refl _, fun _ _ _ => rfl, fun _ _ h => h, fun _ h => h, fun _ B h => ⟨B, h, Nat.le_refl _, fun _ => ⟨rfl, rfl, fun hl => ⟨hl, rfl, rfl⟩⟩⟩⟩

theorem drew_inv {E : Env} (h : Inv E) : Inv E.drew where
  owned := h.owned
  small := h.small
  blk := fun i B hB hl => by
    obtain ⟨h1, c, t, fr, h2, h3, h4, h5⟩ := h.blk i B hB hl
    exact ⟨h1, c, t, fr, h2, h3, h4, BRel.keep h (drew_le E) rfl h5⟩
  inj := h.inj

end Go.Am
end PartAmHeap

section PartAmNew
/- Operations that make a block: alloc, box, buildSlice, makeSlice; and the store of a value into a block of one's own. -/
namespace Go.Am
open Go

theorem cell_of_block {w : World} {b o : Nat} {c : Array Value} {t : TypeId} {fr : Nat × Nat} (h : w.heap[b]? = some (.cells c t fr)) : w.cell? ⟨b, o, none⟩ = c[o]? := by
  unfold World.cell?; simp [h]

theorem At_of_cells {E : Env} {b o : Nat} {c : Array Value} {t : TypeId} {fr : Nat × Nat} (h : E.w.heap[b]? = some (.cells c t fr)) {e : List AV} {us : List Value}
    (hc : Cs E e us) (h1c : ∀ v ∈ us, v.oneCell' = true) (hu : ∀ j, j < e.length → c[o + j]? = us[j]?) : At E b o e := by
  rw [At_iff]
  intro j d hj
  obtain ⟨v, h1, h2⟩ := Cs.get? e us j d hc hj
  have hlt : j < e.length := (List.getElem?_eq_some_iff.1 hj).1
  exact ⟨v, by rw [cell_of_block h, hu j hlt]; exact h1, h1c v (List.mem_of_getElem? h1), h2⟩

theorem DCs.get? {S : Nat → Prop} {w : World} : ∀ (l : List AV) (vs : List Value) (t : Nat) (c : AV), DCs S w l vs → l[t]? = some c → ∃ v, vs[t]? = some v ∧ DRel S w c v
  | [], _, t, _, _, hc => by simp at hc
  | d :: l, _, 0, c, ⟨v, r, h1, h2, _⟩, hc => by subst h1; simp at hc; subst hc; exact ⟨v, by simp, h2⟩
  | d :: l, _, t + 1, c, ⟨v, r, h1, _, h3⟩, hc => by subst h1; simpa using DCs.get? l r t c h3 (by simpa using hc)

theorem DAt_of_cells {S : Nat → Prop} {w : World} {b o : Nat} {c : Array Value} {t : TypeId} {fr : Nat × Nat} (h : w.heap[b]? = some (.cells c t fr)) {e : List AV} {us : List Value}
    (hc : DCs S w e us) (h1c : ∀ v ∈ us, v.oneCell' = true) (hu : ∀ j, j < e.length → c[o + j]? = us[j]?) : DAt S w b o e := by
  rw [DAt_iff]
  intro j d hj
  obtain ⟨v, h1, h2⟩ := DCs.get? e us j d hc hj
  have hlt : j < e.length := (List.getElem?_eq_some_iff.1 hj).1
  exact ⟨v, by rw [cell_of_block h, hu j hlt]; exact h1, h1c v (List.mem_of_getElem? h1), h2⟩

def World.pushed (w : World) (c : Array Value) (t : TypeId) (fr : Nat × Nat := (0, 0)) : World := { w with heap := w.heap.push (.cells c t fr) }

theorem run_newRow {P : Program} {w : World} {t : TypeId} {c : Array Value} : (newRow t c).run P w = .ok ⟨w.heap.size, 0, none⟩ (World.pushed w c t) := by
  simp [newRow, World.pushed]

theorem pushed_at {w : World} {c : Array Value} {t : TypeId} {fr : Nat × Nat} : (World.pushed w c t fr).heap[w.heap.size]? = some (.cells c t fr) := by
  simp only [World.pushed, Array.getElem?_push, if_true]

theorem pushed_old {w : World} {c : Array Value} {t : TypeId} {fr : Nat × Nat} {b : Nat} (h : b < w.heap.size) : (World.pushed w c t fr).heap[b]? = w.heap[b]? := by
  simp only [World.pushed, Array.getElem?_push]
  split
  · omega
  · rfl

theorem push_ok {E : Env} {id : Nat} {B : Blk} {c : Array Value} {t : TypeId} (hid : E.H id = none) : PutOk E id B ⟨E.w.heap.size, 0, none⟩ (World.pushed E.w c t) where
  os := rfl
  tape := rfl
  output := rfl
  size := by simp [World.pushed]
  keep := fun b hb _ => pushed_old hb
  place := .inl ⟨Nat.le_refl _, by simp [World.pushed]⟩
  ver := fun B h => by rw [hid] at h; simp at h

theorem bsz_pushed {w : World} {c : Array Value} {t : TypeId} {fr : Nat × Nat} : bsz (World.pushed w c t fr) w.heap.size = c.size := by unfold bsz; rw [pushed_at]

theorem new_box {E : Env} (hI : Inv E) {id : Nat} {e : List AV} {c : Array Value} {t : TypeId} (hid : E.H id = none) (hc : Cs E e c.toList) (h1c : ∀ v ∈ c.toList, v.oneCell' = true) :
    Inv (E.put id (.box 0 e) ⟨E.w.heap.size, 0, none⟩ (World.pushed E.w c t)) ∧ Le E (E.put id (.box 0 e) ⟨E.w.heap.size, 0, none⟩ (World.pushed E.w c t)) ∧
    CRel (E.put id (.box 0 e) ⟨E.w.heap.size, 0, none⟩ (World.pushed E.w c t)) (.ptr id 0 0 0) (.pointer (some ⟨E.w.heap.size, 0, none⟩)) := by
  have hlen : c.size = e.length := by simpa using Cs.length _ _ hc
  have hp := push_ok (B := .box 0 e) (c := c) (t := t) hid
  have h2 := put_le hI hp
  have h1 : Inv (E.put id (.box 0 e) ⟨E.w.heap.size, 0, none⟩ (World.pushed E.w c t)) :=
    put_inv hI hp rfl ⟨c, t, (0, 0), pushed_at, .inl rfl, by simp [Blk.rows, Blk.esz, hlen]⟩ (At_of_cells pushed_at (Cs.mono hI h2 _ _ hc) h1c fun j _ => by simp)
  refine ⟨h1, h2, rfl, .box 0 e, by simp [Env.put, upd], Nat.le_refl _, fun _ => ⟨.inl rfl, by simp [Blk.rows], ?_⟩⟩
  simp [Env.put]

def cellOk : AV → Bool
  | .lit v => v.oneCell'
  | .agg _ | .tup _ | .any => false
  | _ => true

theorem cellOk_one {E : Env} {v : AV} {x : Value} (h : cellOk v = true) (hx : CRel E v x) : x.oneCell' = true := by
  cases v <;> simp only [CRel] at hx <;> try (simp [cellOk] at h; done)
  case lit u => subst hx; exact h
  case ro => obtain ⟨_, _, rfl, _⟩ := hx; rfl
  case rop => obtain ⟨_, _, rfl, _⟩ := hx; rfl
  case rom => obtain ⟨_, _, _, rfl, _⟩ := hx; rfl
  case fn => obtain ⟨_, _, rfl, _⟩ := hx; rfl
  case ifc => obtain ⟨_, rfl, _⟩ := hx; rfl
  case own => exact hx.1
  case ptr => exact hx.1
  case win => exact hx.1

theorem Cs.all_one {E : Env} : ∀ (cs : List AV) (vs : List Value), Cs E cs vs → cs.all cellOk = true → ∀ v ∈ vs, v.oneCell' = true
  | [], vs, h, _, v, hv => by simp only [Cs] at h; subst h; simp at hv
  | c :: cs, _, ⟨u, r, h1, h2, h3⟩, hk, v, hv => by
    subst h1
    simp only [List.all_cons, Bool.and_eq_true] at hk
    rcases List.mem_cons.1 hv with rfl | hv
    · exact cellOk_one hk.1 h2
    · exact Cs.all_one cs r h3 hk.2 v hv

/-- An operation that makes a block with number id. -/
def allocOp (P : Program) (l : List AV) (id : Nat) (o : Oper) : Option (AV × Blk) :=
  match o.op with
  | .alloc t => match pureRun P (zeroValue t) with | some z => if z.cells.toList.all Value.oneCell' = true then some (.ptr id 0 0 0, .box 0 (z.cells.toList.map .lit)) else none | none => none
  | .box _ x => if okPart (aev l x) = true ∧ (cellsAV (aev l x)).all cellOk = true then some (.ptr id 0 0 0, .box 0 (cellsAV (aev l x))) else none
  | _ => none

theorem allocOp_ok {P : Program} {l : List AV} {id : Nat} {o : Oper} {v : AV} {B : Blk} (h : allocOp P l id o = some (v, B)) {H : Hp} (hid : H id = none) : OOk P o l H v (upd H id B) := by
  intro E a hH hI hl next Q hn
  unfold allocOp at h
  split at h
  · rename_i t hop
    split at h <;> try (simp at h; done)
    rename_i z hz
    split at h <;> try (simp at h; done)
    rename_i hz1
    simp only [Option.some.injEq, Prod.mk.injEq] at h; obtain ⟨rfl, rfl⟩ := h
    obtain ⟨h1, h2, h3⟩ := new_box (t := t) hI (by rw [hH]; exact hid) (Cs.lits (E := E) z.cells.toList) (fun v hv => List.all_eq_true.1 hz1 v hv)
    have hrun : (execOp a.eval o).run P E.w = .ok (.value (.pointer (some ⟨E.w.heap.size, 0, none⟩))) (World.pushed E.w z.cells t) := by
      simp [execOp, hop, Instr.alloc, pureRun_ok _ hz, newVar, run_newRow]
    unfold Oper.wp; rw [hrun]
    exact hn _ _ (by simp [Env.put, hH]) h1 h2 h3
  · rename_i t x hop
    split at h <;> try (simp at h; done)
    rename_i hk
    simp only [Option.some.injEq, Prod.mk.injEq] at h; obtain ⟨rfl, rfl⟩ := h
    obtain ⟨h1, h2, h3⟩ := new_box (t := t) hI (by rw [hH]; exact hid) (cellsAV_ok hk.1 (aev_ok hl x)) (Cs.all_one _ _ (cellsAV_ok hk.1 (aev_ok hl x)) hk.2)
    have hrun : (execOp a.eval o).run P E.w = .ok (.value (.pointer (some ⟨E.w.heap.size, 0, none⟩))) (World.pushed E.w (a.eval x).cells t) := by
      simp [execOp, hop, Instr.box, newVar, run_newRow]
    unfold Oper.wp; rw [hrun]
    exact hn _ _ (by simp [Env.put, hH]) h1 h2 h3
  · simp at h

end Go.Am
end PartAmNew
