/- AppenderQueues (16.1): the files AqHold, one after the other; each says ahead of its text what it shows and under which conditions. -/
import Derived.Test.YtklpgelalhnpcaaGreatDoorCards
import Derived.Test.YtklpgelalhnpcaaGreatDoorTie
import Derived.Test.YtklpgelalhnpcaaGreatDoorLaw
import Derived.Test.YtklpgelalhnpcaaGreatDoorKit4
import Derived.WalkKit
import Derived.ProofKit
import Derived.OpenShut
import Derived.Deep.DeepHandedRow
import Derived.Below
import Derived.ChangeSame
import Derived.WideKeyArgs
set_option linter.all false

section PartAqHold
/- AppenderQueues (16.1), at arguments of bulk at most 1048576: New, Submit, Pause, Resume and Runnable return what the document says: the law returns true, and its arguments read as before. Conditions: the listed tables of Go's library hold what the program's text lays (the card ties them). -/
namespace Go.Proofs.YtklpgelalhnpcaaGreatDoor.queues
open Go Go.Am Go.ChangeShapes Go.WideShapes Go.ChangeAt Go.RowKit
set_option maxRecDepth 1000000

section
variable {H : Type} {enc : TypeId × Value → H} {P : Program}
theorem post_of_below {f : Func} {s : ChangeSpec} {apart fresh handsOn again : Bool} {W W' : World} {args : Array Value} {v : Value} {ds gs : List (DataW H)} {before pa pv : List MemPlace}
    (hW : DataW.Whole enc P f.params.toList s.vars apart W args.toList ds gs before)
    (hres : ∀ (b : Nat) (sp : Nat → Bool) (hd : Bool), DataW.TrodAll enc P W' b sp hd f.resultTypes.toList (v.resultList f.resultTypes.size) (s.fn H (ds ++ gs)).results [])
    (hargs : ∀ sp : Nat → Bool, (∀ p ∈ before, sp p.block = true) → DataW.TrodAll enc P W' 0 sp true f.params.toList args.toList (s.fn H (ds ++ gs)).args pa)
    (hvars : ∀ sp : Nat → Bool, (∀ p ∈ before, sp p.block = true) → DataW.TrodVars enc P W' sp s.vars (s.fn H (ds ++ gs)).vars pv)
    (hps : before = pa ++ pv) (hb : Below W.heap.size W W')
    (hok : ∀ (j : Nat) (t : TypeId) (r : Value), f.resultTypes[j]? = some t → (v.resultList f.resultTypes.size)[j]? = some r → Value.okWide P W' .any 0 t r) :
    s.post enc P f apart fresh handsOn again W args v W' := by
  have hlt : ∀ p ∈ before, p.block < W.heap.size := fun p hp => hW.lt p hp
  have hold : ∀ p ∈ before, (fun b => decide (b < W.heap.size)) p.block = true := fun p hp => by simpa using hlt p hp
  refine ⟨ds, gs, before, [], pa, pv, hW, hres _ _ _, hargs _ hold, hvars _ hold, World.keptBut_mono (fun p hp => ⟨hp, ?_⟩) (hb.frame (· ∈ before)), fun _ => ?_⟩
  · rw [hps, List.mem_append] at hp
    exact Or.inr hp
  · obtain ⟨_, _, _, _, _, hz, hn⟩ := hW
    refine ⟨hok, _, _, ([] ++ pa) ++ pv, ⟨[] ++ pa, pv, trodAll_append (hargs _ (fun _ _ => rfl)) (hres _ _ _), hvars _ (fun _ _ => rfl), rfl, ?_, ?_⟩, ?_⟩
    · intro b off hp
      have hin : MemPlace.cell b off ∈ before := by rw [hps]; simpa using hp
      rw [hb.frozen (hlt _ hin)]
      exact hz b off hin
    · intro ha
      have := hn ha
      rw [hps] at this
      simpa using this
    · intro p hp _
      rw [hps]
      simpa using hp
end

/-! What the bound of the second form gives. -/
theorem one_le {H : Type} (d : DataW H) : 1 ≤ Rows.uptoBulk d := by
  cases d with
  | lit l => cases l <;> simp [Rows.uptoBulk]
  | nil => simp [Rows.uptoBulk]
  | ptr d => simp [Rows.uptoBulk]
  | slice elems spare => simp [Rows.uptoBulk]
  | agg parts => simp [Rows.uptoBulk]
  | iface t d => simp [Rows.uptoBulk]
  | map entries => simp [Rows.uptoBulk]
  | held h => simp [Rows.uptoBulk]
theorem part_le {H : Type} {d : DataW H} {l : List (DataW H)} (h : d ∈ l) : Rows.uptoBulk d ≤ Rows.uptoBulkAll l := by
  induction l with
  | nil => cases h
  | cons x r ih =>
    simp only [Rows.uptoBulkAll]
    cases List.mem_cons.1 h with
    | inl e => subst e; omega
    | inr e => have := ih e; omega
theorem length_le {H : Type} (l : List (DataW H)) : l.length ≤ Rows.uptoBulkAll l := by
  induction l with
  | nil => simp [Rows.uptoBulkAll]
  | cons x r ih => have := one_le x; simp only [Rows.uptoBulkAll, List.length_cons]; omega
theorem bulk {H : Type} : Bulk (Rows.uptoBulk (H := H)) where
  agg := fun parts d hd => by have := part_le hd; simp only [Rows.uptoBulk]; omega
  sl := fun es rest d hd => by have := part_le hd; simp only [Rows.uptoBulk]; omega
  len := fun es rest => by have := length_le es; simp only [Rows.uptoBulk]; omega
  str := fun s => by simp [Rows.uptoBulk]

def BND : Nat := 1048576

/-- The shapes of the two arguments. -/
def shReq : Shp := .agg [.int .i64, .int .i64, .int .u64, .int .u32, .slice (.int .u8)]
def shState : Shp := .agg [.slice shReq, .slice shReq, .agg [.bool, .int .i64, .slice (.agg [.int .i64, .slice (.int .u64)]), .slice (.agg [.int .u64, .int .u32, .bool, .slice (.int .u8)]), .slice (.int .i64)], .int .i64, .int .i64, .bool, .int .i64]
theorem shape34 : tyShp Tryz.prog 8 34 = some shReq := by kernel_rfl
theorem shape29 : tyShp Tryz.prog 8 29 = some shState := by kernel_rfl

theorem isBs_of {n : Nat} (hn : n ≤ BIG) {xs : List (List AV)} (hl : xs.length ≤ n) (h : ∀ r ∈ xs, Fit n (.int .u8) r) : IsBs xs := by
  have key : ∀ xs : List (List AV), (∀ r ∈ xs, Fit n (.int .u8) r) → (∃ l : List UInt8, rowBytes xs = some l) ∧ xs.all dataAll = true := by
    intro xs
    induction xs with
    | nil => intro _; exact ⟨⟨[], rfl⟩, rfl⟩
    | cons r rs ih =>
      intro h
      obtain ⟨⟨l, h1⟩, h2⟩ := ih fun x hx => h x (List.mem_cons_of_mem _ hx)
      obtain ⟨i, rfl, hw⟩ := h r List.mem_cons_self
      have hb : 0 ≤ i ∧ i < 256 := by
        simp [Lit.wf, IntKind.min, IntKind.max, IntKind.signed, IntKind.bits] at hw
        omega
      refine ⟨⟨UInt8.ofNat i.toNat :: l, by simp [rowBytes, hb, h1]⟩, ?_⟩
      simp only [List.all_cons, h2, Bool.and_true]; rfl
  obtain ⟨⟨l, h1⟩, h2⟩ := key xs h
  exact ⟨⟨⟨l.toArray⟩, by simpa using h1⟩, Nat.le_trans hl hn, h2⟩

theorem isReq_of {n : Nat} (hn : n ≤ BIG) {r : List AV} (h : Fit n shReq r) : IsReq r := by
  obtain ⟨_, _, rfl, ⟨t, rfl, _⟩, _, _, rfl, ⟨k, rfl, _⟩, _, _, rfl, ⟨key, rfl, _⟩, _, _, rfl, ⟨c, rfl, _⟩, _, _, rfl, ⟨bs, rfl, hl, hb⟩, rfl⟩ := h
  exact ⟨t, k, key, c, bs, rfl, isBs_of hn hl hb⟩
theorem isKill_of {n : Nat} (hn : n ≤ BIG) {r : List AV} (h : Fit n (.agg [.int .i64, .slice (.int .u64)]) r) : IsKill r := by
  obtain ⟨_, _, rfl, ⟨g, rfl, _⟩, _, _, rfl, ⟨ks, rfl, hl, hb⟩, rfl⟩ := h
  refine ⟨g, ks, rfl, fun r hr => ?_, Nat.le_trans hl hn⟩
  obtain ⟨e, rfl, _⟩ := hb r hr
  exact ⟨e, rfl⟩
theorem isNd_of {n : Nat} (hn : n ≤ BIG) {r : List AV} (h : Fit n (.agg [.int .u64, .int .u32, .bool, .slice (.int .u8)]) r) : IsNd r := by
  obtain ⟨_, _, rfl, ⟨key, rfl, _⟩, _, _, rfl, ⟨c, rfl, _⟩, _, _, rfl, ⟨d, rfl⟩, _, _, rfl, ⟨bs, rfl, hl, hb⟩, rfl⟩ := h
  exact ⟨key, c, d, bs, rfl, isBs_of hn hl hb⟩
theorem isRe_of {n : Nat} {r : List AV} (h : Fit n (.int .i64) r) : IsRe r := by
  obtain ⟨e, rfl, _⟩ := h
  exact ⟨e, rfl⟩

theorem state_of {n : Nat} (hn : n < BIG) {cs : List AV} (h : Fit n shState cs) : ∃ Q B K N R rot take stage at' paused next, cs = stA Q B rot take K N R stage at' paused next ∧ StOk Q B K N R ∧ Q.length < BIG := by
  obtain ⟨_, _, rfl, ⟨Q, rfl, lQ, hQ⟩, _, _, rfl, ⟨B, rfl, lB, hB⟩, _, _, rfl, ⟨_, _, rfl, ⟨rot, rfl⟩, _, _, rfl, ⟨take, rfl, _⟩, _, _, rfl, ⟨K, rfl, lK, hK⟩, _, _, rfl, ⟨N, rfl, lN, hN⟩, _, _, rfl, ⟨R, rfl, lR, hR⟩, rfl⟩,
    _, _, rfl, ⟨stage, rfl, _⟩, _, _, rfl, ⟨at', rfl, _⟩, _, _, rfl, ⟨paused, rfl⟩, _, _, rfl, ⟨next, rfl, _⟩, rfl⟩ := h
  have hle : n ≤ BIG := Nat.le_of_lt hn
  exact ⟨Q, B, K, N, R, rot, take, stage, at', paused, next, rfl, ⟨⟨fun r hr => isReq_of hle (hQ r hr), Nat.le_trans lQ hle⟩, ⟨fun r hr => isReq_of hle (hB r hr), Nat.le_trans lB hle⟩, ⟨fun r hr => isKill_of hle (hK r hr), Nat.le_trans lK hle⟩,
    ⟨fun r hr => isNd_of hle (hN r hr), Nat.le_trans lN hle⟩, ⟨fun r hr => isRe_of (hR r hr), Nat.le_trans lR hle⟩⟩, Nat.lt_of_le_of_lt lQ hn⟩
theorem req_of {n : Nat} (hn : n ≤ BIG) {cs : List AV} (h : Fit n shReq cs) : ∃ t k key c bs, cs = rqRow t k key c bs ∧ IsBs bs := by
  obtain ⟨t, k, key, c, bs, h1, h2⟩ := isReq_of hn h
  exact ⟨t, k, key, c, bs, h1, h2⟩

theorem laidOut : laidOutB Tryz.prog = true := by kernel_rfl
theorem read29 : Tryz.prog.readableRec 29 = true := by kernel_rfl
theorem read34 : Tryz.prog.readableRec 34 = true := by kernel_rfl
theorem row29 : (29 : Nat) < Tryz.prog.types.size := of_decide_eq_true (by kernel_rfl)
theorem row34 : (34 : Nat) < Tryz.prog.types.size := of_decide_eq_true (by kernel_rfl)
theorem und29 : ∃ fs, Tryz.prog.underlying 29 = some (.struct fs) := ⟨_, rfl⟩
theorem und34 : ∃ fs, Tryz.prog.underlying 34 = some (.struct fs) := ⟨_, rfl⟩
theorem und4 : Tryz.prog.underlying 4 = some .bool := rfl
theorem pars : Tryz.f3.params = #[29, 34] := by kernel_rfl

theorem agg_of {t : TypeId} {W : World} {base : Nat} {v : Value} (hu : ∃ fs, Tryz.prog.underlying t = some (.struct fs)) (h : Value.okWide Tryz.prog W .any base t v) : ∃ cs : Array Value, v = .agg cs := by
  obtain ⟨fs, hu⟩ := hu
  unfold Value.okWide at h
  rw [hu] at h
  obtain ⟨cs, rfl, _⟩ := h
  exact ⟨cs, rfl⟩

/-- The view of a caller that owns nothing. -/
def bare (W : World) : Env := ⟨hnil, fun _ => ⟨0, 0, none⟩, fun _ => False, none_, W⟩
theorem bare_inv (W : World) : Inv (bare W) where
  owned := by rintro b ⟨i, B, h, _⟩; exact h.elim
  small := fun b h => h.elim
  blk := by intro i B h; simp [bare, hnil] at h
  inj := by intro i j B C h; exact h.elim

theorem contract (H : Type) (enc : TypeId × Value → H) (W : World) (base : Nat) (args : Array Value) (ds gs : List (DataW H)) (before : List MemPlace)
    (hval : ∀ (j : Nat) t v, Tryz.f3.params[j]? = some t → args[j]? = some v → Value.okWide Tryz.prog W .any base t v)
    (hW : DataW.Whole enc Tryz.prog Tryz.f3.params.toList Rows.appenderQueuesSpec.vars false W args.toList ds gs before) (hk : Rows.uptoSmall H (ds ++ gs) = true) :
    Calls Tryz.prog 3 args W fun e W' => ∃ v, e = .returned v ∧ Rows.appenderQueuesSpec.post enc Tryz.prog Tryz.f3 false true false false W args v W' := by
  have hW' := hW
  obtain ⟨p, q, hA0, hV, rfl, hfz, hnd⟩ := hW
  have hA : DataW.TrodAll enc Tryz.prog W 0 (fun _ => true) true Tryz.f3.params.toList args.toList ds p := hA0
  rw [pars] at hA hval
  obtain ⟨v0, vs0, d0, ds0, p0, q0, hargs, rfl, rfl, h0, r0⟩ := trodAll_cons hA
  obtain ⟨v1, vs1, d1, ds1, p1, q1, rfl, rfl, rfl, h1, r1⟩ := trodAll_cons r0
  obtain ⟨rfl, rfl, rfl⟩ := trodAll_nil r1
  obtain rfl : args = #[v0, v1] := by cases args; simp_all
  obtain ⟨rfl, rfl⟩ := trodVars_none hV
  clear hA0 hA
  obtain ⟨c0, rfl⟩ := agg_of und29 (hval 0 29 v0 rfl rfl)
  obtain ⟨c1, rfl⟩ := agg_of und34 (hval 1 34 v1 rfl rfl)
  have hbd : Rows.uptoBulkAll [d0, d1] ≤ BND := by
    have := of_decide_eq_true hk
    simpa [BND] using this
  have hn : BND ≤ LIM := by unfold BND LIM; omega
  have hbig : BND < BIG := by unfold BND BIG; omega
  obtain ⟨fu0, t0⟩ := h0
  obtain ⟨fu1, t1⟩ := h1
  obtain ⟨a0, dc0, _, ft0, _⟩ := Go.Am.opens (enc := enc) (w := W) (held := true) bulk hn 8 29 shState shape29 fu0 _ _ t0 (Nat.le_trans (part_le (by simp)) hbd)
  obtain ⟨a1, dc1, _, ft1, _⟩ := Go.Am.opens (enc := enc) (w := W) (held := true) bulk hn 8 34 shReq shape34 fu1 _ _ t1 (Nat.le_trans (part_le (by simp)) hbd)
  obtain ⟨Q, B, K, N, R, rot, take, stage, at', paused, next, rfl, hst, hq⟩ := state_of hbig ft0
  obtain ⟨t, k, key, c, bs, rfl, hb⟩ := req_of (Nat.le_of_lt hbig) ft1
  have hcs : Cs (bare W) [.agg (stA Q B rot take K N R stage at' paused next), .agg (rqRow t k key c bs)] #[Value.agg c0, Value.agg c1].toList :=
    ⟨_, _, rfl, ⟨c0, rfl, DCs.up (E := bare W) _ _ dc0⟩, _, _, rfl, ⟨c1, rfl, DCs.up (E := bare W) _ _ dc1⟩, rfl⟩
  refine (law_ok (rot := rot) (take := take) (stage := stage) (at' := at') (paused := paused) (next := next) (t := t) (k := k) (key := key) (c := c) hst hq hb (bare W) #[.agg c0, .agg c1] rfl (bare_inv W) hcs).mono ?_
  rintro e W' ⟨x, E', rfl, rfl, _, _, hL, hx⟩
  simp only [CRel] at hx; subst hx
  have hbel : Below W.heap.size W E'.w := ⟨hL.os, hL.tape, hL.output, hL.size, fun b hb => hL.keep b hb (by rintro ⟨i, B', h, _⟩; exact h.elim)⟩
  have hlt : ∀ p ∈ p0 ++ (p1 ++ []), p.block < W.heap.size := fun p hp => by
    have := hW'.lt p (by simpa using hp); exact this
  simp only [List.append_nil] at hW' hlt
  refine ⟨_, rfl, post_of_below (pa := p0 ++ p1) (pv := []) hW' (fun _ _ _ => trodAll_cons_mk (shut_bool und4 _) trodAll_mk0) (fun sp hsp => ?_) (fun _ _ => rfl) (by simp) hbel (ok_one (by kernel_rfl) rfl (okWide_bool_mk und4 _))⟩
  have e0 := WideElems.Trod_stays laidOut read29 row29 (sp' := sp) ⟨fu0, t0⟩ (fun x hx => hbel.same (hlt x (by simp [hx]))) (fun x hx => hsp x (by simp [hx]))
  have e1 := WideElems.Trod_stays laidOut read34 row34 (sp' := sp) ⟨fu1, t1⟩ (fun x hx => hbel.same (hlt x (by simp [hx]))) (fun x hx => hsp x (by simp [hx]))
  rw [pars]
  have := trodAll_cons_mk e0 (trodAll_cons_mk e1 trodAll_mk0)
  rw [List.append_nil] at this
  exact this

end Go.Proofs.YtklpgelalhnpcaaGreatDoor.queues
end PartAqHold
