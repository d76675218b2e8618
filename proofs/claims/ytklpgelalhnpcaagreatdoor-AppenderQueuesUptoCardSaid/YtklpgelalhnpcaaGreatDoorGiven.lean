/- AppenderQueues (16.1): the files AqRows, AqReqs, AqOwn, AqPlan, AqState, AqGiven, AqSame, AqSame2, AqState2, one after the other; each says ahead of its text what it shows and under which conditions. -/
import Derived.Test.YtklpgelalhnpcaaGreatDoorAqClones
set_option linter.all false

section PartAqRows
/- The shapes of this seat's data. -/
namespace Go.Am
open Go Go.Proofs

def rqRow (t k key c : Int) (bs : List (List AV)) : List AV := [.lit (.int .i64 t), .lit (.int .i64 k), .lit (.int .u64 key), .lit (.int .u32 c), .ro 1 bs false]
def klRow (g : Int) (ks : List (List AV)) : List AV := [.lit (.int .i64 g), .ro 1 ks false]
def ndRow (key c : Int) (d : Bool) (bs : List (List AV)) : List AV := [.lit (.int .u64 key), .lit (.int .u32 c), .lit (.bool d), .ro 1 bs false]
def reRow (e : Int) : List AV := [.lit (.int .i64 e)]
def u8Row (e : Int) : List AV := [.lit (.int .u64 e)]

/-- The bytes of a slice. -/
structure IsBs (bs : List (List AV)) : Prop where
  str : ∃ s : ByteArray, rowBytes bs = some s.data.toList
  len : bs.length ≤ BIG
  dat : bs.all dataAll = true

structure RowsOf (p : List AV → Prop) (xs : List (List AV)) : Prop where
  each : ∀ r ∈ xs, p r
  len : xs.length ≤ BIG

def IsU8 (r : List AV) : Prop := ∃ e, r = u8Row e
def IsReq (r : List AV) : Prop := ∃ t k key c bs, r = rqRow t k key c bs ∧ IsBs bs
def IsKill (r : List AV) : Prop := ∃ g ks, r = klRow g ks ∧ RowsOf IsU8 ks
def IsNd (r : List AV) : Prop := ∃ key c d bs, r = ndRow key c d bs ∧ IsBs bs
def IsRe (r : List AV) : Prop := ∃ e, r = reRow e

theorem RowsOf.dat {p : List AV → Prop} (hp : ∀ r, p r → dataAll r = true) {xs : List (List AV)} (h : RowsOf p xs) : xs.all dataAll = true := by
  rw [List.all_eq_true]; exact fun r hr => hp r (h.each r hr)
theorem IsU8.dat {r : List AV} (h : IsU8 r) : dataAll r = true := by obtain ⟨e, rfl⟩ := h; rfl
theorem IsReq.dat {r : List AV} (h : IsReq r) : dataAll r = true := by obtain ⟨t, k, key, c, bs, rfl, _⟩ := h; rfl
theorem IsKill.dat {r : List AV} (h : IsKill r) : dataAll r = true := by obtain ⟨g, ks, rfl, _⟩ := h; rfl
theorem IsNd.dat {r : List AV} (h : IsNd r) : dataAll r = true := by obtain ⟨key, c, d, bs, rfl, _⟩ := h; rfl
theorem IsRe.dat {r : List AV} (h : IsRe r) : dataAll r = true := by obtain ⟨e, rfl⟩ := h; rfl

theorem RowsOf.get {p : List AV → Prop} {xs : List (List AV)} (h : RowsOf p xs) {i : Nat} (hi : i < xs.length) : ∃ r, xs[i]? = some r ∧ p r :=
  ⟨xs[i], List.getElem?_eq_getElem hi, h.each _ (List.getElem_mem hi)⟩

/-- Plans and states. -/
def plA (rot : Bool) (take : Int) (K N R : List (List AV)) : List AV := [.lit (.bool rot), .lit (.int .i64 take), .ro 2 K false, .ro 4 N false, .ro 1 R false]
def stA (Q B : List (List AV)) (rot : Bool) (take : Int) (K N R : List (List AV)) (stage at' : Int) (paused : Bool) (next : Int) : List AV :=
  [.ro 5 Q false, .ro 5 B false, .lit (.bool rot), .lit (.int .i64 take), .ro 2 K false, .ro 4 N false, .ro 1 R false, .lit (.int .i64 stage), .lit (.int .i64 at'), .lit (.bool paused), .lit (.int .i64 next)]

end Go.Am
end PartAqRows

section PartAqReqs
/- Requests, taken from the one shape to the other. -/
namespace Go.Am
open Go Go.Proofs
set_option maxRecDepth 1000000

/-- Function 8: a request, cell by cell. -/
def reqE : SEnt := ⟨8, fun
  | [.agg [.lit (.int .i64 t), .lit (.int .i64 k), .lit (.int .u64 key), .lit (.int .u32 c), .ro 1 bs false]] => some (.agg (rqRow t k key c bs), [], [])
  | _ => none⟩
theorem reqE_ok : reqE.Ok Tryz.prog := by
  intro az v Bs obs hgo ho
  simp only [reqE] at hgo
  split at hgo <;> try (simp at hgo; done)
  rename_i t k key c bs
  simp only [Option.some.injEq, Prod.mk.injEq] at hgo; obtain ⟨rfl, rfl, rfl⟩ := hgo
  refine ⟨?_, rfl, by simp⟩
  rw [hof_nil]
  exact runD_ok mixed (effQ_ok .nil) Tryz.func8 (args := [.agg (rqRow t k key c bs)]) (sc := []) (v := .agg (rqRow t k key c bs)) (obs := []) (by kernel_rfl) trivial

/-- The state of the loop of function 26. -/
def s26 (xs : List (List AV)) (t3 t8 : AV) : List AV :=
  [.ro 5 xs false, .any, .any, t3, .any, .any, .ro 5 xs false, .lit (.int .i64 xs.length), t8, .any, .any, .any, .any, .any, .any, .any, .any, .any, .any]
def m26 : List Bool := [true, false, false, true, false, false, true, true, true, false, false, false, false, false, false, false, false, false, false]

theorem reqs_round {xs : List (List AV)} (h : RowsOf IsReq xs) {i : Nat} (hi : i < xs.length) :
    CW Tryz.prog (loopAt Tryz.f26 0) (s26 xs (.own 0 i 0 i false) (.lit (.int .i64 i)), hof [.arr 5 i (xs.take i)]) .normal (s26 xs (.own 0 (i + 1) 0 (i + 1) false) (.lit (.int .i64 (i + 1 : Nat))), hof [.arr 5 (i + 1) (xs.take (i + 1))]) := by
  obtain ⟨r, hr, t, k, key, c, bs, rfl, hb⟩ := h.get hi
  have hlen := h.len
  unfold BIG at hlen
  have := cw_of_runN mixed (effQ_ok (.cons reqE_ok .nil)) (c := loopAt Tryz.f26 0) (l := s26 xs (.own 0 i 0 i false) (.lit (.int .i64 i))) (L := [.arr 5 i (xs.take i)]) (sc := [.dec true, .el (rqRow t k key c bs)]) (m := m26) (n := 1)
    (ex := .normal) (l' := s26 xs (.own 0 (i + 1) 0 (i + 1) false) (.lit (.int .i64 (IntKind.i64.wrap (i + 1))))) (L' := [.arr 5 (i + 1) ((xs.take i).take i ++ [rqRow t k key c bs])])
    (obs := [decide ((i : Int) < (xs.length : Int)) = true, 0 ≤ (i : Int) ∧ xs[(i : Int).toNat]? = some (rqRow t k key c bs), i = i, (2 * (i + 1) + 1024) * 56 ≤ 2 ^ 48])
    (by kernel_rfl) ⟨by simpa using hi, ⟨by omega, by simpa using hr⟩, rfl, by omega, trivial⟩ (by simp) rfl (by
      simp only [List.all_cons, List.all_nil, Bool.and_true, blkUnder]
      refine all_under ?_
      simp only [List.all_append, Bool.and_eq_true]
      refine ⟨?_, rfl⟩
      have hd := h.dat fun r hr => IsReq.dat hr
      rw [List.all_eq_true] at hd ⊢
      exact fun r hr => hd r (List.mem_of_mem_take (List.mem_of_mem_take hr)))
  rw [wrap_succ (by omega)] at this
  rw [List.take_succ, hr]
  simpa [List.take_take] using this

theorem reqs_exit {xs : List (List AV)} (h : RowsOf IsReq xs) :
    CW Tryz.prog (loopAt Tryz.f26 0) (s26 xs (.own 0 xs.length 0 xs.length false) (.lit (.int .i64 xs.length)), hof [.arr 5 xs.length xs]) (.exit 0) (s26 xs (.own 0 xs.length 0 xs.length false) .any, hof [.arr 5 xs.length xs]) :=
  cw_of_runN mixed (effQ_ok .nil) (sc := [.dec false]) (m := [true, false, false, true, false, false, true, true, false, false, false, false, false, false, false, false, false, false, false]) (n := 1)
    (obs := [decide ((xs.length : Int) < (xs.length : Int)) = false]) (by kernel_rfl) ⟨by simp, trivial⟩ (by simp) rfl (by
      simp only [List.all_cons, List.all_nil, Bool.and_true, blkUnder]
      exact all_under (h.dat fun r hr => IsReq.dat hr))

/-- The loop, as it is come to. -/
def l26 (xs : List (List AV)) : List AV :=
  [.ro 5 xs false, .lit undef, .lit (.slice none 0 0), .lit (.slice none 0 0), .lit undef, .lit undef, .ro 5 xs false, .lit (.int .i64 xs.length), .lit (.int .i64 0), .lit undef, .lit undef, .lit undef, .lit undef, .lit undef, .lit undef, .lit undef, .lit undef, .lit undef, .lit undef]

theorem reqs_loop {xs : List (List AV)} (h : RowsOf IsReq xs) :
    CW Tryz.prog (.loop (loopAt Tryz.f26 0)) (l26 xs, hof []) (.exit 0) (s26 xs (.own 0 xs.length 0 xs.length false) .any, hof [.arr 5 xs.length xs]) := by
  refine CW.weak_in m26 (l := s26 xs (.lit (.slice none 0 0)) (.lit (.int .i64 0))) rfl ?_
  refine CW.seed (L := []) 3 5 rfl ?_
  exact CW.for (by simp) (fun i => (s26 xs (.own 0 i 0 i false) (.lit (.int .i64 i)), hof [.arr 5 i (xs.take i)])) xs.length rfl (fun i hi => reqs_round h hi) (by
    have := reqs_exit h
    simpa using this)

theorem reqs_ok {xs : List (List AV)} (h : RowsOf IsReq xs) : PureC Tryz.prog 26 [.ro 5 xs false] (.ro 5 xs false) := by
  have hlen := h.len
  unfold BIG at hlen
  have := runD_ok mixed (effQ_ok .nil) Tryz.func26 (args := [.ro 5 xs false]) (sc := [.lp (.exit 0) (s26 xs (.own 0 xs.length 0 xs.length false) .any) [.arr 5 xs.length xs]]) (v := .ro 5 (xs.take xs.length) false)
    (obs := [CW Tryz.prog (.loop (loopAt Tryz.f26 0)) (l26 xs, hof []) (.exit 0) (s26 xs (.own 0 xs.length 0 xs.length false) .any, hof [.arr 5 xs.length xs]), xs.length = xs.length, xs.length ≤ LIM, (xs.take xs.length).all dataAll = true])
    (by kernel_rfl) ⟨reqs_loop h, rfl, by unfold LIM; omega, by rw [List.take_length]; exact h.dat fun r hr => IsReq.dat hr, trivial⟩
  rwa [List.take_length] at this

def reqsE : SEnt := ⟨26, fun
  | [.ro 5 xs false] => some (.ro 5 xs false, [], [RowsOf IsReq xs])
  | _ => none⟩
theorem reqsE_ok : reqsE.Ok Tryz.prog := by
  intro az v Bs obs hgo ho
  simp only [reqsE] at hgo
  split at hgo <;> try (simp at hgo; done)
  simp only [Option.some.injEq, Prod.mk.injEq] at hgo; obtain ⟨rfl, rfl, rfl⟩ := hgo
  refine ⟨?_, rfl, by simp⟩
  rw [hof_nil]
  exact reqs_ok (ho _ (List.mem_singleton.2 rfl))

/-- The state of the loop of function 29. -/
def s29 (xs : List (List AV)) (t3 t8 : AV) : List AV :=
  [.ro 5 xs false, .any, .any, t3, .any, .any, .ro 5 xs false, .lit (.int .i64 xs.length), t8, .any, .any, .any, .any, .any, .any, .any, .any, .any, .any, .any, .any, .any, .any, .any, .any, .any, .any, .any]
def m29 : List Bool := [true, false, false, true, false, false, true, true, true, false, false, false, false, false, false, false, false, false, false, false, false, false, false, false, false, false, false, false]

theorem back_round {xs : List (List AV)} (h : RowsOf IsReq xs) {i : Nat} (hi : i < xs.length) :
    CW Tryz.prog (loopAt Tryz.f29 0) (s29 xs (.own 0 i 0 i false) (.lit (.int .i64 i)), hof [.arr 5 i (xs.take i)]) .normal (s29 xs (.own 0 (i + 1) 0 (i + 1) false) (.lit (.int .i64 (i + 1 : Nat))), hof [.arr 5 (i + 1) (xs.take (i + 1))]) := by
  obtain ⟨r, hr, t, k, key, c, bs, rfl, hb⟩ := h.get hi
  have hlen := h.len
  unfold BIG at hlen
  have := cw_of_runN mixed (effQ_ok .nil) (c := loopAt Tryz.f29 0) (l := s29 xs (.own 0 i 0 i false) (.lit (.int .i64 i))) (L := [.arr 5 i (xs.take i)]) (sc := [.dec true, .el (rqRow t k key c bs)]) (m := m29) (n := 1)
    (ex := .normal) (l' := s29 xs (.own 0 (i + 1) 0 (i + 1) false) (.lit (.int .i64 (IntKind.i64.wrap (i + 1))))) (L' := [.arr 5 (i + 1) ((xs.take i).take i ++ [rqRow t k key c bs])])
    (obs := [decide ((i : Int) < (xs.length : Int)) = true, 0 ≤ (i : Int) ∧ xs[(i : Int).toNat]? = some (rqRow t k key c bs), i = i, (2 * (i + 1) + 1024) * 56 ≤ 2 ^ 48])
    (by kernel_rfl) ⟨by simpa using hi, ⟨by omega, by simpa using hr⟩, rfl, by omega, trivial⟩ (by simp) rfl (by
      simp only [List.all_cons, List.all_nil, Bool.and_true, blkUnder]
      refine all_under ?_
      simp only [List.all_append, Bool.and_eq_true]
      refine ⟨?_, rfl⟩
      have hd := h.dat fun r hr => IsReq.dat hr
      rw [List.all_eq_true] at hd ⊢
      exact fun r hr => hd r (List.mem_of_mem_take (List.mem_of_mem_take hr)))
  rw [wrap_succ (by omega)] at this
  rw [List.take_succ, hr]
  simpa [List.take_take] using this

theorem back_exit {xs : List (List AV)} (h : RowsOf IsReq xs) :
    CW Tryz.prog (loopAt Tryz.f29 0) (s29 xs (.own 0 xs.length 0 xs.length false) (.lit (.int .i64 xs.length)), hof [.arr 5 xs.length xs]) (.exit 0) (s29 xs (.own 0 xs.length 0 xs.length false) .any, hof [.arr 5 xs.length xs]) :=
  cw_of_runN mixed (effQ_ok .nil) (sc := [.dec false]) (m := [true, false, false, true, false, false, true, true, false, false, false, false, false, false, false, false, false, false, false, false, false, false, false, false, false, false, false, false]) (n := 1)
    (obs := [decide ((xs.length : Int) < (xs.length : Int)) = false]) (by kernel_rfl) ⟨by simp, trivial⟩ (by simp) rfl (by
      simp only [List.all_cons, List.all_nil, Bool.and_true, blkUnder]
      exact all_under (h.dat fun r hr => IsReq.dat hr))

/-- The loop, as it is come to. -/
def l29 (xs : List (List AV)) : List AV :=
  [.ro 5 xs false, .lit undef, .lit (.slice none 0 0), .lit (.slice none 0 0), .lit undef, .lit undef, .ro 5 xs false, .lit (.int .i64 xs.length), .lit (.int .i64 0), .lit undef, .lit undef, .lit undef, .lit undef, .lit undef, .lit undef, .lit undef, .lit undef, .lit undef, .lit undef, .lit undef, .lit undef, .lit undef, .lit undef, .lit undef, .lit undef, .lit undef, .lit undef, .lit undef]

theorem back_loop {xs : List (List AV)} (h : RowsOf IsReq xs) :
    CW Tryz.prog (.loop (loopAt Tryz.f29 0)) (l29 xs, hof []) (.exit 0) (s29 xs (.own 0 xs.length 0 xs.length false) .any, hof [.arr 5 xs.length xs]) := by
  refine CW.weak_in m29 (l := s29 xs (.lit (.slice none 0 0)) (.lit (.int .i64 0))) rfl ?_
  refine CW.seed (L := []) 3 5 rfl ?_
  exact CW.for (by simp) (fun i => (s29 xs (.own 0 i 0 i false) (.lit (.int .i64 i)), hof [.arr 5 i (xs.take i)])) xs.length rfl (fun i hi => back_round h hi) (by
    have := back_exit h
    simpa using this)

theorem back_ok {xs : List (List AV)} (h : RowsOf IsReq xs) : PureC Tryz.prog 29 [.ro 5 xs false] (.ro 5 xs false) := by
  have hlen := h.len
  unfold BIG at hlen
  have := runD_ok mixed (effQ_ok .nil) Tryz.func29 (args := [.ro 5 xs false]) (sc := [.lp (.exit 0) (s29 xs (.own 0 xs.length 0 xs.length false) .any) [.arr 5 xs.length xs]]) (v := .ro 5 (xs.take xs.length) false)
    (obs := [CW Tryz.prog (.loop (loopAt Tryz.f29 0)) (l29 xs, hof []) (.exit 0) (s29 xs (.own 0 xs.length 0 xs.length false) .any, hof [.arr 5 xs.length xs]), xs.length = xs.length, xs.length ≤ LIM, (xs.take xs.length).all dataAll = true])
    (by kernel_rfl) ⟨back_loop h, rfl, by unfold LIM; omega, by rw [List.take_length]; exact h.dat fun r hr => IsReq.dat hr, trivial⟩
  rwa [List.take_length] at this

def backE : SEnt := ⟨29, fun
  | [.ro 5 xs false] => some (.ro 5 xs false, [], [RowsOf IsReq xs])
  | _ => none⟩
theorem backE_ok : backE.Ok Tryz.prog := by
  intro az v Bs obs hgo ho
  simp only [backE] at hgo
  split at hgo <;> try (simp at hgo; done)
  simp only [Option.some.injEq, Prod.mk.injEq] at hgo; obtain ⟨rfl, rfl, rfl⟩ := hgo
  refine ⟨?_, rfl, by simp⟩
  rw [hof_nil]
  exact back_ok (ho _ (List.mem_singleton.2 rfl))

end Go.Am
end PartAqReqs

section PartAqOwn
/- own.Requests: a copy of requests. -/
namespace Go.Am
open Go Go.Proofs
set_option maxRecDepth 1000000

theorem set_same {xs : List (List AV)} {i : Nat} {r : List AV} (h : xs[i]? = some r) : xs.set i r = xs := by
  obtain ⟨hlt, he⟩ := List.getElem?_eq_some_iff.1 h
  rw [← he]; exact List.set_getElem_self hlt

def s43 (xs : List (List AV)) (t9 : AV) : List AV :=
  [.own 0 1 0 xs.length false, .any, .any, .any, .any, .any, .any, .own 0 1 0 xs.length false, .lit (.int .i64 xs.length), t9, .any, .any, .any, .any, .any, .any, .any, .any, .any, .any, .any, .any, .any]
def m43 : List Bool := [true, false, false, false, false, false, false, true, true, true, false, false, false, false, false, false, false, false, false, false, false, false, false]

theorem own_under {n w k : Nat} {xs : List (List AV)} {p : List AV → Prop} (hp : ∀ r, p r → dataAll r = true) (h : RowsOf p xs) : ([Blk.arr n w xs]).all (blkUnder k) = true := by
  simp only [List.all_cons, List.all_nil, Bool.and_true, blkUnder]
  exact all_under (h.dat hp)

theorem ownreqs_round {xs : List (List AV)} (h : RowsOf IsReq xs) {i : Nat} (hi : i < xs.length) :
    CW Tryz.prog (loopAt Tryz.f43 0) (s43 xs (.lit (.int .i64 i)), hof [.arr 5 1 xs]) .normal (s43 xs (.lit (.int .i64 (i + 1 : Nat))), hof [.arr 5 1 xs]) := by
  obtain ⟨r, hr, t, k, key, c, bs, rfl, hb⟩ := h.get hi
  have hlen := h.len
  unfold BIG at hlen
  have hs : xs.set (0 + i) (rqRow t k key c bs) = xs := by rw [Nat.zero_add]; exact set_same hr
  have := cw_of_runN mixed (effQ_ok (.cons copy61E .nil)) (c := loopAt Tryz.f43 0) (l := s43 xs (.lit (.int .i64 i))) (L := [.arr 5 1 xs]) (sc := [.dec true, .el (rqRow t k key c bs), .el (rqRow t k key c bs)]) (m := m43) (n := 1)
    (ex := .normal) (l' := s43 xs (.lit (.int .i64 (IntKind.i64.wrap (i + 1))))) (L' := [.arr 5 1 (xs.set (0 + i) (rqRow t k key c bs))])
    (obs := [decide ((i : Int) < (xs.length : Int)) = true, 0 ≤ (i : Int) ∧ (i : Int) < (xs.length : Int), xs[0 + i]? = some (rqRow t k key c bs), bs.length ≤ BIG, bs.all dataAll = true, 0 ≤ (i : Int) ∧ (i : Int) < (xs.length : Int), xs[0 + i]? = some (rqRow t k key c bs)])
    (by kernel_rfl) ⟨by simpa using hi, ⟨by omega, by omega⟩, by rw [Nat.zero_add]; exact hr, hb.len, hb.dat, ⟨by omega, by omega⟩, by rw [Nat.zero_add]; exact hr, trivial⟩ (by simp) rfl (by
      rw [hs]; exact own_under (fun r hr => IsReq.dat hr) h)
  rw [wrap_succ (by omega), hs] at this
  exact this

def l43 (xs : List (List AV)) : List AV :=
  [.own 0 1 0 xs.length false, .lit undef, .lit (.slice none 0 0), .lit undef, .lit undef, .ro 5 xs false, .own 0 1 0 xs.length false, .own 0 1 0 xs.length false, .lit (.int .i64 xs.length), .lit (.int .i64 0), .lit undef, .lit undef, .lit undef, .lit undef, .lit undef, .lit undef, .lit undef, .lit undef, .lit undef, .lit undef, .lit undef, .lit undef, .lit undef]

theorem ownreqs_loop {xs : List (List AV)} (h : RowsOf IsReq xs) :
    CW Tryz.prog (.loop (loopAt Tryz.f43 0)) (l43 xs, hof [.arr 5 1 xs]) (.exit 0) (s43 xs .any, hof [.arr 5 1 xs]) := by
  refine CW.weak_in m43 (l := s43 xs (.lit (.int .i64 0))) rfl ?_
  exact CW.for (by simp) (fun i => (s43 xs (.lit (.int .i64 i)), hof [.arr 5 1 xs])) xs.length rfl (fun i hi => ownreqs_round h hi)
    (cw_of_runN mixed (effQ_ok .nil) (sc := [.dec false]) (m := [true, false, false, false, false, false, false, true, true, false, false, false, false, false, false, false, false, false, false, false, false, false, false]) (n := 1)
      (obs := [decide ((xs.length : Int) < (xs.length : Int)) = false]) (by kernel_rfl) ⟨by simp, trivial⟩ (by simp) rfl (own_under (fun r hr => IsReq.dat hr) h))

theorem ownreqs_ok {xs : List (List AV)} (h : RowsOf IsReq xs) : FC Tryz.prog 43 [.ro 5 xs false] hnil (.own 0 1 0 xs.length false) (hof [.arr 5 1 xs]) :=
  runB_ok mixed (effQ_ok (.cons clone83E .nil)) Tryz.func43 (args := [.ro 5 xs false]) (sc := [.lp (.exit 0) (s43 xs .any) [.arr 5 1 xs]])
    (obs := [xs.length ≤ BIG, xs.all dataAll = true, CW Tryz.prog (.loop (loopAt Tryz.f43 0)) (l43 xs, hof [.arr 5 1 xs]) (.exit 0) (s43 xs .any, hof [.arr 5 1 xs])])
    (by kernel_rfl) ⟨h.len, h.dat fun r hr => IsReq.dat hr, ownreqs_loop h, trivial⟩

def ownReqsE : SEnt := ⟨43, fun
  | [.ro 5 xs false] => some (.own 0 1 0 xs.length false, [.arr 5 1 xs], [RowsOf IsReq xs])
  | _ => none⟩
theorem ownReqsE_ok : ownReqsE.Ok Tryz.prog := by
  intro az v Bs obs hgo ho
  simp only [ownReqsE] at hgo
  split at hgo <;> try (simp at hgo; done)
  simp only [Option.some.injEq, Prod.mk.injEq] at hgo; obtain ⟨rfl, rfl, rfl⟩ := hgo
  have h := ho _ (List.mem_singleton.2 rfl)
  refine ⟨ownreqs_ok h, rfl, fun B hB => ?_⟩
  rw [List.mem_singleton.1 hB]
  exact Flat.arr (h.dat fun r hr => IsReq.dat hr)

end Go.Am
end PartAqOwn

section PartAqPlan
/- own.Plan: a copy of a plan. -/
namespace Go.Am
open Go Go.Proofs
set_option maxRecDepth 1000000

def setT (l : List AV) (ps : List (Nat × AV)) : List AV := ps.foldl (fun l p => l.set p.1 p.2) l
def anys (n : Nat) (ps : List (Nat × AV)) : List AV := setT (List.replicate n .any) ps
def undefs (n : Nat) (ps : List (Nat × AV)) : List AV := setT (List.replicate n (.lit undef)) ps
def maskOn (n : Nat) (ks : List Nat) : List Bool := (List.range n).map fun i => ks.contains i

section
variable (rot : Bool) (take : Int) (K N R : List (List AV))

def L44 : HL := [.box 0 [.lit (.bool rot), .lit (.int .i64 take), .own 2 1 0 K.length false, .own 3 1 0 N.length false, .own 4 1 0 R.length false],
  .box 0 [.lit (.bool false), .lit (.int .i64 0), .lit (.slice none 0 0), .lit (.slice none 0 0), .lit (.slice none 0 0)], .arr 2 1 K, .arr 4 1 N, .arr 1 1 R]
def s44 (t22 : AV) : List AV := anys 54 [(1, .ptr 0 0 0 0), (2, .ptr 1 0 0 0), (20, .own 2 1 0 K.length false), (21, .lit (.int .i64 K.length)), (22, t22)]
def s44b (t39 : AV) : List AV := anys 54 [(1, .ptr 0 0 0 0), (2, .ptr 1 0 0 0), (37, .own 3 1 0 N.length false), (38, .lit (.int .i64 N.length)), (39, t39)]

variable {rot take K N R}

theorem L44_under (hK : RowsOf IsKill K) (hN : RowsOf IsNd N) (hR : RowsOf IsRe R) : (L44 rot take K N R).all (blkUnder 5) = true := by
  simp only [L44, List.all_cons, List.all_nil, Bool.and_true, Bool.and_eq_true]
  exact ⟨rfl, rfl, all_under (hK.dat fun r hr => IsKill.dat hr), all_under (hN.dat fun r hr => IsNd.dat hr), all_under (hR.dat fun r hr => IsRe.dat hr)⟩

theorem plan_round0 (hK : RowsOf IsKill K) (hN : RowsOf IsNd N) (hR : RowsOf IsRe R) {i : Nat} (hi : i < K.length) :
    CW Tryz.prog (loopAt Tryz.f44 0) (s44 K (.lit (.int .i64 i)), hof (L44 rot take K N R)) .normal (s44 K (.lit (.int .i64 (i + 1 : Nat))), hof (L44 rot take K N R)) := by
  obtain ⟨r, hr, g, ks, rfl, hks⟩ := hK.get hi
  have hlen := hK.len
  unfold BIG at hlen
  have hs : K.set (0 + i) (klRow g ks) = K := by rw [Nat.zero_add]; exact set_same hr
  have hr' : K[0 + i]? = some (klRow g ks) := by rw [Nat.zero_add]; exact hr
  have := cw_of_runN mixed (effQ_ok (.cons copy87E .nil)) (c := loopAt Tryz.f44 0) (l := s44 K (.lit (.int .i64 i))) (L := L44 rot take K N R) (sc := [.dec true, .el (klRow g ks), .el (klRow g ks)]) (m := maskOn 54 [1, 2, 20, 21, 22]) (n := 5)
    (ex := .normal) (l' := s44 K (.lit (.int .i64 (IntKind.i64.wrap (i + 1))))) (L' := (L44 rot take K N R).set 2 (.arr 2 1 (K.set (0 + i) (klRow g ks))))
    (obs := [decide ((i : Int) < (K.length : Int)) = true, 0 ≤ (i : Int) ∧ (i : Int) < (K.length : Int), K[0 + i]? = some (klRow g ks), ks.length ≤ BIG, ks.all dataAll = true, 0 ≤ (i : Int) ∧ (i : Int) < (K.length : Int), K[0 + i]? = some (klRow g ks)])
    (by kernel_rfl) ⟨by simpa using hi, ⟨by omega, by omega⟩, hr', hks.len, hks.dat fun r hr => IsU8.dat hr, ⟨by omega, by omega⟩, hr', trivial⟩ (by simp [L44]) rfl (by
      rw [hs]; exact L44_under hK hN hR)
  rw [wrap_succ (by omega), hs] at this
  exact this

theorem plan_round1 (hK : RowsOf IsKill K) (hN : RowsOf IsNd N) (hR : RowsOf IsRe R) {i : Nat} (hi : i < N.length) :
    CW Tryz.prog (loopAt Tryz.f44 1) (s44b N (.lit (.int .i64 i)), hof (L44 rot take K N R)) .normal (s44b N (.lit (.int .i64 (i + 1 : Nat))), hof (L44 rot take K N R)) := by
  obtain ⟨r, hr, key, c, d, bs, rfl, hb⟩ := hN.get hi
  have hlen := hN.len
  unfold BIG at hlen
  have hs : N.set (0 + i) (ndRow key c d bs) = N := by rw [Nat.zero_add]; exact set_same hr
  have hr' : N[0 + i]? = some (ndRow key c d bs) := by rw [Nat.zero_add]; exact hr
  have := cw_of_runN mixed (effQ_ok (.cons copy61E .nil)) (c := loopAt Tryz.f44 1) (l := s44b N (.lit (.int .i64 i))) (L := L44 rot take K N R) (sc := [.dec true, .el (ndRow key c d bs), .el (ndRow key c d bs)]) (m := maskOn 54 [1, 2, 37, 38, 39]) (n := 5)
    (ex := .normal) (l' := s44b N (.lit (.int .i64 (IntKind.i64.wrap (i + 1))))) (L' := (L44 rot take K N R).set 3 (.arr 4 1 (N.set (0 + i) (ndRow key c d bs))))
    (obs := [decide ((i : Int) < (N.length : Int)) = true, 0 ≤ (i : Int) ∧ (i : Int) < (N.length : Int), N[0 + i]? = some (ndRow key c d bs), bs.length ≤ BIG, bs.all dataAll = true, 0 ≤ (i : Int) ∧ (i : Int) < (N.length : Int), N[0 + i]? = some (ndRow key c d bs)])
    (by kernel_rfl) ⟨by simpa using hi, ⟨by omega, by omega⟩, hr', hb.len, hb.dat, ⟨by omega, by omega⟩, hr', trivial⟩ (by simp [L44]) rfl (by
      rw [hs]; exact L44_under hK hN hR)
  rw [wrap_succ (by omega), hs] at this
  exact this

def l44 (take : Int) (K N R : List (List AV)) (rot : Bool) : List AV := undefs 54 [(0, .agg (plA rot take K N R)), (1, .ptr 0 0 0 0), (2, .ptr 1 0 0 0), (7, .ptr 0 0 0 2), (8, .ro 2 K false), (9, .own 2 1 0 K.length false), (10, .ptr 0 0 0 3), (11, .ro 4 N false), (12, .own 3 1 0 N.length false),
  (13, .ptr 0 0 0 4), (14, .ro 1 R false), (15, .own 4 1 0 R.length false), (16, .ptr 0 0 0 2), (17, .ptr 0 0 0 3), (18, .ptr 0 0 0 4), (19, .ptr 0 0 0 2), (20, .own 2 1 0 K.length false), (21, .lit (.int .i64 K.length)), (22, .lit (.int .i64 0))]

theorem plan_loop0 (hK : RowsOf IsKill K) (hN : RowsOf IsNd N) (hR : RowsOf IsRe R) :
    CW Tryz.prog (.loop (loopAt Tryz.f44 0)) (l44 take K N R rot, hof (L44 rot take K N R)) (.exit 0) (s44 K .any, hof (L44 rot take K N R)) := by
  refine CW.weak_in (maskOn 54 [1, 2, 20, 21, 22]) (l := s44 K (.lit (.int .i64 0))) (by kernel_rfl) ?_
  exact CW.for (by simp) (fun i => (s44 K (.lit (.int .i64 i)), hof (L44 rot take K N R))) K.length rfl (fun i hi => plan_round0 hK hN hR hi)
    (cw_of_runN mixed (effQ_ok .nil) (sc := [.dec false]) (m := maskOn 54 [1, 2, 20, 21]) (n := 5)
      (obs := [decide ((K.length : Int) < (K.length : Int)) = false]) (by kernel_rfl) ⟨by simp, trivial⟩ (by simp [L44]) rfl (L44_under hK hN hR))

def l44b (K N : List (List AV)) : List AV := anys 54 [(1, .ptr 0 0 0 0), (2, .ptr 1 0 0 0), (20, .own 2 1 0 K.length false), (21, .lit (.int .i64 K.length)), (36, .ptr 0 0 0 3), (37, .own 3 1 0 N.length false), (38, .lit (.int .i64 N.length)), (39, .lit (.int .i64 0))]

theorem plan_loop1 (hK : RowsOf IsKill K) (hN : RowsOf IsNd N) (hR : RowsOf IsRe R) :
    CW Tryz.prog (.loop (loopAt Tryz.f44 1)) (l44b K N, hof (L44 rot take K N R)) (.exit 2) (s44b N .any, hof (L44 rot take K N R)) := by
  refine CW.weak_in (maskOn 54 [1, 2, 37, 38, 39]) (l := s44b N (.lit (.int .i64 0))) (by kernel_rfl) ?_
  exact CW.for (by simp) (fun i => (s44b N (.lit (.int .i64 i)), hof (L44 rot take K N R))) N.length rfl (fun i hi => plan_round1 hK hN hR hi)
    (cw_of_runN mixed (effQ_ok .nil) (sc := [.dec false]) (m := maskOn 54 [1, 2, 37, 38]) (n := 5)
      (obs := [decide ((N.length : Int) < (N.length : Int)) = false]) (by kernel_rfl) ⟨by simp, trivial⟩ (by simp [L44]) rfl (L44_under hK hN hR))

theorem big_lim {p : List AV → Prop} {xs : List (List AV)} (h : RowsOf p xs) : xs.length ≤ LIM := by
  have := h.len; unfold BIG at this; unfold LIM; omega

theorem plan_ok (hK : RowsOf IsKill K) (hN : RowsOf IsNd N) (hR : RowsOf IsRe R) : PureC Tryz.prog 44 [.agg (plA rot take K N R)] (.agg (plA rot take K N R)) := by
  have dK := hK.dat fun r hr => IsKill.dat hr
  have dN := hN.dat fun r hr => IsNd.dat hr
  have dR := hR.dat fun r hr => IsRe.dat hr
  have := runD_ok mixed (effQ_ok (.cons clone84E (.cons clone85E (.cons clone86E .nil)))) Tryz.func44 (args := [.agg (plA rot take K N R)])
    (sc := [.lp (.exit 0) (s44 K .any) (L44 rot take K N R), .lp (.exit 2) (s44b N .any) (L44 rot take K N R)]) (v := .agg (plA rot take (K.take K.length) (N.take N.length) (R.take R.length)))
    (obs := [K.length ≤ BIG, K.all dataAll = true, N.length ≤ BIG, N.all dataAll = true, R.length ≤ BIG, R.all dataAll = true,
      CW Tryz.prog (.loop (loopAt Tryz.f44 0)) (l44 take K N R rot, hof (L44 rot take K N R)) (.exit 0) (s44 K .any, hof (L44 rot take K N R)),
      CW Tryz.prog (.loop (loopAt Tryz.f44 1)) (l44b K N, hof (L44 rot take K N R)) (.exit 2) (s44b N .any, hof (L44 rot take K N R)),
      1 = 1, K.length ≤ LIM, (K.take K.length).all dataAll = true, 1 = 1, N.length ≤ LIM, (N.take N.length).all dataAll = true, 1 = 1, R.length ≤ LIM, (R.take R.length).all dataAll = true])
    (by kernel_rfl) ⟨hK.len, dK, hN.len, dN, hR.len, dR, plan_loop0 hK hN hR, plan_loop1 hK hN hR, rfl, big_lim hK, by rw [List.take_length]; exact dK, rfl, big_lim hN, by rw [List.take_length]; exact dN, rfl, big_lim hR, by rw [List.take_length]; exact dR, trivial⟩
  simpa only [List.take_length] using this

def planE : SEnt := ⟨44, fun
  | [.agg [.lit (.bool rot), .lit (.int .i64 take), .ro 2 K false, .ro 4 N false, .ro 1 R false]] => some (.agg (plA rot take K N R), [], [RowsOf IsKill K, RowsOf IsNd N, RowsOf IsRe R])
  | _ => none⟩
theorem planE_ok : planE.Ok Tryz.prog := by
  intro az v Bs obs hgo ho
  simp only [planE] at hgo
  split at hgo <;> try (simp at hgo; done)
  rename_i rot take K N R
  simp only [Option.some.injEq, Prod.mk.injEq] at hgo; obtain ⟨rfl, rfl, rfl⟩ := hgo
  refine ⟨?_, rfl, by simp⟩
  rw [hof_nil]
  exact plan_ok (ho _ (by simp)) (ho _ (by simp)) (ho _ (by simp))

end
end Go.Am
end PartAqPlan

section PartAqState
/- The program's own functions on a state: clone, Submit, Pause, Resume, New. -/
namespace Go.Am
open Go Go.Proofs
set_option maxRecDepth 1000000

/-- What a state's data have to be. -/
structure StOk (Q B K N R : List (List AV)) : Prop where
  q : RowsOf IsReq Q
  b : RowsOf IsReq B
  k : RowsOf IsKill K
  n : RowsOf IsNd N
  r : RowsOf IsRe R

section
variable {Q B K N R : List (List AV)} {rot : Bool} {take : Int} {stage at' : Int} {paused : Bool} {next : Int}

/-- A state whose requests are one's own. -/
def stOwn (Q B : List (List AV)) (i j : Nat) (rot : Bool) (take : Int) (K N R : List (List AV)) (stage at' : Int) (paused : Bool) (next : Int) : AV :=
  .agg [.own i 1 0 Q.length false, .own j 1 0 B.length false, .lit (.bool rot), .lit (.int .i64 take), .ro 2 K false, .ro 4 N false, .ro 1 R false, .lit (.int .i64 stage), .lit (.int .i64 at'), .lit (.bool paused), .lit (.int .i64 next)]

theorem clone_ok (h : StOk Q B K N R) : FC Tryz.prog 24 [.agg (stA Q B rot take K N R stage at' paused next)] hnil (stOwn Q B 0 1 rot take K N R stage at' paused next) (hof [.arr 5 1 Q, .arr 5 1 B]) := by
  have hQ := h.q.dat fun r hr => IsReq.dat hr
  have hB := h.b.dat fun r hr => IsReq.dat hr
  have := runB_ok mixed (effQ_ok (.cons ownReqsE_ok (.cons planE_ok .nil))) Tryz.func24 (args := [.agg (stA Q B rot take K N R stage at' paused next)]) (sc := []) (v := stOwn Q B 2 3 rot take K N R stage at' paused next)
    (L := [.box 0 [.own 2 1 0 Q.length false, .own 3 1 0 B.length false, .lit (.bool rot), .lit (.int .i64 take), .ro 2 K false, .ro 4 N false, .ro 1 R false, .lit (.int .i64 stage), .lit (.int .i64 at'), .lit (.bool paused), .lit (.int .i64 next)],
      .box 0 [.own 2 1 0 Q.length false, .own 3 1 0 B.length false, .lit (.bool rot), .lit (.int .i64 take), .ro 2 K false, .ro 4 N false, .ro 1 R false, .lit (.int .i64 stage), .lit (.int .i64 at'), .lit (.bool paused), .lit (.int .i64 next)],
      .arr 5 1 Q, .arr 5 1 B])
    (obs := [RowsOf IsReq Q, RowsOf IsReq B, RowsOf IsKill K, RowsOf IsNd N, RowsOf IsRe R]) (by kernel_rfl) ⟨h.q, h.b, h.k, h.n, h.r, trivial⟩
  exact FC.keep this [2, 3] rfl rfl rfl (fun B' hB' => by
    simp only [List.mem_cons, List.mem_nil_iff, or_false] at hB'
    rcases hB' with rfl | rfl
    · exact Flat.arr hQ
    · exact Flat.arr hB) rfl rfl

def cloneStE : SEnt := ⟨24, fun
  | [.agg [.ro 5 Q false, .ro 5 B false, .lit (.bool rot), .lit (.int .i64 take), .ro 2 K false, .ro 4 N false, .ro 1 R false, .lit (.int .i64 stage), .lit (.int .i64 at'), .lit (.bool paused), .lit (.int .i64 next)]] =>
    some (stOwn Q B 0 1 rot take K N R stage at' paused next, [.arr 5 1 Q, .arr 5 1 B], [StOk Q B K N R])
  | _ => none⟩
theorem cloneStE_ok : cloneStE.Ok Tryz.prog := by
  intro az v Bs obs hgo ho
  simp only [cloneStE] at hgo
  split at hgo <;> try (simp at hgo; done)
  rename_i Q B rot take K N R stage at' paused next
  simp only [Option.some.injEq, Prod.mk.injEq] at hgo; obtain ⟨rfl, rfl, rfl⟩ := hgo
  have h := ho _ (List.mem_singleton.2 rfl)
  refine ⟨clone_ok h, rfl, fun B' hB' => ?_⟩
  simp only [List.mem_cons, List.mem_nil_iff, or_false] at hB'
  rcases hB' with rfl | rfl
  · exact Flat.arr (h.q.dat fun r hr => IsReq.dat hr)
  · exact Flat.arr (h.b.dat fun r hr => IsReq.dat hr)

/-- A state with a request more. -/
def subQ (Q : List (List AV)) (next k key c : Int) (bs : List (List AV)) : List (List AV) := Q ++ [rqRow next k key c bs]

theorem submit_ok (h : StOk Q B K N R) (hq : Q.length < BIG) {t k key c : Int} {bs : List (List AV)} (hb : IsBs bs) :
    PureC Tryz.prog 6 [.agg (stA Q B rot take K N R stage at' paused next), .agg (rqRow t k key c bs)] (.tup [.agg (stA (subQ Q next k key c bs) B rot take K N R stage at' paused (IntKind.i64.wrap (next + 1))), .lit (.int .i64 next)]) := by
  have hQ := h.q.dat fun r hr => IsReq.dat hr
  have hB := h.b.dat fun r hr => IsReq.dat hr
  have hlen := h.q.len
  unfold BIG at hlen
  have e1 : ((Q.take Q.length) ++ [rqRow next k key c bs]).take (Q.length + 1) = subQ Q next k key c bs := by
    rw [List.take_length]; exact List.take_of_length_le (by simp)
  have := runD_ok mixed (effQ_ok (.cons cloneStE_ok (.cons copy25E .nil))) Tryz.func6 (args := [.agg (stA Q B rot take K N R stage at' paused next), .agg (rqRow t k key c bs)]) (sc := [])
    (v := .tup [.agg (stA (((Q.take Q.length) ++ [rqRow next k key c bs]).take (Q.length + 1)) (B.take B.length) rot take K N R stage at' paused (IntKind.i64.wrap (next + 1))), .lit (.int .i64 next)])
    (obs := [StOk Q B K N R, bs.length ≤ BIG, bs.all dataAll = true, 1 = 1, (2 * (Q.length + 1) + 1024) * 56 ≤ 2 ^ 48,
      2 = 2, Q.length + 1 ≤ LIM, (((Q.take Q.length) ++ [rqRow next k key c bs]).take (Q.length + 1)).all dataAll = true, 1 = 1, B.length ≤ LIM, (B.take B.length).all dataAll = true])
    (by kernel_rfl) ⟨h, hb.len, hb.dat, rfl, by omega, rfl, by unfold LIM; omega, by
      rw [e1]; unfold subQ; rw [List.all_append, hQ]; rfl, rfl, big_lim h.b, by rw [List.take_length]; exact hB, trivial⟩
  rw [e1, List.take_length] at this
  exact this

theorem pause_ok (h : StOk Q B K N R) : PureC Tryz.prog 16 [.agg (stA Q B rot take K N R stage at' paused next)] (.agg (stA Q B rot take K N R stage at' true next)) := by
  have := runD_ok mixed (effQ_ok (.cons cloneStE_ok .nil)) Tryz.func16 (args := [.agg (stA Q B rot take K N R stage at' paused next)]) (sc := []) (v := .agg (stA (Q.take Q.length) (B.take B.length) rot take K N R stage at' true next))
    (obs := [StOk Q B K N R, 1 = 1, Q.length ≤ LIM, (Q.take Q.length).all dataAll = true, 1 = 1, B.length ≤ LIM, (B.take B.length).all dataAll = true]) (by kernel_rfl)
    ⟨h, rfl, big_lim h.q, by rw [List.take_length]; exact h.q.dat fun r hr => IsReq.dat hr, rfl, big_lim h.b, by rw [List.take_length]; exact h.b.dat fun r hr => IsReq.dat hr, trivial⟩
  simpa only [List.take_length] using this

theorem resume_ok (h : StOk Q B K N R) : PureC Tryz.prog 18 [.agg (stA Q B rot take K N R stage at' paused next)] (.agg (stA Q B rot take K N R stage at' false next)) := by
  have := runD_ok mixed (effQ_ok (.cons cloneStE_ok .nil)) Tryz.func18 (args := [.agg (stA Q B rot take K N R stage at' paused next)]) (sc := []) (v := .agg (stA (Q.take Q.length) (B.take B.length) rot take K N R stage at' false next))
    (obs := [StOk Q B K N R, 1 = 1, Q.length ≤ LIM, (Q.take Q.length).all dataAll = true, 1 = 1, B.length ≤ LIM, (B.take B.length).all dataAll = true]) (by kernel_rfl)
    ⟨h, rfl, big_lim h.q, by rw [List.take_length]; exact h.q.dat fun r hr => IsReq.dat hr, rfl, big_lim h.b, by rw [List.take_length]; exact h.b.dat fun r hr => IsReq.dat hr, trivial⟩
  simpa only [List.take_length] using this

theorem PureC.weak {P : Program} {f : FuncId} {az : List AV} {v v' : AV} (h : PureC P f az v) (hw : ∀ E x, CRel E v x → CRel E v' x) : PureC P f az v' := by
  intro E vs hH hI hc
  refine (h E vs hH hI hc).mono ?_
  rintro e w' ⟨x, E', h1, h2, h3, h4, h5, h6⟩
  exact ⟨x, E', h1, h2, h3, h4, h5, hw E' x h6⟩

theorem ro_weak {E : Env} {n : Nat} {xs : List (List AV)} {z : Bool} {x : Value} (h : CRel E (.ro n xs z) x) : CRel E (.ro n xs false) x := by
  obtain ⟨a, cap, h1, _, h2⟩ := h
  exact ⟨a, cap, h1, by simp, h2⟩

/-- The reference's. -/
theorem rsubmit_ok (h : StOk Q B K N R) (hq : Q.length < BIG) {t k key c : Int} {bs : List (List AV)} (_hb : IsBs bs) :
    PureC Tryz.prog 9 [.agg (stA Q B rot take K N R stage at' paused next), .agg (rqRow t k key c bs)] (.tup [.agg (stA (subQ Q next k key c bs) B rot take K N R stage at' paused (IntKind.i64.wrap (next + 1))), .lit (.int .i64 next)]) := by
  have hQ := h.q.dat fun r hr => IsReq.dat hr
  have hlen := h.q.len
  unfold BIG at hlen
  have e1 : (((Q.take (0 + Q.length)) ++ [rqRow next k key c bs]).take (0 + Q.length + 1)) = subQ Q next k key c bs := by
    rw [Nat.zero_add, List.take_length]; exact List.take_of_length_le (by simp)
  have := runD_ok mixed (effQ_ok .nil) Tryz.func9 (args := [.agg (stA Q B rot take K N R stage at' paused next), .agg (rqRow t k key c bs)]) (sc := [])
    (v := .tup [.agg ((stA Q B rot take K N R stage at' paused (IntKind.i64.wrap (next + 1))).set 0 (.ro 5 (((Q.take (0 + Q.length)) ++ [rqRow next k key c bs]).take (0 + Q.length + 1)) true)), .lit (.int .i64 next)])
    (obs := [0 = 0, (2 * (0 + Q.length) + 1024) * 56 ≤ 2 ^ 48, 1 = 1, (2 * (0 + Q.length + 1) + 1024) * 56 ≤ 2 ^ 48,
      2 = 2, 0 + Q.length + 1 ≤ LIM, (((Q.take (0 + Q.length)) ++ [rqRow next k key c bs]).take (0 + Q.length + 1)).all dataAll = true])
    (by kernel_rfl) ⟨rfl, by omega, rfl, by omega, rfl, by unfold LIM; omega, by
      rw [e1]; unfold subQ; rw [List.all_append, hQ]; rfl, trivial⟩
  rw [e1] at this
  refine PureC.weak this fun E x hx => ?_
  obtain ⟨vs, hv, y, r, h1, ⟨us, hu, z, s, g1, g2, g3⟩, h3⟩ := hx
  exact ⟨vs, hv, y, r, h1, ⟨us, hu, z, s, g1, ro_weak g2, g3⟩, h3⟩

theorem rpause_ok : PureC Tryz.prog 17 [.agg (stA Q B rot take K N R stage at' paused next)] (.agg (stA Q B rot take K N R stage at' true next)) :=
  runD_ok mixed (effQ_ok .nil) Tryz.func17 (sc := []) (obs := []) (by kernel_rfl) trivial
theorem rresume_ok : PureC Tryz.prog 19 [.agg (stA Q B rot take K N R stage at' paused next)] (.agg (stA Q B rot take K N R stage at' false next)) :=
  runD_ok mixed (effQ_ok .nil) Tryz.func19 (sc := []) (obs := []) (by kernel_rfl) trivial

end
end Go.Am
end PartAqState

section PartAqGiven
/- States, taken from the one shape to the other. Printed by program (wip/gen/stateloop.py). -/
namespace Go.Am
open Go Go.Proofs
set_option maxRecDepth 1000000

section
variable {Q B K N R : List (List AV)} {rot : Bool} {take : Int} {stage at' : Int} {paused : Bool} {next : Int}

def L7 (Q B K N R : List (List AV)) (rot : Bool) (take stage at' : Int) (paused : Bool) (next : Int) (kills : AV) (blk : Blk) : HL :=
  [.box 0 (stA Q B rot take K N R stage at' paused next),
   .box 0 [.lit (.slice none 0 0), .lit (.slice none 0 0), .lit (.bool false), .lit (.int .i64 0), .lit (.slice none 0 0), .lit (.slice none 0 0), .lit (.slice none 0 0), .lit (.int .i64 0), .lit (.int .i64 0), .lit (.bool false), .lit (.int .i64 0)],
   .box 0 [.lit (.bool rot), .lit (.int .i64 take), kills, .ro 4 N false, .ro 1 R false], blk]
def s7 (K : List (List AV)) (t23 : AV) : List AV := anys 54 [(1, .ptr 0 0 0 0), (2, .ptr 1 0 0 0), (3, .ptr 2 0 0 0), (21, .ro 2 K false), (22, .lit (.int .i64 K.length)), (23, t23)]

theorem L7_under {m n : Nat} {rows : List (List AV)} (h : rows.all dataAll = true) : (L7 Q B K N R rot take stage at' paused next (.own 3 m 0 m false) (.arr 2 n rows)).all (blkUnder 4) = true := by
  simp only [L7, List.all_cons, List.all_nil, Bool.and_true, Bool.and_eq_true]
  exact ⟨rfl, rfl, rfl, all_under h⟩

/-- The state in which the loop over the kills is come to. -/
def l7 (Q B K N R : List (List AV)) (rot : Bool) (take stage at' : Int) (paused : Bool) (next : Int) : List AV :=
  undefs 54 [(0, .agg (stA Q B rot take K N R stage at' paused next)), (1, .ptr 0 0 0 0), (2, .ptr 1 0 0 0), (3, .ptr 2 0 0 0),
    (6, .ptr 0 0 0 2), (7, .ptr 0 0 0 2), (8, .lit (.bool rot)), (9, .ptr 0 0 0 2), (10, .ptr 0 0 0 3), (11, .lit (.int .i64 take)), (12, .ptr 0 0 0 2), (13, .ptr 0 0 0 5), (14, .ro 4 N false), (15, .ptr 0 0 0 2), (16, .ptr 0 0 0 6), (17, .ro 1 R false),
    (18, .agg [.lit (.bool rot), .lit (.int .i64 take), .lit (.slice none 0 0), .ro 4 N false, .ro 1 R false]), (19, .ptr 0 0 0 2), (20, .ptr 0 0 0 4), (21, .ro 2 K false), (22, .lit (.int .i64 K.length)), (23, .lit (.int .i64 0))]

theorem given_round (h : StOk Q B K N R) {i : Nat} (hi : i < K.length) :
    CW Tryz.prog (loopAt Tryz.f7 0) (s7 K (.lit (.int .i64 i)), hof (L7 Q B K N R rot take stage at' paused next (.own 3 i 0 i false) (.arr 2 i (K.take i)))) .normal
      (s7 K (.lit (.int .i64 (i + 1 : Nat))), hof (L7 Q B K N R rot take stage at' paused next (.own 3 (i + 1) 0 (i + 1) false) (.arr 2 (i + 1) (K.take (i + 1))))) := by
  obtain ⟨r, hr, g, ks, rfl, hks⟩ := h.k.get hi
  have hlen := h.k.len
  unfold BIG at hlen
  have := cw_of_runN mixed (effQ_ok .nil) (c := loopAt Tryz.f7 0) (l := s7 K (.lit (.int .i64 i))) (L := L7 Q B K N R rot take stage at' paused next (.own 3 i 0 i false) (.arr 2 i (K.take i))) (sc := [.dec true, .el (klRow g ks)]) (m := maskOn 54 [1, 2, 3, 21, 22, 23]) (n := 4)
    (ex := .normal) (l' := s7 K (.lit (.int .i64 (IntKind.i64.wrap (i + 1))))) (L' := L7 Q B K N R rot take stage at' paused next (.own 3 (i + 1) 0 (i + 1) false) (.arr 2 (i + 1) ((K.take i).take i ++ [klRow g ks])))
    (obs := [decide ((i : Int) < (K.length : Int)) = true, 0 ≤ (i : Int) ∧ K[(i : Int).toNat]? = some (klRow g ks), i = i, (2 * (i + 1) + 1024) * 32 ≤ 2 ^ 48])
    (by kernel_rfl) ⟨by simpa using hi, ⟨by omega, by simpa using hr⟩, rfl, by omega, trivial⟩ (by simp [L7]) rfl (by
      refine L7_under ?_
      simp only [List.all_append, Bool.and_eq_true]
      refine ⟨?_, rfl⟩
      have hd := h.k.dat fun r hr => IsKill.dat hr
      rw [List.all_eq_true] at hd ⊢
      exact fun r hr => hd r (List.mem_of_mem_take (List.mem_of_mem_take hr)))
  rw [wrap_succ (by omega)] at this
  rw [List.take_succ, hr]
  simpa [List.take_take] using this

theorem given_loop (h : StOk Q B K N R) :
    CW Tryz.prog (.loop (loopAt Tryz.f7 0)) (l7 Q B K N R rot take stage at' paused next, hof (L7 Q B K N R rot take stage at' paused next (.lit (.slice none 0 0)) (.arr 2 0 []) |>.take 3)) (.exit 0)
      (s7 K .any, hof (L7 Q B K N R rot take stage at' paused next (.own 3 K.length 0 K.length false) (.arr 2 K.length K))) := by
  refine CW.weak_in (maskOn 54 [1, 2, 3, 21, 22, 23]) (l := s7 K (.lit (.int .i64 0))) (by kernel_rfl) ?_
  refine CW.seedBox (w := 0) (e := [.lit (.bool rot), .lit (.int .i64 take), .lit (.slice none 0 0), .ro 4 N false, .ro 1 R false]) 2 2 2 rfl rfl ?_
  refine CW.for (by simp) (fun i => (s7 K (.lit (.int .i64 i)), hof (L7 Q B K N R rot take stage at' paused next (.own 3 i 0 i false) (.arr 2 i (K.take i))))) K.length rfl (fun i hi => given_round h hi) ?_
  have := cw_of_runN mixed (effQ_ok .nil) (c := loopAt Tryz.f7 0) (l := s7 K (.lit (.int .i64 K.length))) (L := L7 Q B K N R rot take stage at' paused next (.own 3 K.length 0 K.length false) (.arr 2 K.length K)) (sc := [.dec false]) (m := maskOn 54 [1, 2, 3, 21, 22]) (n := 4)
    (ex := .exit 0) (l' := s7 K .any) (L' := L7 Q B K N R rot take stage at' paused next (.own 3 K.length 0 K.length false) (.arr 2 K.length K))
    (obs := [decide ((K.length : Int) < (K.length : Int)) = false]) (by kernel_rfl) ⟨by simp, trivial⟩ (by simp [L7]) rfl (L7_under (h.k.dat fun r hr => IsKill.dat hr))
  simpa using this

theorem given_ok (h : StOk Q B K N R) : PureC Tryz.prog 7 [.agg (stA Q B rot take K N R stage at' paused next)] (.agg (stA Q B rot take K N R stage at' paused next)) := by
  have := runD_ok mixed (effQ_ok (.cons reqsE_ok .nil)) Tryz.func7 (args := [.agg (stA Q B rot take K N R stage at' paused next)])
    (sc := [.lp (.exit 0) (s7 K .any) (L7 Q B K N R rot take stage at' paused next (.own 3 K.length 0 K.length false) (.arr 2 K.length K))]) (v := .agg (stA Q B rot take (K.take K.length) N R stage at' paused next))
    (obs := [CW Tryz.prog (.loop (loopAt Tryz.f7 0)) (l7 Q B K N R rot take stage at' paused next, hof (L7 Q B K N R rot take stage at' paused next (.lit (.slice none 0 0)) (.arr 2 0 []) |>.take 3)) (.exit 0)
      (s7 K .any, hof (L7 Q B K N R rot take stage at' paused next (.own 3 K.length 0 K.length false) (.arr 2 K.length K))),
      RowsOf IsReq Q, RowsOf IsReq B, K.length = K.length, K.length ≤ LIM, (K.take K.length).all dataAll = true])
    (by kernel_rfl) ⟨given_loop h, h.q, h.b, rfl, big_lim h.k, by rw [List.take_length]; exact h.k.dat fun r hr => IsKill.dat hr, trivial⟩
  simpa only [List.take_length] using this

def givenE : SEnt := ⟨7, fun
  | [.agg [.ro 5 Q false, .ro 5 B false, .lit (.bool rot), .lit (.int .i64 take), .ro 2 K false, .ro 4 N false, .ro 1 R false, .lit (.int .i64 stage), .lit (.int .i64 at'), .lit (.bool paused), .lit (.int .i64 next)]] =>
    some (.agg (stA Q B rot take K N R stage at' paused next), [], [StOk Q B K N R])
  | _ => none⟩
theorem givenE_ok : givenE.Ok Tryz.prog := by
  intro az v Bs obs hgo ho
  simp only [givenE] at hgo
  split at hgo <;> try (simp at hgo; done)
  rename_i Q B rot take K N R stage at' paused next
  simp only [Option.some.injEq, Prod.mk.injEq] at hgo; obtain ⟨rfl, rfl, rfl⟩ := hgo
  refine ⟨?_, rfl, by simp⟩
  rw [hof_nil]
  exact given_ok (ho _ (List.mem_singleton.2 rfl))

theorem told_round (h : StOk Q B K N R) {i : Nat} (hi : i < K.length) :
    CW Tryz.prog (loopAt Tryz.f11 0) (s7 K (.lit (.int .i64 i)), hof (L7 Q B K N R rot take stage at' paused next (.own 3 i 0 i false) (.arr 2 i (K.take i)))) .normal
      (s7 K (.lit (.int .i64 (i + 1 : Nat))), hof (L7 Q B K N R rot take stage at' paused next (.own 3 (i + 1) 0 (i + 1) false) (.arr 2 (i + 1) (K.take (i + 1))))) := by
  obtain ⟨r, hr, g, ks, rfl, hks⟩ := h.k.get hi
  have hlen := h.k.len
  unfold BIG at hlen
  have := cw_of_runN mixed (effQ_ok .nil) (c := loopAt Tryz.f11 0) (l := s7 K (.lit (.int .i64 i))) (L := L7 Q B K N R rot take stage at' paused next (.own 3 i 0 i false) (.arr 2 i (K.take i))) (sc := [.dec true, .el (klRow g ks)]) (m := maskOn 54 [1, 2, 3, 21, 22, 23]) (n := 4)
    (ex := .normal) (l' := s7 K (.lit (.int .i64 (IntKind.i64.wrap (i + 1))))) (L' := L7 Q B K N R rot take stage at' paused next (.own 3 (i + 1) 0 (i + 1) false) (.arr 2 (i + 1) ((K.take i).take i ++ [klRow g ks])))
    (obs := [decide ((i : Int) < (K.length : Int)) = true, 0 ≤ (i : Int) ∧ K[(i : Int).toNat]? = some (klRow g ks), i = i, (2 * (i + 1) + 1024) * 32 ≤ 2 ^ 48])
    (by kernel_rfl) ⟨by simpa using hi, ⟨by omega, by simpa using hr⟩, rfl, by omega, trivial⟩ (by simp [L7]) rfl (by
      refine L7_under ?_
      simp only [List.all_append, Bool.and_eq_true]
      refine ⟨?_, rfl⟩
      have hd := h.k.dat fun r hr => IsKill.dat hr
      rw [List.all_eq_true] at hd ⊢
      exact fun r hr => hd r (List.mem_of_mem_take (List.mem_of_mem_take hr)))
  rw [wrap_succ (by omega)] at this
  rw [List.take_succ, hr]
  simpa [List.take_take] using this

theorem told_loop (h : StOk Q B K N R) :
    CW Tryz.prog (.loop (loopAt Tryz.f11 0)) (l7 Q B K N R rot take stage at' paused next, hof (L7 Q B K N R rot take stage at' paused next (.lit (.slice none 0 0)) (.arr 2 0 []) |>.take 3)) (.exit 0)
      (s7 K .any, hof (L7 Q B K N R rot take stage at' paused next (.own 3 K.length 0 K.length false) (.arr 2 K.length K))) := by
  refine CW.weak_in (maskOn 54 [1, 2, 3, 21, 22, 23]) (l := s7 K (.lit (.int .i64 0))) (by kernel_rfl) ?_
  refine CW.seedBox (w := 0) (e := [.lit (.bool rot), .lit (.int .i64 take), .lit (.slice none 0 0), .ro 4 N false, .ro 1 R false]) 2 2 2 rfl rfl ?_
  refine CW.for (by simp) (fun i => (s7 K (.lit (.int .i64 i)), hof (L7 Q B K N R rot take stage at' paused next (.own 3 i 0 i false) (.arr 2 i (K.take i))))) K.length rfl (fun i hi => told_round h hi) ?_
  have := cw_of_runN mixed (effQ_ok .nil) (c := loopAt Tryz.f11 0) (l := s7 K (.lit (.int .i64 K.length))) (L := L7 Q B K N R rot take stage at' paused next (.own 3 K.length 0 K.length false) (.arr 2 K.length K)) (sc := [.dec false]) (m := maskOn 54 [1, 2, 3, 21, 22]) (n := 4)
    (ex := .exit 0) (l' := s7 K .any) (L' := L7 Q B K N R rot take stage at' paused next (.own 3 K.length 0 K.length false) (.arr 2 K.length K))
    (obs := [decide ((K.length : Int) < (K.length : Int)) = false]) (by kernel_rfl) ⟨by simp, trivial⟩ (by simp [L7]) rfl (L7_under (h.k.dat fun r hr => IsKill.dat hr))
  simpa using this

theorem told_ok (h : StOk Q B K N R) : PureC Tryz.prog 11 [.agg (stA Q B rot take K N R stage at' paused next)] (.agg (stA Q B rot take K N R stage at' paused next)) := by
  have := runD_ok mixed (effQ_ok (.cons backE_ok .nil)) Tryz.func11 (args := [.agg (stA Q B rot take K N R stage at' paused next)])
    (sc := [.lp (.exit 0) (s7 K .any) (L7 Q B K N R rot take stage at' paused next (.own 3 K.length 0 K.length false) (.arr 2 K.length K))]) (v := .agg (stA Q B rot take (K.take K.length) N R stage at' paused next))
    (obs := [CW Tryz.prog (.loop (loopAt Tryz.f11 0)) (l7 Q B K N R rot take stage at' paused next, hof (L7 Q B K N R rot take stage at' paused next (.lit (.slice none 0 0)) (.arr 2 0 []) |>.take 3)) (.exit 0)
      (s7 K .any, hof (L7 Q B K N R rot take stage at' paused next (.own 3 K.length 0 K.length false) (.arr 2 K.length K))),
      RowsOf IsReq Q, RowsOf IsReq B, K.length = K.length, K.length ≤ LIM, (K.take K.length).all dataAll = true])
    (by kernel_rfl) ⟨told_loop h, h.q, h.b, rfl, big_lim h.k, by rw [List.take_length]; exact h.k.dat fun r hr => IsKill.dat hr, trivial⟩
  simpa only [List.take_length] using this

def toldE : SEnt := ⟨11, fun
  | [.agg [.ro 5 Q false, .ro 5 B false, .lit (.bool rot), .lit (.int .i64 take), .ro 2 K false, .ro 4 N false, .ro 1 R false, .lit (.int .i64 stage), .lit (.int .i64 at'), .lit (.bool paused), .lit (.int .i64 next)]] =>
    some (.agg (stA Q B rot take K N R stage at' paused next), [], [StOk Q B K N R])
  | _ => none⟩
theorem toldE_ok : toldE.Ok Tryz.prog := by
  intro az v Bs obs hgo ho
  simp only [toldE] at hgo
  split at hgo <;> try (simp at hgo; done)
  rename_i Q B rot take K N R stage at' paused next
  simp only [Option.some.injEq, Prod.mk.injEq] at hgo; obtain ⟨rfl, rfl, rfl⟩ := hgo
  refine ⟨?_, rfl, by simp⟩
  rw [hof_nil]
  exact told_ok (ho _ (List.mem_singleton.2 rfl))

end
end Go.Am
end PartAqGiven

section PartAqSame
/- The reference's comparisons, of data with themselves. -/
namespace Go.Am
open Go Go.Proofs
set_option maxRecDepth 1000000

def decs (n : Nat) (b : Bool) : List Sc := List.replicate n (.dec b)
def ands (n : Nat) (p : Prop) : List Prop := List.replicate n p

def s27 (xs : List (List AV)) (t5 : AV) : List AV := anys 82 [(0, .ro 5 xs false), (1, .ro 5 xs false), (5, t5)]

def blk27 (p e : Prop) : List Prop := [p, false = false, false = false, e, false = false, false = false, false = false, false = false, false = false, e, false = false, false = false, false = false]

theorem same_round {xs : List (List AV)} (h : RowsOf IsReq xs) {i : Nat} (hi : i < xs.length) :
    CW Tryz.prog (loopAt Tryz.f27 0) (s27 xs (.lit (.int .i64 i)), hof []) .normal (s27 xs (.lit (.int .i64 (i + 1 : Nat))), hof []) := by
  obtain ⟨r, hr, t, k, key, c, bs, rfl, hb⟩ := h.get hi
  obtain ⟨s, hs⟩ := hb.str
  have hlen := h.len
  unfold BIG at hlen
  have := cw_of_runN mixed (effQ_ok .nil) (c := loopAt Tryz.f27 0) (l := s27 xs (.lit (.int .i64 i))) (L := [])
    (sc := [.dec true, .el (rqRow t k key c bs), .el (rqRow t k key c bs)] ++
      (decs 3 false ++ [.el (rqRow t k key c bs)] ++ decs 5 false ++ [.el (rqRow t k key c bs)] ++ decs 3 false) ++
      (decs 3 false ++ [.el (rqRow t k key c bs)] ++ decs 5 false ++ [.el (rqRow t k key c bs)] ++ decs 3 false) ++
      (decs 3 false ++ [.el (rqRow t k key c bs)] ++ decs 5 false ++ [.el (rqRow t k key c bs)] ++ decs 3 false) ++
      (decs 3 false ++ [.el (rqRow t k key c bs)] ++ decs 3 false ++ [.av (.lit (.string s))] ++ decs 3 false ++ [.el (rqRow t k key c bs)] ++ decs 3 false ++ [.av (.lit (.string s))] ++ decs 1 false) ++ [.dec false])
    (m := maskOn 82 [0, 1, 5]) (n := 0) (ex := .normal) (l' := s27 xs (.lit (.int .i64 (IntKind.i64.wrap (i + 1))))) (L' := [])
    (obs := [decide ((i : Int) < (xs.length : Int)) = true, 0 ≤ (i : Int) ∧ xs[(i : Int).toNat]? = some (rqRow t k key c bs), 0 ≤ (i : Int) ∧ xs[(i : Int).toNat]? = some (rqRow t k key c bs)] ++
      blk27 ((t != t) = false) (0 ≤ (i : Int) ∧ xs[(i : Int).toNat]? = some (rqRow t k key c bs)) ++ blk27 ((k != k) = false) (0 ≤ (i : Int) ∧ xs[(i : Int).toNat]? = some (rqRow t k key c bs)) ++
      blk27 ((key != key) = false) (0 ≤ (i : Int) ∧ xs[(i : Int).toNat]? = some (rqRow t k key c bs)) ++
      [(c != c) = false, false = false, false = false, 0 ≤ (i : Int) ∧ xs[(i : Int).toNat]? = some (rqRow t k key c bs), false = false, false = false, false = false, rowBytes bs = some s.data.toList,
        false = false, false = false, false = false, 0 ≤ (i : Int) ∧ xs[(i : Int).toNat]? = some (rqRow t k key c bs), false = false, false = false, false = false, rowBytes bs = some s.data.toList, false = false] ++ [(!(s.toList == s.toList)) = false])
    (by kernel_rfl) (by simp only [blk27, List.cons_append, List.nil_append, AllP, Int.toNat_natCast, hr, hs]; simp [hi]) (by simp) rfl rfl
  rw [wrap_succ (by omega)] at this
  exact this

theorem same_exit {xs : List (List AV)} :
    CW Tryz.prog (loopAt Tryz.f27 0) (s27 xs (.lit (.int .i64 xs.length)), hof []) (.exit 0) (s27 xs .any, hof []) :=
  cw_of_runN mixed (effQ_ok .nil) (sc := [.dec false]) (m := maskOn 82 [0, 1]) (n := 0)
    (obs := [decide ((xs.length : Int) < (xs.length : Int)) = false]) (by kernel_rfl) ⟨by simp, trivial⟩ (by simp) rfl rfl

def l27 (xs : List (List AV)) : List AV := undefs 82 [(0, .ro 5 xs false), (1, .ro 5 xs false), (4, .lit (.bool false)), (5, .lit (.int .i64 0)), (6, .ro 5 xs false), (7, .lit (.int .i64 xs.length)), (8, .ro 5 xs false), (9, .lit (.int .i64 xs.length)), (10, .lit (.bool ((xs.length : Int) != (xs.length : Int))))]

theorem same_loop {xs : List (List AV)} (h : RowsOf IsReq xs) :
    CW Tryz.prog (.loop (loopAt Tryz.f27 0)) (l27 xs, hof []) (.exit 0) (s27 xs .any, hof []) := by
  refine CW.weak_in (maskOn 82 [0, 1, 5]) (l := s27 xs (.lit (.int .i64 0))) (by kernel_rfl) ?_
  exact CW.for (by simp) (fun i => (s27 xs (.lit (.int .i64 i)), hof [])) xs.length rfl (fun i hi => same_round h hi) same_exit

theorem same_ok {xs : List (List AV)} (h : RowsOf IsReq xs) : PureC Tryz.prog 27 [.ro 5 xs false, .ro 5 xs false] (.lit (.bool true)) :=
  runD_ok mixed (effQ_ok .nil) Tryz.func27 (sc := [.dec false, .lp (.exit 0) (s27 xs .any) []])
    (obs := [((xs.length : Int) != (xs.length : Int)) = false, CW Tryz.prog (.loop (loopAt Tryz.f27 0)) (l27 xs, hof []) (.exit 0) (s27 xs .any, hof [])])
    (by kernel_rfl) ⟨by simp, same_loop h, trivial⟩

end Go.Am
end PartAqSame

section PartAqSame2
/- The reference's comparisons of plans and states, with themselves. -/
namespace Go.Am
open Go Go.Proofs
set_option maxRecDepth 1000000

def sameReqsE : SEnt := ⟨27, fun
  | [.ro 5 xs false, .ro 5 ys false] => some (.lit (.bool true), [], [xs = ys, RowsOf IsReq xs])
  | _ => none⟩
theorem sameReqsE_ok : sameReqsE.Ok Tryz.prog := by
  intro az v Bs obs hgo ho
  simp only [sameReqsE] at hgo
  split at hgo <;> try (simp at hgo; done)
  simp only [Option.some.injEq, Prod.mk.injEq] at hgo; obtain ⟨rfl, rfl, rfl⟩ := hgo
  refine ⟨?_, rfl, by simp⟩
  rw [hof_nil]
  have h1 := ho _ List.mem_cons_self
  subst h1
  exact same_ok (ho _ (List.mem_cons_of_mem _ (List.mem_singleton.2 rfl)))

def s45 (xs : List (List AV)) (t5 : AV) : List AV := anys 26 [(0, .ro 1 xs false), (1, .ro 1 xs false), (5, t5)]

theorem same45_round {xs : List (List AV)} (h : RowsOf IsU8 xs) {i : Nat} (hi : i < xs.length) :
    CW Tryz.prog (loopAt Tryz.f45 0) (s45 xs (.lit (.int .i64 i)), hof []) .normal (s45 xs (.lit (.int .i64 (i + 1 : Nat))), hof []) := by
  obtain ⟨r, hr, e, rfl⟩ := h.get hi
  have hlen := h.len
  unfold BIG at hlen
  have := cw_of_runN mixed (effQ_ok .nil) (c := loopAt Tryz.f45 0) (l := s45 xs (.lit (.int .i64 i))) (L := []) (sc := [.dec true, .el (u8Row e), .el (u8Row e), .dec false])
    (m := maskOn 26 [0, 1, 5]) (n := 0) (ex := .normal) (l' := s45 xs (.lit (.int .i64 (IntKind.i64.wrap (i + 1))))) (L' := [])
    (obs := [decide ((i : Int) < (xs.length : Int)) = true, 0 ≤ (i : Int) ∧ xs[(i : Int).toNat]? = some (u8Row e), 0 ≤ (i : Int) ∧ xs[(i : Int).toNat]? = some (u8Row e), (e != e) = false])
    (by kernel_rfl) (by simp only [AllP, Int.toNat_natCast, hr]; simp [hi]) (by simp) rfl rfl
  rw [wrap_succ (by omega)] at this
  exact this

def l45 (xs : List (List AV)) : List AV := undefs 26 [(0, .ro 1 xs false), (1, .ro 1 xs false), (4, .lit (.bool false)), (5, .lit (.int .i64 0)), (6, .ro 1 xs false), (7, .lit (.int .i64 xs.length)), (8, .ro 1 xs false), (9, .lit (.int .i64 xs.length)), (10, .lit (.bool ((xs.length : Int) != (xs.length : Int))))]

theorem same45_loop {xs : List (List AV)} (h : RowsOf IsU8 xs) : CW Tryz.prog (.loop (loopAt Tryz.f45 0)) (l45 xs, hof []) (.exit 0) (s45 xs .any, hof []) := by
  refine CW.weak_in (maskOn 26 [0, 1, 5]) (l := s45 xs (.lit (.int .i64 0))) (by kernel_rfl) ?_
  exact CW.for (by simp) (fun i => (s45 xs (.lit (.int .i64 i)), hof [])) xs.length rfl (fun i hi => same45_round h hi)
    (cw_of_runN mixed (effQ_ok .nil) (sc := [.dec false]) (m := maskOn 26 [0, 1]) (n := 0) (obs := [decide ((xs.length : Int) < (xs.length : Int)) = false]) (by kernel_rfl) ⟨by simp, trivial⟩ (by simp) rfl rfl)

theorem same45_ok {xs : List (List AV)} (h : RowsOf IsU8 xs) : PureC Tryz.prog 45 [.ro 1 xs false, .ro 1 xs false] (.lit (.bool true)) :=
  runD_ok mixed (effQ_ok .nil) Tryz.func45 (sc := [.dec false, .lp (.exit 0) (s45 xs .any) []])
    (obs := [((xs.length : Int) != (xs.length : Int)) = false, CW Tryz.prog (.loop (loopAt Tryz.f45 0)) (l45 xs, hof []) (.exit 0) (s45 xs .any, hof [])])
    (by kernel_rfl) ⟨by simp, same45_loop h, trivial⟩

def same45E : SEnt := ⟨45, fun
  | [.ro 1 xs false, .ro 1 ys false] => some (.lit (.bool true), [], [xs = ys, RowsOf IsU8 xs])
  | _ => none⟩
theorem same45E_ok : same45E.Ok Tryz.prog := by
  intro az v Bs obs hgo ho
  simp only [same45E] at hgo
  split at hgo <;> try (simp at hgo; done)
  simp only [Option.some.injEq, Prod.mk.injEq] at hgo; obtain ⟨rfl, rfl, rfl⟩ := hgo
  refine ⟨?_, rfl, by simp⟩
  rw [hof_nil]
  have h1 := ho _ List.mem_cons_self
  subst h1
  exact same45_ok (ho _ (List.mem_cons_of_mem _ (List.mem_singleton.2 rfl)))

theorem same46_ok {key c : Int} {d : Bool} {bs : List (List AV)} (h : IsBs bs) : PureC Tryz.prog 46 [.agg (ndRow key c d bs), .agg (ndRow key c d bs)] (.lit (.bool true)) := by
  obtain ⟨s, hs⟩ := h.str
  have := runD_ok mixed (effQ_ok .nil) Tryz.func46 (args := [.agg (ndRow key c d bs), .agg (ndRow key c d bs)]) (sc := decs 13 true ++ [.av (.lit (.string s))] ++ decs 3 true ++ [.av (.lit (.string s))] ++ decs 1 true) (v := .lit (.bool (s.toList == s.toList)))
    (obs := [(key == key) = true, true = true, true = true, true = true, true = true, (c == c) = true, true = true, true = true, true = true, true = true, (d == d) = true, true = true, true = true, rowBytes bs = some s.data.toList,
      true = true, true = true, true = true, rowBytes bs = some s.data.toList, true = true]) (by kernel_rfl) (by simp only [AllP, hs]; simp)
  simpa using this

def same46E : SEnt := ⟨46, fun
  | [.agg [.lit (.int .u64 a), .lit (.int .u32 b), .lit (.bool d), .ro 1 xs false], .agg [.lit (.int .u64 a'), .lit (.int .u32 b'), .lit (.bool d'), .ro 1 ys false]] => some (.lit (.bool true), [], [a = a', b = b', d = d', xs = ys, IsBs xs])
  | _ => none⟩
theorem same46E_ok : same46E.Ok Tryz.prog := by
  intro az v Bs obs hgo ho
  simp only [same46E] at hgo
  split at hgo <;> try (simp at hgo; done)
  simp only [Option.some.injEq, Prod.mk.injEq] at hgo; obtain ⟨rfl, rfl, rfl⟩ := hgo
  refine ⟨?_, rfl, by simp⟩
  rw [hof_nil]
  have h := ho
  simp only [List.mem_cons, List.mem_nil_iff, or_false, forall_eq_or_imp, forall_eq] at h
  obtain ⟨rfl, rfl, rfl, rfl, hb⟩ := h
  exact same46_ok hb

section
variable {rot : Bool} {take : Int} {K N R : List (List AV)}

def L28 (rot : Bool) (take : Int) (K N R : List (List AV)) : HL := [.box 0 (plA rot take K N R), .box 0 (plA rot take K N R)]
def s28 (j : Nat) (t : AV) : List AV := anys 120 [(2, .ptr 0 0 0 0), (3, .ptr 1 0 0 0), (j, t)]
def blk28 (p e : Prop) : List Prop := [p, false = false, false = false, false = false, e, false = false, false = false, false = false, false = false, false = false, false = false, e]

theorem same28_round0 (h : RowsOf IsKill K) {i : Nat} (hi : i < K.length) :
    CW Tryz.prog (loopAt Tryz.f28 0) (s28 5 (.lit (.int .i64 i)), hof (L28 rot take K N R)) .normal (s28 5 (.lit (.int .i64 (i + 1 : Nat))), hof (L28 rot take K N R)) := by
  obtain ⟨r, hr, g, ks, rfl, hk⟩ := h.get hi
  have hlen := h.len
  unfold BIG at hlen
  have := cw_of_runN mixed (effQ_ok (.cons same45E_ok .nil)) (c := loopAt Tryz.f28 0) (l := s28 5 (.lit (.int .i64 i))) (L := L28 rot take K N R)
    (sc := [.dec true, .el (klRow g ks), .el (klRow g ks)] ++ decs 4 false ++ [.el (klRow g ks)] ++ decs 6 false ++ [.el (klRow g ks)] ++ decs 4 false ++ [.dec false])
    (m := maskOn 120 [2, 3, 5]) (n := 2) (ex := .normal) (l' := s28 5 (.lit (.int .i64 (IntKind.i64.wrap (i + 1))))) (L' := L28 rot take K N R)
    (obs := [decide ((i : Int) < (K.length : Int)) = true, 0 ≤ (i : Int) ∧ K[(i : Int).toNat]? = some (klRow g ks), 0 ≤ (i : Int) ∧ K[(i : Int).toNat]? = some (klRow g ks)] ++
      blk28 ((g != g) = false) (0 ≤ (i : Int) ∧ K[(i : Int).toNat]? = some (klRow g ks)) ++ [false = false, false = false, false = false, ks = ks, RowsOf IsU8 ks, false = false, false = false])
    (by kernel_rfl) (by simp only [blk28, List.cons_append, List.nil_append, AllP, Int.toNat_natCast, hr]; simp [hi, hk]) (by simp [L28]) rfl rfl
  rw [wrap_succ (by omega)] at this
  exact this

theorem same28_round1 (h : RowsOf IsNd N) {i : Nat} (hi : i < N.length) :
    CW Tryz.prog (loopAt Tryz.f28 1) (s28 6 (.lit (.int .i64 i)), hof (L28 rot take K N R)) .normal (s28 6 (.lit (.int .i64 (i + 1 : Nat))), hof (L28 rot take K N R)) := by
  obtain ⟨r, hr, key, c, d, bs, rfl, hb⟩ := h.get hi
  have hlen := h.len
  unfold BIG at hlen
  have := cw_of_runN mixed (effQ_ok (.cons same46E_ok .nil)) (c := loopAt Tryz.f28 1) (l := s28 6 (.lit (.int .i64 i))) (L := L28 rot take K N R)
    (sc := [.dec true, .el (ndRow key c d bs), .el (ndRow key c d bs), .dec false])
    (m := maskOn 120 [2, 3, 6]) (n := 2) (ex := .normal) (l' := s28 6 (.lit (.int .i64 (IntKind.i64.wrap (i + 1))))) (L' := L28 rot take K N R)
    (obs := [decide ((i : Int) < (N.length : Int)) = true, 0 ≤ (i : Int) ∧ N[(i : Int).toNat]? = some (ndRow key c d bs), 0 ≤ (i : Int) ∧ N[(i : Int).toNat]? = some (ndRow key c d bs),
      key = key, c = c, d = d, bs = bs, IsBs bs, false = false])
    (by kernel_rfl) (by simp only [AllP, Int.toNat_natCast, hr]; simp [hi, hb]) (by simp [L28]) rfl rfl
  rw [wrap_succ (by omega)] at this
  exact this

theorem same28_round2 (h : RowsOf IsRe R) {i : Nat} (hi : i < R.length) :
    CW Tryz.prog (loopAt Tryz.f28 2) (s28 7 (.lit (.int .i64 i)), hof (L28 rot take K N R)) .normal (s28 7 (.lit (.int .i64 (i + 1 : Nat))), hof (L28 rot take K N R)) := by
  obtain ⟨r, hr, g, rfl⟩ := h.get hi
  have hlen := h.len
  unfold BIG at hlen
  have := cw_of_runN mixed (effQ_ok .nil) (c := loopAt Tryz.f28 2) (l := s28 7 (.lit (.int .i64 i))) (L := L28 rot take K N R)
    (sc := [.dec true, .el (reRow g), .el (reRow g), .dec false])
    (m := maskOn 120 [2, 3, 7]) (n := 2) (ex := .normal) (l' := s28 7 (.lit (.int .i64 (IntKind.i64.wrap (i + 1))))) (L' := L28 rot take K N R)
    (obs := [decide ((i : Int) < (R.length : Int)) = true, 0 ≤ (i : Int) ∧ R[(i : Int).toNat]? = some (reRow g), 0 ≤ (i : Int) ∧ R[(i : Int).toNat]? = some (reRow g), (g != g) = false])
    (by kernel_rfl) (by simp only [AllP, Int.toNat_natCast, hr]; simp [hi]) (by simp [L28]) rfl rfl
  rw [wrap_succ (by omega)] at this
  exact this

theorem same28_loop (j : Nat) (c : Code) (ex : Ex) (hex : ex ≠ .normal) (xs : List (List AV)) (l0 : List AV) (hl0 : maskL (maskOn 120 [2, 3, j]) l0 = s28 j (.lit (.int .i64 0)))
    (hr : ∀ i, i < xs.length → CW Tryz.prog c (s28 j (.lit (.int .i64 i)), hof (L28 rot take K N R)) .normal (s28 j (.lit (.int .i64 (i + 1 : Nat))), hof (L28 rot take K N R)))
    (he : CW Tryz.prog c (s28 j (.lit (.int .i64 xs.length)), hof (L28 rot take K N R)) ex (s28 j .any, hof (L28 rot take K N R))) :
    CW Tryz.prog (.loop c) (l0, hof (L28 rot take K N R)) ex (s28 j .any, hof (L28 rot take K N R)) := by
  refine CW.weak_in (maskOn 120 [2, 3, j]) hl0 ?_
  exact CW.for hex (fun i => (s28 j (.lit (.int .i64 i)), hof (L28 rot take K N R))) xs.length rfl hr he

/-- The temporaries behind the first test. -/
def l28 (rot : Bool) (take : Int) (K N R : List (List AV)) : List AV :=
  undefs 120 [(0, .agg (plA rot take K N R)), (1, .agg (plA rot take K N R)), (2, .ptr 0 0 0 0), (3, .ptr 1 0 0 0), (4, .lit (.bool false)), (5, .lit (.int .i64 0)),
    (8, .ptr 0 0 0 0), (9, .lit (.bool rot)), (10, .ptr 1 0 0 0), (11, .lit (.bool rot)), (12, .lit (.bool (!(rot == rot)))), (13, .lit (.bool false)),
    (14, .ptr 0 0 0 1), (15, .lit (.int .i64 take)), (16, .ptr 1 0 0 1), (17, .lit (.int .i64 take)), (18, .lit (.bool (take != take))), (19, .lit (.bool (take != take))), (20, .lit (.bool false)),
    (21, .ptr 0 0 0 2), (22, .ro 2 K false), (23, .lit (.int .i64 K.length)), (24, .ptr 1 0 0 2), (25, .ro 2 K false), (26, .lit (.int .i64 K.length)), (27, .lit (.bool ((K.length : Int) != (K.length : Int)))), (28, .lit (.bool ((K.length : Int) != (K.length : Int)))), (29, .lit (.bool false)),
    (30, .ptr 0 0 0 3), (31, .ro 4 N false), (32, .lit (.int .i64 N.length)), (33, .ptr 1 0 0 3), (34, .ro 4 N false), (35, .lit (.int .i64 N.length)), (36, .lit (.bool ((N.length : Int) != (N.length : Int)))), (37, .lit (.bool ((N.length : Int) != (N.length : Int)))), (38, .lit (.bool false)),
    (39, .ptr 0 0 0 4), (40, .ro 1 R false), (41, .lit (.int .i64 R.length)), (42, .ptr 1 0 0 4), (43, .ro 1 R false), (44, .lit (.int .i64 R.length)), (45, .lit (.bool ((R.length : Int) != (R.length : Int)))), (46, .lit (.bool ((R.length : Int) != (R.length : Int))))]

theorem same28_ok (hK : RowsOf IsKill K) (hN : RowsOf IsNd N) (hR : RowsOf IsRe R) : PureC Tryz.prog 28 [.agg (plA rot take K N R), .agg (plA rot take K N R)] (.lit (.bool true)) := by
  have l0 : CW Tryz.prog (.loop (loopAt Tryz.f28 0)) (l28 rot take K N R, hof (L28 rot take K N R)) (.exit 0) (s28 5 .any, hof (L28 rot take K N R)) :=
    same28_loop 5 _ _ (by simp) K _ (by kernel_rfl) (fun i hi => same28_round0 hK hi)
      (cw_of_runN mixed (effQ_ok .nil) (sc := [.dec false]) (m := maskOn 120 [2, 3]) (n := 2) (obs := [decide ((K.length : Int) < (K.length : Int)) = false]) (by kernel_rfl) ⟨by simp, trivial⟩ (by simp [L28]) rfl rfl)
  have l1 : CW Tryz.prog (.loop (loopAt Tryz.f28 1)) (s28 6 (.lit (.int .i64 0)), hof (L28 rot take K N R)) (.exit 2) (s28 6 .any, hof (L28 rot take K N R)) :=
    same28_loop 6 _ _ (by simp) N _ (by kernel_rfl) (fun i hi => same28_round1 hN hi)
      (cw_of_runN mixed (effQ_ok .nil) (sc := [.dec false]) (m := maskOn 120 [2, 3]) (n := 2) (obs := [decide ((N.length : Int) < (N.length : Int)) = false]) (by kernel_rfl) ⟨by simp, trivial⟩ (by simp [L28]) rfl rfl)
  have l2 : CW Tryz.prog (.loop (loopAt Tryz.f28 2)) (s28 7 (.lit (.int .i64 0)), hof (L28 rot take K N R)) (.exit 4) (s28 7 .any, hof (L28 rot take K N R)) :=
    same28_loop 7 _ _ (by simp) R _ (by kernel_rfl) (fun i hi => same28_round2 hR hi)
      (cw_of_runN mixed (effQ_ok .nil) (sc := [.dec false]) (m := maskOn 120 [2, 3]) (n := 2) (obs := [decide ((R.length : Int) < (R.length : Int)) = false]) (by kernel_rfl) ⟨by simp, trivial⟩ (by simp [L28]) rfl rfl)
  exact runD_ok mixed (effQ_ok .nil) Tryz.func28 (sc := decs 5 false ++ decs 7 false ++ decs 7 false ++ decs 7 false ++ [.dec false, .lp (.exit 0) (s28 5 .any) (L28 rot take K N R), .lp (.exit 2) (s28 6 .any) (L28 rot take K N R), .lp (.exit 4) (s28 7 .any) (L28 rot take K N R)])
    (obs := [(!(rot == rot)) = false, false = false, false = false, false = false, false = false,
      (take != take) = false, false = false, false = false, false = false, false = false, false = false, false = false,
      ((K.length : Int) != (K.length : Int)) = false, false = false, false = false, false = false, false = false, false = false, false = false,
      ((N.length : Int) != (N.length : Int)) = false, false = false, false = false, false = false, false = false, false = false, false = false,
      ((R.length : Int) != (R.length : Int)) = false,
      CW Tryz.prog (.loop (loopAt Tryz.f28 0)) (l28 rot take K N R, hof (L28 rot take K N R)) (.exit 0) (s28 5 .any, hof (L28 rot take K N R)),
      CW Tryz.prog (.loop (loopAt Tryz.f28 1)) (s28 6 (.lit (.int .i64 0)), hof (L28 rot take K N R)) (.exit 2) (s28 6 .any, hof (L28 rot take K N R)),
      CW Tryz.prog (.loop (loopAt Tryz.f28 2)) (s28 7 (.lit (.int .i64 0)), hof (L28 rot take K N R)) (.exit 4) (s28 7 .any, hof (L28 rot take K N R))])
    (by kernel_rfl) (by simp only [AllP]; simp only [bne_self_eq_false, BEq.rfl, Bool.not_true, true_and]; exact ⟨l0, l1, l2, trivial⟩)

def same28E : SEnt := ⟨28, fun
  | [.agg [.lit (.bool rot), .lit (.int .i64 take), .ro 2 K false, .ro 4 N false, .ro 1 R false], .agg [.lit (.bool rot'), .lit (.int .i64 take'), .ro 2 K' false, .ro 4 N' false, .ro 1 R' false]] =>
    some (.lit (.bool true), [], [rot = rot', take = take', K = K', N = N', R = R', RowsOf IsKill K, RowsOf IsNd N, RowsOf IsRe R])
  | _ => none⟩
theorem same28E_ok : same28E.Ok Tryz.prog := by
  intro az v Bs obs hgo ho
  simp only [same28E] at hgo
  split at hgo <;> try (simp at hgo; done)
  simp only [Option.some.injEq, Prod.mk.injEq] at hgo; obtain ⟨rfl, rfl, rfl⟩ := hgo
  refine ⟨?_, rfl, by simp⟩
  rw [hof_nil]
  have h := ho
  simp only [List.mem_cons, List.mem_nil_iff, or_false, forall_eq_or_imp, forall_eq] at h
  obtain ⟨rfl, rfl, rfl, rfl, rfl, h1, h2, h3⟩ := h
  exact same28_ok h1 h2 h3

end
end Go.Am
end PartAqSame2

section PartAqState2
/- The reference's comparison of states with themselves; Runnable; New. -/
namespace Go.Am
open Go Go.Proofs
set_option maxRecDepth 1000000

section
variable {Q B K N R : List (List AV)} {rot : Bool} {take : Int} {stage at' : Int} {paused : Bool} {next : Int}

theorem same10_ok (h : StOk Q B K N R) : PureC Tryz.prog 10 [.agg (stA Q B rot take K N R stage at' paused next), .agg (stA Q B rot take K N R stage at' paused next)] (.lit (.bool true)) := by
  have := runD_ok mixed (effQ_ok (.cons sameReqsE_ok (.cons same28E_ok .nil))) Tryz.func10 (args := [.agg (stA Q B rot take K N R stage at' paused next), .agg (stA Q B rot take K N R stage at' paused next)]) (sc := decs 30 true) (v := .lit (.bool (next == next)))
    (obs := [Q = Q, RowsOf IsReq Q, true = true, true = true, true = true, true = true, true = true, B = B, RowsOf IsReq B,
      true = true, true = true, true = true, true = true, true = true, rot = rot, take = take, K = K, N = N, R = R, RowsOf IsKill K, RowsOf IsNd N, RowsOf IsRe R,
      true = true, true = true, true = true, true = true, true = true, (stage == stage) = true, true = true, true = true, true = true, true = true,
      (at' == at') = true, true = true, true = true, true = true, true = true, (paused == paused) = true, true = true, true = true, true = true, true = true]) (by kernel_rfl)
    (by simp only [AllP]; simp only [BEq.rfl, true_and]; exact ⟨h.q, h.b, h.k, h.n, h.r, trivial⟩)
  simpa using this

def run14 (stage : Int) (paused : Bool) (n : Int) : Bool := (decide (stage ≥ 1) && decide (stage ≤ 10)) || (decide (stage = 0) && !paused && decide (n > 0))

theorem nil_weak {E : Env} {n : Nat} {x : Value} (h : CRel E (.lit (.slice none 0 0)) x) : CRel E (.ro n [] false) x := by
  simp only [CRel] at h; subst h
  exact ⟨none, 0, rfl, by simp, fun _ => rfl, Nat.le_refl _, Nat.zero_le _, .inl rfl⟩

theorem run14_ok : PureC Tryz.prog 14 [.agg (stA Q B rot take K N R stage at' paused next)] (.lit (.bool (run14 stage paused Q.length))) := by
  by_cases h1 : stage ≥ 1
  · by_cases h2 : stage ≤ 10
    · have := runD_ok mixed (effQ_ok .nil) Tryz.func14 (args := [.agg (stA Q B rot take K N R stage at' paused next)]) (sc := decs 3 true ++ decs 4 true ++ decs 3 true) (v := .lit (.bool true)) (obs := [decide (stage ≥ 1) = true, true = true, true = true, decide (stage ≤ 10) = true, true = true, true = true, true = true, true = true, true = true, true = true]) (by kernel_rfl) (by simp only [AllP]; simp [h1, h2])
      simpa [run14, h1, h2] using this
    · have hz : ¬ stage = 0 := by omega
      have := runD_ok mixed (effQ_ok .nil) Tryz.func14 (args := [.agg (stA Q B rot take K N R stage at' paused next)]) (sc := decs 3 true ++ decs 4 false ++ decs 3 false ++ decs 2 false ++ decs 4 false ++ decs 1 false) (v := .lit (.bool false)) (obs := [decide (stage ≥ 1) = true, true = true, true = true, decide (stage ≤ 10) = false, false = false, false = false, false = false, (stage == 0) = false, false = false, false = false, false = false, false = false, false = false, false = false, false = false, false = false, false = false]) (by kernel_rfl) (by simp only [AllP]; simp [h1, h2, hz])

      simpa [run14, h1, h2, hz] using this
  · by_cases h0 : stage = 0
    · cases hp : paused
      · have := runD_ok mixed (effQ_ok .nil) Tryz.func14 (args := [.agg (stA Q B rot take K N R stage at' paused next)]) (sc := decs 3 false ++ decs 4 false ++ decs 3 true ++ decs 2 false ++ decs 4 true ++ decs 1 false) (v := .lit (.bool (decide ((Q.length : Int) > 0)))) (obs := [decide (stage ≥ 1) = false, false = false, false = false, false = false, false = false, false = false, false = false, (stage == 0) = true, true = true, true = true, false = false, false = false, (!paused) = true, true = true, true = true, true = true, false = false]) (by kernel_rfl) (by simp only [AllP]; simp [h0, hp])
        simpa [run14, h0, hp] using this
      · have := runD_ok mixed (effQ_ok .nil) Tryz.func14 (args := [.agg (stA Q B rot take K N R stage at' paused next)]) (sc := decs 3 false ++ decs 4 false ++ decs 3 true ++ decs 2 false ++ decs 4 false ++ decs 1 false) (v := .lit (.bool false)) (obs := [decide (stage ≥ 1) = false, false = false, false = false, false = false, false = false, false = false, false = false, (stage == 0) = true, true = true, true = true, false = false, false = false, (!paused) = false, false = false, false = false, false = false, false = false]) (by kernel_rfl) (by simp only [AllP]; simp [h0, hp])
        simpa [run14, h0, hp] using this
    · have := runD_ok mixed (effQ_ok .nil) Tryz.func14 (args := [.agg (stA Q B rot take K N R stage at' paused next)]) (sc := decs 3 false ++ decs 4 false ++ decs 3 false ++ decs 2 false ++ decs 4 false ++ decs 1 false) (v := .lit (.bool false)) (obs := [decide (stage ≥ 1) = false, false = false, false = false, false = false, false = false, false = false, false = false, (stage == 0) = false, false = false, false = false, false = false, false = false, false = false, false = false, false = false, false = false, false = false]) (by kernel_rfl) (by simp only [AllP]; simp [h1, h0])
      simpa [run14, h1, h0] using this

theorem run15_ok : PureC Tryz.prog 15 [.agg (stA Q B rot take K N R stage at' paused next)] (.lit (.bool (run14 stage paused Q.length))) := by
  by_cases h1 : stage ≥ 1
  · by_cases h2 : stage ≤ 10
    · have := runD_ok mixed (effQ_ok .nil) Tryz.func15 (args := [.agg (stA Q B rot take K N R stage at' paused next)]) (sc := decs 3 true ++ decs 4 true ++ decs 3 true) (v := .lit (.bool true)) (obs := [decide (stage ≥ 1) = true, true = true, true = true, decide (stage ≤ 10) = true, true = true, true = true, true = true, true = true, true = true, true = true]) (by kernel_rfl) (by simp only [AllP]; simp [h1, h2])
      simpa [run14, h1, h2] using this
    · have hz : ¬ stage = 0 := by omega
      have := runD_ok mixed (effQ_ok .nil) Tryz.func15 (args := [.agg (stA Q B rot take K N R stage at' paused next)]) (sc := decs 3 true ++ decs 4 false ++ decs 3 false ++ decs 2 false ++ decs 4 false ++ decs 1 false) (v := .lit (.bool false)) (obs := [decide (stage ≥ 1) = true, true = true, true = true, decide (stage ≤ 10) = false, false = false, false = false, false = false, (stage == 0) = false, false = false, false = false, false = false, false = false, false = false, false = false, false = false, false = false, false = false]) (by kernel_rfl) (by simp only [AllP]; simp [h1, h2, hz])

      simpa [run14, h1, h2, hz] using this
  · by_cases h0 : stage = 0
    · cases hp : paused
      · have := runD_ok mixed (effQ_ok .nil) Tryz.func15 (args := [.agg (stA Q B rot take K N R stage at' paused next)]) (sc := decs 3 false ++ decs 4 false ++ decs 3 true ++ decs 2 false ++ decs 4 true ++ decs 1 false) (v := .lit (.bool (decide ((Q.length : Int) > 0)))) (obs := [decide (stage ≥ 1) = false, false = false, false = false, false = false, false = false, false = false, false = false, (stage == 0) = true, true = true, true = true, false = false, false = false, (!paused) = true, true = true, true = true, true = true, false = false]) (by kernel_rfl) (by simp only [AllP]; simp [h0, hp])
        simpa [run14, h0, hp] using this
      · have := runD_ok mixed (effQ_ok .nil) Tryz.func15 (args := [.agg (stA Q B rot take K N R stage at' paused next)]) (sc := decs 3 false ++ decs 4 false ++ decs 3 true ++ decs 2 false ++ decs 4 false ++ decs 1 false) (v := .lit (.bool false)) (obs := [decide (stage ≥ 1) = false, false = false, false = false, false = false, false = false, false = false, false = false, (stage == 0) = true, true = true, true = true, false = false, false = false, (!paused) = false, false = false, false = false, false = false, false = false]) (by kernel_rfl) (by simp only [AllP]; simp [h0, hp])
        simpa [run14, h0, hp] using this
    · have := runD_ok mixed (effQ_ok .nil) Tryz.func15 (args := [.agg (stA Q B rot take K N R stage at' paused next)]) (sc := decs 3 false ++ decs 4 false ++ decs 3 false ++ decs 2 false ++ decs 4 false ++ decs 1 false) (v := .lit (.bool false)) (obs := [decide (stage ≥ 1) = false, false = false, false = false, false = false, false = false, false = false, false = false, (stage == 0) = false, false = false, false = false, false = false, false = false, false = false, false = false, false = false, false = false, false = false]) (by kernel_rfl) (by simp only [AllP]; simp [h1, h0])
      simpa [run14, h1, h0] using this

theorem new12_ok : PureC Tryz.prog 12 [] (.agg (stA [] [] false 0 [] [] [] 0 0 false 1)) := by
  have := runD_ok mixed (effQ_ok .nil) Tryz.func12 (args := []) (sc := []) (v := .agg [.lit (.slice none 0 0), .lit (.slice none 0 0), .lit (.bool false), .lit (.int .i64 0), .lit (.slice none 0 0), .lit (.slice none 0 0), .lit (.slice none 0 0), .lit (.int .i64 0), .lit (.int .i64 0), .lit (.bool false), .lit (.int .i64 1)]) (obs := []) (by kernel_rfl) trivial
  refine PureC.weak this fun E x hx => ?_
  obtain ⟨vs, hv, h⟩ := hx
  refine ⟨vs, hv, ?_⟩
  obtain ⟨v1, r1, e1, c1, v2, r2, e2, c2, v3, r3, e3, c3, v4, r4, e4, c4, v5, r5, e5, c5, v6, r6, e6, c6, v7, r7, e7, c7, rest⟩ := h
  exact ⟨v1, r1, e1, nil_weak c1, v2, r2, e2, nil_weak c2, v3, r3, e3, c3, v4, r4, e4, c4, v5, r5, e5, nil_weak c5, v6, r6, e6, nil_weak c6, v7, r7, e7, nil_weak c7, rest⟩

theorem new13_ok : PureC Tryz.prog 13 [] (.agg (stA [] [] false 0 [] [] [] 0 0 false 1)) := by
  have := runD_ok mixed (effQ_ok .nil) Tryz.func13 (args := []) (sc := []) (v := .agg [.lit (.slice none 0 0), .lit (.slice none 0 0), .lit (.bool false), .lit (.int .i64 0), .lit (.slice none 0 0), .lit (.slice none 0 0), .lit (.slice none 0 0), .lit (.int .i64 0), .lit (.int .i64 0), .lit (.bool false), .lit (.int .i64 1)]) (obs := []) (by kernel_rfl) trivial
  refine PureC.weak this fun E x hx => ?_
  obtain ⟨vs, hv, h⟩ := hx
  refine ⟨vs, hv, ?_⟩
  obtain ⟨v1, r1, e1, c1, v2, r2, e2, c2, v3, r3, e3, c3, v4, r4, e4, c4, v5, r5, e5, c5, v6, r6, e6, c6, v7, r7, e7, c7, rest⟩ := h
  exact ⟨v1, r1, e1, nil_weak c1, v2, r2, e2, nil_weak c2, v3, r3, e3, c3, v4, r4, e4, c4, v5, r5, e5, nil_weak c5, v6, r6, e6, nil_weak c6, v7, r7, e7, nil_weak c7, rest⟩
end
end Go.Am
end PartAqState2
