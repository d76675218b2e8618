/- AppenderQueues (16.1): the files AqLight, AqEntries, AqLaw, one after the other; each says ahead of its text what it shows and under which conditions. -/
import Derived.Test.YtklpgelalhnpcaaGreatDoorGiven
set_option linter.all false

section PartAqLight
/- light: it tells of every state whether it is light. -/
namespace Go.Am
open Go Go.Proofs
set_option maxRecDepth 1000000

/-- A loop that may return early: it does, or it comes to its end. -/
theorem CW.search {P : Program} {c : Code} {s se sr : St} {ex : Ex} (hex : ex ≠ .normal) (σ : Nat → St) (n : Nat) (h0 : σ 0 = s) (hr : ∀ i, i < n → CW P c (σ i) .normal (σ (i + 1)) ∨ CW P c (σ i) .ret sr) (he : CW P c (σ n) ex se) :
    CW P (.loop c) s .ret sr ∨ CW P (.loop c) s ex se := by
  by_cases h : ∀ i, i < n → CW P c (σ i) .normal (σ (i + 1))
  · exact .inr (CW.for hex σ n h0 h he)
  · have hex1 : ∃ i, i < n ∧ ¬ CW P c (σ i) .normal (σ (i + 1)) := by
      apply Classical.byContradiction
      intro hn
      exact h fun i hi => Classical.byContradiction fun hc => hn ⟨i, hi, hc⟩
    obtain ⟨m, ⟨hm, hc⟩, hmin⟩ : ∃ m, (m < n ∧ ¬ CW P c (σ m) .normal (σ (m + 1))) ∧ ∀ k, k < m → ¬ (k < n ∧ ¬ CW P c (σ k) .normal (σ (k + 1))) := by
      obtain ⟨i, hi⟩ := hex1
      induction i using Nat.strongRecOn with
      | _ i ih =>
        by_cases hk : ∃ k, k < i ∧ (k < n ∧ ¬ CW P c (σ k) .normal (σ (k + 1)))
        · obtain ⟨k, hki, hkk⟩ := hk; exact ih k hki hkk
        · exact ⟨i, hi, fun k hki hkk => hk ⟨k, hki, hkk⟩⟩
    refine .inl (CW.for (by simp) σ m h0 (fun i hi => ?_) ((hr m hm).resolve_left hc))
    exact Classical.byContradiction fun hcc => hmin i hi ⟨by omega, hcc⟩

section
variable {Q B K N R : List (List AV)} {rot : Bool} {take : Int} {stage at' : Int} {paused : Bool} {next : Int}

def L4 (Q B K N R : List (List AV)) (rot : Bool) (take stage at' : Int) (paused : Bool) (next : Int) : HL := [.box 0 (stA Q B rot take K N R stage at' paused next)]
def ret4 : List AV := anys 93 [(2, .lit (.bool false))]
def s4a (K : List (List AV)) (t : AV) : List AV := anys 93 [(1, .ptr 0 0 0 0), (44, .ro 2 K false), (45, .lit (.int .i64 K.length)), (46, t)]
def s4b (N : List (List AV)) (t : AV) : List AV := anys 93 [(1, .ptr 0 0 0 0), (57, .ro 4 N false), (58, .lit (.int .i64 N.length)), (59, t)]
def L4c (Q B K N R : List (List AV)) (rot : Bool) (take stage at' : Int) (paused : Bool) (next : Int) : HL := [.box 0 (stA Q B rot take K N R stage at' paused next), .arr 1 0 [[.ro 5 Q false], [.ro 5 B false]]]
def s4c (t : AV) : List AV := anys 93 [(1, .ptr 0 0 0 0), (72, .own 1 0 0 2 true), (73, .lit (.int .i64 2)), (74, t)]
def s4d (X : List (List AV)) (j : Int) (t : AV) : List AV := anys 93 [(1, .ptr 0 0 0 0), (72, .own 1 0 0 2 true), (73, .lit (.int .i64 2)), (74, .lit (.int .i64 j)), (78, .ro 5 X false), (79, .lit (.int .i64 X.length)), (80, t)]

theorem light_round0 (h : RowsOf IsKill K) {i : Nat} (hi : i < K.length) :
    CW Tryz.prog (loopAt Tryz.f4 0) (s4a K (.lit (.int .i64 i)), hof (L4 Q B K N R rot take stage at' paused next)) .normal (s4a K (.lit (.int .i64 (i + 1 : Nat))), hof (L4 Q B K N R rot take stage at' paused next)) ∨
    CW Tryz.prog (loopAt Tryz.f4 0) (s4a K (.lit (.int .i64 i)), hof (L4 Q B K N R rot take stage at' paused next)) .ret (ret4, hof (L4 Q B K N R rot take stage at' paused next)) := by
  obtain ⟨r, hr, g, ks, rfl, hk⟩ := h.get hi
  have hlen := h.len
  unfold BIG at hlen
  by_cases hc : (ks.length : Int) > 20
  · right
    exact cw_of_runN mixed (effQ_ok .nil) (sc := [.dec true, .el (klRow g ks), .dec true]) (m := maskOn 93 [2]) (n := 1)
      (obs := [decide ((i : Int) < (K.length : Int)) = true, 0 ≤ (i : Int) ∧ K[(i : Int).toNat]? = some (klRow g ks), decide ((ks.length : Int) > 20) = true]) (by kernel_rfl) (by simp only [AllP, Int.toNat_natCast, hr]; simp [hi, hc]) (by simp [L4]) rfl rfl
  · left
    have := cw_of_runN mixed (effQ_ok .nil) (c := loopAt Tryz.f4 0) (l := s4a K (.lit (.int .i64 i))) (L := L4 Q B K N R rot take stage at' paused next) (sc := [.dec true, .el (klRow g ks), .dec false]) (m := maskOn 93 [1, 44, 45, 46]) (n := 1)
      (ex := .normal) (l' := s4a K (.lit (.int .i64 (IntKind.i64.wrap (i + 1))))) (L' := L4 Q B K N R rot take stage at' paused next)
      (obs := [decide ((i : Int) < (K.length : Int)) = true, 0 ≤ (i : Int) ∧ K[(i : Int).toNat]? = some (klRow g ks), decide ((ks.length : Int) > 20) = false]) (by kernel_rfl) (by simp only [AllP, Int.toNat_natCast, hr]; simp [hi, hc]) (by simp [L4]) rfl rfl
    rw [wrap_succ (by omega)] at this
    exact this

theorem light_round1 (h : RowsOf IsNd N) {i : Nat} (hi : i < N.length) :
    CW Tryz.prog (loopAt Tryz.f4 1) (s4b N (.lit (.int .i64 i)), hof (L4 Q B K N R rot take stage at' paused next)) .normal (s4b N (.lit (.int .i64 (i + 1 : Nat))), hof (L4 Q B K N R rot take stage at' paused next)) ∨
    CW Tryz.prog (loopAt Tryz.f4 1) (s4b N (.lit (.int .i64 i)), hof (L4 Q B K N R rot take stage at' paused next)) .ret (ret4, hof (L4 Q B K N R rot take stage at' paused next)) := by
  obtain ⟨r, hr, key, c, d, bs, rfl, hk⟩ := h.get hi
  have hlen := h.len
  unfold BIG at hlen
  by_cases hc : (bs.length : Int) > 5000
  · right
    exact cw_of_runN mixed (effQ_ok .nil) (sc := [.dec true, .el (ndRow key c d bs), .dec true]) (m := maskOn 93 [2]) (n := 1)
      (obs := [decide ((i : Int) < (N.length : Int)) = true, 0 ≤ (i : Int) ∧ N[(i : Int).toNat]? = some (ndRow key c d bs), decide ((bs.length : Int) > 5000) = true]) (by kernel_rfl) (by simp only [AllP, Int.toNat_natCast, hr]; simp [hi, hc]) (by simp [L4]) rfl rfl
  · left
    have := cw_of_runN mixed (effQ_ok .nil) (c := loopAt Tryz.f4 1) (l := s4b N (.lit (.int .i64 i))) (L := L4 Q B K N R rot take stage at' paused next) (sc := [.dec true, .el (ndRow key c d bs), .dec false]) (m := maskOn 93 [1, 57, 58, 59]) (n := 1)
      (ex := .normal) (l' := s4b N (.lit (.int .i64 (IntKind.i64.wrap (i + 1))))) (L' := L4 Q B K N R rot take stage at' paused next)
      (obs := [decide ((i : Int) < (N.length : Int)) = true, 0 ≤ (i : Int) ∧ N[(i : Int).toNat]? = some (ndRow key c d bs), decide ((bs.length : Int) > 5000) = false]) (by kernel_rfl) (by simp only [AllP, Int.toNat_natCast, hr]; simp [hi, hc]) (by simp [L4]) rfl rfl
    rw [wrap_succ (by omega)] at this
    exact this

theorem light_round3 {X : List (List AV)} {j : Int} (h : RowsOf IsReq X) {i : Nat} (hi : i < X.length) :
    CW Tryz.prog (loopAt Tryz.f4 3) (s4d X j (.lit (.int .i64 i)), hof (L4c Q B K N R rot take stage at' paused next)) .normal (s4d X j (.lit (.int .i64 (i + 1 : Nat))), hof (L4c Q B K N R rot take stage at' paused next)) ∨
    CW Tryz.prog (loopAt Tryz.f4 3) (s4d X j (.lit (.int .i64 i)), hof (L4c Q B K N R rot take stage at' paused next)) .ret (ret4, hof (L4c Q B K N R rot take stage at' paused next)) := by
  obtain ⟨r, hr, t, k, key, c, bs, rfl, hb⟩ := h.get hi
  have hlen := h.len
  unfold BIG at hlen
  by_cases hc : (bs.length : Int) > 5000
  · right
    exact cw_of_runN mixed (effQ_ok .nil) (sc := [.dec true, .el (rqRow t k key c bs), .dec true]) (m := maskOn 93 [2]) (n := 2)
      (obs := [decide ((i : Int) < (X.length : Int)) = true, 0 ≤ (i : Int) ∧ X[(i : Int).toNat]? = some (rqRow t k key c bs), decide ((bs.length : Int) > 5000) = true]) (by kernel_rfl) (by simp only [AllP, Int.toNat_natCast, hr]; simp [hi, hc]) (by simp [L4c]) rfl rfl
  · left
    have := cw_of_runN mixed (effQ_ok .nil) (c := loopAt Tryz.f4 3) (l := s4d X j (.lit (.int .i64 i))) (L := L4c Q B K N R rot take stage at' paused next) (sc := [.dec true, .el (rqRow t k key c bs), .dec false]) (m := maskOn 93 [1, 72, 73, 74, 78, 79, 80]) (n := 2)
      (ex := .normal) (l' := s4d X j (.lit (.int .i64 (IntKind.i64.wrap (i + 1))))) (L' := L4c Q B K N R rot take stage at' paused next)
      (obs := [decide ((i : Int) < (X.length : Int)) = true, 0 ≤ (i : Int) ∧ X[(i : Int).toNat]? = some (rqRow t k key c bs), decide ((bs.length : Int) > 5000) = false]) (by kernel_rfl) (by simp only [AllP, Int.toNat_natCast, hr]; simp [hi, hc]) (by simp [L4c]) rfl rfl
    rw [wrap_succ (by omega)] at this
    exact this

def maskS (n : Nat) (ks : List Nat) : Sc := .av (.tup ((List.range n).map fun i => if ks.contains i then .lit undef else .any))

theorem light_inner {X : List (List AV)} {j : Int} (h : RowsOf IsReq X) :
    CW Tryz.prog (.loop (loopAt Tryz.f4 3)) (s4d X j (.lit (.int .i64 0)), hof (L4c Q B K N R rot take stage at' paused next)) .ret (ret4, hof (L4c Q B K N R rot take stage at' paused next)) ∨
    CW Tryz.prog (.loop (loopAt Tryz.f4 3)) (s4d X j (.lit (.int .i64 0)), hof (L4c Q B K N R rot take stage at' paused next)) (.exit 6) (s4d X j .any, hof (L4c Q B K N R rot take stage at' paused next)) :=
  CW.search (by simp) (fun i => (s4d X j (.lit (.int .i64 i)), hof (L4c Q B K N R rot take stage at' paused next))) X.length rfl (fun i hi => light_round3 h hi)
    (cw_of_runN mixed (effQ_ok .nil) (sc := [.dec false]) (m := maskOn 93 [1, 72, 73, 74, 78, 79]) (n := 2) (obs := [decide ((X.length : Int) < (X.length : Int)) = false]) (by kernel_rfl) ⟨by simp, trivial⟩ (by simp [L4c]) rfl rfl)

theorem light_round2 (hQ : RowsOf IsReq Q) (hB : RowsOf IsReq B) {i : Nat} (hi : i < 2) :
    CW Tryz.prog (loopAt Tryz.f4 2) (s4c (.lit (.int .i64 i)), hof (L4c Q B K N R rot take stage at' paused next)) .normal (s4c (.lit (.int .i64 (i + 1 : Nat))), hof (L4c Q B K N R rot take stage at' paused next)) ∨
    CW Tryz.prog (loopAt Tryz.f4 2) (s4c (.lit (.int .i64 i)), hof (L4c Q B K N R rot take stage at' paused next)) .ret (ret4, hof (L4c Q B K N R rot take stage at' paused next)) := by
  match i, hi with
  | 0, _ =>
    rcases light_inner (Q := Q) (B := B) (K := K) (N := N) (R := R) (rot := rot) (take := take) (stage := stage) (at' := at') (paused := paused) (next := next) (j := 0) hQ with h | h
    · right
      exact cw_of_runN mixed (effQ_ok .nil) (sc := [.dec true, .el [.ro 5 Q false], maskS 93 [1, 72, 73, 74, 78, 79, 80], .lp .ret ret4 (L4c Q B K N R rot take stage at' paused next)]) (m := maskOn 93 [2]) (n := 2)
        (obs := [true = true, (0 : Int) ≤ 0 ∧ (0 : Int) < 2, ([[.ro 5 Q false], [.ro 5 B false]] : List (List AV))[0 + 0]? = some [.ro 5 Q false],
          CW Tryz.prog (.loop (loopAt Tryz.f4 3)) (s4d Q 0 (.lit (.int .i64 0)), hof (L4c Q B K N R rot take stage at' paused next)) .ret (ret4, hof (L4c Q B K N R rot take stage at' paused next))]) (by kernel_rfl)
        ⟨rfl, by decide, rfl, h, trivial⟩ (by simp [L4c]) rfl rfl
    · left
      exact cw_of_runN mixed (effQ_ok .nil) (sc := [.dec true, .el [.ro 5 Q false], maskS 93 [1, 72, 73, 74, 78, 79, 80], .lp (.exit 6) (s4d Q 0 .any) (L4c Q B K N R rot take stage at' paused next)]) (m := maskOn 93 [1, 72, 73, 74]) (n := 2)
        (obs := [true = true, (0 : Int) ≤ 0 ∧ (0 : Int) < 2, ([[.ro 5 Q false], [.ro 5 B false]] : List (List AV))[0 + 0]? = some [.ro 5 Q false],
          CW Tryz.prog (.loop (loopAt Tryz.f4 3)) (s4d Q 0 (.lit (.int .i64 0)), hof (L4c Q B K N R rot take stage at' paused next)) (.exit 6) (s4d Q 0 .any, hof (L4c Q B K N R rot take stage at' paused next))]) (by kernel_rfl)
        ⟨rfl, by decide, rfl, h, trivial⟩ (by simp [L4c]) rfl rfl
  | 1, _ =>
    rcases light_inner (Q := Q) (B := B) (K := K) (N := N) (R := R) (rot := rot) (take := take) (stage := stage) (at' := at') (paused := paused) (next := next) (j := 1) hB with h | h
    · right
      exact cw_of_runN mixed (effQ_ok .nil) (sc := [.dec true, .el [.ro 5 B false], maskS 93 [1, 72, 73, 74, 78, 79, 80], .lp .ret ret4 (L4c Q B K N R rot take stage at' paused next)]) (m := maskOn 93 [2]) (n := 2)
        (obs := [true = true, (0 : Int) ≤ 1 ∧ (1 : Int) < 2, ([[.ro 5 Q false], [.ro 5 B false]] : List (List AV))[0 + 1]? = some [.ro 5 B false],
          CW Tryz.prog (.loop (loopAt Tryz.f4 3)) (s4d B 1 (.lit (.int .i64 0)), hof (L4c Q B K N R rot take stage at' paused next)) .ret (ret4, hof (L4c Q B K N R rot take stage at' paused next))]) (by kernel_rfl)
        ⟨rfl, by decide, rfl, h, trivial⟩ (by simp [L4c]) rfl rfl
    · left
      exact cw_of_runN mixed (effQ_ok .nil) (sc := [.dec true, .el [.ro 5 B false], maskS 93 [1, 72, 73, 74, 78, 79, 80], .lp (.exit 6) (s4d B 1 .any) (L4c Q B K N R rot take stage at' paused next)]) (m := maskOn 93 [1, 72, 73, 74]) (n := 2)
        (obs := [true = true, (0 : Int) ≤ 1 ∧ (1 : Int) < 2, ([[.ro 5 Q false], [.ro 5 B false]] : List (List AV))[0 + 1]? = some [.ro 5 B false],
          CW Tryz.prog (.loop (loopAt Tryz.f4 3)) (s4d B 1 (.lit (.int .i64 0)), hof (L4c Q B K N R rot take stage at' paused next)) (.exit 6) (s4d B 1 .any, hof (L4c Q B K N R rot take stage at' paused next))]) (by kernel_rfl)
        ⟨rfl, by decide, rfl, h, trivial⟩ (by simp [L4c]) rfl rfl

theorem light_outer (hQ : RowsOf IsReq Q) (hB : RowsOf IsReq B) :
    CW Tryz.prog (.loop (loopAt Tryz.f4 2)) (s4c (.lit (.int .i64 0)), hof (L4c Q B K N R rot take stage at' paused next)) .ret (ret4, hof (L4c Q B K N R rot take stage at' paused next)) ∨
    CW Tryz.prog (.loop (loopAt Tryz.f4 2)) (s4c (.lit (.int .i64 0)), hof (L4c Q B K N R rot take stage at' paused next)) (.exit 4) (s4c .any, hof (L4c Q B K N R rot take stage at' paused next)) :=
  CW.search (by simp) (fun i => (s4c (.lit (.int .i64 i)), hof (L4c Q B K N R rot take stage at' paused next))) 2 rfl (fun i hi => light_round2 hQ hB hi)
    (cw_of_runN mixed (effQ_ok .nil) (sc := [.dec false]) (m := maskOn 93 [1, 72, 73]) (n := 2) (obs := [false = false]) (by kernel_rfl) ⟨rfl, trivial⟩ (by simp [L4c]) rfl rfl)

theorem light_loop0 (h : RowsOf IsKill K) :
    CW Tryz.prog (.loop (loopAt Tryz.f4 0)) (s4a K (.lit (.int .i64 0)), hof (L4 Q B K N R rot take stage at' paused next)) .ret (ret4, hof (L4 Q B K N R rot take stage at' paused next)) ∨
    CW Tryz.prog (.loop (loopAt Tryz.f4 0)) (s4a K (.lit (.int .i64 0)), hof (L4 Q B K N R rot take stage at' paused next)) (.exit 0) (s4a K .any, hof (L4 Q B K N R rot take stage at' paused next)) :=
  CW.search (by simp) (fun i => (s4a K (.lit (.int .i64 i)), hof (L4 Q B K N R rot take stage at' paused next))) K.length rfl (fun i hi => light_round0 h hi)
    (cw_of_runN mixed (effQ_ok .nil) (sc := [.dec false]) (m := maskOn 93 [1, 44, 45]) (n := 1) (obs := [decide ((K.length : Int) < (K.length : Int)) = false]) (by kernel_rfl) ⟨by simp, trivial⟩ (by simp [L4]) rfl rfl)

theorem light_loop1 (h : RowsOf IsNd N) :
    CW Tryz.prog (.loop (loopAt Tryz.f4 1)) (s4b N (.lit (.int .i64 0)), hof (L4 Q B K N R rot take stage at' paused next)) .ret (ret4, hof (L4 Q B K N R rot take stage at' paused next)) ∨
    CW Tryz.prog (.loop (loopAt Tryz.f4 1)) (s4b N (.lit (.int .i64 0)), hof (L4 Q B K N R rot take stage at' paused next)) (.exit 2) (s4b N .any, hof (L4 Q B K N R rot take stage at' paused next)) :=
  CW.search (by simp) (fun i => (s4b N (.lit (.int .i64 i)), hof (L4 Q B K N R rot take stage at' paused next))) N.length rfl (fun i hi => light_round1 h hi)
    (cw_of_runN mixed (effQ_ok .nil) (sc := [.dec false]) (m := maskOn 93 [1, 57, 58]) (n := 1) (obs := [decide ((N.length : Int) < (N.length : Int)) = false]) (by kernel_rfl) ⟨by simp, trivial⟩ (by simp [L4]) rfl rfl)

/-- What the first test owes. -/
def tst4 (a b c d e : Prop) (p q r s : Prop) : List Prop := [a, p, p, p, b, q, q, q, q, c, r, r, r, r, d, s, s, s, s, e]

theorem light_ok (h : StOk Q B K N R) : ∃ b, PureC Tryz.prog 4 [.agg (stA Q B rot take K N R stage at' paused next)] (.lit (.bool b)) := by
  by_cases c1 : (Q.length : Int) > 20
  · exact ⟨false, runD_ok mixed (effQ_ok .nil) Tryz.func4 (sc := decs 19 true ++ [.dec true]) (obs := tst4 (decide ((Q.length : Int) > 20) = true) (true = true) (true = true) (true = true) (true = true) (true = true) (true = true) (true = true) (true = true)) (by kernel_rfl) (by simp [tst4, AllP, c1])⟩
  by_cases c2 : (B.length : Int) > 20
  · exact ⟨false, runD_ok mixed (effQ_ok .nil) Tryz.func4 (sc := decs 4 false ++ decs 15 true ++ [.dec true]) (obs := tst4 (decide ((Q.length : Int) > 20) = false) (decide ((B.length : Int) > 20) = true) (true = true) (true = true) (true = true) (false = false) (true = true) (true = true) (true = true)) (by kernel_rfl) (by simp [tst4, AllP, c1, c2])⟩
  by_cases c3 : (K.length : Int) > 8
  · exact ⟨false, runD_ok mixed (effQ_ok .nil) Tryz.func4 (sc := decs 9 false ++ decs 10 true ++ [.dec true]) (obs := tst4 (decide ((Q.length : Int) > 20) = false) (decide ((B.length : Int) > 20) = false) (decide ((K.length : Int) > 8) = true) (true = true) (true = true) (false = false) (false = false) (true = true) (true = true)) (by kernel_rfl) (by simp [tst4, AllP, c1, c2, c3])⟩
  by_cases c4 : (N.length : Int) > 8
  · exact ⟨false, runD_ok mixed (effQ_ok .nil) Tryz.func4 (sc := decs 14 false ++ decs 5 true ++ [.dec true]) (obs := tst4 (decide ((Q.length : Int) > 20) = false) (decide ((B.length : Int) > 20) = false) (decide ((K.length : Int) > 8) = false) (decide ((N.length : Int) > 8) = true) (true = true) (false = false) (false = false) (false = false) (true = true)) (by kernel_rfl) (by simp [tst4, AllP, c1, c2, c3, c4])⟩
  by_cases c5 : (R.length : Int) > 20
  · exact ⟨false, runD_ok mixed (effQ_ok .nil) Tryz.func4 (sc := decs 19 false ++ [.dec true]) (obs := tst4 (decide ((Q.length : Int) > 20) = false) (decide ((B.length : Int) > 20) = false) (decide ((K.length : Int) > 8) = false) (decide ((N.length : Int) > 8) = false) (decide ((R.length : Int) > 20) = true) (false = false) (false = false) (false = false) (false = false)) (by kernel_rfl) (by simp [tst4, AllP, c1, c2, c3, c4, c5])⟩
  have t0 : AllP (tst4 (decide ((Q.length : Int) > 20) = false) (decide ((B.length : Int) > 20) = false) (decide ((K.length : Int) > 8) = false) (decide ((N.length : Int) > 8) = false) (decide ((R.length : Int) > 20) = false) (false = false) (false = false) (false = false) (false = false)) := by simp [tst4, AllP, c1, c2, c3, c4, c5]
  have app : ∀ {a b : List Prop}, AllP a → AllP b → AllP (a ++ b) := by
    intro a
    induction a with
    | nil => intro b _ h; exact h
    | cons p r ih => intro b h1 h2; exact ⟨h1.1, ih h1.2 h2⟩
  rcases light_loop0 (Q := Q) (B := B) (N := N) (R := R) (rot := rot) (take := take) (stage := stage) (at' := at') (paused := paused) (next := next) h.k with l0 | l0
  · exact ⟨false, runD_ok mixed (effQ_ok .nil) Tryz.func4 (sc := decs 19 false ++ [.dec false, maskS 93 [1, 44, 45, 46], .lp .ret ret4 (L4 Q B K N R rot take stage at' paused next)]) (obs := tst4 (decide ((Q.length : Int) > 20) = false) (decide ((B.length : Int) > 20) = false) (decide ((K.length : Int) > 8) = false) (decide ((N.length : Int) > 8) = false) (decide ((R.length : Int) > 20) = false) (false = false) (false = false) (false = false) (false = false) ++
      [CW Tryz.prog (.loop (loopAt Tryz.f4 0)) (s4a K (.lit (.int .i64 0)), hof (L4 Q B K N R rot take stage at' paused next)) .ret (ret4, hof (L4 Q B K N R rot take stage at' paused next))]) (by kernel_rfl) (app t0 ⟨l0, trivial⟩)⟩
  rcases light_loop1 (Q := Q) (B := B) (K := K) (R := R) (rot := rot) (take := take) (stage := stage) (at' := at') (paused := paused) (next := next) h.n with l1 | l1
  · exact ⟨false, runD_ok mixed (effQ_ok .nil) Tryz.func4 (sc := decs 19 false ++ [.dec false, maskS 93 [1, 44, 45, 46], .lp (.exit 0) (s4a K .any) (L4 Q B K N R rot take stage at' paused next), maskS 93 [1, 57, 58, 59], .lp .ret ret4 (L4 Q B K N R rot take stage at' paused next)]) (obs := tst4 (decide ((Q.length : Int) > 20) = false) (decide ((B.length : Int) > 20) = false) (decide ((K.length : Int) > 8) = false) (decide ((N.length : Int) > 8) = false) (decide ((R.length : Int) > 20) = false) (false = false) (false = false) (false = false) (false = false) ++
      [CW Tryz.prog (.loop (loopAt Tryz.f4 0)) (s4a K (.lit (.int .i64 0)), hof (L4 Q B K N R rot take stage at' paused next)) (.exit 0) (s4a K .any, hof (L4 Q B K N R rot take stage at' paused next)),
       CW Tryz.prog (.loop (loopAt Tryz.f4 1)) (s4b N (.lit (.int .i64 0)), hof (L4 Q B K N R rot take stage at' paused next)) .ret (ret4, hof (L4 Q B K N R rot take stage at' paused next))]) (by kernel_rfl) (app t0 ⟨l0, l1, trivial⟩)⟩
  rcases light_outer (Q := Q) (B := B) (K := K) (N := N) (R := R) (rot := rot) (take := take) (stage := stage) (at' := at') (paused := paused) (next := next) h.q h.b with l2 | l2
  · exact ⟨false, runD_ok mixed (effQ_ok .nil) Tryz.func4 (sc := decs 19 false ++ [.dec false, maskS 93 [1, 44, 45, 46], .lp (.exit 0) (s4a K .any) (L4 Q B K N R rot take stage at' paused next), maskS 93 [1, 57, 58, 59], .lp (.exit 2) (s4b N .any) (L4 Q B K N R rot take stage at' paused next), maskS 93 [1, 72, 73, 74], .lp .ret ret4 (L4c Q B K N R rot take stage at' paused next)]) (obs := tst4 (decide ((Q.length : Int) > 20) = false) (decide ((B.length : Int) > 20) = false) (decide ((K.length : Int) > 8) = false) (decide ((N.length : Int) > 8) = false) (decide ((R.length : Int) > 20) = false) (false = false) (false = false) (false = false) (false = false) ++
      [CW Tryz.prog (.loop (loopAt Tryz.f4 0)) (s4a K (.lit (.int .i64 0)), hof (L4 Q B K N R rot take stage at' paused next)) (.exit 0) (s4a K .any, hof (L4 Q B K N R rot take stage at' paused next)),
       CW Tryz.prog (.loop (loopAt Tryz.f4 1)) (s4b N (.lit (.int .i64 0)), hof (L4 Q B K N R rot take stage at' paused next)) (.exit 2) (s4b N .any, hof (L4 Q B K N R rot take stage at' paused next)),
       CW Tryz.prog (.loop (loopAt Tryz.f4 2)) (s4c (.lit (.int .i64 0)), hof (L4c Q B K N R rot take stage at' paused next)) .ret (ret4, hof (L4c Q B K N R rot take stage at' paused next))]) (by kernel_rfl) (app t0 ⟨l0, l1, l2, trivial⟩)⟩
  · exact ⟨decide (next < 4611686018427387904), runD_ok mixed (effQ_ok .nil) Tryz.func4 (sc := decs 19 false ++ [.dec false, maskS 93 [1, 44, 45, 46], .lp (.exit 0) (s4a K .any) (L4 Q B K N R rot take stage at' paused next), maskS 93 [1, 57, 58, 59], .lp (.exit 2) (s4b N .any) (L4 Q B K N R rot take stage at' paused next), maskS 93 [1, 72, 73, 74], .lp (.exit 4) (s4c .any) (L4c Q B K N R rot take stage at' paused next)]) (obs := tst4 (decide ((Q.length : Int) > 20) = false) (decide ((B.length : Int) > 20) = false) (decide ((K.length : Int) > 8) = false) (decide ((N.length : Int) > 8) = false) (decide ((R.length : Int) > 20) = false) (false = false) (false = false) (false = false) (false = false) ++
      [CW Tryz.prog (.loop (loopAt Tryz.f4 0)) (s4a K (.lit (.int .i64 0)), hof (L4 Q B K N R rot take stage at' paused next)) (.exit 0) (s4a K .any, hof (L4 Q B K N R rot take stage at' paused next)),
       CW Tryz.prog (.loop (loopAt Tryz.f4 1)) (s4b N (.lit (.int .i64 0)), hof (L4 Q B K N R rot take stage at' paused next)) (.exit 2) (s4b N .any, hof (L4 Q B K N R rot take stage at' paused next)),
       CW Tryz.prog (.loop (loopAt Tryz.f4 2)) (s4c (.lit (.int .i64 0)), hof (L4c Q B K N R rot take stage at' paused next)) (.exit 4) (s4c .any, hof (L4c Q B K N R rot take stage at' paused next))]) (by kernel_rfl) (app t0 ⟨l0, l1, l2, trivial⟩)⟩

end
end Go.Am
end PartAqLight

section PartAqEntries
/- The contracts of this seat's functions on states, as entries: printed by program (wip/gen/entries.py). -/
namespace Go.Am
open Go Go.Proofs
set_option maxRecDepth 1000000

def submitE : SEnt := ⟨6, fun
  | [.agg [.ro 5 Q false, .ro 5 B false, .lit (.bool rot), .lit (.int .i64 take), .ro 2 K false, .ro 4 N false, .ro 1 R false, .lit (.int .i64 stage), .lit (.int .i64 at'), .lit (.bool paused), .lit (.int .i64 next)], .agg [.lit (.int .i64 t), .lit (.int .i64 k), .lit (.int .u64 key), .lit (.int .u32 c), .ro 1 bs false]] => some ((.tup [.agg (stA (subQ Q next k key c bs) B rot take K N R stage at' paused (IntKind.i64.wrap (next + 1))), .lit (.int .i64 next)] : AV), [], [StOk Q B K N R, Q.length < BIG, IsBs bs])
  | _ => none⟩
theorem submitE_ok : submitE.Ok Tryz.prog := by
  intro az v Bs obs hgo ho
  simp only [submitE] at hgo
  split at hgo <;> try (simp at hgo; done)
  rename_i Q B rot take K N R stage at' paused next t k key c bs
  simp only [Option.some.injEq, Prod.mk.injEq] at hgo; obtain ⟨rfl, rfl, rfl⟩ := hgo
  refine ⟨?_, rfl, by simp⟩
  rw [hof_nil]
  have h := ho
  simp only [List.mem_cons, List.mem_nil_iff, or_false, forall_eq_or_imp, forall_eq] at h
  exact submit_ok h.1 h.2.1 h.2.2

def rsubmitE : SEnt := ⟨9, fun
  | [.agg [.ro 5 Q false, .ro 5 B false, .lit (.bool rot), .lit (.int .i64 take), .ro 2 K false, .ro 4 N false, .ro 1 R false, .lit (.int .i64 stage), .lit (.int .i64 at'), .lit (.bool paused), .lit (.int .i64 next)], .agg [.lit (.int .i64 t), .lit (.int .i64 k), .lit (.int .u64 key), .lit (.int .u32 c), .ro 1 bs false]] => some ((.tup [.agg (stA (subQ Q next k key c bs) B rot take K N R stage at' paused (IntKind.i64.wrap (next + 1))), .lit (.int .i64 next)] : AV), [], [StOk Q B K N R, Q.length < BIG, IsBs bs])
  | _ => none⟩
theorem rsubmitE_ok : rsubmitE.Ok Tryz.prog := by
  intro az v Bs obs hgo ho
  simp only [rsubmitE] at hgo
  split at hgo <;> try (simp at hgo; done)
  rename_i Q B rot take K N R stage at' paused next t k key c bs
  simp only [Option.some.injEq, Prod.mk.injEq] at hgo; obtain ⟨rfl, rfl, rfl⟩ := hgo
  refine ⟨?_, rfl, by simp⟩
  rw [hof_nil]
  have h := ho
  simp only [List.mem_cons, List.mem_nil_iff, or_false, forall_eq_or_imp, forall_eq] at h
  exact rsubmit_ok h.1 h.2.1 h.2.2

def pauseE : SEnt := ⟨16, fun
  | [.agg [.ro 5 Q false, .ro 5 B false, .lit (.bool rot), .lit (.int .i64 take), .ro 2 K false, .ro 4 N false, .ro 1 R false, .lit (.int .i64 stage), .lit (.int .i64 at'), .lit (.bool paused), .lit (.int .i64 next)]] => some ((.agg (stA Q B rot take K N R stage at' true next) : AV), [], [StOk Q B K N R])
  | _ => none⟩
theorem pauseE_ok : pauseE.Ok Tryz.prog := by
  intro az v Bs obs hgo ho
  simp only [pauseE] at hgo
  split at hgo <;> try (simp at hgo; done)
  rename_i Q B rot take K N R stage at' paused next
  simp only [Option.some.injEq, Prod.mk.injEq] at hgo; obtain ⟨rfl, rfl, rfl⟩ := hgo
  refine ⟨?_, rfl, by simp⟩
  rw [hof_nil]
  have h := ho _ (List.mem_singleton.2 rfl)
  exact pause_ok h

def resumeE : SEnt := ⟨18, fun
  | [.agg [.ro 5 Q false, .ro 5 B false, .lit (.bool rot), .lit (.int .i64 take), .ro 2 K false, .ro 4 N false, .ro 1 R false, .lit (.int .i64 stage), .lit (.int .i64 at'), .lit (.bool paused), .lit (.int .i64 next)]] => some ((.agg (stA Q B rot take K N R stage at' false next) : AV), [], [StOk Q B K N R])
  | _ => none⟩
theorem resumeE_ok : resumeE.Ok Tryz.prog := by
  intro az v Bs obs hgo ho
  simp only [resumeE] at hgo
  split at hgo <;> try (simp at hgo; done)
  rename_i Q B rot take K N R stage at' paused next
  simp only [Option.some.injEq, Prod.mk.injEq] at hgo; obtain ⟨rfl, rfl, rfl⟩ := hgo
  refine ⟨?_, rfl, by simp⟩
  rw [hof_nil]
  have h := ho _ (List.mem_singleton.2 rfl)
  exact resume_ok h

def rpauseE : SEnt := ⟨17, fun
  | [.agg [.ro 5 Q false, .ro 5 B false, .lit (.bool rot), .lit (.int .i64 take), .ro 2 K false, .ro 4 N false, .ro 1 R false, .lit (.int .i64 stage), .lit (.int .i64 at'), .lit (.bool paused), .lit (.int .i64 next)]] => some ((.agg (stA Q B rot take K N R stage at' true next) : AV), [], [])
  | _ => none⟩
theorem rpauseE_ok : rpauseE.Ok Tryz.prog := by
  intro az v Bs obs hgo ho
  simp only [rpauseE] at hgo
  split at hgo <;> try (simp at hgo; done)
  rename_i Q B rot take K N R stage at' paused next
  simp only [Option.some.injEq, Prod.mk.injEq] at hgo; obtain ⟨rfl, rfl, rfl⟩ := hgo
  refine ⟨?_, rfl, by simp⟩
  rw [hof_nil]
  exact rpause_ok

def rresumeE : SEnt := ⟨19, fun
  | [.agg [.ro 5 Q false, .ro 5 B false, .lit (.bool rot), .lit (.int .i64 take), .ro 2 K false, .ro 4 N false, .ro 1 R false, .lit (.int .i64 stage), .lit (.int .i64 at'), .lit (.bool paused), .lit (.int .i64 next)]] => some ((.agg (stA Q B rot take K N R stage at' false next) : AV), [], [])
  | _ => none⟩
theorem rresumeE_ok : rresumeE.Ok Tryz.prog := by
  intro az v Bs obs hgo ho
  simp only [rresumeE] at hgo
  split at hgo <;> try (simp at hgo; done)
  rename_i Q B rot take K N R stage at' paused next
  simp only [Option.some.injEq, Prod.mk.injEq] at hgo; obtain ⟨rfl, rfl, rfl⟩ := hgo
  refine ⟨?_, rfl, by simp⟩
  rw [hof_nil]
  exact rresume_ok

def run14E : SEnt := ⟨14, fun
  | [.agg [.ro 5 Q false, .ro 5 B false, .lit (.bool rot), .lit (.int .i64 take), .ro 2 K false, .ro 4 N false, .ro 1 R false, .lit (.int .i64 stage), .lit (.int .i64 at'), .lit (.bool paused), .lit (.int .i64 next)]] => some ((.lit (.bool (run14 stage paused Q.length)) : AV), [], [])
  | _ => none⟩
theorem run14E_ok : run14E.Ok Tryz.prog := by
  intro az v Bs obs hgo ho
  simp only [run14E] at hgo
  split at hgo <;> try (simp at hgo; done)
  rename_i Q B rot take K N R stage at' paused next
  simp only [Option.some.injEq, Prod.mk.injEq] at hgo; obtain ⟨rfl, rfl, rfl⟩ := hgo
  refine ⟨?_, rfl, by simp⟩
  rw [hof_nil]
  exact run14_ok

def run15E : SEnt := ⟨15, fun
  | [.agg [.ro 5 Q false, .ro 5 B false, .lit (.bool rot), .lit (.int .i64 take), .ro 2 K false, .ro 4 N false, .ro 1 R false, .lit (.int .i64 stage), .lit (.int .i64 at'), .lit (.bool paused), .lit (.int .i64 next)]] => some ((.lit (.bool (run14 stage paused Q.length)) : AV), [], [])
  | _ => none⟩
theorem run15E_ok : run15E.Ok Tryz.prog := by
  intro az v Bs obs hgo ho
  simp only [run15E] at hgo
  split at hgo <;> try (simp at hgo; done)
  rename_i Q B rot take K N R stage at' paused next
  simp only [Option.some.injEq, Prod.mk.injEq] at hgo; obtain ⟨rfl, rfl, rfl⟩ := hgo
  refine ⟨?_, rfl, by simp⟩
  rw [hof_nil]
  exact run15_ok

def sameStE : SEnt := ⟨10, fun
  | [.agg [.ro 5 Q false, .ro 5 B false, .lit (.bool rot), .lit (.int .i64 take), .ro 2 K false, .ro 4 N false, .ro 1 R false, .lit (.int .i64 stage), .lit (.int .i64 at'), .lit (.bool paused), .lit (.int .i64 next)], .agg [.ro 5 Q' false, .ro 5 B' false, .lit (.bool rot'), .lit (.int .i64 take'), .ro 2 K' false, .ro 4 N' false, .ro 1 R' false, .lit (.int .i64 stage'), .lit (.int .i64 at''), .lit (.bool paused'), .lit (.int .i64 next')]] => some ((.lit (.bool true) : AV), [], [Q = Q', B = B', rot = rot', take = take', K = K', N = N', R = R', stage = stage', at' = at'', paused = paused', next = next', StOk Q B K N R])
  | _ => none⟩
theorem sameStE_ok : sameStE.Ok Tryz.prog := by
  intro az v Bs obs hgo ho
  simp only [sameStE] at hgo
  split at hgo <;> try (simp at hgo; done)
  rename_i Q B rot take K N R stage at' paused next Q' B' rot' take' K' N' R' stage' at'' paused' next'
  simp only [Option.some.injEq, Prod.mk.injEq] at hgo; obtain ⟨rfl, rfl, rfl⟩ := hgo
  refine ⟨?_, rfl, by simp⟩
  rw [hof_nil]
  have h := ho
  simp only [List.mem_cons, List.mem_nil_iff, or_false, forall_eq_or_imp, forall_eq] at h
  obtain ⟨rfl, rfl, rfl, rfl, rfl, rfl, rfl, rfl, rfl, rfl, rfl, h⟩ := h
  exact same10_ok h

def new12E : SEnt := ⟨12, fun
  | [] => some (.agg (stA [] [] false 0 [] [] [] 0 0 false 1), [], [])
  | _ => none⟩
theorem new12E_ok : new12E.Ok Tryz.prog := by
  intro az v Bs obs hgo ho
  simp only [new12E] at hgo
  split at hgo <;> try (simp at hgo; done)
  simp only [Option.some.injEq, Prod.mk.injEq] at hgo; obtain ⟨rfl, rfl, rfl⟩ := hgo
  exact ⟨by rw [hof_nil]; exact new12_ok, rfl, by simp⟩

def new13E : SEnt := ⟨13, fun
  | [] => some (.agg (stA [] [] false 0 [] [] [] 0 0 false 1), [], [])
  | _ => none⟩
theorem new13E_ok : new13E.Ok Tryz.prog := by
  intro az v Bs obs hgo ho
  simp only [new13E] at hgo
  split at hgo <;> try (simp at hgo; done)
  simp only [Option.some.injEq, Prod.mk.injEq] at hgo; obtain ⟨rfl, rfl, rfl⟩ := hgo
  exact ⟨by rw [hof_nil]; exact new13_ok, rfl, by simp⟩

def awakeE : SEnt := ⟨5, fun
  | [] => some (.lit (.bool true), [], [])
  | _ => none⟩
theorem awakeE_ok : awakeE.Ok Tryz.prog := by
  intro az v Bs obs hgo ho
  simp only [awakeE] at hgo
  split at hgo <;> try (simp at hgo; done)
  simp only [Option.some.injEq, Prod.mk.injEq] at hgo; obtain ⟨rfl, rfl, rfl⟩ := hgo
  refine ⟨?_, rfl, by simp⟩
  have := k203
  unfold Ent.Ok e203 at this
  rw [← hof_nil]; exact this

/-- What light tells of one state. -/
def lightE (st : List AV) (b : Bool) : SEnt := ⟨4, fun az => some (.lit (.bool b), [], [az = [.agg st]])⟩
theorem lightE_ok {st : List AV} {b : Bool} (h : PureC Tryz.prog 4 [.agg st] (.lit (.bool b))) : (lightE st b).Ok Tryz.prog := by
  intro az v Bs obs hgo ho
  simp only [lightE, Option.some.injEq, Prod.mk.injEq] at hgo; obtain ⟨rfl, rfl, rfl⟩ := hgo
  refine ⟨?_, rfl, by simp⟩
  rw [hof_nil, ho _ (List.mem_singleton.2 rfl)]
  exact h
end Go.Am
end PartAqEntries

section PartAqLaw
/- AppenderQueues itself: it returns true. -/
namespace Go.Am
open Go Go.Proofs
set_option maxRecDepth 1000000

theorem RowsOf.nil {p : List AV → Prop} : RowsOf p [] := ⟨by simp, Nat.zero_le _⟩
theorem StOk.nil : StOk [] [] [] [] [] := ⟨.nil, .nil, .nil, .nil, .nil⟩

section
variable {Q B K N R : List (List AV)} {rot : Bool} {take : Int} {stage at' : Int} {paused : Bool} {next : Int} {t k key c : Int} {bs : List (List AV)}

theorem StOk.sub (h : StOk Q B K N R) (hq : Q.length < BIG) (hb : IsBs bs) : StOk (subQ Q next k key c bs) B K N R :=
  ⟨⟨fun r hr => by
    rcases List.mem_append.1 hr with h1 | h1
    · exact h.q.each r h1
    · rw [List.mem_singleton.1 h1]; exact ⟨next, k, key, c, bs, rfl, hb⟩, by simp only [subQ, List.length_append, List.length_cons, List.length_nil]; omega⟩, h.b, h.k, h.n, h.r⟩

theorem law_dark (h4 : PureC Tryz.prog 4 [.agg (stA Q B rot take K N R stage at' paused next)] (.lit (.bool false))) :
    PureC Tryz.prog 3 [.agg (stA Q B rot take K N R stage at' paused next), .agg (rqRow t k key c bs)] (.lit (.bool true)) :=
  runD_ok mixed (effQ_ok (.cons (lightE_ok h4) (.cons awakeE_ok .nil))) Tryz.func3 (sc := decs 4 true ++ [.dec true])
    (obs := [[AV.agg (stA Q B rot take K N R stage at' paused next)] = [AV.agg (stA Q B rot take K N R stage at' paused next)], true = true, true = true, true = true, true = true, true = true]) (by kernel_rfl) (by simp [AllP])

theorem law_great (h4 : PureC Tryz.prog 4 [.agg (stA Q B rot take K N R stage at' paused next)] (.lit (.bool true))) (hg : (bs.length : Int) > 5000) :
    PureC Tryz.prog 3 [.agg (stA Q B rot take K N R stage at' paused next), .agg (rqRow t k key c bs)] (.lit (.bool true)) :=
  runD_ok mixed (effQ_ok (.cons (lightE_ok h4) (.cons awakeE_ok .nil))) Tryz.func3 (sc := decs 4 false ++ [.dec true])
    (obs := [[AV.agg (stA Q B rot take K N R stage at' paused next)] = [AV.agg (stA Q B rot take K N R stage at' paused next)], false = false, false = false, false = false, false = false, decide ((bs.length : Int) > 5000) = true]) (by kernel_rfl) (by simp [AllP, hg])

def aqS (st : List AV) : List SEnt := [lightE st true, awakeE, givenE, reqE, submitE, rsubmitE, toldE, sameStE, new12E, new13E, run14E, run15E, pauseE, rpauseE, resumeE, rresumeE]
theorem aqS_ok {st : List AV} (h : PureC Tryz.prog 4 [.agg st] (.lit (.bool true))) : SOk Tryz.prog (aqS st) :=
  .cons (lightE_ok h) (.cons awakeE_ok (.cons givenE_ok (.cons reqE_ok (.cons submitE_ok (.cons rsubmitE_ok (.cons toldE_ok (.cons sameStE_ok (.cons new12E_ok (.cons new13E_ok (.cons run14E_ok (.cons run15E_ok (.cons pauseE_ok (.cons rpauseE_ok (.cons resumeE_ok (.cons rresumeE_ok .nil)))))))))))))))

def scLaw : List Sc := decs 4 false ++ [.dec false] ++ decs 5 false ++ decs 5 false ++ decs 6 false ++ [.dec false] ++ decs 7 true ++ decs 5 true ++ decs 1 true

def eqs10 (Q B K N R : List (List AV)) (rot : Bool) (take stage at' : Int) (paused : Bool) (next : Int) : List Prop :=
  [Q = Q, B = B, rot = rot, take = take, K = K, N = N, R = R, stage = stage, at' = at', paused = paused, next = next, StOk Q B K N R]

def obsLaw (Q B K N R : List (List AV)) (rot : Bool) (take stage at' : Int) (paused : Bool) (next k key c : Int) (bs : List (List AV)) : List Prop :=
  [[AV.agg (stA Q B rot take K N R stage at' paused next)] = [AV.agg (stA Q B rot take K N R stage at' paused next)], false = false, false = false, false = false, false = false, decide ((bs.length : Int) > 5000) = false,
    StOk Q B K N R, StOk Q B K N R, Q.length < BIG, IsBs bs, StOk Q B K N R, Q.length < BIG, IsBs bs, (next != next) = false, false = false, StOk (subQ Q next k key c bs) B K N R, false = false, false = false] ++
  eqs10 (subQ Q next k key c bs) B K N R rot take stage at' paused (IntKind.i64.wrap (next + 1)) ++
  [false = false, false = false, false = false, StOk [] [] [] [] [], false = false, false = false] ++ eqs10 [] [] [] [] [] false 0 0 0 false 1 ++
  [false = false, false = false, false = false, StOk Q B K N R, false = false, false = false, false = false, false = false, (!(run14 stage paused Q.length == run14 stage paused Q.length)) = false,
    StOk Q B K N R, StOk Q B K N R, StOk Q B K N R] ++ eqs10 Q B K N R rot take stage at' true next ++
  [true = true, true = true, StOk Q B K N R, true = true, StOk Q B K N R, true = true, StOk Q B K N R, true = true, true = true, true = true] ++ eqs10 Q B K N R rot take stage at' false next ++
  [true = true, true = true, true = true, true = true, true = true, (run14 stage paused (subQ Q next k key c bs).length == run14 stage paused (subQ Q next k key c bs).length) = true]

theorem law_light (h : StOk Q B K N R) (hq : Q.length < BIG) (hb : IsBs bs) (h4 : PureC Tryz.prog 4 [.agg (stA Q B rot take K N R stage at' paused next)] (.lit (.bool true))) (hg : ¬ (bs.length : Int) > 5000) :
    PureC Tryz.prog 3 [.agg (stA Q B rot take K N R stage at' paused next), .agg (rqRow t k key c bs)] (.lit (.bool true)) := by
  have hs := h.sub (next := next) (k := k) (key := key) (c := c) hq hb
  refine runD_ok mixed (effQ_ok (aqS_ok h4)) Tryz.func3 (sc := scLaw) (obs := obsLaw Q B K N R rot take stage at' paused next k key c bs) (by kernel_rfl) ?_
  simp only [obsLaw, eqs10, List.cons_append, List.nil_append, AllP]
  simp [h, hq, hb, hg, hs, StOk.nil]

/-- The law, for every state and every request. -/
theorem law_ok (h : StOk Q B K N R) (hq : Q.length < BIG) (hb : IsBs bs) :
    PureC Tryz.prog 3 [.agg (stA Q B rot take K N R stage at' paused next), .agg (rqRow t k key c bs)] (.lit (.bool true)) := by
  obtain ⟨b, h4⟩ := light_ok (rot := rot) (take := take) (stage := stage) (at' := at') (paused := paused) (next := next) h
  cases b
  · exact law_dark h4
  · by_cases hg : (bs.length : Int) > 5000
    · exact law_great h4 hg
    · exact law_light h hq hb h4 hg

end
end Go.Am
end PartAqLaw
