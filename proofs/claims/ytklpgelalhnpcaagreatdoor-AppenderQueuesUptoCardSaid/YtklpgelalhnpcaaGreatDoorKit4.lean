/- Own rules for runs over blocks that the run made itself (values told by shape, the heap by numbered blocks): part 4. No condition; nothing of the program but its types and functions as they are given. -/
import Derived.Test.YtklpgelalhnpcaaGreatDoorKit3
import Derived.Tactics
import Derived.WalkKit
import Derived.ChangeArms
import Derived.OpenShut
set_option linter.all false

section PartAmFin
/- From the run of a body to the contract of a function. -/
namespace Go.Am
open Go

theorem raw_of_cw {P : Program} {f : FuncId} {fn : Func} {c : Code} {args l rs : List AV} {L : HL} {ex : Ex} (hf : P.funcs[f]? = some fn) (hb : fn.body = some c) (hex : ex = .normal ∨ ex = .ret)
    (hcw : CW P c (args ++ List.replicate (fn.ntmps - args.length) (.lit undef), hof []) ex (l, hof L)) (hrs : resAV P L l fn.results.toList = some rs) : FC P f args hnil (retAV rs) (hof L) := by
  intro E vs hH hI hc
  have hlen : vs.size = args.length := by simpa using Cs.length _ _ hc
  refine calls_of_wp hf hb ?_
  refine hcw E E _ [] _ ⟨by rw [hH, hof_nil], hI, ?_, Le.refl E, rfl⟩ ?_
  · simp only [Array.toList_append, Array.toList_replicate, hlen]
    exact Cs.append _ _ _ _ hc (Cs_replicate _)
  · intro E' a' hr'
    obtain ⟨x, h1, h2⟩ := results_ok (P := P) (fn := fn) hr'.H hr'.inv hr'.cs hrs
    have hend : ∃ x' E'', Ending.returned x = .returned x' ∧ E''.w = E'.w ∧ E''.H = hof L ∧ Inv E'' ∧ Le E E'' ∧ CRel E'' (retAV rs) x' := ⟨x, E', rfl, rfl, hr'.H, hr'.inv, hr'.le, h2⟩
    rcases hex with rfl | rfl
    · exact ⟨hr'.df, x, h1, hend⟩
    · exact ⟨hr'.df, x, h1, hend⟩

theorem FC.frz {P : Program} {f : FuncId} {args : List AV} {L : HL} {v v' : AV} {obs : List Prop} (h : FC P f args hnil v (hof L)) (hf : Am.frz (hof L) v = some (v', obs)) (ho : ∀ q ∈ obs, q) : PureC P f args v' := by
  intro E vs hH hI hc
  refine (h E vs hH hI hc).mono ?_
  rintro e w' ⟨x, E', he, hw, hH', hI', hL, hx⟩
  have hnO : ∀ b, E.S b → E'.S b ∧ ¬ Owned E' b := fun b hb => ⟨hL.sup b hb, fun hO => by
    obtain ⟨i, B, _, h0, _⟩ := hL.osub b (hI.small b hb) hO
    rw [hH] at h0; simp [hnil] at h0⟩
  have hd : DRel E.S E'.w v' x := frz_ok hI' hnO v v' obs x (by rw [hH']; exact hf) ho hx
  refine ⟨x, ⟨hnil, E'.addr, E'.live, E.S, E'.w⟩, he, hw, rfl, ?_, ?_, DRel.up (E := ⟨hnil, E'.addr, E'.live, E.S, E'.w⟩) v' x hd⟩
  · exact {
      owned := by rintro b ⟨i, B, _, h0, _⟩; simp [hnil] at h0
      small := fun b hb => Nat.lt_of_lt_of_le (hI.small b hb) hL.size
      blk := by intro i B h0; simp [hnil] at h0
      inj := by intro i j B C _ _ h0; simp [hnil] at h0 }
  · exact {
      os := hL.os
      tape := hL.tape
      output := hL.output
      osub := by rintro b _ ⟨i, B, _, h0, _⟩; simp [hnil] at h0
      size := hL.size
      keep := hL.keep
      sub := fun b _ hb => hb
      sup := fun b hb => hb
      ids := by intro i B h0; rw [hH] at h0; simp [hnil] at h0 }

theorem FC.keep {P : Program} {f : FuncId} {args : List AV} {L L2 : HL} {v v2 : AV} (h : FC P f args hnil v (hof L)) (R : List Nat) (hn : nodupB R = true) (hlen : L2.length = R.length)
    (h2 : R.map (fun j => L[j]?) = L2.map some) (hB : ∀ B ∈ L2, Flat B) (hv : v = Am.ren (rof R) v2) (hu : under L2.length v2 = true) : FC P f args hnil v2 (hof L2) := by
  rw [← hof_nil] at h ⊢
  refine FC.gc h (R := R) (nodupB_ok hn) (by simp) hlen (by simp) (fun i B hi => ?_) ?_ hv hu
  · have hlt : i < R.length := by rw [← hlen]; exact (List.getElem?_eq_some_iff.1 hi).1
    have e1 : (R.map (fun j => L[j]?))[i]? = some (L[rof R i]?) := by rw [List.getElem?_map, rof_get hlt]; rfl
    rw [h2, List.getElem?_map, hi] at e1
    simp only [Option.map_some, Option.some.injEq] at e1
    rw [(hB B (List.mem_of_getElem? hi)).1, ← e1]
  · rw [List.all_eq_true]; intro B hb; exact blkUnder_mono (Nat.zero_le _) (hB B hb).2

/-- A piece of code's run by script, its end state masked: for the kernel to evaluate. -/
def runM (P : Program) (eff : Eff) (c : Code) (l : List AV) (L : HL) (sc : List Sc) (m : List Bool) : Option (Ex × List AV × HL × List Prop) :=
  match runCG P eff c ⟨l, L, sc, []⟩ with
  | some (ex, s) => some (ex, maskL m s.l, s.L, s.obs)
  | none => none

def AllP : List Prop → Prop
  | [] => True
  | q :: r => q ∧ AllP r
theorem AllP_ok : ∀ {l : List Prop}, AllP l → ∀ q ∈ l, q
  | [], _, q, h => by simp at h
  | p :: r, ⟨h1, h2⟩, q, h => by
    rcases List.mem_cons.1 h with rfl | h
    · exact h1
    · exact AllP_ok h2 q h

theorem cw_of_run {P : Program} (hm : P.follows .mixedOrders = true) {eff : Eff} (he : EffOk P eff) {c : Code} {l l' : List AV} {L L' : HL} {sc : List Sc} {m : List Bool} {ex : Ex} {obs : List Prop}
    (h : runM P eff c l L sc m = some (ex, l', L', obs)) (ho : AllP obs) : CW P c (l, hof L) ex (l', hof L') := by
  unfold runM at h
  split at h <;> try (simp at h; done)
  rename_i ex0 s hr
  simp only [Option.some.injEq, Prod.mk.injEq] at h; obtain ⟨rfl, rfl, rfl, rfl⟩ := h
  exact CW.weak (s' := (s.l, hof s.L)) m (runCG_ok he hm c _ s ex0 hr (AllP_ok ho)).2 rfl

/-- A whole body's run by script. -/
def runB (P : Program) (eff : Eff) (fn : Func) (args : List AV) (sc : List Sc) : Option (AV × HL × List Prop) :=
  match fn.body with
  | none => none
  | some c => match runCG P eff c ⟨args ++ List.replicate (fn.ntmps - args.length) (.lit undef), [], sc, []⟩ with
    | some (.normal, s) | some (.ret, s) => match resAV P s.L s.l fn.results.toList with
      | some rs => some (retAV rs, s.L, s.obs)
      | none => none
    | _ => none

theorem runB_ok {P : Program} (hm : P.follows .mixedOrders = true) {eff : Eff} (he : EffOk P eff) {f : FuncId} {fn : Func} {args : List AV} {sc : List Sc} {v : AV} {L : HL} {obs : List Prop} (hf : P.funcs[f]? = some fn)
    (h : runB P eff fn args sc = some (v, L, obs)) (ho : AllP obs) : FC P f args hnil v (hof L) := by
  unfold runB at h
  split at h <;> try (simp at h; done)
  rename_i c hb
  split at h
  · rename_i s hr
    split at h <;> try (simp at h; done)
    rename_i rs hrs
    simp only [Option.some.injEq, Prod.mk.injEq] at h; obtain ⟨rfl, rfl, rfl⟩ := h
    exact raw_of_cw hf hb (.inl rfl) (runCG_ok he hm c _ s _ hr (AllP_ok ho)).2 hrs
  · rename_i s hr
    split at h <;> try (simp at h; done)
    rename_i rs hrs
    simp only [Option.some.injEq, Prod.mk.injEq] at h; obtain ⟨rfl, rfl, rfl⟩ := h
    exact raw_of_cw hf hb (.inr rfl) (runCG_ok he hm c _ s _ hr (AllP_ok ho)).2 hrs
  · simp at h

/-- The same, and the result's slices become data. -/
def runD (P : Program) (eff : Eff) (fn : Func) (args : List AV) (sc : List Sc) : Option (AV × List Prop) :=
  match runB P eff fn args sc with
  | some (v, L, obs) => match Am.frz (hof L) v with
    | some (v', obs') => some (v', obs ++ obs')
    | none => none
  | none => none

theorem AllP_append : ∀ {a b : List Prop}, AllP (a ++ b) → AllP a ∧ AllP b
  | [], _, h => ⟨trivial, h⟩
  | _ :: _, _, h => ⟨⟨h.1, (AllP_append h.2).1⟩, (AllP_append h.2).2⟩

theorem runD_ok {P : Program} (hm : P.follows .mixedOrders = true) {eff : Eff} (he : EffOk P eff) {f : FuncId} {fn : Func} {args : List AV} {sc : List Sc} {v : AV} {obs : List Prop} (hf : P.funcs[f]? = some fn)
    (h : runD P eff fn args sc = some (v, obs)) (ho : AllP obs) : PureC P f args v := by
  unfold runD at h
  split at h <;> try (simp at h; done)
  rename_i v0 L obs0 hr
  split at h <;> try (simp at h; done)
  rename_i v1 obs1 hfz
  simp only [Option.some.injEq, Prod.mk.injEq] at h; obtain ⟨rfl, rfl⟩ := h
  obtain ⟨h1, h2⟩ := AllP_append ho
  exact FC.frz (runB_ok hm he hf hr h1) hfz (AllP_ok h2)

end Go.Am
end PartAmFin

section PartAmClone
/- slices.Clone: nil goes to nil, any other slice to a copy. -/
namespace Go.Am
open Go

theorem FC.clone {P : Program} {f : FuncId} {n : Nat} {xs : List (List AV)} (h0 : FC P f [.lit (.slice none 0 0)] hnil (.lit (.slice none 0 0)) (hof []))
    (h1 : FC P f [.ro n xs true] hnil (.own 0 1 0 xs.length true) (hof [.arr n 1 xs])) : FC P f [.ro n xs false] hnil (.own 0 1 0 xs.length false) (hof [.arr n 1 xs]) := by
  intro E vs hH hI hc
  obtain ⟨x, r, hvs, hx, hr⟩ := hc
  simp only [Cs] at hr; subst hr
  obtain ⟨a, cap, hsl, _, hnc, hcap, hlim, hrest⟩ := hx
  cases a with
  | none =>
    have hc0 : cap = 0 := hnc rfl
    subst hc0
    have hxs : xs = [] := List.eq_nil_of_length_eq_zero (by omega)
    subst hxs
    simp only [List.length_nil] at hsl
    refine (h0 E vs hH hI ⟨x, [], hvs, hsl, rfl⟩).mono ?_
    rintro e w' ⟨y, E', he, hw, hH', hI', hL, hy⟩
    have hid : ∀ B, E'.H 0 = some B → B.ver < 1 := fun B hB => by rw [hH'] at hB; simp [hof] at hB
    refine ⟨y, E'.nothing 0 n 1, he, hw, ?_, nothing_inv hI' hid, hL.trans (nothing_le hid), ?_⟩
    · funext i
      simp only [Env.nothing, upd, hH', hof]
      cases i with
      | zero => simp
      | succ i => simp
    · simp only [CRel] at hy; subst hy
      exact nothing_own (by simp)
  | some q =>
    refine (h1 E vs hH hI ⟨x, [], hvs, ⟨some q, cap, hsl, by simp, by simp, hcap, hlim, hrest⟩, rfl⟩).mono ?_
    rintro e w' ⟨y, E', he, hw, hH', hI', hL, hy⟩
    refine ⟨y, E', he, hw, hH', hI', hL, ?_⟩
    obtain ⟨k1, B, k2, k3, k4⟩ := hy
    exact ⟨k1, B, k2, k3, fun hv => ⟨(k4 hv).1, (k4 hv).2.imp id fun ⟨a, j1, j2, j3, _⟩ => ⟨a, j1, j2, j3, by simp⟩⟩⟩

end Go.Am
end PartAmClone

section PartAmLoop
/- Loops of a symbolic run: their code, their rounds; a nil slice that is taken for an empty one of one's own. -/
namespace Go.Am
open Go

/-- The bodies of the loops of a piece of code, in the text's order. -/
def loopsOf : Code → List Code
  | .seq a b => loopsOf a ++ loopsOf b
  | .cond _ x y => loopsOf x ++ loopsOf y
  | .block _ c => loopsOf c
  | .loop c => c :: loopsOf c
  | .scope c => loopsOf c
  | _ => []

def loopAt (fn : Func) (k : Nat) : Code := ((loopsOf (fn.body.getD .skip))[k]?).getD .skip

theorem CW.for {P : Program} {c : Code} {s s' : St} {ex : Ex} (hex : ex ≠ .normal) (σ : Nat → St) (n : Nat) (h0 : σ 0 = s) (hr : ∀ i, i < n → CW P c (σ i) .normal (σ (i + 1))) (he : CW P c (σ n) ex s') : CW P (.loop c) s ex s' := by
  rw [← h0]; exact CW.loop hex σ n hr he

/-- A temporary that holds a nil slice may be taken for an empty slice of one's own. -/
theorem CW.seed {P : Program} {c : Code} {l : List AV} {L : HL} {s' : St} {ex : Ex} (t n : Nat) (ht : l[t]? = some (.lit (.slice none 0 0))) (h : CW P c (l.set t (.own L.length 0 0 0 false), hof (L ++ [.arr n 0 []])) ex s') : CW P c (l, hof L) ex s' := by
  intro E0 E a df Q hr hq
  have hid : ∀ B, E.H L.length = some B → B.ver < 0 := fun B hB => by rw [hr.H] at hB; simp [hof] at hB
  refine h E0 (E.nothing L.length n 0) a df Q ⟨?_, nothing_inv hr.inv hid, ?_, hr.le.trans (nothing_le hid), hr.df⟩ hq
  · rw [hof_push]; simp only [Env.nothing, hr.H]
  · obtain ⟨v, hv, hc⟩ := Cs.get? l _ t _ hr.cs ht
    simp only [CRel] at hc; subst hc
    have hcs := Cs.mono hr.inv (nothing_le (n := n) hid) _ _ hr.cs
    have := Cs.set l _ t (.own L.length 0 0 0 false) (.slice none 0 0) hcs (nothing_own (by simp))
    rw [show a.tmps.toList.set t (.slice none 0 0) = a.tmps.toList from by
      obtain ⟨hlt, he⟩ := List.getElem?_eq_some_iff.1 hv
      rw [← he]; exact List.set_getElem_self hlt] at this
    exact this

/-- So may a cell of a box. -/
theorem CW.seedBox {P : Program} {c : Code} {l e : List AV} {L : HL} {s' : St} {ex : Ex} {w : Nat} (k j n : Nat) (hk : L[k]? = some (.box w e)) (hj : e[j]? = some (.lit (.slice none 0 0)))
    (h : CW P c (l, hof (L.set k (.box w (e.set j (.own L.length 0 0 0 false))) ++ [.arr n 0 []])) ex s') : CW P c (l, hof L) ex s' := by
  intro E0 E a df Q hr hq
  have hid : ∀ B, E.H L.length = some B → B.ver < 0 := fun B hB => by rw [hr.H] at hB; simp [hof] at hB
  have hkl : k < L.length := (List.getElem?_eq_some_iff.1 hk).1
  have hEk : E.H k = some (.box w e) := by rw [hr.H]; exact hk
  have hne : k ≠ L.length := by omega
  let F : Env := ⟨upd (E.nothing L.length n 0).H k (.box w (e.set j (.own L.length 0 0 0 false))), E.addr, (E.nothing L.length n 0).live, E.S, E.w⟩
  have hI1 := nothing_inv (n := n) hr.inv hid
  have hL1 := nothing_le (n := n) hid
  have hG : (E.nothing L.length n 0).H k = some (.box w e) := by simp [Env.nothing, upd, hne, hEk]
  have hLF : Le (E.nothing L.length n 0) F := {
    os := rfl
    tape := rfl
    output := rfl
    osub := by
      rintro b _ ⟨i, B, h1, h2, h3⟩
      by_cases hik : i = k
      · subst hik; exact ⟨i, _, h1, hG, h3⟩
      · exact ⟨i, B, h1, by simpa [F, upd, hik] using h2, h3⟩
    size := Nat.le_refl _
    keep := fun _ _ _ => rfl
    sub := fun _ _ h => h
    sup := fun _ h => h
    ids := by
      intro i B hB
      by_cases hik : i = k
      · subst hik
        rw [hG] at hB; simp only [Option.some.injEq] at hB; subst hB
        exact ⟨.box w (e.set j (.own L.length 0 0 0 false)), by simp [F, upd], Nat.le_refl _, fun _ => ⟨by simp [Blk.esz], by simp [Blk.rows], fun hl => ⟨hl, rfl, rfl⟩⟩⟩
      · exact ⟨B, by simp [F, upd, hik, hB], Nat.le_refl _, fun _ => ⟨rfl, rfl, fun hl => ⟨hl, rfl, rfl⟩⟩⟩ }
  have hF1 : F.H L.length = some (.arr n 0 []) := by simp [F, upd, Env.nothing, Ne.symm hne]
  have hown : CRel F (.own L.length 0 0 0 false) (.slice none 0 0) :=
    ⟨rfl, .arr n 0 [], hF1, Nat.le_refl _, fun _ => ⟨by simp, .inr ⟨none, rfl, rfl, rfl, by simp⟩⟩⟩
  have hAt : ∀ (e : List AV) (b o j : Nat), e[j]? = some (.lit (.slice none 0 0)) → At (E.nothing L.length n 0) b o e → At F b o (e.set j (.own L.length 0 0 0 false)) := by
    intro e
    induction e with
    | nil => intro b o j hj; simp at hj
    | cons c cs ih =>
      intro b o j hj hat
      obtain ⟨⟨y, h1, h0, h2⟩, h3⟩ := hat
      cases j with
      | zero =>
        simp at hj; subst hj
        simp only [CRel] at h2; subst h2
        refine ⟨⟨_, h1, h0, hown⟩, ?_⟩
        rw [At_iff] at h3 ⊢
        intro m d hm
        obtain ⟨y, k1, k2, k3⟩ := h3 m d hm
        exact ⟨y, k1, k2, CRel.mono hI1 hLF d y k3⟩
      | succ j => exact ⟨⟨y, h1, h0, CRel.mono hI1 hLF c y h2⟩, ih b (o + 1) j (by simpa using hj) h3⟩
  have hIF : Inv F := {
    owned := by
      rintro b ⟨i, B, h1, h2, h3⟩
      by_cases hik : i = k
      · subst hik; exact hI1.owned b ⟨i, _, h1, hG, h3⟩
      · exact hI1.owned b ⟨i, B, h1, by simpa [F, upd, hik] using h2, h3⟩
    small := hI1.small
    blk := by
      intro i B hB hl
      by_cases hik : i = k
      · subst hik
        have hB' : B = .box w (e.set j (.own L.length 0 0 0 false)) := by simpa [F, upd] using hB.symm
        subst hB'
        obtain ⟨k1, c', t, fr, k2, k3, k4, k5⟩ := hI1.blk i _ hG hl
        refine ⟨k1, c', t, fr, k2, k3, by simp only [Blk.rows, Blk.esz, List.length_set] at k4 ⊢; exact k4, ?_⟩
        exact hAt e _ _ j hj k5
      · have hB' : (E.nothing L.length n 0).H i = some B := by simpa [F, upd, hik] using hB
        obtain ⟨k1, c', t, fr, k2, k3, k4, k5⟩ := hI1.blk i B hB' hl
        exact ⟨k1, c', t, fr, k2, k3, k4, BRel.keep hI1 hLF rfl k5⟩
    inj := by
      intro i i' B B' hl hl' hB hB' he
      have go : ∀ i B, F.H i = some B → ∃ C, (E.nothing L.length n 0).H i = some C := by
        intro i B hB
        by_cases hik : i = k
        · subst hik; exact ⟨_, hG⟩
        · exact ⟨B, by simpa [F, upd, hik] using hB⟩
      obtain ⟨C, hC⟩ := go i B hB
      obtain ⟨C', hC'⟩ := go i' B' hB'
      exact hI1.inj i i' C C' hl hl' hC hC' he }
  refine h E0 F a df Q ⟨?_, hIF, Cs.mono hI1 hLF _ _ (Cs.mono hr.inv hL1 _ _ hr.cs), (hr.le.trans hL1).trans hLF, hr.df⟩ hq
  have hlen : (L.set k (.box w (e.set j (.own L.length 0 0 0 false)))).length = L.length := by simp
  rw [hof_push, hlen, hof_set hk]
  simp only [F, Env.nothing, hr.H]
  rw [upd_comm (Ne.symm hne)]


/-- The same as runM, and only the first n blocks are kept. -/
def runN (P : Program) (eff : Eff) (c : Code) (l : List AV) (L : HL) (sc : List Sc) (m : List Bool) (n : Nat) : Option (Ex × List AV × HL × List Prop) :=
  match runCG P eff c ⟨l, L, sc, []⟩ with
  | some (ex, s) => some (ex, maskL m s.l, s.L.take n, s.obs)
  | none => none

theorem cw_of_runN {P : Program} (hm : P.follows .mixedOrders = true) {eff : Eff} (he : EffOk P eff) {c : Code} {l l' : List AV} {L L' : HL} {sc : List Sc} {m : List Bool} {n : Nat} {ex : Ex} {obs : List Prop}
    (h : runN P eff c l L sc m n = some (ex, l', L', obs)) (ho : AllP obs) (hL : L.length ≤ n) (hl : underAll n l' = true) (hB : L'.all (blkUnder n) = true) : CW P c (l, hof L) ex (l', hof L') := by
  unfold runN at h
  split at h <;> try (simp at h; done)
  rename_i ex0 s hr
  simp only [Option.some.injEq, Prod.mk.injEq] at h; obtain ⟨rfl, rfl, rfl, rfl⟩ := h
  exact CW.drop (L := s.L) n (CW.weak (s' := (s.l, hof s.L)) m (runCG_ok he hm c _ s ex0 hr (AllP_ok ho)).2 rfl) (fun i hi => by simp only [hof]; exact List.getElem?_eq_none (by omega)) hl hB

theorem wrap_succ {i : Nat} (h : i < 2 ^ 40) : IntKind.i64.wrap ((i : Int) + 1) = ((i + 1 : Nat) : Int) := by
  have := wrap64 (n := (i : Int) + 1) (by omega) (by omega)
  rw [this]; simp

theorem all_under {n : Nat} {rows : List (List AV)} (h : rows.all dataAll = true) : rows.all (underAll n) = true := by
  rw [List.all_eq_true] at *
  exact fun r hr => underAll_mono (Nat.zero_le _) r (renL_data (ρ := id) r (h r hr)).2

end Go.Am
end PartAmLoop

section PartAmMap2
/- A map that a function makes, fills with integer keys, and hands back. -/
namespace Go.Am
open Go

/-- A world with one map more. -/
def mkMap (w : World) (es : Array MapEntry) (c : Nat) : World := { w with heap := w.heap.push (.map es c) }

theorem run_make {P : Program} (t : TypeId) (w : World) : (Instr.makeMap t none).run P w = .ok (.map (some w.heap.size)) (mkMap w #[] 0) := by
  show (do let r ← newObj (.map #[] 0); pure (Value.map (some r)) : Sem Value).run P w = _
  rfl

theorem mkMap_at (w : World) (es : Array MapEntry) (c : Nat) : (mkMap w es c).heap[w.heap.size]? = some (.map es c) := by
  show (w.heap.push (.map es c))[w.heap.size]? = _
  simp

theorem run_insert {P : Program} {t kt et : TypeId} {d : IntKind} (ht : P.underlying t = some (.map kt et)) (hkt : P.underlying kt = some (.int d)) {k : IntKind} {i : Int} (v : Value) (w : World) (es : Array MapEntry) (c : Nat)
    (hf : Instr.findNow (.int d) (.int k i) es.toList 0 = some none) :
    (Instr.mapUpdate t (.map (some w.heap.size)) (.int k i) v).run P (mkMap w es c) = .ok () (mkMap w (es.push ⟨.int k i, v, c⟩) (c + 1)) := by
  have hobj : (getObj w.heap.size).run P (mkMap w es c) = .ok (.map es c) (mkMap w es c) := by simp only [getObj, Sem.run, mkMap_at]
  have hck : (Instr.checkKey false 10000 kt (.int k i)).run P (mkMap w es c) = .ok () (mkMap w es c) := by
    generalize hn : (10000 : Nat) = n
    cases n with
    | zero => simp at hn
    | succ n => simp only [Instr.checkKey, Sem.run_bind, run_und hkt, Result.andThen_ok, Sem.run_pure]
  have hfk : (Instr.findKey kt (.int k i) es.toList).run P (mkMap w es c) = .ok none (mkMap w es c) := by
    simp only [Instr.findKey, Sem.run_bind, run_und hkt, Result.andThen_ok, hf, Sem.run_pure]
  simp only [Instr.mapUpdate, Sem.run_bind, run_und ht, Result.andThen_ok, hobj, hck, hfk]
  simp only [setObj, Sem.run, mkMap_at]
  have : (mkMap w es c).heap.setIfInBounds w.heap.size (.map (es.push ⟨.int k i, v, c⟩) (c + 1)) = w.heap.push (.map (es.push ⟨.int k i, v, c⟩) (c + 1)) := by
    show (w.heap.push (.map es c)).setIfInBounds w.heap.size _ = _
    apply Array.ext'
    simp
  rw [this]; rfl


/-- What such a map is for whoever only reads it. -/
theorem FC_map {P : Program} {f : FuncId} {H : Hp} {es : List (Value × Value)}
    (h : ∀ w : World, Calls P f #[] w fun e w' => ∃ ents c, e = .returned (.map (some w.heap.size)) ∧ w' = mkMap w ents c ∧ ents.toList.map (fun e => (e.key, e.val)) = es) :
    FC P f [] H (.rom es) H := by
  intro E vs hH hI hc
  have hvs : vs = #[] := by simp only [Cs] at hc; simpa using hc
  subst hvs
  refine (h E.w).mono ?_
  rintro e w' ⟨ents, c, rfl, rfl, hes⟩
  have hkeep : ∀ b, b < E.w.heap.size → (mkMap E.w ents c).heap[b]? = E.w.heap[b]? := fun b hb => by
    show (E.w.heap.push (.map ents c))[b]? = _
    rw [Array.getElem?_push]; rw [if_neg (by omega)]
  have hsize : (mkMap E.w ents c).heap.size = E.w.heap.size + 1 := by
    show (E.w.heap.push (.map ents c)).size = _
    simp
  have hle : Le E ⟨E.H, E.addr, E.live, E.S, mkMap E.w ents c⟩ := {
    os := rfl
    tape := rfl
    output := rfl
    osub := fun b _ h => h
    size := by show E.w.heap.size ≤ (mkMap E.w ents c).heap.size; omega
    keep := fun b hb _ => hkeep b hb
    sub := fun _ _ h => h
    sup := fun _ h => h
    ids := fun i B hB => ⟨B, hB, Nat.le_refl _, fun _ => ⟨rfl, rfl, fun hl => ⟨hl, rfl, bsz_congr (hkeep _ (hI.small _ (hI.owned _ ⟨i, B, hl, hB, rfl⟩)))⟩⟩⟩ }
  refine ⟨_, ⟨E.H, E.addr, E.live, E.S, mkMap E.w ents c⟩, rfl, rfl, hH, ?_, hle, ?_⟩
  · exact {
      owned := fun b h => hI.owned b h
      small := fun b hb => by have := hI.small b hb; show b < (mkMap E.w ents c).heap.size; omega
      blk := by
        intro i B hB hl
        obtain ⟨k1, c', t, fr, k2, k3, k4, k5⟩ := hI.blk i B hB hl
        have hlt := hI.small _ (hI.owned _ ⟨i, B, hl, hB, rfl⟩)
        exact ⟨k1, c', t, fr, by rw [← k2]; exact hkeep _ hlt, k3, k4, BRel.keep hI hle (hkeep _ hlt) k5⟩
      inj := hI.inj }
  · exact ⟨E.w.heap.size, ents, c, rfl, fun hs => by have := hI.small _ hs; omega, by show _ < (mkMap E.w ents c).heap.size; omega, mkMap_at _ _ _, hes⟩

end Go.Am
end PartAmMap2

section PartAmTab
/- Closed calls in a table: each is run once, the later ones by the earlier ones. -/
namespace Go.Am
open Go

def valEqB : Value → Value → Bool
  | .bool a, .bool b => a == b
  | .int k a, .int k' b => decide (k = k') && decide (a = b)
  | .float k a, .float k' b => decide (k = k') && Nat.beq a b
  | .complex k a c, .complex k' b d => decide (k = k') && Nat.beq a b && Nat.beq c d
  | .string a, .string b => decide (a.data.toList = b.data.toList)
  | .pointer none, .pointer none => true
  | .pointer (some a), .pointer (some b) => decide (a = b)
  | .slice none l c, .slice none l' c' => Nat.beq l l' && Nat.beq c c'
  | .map none, .map none => true
  | .nilFunc, .nilFunc => true
  | .nilIface, .nilIface => true
  | _, _ => false

theorem valEqB_ok : ∀ {a b : Value}, valEqB a b = true → a = b := by
  intro a b h
  unfold valEqB at h
  split at h
  · rw [eq_of_beq h]
  · simp only [Bool.and_eq_true, decide_eq_true_eq] at h; rw [h.1, h.2]
  · simp only [Bool.and_eq_true, decide_eq_true_eq] at h; rw [h.1, Nat.eq_of_beq_eq_true h.2]
  · simp only [Bool.and_eq_true, decide_eq_true_eq] at h; rw [h.1.1, Nat.eq_of_beq_eq_true h.1.2, Nat.eq_of_beq_eq_true h.2]
  · rename_i a b
    have h' := of_decide_eq_true h
    cases a; cases b
    congr 2
    exact Array.ext' h'
  · rfl
  · rw [of_decide_eq_true h]
  · simp only [Bool.and_eq_true] at h; rw [Nat.eq_of_beq_eq_true h.1, Nat.eq_of_beq_eq_true h.2]
  · rfl
  · rfl
  · rfl
  · simp at h

def fnEqB : Fn → Fn → Bool
  | .func f, .func g => Nat.beq f g
  | _, _ => false
theorem fnEqB_ok {a b : Fn} (h : fnEqB a b = true) : a = b := by
  unfold fnEqB at h
  split at h
  · rw [Nat.eq_of_beq_eq_true h]
  · simp at h

mutual
def avEqB : AV → AV → Bool
  | .lit a, .lit b => valEqB a b
  | .agg a, .agg b => avsEqB a b
  | .tup a, .tup b => avsEqB a b
  | .own a b c d e, .own a' b' c' d' e' => Nat.beq a a' && Nat.beq b b' && Nat.beq c c' && Nat.beq d d' && (e == e')
  | .ptr a b c d, .ptr a' b' c' d' => Nat.beq a a' && Nat.beq b b' && Nat.beq c c' && Nat.beq d d'
  | .win a b c d e f, .win a' b' c' d' e' f' => Nat.beq a a' && Nat.beq b b' && Nat.beq c c' && Nat.beq d d' && Nat.beq e e' && Nat.beq f f'
  | .fn f a b, .fn f' a' b' => fnEqB f f' && avsEqB a a' && avsEqB b b'
  | .ifc t v, .ifc t' v' => Nat.beq t t' && avEqB v v'
  | _, _ => false
def avsEqB : List AV → List AV → Bool
  | [], [] => true
  | a :: r, b :: s => avEqB a b && avsEqB r s
  | _, _ => false
end

mutual
theorem avEqB_ok : ∀ (a b : AV), avEqB a b = true → a = b
  | .lit a, b, h => by cases b <;> simp [avEqB] at h; rw [valEqB_ok h]
  | .agg a, b, h => by cases b <;> simp [avEqB] at h; rw [avsEqB_ok _ _ h]
  | .tup a, b, h => by cases b <;> simp [avEqB] at h; rw [avsEqB_ok _ _ h]
  | .own .., b, h => by cases b <;> simp [avEqB] at h; simp [h]
  | .ptr .., b, h => by cases b <;> simp [avEqB] at h; simp [h]
  | .win .., b, h => by cases b <;> simp [avEqB] at h; simp [h]
  | .fn f x y, b, h => by
    cases b <;> simp [avEqB] at h
    rw [fnEqB_ok h.1.1, avsEqB_ok _ _ h.1.2, avsEqB_ok _ _ h.2]
  | .ifc t v, b, h => by cases b <;> simp [avEqB] at h; rw [h.1, avEqB_ok _ _ h.2]
  | .rom .., b, h => by cases b <;> simp [avEqB] at h
  | .ro .., b, h => by cases b <;> simp [avEqB] at h
  | .rop .., b, h => by cases b <;> simp [avEqB] at h
  | .any, b, h => by cases b <;> simp [avEqB] at h
theorem avsEqB_ok : ∀ (a b : List AV), avsEqB a b = true → a = b
  | [], [], _ => rfl
  | a :: r, b :: s, h => by
    simp only [avsEqB, Bool.and_eq_true] at h
    rw [avEqB_ok _ _ h.1, avsEqB_ok _ _ h.2]
  | [], _ :: _, h => by simp [avsEqB] at h
  | _ :: _, [], h => by simp [avsEqB] at h
end

def rowsEqB : List (List AV) → List (List AV) → Bool
  | [], [] => true
  | a :: r, b :: s => avsEqB a b && rowsEqB r s
  | _, _ => false
theorem rowsEqB_ok : ∀ (a b : List (List AV)), rowsEqB a b = true → a = b
  | [], [], _ => rfl
  | a :: r, b :: s, h => by
    simp only [rowsEqB, Bool.and_eq_true] at h
    rw [avsEqB_ok _ _ h.1, rowsEqB_ok _ _ h.2]
  | [], _ :: _, h => by simp [rowsEqB] at h
  | _ :: _, [], h => by simp [rowsEqB] at h

def blkEqB : Blk → Blk → Bool
  | .box v e, .box v' e' => Nat.beq v v' && avsEqB e e'
  | .arr n v r, .arr n' v' r' => Nat.beq n n' && Nat.beq v v' && rowsEqB r r'
  | _, _ => false
theorem blkEqB_ok {a b : Blk} (h : blkEqB a b = true) : a = b := by
  cases a <;> cases b <;> simp [blkEqB] at h
  · rw [h.1, avsEqB_ok _ _ h.2]
  · rw [h.1.1, h.1.2, rowsEqB_ok _ _ h.2]
def hlEqB : HL → HL → Bool
  | [], [] => true
  | a :: r, b :: s => blkEqB a b && hlEqB r s
  | _, _ => false
theorem hlEqB_ok : ∀ (a b : HL), hlEqB a b = true → a = b
  | [], [], _ => rfl
  | a :: r, b :: s, h => by
    simp only [hlEqB, Bool.and_eq_true] at h
    rw [blkEqB_ok h.1, hlEqB_ok _ _ h.2]
  | [], _ :: _, h => by simp [hlEqB] at h
  | _ :: _, [], h => by simp [hlEqB] at h

/-- A closed call: the function, the arguments and the blocks that they reach, the result, the blocks behind it. -/
structure Ent where
  f : FuncId
  args : List AV
  La : HL
  v : AV
  L' : HL

def Ent.Ok (P : Program) (e : Ent) : Prop := FC P e.f e.args (hof e.La) e.v (hof e.L')

def tabLib : List Ent → CallA
  | [], _, _, _ => none
  | e :: T, f, args, La => if (Nat.beq e.f f && (avsEqB e.args args && hlEqB e.La La)) = true then some (e.v, e.L') else tabLib T f args La

def TOk (P : Program) (T : List Ent) : Prop := ∀ e ∈ T, e.Ok P
theorem TOk.nil {P : Program} : TOk P [] := fun _ h => by simp at h
theorem TOk.cons {P : Program} {e : Ent} {T : List Ent} (h : e.Ok P) (k : TOk P T) : TOk P (e :: T) := fun x hx => by
  rcases List.mem_cons.1 hx with rfl | hx
  · exact h
  · exact k x hx

theorem tabLib_ok {P : Program} : ∀ {T : List Ent}, TOk P T → CallOk P (tabLib T)
  | [], _ => fun _ _ _ _ _ h => by simp [tabLib] at h
  | e :: T, hT => fun f az La v L' h => by
    simp only [tabLib] at h
    split at h
    · rename_i hc
      simp only [Bool.and_eq_true] at hc
      simp only [Option.some.injEq, Prod.mk.injEq] at h; obtain ⟨rfl, rfl⟩ := h
      have h1 := Nat.eq_of_beq_eq_true hc.1
      have h2 := avsEqB_ok _ _ hc.2.1
      have h3 := hlEqB_ok _ _ hc.2.2
      subst h1 h2 h3
      exact hT e List.mem_cons_self
    · exact tabLib_ok (T := T) (fun x hx => hT x (List.mem_cons_of_mem _ hx)) f az La v L' h

theorem Ent.ok_of {P : Program} (hm : P.follows .mixedOrders = true) {e : Ent} {fn : Func} {T : List Ent} (hf : P.funcs[e.f]? = some fn) (hT : TOk P T) (h : bodyA P (tabLib T) fn e.args e.La = some (e.v, e.L')) : e.Ok P :=
  bodyA_ok hm (tabLib_ok hT) hf h

end Go.Am
end PartAmTab

section PartAmOpen
/- Arguments that are read whole, as abstract data. -/
namespace Go.Am
open Go

/-- The shape of a type: what its cells are. -/
inductive Shp where
  | bool
  | int (k : IntKind)
  | str
  | slice (e : Shp)
  | agg (fs : List Shp)

mutual
def Shp.width : Shp → Nat
  | .bool | .int _ | .str | .slice _ => 1
  | .agg fs => widths fs
def widths : List Shp → Nat
  | [] => 0
  | s :: r => s.width + widths r
end

mutual
/-- Cells of a shape, all lists of which are at most n long. -/
def Fit (n : Nat) : Shp → List AV → Prop
  | .bool, cs => ∃ b, cs = [.lit (.bool b)]
  | .int k, cs => ∃ i, cs = [.lit (.int k i)] ∧ (Lit.int k i).wf = true
  | .str, cs => ∃ s : ByteArray, cs = [.lit (.string s)] ∧ s.size ≤ n
  | .slice e, cs => ∃ xs, cs = [.ro e.width xs false] ∧ xs.length ≤ n ∧ ∀ r ∈ xs, Fit n e r
  | .agg fs, cs => FitL n fs cs
def FitL (n : Nat) : List Shp → List AV → Prop
  | [], cs => cs = []
  | s :: r, cs => ∃ a b, cs = a ++ b ∧ Fit n s a ∧ FitL n r b
end

def tyShpF (P : Program) (go : TypeId → Option Shp) : Nat → List Field → Option (List Shp)
  | _, [] => some []
  | o, f :: r => match go f.type with
    | some s => if f.offset = o ∧ P.cellsOf f.type = s.width then
        match tyShpF P go (o + s.width) r with
        | some ss => some (s :: ss)
        | none => none
      else none
    | none => none

def tyShp (P : Program) : Nat → TypeId → Option Shp
  | 0, _ => none
  | k + 1, t => match P.underlying t with
    | some .bool => some .bool
    | some (.int k) => some (.int k)
    | some .string => some .str
    | some (.slice e) => match tyShp P k e with
      | some s => if P.cellsOf e = s.width ∧ 0 < s.width then some (.slice s) else none
      | none => none
    | some (.struct fs) => match tyShpF P (tyShp P k) 0 fs.toList with
      | some ss => if P.cellsOf t = widths ss then some (.agg ss) else none
      | none => none
    | some (.array n e) => match tyShp P k e with
      | some s => if P.cellsOf e = s.width ∧ P.cellsOf t = n * s.width then some (.agg (List.replicate n s)) else none
      | none => none
    | _ => none

/-- A measure of readings that bounds all lists. -/
structure Bulk {H : Type} (bulk : DataW H → Nat) : Prop where
  agg : ∀ (parts : List (DataW H)) d, d ∈ parts → bulk d ≤ bulk (.agg parts)
  sl : ∀ (es rest : List (DataW H)) d, d ∈ es → bulk d ≤ bulk (.slice es rest)
  len : ∀ (es rest : List (DataW H)), es.length ≤ bulk (.slice es rest)
  str : ∀ s : List UInt8, s.length ≤ bulk (.lit (.string s))

def none_ : Nat → Prop := fun _ => False

section
variable {H : Type} {enc : TypeId × Value → H} {P : Program} {w : World} {held : Bool} {bulk : DataW H → Nat} {n : Nat}

/-- What is shown of a type: its cells, read whole, are of its shape. -/
def Opens (enc : TypeId × Value → H) (P : Program) (w : World) (held : Bool) (bulk : DataW H → Nat) (n : Nat) (t : TypeId) (s : Shp) : Prop :=
  ∀ fuel cs x, DataW.trod enc P w 0 (fun _ => true) held fuel t cs = some x → bulk x.1 ≤ n → ∃ avs, DCs none_ w avs cs ∧ (∀ v ∈ cs, v.oneCell' = true) ∧ Fit n s avs ∧ avs.length = s.width

theorem opens_fields {fuel : Nat} {go : TypeId → Option Shp} (hgo : ∀ t s, go t = some s → Opens enc P w held bulk n t s) : ∀ (fs : List Field) (ss : List Shp) (o : Nat) (cs : List Value), tyShpF P go o fs = some ss → cs.length = o + widths ss →
    (∀ f ∈ fs, ∃ y, DataW.trod enc P w 0 (fun _ => true) held fuel f.type ((cs.drop f.offset).take (P.cellsOf f.type)) = some y ∧ bulk y.1 ≤ n) →
    ∃ avs, DCs none_ w avs (cs.drop o) ∧ (∀ v ∈ cs.drop o, v.oneCell' = true) ∧ FitL n ss avs ∧ avs.length = widths ss
  | [], ss, o, cs, h, hl, _ => by
    simp only [tyShpF, Option.some.injEq] at h; subst h
    simp only [widths, Nat.add_zero] at hl
    have : cs.drop o = [] := by rw [List.drop_eq_nil_iff]; omega
    rw [this]
    exact ⟨[], rfl, by simp, rfl, rfl⟩
  | f :: fs, ss, o, cs, h, hl, hx => by
    simp only [tyShpF] at h
    split at h <;> try (simp at h; done)
    rename_i s hs
    split at h <;> try (simp at h; done)
    rename_i hc
    split at h <;> try (simp at h; done)
    rename_i ss' hss
    simp only [Option.some.injEq] at h; subst h
    obtain ⟨ho, hw⟩ := hc
    simp only [widths] at hl
    obtain ⟨y, hy, hyb⟩ := hx f List.mem_cons_self
    rw [ho, hw] at hy
    obtain ⟨a1, d1, o1, f1, l1⟩ := hgo _ _ hs _ _ _ hy hyb
    obtain ⟨a2, d2, o2, f2, l2⟩ := opens_fields hgo fs ss' (o + s.width) cs hss (by omega) fun g hg => hx g (List.mem_cons_of_mem _ hg)
    have hsplit : cs.drop o = (cs.drop o).take s.width ++ cs.drop (o + s.width) := by
      rw [← List.drop_drop]; exact (List.take_append_drop _ _).symm
    refine ⟨a1 ++ a2, ?_, ?_, ⟨a1, a2, rfl, f1, f2⟩, by simp [widths, l1, l2]⟩
    · rw [hsplit]; exact DCs.append _ _ _ _ d1 d2
    · intro v hv
      rw [hsplit] at hv
      rcases List.mem_append.1 hv with h' | h'
      · exact o1 v h'
      · exact o2 v h'

theorem opens_array {fuel : Nat} {t : TypeId} {s : Shp} (h : Opens enc P w held bulk n t s) : ∀ (m i : Nat) (cs : List Value), cs.length = (i + m) * s.width →
    (∀ j, j < m → ∃ y, DataW.trod enc P w 0 (fun _ => true) held fuel t ((cs.drop ((i + j) * s.width)).take s.width) = some y ∧ bulk y.1 ≤ n) →
    ∃ avs, DCs none_ w avs (cs.drop (i * s.width)) ∧ (∀ v ∈ cs.drop (i * s.width), v.oneCell' = true) ∧ FitL n (List.replicate m s) avs ∧ avs.length = widths (List.replicate m s)
  | 0, i, cs, hl, _ => by
    rw [Nat.add_zero] at hl
    have : cs.drop (i * s.width) = [] := by rw [List.drop_eq_nil_iff]; omega
    rw [this]
    exact ⟨[], rfl, by simp, rfl, rfl⟩
  | m + 1, i, cs, hl, hx => by
    obtain ⟨y, hy, hyb⟩ := hx 0 (by omega)
    rw [Nat.add_zero] at hy
    obtain ⟨a1, d1, o1, f1, l1⟩ := h _ _ _ hy hyb
    obtain ⟨a2, d2, o2, f2, l2⟩ := opens_array h m (i + 1) cs (by rw [hl]; congr 1; omega) fun j hj => by
      have := hx (j + 1) (by omega)
      rw [show i + (j + 1) = i + 1 + j from by omega] at this; exact this
    have hsplit : cs.drop (i * s.width) = (cs.drop (i * s.width)).take s.width ++ cs.drop ((i + 1) * s.width) := by
      rw [Nat.succ_mul, ← List.drop_drop]; exact (List.take_append_drop _ _).symm
    refine ⟨a1 ++ a2, ?_, ?_, ⟨a1, a2, rfl, f1, f2⟩, by simp [List.replicate_succ, widths, l1, l2]⟩
    · rw [hsplit]; exact DCs.append _ _ _ _ d1 d2
    · intro v hv
      rw [hsplit] at hv
      rcases List.mem_append.1 hv with h' | h'
      · exact o1 v h'
      · exact o2 v h'

theorem cell_spot {w : World} {a : Addr} {v : Value} (h : w.cell? a = some v) : a.spot = none := by
  unfold World.cell? at h
  split at h <;> try (simp at h; done)
  split at h <;> try (simp at h; done)
  rename_i hs
  simpa using hs

theorem cells_get {w : World} {b o m : Nat} {cs : List Value} (h : w.cells? 0 ⟨b, o, none⟩ m = some cs) : cs.length = m ∧ ∀ j, j < m → w.cell? ⟨b, o + j, none⟩ = cs[j]? := by
  unfold World.cells? at h
  simp only [Nat.zero_le, if_true] at h
  refine ⟨by simpa using mapM_some_length h, fun j hj => ?_⟩
  have := mapM_some_get h j j (by simp [hj])
  rw [Addr.add_none] at this; exact this

theorem DAt_of {S : Nat → Prop} {w : World} {b : Nat} : ∀ (avs : List AV) (cs : List Value) (o : Nat), DCs S w avs cs → (∀ v ∈ cs, v.oneCell' = true) → (∀ j, j < cs.length → w.cell? ⟨b, o + j, none⟩ = cs[j]?) → DAt S w b o avs
  | [], _, _, _, _, _ => trivial
  | a :: avs, _, o, ⟨v, r, h1, h2, h3⟩, hone, hc => by
    subst h1
    refine ⟨⟨v, by simpa using hc 0 (by simp), hone v (by simp), h2⟩, DAt_of avs r (o + 1) h3 (fun u hu => hone u (List.mem_cons_of_mem _ hu)) fun j hj => ?_⟩
    have := hc (j + 1) (by simpa using hj)
    rw [show o + 1 + j = o + (j + 1) from by omega]; simpa using this

theorem opens_rows {fuel : Nat} {e : TypeId} {s : Shp} (h : Opens enc P w held bulk n e s) {b o len : Nat} (elems : List (DataW H × List MemPlace)) (hlen : elems.length = len) (hb : ∀ y ∈ elems, bulk y.1 ≤ n)
    (hx : ∀ i, i < len → (w.cells? 0 ⟨b, o + i * s.width, none⟩ s.width).bind (DataW.trod enc P w 0 (fun _ => true) held fuel e) = elems[i]?) : ∀ m i, i + m = len →
    ∃ xs, xs.length = m ∧ DRows none_ w b (o + i * s.width) s.width xs ∧ ∀ r ∈ xs, Fit n s r
  | 0, i, _ => ⟨[], rfl, trivial, by simp⟩
  | m + 1, i, him => by
    obtain ⟨xs, h1, h2, h3⟩ := opens_rows h elems hlen hb hx m (i + 1) (by omega)
    have hi : i < elems.length := by omega
    have hq := hx i (by omega)
    rw [List.getElem?_eq_getElem hi] at hq
    obtain ⟨cs, hc, hy⟩ := Option.bind_eq_some_iff.1 hq
    obtain ⟨avs, d1, o1, f1, l1⟩ := h _ _ _ hy (hb _ (List.getElem_mem hi))
    obtain ⟨g1, g2⟩ := cells_get hc
    refine ⟨avs :: xs, by simp [h1], ⟨l1, DAt_of avs cs _ d1 o1 fun j hj => g2 j (by omega), ?_⟩, ?_⟩
    · rw [Nat.add_assoc, ← Nat.succ_mul]; exact h2
    · intro r hr
      rcases List.mem_cons.1 hr with rfl | hr
      · exact f1
      · exact h3 r hr

/-- Every type that has a shape opens. -/
theorem opens (hB : Bulk bulk) (hn : n ≤ LIM) : ∀ (k : Nat) (t : TypeId) (s : Shp), tyShp P k t = some s → Opens enc P w held bulk n t s
  | 0, _, _, h => by simp [tyShp] at h
  | k + 1, t, s, h => by
    intro fuel cs x hx hbx
    simp only [tyShp] at h
    split at h <;> try (simp at h; done)
    · rename_i ht
      simp only [Option.some.injEq] at h; subst h
      obtain ⟨b, rfl, _⟩ := DataW.trod_bool ht hx
      exact ⟨[.lit (.bool b)], ⟨_, _, rfl, rfl, rfl⟩, by simp [Value.oneCell'], ⟨b, rfl⟩, rfl⟩
    · rename_i kk ht
      simp only [Option.some.injEq] at h; subst h
      obtain ⟨i, rfl, _, hw⟩ := DataW.trod_int ht hx
      exact ⟨[.lit (.int kk i)], ⟨_, _, rfl, rfl, rfl⟩, by simp [Value.oneCell'], ⟨i, rfl, hw⟩, rfl⟩
    · rename_i ht
      simp only [Option.some.injEq] at h; subst h
      obtain ⟨s, rfl, rfl, _⟩ := DataW.trod_string ht hx
      exact ⟨[.lit (.string s)], ⟨_, _, rfl, rfl, rfl⟩, by simp [Value.oneCell'], ⟨s, rfl, by
        have := hB.str s.data.toList
        simp only [Array.length_toList] at this
        exact Nat.le_trans this hbx⟩, rfl⟩
    · rename_i e ht
      split at h <;> try (simp at h; done)
      rename_i s' hs
      split at h <;> try (simp at h; done)
      rename_i hc
      simp only [Option.some.injEq] at h; subst h
      have ih := opens hB hn k e s' hs
      rcases DataW.trod_slice ht hx with ⟨rfl, rfl⟩ | ⟨a, len, cap, elems, rest, m, rfl, rfl, rfl, _, hlc, _, hel, hes, hrs, _⟩
      · exact ⟨[.ro s'.width [] false], ⟨_, _, rfl, ⟨none, 0, rfl, by simp, fun _ => rfl, Nat.le_refl _, Nat.zero_le _, .inl rfl⟩, rfl⟩, by simp [Value.oneCell'], ⟨[], rfl, Nat.zero_le _, by simp⟩, rfl⟩
      · obtain ⟨hrl, hrs⟩ := hrs rfl
        have hlen : len ≤ n := by
          have := hB.len (elems.map (·.1)) (rest.map (·.1))
          simp only [List.length_map] at this
          exact hel ▸ Nat.le_trans this hbx
        rcases Nat.eq_zero_or_pos len with h0 | hpos
        · subst h0
          exact ⟨[.ro s'.width [] false], ⟨_, _, rfl, ⟨some a, cap, rfl, by simp, by simp, Nat.zero_le _, Nat.zero_le _, .inl rfl⟩, rfl⟩, by simp [Value.oneCell'], ⟨[], rfl, Nat.zero_le _, by simp⟩, rfl⟩
        · have hsome : ∀ i, i < cap → ∃ cs', w.cells? 0 (a.add (i * P.cellsOf e)) (P.cellsOf e) = some cs' := by
            intro i hi
            rcases Nat.lt_or_ge i len with hl | hl
            · have := hes i hl
              rw [List.getElem?_eq_getElem (by omega)] at this
              obtain ⟨cs', hc', _⟩ := Option.bind_eq_some_iff.1 this
              exact ⟨cs', hc'⟩
            · have := hrs (i - len) (by omega)
              rw [List.getElem?_eq_getElem (by omega), show len + (i - len) = i from by omega] at this
              obtain ⟨cs', hc', _⟩ := Option.bind_eq_some_iff.1 this
              exact ⟨cs', hc'⟩
          have hsp : a.spot = none := by
            obtain ⟨cs', hc'⟩ := hsome 0 (by omega)
            unfold World.cells? at hc'
            simp only [Nat.zero_le, if_true] at hc'
            have h1 := mapM_some_get hc' 0 0 (by rw [List.getElem?_range (by omega)])
            have hl := mapM_some_length hc'
            simp only [List.length_range] at hl
            rw [List.getElem?_eq_getElem (by omega)] at h1
            have := cell_spot h1
            simp only [Nat.zero_mul] at this
            cases a with
            | mk b o sp =>
              cases sp with
              | none => rfl
              | some z => simp [Addr.add] at this
          obtain ⟨b, o, sp⟩ := a
          simp only at hsp; subst hsp
          simp only [Addr.add_none, hc.1] at hes hsome
          obtain ⟨xs, x1, x2, x3⟩ := opens_rows ih (b := b) (o := o) (len := len) elems hel (fun y hy => Nat.le_trans (hB.sl _ _ _ (List.mem_map_of_mem hy)) hbx) hes len 0 (by omega)
          rw [Nat.zero_mul, Nat.add_zero] at x2
          have hlast : ∃ v, w.cell? ⟨b, o + (cap - 1) * s'.width + (s'.width - 1), none⟩ = some v := by
            obtain ⟨cs', hc'⟩ := hsome (cap - 1) (by omega)
            obtain ⟨g1, g2⟩ := cells_get hc'
            exact ⟨cs'[s'.width - 1]'(by omega), by rw [g2 _ (by omega), List.getElem?_eq_getElem (by omega)]⟩
          obtain ⟨v, hv⟩ := hlast
          have hbl := lt_of_cell hv
          have hbsz : o + cap * s'.width ≤ bsz w b := by
            unfold World.cell? at hv
            unfold bsz
            split at hv <;> try (simp at hv; done)
            rename_i c ty fr hb
            simp only at hb
            rw [hb]
            simp only [Option.isSome_none, Bool.false_eq_true, if_false] at hv
            have := (Array.getElem?_eq_some_iff.1 hv).1
            have e1 : (cap - 1 + 1) * s'.width = (cap - 1) * s'.width + s'.width := Nat.succ_mul _ _
            rw [show cap - 1 + 1 = cap from by omega] at e1
            have hw0 : 0 < s'.width := hc.2
            show o + cap * s'.width ≤ c.size
            omega
          refine ⟨[.ro s'.width xs false], ⟨_, _, rfl, ⟨some ⟨b, o, none⟩, cap, by rw [x1], by simp, by simp, by omega, by omega, .inr ⟨b, o, rfl, fun h => h, hbl, hbsz, x2⟩⟩, rfl⟩, by simp [Value.oneCell'], ⟨xs, rfl, by omega, x3⟩, rfl⟩
    · rename_i fs ht
      split at h <;> try (simp at h; done)
      rename_i ss hss
      split at h <;> try (simp at h; done)
      rename_i hc
      simp only [Option.some.injEq] at h; subst h
      obtain ⟨xs, m, rfl, rfl, hl, hxl, hfs⟩ := DataW.trod_struct ht hx
      have := opens_fields (enc := enc) (P := P) (w := w) (held := held) (bulk := bulk) (n := n) (fuel := m) (fun t s hs => opens hB hn k t s hs) fs.toList ss 0 cs hss (by omega) (fun f hf => by
        obtain ⟨i, hi⟩ := List.mem_iff_getElem?.1 hf
        have hi' : fs[i]? = some f := by simpa using hi
        have hq := hfs i f hi'
        have hlt : i < xs.length := by have := (Array.getElem?_eq_some_iff.1 hi').1; omega
        rw [List.getElem?_eq_getElem hlt] at hq
        exact ⟨_, hq, Nat.le_trans (hB.agg _ _ (List.mem_map_of_mem (List.getElem_mem hlt))) hbx⟩)
      simpa [Shp.width, Fit] using this
    · rename_i m e ht
      split at h <;> try (simp at h; done)
      rename_i s' hs
      split at h <;> try (simp at h; done)
      rename_i hc
      simp only [Option.some.injEq] at h; subst h
      obtain ⟨xs, q, rfl, rfl, hl, hxl, hfs⟩ := DataW.trod_array ht hx
      have := opens_array (enc := enc) (P := P) (w := w) (held := held) (bulk := bulk) (n := n) (fuel := q) (opens hB hn k e s' hs) m 0 cs (by rw [hl, hc.2, Nat.zero_add]) (fun j hj => by
        have hq := hfs j hj
        have hlt : j < xs.length := by omega
        rw [List.getElem?_eq_getElem hlt, hc.1] at hq
        exact ⟨_, by rw [Nat.zero_add]; exact hq, Nat.le_trans (hB.agg _ _ (List.mem_map_of_mem (List.getElem_mem hlt))) hbx⟩)
      simpa [Shp.width, Fit] using this

end
end Go.Am
end PartAmOpen
