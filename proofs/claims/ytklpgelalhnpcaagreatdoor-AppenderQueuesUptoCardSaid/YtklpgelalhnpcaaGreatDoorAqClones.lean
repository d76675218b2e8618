/- AppenderQueues (16.1): the files AqClones, one after the other; each says ahead of its text what it shows and under which conditions. -/
import Derived.Test.YtklpgelalhnpcaaGreatDoorKit4
import Derived.Test.YtklpgelalhnpcaaGreatDoorAqTab
set_option linter.all false

section PartAqClones
/- The contracts of slices.Clone and bytes.Clone in this seat: printed by program (wip/gen/clones.py). -/
namespace Go.Am
open Go Go.Proofs
set_option maxRecDepth 1000000

def BIG : Nat := 2 ^ 21

/-- A clone that is its caller's own. -/
def cloneE (f n : Nat) : SEnt := ⟨f, fun
  | [.ro m xs false] => if Nat.beq m n = true then some (.own 0 1 0 xs.length false, [.arr n 1 xs], [xs.length ≤ BIG, xs.all dataAll = true]) else none
  | _ => none⟩

theorem cloneE_ok {P : Program} {f n : Nat} (h : ∀ xs : List (List AV), xs.length ≤ BIG → FC P f [.ro n xs false] hnil (.own 0 1 0 xs.length false) (hof [.arr n 1 xs])) : (cloneE f n).Ok P := by
  intro az v Bs obs hgo ho
  simp only [cloneE] at hgo
  split at hgo <;> try (simp at hgo; done)
  rename_i m xs
  split at hgo <;> try (simp at hgo; done)
  rename_i hm
  have hm := Nat.eq_of_beq_eq_true hm
  subst hm
  simp only [Option.some.injEq, Prod.mk.injEq] at hgo; obtain ⟨rfl, rfl, rfl⟩ := hgo
  refine ⟨h xs (ho _ List.mem_cons_self), rfl, fun B hB => ?_⟩
  rw [List.mem_singleton.1 hB]
  exact Flat.arr (ho _ (List.mem_cons_of_mem _ (List.mem_singleton.2 rfl)))

/-- A clone as data. -/
def copyE (f n : Nat) : SEnt := ⟨f, fun
  | [.ro m xs false] => if Nat.beq m n = true then some (.ro n xs false, [], [xs.length ≤ BIG, xs.all dataAll = true]) else none
  | _ => none⟩

theorem copyE_ok {P : Program} {f n : Nat} (h : ∀ xs : List (List AV), xs.length ≤ BIG → FC P f [.ro n xs false] hnil (.own 0 1 0 xs.length false) (hof [.arr n 1 xs])) : (copyE f n).Ok P := by
  intro az v Bs obs hgo ho
  simp only [copyE] at hgo
  split at hgo <;> try (simp at hgo; done)
  rename_i m xs
  split at hgo <;> try (simp at hgo; done)
  rename_i hm
  have hm := Nat.eq_of_beq_eq_true hm
  subst hm
  simp only [Option.some.injEq, Prod.mk.injEq] at hgo; obtain ⟨rfl, rfl, rfl⟩ := hgo
  have hlen := ho _ List.mem_cons_self
  have hdat := ho _ (List.mem_cons_of_mem _ (List.mem_singleton.2 rfl))
  refine ⟨?_, rfl, by simp⟩
  have := FC.frz (h xs hlen) (v' := .ro m xs false) (obs := [1 = 1, xs.length ≤ LIM, xs.all dataAll = true]) (by simp [Am.frz, hof]) (fun q hq => by
    simp only [List.mem_cons, List.mem_nil_iff, or_false] at hq
    rcases hq with rfl | rfl | rfl
    · first | rfl | trivial
    · unfold BIG at hlen; unfold LIM; omega
    · exact hdat)
  rw [hof_nil]; exact this

theorem clone25 (xs : List (List AV)) (hl : xs.length ≤ BIG) : FC Tryz.prog 25 [.ro 1 xs false] hnil (.own 0 1 0 xs.length false) (hof [.arr 1 1 xs]) := by
  refine FC.clone (runB_ok mixed (effQ_ok .nil) Tryz.func25 (sc := [.dec true]) (v := .lit (.slice none 0 0)) (L := []) (obs := [(none : Option Addr).isNone = true]) (by kernel_rfl) ⟨rfl, trivial⟩) ?_
  have := runB_ok mixed (effQ_ok .nil) Tryz.func25 (args := [.ro 1 xs true]) (sc := [.dec false]) (v := .own 0 1 0 (0 + xs.length) true) (L := [.arr 1 1 xs])
    (obs := [false = false, 0 = 0, (2 * (0 + xs.length) + 1024) * 1 ≤ 2 ^ 48]) (by kernel_rfl) ⟨rfl, rfl, by unfold BIG at hl; omega, trivial⟩
  rwa [Nat.zero_add] at this
theorem clone25E : (cloneE 25 1).Ok Tryz.prog := cloneE_ok clone25
theorem copy25E : (copyE 25 1).Ok Tryz.prog := copyE_ok clone25

theorem clone61 (xs : List (List AV)) (hl : xs.length ≤ BIG) : FC Tryz.prog 61 [.ro 1 xs false] hnil (.own 0 1 0 xs.length false) (hof [.arr 1 1 xs]) := by
  refine FC.clone (runB_ok mixed (effQ_ok .nil) Tryz.func61 (sc := [.dec true]) (v := .lit (.slice none 0 0)) (L := []) (obs := [(none : Option Addr).isNone = true]) (by kernel_rfl) ⟨rfl, trivial⟩) ?_
  have := runB_ok mixed (effQ_ok .nil) Tryz.func61 (args := [.ro 1 xs true]) (sc := [.dec false]) (v := .own 0 1 0 (0 + xs.length) true) (L := [.arr 1 1 xs])
    (obs := [false = false, 0 = 0, (2 * (0 + xs.length) + 1024) * 1 ≤ 2 ^ 48]) (by kernel_rfl) ⟨rfl, rfl, by unfold BIG at hl; omega, trivial⟩
  rwa [Nat.zero_add] at this
theorem clone61E : (cloneE 61 1).Ok Tryz.prog := cloneE_ok clone61
theorem copy61E : (copyE 61 1).Ok Tryz.prog := copyE_ok clone61

theorem clone83 (xs : List (List AV)) (hl : xs.length ≤ BIG) : FC Tryz.prog 83 [.ro 5 xs false] hnil (.own 0 1 0 xs.length false) (hof [.arr 5 1 xs]) := by
  refine FC.clone (runB_ok mixed (effQ_ok .nil) Tryz.func83 (sc := [.dec true]) (v := .lit (.slice none 0 0)) (L := []) (obs := [(none : Option Addr).isNone = true]) (by kernel_rfl) ⟨rfl, trivial⟩) ?_
  have := runB_ok mixed (effQ_ok .nil) Tryz.func83 (args := [.ro 5 xs true]) (sc := [.dec false]) (v := .own 0 1 0 (0 + xs.length) true) (L := [.arr 5 1 xs])
    (obs := [false = false, 0 = 0, (2 * (0 + xs.length) + 1024) * 56 ≤ 2 ^ 48]) (by kernel_rfl) ⟨rfl, rfl, by unfold BIG at hl; omega, trivial⟩
  rwa [Nat.zero_add] at this
theorem clone83E : (cloneE 83 5).Ok Tryz.prog := cloneE_ok clone83
theorem copy83E : (copyE 83 5).Ok Tryz.prog := copyE_ok clone83

theorem clone84 (xs : List (List AV)) (hl : xs.length ≤ BIG) : FC Tryz.prog 84 [.ro 2 xs false] hnil (.own 0 1 0 xs.length false) (hof [.arr 2 1 xs]) := by
  refine FC.clone (runB_ok mixed (effQ_ok .nil) Tryz.func84 (sc := [.dec true]) (v := .lit (.slice none 0 0)) (L := []) (obs := [(none : Option Addr).isNone = true]) (by kernel_rfl) ⟨rfl, trivial⟩) ?_
  have := runB_ok mixed (effQ_ok .nil) Tryz.func84 (args := [.ro 2 xs true]) (sc := [.dec false]) (v := .own 0 1 0 (0 + xs.length) true) (L := [.arr 2 1 xs])
    (obs := [false = false, 0 = 0, (2 * (0 + xs.length) + 1024) * 32 ≤ 2 ^ 48]) (by kernel_rfl) ⟨rfl, rfl, by unfold BIG at hl; omega, trivial⟩
  rwa [Nat.zero_add] at this
theorem clone84E : (cloneE 84 2).Ok Tryz.prog := cloneE_ok clone84
theorem copy84E : (copyE 84 2).Ok Tryz.prog := copyE_ok clone84

theorem clone85 (xs : List (List AV)) (hl : xs.length ≤ BIG) : FC Tryz.prog 85 [.ro 4 xs false] hnil (.own 0 1 0 xs.length false) (hof [.arr 4 1 xs]) := by
  refine FC.clone (runB_ok mixed (effQ_ok .nil) Tryz.func85 (sc := [.dec true]) (v := .lit (.slice none 0 0)) (L := []) (obs := [(none : Option Addr).isNone = true]) (by kernel_rfl) ⟨rfl, trivial⟩) ?_
  have := runB_ok mixed (effQ_ok .nil) Tryz.func85 (args := [.ro 4 xs true]) (sc := [.dec false]) (v := .own 0 1 0 (0 + xs.length) true) (L := [.arr 4 1 xs])
    (obs := [false = false, 0 = 0, (2 * (0 + xs.length) + 1024) * 40 ≤ 2 ^ 48]) (by kernel_rfl) ⟨rfl, rfl, by unfold BIG at hl; omega, trivial⟩
  rwa [Nat.zero_add] at this
theorem clone85E : (cloneE 85 4).Ok Tryz.prog := cloneE_ok clone85
theorem copy85E : (copyE 85 4).Ok Tryz.prog := copyE_ok clone85

theorem clone86 (xs : List (List AV)) (hl : xs.length ≤ BIG) : FC Tryz.prog 86 [.ro 1 xs false] hnil (.own 0 1 0 xs.length false) (hof [.arr 1 1 xs]) := by
  refine FC.clone (runB_ok mixed (effQ_ok .nil) Tryz.func86 (sc := [.dec true]) (v := .lit (.slice none 0 0)) (L := []) (obs := [(none : Option Addr).isNone = true]) (by kernel_rfl) ⟨rfl, trivial⟩) ?_
  have := runB_ok mixed (effQ_ok .nil) Tryz.func86 (args := [.ro 1 xs true]) (sc := [.dec false]) (v := .own 0 1 0 (0 + xs.length) true) (L := [.arr 1 1 xs])
    (obs := [false = false, 0 = 0, (2 * (0 + xs.length) + 1024) * 8 ≤ 2 ^ 48]) (by kernel_rfl) ⟨rfl, rfl, by unfold BIG at hl; omega, trivial⟩
  rwa [Nat.zero_add] at this
theorem clone86E : (cloneE 86 1).Ok Tryz.prog := cloneE_ok clone86
theorem copy86E : (copyE 86 1).Ok Tryz.prog := copyE_ok clone86

theorem clone87 (xs : List (List AV)) (hl : xs.length ≤ BIG) : FC Tryz.prog 87 [.ro 1 xs false] hnil (.own 0 1 0 xs.length false) (hof [.arr 1 1 xs]) := by
  refine FC.clone (runB_ok mixed (effQ_ok .nil) Tryz.func87 (sc := [.dec true]) (v := .lit (.slice none 0 0)) (L := []) (obs := [(none : Option Addr).isNone = true]) (by kernel_rfl) ⟨rfl, trivial⟩) ?_
  have := runB_ok mixed (effQ_ok .nil) Tryz.func87 (args := [.ro 1 xs true]) (sc := [.dec false]) (v := .own 0 1 0 (0 + xs.length) true) (L := [.arr 1 1 xs])
    (obs := [false = false, 0 = 0, (2 * (0 + xs.length) + 1024) * 8 ≤ 2 ^ 48]) (by kernel_rfl) ⟨rfl, rfl, by unfold BIG at hl; omega, trivial⟩
  rwa [Nat.zero_add] at this
theorem clone87E : (cloneE 87 1).Ok Tryz.prog := cloneE_ok clone87
theorem copy87E : (copyE 87 1).Ok Tryz.prog := copyE_ok clone87
end Go.Am
end PartAqClones
