/- A part of the proof: contracts of functions, each proved once. -/
import Derived.Test.YtkbmagloekociaaM12
namespace Go.Eng.M
open Go Go.Eng Go.Proofs
set_option maxRecDepth 100000
set_option linter.unusedSimpArgs false
set_option linter.unusedSectionVars false
set_option linter.unusedVariables false
variable [Globs]
/-- Part of the memory, if it is there. -/
def memOk (len : Nat) (a n : Int) : Bool := decide (0 ≤ n) && decide (0 ≤ a) && decide (a ≤ len) && decide (n ≤ len - a)
def memP (mem : List Int) (a n : Int) : List Int := if memOk mem.length a n = true then (mem.drop a.toNat).take n.toNat else []
def sMemory : Spec where
  modes := []
  f := fun args H => match args with
    | [.ptr id [] 0 0, .v (.int .i64 a), .v (.int .i64 n)] => match mc H id with
      | some m => match unI .u8 m.mem with
        | some mem => if mem.length ≤ 2^40 then some (.tup [.ref H.length [] 1 0 (memP mem a n).length, .v (.bool (memOk mem.length a n))], H ++ [some (1, (memP mem a n).map (row1 .u8))]) else none
        | none => none
      | none => none
    | _ => none
noncomputable def sp15 : Nat → Option Spec
  | 36 => some (sCloneI .u8)
  | _ => none
theorem sp15_ok : ∀ f s, sp15 f = some s → Meets PP f s := by
  intro f s h
  unfold sp15 at h
  split at h
  · injection h with h; subst h; exact mClone36
  · cases h
set_option maxHeartbeats 4000000 in
theorem mMemory : Meets PP 15 (sMemory) := by
  refine meets (dr := drF tab15 PP sp15) (live := live15) fn15 rfl rfl rfl sp15_ok (fun base ak => drF_ok mixed sp15_ok _ base ak) ?_
  intro args H z H' h
  simp only [sMemory] at h
  repeat (split at h <;> try cases h)
  rename_i id a n _ m h1 _ mem hu hl
  refine ⟨(by decide : 3 ≤ 44), ?_⟩
  obtain ⟨c0, c1, c2, mem', rows, asks, call, args, trap⟩ := m
  have hu := unI_eq hu
  simp only at hu
  subst hu
  obtain ⟨hlt, h1, h1'⟩ := mc_eq h1
  have hl' : mem.length ≤ 1099511627776 := hl
  have hne3 : ∀ j, ¬ id = H.length + j := by omega
  have hne4 : ∀ j, ¬ H.length + j = id := by omega
  generalize kdirs sMemory.modes _ = ak
  by_cases hk : memOk mem.length a n = true
  · simp only [memOk, Bool.and_eq_true, decide_eq_true_eq] at hk
    obtain ⟨⟨⟨k1, k2⟩, k3⟩, k4⟩ := hk
    obtain ⟨a', rfl⟩ : ∃ a' : Nat, a = (a' : Int) := ⟨a.toNat, by omega⟩
    obtain ⟨n', rfl⟩ : ∃ n' : Nat, n = (n' : Int) := ⟨n.toNat, by omega⟩
    have e1 : ¬ (n' : Int) < 0 := by omega
    have e2 : ¬ (a' : Int) < 0 := by omega
    have e3 : ¬ (mem.length : Int) < (a' : Int) := by omega
    have e3' : ¬ mem.length < a' := by omega
    have e4 : ¬ (mem.length : Int) - a' < (n' : Int) := by omega
    have ew : IntKind.i64.wrap ((mem.length : Int) - a') = (mem.length : Int) - a' := w64 (by omega) (by omega)
    have ew2 : IntKind.i64.wrap ((a' : Int) + n') = (a' : Int) + n' := w64 (by omega) (by omega)
    have e5 : (0 : Int) ≤ (a' : Int) + n' := by omega
    have e6 : ((a' : Int) + n').toNat = a' + n' := by omega
    have e7 : a' + n' ≤ mem.length := by omega
    have e8 : a' ≤ mem.length := by omega
    have e9 : (n' : Int) ≤ (mem.length : Int) - a' := by omega
    have hsl : ∀ G : Hp, slcI .u8 (H ++ G) (.ref id [(0, 3)] 1 a' n') = some ((mem.drop a').take n') := by
      intro G
      unfold slcI
      simp [h1', hlt, Mc.cells, e7, part]
      rw [← List.map_drop, ← List.map_take, unI_map]
    have e10 : min n' (mem.length - a') ≤ 8796093022208 := by omega
    simp [h1, h1', hlt, Mc.cells, e1, e2, e3, e3', e4, ew, ew2, e5, e6, e7, e8, e9, e10, hsl, sp15, sCloneI, fresh, memP, memOk]
  · have hb : (decide (n < 0) || decide (a < 0) || decide ((mem.length : Int) < a) || decide (IntKind.i64.wrap ((mem.length : Int) - a) < n)) = true := by
      simp only [memOk, Bool.and_eq_true, decide_eq_true_eq] at hk
      by_cases ha : 0 ≤ a ∧ a ≤ (mem.length : Int)
      · rw [w64 (by omega) (by omega)]; simp only [Bool.or_eq_true, decide_eq_true_eq]; omega
      · simp only [Bool.or_eq_true, decide_eq_true_eq]; omega
    have hk2 : memOk mem.length a n = false := by simpa using hk
    simp [h1, h1', hlt, Mc.cells, hb, memP, hk2]
end Go.Eng.M
