/- A part of the proof: contracts of functions, each proved once. -/
import Derived.Test.YtkbmagloekociaaM23
namespace Go.Eng.M
open Go Go.Eng Go.Proofs
set_option maxRecDepth 100000
set_option linter.unusedSimpArgs false
set_option linter.unusedSectionVars false
set_option linter.unusedVariables false
variable [Globs]
theorem loopM_succ {md : Md} {n : Nat} {s s' : MS} (hg : goesM s = true) (hs : stepM md s = some s') : loopM md (n + 1) s = (loopM md n s').map fun q => (q.1, q.2 + 1) := by
  rw [loopM, if_pos hg, hs]
  cases h : loopM md n s' <;> simp [h]
theorem loopM_stop {md : Md} {n : Nat} {s : MS} (hg : goesM s = false) : loopM md n s = some (s, 0) := by
  cases n with
  | zero => rfl
  | succ n => rw [loopM, if_neg (by simp [hg])]
theorem and_range (op m : Int) (h0 : 0 ≤ m) (hm : m < 9223372036854775808) : 0 ≤ andI .i64 op m ∧ andI .i64 op m ≤ m := by
  unfold andI
  have h1 : (BitVec.ofInt IntKind.i64.bits op &&& BitVec.ofInt IntKind.i64.bits m).toNat ≤ (BitVec.ofInt IntKind.i64.bits m).toNat := by
    rw [BitVec.toNat_and]; exact Nat.and_le_right
  have h2 : (BitVec.ofInt IntKind.i64.bits m).toNat = m.toNat := by
    rw [BitVec.toNat_ofInt]
    have e2 : ((2 ^ IntKind.i64.bits : Nat) : Int) = 18446744073709551616 := by decide
    have e : m % ((2 ^ IntKind.i64.bits : Nat) : Int) = m := Int.emod_eq_of_lt h0 (by rw [e2]; omega)
    rw [e]
  rw [w64 (by omega) (by omega)]
  omega
def cW (o a b : Int) : List Ins := [⟨1, 0⟩, ⟨1, a⟩, ⟨1, b⟩, ⟨o, 0⟩, ⟨23, 0⟩, ⟨27, 0⟩]
def mdW (o a b : Int) : Md := ⟨8, [], [⟨3, 0, 0, cW o a b⟩]⟩
/-- A module that isn't too long. -/
theorem encM_ok {m : Md} (hr : rightM m = true) (hl : (encB m).length ≤ 4096) : encM m = (encB m, 0) := by
  unfold encM
  rw [if_neg (by rw [hr]; decide), if_neg (by omega)]
theorem checkM_ok {m : Md} {fn : Fn} {r : List Fn} (hr : rightM m = true) (hl : (encB m).length ≤ 4096) (hf : m.funcs = fn :: r) (hp : fn.params = 3) (hq : fn.results = 0) (hc : chkF m 0 (fn :: r) = none) : checkM m = (0, 0, 0) := by
  unfold checkM
  rw [encM_ok hr hl, if_neg (by simp), hf]
  simp only
  rw [if_neg (by simp [hp, hq]), hc]
  rfl
theorem encB_len1 (mem : Int) (data : List Int) (fn : Fn) : (encB ⟨mem, data, [fn]⟩).length ≤ 14 + data.length + 11 * fn.code.length := by
  have h := flatMap_len encIns_len fn.code
  simp [encB, encFn, encHd] at h ⊢
  omega
theorem chkFW {o : Int} (h1 : 7 ≤ o) (h2 : o ≤ 18) (a b : Int) : chkF (mdW o a b) 0 [⟨3, 0, 0, cW o a b⟩] = none := by
  have ho : o = 7 ∨ o = 8 ∨ o = 9 ∨ o = 10 ∨ o = 11 ∨ o = 12 ∨ o = 13 ∨ o = 14 ∨ o = 15 ∨ o = 16 ∨ o = 17 ∨ o = 18 := by omega
  rcases ho with rfl | rfl | rfl | rfl | rfl | rfl | rfl | rfl | rfl | rfl | rfl | rfl <;> (show _ = _; kernel_rfl)
theorem effW {o : Int} (h1 : 7 ≤ o) (h2 : o ≤ 18) (a b : Int) : effM (mdW o a b) 0 ⟨o, 0⟩ = (2, 1, true) := by
  have ho : o = 7 ∨ o = 8 ∨ o = 9 ∨ o = 10 ∨ o = 11 ∨ o = 12 ∨ o = 13 ∨ o = 14 ∨ o = 15 ∨ o = 16 ∨ o = 17 ∨ o = 18 := by omega
  rcases ho with rfl | rfl | rfl | rfl | rfl | rfl | rfl | rfl | rfl | rfl | rfl | rfl <;> (show _ = _; kernel_rfl)
theorem rightW {o : Int} (h1 : 7 ≤ o) (h2 : o ≤ 18) (a b : Int) : rightM (mdW o a b) = true := by
  have ho : o = 7 ∨ o = 8 ∨ o = 9 ∨ o = 10 ∨ o = 11 ∨ o = 12 ∨ o = 13 ∨ o = 14 ∨ o = 15 ∨ o = 16 ∨ o = 17 ∨ o = 18 := by omega
  rcases ho with rfl | rfl | rfl | rfl | rfl | rfl | rfl | rfl | rfl | rfl | rfl | rfl <;> (show _ = _; kernel_rfl)
theorem chkW {o : Int} (h1 : 7 ≤ o) (h2 : o ≤ 18) (a b : Int) : checkM (mdW o a b) = (0, 0, 0) := by
  have hl := encB_len1 8 [] ⟨3, 0, 0, cW o a b⟩
  exact checkM_ok (fn := ⟨3, 0, 0, cW o a b⟩) (r := []) (rightW h1 h2 a b) (by simp [mdW, cW] at hl ⊢; omega) rfl rfl rfl (chkFW h1 h2 a b)
def mem8 : List Int := [0, 0, 0, 0, 0, 0, 0, 0]
def stW (k : Int) (st : List Int) (trap : Int) : MS := ⟨mem8, [⟨0, k, [0, 0, 0], st⟩], false, 0, [], trap⟩
theorem runW_some {o : Int} (h1 : 7 ≤ o) (h2 : o ≤ 18) (a b : Int) {v : Int} (hv : binM o a b = some v) : runM (mdW o a b) (stW 0 [] 0) 99 = some (⟨storeF mem8 0 v 8, [], false, 0, [], 0⟩, ⟨1, 0, 6, 0, []⟩) := by
  have e : loopM (mdW o a b) 99 (stW 0 [] 0) = some (⟨storeF mem8 0 v 8, [], false, 0, [], 0⟩, 6) := by
    rw [loopM_succ (s' := stW 1 [0] 0) (by kernel_rfl) (by kernel_rfl), loopM_succ (s' := stW 2 [0, a] 0) (by kernel_rfl) (by kernel_rfl), loopM_succ (s' := stW 3 [0, a, b] 0) (by kernel_rfl) (by kernel_rfl)]
    have h4 : stepM (mdW o a b) (stW 3 [0, a, b] 0) = some (stW 4 [0, v] 0) := by
      have hf : fetchM (mdW o a b) ⟨0, 3, [0, 0, 0], [0, a, b]⟩ = some ⟨o, 0⟩ := by kernel_rfl
      have he := effW h1 h2 a b
      simp [stepM, stW, hf, he, insM, h1, h2, hv, mem8]
    rw [loopM_succ (s' := stW 4 [0, v] 0) (by kernel_rfl) h4, loopM_succ (s' := ⟨storeF mem8 0 v 8, [⟨0, 5, [0, 0, 0], []⟩], false, 0, [], 0⟩) (by kernel_rfl) (by kernel_rfl), loopM_succ (s' := ⟨storeF mem8 0 v 8, [], false, 0, [], 0⟩) (by kernel_rfl) (by kernel_rfl), loopM_stop (by kernel_rfl)]
    rfl
  unfold runM
  rw [if_neg (by decide)]
  rw [show fuelM 99 = 99 from by decide, e]
  rfl
theorem runW_none {o : Int} (h1 : 7 ≤ o) (h2 : o ≤ 18) (a b : Int) (hv : binM o a b = none) : runM (mdW o a b) (stW 0 [] 0) 99 = some (stW 4 [0] 1, ⟨4, 1, 4, 0, []⟩) := by
  have e : loopM (mdW o a b) 99 (stW 0 [] 0) = some (stW 4 [0] 1, 4) := by
    rw [loopM_succ (s' := stW 1 [0] 0) (by kernel_rfl) (by kernel_rfl), loopM_succ (s' := stW 2 [0, a] 0) (by kernel_rfl) (by kernel_rfl), loopM_succ (s' := stW 3 [0, a, b] 0) (by kernel_rfl) (by kernel_rfl)]
    have h4 : stepM (mdW o a b) (stW 3 [0, a, b] 0) = some (stW 4 [0] 1) := by
      have hf : fetchM (mdW o a b) ⟨0, 3, [0, 0, 0], [0, a, b]⟩ = some ⟨o, 0⟩ := by kernel_rfl
      have he := effW h1 h2 a b
      simp [stepM, stW, hf, he, insM, h1, h2, hv, mem8]
    rw [loopM_succ (s' := stW 4 [0] 1) (by kernel_rfl) h4, loopM_stop (by kernel_rfl)]
    rfl
  unfold runM
  rw [if_neg (by decide)]
  rw [show fuelM 99 = 99 from by decide, e]
  rfl
end Go.Eng.M
