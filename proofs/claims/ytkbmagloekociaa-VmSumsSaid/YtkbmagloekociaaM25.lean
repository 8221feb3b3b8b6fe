/- A part of the proof: contracts of functions, each proved once. -/
import Derived.Test.YtkbmagloekociaaM24
namespace Go.Eng.M
open Go Go.Eng Go.Proofs
set_option maxRecDepth 100000
set_option linter.unusedSimpArgs false
set_option linter.unusedSectionVars false
set_option linter.unusedVariables false
variable [Globs]
theorem ofInt64 {x : Int} (h0 : 0 ≤ x) (h1 : x < 18446744073709551616) : (BitVec.ofInt IntKind.u64.bits x).toNat = x.toNat := by
  rw [BitVec.toNat_ofInt]
  have e2 : ((2 ^ IntKind.u64.bits : Nat) : Int) = 18446744073709551616 := by decide
  rw [Int.emod_eq_of_lt h0 (by rw [e2]; omega)]
theorem u64id {x : Int} (h0 : 0 ≤ x) (h1 : x < 18446744073709551616) : IntKind.u64.wrap x = x := by rw [IntKind.wrap_u64]; omega
/-- Or, where no bit is in both. -/
theorem or_add (i : Nat) {lo hi : Int} (h0 : 0 ≤ lo) (h1 : lo < 2 ^ i) (h2 : 0 ≤ hi) (h3 : lo + 2 ^ i * hi < 18446744073709551616) : orI .u64 (2 ^ i * hi) lo = lo + 2 ^ i * hi ∧ orI .u64 lo (2 ^ i * hi) = lo + 2 ^ i * hi := by
  have hp : (0 : Int) < 2 ^ i := Int.pow_pos (by decide)
  have hm : 0 ≤ (2 : Int) ^ i * hi := Int.mul_nonneg (by omega) h2
  obtain ⟨a, rfl⟩ : ∃ a : Nat, lo = (a : Int) := ⟨lo.toNat, by omega⟩
  obtain ⟨b, rfl⟩ : ∃ b : Nat, hi = (b : Int) := ⟨hi.toNat, by omega⟩
  have e : (2 : Int) ^ i * (b : Int) = ((2 ^ i * b : Nat) : Int) := by simp
  rw [e] at h3 hm ⊢
  have ha : a < 2 ^ i := by have : ((2 ^ i : Nat) : Int) = (2 : Int) ^ i := by simp
                            omega
  have hor := Nat.two_pow_add_eq_or_of_lt ha b
  unfold orI
  rw [BitVec.toNat_or, BitVec.toNat_or, ofInt64 (by omega) (by omega), ofInt64 (by omega) (by omega), Int.toNat_natCast, Int.toNat_natCast, Nat.or_comm a, ← hor]
  exact ⟨by rw [u64id (by omega) (by omega)]; omega, by rw [u64id (by omega) (by omega)]; omega⟩
theorem shl_u64 (u : Int) (k : Nat) (hk : k ≤ 64) : shlI .u64 u (k : Int) = IntKind.u64.wrap (u * 2 ^ k) := by
  unfold shlI
  have : min ((k : Int)).toNat IntKind.u64.bits = k := by
    have : IntKind.u64.bits = 64 := rfl
    rw [this]; omega
  rw [this]
def joinF (c : List Int) : Nat → Int
  | 0 => 0
  | k + 1 => orI .u64 (shlI .u64 (joinF c k) 8) (IntKind.u64.wrap (c.getD (7 - k) 0))
theorem or_shl8 {u b : Int} (h0 : 0 ≤ u) (h1 : u < 72057594037927936) (b0 : 0 ≤ b) (b1 : b < 256) : orI .u64 (shlI .u64 u 8) (IntKind.u64.wrap b) = 256 * u + b := by
  have h := shl_u64 u 8 (by decide)
  have e : (2 : Int) ^ 8 = 256 := by decide
  rw [e] at h
  rw [show shlI .u64 u 8 = _ from h, u64id (by omega) (by omega), u64id (by omega) (by omega)]
  have := (or_add 8 (lo := b) (hi := u) b0 (by rw [e]; exact b1) h0 (by rw [e]; omega)).1
  rw [e] at this
  rw [Int.mul_comm u 256, this]; omega
/-- A number's bytes. -/
def byteI (v : Int) (k : Nat) : Int := IntKind.u8.wrap (shrI .i64 v (8 * (k : Int)))
theorem byteI_range (v : Int) (k : Nat) : 0 ≤ byteI v k ∧ byteI v k < 256 := by
  unfold byteI
  rw [IntKind.wrap_u8]; omega
theorem shr_i64 (v : Int) (k : Nat) (hk : k ≤ 64) : shrI .i64 v (k : Int) = v / 2 ^ k := by
  unfold shrI
  have : min ((k : Int)).toNat IntKind.i64.bits = k := by
    have : IntKind.i64.bits = 64 := rfl
    rw [this]; omega
  rw [this, Int.fdiv_eq_ediv_of_nonneg _ (Int.le_of_lt (Int.pow_pos (by decide)))]
theorem byteI_eq (v : Int) (k : Nat) (hk : k ≤ 8) : byteI v k = v / 2 ^ (8 * k) % 256 := by
  unfold byteI
  have := shr_i64 v (8 * k) (by omega)
  rw [show (8 * (k : Int)) = ((8 * k : Nat) : Int) by omega, this, IntKind.wrap_u8]
theorem join_bytes (v : Int) (h0 : -9223372036854775808 ≤ v) (h1 : v ≤ 9223372036854775807) (c : List Int) (hc : ∀ k, k < 8 → c.getD k 0 = byteI v k) : IntKind.i64.wrap (joinF c 8) = v := by
  have b := fun k => byteI_range v k
  have e0 := byteI_eq v 0 (by decide)
  have e1 := byteI_eq v 1 (by decide)
  have e2 := byteI_eq v 2 (by decide)
  have e3 := byteI_eq v 3 (by decide)
  have e4 := byteI_eq v 4 (by decide)
  have e5 := byteI_eq v 5 (by decide)
  have e6 := byteI_eq v 6 (by decide)
  have e7 := byteI_eq v 7 (by decide)
  simp only [Nat.reduceMul, Int.reducePow, Int.ediv_one] at e0 e1 e2 e3 e4 e5 e6 e7
  have r0 := b 0
  have r1 := b 1
  have r2 := b 2
  have r3 := b 3
  have r4 := b 4
  have r5 := b 5
  have r6 := b 6
  have r7 := b 7
  simp only [joinF, hc 7 (by decide), hc 6 (by decide), hc 5 (by decide), hc 4 (by decide), hc 3 (by decide), hc 2 (by decide), hc 1 (by decide), hc 0 (by decide), Nat.sub_self, Nat.reduceSub, Nat.sub_zero]
  generalize byteI v 0 = x0 at *
  generalize byteI v 1 = x1 at *
  generalize byteI v 2 = x2 at *
  generalize byteI v 3 = x3 at *
  generalize byteI v 4 = x4 at *
  generalize byteI v 5 = x5 at *
  generalize byteI v 6 = x6 at *
  generalize byteI v 7 = x7 at *
  rw [or_shl8 (u := 0) (by omega) (by omega) (by omega) (by omega)]
  rw [or_shl8 (b := x6) (by omega) (by omega) (by omega) (by omega)]
  rw [or_shl8 (b := x5) (by omega) (by omega) (by omega) (by omega)]
  rw [or_shl8 (b := x4) (by omega) (by omega) (by omega) (by omega)]
  rw [or_shl8 (b := x3) (by omega) (by omega) (by omega) (by omega)]
  rw [or_shl8 (b := x2) (by omega) (by omega) (by omega) (by omega)]
  rw [or_shl8 (b := x1) (by omega) (by omega) (by omega) (by omega)]
  rw [or_shl8 (b := x0) (by omega) (by omega) (by omega) (by omega)]
  rw [IntKind.wrap_i64]
  have q1 : v / 65536 = v / 256 / 256 := by omega
  have q2 : v / 16777216 = v / 65536 / 256 := by omega
  have q3 : v / 4294967296 = v / 16777216 / 256 := by omega
  have q4 : v / 1099511627776 = v / 4294967296 / 256 := by omega
  have q5 : v / 281474976710656 = v / 1099511627776 / 256 := by omega
  have q6 : v / 72057594037927936 = v / 281474976710656 / 256 := by omega
  omega
end Go.Eng.M
