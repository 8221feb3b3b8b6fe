/- A part of the proof: contracts of functions, each proved once. -/
import Derived.Test.YtgbgmkacpjbilaaDoorT31
namespace Go.Eng.G
open Go Go.Eng Go.Proofs
set_option maxRecDepth 100000
set_option linter.unusedSimpArgs false
set_option linter.unusedSectionVars false
set_option linter.unusedVariables false
variable [GV]
theorem bits32 : 2 ^ IntKind.i32.bits = 4294967296 := by decide
theorem dec_and63 : ∀ x : Fin 256, andI .u8 (x.val : Int) 63 = (x.val : Int) % 64 := by decide
theorem dec_and31 : ∀ x : Fin 256, andI .u8 (x.val : Int) 31 = (x.val : Int) % 32 := by decide
theorem dec_and15 : ∀ x : Fin 256, andI .u8 (x.val : Int) 15 = (x.val : Int) % 16 := by decide
theorem dec_and7 : ∀ x : Fin 256, andI .u8 (x.val : Int) 7 = (x.val : Int) % 8 := by decide
theorem dec_or128 : ∀ x : Fin 64, orI .u8 128 (x.val : Int) = 128 + (x.val : Int) := by decide
theorem dec_or192 : ∀ x : Fin 32, orI .u8 192 (x.val : Int) = 192 + (x.val : Int) := by decide
theorem dec_or224 : ∀ x : Fin 16, orI .u8 224 (x.val : Int) = 224 + (x.val : Int) := by decide
theorem dec_or240 : ∀ x : Fin 8, orI .u8 240 (x.val : Int) = 240 + (x.val : Int) := by decide
theorem ofFin {n : Nat} {p : Int → Prop} (h : ∀ x : Fin n, p (x.val : Int)) {a : Int} (h0 : 0 ≤ a) (h1 : a < n) : p a := by
  have := h ⟨a.toNat, by omega⟩
  simpa [Int.toNat_of_nonneg h0] using this
theorem and63 {a : Int} (h0 : 0 ≤ a) (h1 : a < 256) : andI .u8 a 63 = a % 64 := ofFin (p := fun a => andI .u8 a 63 = a % 64) dec_and63 h0 h1
theorem and31 {a : Int} (h0 : 0 ≤ a) (h1 : a < 256) : andI .u8 a 31 = a % 32 := ofFin (p := fun a => andI .u8 a 31 = a % 32) dec_and31 h0 h1
theorem and15 {a : Int} (h0 : 0 ≤ a) (h1 : a < 256) : andI .u8 a 15 = a % 16 := ofFin (p := fun a => andI .u8 a 15 = a % 16) dec_and15 h0 h1
theorem and7 {a : Int} (h0 : 0 ≤ a) (h1 : a < 256) : andI .u8 a 7 = a % 8 := ofFin (p := fun a => andI .u8 a 7 = a % 8) dec_and7 h0 h1
theorem or128 {a : Int} (h0 : 0 ≤ a) (h1 : a < 64) : orI .u8 128 a = 128 + a := ofFin (p := fun a => orI .u8 128 a = 128 + a) dec_or128 h0 h1
theorem or192 {a : Int} (h0 : 0 ≤ a) (h1 : a < 32) : orI .u8 192 a = 192 + a := ofFin (p := fun a => orI .u8 192 a = 192 + a) dec_or192 h0 h1
theorem or224 {a : Int} (h0 : 0 ≤ a) (h1 : a < 16) : orI .u8 224 a = 224 + a := ofFin (p := fun a => orI .u8 224 a = 224 + a) dec_or224 h0 h1
theorem or240 {a : Int} (h0 : 0 ≤ a) (h1 : a < 8) : orI .u8 240 a = 240 + a := ofFin (p := fun a => orI .u8 240 a = 240 + a) dec_or240 h0 h1
theorem shrN {a : Int} {k : Nat} (h0 : 0 ≤ a) (hk : k ≤ 32) : shrI .i32 a (k : Nat) = a / 2 ^ k := by
  unfold shrI
  rw [Int.toNat_natCast, Nat.min_eq_left (by simpa [IntKind.bits] using hk), Int.fdiv_eq_ediv_of_nonneg _ (by exact Int.le_of_lt (Int.pow_pos (by decide)))]
theorem or32 {k : Nat} {a b : Int} (ha : 0 ≤ a) (hb : 0 ≤ b) (hb2 : b < 2 ^ k) (hs : a * 2 ^ k + b < 2147483648) : orI .i32 (a * 2 ^ k) b = a * 2 ^ k + b := by
  obtain ⟨a, rfl⟩ : ∃ n : Nat, a = n := ⟨a.toNat, by omega⟩
  obtain ⟨b, rfl⟩ : ∃ n : Nat, b = n := ⟨b.toNat, by omega⟩
  have hb3 : b < 2 ^ k := by exact_mod_cast hb2
  have hs2 : a * 2 ^ k + b < 2147483648 := by
    have e0 : ((a * 2 ^ k + b : Nat) : Int) = (a : Int) * 2 ^ k + b := by simp
    omega
  unfold orI
  have e1 : ((a : Int) * 2 ^ k) = ((2 ^ k * a : Nat) : Int) := by push_cast; exact Int.mul_comm _ _
  rw [e1, BitVec.ofInt_natCast, BitVec.ofInt_natCast, BitVec.toNat_or, BitVec.toNat_ofNat, BitVec.toNat_ofNat]
  have h1 : 2 ^ k * a % 2 ^ IntKind.i32.bits = 2 ^ k * a := Nat.mod_eq_of_lt (by rw [bits32, Nat.mul_comm]; omega)
  have h2 : b % 2 ^ IntKind.i32.bits = b := Nat.mod_eq_of_lt (by rw [bits32]; omega)
  rw [h1, h2, ← Nat.two_pow_add_eq_or_of_lt hb3, w32]
  · push_cast; rfl
  · omega
  · push_cast; rw [Int.mul_comm]; omega
theorem shl32 {a : Int} {k : Nat} (h0 : 0 ≤ a) (hk : k ≤ 32) (hs : a * 2 ^ k < 2147483648) : shlI .i32 a (k : Nat) = a * 2 ^ k := by
  unfold shlI
  rw [Int.toNat_natCast, Nat.min_eq_left (by simpa [IntKind.bits] using hk)]
  exact w32 (by have := Int.mul_nonneg h0 (Int.le_of_lt (Int.pow_pos (n := 2) (m := k) (by decide))); omega) (by omega)
theorem rune2_eq {a b : Int} (ha : 0 ≤ a) (ha2 : a < 256) (hb : 0 ≤ b) (hb2 : b < 256) : rune2 a b = a % 32 * 64 + b % 64 := by
  unfold rune2
  rw [and31 ha ha2, and63 hb hb2, w32 (by omega) (by omega), w32 (by omega) (by omega), show (6 : Int) = ((6 : Nat) : Int) from rfl, shl32 (by omega) (by omega) (by simp only [Int.reducePow]; omega), or32 (by omega) (by omega) (by simp only [Int.reducePow]; omega) (by simp only [Int.reducePow]; omega)]
  simp only [Int.reducePow]
theorem rune3_eq {a b c : Int} (ha : 0 ≤ a) (ha2 : a < 256) (hb : 0 ≤ b) (hb2 : b < 256) (hc : 0 ≤ c) (hc2 : c < 256) : rune3 a b c = a % 16 * 4096 + b % 64 * 64 + c % 64 := by
  unfold rune3
  rw [and15 ha ha2, and63 hb hb2, and63 hc hc2, w32 (by omega) (by omega), w32 (by omega) (by omega), w32 (by omega) (by omega), show (6 : Int) = ((6 : Nat) : Int) from rfl, show (12 : Int) = ((12 : Nat) : Int) from rfl,
    shl32 (by omega) (by omega) (by simp only [Int.reducePow]; omega), shl32 (by omega) (by omega) (by simp only [Int.reducePow]; omega)]
  rw [or32 (a := a % 16) (k := 12) (by omega) (by simp only [Int.reducePow]; omega) (by simp only [Int.reducePow]; omega) (by simp only [Int.reducePow]; omega)]
  rw [show a % 16 * 2 ^ 12 + b % 64 * 2 ^ 6 = (a % 16 * 64 + b % 64) * 2 ^ 6 by simp only [Int.reducePow]; omega]
  rw [or32 (by omega) (by omega) (by simp only [Int.reducePow]; omega) (by simp only [Int.reducePow]; omega)]
  simp only [Int.reducePow]; omega
theorem rune4_eq {a b c d : Int} (ha : 0 ≤ a) (ha2 : a < 256) (hb : 0 ≤ b) (hb2 : b < 256) (hc : 0 ≤ c) (hc2 : c < 256) (hd : 0 ≤ d) (hd2 : d < 256) : rune4 a b c d = a % 8 * 262144 + b % 64 * 4096 + c % 64 * 64 + d % 64 := by
  unfold rune4
  rw [and7 ha ha2, and63 hb hb2, and63 hc hc2, and63 hd hd2, w32 (by omega) (by omega), w32 (by omega) (by omega), w32 (by omega) (by omega), w32 (by omega) (by omega), show (6 : Int) = ((6 : Nat) : Int) from rfl, show (12 : Int) = ((12 : Nat) : Int) from rfl, show (18 : Int) = ((18 : Nat) : Int) from rfl,
    shl32 (by omega) (by omega) (by simp only [Int.reducePow]; omega), shl32 (by omega) (by omega) (by simp only [Int.reducePow]; omega), shl32 (by omega) (by omega) (by simp only [Int.reducePow]; omega)]
  rw [or32 (a := a % 8) (k := 18) (by omega) (by simp only [Int.reducePow]; omega) (by simp only [Int.reducePow]; omega) (by simp only [Int.reducePow]; omega)]
  rw [show a % 8 * 2 ^ 18 + b % 64 * 2 ^ 12 = (a % 8 * 64 + b % 64) * 2 ^ 12 by simp only [Int.reducePow]; omega]
  rw [or32 (by omega) (by simp only [Int.reducePow]; omega) (by simp only [Int.reducePow]; omega) (by simp only [Int.reducePow]; omega)]
  rw [show (a % 8 * 64 + b % 64) * 2 ^ 12 + c % 64 * 2 ^ 6 = (a % 8 * 4096 + b % 64 * 64 + c % 64) * 2 ^ 6 by simp only [Int.reducePow]; omega]
  rw [or32 (by omega) (by omega) (by simp only [Int.reducePow]; omega) (by simp only [Int.reducePow]; omega)]
  simp only [Int.reducePow]; omega
theorem u8m {a : Int} (h : 0 ≤ a) : IntKind.u8.wrap a = a % 256 := IntKind.wrap_u8 a
/-- A rune's bytes, in numbers. -/
def encN (r : Int) : List Int :=
  if r ≤ 127 then [r]
  else if r ≤ 2047 then [192 + r / 64, 128 + r % 64]
  else if r ≤ 65535 then [224 + r / 4096, 128 + r / 64 % 64, 128 + r % 64]
  else [240 + r / 262144, 128 + r / 4096 % 64, 128 + r / 64 % 64, 128 + r % 64]
theorem isRune_spec {r : Int} (h : isRuneG r = true) : 0 ≤ r ∧ r ≤ 1114111 ∧ (r < 55296 ∨ 57343 < r) := by
  simp only [isRuneG, Bool.and_eq_true, Bool.or_eq_true, decide_eq_true_eq] at h
  exact ⟨h.1.1, h.1.2, h.2⟩
theorem encG_eq {r : Int} (h : isRuneG r = true) : encG r = encN r := by
  obtain ⟨h0, h1, h2⟩ := isRune_spec h
  have hru : ru r = r := by unfold ru; rw [IntKind.wrap_u32]; omega
  have s6 : shrI .i32 r 6 = r / 64 := by have := shrN (a := r) (k := 6) h0 (by omega); simpa using this
  have s12 : shrI .i32 r 12 = r / 4096 := by have := shrN (a := r) (k := 12) h0 (by omega); simpa using this
  have s18 : shrI .i32 r 18 = r / 262144 := by have := shrN (a := r) (k := 18) h0 (by omega); simpa using this
  have t : ∀ a : Int, 0 ≤ a → orI .u8 128 (andI .u8 (IntKind.u8.wrap a) 63) = 128 + a % 64 := fun a ha => by
    rw [u8m ha, and63 (by omega) (by omega), or128 (by omega) (by omega)]; omega
  unfold encG encN
  rw [hru]
  by_cases c1 : r ≤ 127
  · rw [if_pos c1, if_pos c1, u8m h0]; congr 1; omega
  rw [if_neg c1, if_neg c1]
  by_cases c2 : r ≤ 2047
  · rw [if_pos c2, if_pos c2, s6, t r h0, u8m (by omega), or192 (by omega) (by omega)]; congr 1; omega
  rw [if_neg c2, if_neg c2]
  by_cases c3 : r ≤ 65535
  · rw [if_pos (by omega), if_pos c3, s6, s12, t r h0, t (r / 64) (by omega), u8m (by omega), or224 (by omega) (by omega)]; congr 1; omega
  rw [if_neg (by omega), if_neg c3, if_pos (by omega), s6, s12, s18, t r h0, t (r / 64) (by omega), t (r / 4096) (by omega), u8m (by omega), or240 (by omega) (by omega)]; congr 1; omega
end Go.Eng.G
