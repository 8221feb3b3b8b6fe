/- A part of the proof: contracts of functions, each proved once. -/
import Derived.Test.YtgbgmkacpjbilaaDoorT32
namespace Go.Eng.G
open Go Go.Eng Go.Proofs
set_option maxRecDepth 100000
set_option linter.unusedSimpArgs false
set_option linter.unusedSectionVars false
set_option linter.unusedVariables false
variable [GV]
theorem dec_enc {r : Int} (h : isRuneG r = true) : decG (encN r) = (r, ((encN r).length : Int)) := by
  obtain ⟨h0, h1, h2⟩ := isRune_spec h
  unfold encN
  by_cases c1 : r ≤ 127
  · rw [if_pos c1]
    have : r < 128 := by omega
    simp [decG, decC, wholeC, this]
    exact w32 (by omega) (by omega)
  rw [if_neg c1]
  by_cases c2 : r ≤ 2047
  · rw [if_pos c2]
    have e1 : ¬ 192 + r / 64 < 128 := by omega
    have e2 : 194 ≤ 192 + r / 64 := by omega
    have e3 : 192 + r / 64 ≤ 223 := by omega
    have e4 : (128 : Int) ≤ 128 + r % 64 := by omega
    have e5 : 128 + r % 64 ≤ 191 := by omega
    simp [decG, decC, wholeC, tailG, e1, e2, e3, e4, e5]
    rw [rune2_eq (by omega) (by omega) (by omega) (by omega)]
    omega
  rw [if_neg c2]
  by_cases c3 : r ≤ 65535
  · rw [if_pos c3]
    have e1 : ¬ 224 + r / 4096 < 128 := by omega
    have e2 : ¬ 224 + r / 4096 ≤ 223 := by omega
    have e3 : 224 ≤ 224 + r / 4096 := by omega
    have e4 : 224 + r / 4096 ≤ 239 := by omega
    have e5 : (if 224 + r / 4096 = 224 then (160 : Int) else 128) ≤ 128 + r / 64 % 64 := by split <;> omega
    have e6 : 128 + r / 64 % 64 ≤ (if 224 + r / 4096 = 237 then (159 : Int) else 191) := by split <;> omega
    have e7 : (128 : Int) ≤ 128 + r % 64 := by omega
    have e8 : 128 + r % 64 ≤ 191 := by omega
    have hw : wholeC [224 + r / 4096, 128 + r / 64 % 64, 128 + r % 64] (224 + r / 4096) = (3, rune3 (224 + r / 4096) (128 + r / 64 % 64) (128 + r % 64)) := by
      unfold wholeC
      rw [if_neg e1, if_neg (fun hh => e2 hh.2.1), if_pos ⟨e3, e4, by simp [tailG, e5, e6], by simp [tailG, e7, e8]⟩]
      rfl
    simp only [decG, List.getElem?_cons_zero, decC, hw]
    rw [rune3_eq (by omega) (by omega) (by omega) (by omega) (by omega) (by omega)]
    simp
    omega
  rw [if_neg c3]
  have e1 : ¬ 240 + r / 262144 < 128 := by omega
  have e2 : ¬ 240 + r / 262144 ≤ 223 := by omega
  have e2' : ¬ 240 + r / 262144 ≤ 239 := by omega
  have e3 : 240 ≤ 240 + r / 262144 := by omega
  have e4 : 240 + r / 262144 ≤ 244 := by omega
  have e5 : (if 240 + r / 262144 = 240 then (144 : Int) else 128) ≤ 128 + r / 4096 % 64 := by split <;> omega
  have e6 : 128 + r / 4096 % 64 ≤ (if 240 + r / 262144 = 244 then (143 : Int) else 191) := by split <;> omega
  have e7 : ∀ x : Int, (128 : Int) ≤ 128 + x % 64 := by intro x; omega
  have e8 : ∀ x : Int, 128 + x % 64 ≤ 191 := by intro x; omega
  have hw : wholeC [240 + r / 262144, 128 + r / 4096 % 64, 128 + r / 64 % 64, 128 + r % 64] (240 + r / 262144) = (4, rune4 (240 + r / 262144) (128 + r / 4096 % 64) (128 + r / 64 % 64) (128 + r % 64)) := by
    unfold wholeC
    rw [if_neg e1, if_neg (fun hh => e2 hh.2.1), if_neg (fun hh => e2' hh.2.1), if_pos ⟨e3, e4, by simp [tailG, e5, e6], by simp [tailG, e7, e8], by simp [tailG, e7, e8]⟩]
    rfl
  simp only [decG, List.getElem?_cons_zero, decC, hw]
  rw [rune4_eq (by omega) (by omega) (by omega) (by omega) (by omega) (by omega) (by omega) (by omega)]
  simp
  omega
theorem encN_ne (r : Int) : encN r ≠ [] := by
  unfold encN
  repeat' split
  all_goals simp
theorem decAll_enc {r : Int} (h : isRuneG r = true) : decAll (encN r) = [r] := by
  rw [decAll_cons (encN_ne r), dec_enc h]
  simp [decAll_nil]
/-- What goes on no rune. -/
def lead (b : Int) : Prop := b < 128 ∨ 191 < b
theorem enc_lead {r : Int} (h : isRuneG r = true) : ∃ b t, encN r = b :: t ∧ lead b := by
  obtain ⟨h0, h1, h2⟩ := isRune_spec h
  unfold encN lead
  by_cases c1 : r ≤ 127
  · rw [if_pos c1]; exact ⟨_, _, rfl, by omega⟩
  rw [if_neg c1]
  by_cases c2 : r ≤ 2047
  · rw [if_pos c2]; exact ⟨_, _, rfl, by omega⟩
  rw [if_neg c2]
  by_cases c3 : r ≤ 65535
  · rw [if_pos c3]; exact ⟨_, _, rfl, by omega⟩
  rw [if_neg c3]
  exact ⟨_, _, rfl, by omega⟩
theorem tail_bad {xs : List Int} {i : Nat} {b lo hi : Int} (hb : lead b) (h : xs[i]? = some b) (h1 : 128 ≤ lo) (h2 : hi ≤ 191) : tailG xs i lo hi = false := by
  unfold tailG lead at *
  rw [h]
  simp only [Bool.and_eq_false_iff, decide_eq_false_iff_not]
  omega
theorem dec_bad {a : Int} {rest : List Int} (h : (wholeC (a :: rest) a).1 = 0) : decAll (a :: rest) = 65533 :: decAll rest := by
  have : decG (a :: rest) = (65533, 1) := by simp [decG, decC, h]
  rw [decAll_cons (by simp), this]
  simp
theorem whole_cont {a : Int} {rest : List Int} (h1 : 128 ≤ a) (h2 : a < 194) : (wholeC (a :: rest) a).1 = 0 := by
  unfold wholeC
  rw [if_neg (by omega), if_neg (by omega), if_neg (by omega), if_neg (by omega)]
theorem lo3 (a : Int) : (128 : Int) ≤ (if a = 224 then 160 else 128) := by split <;> omega
theorem hi3 (a : Int) : (if a = 237 then (159 : Int) else 191) ≤ 191 := by split <;> omega
theorem lo4 (a : Int) : (128 : Int) ≤ (if a = 240 then 144 else 128) := by split <;> omega
theorem hi4 (a : Int) : (if a = 244 then (143 : Int) else 191) ≤ 191 := by split <;> omega
/-- A lead byte whose followers are missing. -/
theorem whole_lead {a b : Int} {xs : List Int} {i : Nat} (ha : 194 ≤ a) (hb : lead b) (h : xs[i]? = some b) (hi : (a ≤ 223 ∧ i = 1) ∨ (224 ≤ a ∧ a ≤ 239 ∧ (i = 1 ∨ i = 2)) ∨ (240 ≤ a ∧ (i = 1 ∨ i = 2 ∨ i = 3))) : (wholeC xs a).1 = 0 := by
  unfold wholeC
  rw [if_neg (by omega)]
  rcases hi with ⟨h1, rfl⟩ | ⟨h1, h2, rfl | rfl⟩ | ⟨h1, rfl | rfl | rfl⟩
  · rw [if_neg (fun hh => by rw [tail_bad hb h (by omega) (by omega)] at hh; exact absurd hh.2.2 (by simp)), if_neg (by omega), if_neg (by omega)]
  · rw [if_neg (by omega), if_neg (fun hh => by rw [tail_bad hb h (lo3 a) (hi3 a)] at hh; exact absurd hh.2.2.1 (by simp)), if_neg (by omega)]
  · rw [if_neg (by omega), if_neg (fun hh => by rw [tail_bad (i := 2) hb h (by omega) (by omega)] at hh; exact absurd hh.2.2.2 (by simp)), if_neg (by omega)]
  · rw [if_neg (by omega), if_neg (by omega), if_neg (fun hh => by rw [tail_bad hb h (lo4 a) (hi4 a)] at hh; exact absurd hh.2.2.1 (by simp))]
  · rw [if_neg (by omega), if_neg (by omega), if_neg (fun hh => by rw [tail_bad (i := 2) hb h (by omega) (by omega)] at hh; exact absurd hh.2.2.2.1 (by simp))]
  · rw [if_neg (by omega), if_neg (by omega), if_neg (fun hh => by rw [tail_bad (i := 3) hb h (by omega) (by omega)] at hh; exact absurd hh.2.2.2.2 (by simp))]
theorem dec_prefix {r s : Int} (hr : isRuneG r = true) (hs : isRuneG s = true) (n : Nat) (hn : n < (encN s).length) : decAll ((encN s).take n ++ encN r) = List.replicate n 65533 ++ [r] := by
  have hd := decAll_enc hr
  obtain ⟨b, t, he, hb⟩ := enc_lead hr
  obtain ⟨h0, h1, h2⟩ := isRune_spec hs
  rw [he] at hd ⊢
  unfold encN at hn ⊢
  by_cases c1 : s ≤ 127
  · rw [if_pos c1] at hn ⊢
    simp at hn; subst hn
    simpa using hd
  rw [if_neg c1] at hn ⊢
  by_cases c2 : s ≤ 2047
  · rw [if_pos c2] at hn ⊢
    simp at hn
    have : n = 0 ∨ n = 1 := by omega
    rcases this with rfl | rfl
    · simpa using hd
    · simp only [List.take_succ_cons, List.take_zero, List.cons_append, List.nil_append]
      rw [dec_bad (whole_lead (i := 1) (by omega) hb rfl (.inl ⟨by omega, rfl⟩)), hd]; rfl
  rw [if_neg c2] at hn ⊢
  by_cases c3 : s ≤ 65535
  · rw [if_pos c3] at hn ⊢
    simp at hn
    have : n = 0 ∨ n = 1 ∨ n = 2 := by omega
    rcases this with rfl | rfl | rfl
    · simpa using hd
    · simp only [List.take_succ_cons, List.take_zero, List.cons_append, List.nil_append]
      rw [dec_bad (whole_lead (i := 1) (by omega) hb rfl (.inr (.inl ⟨by omega, by omega, .inl rfl⟩))), hd]; rfl
    · simp only [List.take_succ_cons, List.take_zero, List.cons_append, List.nil_append]
      rw [dec_bad (whole_lead (i := 2) (by omega) hb rfl (.inr (.inl ⟨by omega, by omega, .inr rfl⟩))), dec_bad (whole_cont (by omega) (by omega)), hd]; rfl
  rw [if_neg c3] at hn ⊢
  simp at hn
  have : n = 0 ∨ n = 1 ∨ n = 2 ∨ n = 3 := by omega
  rcases this with rfl | rfl | rfl | rfl
  · simpa using hd
  · simp only [List.take_succ_cons, List.take_zero, List.cons_append, List.nil_append]
    rw [dec_bad (whole_lead (i := 1) (by omega) hb rfl (.inr (.inr ⟨by omega, .inl rfl⟩))), hd]; rfl
  · simp only [List.take_succ_cons, List.take_zero, List.cons_append, List.nil_append]
    rw [dec_bad (whole_lead (i := 2) (by omega) hb rfl (.inr (.inr ⟨by omega, .inr (.inl rfl)⟩))), dec_bad (whole_cont (by omega) (by omega)), hd]; rfl
  · simp only [List.take_succ_cons, List.take_zero, List.cons_append, List.nil_append]
    rw [dec_bad (whole_lead (i := 3) (by omega) hb rfl (.inr (.inr ⟨by omega, .inr (.inr rfl)⟩))), dec_bad (whole_cont (by omega) (by omega)), dec_bad (whole_cont (by omega) (by omega)), hd]; rfl
theorem encN_bytes {r : Int} (h : isRuneG r = true) : isBytes (encN r) = true ∧ 1 ≤ (encN r).length ∧ (encN r).length ≤ 4 := by
  obtain ⟨h0, h1, h2⟩ := isRune_spec h
  unfold encN
  by_cases c1 : r ≤ 127
  · rw [if_pos c1]; simp [isBytes]; omega
  rw [if_neg c1]
  by_cases c2 : r ≤ 2047
  · rw [if_pos c2]; simp [isBytes]; omega
  rw [if_neg c2]
  by_cases c3 : r ≤ 65535
  · rw [if_pos c3]; simp [isBytes]; omega
  rw [if_neg c3]
  simp [isBytes]; omega
end Go.Eng.G
