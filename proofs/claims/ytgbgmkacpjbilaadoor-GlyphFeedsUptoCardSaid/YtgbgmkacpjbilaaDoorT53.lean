/- A part of the proof: contracts of functions, each proved once. -/
import Derived.Test.YtgbgmkacpjbilaaDoorT51
namespace Go.Eng.G
open Go Go.Eng Go.Proofs
set_option maxRecDepth 100000
set_option linter.unusedSimpArgs false
set_option linter.unusedSectionVars false
set_option linter.unusedVariables false
variable [GV]
def lowC3 (c : Int) : Int := if c = 224 then 160 else 128
def highC3 (c : Int) : Int := if c = 237 then 159 else 191
def lowC4 (c : Int) : Int := if c = 240 then 144 else 128
def highC4 (c : Int) : Int := if c = 244 then 143 else 191
theorem w1 {b : List Int} {c : Int} (h : c < 128) : (wholeC b c).1 = 1 := by unfold wholeC; rw [if_pos h]
theorem w0 {b : List Int} {c : Int} (h : 128 ≤ c) (h2 : c < 194 ∨ 244 < c) : (wholeC b c).1 = 0 := by
  unfold wholeC; rw [if_neg (by omega), if_neg (by omega), if_neg (by omega), if_neg (by omega)]
theorem w2 {b : List Int} {c : Int} (h : 194 ≤ c) (h2 : c ≤ 223) : (wholeC b c).1 = if tailG b 1 128 191 = true then 2 else 0 := by
  unfold wholeC
  rw [if_neg (by omega)]
  by_cases t : tailG b 1 128 191 = true
  · rw [if_pos ⟨h, h2, t⟩, if_pos t]
  · rw [if_neg (fun hh => t hh.2.2), if_neg (by omega), if_neg (by omega), if_neg t]
theorem w3 {b : List Int} {c : Int} (h : 224 ≤ c) (h2 : c ≤ 239) : (wholeC b c).1 = if tailG b 1 (lowC3 c) (highC3 c) = true ∧ tailG b 2 128 191 = true then 3 else 0 := by
  unfold wholeC lowC3 highC3
  rw [if_neg (by omega), if_neg (by omega)]
  by_cases t : tailG b 1 (if c = 224 then 160 else 128) (if c = 237 then 159 else 191) = true ∧ tailG b 2 128 191 = true
  · rw [if_pos ⟨h, h2, t⟩, if_pos t]
  · rw [if_neg (fun hh => t hh.2.2), if_neg (by omega), if_neg t]
theorem w4 {b : List Int} {c : Int} (h : 240 ≤ c) (h2 : c ≤ 244) : (wholeC b c).1 = if tailG b 1 (lowC4 c) (highC4 c) = true ∧ tailG b 2 128 191 = true ∧ tailG b 3 128 191 = true then 4 else 0 := by
  unfold wholeC lowC4 highC4
  rw [if_neg (by omega), if_neg (by omega), if_neg (by omega)]
  by_cases t : tailG b 1 (if c = 240 then 144 else 128) (if c = 244 then 143 else 191) = true ∧ tailG b 2 128 191 = true ∧ tailG b 3 128 191 = true
  · rw [if_pos ⟨h, h2, t⟩, if_pos t]
  · rw [if_neg (fun hh => t hh.2.2), if_neg t]
theorem f1 {b : List Int} {c : Int} (h : c < 194 ∨ 244 < c) : fullC b c = true := by unfold fullC; rw [if_pos h]
theorem f2 {b : List Int} {c : Int} (h : 194 ≤ c) (h2 : c ≤ 223) : fullC b c = decide (2 ≤ b.length) := by unfold fullC; rw [if_neg (by omega), if_pos h2]
theorem f3 {b : List Int} {c : Int} (h : 224 ≤ c) (h2 : c ≤ 239) : fullC b c = (decide (3 ≤ b.length) || (decide (1 < b.length) && !tailG b 1 (lowC3 c) (highC3 c))) := by unfold fullC lowC3 highC3; rw [if_neg (by omega), if_neg (by omega), if_pos h2]
theorem f4 {b : List Int} {c : Int} (h : 240 ≤ c) (h2 : c ≤ 244) : fullC b c = (decide (4 ≤ b.length) || (decide (1 < b.length) && !tailG b 1 (lowC4 c) (highC4 c)) || (decide (2 < b.length) && !tailG b 2 128 191)) := by unfold fullC lowC4 highC4; rw [if_neg (by omega), if_neg (by omega), if_neg (by omega)]
theorem g1 (c : Int) (t : List Int) : wholeG (c :: t) = wholeC (c :: t) c := rfl
theorem tl1 (c d : Int) (t : List Int) (lo hi : Int) : tailG (c :: d :: t) 1 lo hi = (decide (lo ≤ d) && decide (d ≤ hi)) := rfl
theorem tl1' (c : Int) (lo hi : Int) : tailG [c] 1 lo hi = false := rfl
theorem tl2 (c d e : Int) (t : List Int) (lo hi : Int) : tailG (c :: d :: e :: t) 2 lo hi = (decide (lo ≤ e) && decide (e ≤ hi)) := rfl
theorem tl2' (c d : Int) (lo hi : Int) : tailG [c, d] 2 lo hi = false := rfl
theorem tl2'' (c : Int) (lo hi : Int) : tailG [c] 2 lo hi = false := rfl
theorem tl3 (c d e g : Int) (t : List Int) (lo hi : Int) : tailG (c :: d :: e :: g :: t) 3 lo hi = (decide (lo ≤ g) && decide (g ≤ hi)) := rfl
theorem tl3' (c d e : Int) (lo hi : Int) : tailG [c, d, e] 3 lo hi = false := rfl
theorem tl3'' (c d : Int) (lo hi : Int) : tailG [c, d] 3 lo hi = false := rfl
theorem tl3''' (c : Int) (lo hi : Int) : tailG [c] 3 lo hi = false := rfl
theorem full_begins (b : List Int) (h : b.length ≠ 0) : fullG b = !beginsG b := by
  cases b with
  | nil => simp at h
  | cons c t =>
    have hf : fullG (c :: t) = fullC (c :: t) c := rfl
    rw [hf]
    by_cases k0 : c < 128
    · have e : beginsG (c :: t) = false := by
        unfold beginsG
        by_cases h3 : (c :: t).length = 0 ∨ 3 < (c :: t).length
        · rw [if_pos h3]
        · rw [if_neg h3, if_pos (by rw [g1, w1 k0]; decide)]
      rw [e, f1 (by omega)]; rfl
    by_cases k1 : c < 194 ∨ 244 < c
    · have e : beginsG (c :: t) = false := by
        unfold beginsG
        by_cases h3 : (c :: t).length = 0 ∨ 3 < (c :: t).length
        · rw [if_pos h3]
        · rw [if_neg h3, if_neg (by rw [g1, w0 (by omega) k1]; decide)]
          unfold anyF
          rw [List.any_eq_false]
          intro f hf
          unfold okG
          rw [List.cons_append, g1, w0 (by omega) k1]
          simp
          omega
      rw [e, f1 k1]; rfl
    by_cases k2 : c ≤ 223
    · rw [f2 (by omega) k2]
      match t with
      | [] => simp [beginsG, anyF, fillsG, okG, g1, w2 (show 194 ≤ c by omega) k2, tl1, tl1']
      | [d] =>
        simp [beginsG, anyF, fillsG, okG, g1, w2 (show 194 ≤ c by omega) k2, tl1, tl1']
        by_cases hd : 128 ≤ d ∧ d ≤ 191 <;> simp [hd]
      | [d, e] =>
        simp [beginsG, anyF, fillsG, okG, g1, w2 (show 194 ≤ c by omega) k2, tl1, tl1']
        by_cases hd : 128 ≤ d ∧ d ≤ 191 <;> simp [hd]
      | d :: e :: g :: r => simp [beginsG]
    by_cases k3 : c ≤ 239
    · have lo : lowC3 c ≤ 160 ∧ 128 ≤ highC3 c := by unfold lowC3 highC3; constructor <;> split <;> omega
      have lo' : lowC3 c ≤ 128 ∨ 160 ≤ highC3 c := by unfold lowC3 highC3; split <;> split <;> omega
      rw [f3 (by omega) k3]
      match t with
      | [] =>
        simp [beginsG, anyF, fillsG, okG, g1, w3 (show 224 ≤ c by omega) k3, tl1, tl1', tl2, tl2', tl2'']
        omega
      | [d] =>
        simp [beginsG, anyF, fillsG, okG, g1, w3 (show 224 ≤ c by omega) k3, tl1, tl1', tl2, tl2', tl2'']
        by_cases hd : lowC3 c ≤ d ∧ d ≤ highC3 c <;> simp [hd] <;> omega
      | [d, e] =>
        simp [beginsG, anyF, fillsG, okG, g1, w3 (show 224 ≤ c by omega) k3, tl1, tl1', tl2, tl2', tl2'']
        by_cases hd : (lowC3 c ≤ d ∧ d ≤ highC3 c) ∧ 128 ≤ e ∧ e ≤ 191 <;> simp [hd]
      | d :: e :: g :: r => simp [beginsG]
    · have k4 : c ≤ 244 := by omega
      have lo : lowC4 c ≤ 144 ∧ 128 ≤ highC4 c := by unfold lowC4 highC4; constructor <;> split <;> omega
      have lo' : lowC4 c ≤ 128 ∨ 144 ≤ highC4 c := by unfold lowC4 highC4; split <;> split <;> omega
      rw [f4 (by omega) k4]
      match t with
      | [] =>
        simp [beginsG, anyF, fillsG, okG, g1, w4 (show 240 ≤ c by omega) k4, tl1, tl1', tl2, tl2', tl2'', tl3, tl3', tl3'', tl3''']
        omega
      | [d] =>
        simp [beginsG, anyF, fillsG, okG, g1, w4 (show 240 ≤ c by omega) k4, tl1, tl1', tl2, tl2', tl2'', tl3, tl3', tl3'', tl3''']
        by_cases hd : lowC4 c ≤ d ∧ d ≤ highC4 c <;> simp [hd] <;> omega
      | [d, e] =>
        simp [beginsG, anyF, fillsG, okG, g1, w4 (show 240 ≤ c by omega) k4, tl1, tl1', tl2, tl2', tl2'', tl3, tl3', tl3'', tl3''']
        by_cases hd : (lowC4 c ≤ d ∧ d ≤ highC4 c) <;> by_cases he : 128 ≤ e ∧ e ≤ 191 <;> simp [hd, he]
        all_goals simp only [Bool.or_assoc]
      | d :: e :: g :: r => simp [beginsG]
theorem feed_rf : ∀ (n : Nat) (b : List Int), b.length ≤ n → feedG b = rfG b
  | 0, b, h => by
    have : b = [] := List.length_eq_zero_iff.1 (by omega)
    subst this
    rfl
  | n + 1, b, h => by
    by_cases h0 : b.length = 0
    · have : b = [] := List.length_eq_zero_iff.1 h0
      subst this
      rfl
    · have hfb := full_begins b h0
      cases hb : beginsG b with
      | true => rw [feedG_stop (by rw [hfb, hb]; rfl), rfG_stop h0 hb]
      | false =>
        have hr := decG_range (b := b) (by intro e; subst e; simp at h0)
        rw [feedG_cons (by rw [hfb, hb]; rfl), rfG_cons h0 hb, feed_rf n _ (by simp; omega)]
theorem begins_len {b : List Int} (h : beginsG b = true) : b.length ≤ 3 := by
  unfold beginsG at h
  by_cases h0 : b.length = 0 ∨ 3 < b.length
  · rw [if_pos h0] at h; cases h
  · omega
theorem rf_rest : ∀ (n : Nat) (b : List Int), b.length ≤ n → (rfG b).2.length ≤ 3
  | 0, b, h => by
    have : b = [] := List.length_eq_zero_iff.1 (by omega)
    subst this
    simp [rfG_nil]
  | n + 1, b, h => by
    by_cases h0 : b.length = 0
    · have : b = [] := List.length_eq_zero_iff.1 h0
      subst this
      simp [rfG_nil]
    · cases hb : beginsG b with
      | true => rw [rfG_stop h0 hb]; exact begins_len hb
      | false =>
        have hr := decG_range (b := b) (by intro e; subst e; simp at h0)
        rw [rfG_cons h0 hb]
        exact rf_rest n _ (by simp; omega)
end Go.Eng.G
