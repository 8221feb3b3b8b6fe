/- A part of the proof: contracts of functions, each proved once. -/
import Derived.Test.YtgbgmkacpjbilaaDoorT29
import Derived.Test.YtgbgmkacpjbilaaDoorT50
namespace Go.Eng.G
open Go Go.Eng Go.Proofs
set_option maxRecDepth 100000
set_option linter.unusedSimpArgs false
set_option linter.unusedSectionVars false
set_option linter.unusedVariables false
variable [GV]
/-- What the reference knows of bytes, and what waits. -/
def rfF : Nat → List Int → List Int × List Int
  | 0, b => ([], [])
  | n + 1, b => if b.length = 0 then ([], []) else if beginsG b = true then ([], b) else
      ((decG b).1 :: (rfF n (b.drop (decG b).2.toNat)).1, (rfF n (b.drop (decG b).2.toNat)).2)
theorem rfF_mono : ∀ (n m : Nat) (b : List Int), b.length ≤ n → b.length ≤ m → rfF n b = rfF m b
  | 0, m, b, h1, h2 => by
    have : b = [] := List.length_eq_zero_iff.1 (by omega)
    subst this
    cases m <;> simp [rfF]
  | n + 1, 0, b, h1, h2 => by
    have : b = [] := List.length_eq_zero_iff.1 (by omega)
    subst this
    simp [rfF]
  | n + 1, m + 1, b, h1, h2 => by
    simp only [rfF]
    by_cases h0 : b.length = 0
    · rw [if_pos h0, if_pos h0]
    · rw [if_neg h0, if_neg h0]
      by_cases hb : beginsG b = true
      · rw [if_pos hb, if_pos hb]
      · rw [if_neg hb, if_neg hb]
        have := decG_range (b := b) (by intro e; subst e; simp at h0)
        rw [rfF_mono n m _ (by simp; omega) (by simp; omega)]
def rfG (b : List Int) : List Int × List Int := rfF b.length b
theorem rfG_nil : rfG [] = ([], []) := rfl
theorem rfG_stop {b : List Int} (h0 : b.length ≠ 0) (h : beginsG b = true) : rfG b = ([], b) := by
  unfold rfG
  obtain ⟨n, hn⟩ : ∃ n, b.length = n + 1 := ⟨b.length - 1, by omega⟩
  rw [hn]; simp only [rfF]; rw [if_neg h0, if_pos h]
theorem rfG_cons {b : List Int} (h0 : b.length ≠ 0) (h : beginsG b = false) : rfG b = ((decG b).1 :: (rfG (b.drop (decG b).2.toNat)).1, (rfG (b.drop (decG b).2.toNat)).2) := by
  have hr := decG_range (b := b) (by intro e; subst e; simp at h0)
  unfold rfG
  obtain ⟨n, hn⟩ : ∃ n, b.length = n + 1 := ⟨b.length - 1, by omega⟩
  rw [hn]; simp only [rfF]; rw [if_neg h0, if_neg (by rw [h]; simp), rfF_mono n (b.drop (decG b).2.toNat).length _ (by simp; omega) (by simp)]
/-- The reference hands back the part that waits. -/
def sRf : Spec where
  modes := []
  f := fun args H => match args with
    | [x] => match slcI .u8 H x with
      | some xs => if xs.length ≤ 2^40 then
          some (.tup [.ref H.length [] 1 0 (rfG xs).1.length, if (rfG xs).2.length = 0 then .ref (H.length + 1) [] 1 0 0 else subS x (xs.length - (rfG xs).2.length) (rfG xs).2.length],
            H ++ (some (1, (rfG xs).1.map (row1 .i32)) :: if (rfG xs).2.length = 0 then [some (1, [])] else [])) else none
      | _ => none
    | _ => none
end Go.Eng.G
