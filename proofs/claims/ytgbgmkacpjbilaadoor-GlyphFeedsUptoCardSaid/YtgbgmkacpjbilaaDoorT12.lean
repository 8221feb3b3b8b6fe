/- A part of the proof: contracts of functions, each proved once. -/
import Derived.Test.YtgbgmkacpjbilaaDoorT11
namespace Go.Eng.G
open Go Go.Eng Go.Proofs
set_option maxRecDepth 100000
set_option linter.unusedSimpArgs false
set_option linter.unusedSectionVars false
variable [Globs]
def sCont : Spec where
  modes := []
  f := fun args H => match args with
    | [.fs 2 rows, .clo 38 [.ptr id [] 0 0]] => match H[id]?, unS rows with
      | some (some (1, [[.v (.int .i32 r)]])), some xs => if xs.length ≤ 2^45 then some (.v (.bool (xs.any (hits r))), H) else none
      | _, _ => none
    | _ => none
def sp37 : Nat → Option Spec
  | 39 => some sIdx
  | _ => none
theorem sp37_ok : ∀ f s, sp37 f = some s → Meets PP f s := by
  intro f s h
  unfold sp37 at h
  split at h <;> cases h
  exact mIdx
theorem idx_any (r : Int) (xs : List (Int × Int)) : decide (0 ≤ idxOfHit r xs) = xs.any (hits r) := by
  unfold idxOfHit
  cases h : xs.findIdx? (hits r) with
  | none =>
    rw [List.findIdx?_eq_none_iff] at h
    have : xs.any (hits r) = false := by
      rw [List.any_eq_false]
      intro x hx
      simp [h x hx]
    rw [this]; rfl
  | some i =>
    rw [List.findIdx?_eq_some_iff_getElem] at h
    obtain ⟨h1, h2, _⟩ := h
    have : xs.any (hits r) = true := List.any_eq_true.2 ⟨_, List.getElem_mem h1, h2⟩
    rw [this]; simp
set_option maxHeartbeats 2000000 in
theorem mCont : Meets PP 37 sCont := by
  refine meets (dr := drF tab37 PP sp37) (live := live37) fn37 rfl rfl rfl sp37_ok (fun base ak => drF_ok mixed sp37_ok _ base ak) ?_
  intro args H z H' h
  simp only [sCont] at h
  split at h <;> try cases h
  rename_i rows id
  split at h <;> try cases h
  rename_i r xs hH hxs
  split at h <;> cases h
  rename_i hl
  refine ⟨(by decide : 2 ≤ 9), ?_⟩
  generalize kdirs sCont.modes _ = ak
  have hlt : id < H.length := by
    rcases Nat.lt_or_ge id H.length with h | h
    · exact h
    · rw [List.getElem?_eq_none h] at hH; cases hH
  have hH2 : H[id] = some (1, [[.v (.int .i32 r)]]) := by rw [List.getElem?_eq_getElem hlt] at hH; exact Option.some.inj hH
  have hl' : xs.length ≤ 35184372088832 := hl
  simp [sp37, sIdx, hH2, hlt, hxs, hl', idx_any]
end Go.Eng.G
