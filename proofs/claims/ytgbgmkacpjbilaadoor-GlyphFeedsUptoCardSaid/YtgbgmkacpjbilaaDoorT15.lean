/- A part of the proof: contracts of functions, each proved once. -/
import Derived.Test.YtgbgmkacpjbilaaDoorT14
namespace Go.Eng.G
open Go Go.Eng Go.Proofs
set_option maxRecDepth 100000
set_option linter.unusedSimpArgs false
set_option linter.unusedSectionVars false
variable [Globs]
def widthG (r : Int) : Int := if 32 ≤ r ∧ r < 127 then 1 else if spansNone.any (hits r) then 0 else if spansTwo.any (hits r) then 2 else 1
def sWidth : Spec where
  modes := []
  f := fun args H => match args with
    | [.v (.int .i32 r)] => some (.v (.int .i64 (widthG r)), H)
    | _ => none
def sp16 : Nat → Option Spec
  | 27 => some (sR fun r => spansNone.any (hits r))
  | 28 => some (sR fun r => spansTwo.any (hits r))
  | _ => none
theorem sp16_ok : ∀ f s, sp16 f = some s → Meets PP f s := by
  intro f s h
  unfold sp16 at h
  split at h <;> cases h
  · exact mNone
  · exact mTwo
set_option maxHeartbeats 2000000 in
theorem mWidth : Meets PP 16 sWidth := by
  refine meets (dr := drF tab16 PP sp16) (live := live16) fn16 rfl rfl rfl sp16_ok (fun base ak => drF_ok mixed sp16_ok _ base ak) ?_
  intro args H z H' h
  simp only [sWidth] at h
  split at h <;> cases h
  rename_i r
  refine ⟨(by decide : 1 ≤ 16), ?_⟩
  generalize kdirs sWidth.modes _ = ak
  simp
  refine IteP.intro (fun h1 => ?_) (fun h1 => ?_)
  · simp at h1
    simp [widthG, h1]
  · simp at h1
    simp [sp16, sR]
    refine IteP.intro (fun h2 => ?_) (fun h2 => ?_)
    · simp [widthG, h2]
      omega
    · simp [sp16, sR]
      refine IteP.intro (fun h3 => ?_) (fun h3 => ?_)
      · simp [widthG, h2, h3]
        omega
      · simp [widthG, h2, h3]
end Go.Eng.G
