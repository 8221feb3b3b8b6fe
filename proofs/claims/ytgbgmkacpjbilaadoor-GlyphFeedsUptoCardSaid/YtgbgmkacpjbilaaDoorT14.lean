/- A part of the proof: contracts of functions, each proved once. -/
import Derived.Test.YtgbgmkacpjbilaaDoorT13
namespace Go.Eng.G
open Go Go.Eng Go.Proofs
set_option maxRecDepth 100000
set_option linter.unusedSimpArgs false
set_option linter.unusedSectionVars false
variable [Globs]
def spansNone : List (Int × Int) := [(-2147483648, 31), (127, 159), (0x300, 0x36f), (0x200b, 0x200f), (0xd800, 0xdfff), (0xfe00, 0xfe0f), (0x110000, 2147483647)]
def spansTwo : List (Int × Int) := [(0x1100, 0x115f), (0x2e80, 0x303e), (0x3041, 0xa4cf), (0xac00, 0xd7a3), (0xf900, 0xfaff), (0xfe30, 0xfe6f), (0xff00, 0xff60), (0xffe0, 0xffe6), (0x1f300, 0x1f64f), (0x1f900, 0x1f9ff), (0x20000, 0x3fffd)]
def sR (g : Int → Bool) : Spec where
  modes := []
  f := fun args H => match args with
    | [.v (.int .i32 r)] => some (.v (.bool (g r)), H)
    | _ => none
def sp27 : Nat → Option Spec
  | 33 => some sIn
  | _ => none
theorem sp27_ok : ∀ f s, sp27 f = some s → Meets PP f s := by
  intro f s h
  unfold sp27 at h
  split at h <;> cases h
  exact mIn
set_option maxHeartbeats 2000000 in
theorem mNone : Meets PP 27 (sR fun r => spansNone.any (hits r)) := by
  refine meets (dr := drF tab27 PP sp27) (live := live27) fn27 rfl rfl rfl sp27_ok (fun base ak => drF_ok mixed sp27_ok _ base ak) ?_
  intro args H z H' h
  simp only [sR] at h
  split at h <;> cases h
  rename_i r
  refine ⟨(by decide : 1 ≤ 13), ?_⟩
  generalize kdirs (sR fun r => spansNone.any (hits r)).modes _ = ak
  simp [sp27, sIn, unS, allCopies, V.copies, spansNone]
set_option maxHeartbeats 2000000 in
theorem mTwo : Meets PP 28 (sR fun r => spansTwo.any (hits r)) := by
  refine meets (dr := drF tab28 PP sp27) (live := live28) fn28 rfl rfl rfl sp27_ok (fun base ak => drF_ok mixed sp27_ok _ base ak) ?_
  intro args H z H' h
  simp only [sR] at h
  split at h <;> cases h
  rename_i r
  refine ⟨(by decide : 1 ≤ 17), ?_⟩
  generalize kdirs (sR fun r => spansTwo.any (hits r)).modes _ = ak
  simp [sp27, sIn, unS, allCopies, V.copies, spansTwo]
end Go.Eng.G
