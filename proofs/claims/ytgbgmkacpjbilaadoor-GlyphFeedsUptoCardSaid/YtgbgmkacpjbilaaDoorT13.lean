/- A part of the proof: contracts of functions, each proved once. -/
import Derived.Test.YtgbgmkacpjbilaaDoorT12
namespace Go.Eng.G
open Go Go.Eng Go.Proofs
set_option maxRecDepth 100000
set_option linter.unusedSimpArgs false
set_option linter.unusedSectionVars false
variable [Globs]
def sIn : Spec where
  modes := []
  f := fun args H => match args with
    | [.v (.int .i32 r), .fs 2 rows] => match unS rows with
      | some xs => if xs.length ≤ 2^45 then some (.v (.bool (xs.any (hits r))), H) else none
      | none => none
    | _ => none
def sp33 : Nat → Option Spec
  | 37 => some sCont
  | _ => none
theorem sp33_ok : ∀ f s, sp33 f = some s → Meets PP f s := by
  intro f s h
  unfold sp33 at h
  split at h <;> cases h
  exact mCont
set_option maxHeartbeats 2000000 in
theorem mIn : Meets PP 33 sIn := by
  refine meets (dr := drF tab33 PP sp33) (live := live33) fn33 rfl rfl rfl sp33_ok (fun base ak => drF_ok mixed sp33_ok _ base ak) ?_
  intro args H z H' h
  simp only [sIn] at h
  split at h <;> try cases h
  rename_i r rows
  split at h <;> try cases h
  rename_i xs hxs
  split at h <;> cases h
  rename_i hl
  refine ⟨(by decide : 2 ≤ 8), ?_⟩
  generalize kdirs sIn.modes _ = ak
  have hl' : xs.length ≤ 35184372088832 := hl
  simp [sp33, sCont, hxs, hl']
end Go.Eng.G
