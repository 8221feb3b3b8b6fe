/- A part of the proof: contracts of functions, each proved once. -/
import Derived.Test.YtkbmagloekociaaM26
import Derived.Test.YtkbmagloekociaaE5
import Derived.Test.YtkbmagloekociaaRows
import Derived.SizedLaws
namespace Go.Eng.M
open Go Go.Eng Go.Proofs Go.Proofs.Ytkbmagloekociaa
open Go.RowKit Go.ChangeShapes Go.WideShapes Go.ChangeAt
set_option maxRecDepth 100000
set_option linter.unusedSimpArgs false
set_option linter.unusedSectionVars false
set_option linter.unusedVariables false
theorem own : ownKnob Try.prog.godebug = none := by kernel_rfl
theorem laidOut : laidOutB Try.prog = true := by kernel_rfl
/-- No table is read. -/
@[reducible] def noG : Globs where
  val := []
  view := fun _ => none
  ok := by intro g sz rows w F _ h; cases h
theorem noG_ok (W : World) (F : Nat → Prop) : @GlobOk noG W F := by intro p hp; cases hp
theorem i64_of {n : Int} (w : (Lit.int .i64 n).wf = true) : i64r n = true := by
  have : -9223372036854775808 ≤ n ∧ n ≤ 9223372036854775807 := by simpa [Lit.wf, IntKind.min, IntKind.max, IntKind.signed, IntKind.bits] using w
  simp [i64r, this]
end Go.Eng.M
