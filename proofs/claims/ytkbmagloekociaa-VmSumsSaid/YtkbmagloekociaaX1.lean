/- A part of the proof: contracts of functions, each proved once. -/
import Derived.Test.YtkbmagloekociaaE5
namespace Go.Eng
open Go
theorem p_max (P : Program) (ts : Array TypeId) (t : TypeId) (a b : Int) : pureRun P (Builtin.max_ ts t #[.int .i64 a, .int .i64 b]) = some (.int .i64 (max a b)) := by
  simp [Builtin.max_, Builtin.max2, pureRun_pure]
  split <;> omega
theorem p_min (P : Program) (ts : Array TypeId) (t : TypeId) (a b : Int) : pureRun P (Builtin.min_ ts t #[.int .i64 a, .int .i64 b]) = some (.int .i64 (min a b)) := by
  simp [Builtin.min_, Builtin.min2, pureRun_pure]
  split <;> omega
end Go.Eng
