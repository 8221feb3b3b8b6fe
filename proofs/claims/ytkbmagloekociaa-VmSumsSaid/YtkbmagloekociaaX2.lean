/- A part of the proof: contracts of functions, each proved once. -/
import Derived.Test.YtkbmagloekociaaX1
namespace Go.Eng
open Go
set_option linter.unusedSectionVars false
set_option linter.unusedSimpArgs false
variable [Globs] {P : Program}
theorem pr_program : pureRun P program = some P := rfl
theorem pr_underlying {t : TypeId} {d : TypeDesc} (h : P.underlying t = some d) : pureRun P (underlying t) = some d := by
  simp only [underlying, pureRun_bind, pr_program, Option.bind_some, h]
  rfl
theorem pr_eq_int {d : Nat} {t : TypeId} {k k' : IntKind} (h : P.underlying t = some (.int k)) (a b : Int) : pureRun P (Op.equalIn (d + 1) t (.int k' a) (.int k' b)) = some (decide (a = b)) := by
  simp only [Op.equalIn, pureRun_bind, pr_underlying h, Option.bind_some]
  simp [pureRun_pure]
  rfl
theorem pr_eq_bool {d : Nat} {t : TypeId} (h : P.underlying t = some .bool) (a b : Bool) : pureRun P (Op.equalIn (d + 1) t (.bool a) (.bool b)) = some (decide (a = b)) := by
  simp only [Op.equalIn, pureRun_bind, pr_underlying h, Option.bind_some]
  cases a <;> cases b <;> rfl
theorem pr_part {t : TypeId} {cs : Array Value} {off : Nat} {v : Value} (h : pureRun P (isAgg t) = some false) (hv : cs[off]? = some v) : pureRun P (Go.part t cs off) = some v := by
  simp [Go.part, pureRun_bind, h, hv, pureRun_pure]
theorem pr_equal (t : TypeId) (x y : Value) : pureRun P (Op.equal t x y) = pureRun P (Op.equalIn (9999 + 1) t x y) := rfl
theorem pr_struct3 {t : TypeId} {f0 f1 f2 : Field} {xs ys : Array Value} {d : Nat} {b0 b1 b2 : Bool} (hu : P.underlying t = some (.struct #[f0, f1, f2])) (hh : P.stoodInHeld t = false)
    (n0 : f0.name ≠ "_") (n1 : f1.name ≠ "_") (n2 : f2.name ≠ "_")
    {x0 x1 x2 y0 y1 y2 : Value} (p0 : pureRun P (Go.part f0.type xs f0.offset) = some x0) (p1 : pureRun P (Go.part f1.type xs f1.offset) = some x1) (p2 : pureRun P (Go.part f2.type xs f2.offset) = some x2)
    (q0 : pureRun P (Go.part f0.type ys f0.offset) = some y0) (q1 : pureRun P (Go.part f1.type ys f1.offset) = some y1) (q2 : pureRun P (Go.part f2.type ys f2.offset) = some y2)
    (e0 : pureRun P (Op.equalIn d f0.type x0 y0) = some b0) (e1 : pureRun P (Op.equalIn d f1.type x1 y1) = some b1) (e2 : pureRun P (Op.equalIn d f2.type x2 y2) = some b2) :
    pureRun P (Op.equalIn (d + 1) t (.agg xs) (.agg ys)) = some (b0 && b1 && b2) := by
  simp only [Op.equalIn, pureRun_bind, pr_underlying hu, Option.bind_some, pr_program, hh]
  simp only [← Array.forIn_toList, List.forIn_cons, List.forIn_nil]
  simp [pureRun_bind, pureRun_pure, n0, n1, n2, p0, p1, p2, q0, q1, q2, e0]
  cases b0 <;> simp [pureRun_bind, pureRun_pure, n0, n1, n2, p0, p1, p2, q0, q1, q2, e1]
  cases b1 <;> simp [pureRun_bind, pureRun_pure, n0, n1, n2, p0, p1, p2, q0, q1, q2, e2]
  cases b2 <;> simp [pureRun_bind, pureRun_pure]
end Go.Eng
