/- VmWorth: for every input the law returns true and its arguments read as they did. -/
import Derived.Test.YtkbmagloekociaaM30
namespace Go.Eng.M
open Go Go.Eng Go.Proofs Go.Proofs.Ytkbmagloekociaa
open Go.RowKit Go.ChangeShapes Go.WideShapes Go.ChangeAt
set_option maxRecDepth 100000
set_option linter.unusedSimpArgs false
set_option linter.unusedSectionVars false
set_option linter.unusedVariables false
theorem worth_lifted (os : Os) (started : os.Started) (H : Type) (enc : TypeId × Value → H) :
    ReturnsInHanded {} Try.checked os 6 .any (Rows.vmWorthSpec.pre6 enc Try.prog Try.f6 Rows.vmWorthRow.domain false) (Rows.vmWorthSpec.post enc Try.prog Try.f6 false true false false) := by
  refine returnsInHanded_of_change_sized (C := Try.checked) own started (by kernel_rfl) Try.func6
    (ChangeSpec.witness6 (enc := enc) (C := Try.checked) false ⟨#[], #[.int .i64 0, .int .i64 0, .int .i64 0], []⟩ 8 (by kernel_rfl) (by kernel_rfl) (by kernel_rfl) (by kernel_rfl)) ?_
  intro W base args ds gs before hval0 hW _ hsz0 _
  have hval : ∀ (j : Nat) t v, Try.f6.params[j]? = some t → args[j]? = some v → Value.okWide Try.prog W .any base t v := hval0
  have hW' := hW
  obtain ⟨p, q, hA0, hV, rfl, hfz, hnd⟩ := hW
  have hA : DataW.TrodAll enc Try.prog W 0 (fun _ => true) true Try.f6.params.toList args.toList ds p := hA0
  rw [Try.params6] at hA hval
  obtain ⟨v0, vs0, d0, ds0, p0, q0, hargs, rfl, rfl, h0, r0⟩ := trodAll_cons hA
  obtain ⟨v1, vs1, d1, ds1, p1, q1, rfl, rfl, rfl, h1, r1⟩ := trodAll_cons r0
  obtain ⟨v2, vs2, d2, ds2, p2, q2, rfl, rfl, rfl, h2, r2⟩ := trodAll_cons r1
  obtain ⟨rfl, rfl, rfl⟩ := trodAll_nil r2
  obtain rfl : args = #[v0, v1, v2] := by cases args; simp_all
  obtain ⟨rfl, rfl⟩ := trodVars_none hV
  obtain ⟨op, rfl, rfl, rfl, wo⟩ := open_int Try.underlying3 (hval 0 3 v0 rfl rfl) h0
  obtain ⟨a, rfl, rfl, rfl, wa⟩ := open_int Try.underlying2 (hval 1 2 v1 rfl rfl) h1
  obtain ⟨b, rfl, rfl, rfl, wb⟩ := open_int Try.underlying2 (hval 2 2 v2 rfl rfl) h2
  letI : Globs := noG
  refine (entry mWorth (W := W) (args := #[.int .i64 op, .int .i64 a, .int .i64 b]) [.v (.int .i64 op), .v (.int .i64 a), .v (.int .i64 b)] (noG_ok W _) rfl ?_ (x := .bool true) (H' := []) ?_).mono fun e W' ⟨he, bel⟩ => ?_
  · intro i c y hc hy
    match i, hc, hy with
    | 0, hc, hy => simp at hc hy; subst hc; subst hy; exact rfl
    | 1, hc, hy => simp at hc hy; subst hc; subst hy; exact rfl
    | 2, hc, hy => simp at hc hy; subst hc; subst hy; exact rfl
    | i + 3, hc, hy => simp at hc
  · simp only [sWorth]
    rw [if_pos ⟨i64_of wa, i64_of wb⟩]
  subst he
  exact ⟨_, rfl, _, _, _, [], _, [], hW', trodAll_mk1 (shut_bool Try.underlying4 _), (trodAll_cons_mk (shut_int Try.underlying3 wo) (trodAll_cons_mk (shut_int Try.underlying2 wa) (trodAll_cons_mk (shut_int Try.underlying2 wb) trodAll_mk0))), rfl, bel.frame _, fun h => by cases h⟩
theorem worth_row : Rows.VmWorthSaid :=
  OpenClaim.holds_of_wide 6 Try.f6 rfl rfl rfl rfl rfl rfl rfl ⟨rfl, rfl, rfl, rfl, rfl⟩ rfl rfl rfl rfl rfl (by kernel_rfl) Try.func6 (by kernel_rfl)
    (of_decide_eq_true (by kernel_rfl)) (by unfold Func.isWrapper; first | (rw [if_pos (by decide +kernel)]; kernel_rfl) | (rw [if_neg (by decide +kernel)]; exact ⟨rfl, rfl⟩))
    (fun os started H enc _ => worth_lifted os started H enc)
end Go.Eng.M
namespace Go.Proofs.Ytkbmagloekociaa
theorem vmWorth_holds : Rows.VmWorthSaid := Go.Eng.M.worth_row
#print axioms vmWorth_holds
end Go.Proofs.Ytkbmagloekociaa
