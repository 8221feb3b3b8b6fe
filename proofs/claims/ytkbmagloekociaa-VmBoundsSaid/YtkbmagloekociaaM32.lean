/- VmBounds: for every input the law returns true and its arguments read as they did. -/
import Derived.Test.YtkbmagloekociaaM28
import Derived.Test.YtkbmagloekociaaM30
namespace Go.Eng.M
open Go Go.Eng Go.Proofs Go.Proofs.Ytkbmagloekociaa
open Go.RowKit Go.ChangeShapes Go.WideShapes Go.ChangeAt
set_option maxRecDepth 100000
set_option linter.unusedSimpArgs false
set_option linter.unusedSectionVars false
set_option linter.unusedVariables false
theorem bounds_lifted (os : Os) (started : os.Started) (H : Type) (enc : TypeId × Value → H) :
    ReturnsInHanded {} Try.checked os 7 .any (Rows.vmBoundsSpec.pre6 enc Try.prog Try.f7 Rows.vmBoundsRow.domain false) (Rows.vmBoundsSpec.post enc Try.prog Try.f7 false true false false) := by
  refine returnsInHanded_of_change_sized (C := Try.checked) own started (by kernel_rfl) Try.func7
    (ChangeSpec.witness6 (enc := enc) (C := Try.checked) false ⟨#[], #[.int .i64 0, .int .i64 0, .int .i64 0, .bool false], []⟩ 8 (by kernel_rfl) (by kernel_rfl) (by kernel_rfl) (by kernel_rfl)) ?_
  intro W base args ds gs before hval0 hW _ hsz0 _
  have hval : ∀ (j : Nat) t v, Try.f7.params[j]? = some t → args[j]? = some v → Value.okWide Try.prog W .any base t v := hval0
  have hW' := hW
  obtain ⟨p, q, hA0, hV, rfl, hfz, hnd⟩ := hW
  have hA : DataW.TrodAll enc Try.prog W 0 (fun _ => true) true Try.f7.params.toList args.toList ds p := hA0
  rw [Try.params7] at hA hval
  obtain ⟨v0, vs0, d0, ds0, p0, q0, hargs, rfl, rfl, h0, r0⟩ := trodAll_cons hA
  obtain ⟨v1, vs1, d1, ds1, p1, q1, rfl, rfl, rfl, h1, r1⟩ := trodAll_cons r0
  obtain ⟨v2, vs2, d2, ds2, p2, q2, rfl, rfl, rfl, h2, r2⟩ := trodAll_cons r1
  obtain ⟨v3, vs3, d3, ds3, p3, q3, rfl, rfl, rfl, h3, r3⟩ := trodAll_cons r2
  obtain ⟨rfl, rfl, rfl⟩ := trodAll_nil r3
  obtain rfl : args = #[v0, v1, v2, v3] := by cases args; simp_all
  obtain ⟨rfl, rfl⟩ := trodVars_none hV
  obtain ⟨op, rfl, rfl, rfl, wo⟩ := open_int Try.underlying3 (hval 0 3 v0 rfl rfl) h0
  obtain ⟨a, rfl, rfl, rfl, wa⟩ := open_int Try.underlying2 (hval 1 2 v1 rfl rfl) h1
  obtain ⟨b, rfl, rfl, rfl, wb⟩ := open_int Try.underlying2 (hval 2 2 v2 rfl rfl) h2
  obtain ⟨c, rfl, rfl, rfl⟩ := open_bool Try.underlying4 (hval 3 4 v3 rfl rfl) h3
  letI : Globs := noG
  refine (entry mBounds (W := W) (args := #[.int .i64 op, .int .i64 a, .int .i64 b, .bool c]) [.v (.int .i64 op), .v (.int .i64 a), .v (.int .i64 b), .v (.bool c)] (noG_ok W _) rfl ?_ (x := .bool true) (H' := []) ?_).mono fun e W' ⟨he, bel⟩ => ?_
  · intro i c y hc hy
    match i, hc, hy with
    | 0, hc, hy => simp at hc hy; subst hc; subst hy; exact rfl
    | 1, hc, hy => simp at hc hy; subst hc; subst hy; exact rfl
    | 2, hc, hy => simp at hc hy; subst hc; subst hy; exact rfl
    | 3, hc, hy => simp at hc hy; subst hc; subst hy; exact rfl
    | i + 4, hc, hy => simp at hc
  · simp only [sBounds]
    rw [if_pos ⟨i64_of wa, i64_of wb⟩]
  subst he
  exact ⟨_, rfl, _, _, _, [], _, [], hW', trodAll_mk1 (shut_bool Try.underlying4 _), (trodAll_cons_mk (shut_int Try.underlying3 wo) (trodAll_cons_mk (shut_int Try.underlying2 wa) (trodAll_cons_mk (shut_int Try.underlying2 wb) (trodAll_cons_mk (shut_bool Try.underlying4 _) trodAll_mk0)))), rfl, bel.frame _, fun h => by cases h⟩
theorem bounds_row : Rows.VmBoundsSaid :=
  OpenClaim.holds_of_wide 7 Try.f7 rfl rfl rfl rfl rfl rfl rfl ⟨rfl, rfl, rfl, rfl, rfl⟩ rfl rfl rfl rfl rfl (by kernel_rfl) Try.func7 (by kernel_rfl)
    (of_decide_eq_true (by kernel_rfl)) (by unfold Func.isWrapper; first | (rw [if_pos (by decide +kernel)]; kernel_rfl) | (rw [if_neg (by decide +kernel)]; exact ⟨rfl, rfl⟩))
    (fun os started H enc _ => bounds_lifted os started H enc)
end Go.Eng.M
namespace Go.Proofs.Ytkbmagloekociaa
theorem vmBounds_holds : Rows.VmBoundsSaid := Go.Eng.M.bounds_row
#print axioms vmBounds_holds
end Go.Proofs.Ytkbmagloekociaa
