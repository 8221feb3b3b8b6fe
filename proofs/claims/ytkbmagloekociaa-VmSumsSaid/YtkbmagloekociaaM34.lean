/- VmSums: for every input the law returns true and its arguments read as they did. -/
import Derived.Test.YtkbmagloekociaaM33
import Derived.Test.YtkbmagloekociaaM30
namespace Go.Eng.M
open Go Go.Eng Go.Proofs Go.Proofs.Ytkbmagloekociaa
open Go.RowKit Go.ChangeShapes Go.WideShapes Go.ChangeAt
set_option maxRecDepth 100000
set_option linter.unusedSimpArgs false
set_option linter.unusedSectionVars false
set_option linter.unusedVariables false
theorem sums_lifted (os : Os) (started : os.Started) (H : Type) (enc : TypeId × Value → H) :
    ReturnsInHanded {} Try.checked os 5 .any (Rows.vmSumsSpec.pre6 enc Try.prog Try.f5 Rows.vmSumsRow.domain false) (Rows.vmSumsSpec.post enc Try.prog Try.f5 false true false false) := by
  refine returnsInHanded_of_change_sized (C := Try.checked) own started (by kernel_rfl) Try.func5
    (ChangeSpec.witness6 (enc := enc) (C := Try.checked) false ⟨#[], #[.slice none 0 0, .int .i64 0, .int .u8 0], []⟩ 8 (by kernel_rfl) (by kernel_rfl) (by kernel_rfl) (by kernel_rfl)) ?_
  intro W base args ds gs before hval0 hW _ hsz0 _
  have hsz : (DataW.weightsEach Try.prog (Try.f5.params.toList ++ Rows.vmSumsSpec.plain.varTypes Try.prog) (ds ++ gs)).all (· ≤ reachBytes) = true := hsz0
  have hval : ∀ (j : Nat) t v, Try.f5.params[j]? = some t → args[j]? = some v → Value.okWide Try.prog W .any base t v := hval0
  have hW' := hW
  obtain ⟨p, q, hA0, hV, rfl, hfz, hnd⟩ := hW
  have hA : DataW.TrodAll enc Try.prog W 0 (fun _ => true) true Try.f5.params.toList args.toList ds p := hA0
  rw [Try.params5] at hA hval hsz
  obtain ⟨v0, vs0, d0, ds0, p0, q0, hargs, rfl, rfl, h0, r0⟩ := trodAll_cons hA
  obtain ⟨v1, vs1, d1, ds1, p1, q1, rfl, rfl, rfl, h1, r1⟩ := trodAll_cons r0
  obtain ⟨v2, vs2, d2, ds2, p2, q2, rfl, rfl, rfl, h2, r2⟩ := trodAll_cons r1
  obtain ⟨rfl, rfl, rfl⟩ := trodAll_nil r2
  obtain rfl : args = #[v0, v1, v2] := by cases args; simp_all
  obtain ⟨rfl, rfl⟩ := trodVars_none hV
  obtain ⟨a0, len0, cap0, rfl⟩ := okWide_slice Try.underlying22 (hval 0 22 v0 rfl rfl)
  obtain ⟨w, rfl, rfl, rfl, ww⟩ := open_int Try.underlying2 (hval 1 2 v1 rfl rfl) h1
  obtain ⟨k, rfl, rfl, rfl, wk⟩ := open_int Try.underlying5 (hval 2 5 v2 rfl rfl) h2
  have k0 := h0
  have lt0 : ∀ x ∈ p0, x.block < W.heap.size := by obtain ⟨m, hm⟩ := k0; exact DataW.trod_lt m _ _ _ hm
  letI : Globs := noG
  obtain ⟨fuel, hf⟩ := h0
  obtain ⟨zs, hrv, hwf, hd⟩ := ints_RV Try.underlying22 Try.underlying5 (by kernel_rfl) hf
  have hlen : zs.length ≤ 2 ^ 47 := by
    rcases hd with ⟨_, rfl⟩ | ⟨spare, hd⟩
    · simp
    · have := sized_slice hsz (j := 0) (t := 22) rfl (by simp only [List.cons_append, List.getElem?_cons_zero]; exact congrArg some hd) Try.underlying22
      have hb : Try.prog.bytesOf 5 = 1 := by kernel_rfl
      rw [hb] at this
      have hr : reachBytes < 2 ^ 47 := reachBytes_lt
      simp [lits] at this
      omega
  have h8 : ∀ b ∈ zs, 0 ≤ b ∧ b < 256 := by
    intro z hz
    have := hwf z hz
    have : 0 ≤ z ∧ z ≤ 255 := by simpa [Lit.wf, IntKind.min, IntKind.max, IntKind.signed, IntKind.bits] using this
    omega
  have hk : 0 ≤ k ∧ k ≤ 255 := by simpa [Lit.wf, IntKind.min, IntKind.max, IntKind.signed, IntKind.bits] using wk
  refine (entry mSums (W := W) (args := #[.slice a0 len0 cap0, .int .i64 w, .int .u8 k]) [.fs 1 (zs.map (row1 .u8)), .v (.int .i64 w), .v (.int .u8 k)] (noG_ok W _) rfl ?_ (x := .bool true) (H' := []) ?_).mono fun e W' ⟨he, bel⟩ => ?_
  · intro i c y hc hy
    match i, hc, hy with
    | 0, hc, hy => simp at hc hy; subst hc; subst hy; exact hrv
    | 1, hc, hy => simp at hc hy; subst hc; subst hy; exact rfl
    | 2, hc, hy => simp at hc hy; subst hc; subst hy; exact rfl
    | i + 3, hc, hy => simp at hc
  · simp only [sSums, unI_map]
    rw [if_pos ⟨h8, hlen, i64_of ww, hk.1, hk.2⟩]
  subst he
  exact ⟨_, rfl, _, _, _, [], _, [], hW', trodAll_mk1 (shut_bool Try.underlying4 _), (trodAll_cons_mk (Below.trod laidOut (by kernel_rfl) (of_decide_eq_true (by kernel_rfl)) k0 bel lt0) (trodAll_cons_mk (shut_int Try.underlying2 ww) (trodAll_cons_mk (shut_int Try.underlying5 wk) trodAll_mk0))), rfl, bel.frame _, fun h => by cases h⟩
theorem sums_row : Rows.VmSumsSaid :=
  OpenClaim.holds_of_wide 5 Try.f5 rfl rfl rfl rfl rfl rfl rfl ⟨rfl, rfl, rfl, rfl, rfl⟩ rfl rfl rfl rfl rfl (by kernel_rfl) Try.func5 (by kernel_rfl)
    (of_decide_eq_true (by kernel_rfl)) (by unfold Func.isWrapper; first | (rw [if_pos (by decide +kernel)]; kernel_rfl) | (rw [if_neg (by decide +kernel)]; exact ⟨rfl, rfl⟩))
    (fun os started H enc _ => sums_lifted os started H enc)
end Go.Eng.M
namespace Go.Proofs.Ytkbmagloekociaa
theorem vmSums_holds : Rows.VmSumsSaid := Go.Eng.M.sums_row
#print axioms vmSums_holds
end Go.Proofs.Ytkbmagloekociaa
