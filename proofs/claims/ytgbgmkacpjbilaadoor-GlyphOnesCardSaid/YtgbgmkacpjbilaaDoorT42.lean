/- GlyphOnes: for every input the law returns true and its arguments read as they did (the tied card). -/
import Derived.Test.YtgbgmkacpjbilaaDoorT40
namespace Go.Eng.G
open Go Go.Eng Go.Proofs Go.Proofs.YtgbgmkacpjbilaaDoor
open Go.RowKit Go.ChangeShapes Go.WideShapes Go.ChangeAt
set_option maxRecDepth 100000
set_option linter.unusedSimpArgs false
set_option linter.unusedSectionVars false
set_option linter.unusedVariables false
theorem ones_lifted (os : Os) (started : os.Started) (H : Type) (enc : TypeId × Value → H) :
    ReturnsInHanded {} Tryd.checked os 5 .any (fun w args => (Rows.glyphOnesSpec.pre enc Tryd.prog Tryd.f5 [] false w args ∧ laidMetH Tryd.prog LL w) ∧ sizedMet enc Tryd.prog Tryd.f5 (OpenSpec.ofChange Rows.glyphOnesSpec) false w args)
      (Rows.glyphOnesSpec.post enc Tryd.prog Tryd.f5 false true false false) := by
  refine returnsInHanded_of_change_and (C := Tryd.checked) (X := fun w _ => laidMetH Tryd.prog LL w) (fun _ _ _ hh h => h.of_heap hh) own started (by kernel_rfl) Tryd.func5
    (ChangeSpec.witness_shaped (enc := enc) (C := Tryd.checked) (os := os) (X := fun w _ => laidMetH Tryd.prog LL w) false (World.laidAll Tryd.prog os LL) #[.int .i32 0, .int .i32 0, .int .i64 0] 8 (World.laidAll_os _ _ _)
      (World.shaped_of_ZipB (by kernel_rfl) (by kernel_rfl)) (by kernel_rfl) (by kernel_rfl) (by kernel_rfl)
      (by rw [MakeChecks.laidMetH_plain _ _ _ (by kernel_rfl)]; exact laidMet_laidAll _ (by kernel_rfl) (by kernel_rfl))) ?_
  intro W base args ds gs before hval0 hW _ hsz0 hL _
  have hval : ∀ (j : Nat) t v, Tryd.f5.params[j]? = some t → args[j]? = some v → Value.okWide Tryd.prog W .any base t v := hval0
  have hW' := hW
  obtain ⟨p, q, hA0, hV, rfl, hfz, hnd⟩ := hW
  have hA : DataW.TrodAll enc Tryd.prog W 0 (fun _ => true) true Tryd.f5.params.toList args.toList ds p := hA0
  rw [Tryd.params5] at hA hval
  obtain ⟨v0, vs0, d0, ds0, p0, q0, hargs, rfl, rfl, h0, r0⟩ := trodAll_cons hA
  obtain ⟨v1, vs1, d1, ds1, p1, q1, rfl, rfl, rfl, h1, r1⟩ := trodAll_cons r0
  obtain ⟨v2, vs2, d2, ds2, p2, q2, rfl, rfl, rfl, h2, r2⟩ := trodAll_cons r1
  obtain ⟨rfl, rfl, rfl⟩ := trodAll_nil r2
  obtain rfl : args = #[v0, v1, v2] := by cases args; simp_all
  obtain ⟨rfl, rfl⟩ := trodVars_none hV
  obtain ⟨r, rfl, rfl, rfl, wr⟩ := open_int Tryd.underlying21 (hval 0 21 v0 rfl rfl) h0
  obtain ⟨s, rfl, rfl, rfl, ws⟩ := open_int Tryd.underlying21 (hval 1 21 v1 rfl rfl) h1
  obtain ⟨n, rfl, rfl, rfl, wn⟩ := open_int Tryd.underlying3 (hval 2 3 v2 rfl rfl) h2
  have hT := tabs hL
  letI : GV := gv hT
  have hr : -2147483648 ≤ r ∧ r ≤ 2147483647 := by simpa [Lit.wf, IntKind.min, IntKind.max, IntKind.signed, IntKind.bits] using wr
  refine (entry mOnes (W := W) (args := #[.int .i32 r, .int .i32 s, .int .i64 n]) [.v (.int .i32 r), .v (.int .i32 s), .v (.int .i64 n)] (gv_ok hT) rfl ?_ (x := .bool true) (H' := []) ?_).mono fun e W' ⟨he, bel⟩ => ?_
  · intro i c y hc hy
    match i, hc, hy with
    | 0, hc, hy => simp at hc hy; subst hc; subst hy; exact rfl
    | 1, hc, hy => simp at hc hy; subst hc; subst hy; exact rfl
    | 2, hc, hy => simp at hc hy; subst hc; subst hy; exact rfl
    | i + 3, hc, hy => simp at hc
  · simp only [sOnes]
    rw [if_pos hr]
  subst he
  exact ⟨_, rfl, _, _, _, [], _, [], hW', trodAll_mk1 (shut_bool Tryd.underlying4 _), (trodAll_cons_mk (shut_int Tryd.underlying21 wr) (trodAll_cons_mk (shut_int Tryd.underlying21 ws) (trodAll_cons_mk (shut_int Tryd.underlying3 wn) trodAll_mk0))), rfl, bel.frame _, fun h => by cases h⟩
theorem glyphOnes_row : Rows.GlyphOnesSaid :=
  OpenClaim.holds_of_wide 5 Tryd.f5 rfl rfl rfl rfl rfl rfl rfl ⟨rfl, rfl, rfl, rfl, rfl⟩ rfl rfl rfl rfl rfl (by kernel_rfl) Tryd.func5 (by kernel_rfl)
    (of_decide_eq_true (by kernel_rfl)) (by unfold Func.isWrapper; first | (rw [if_pos (by decide +kernel)]; kernel_rfl) | (rw [if_neg (by decide +kernel)]; exact ⟨rfl, rfl⟩))
    (fun os started H enc _ => ones_lifted os started H enc)
theorem glyphOnes_card : Rows.GlyphOnesCardSaid :=
  Claim7.holds_tied_plain_at .later [] [.data, .pinned] true (true, "11a90f0c1a5b414c8621f8f45657e0115564c5e270b300dc5d6126ba99d82bfb") false glyphOnes_row (fun _ h => by cases h) (by kernel_rfl) (fun _ h => by cases h) glyphOnes_row_tie rfl ⟨rfl, rfl⟩ (by kernel_rfl) rfl
    (fun f fn hf hfn => by
      obtain rfl : f = 5 := Option.some.inj ((show Tryd.prog.funcNamed "casement/casementlaw01.GlyphOnes" = some 5 by kernel_rfl).symm.trans hf) |>.symm
      obtain rfl : fn = Tryd.f5 := (Option.some.inj (Tryd.func5.symm.trans hfn)).symm
      exact ⟨by kernel_rfl, fun j t ht => by
        rw [Tryd.params5] at ht
        have hm : t ∈ [21, 21, 3] := by simpa using Array.mem_of_getElem? ht
        have hall : ([21, 21, 3].all fun u => !Tryd.prog.wantsStandIn u) = true := by kernel_rfl
        exact (show Tryd.prog.wantsStandIn t = false by simpa using List.all_eq_true.1 hall t hm)⟩)
    (by kernel_rfl)
end Go.Eng.G
namespace Go.Proofs.YtgbgmkacpjbilaaDoor
theorem glyphOnes_holds : Rows.GlyphOnesCardSaid := Go.Eng.G.glyphOnes_card
#print axioms glyphOnes_holds
end Go.Proofs.YtgbgmkacpjbilaaDoor
