/- GlyphCuts: for every input the law returns true and its arguments read as they did (the tied card). -/
import Derived.Test.YtgbgmkacpjbilaaDoorT40
namespace Go.Eng.G
open Go Go.Eng Go.Proofs Go.Proofs.YtgbgmkacpjbilaaDoor
open Go.RowKit Go.ChangeShapes Go.WideShapes Go.ChangeAt
set_option maxRecDepth 100000
set_option linter.unusedSimpArgs false
set_option linter.unusedSectionVars false
set_option linter.unusedVariables false
theorem cuts_lifted (os : Os) (started : os.Started) (H : Type) (enc : TypeId × Value → H) :
    ReturnsInHanded {} Tryd.checked os 4 .any (fun w args => (Rows.glyphCutsSpec.pre enc Tryd.prog Tryd.f4 [] false w args ∧ laidMetH Tryd.prog LL w) ∧ sizedMet enc Tryd.prog Tryd.f4 (OpenSpec.ofChange Rows.glyphCutsSpec) false w args)
      (Rows.glyphCutsSpec.post enc Tryd.prog Tryd.f4 false true false false) := by
  refine returnsInHanded_of_change_and (C := Tryd.checked) (X := fun w _ => laidMetH Tryd.prog LL w) (fun _ _ _ hh h => h.of_heap hh) own started (by kernel_rfl) Tryd.func4
    (ChangeSpec.witness_shaped (enc := enc) (C := Tryd.checked) (os := os) (X := fun w _ => laidMetH Tryd.prog LL w) false (World.laidAll Tryd.prog os LL) #[.slice none 0 0, .int .i64 0] 8 (World.laidAll_os _ _ _)
      (World.shaped_of_ZipB (by kernel_rfl) (by kernel_rfl)) (by kernel_rfl) (by kernel_rfl) (by kernel_rfl)
      (by rw [MakeChecks.laidMetH_plain _ _ _ (by kernel_rfl)]; exact laidMet_laidAll _ (by kernel_rfl) (by kernel_rfl))) ?_
  intro W base args ds gs before hval0 hW _ hsz0 hL _
  have hsz : (DataW.weightsEach Tryd.prog (Tryd.f4.params.toList ++ Rows.glyphCutsSpec.plain.varTypes Tryd.prog) (ds ++ gs)).all (· ≤ reachBytes) = true := hsz0
  have hval : ∀ (j : Nat) t v, Tryd.f4.params[j]? = some t → args[j]? = some v → Value.okWide Tryd.prog W .any base t v := hval0
  have hW' := hW
  obtain ⟨p, q, hA0, hV, rfl, hfz, hnd⟩ := hW
  have hA : DataW.TrodAll enc Tryd.prog W 0 (fun _ => true) true Tryd.f4.params.toList args.toList ds p := hA0
  rw [Tryd.params4] at hA hval hsz
  obtain ⟨v0, vs0, d0, ds0, p0, q0, hargs, rfl, rfl, h0, r0⟩ := trodAll_cons hA
  obtain ⟨v1, vs1, d1, ds1, p1, q1, rfl, rfl, rfl, h1, r1⟩ := trodAll_cons r0
  obtain ⟨rfl, rfl, rfl⟩ := trodAll_nil r1
  obtain rfl : args = #[v0, v1] := by cases args; simp_all
  obtain ⟨rfl, rfl⟩ := trodVars_none hV
  obtain ⟨a0, len0, cap0, rfl⟩ := okWide_slice Tryd.underlying27 (hval 0 27 v0 rfl rfl)
  obtain ⟨w, rfl, rfl, rfl, ww⟩ := open_int Tryd.underlying3 (hval 1 3 v1 rfl rfl) h1
  have k0 := h0
  have lt0 : ∀ x ∈ p0, x.block < W.heap.size := by obtain ⟨m, hm⟩ := k0; exact DataW.trod_lt m _ _ _ hm
  have hT := tabs hL
  letI : GV := gv hT
  obtain ⟨fuel, hf⟩ := h0
  obtain ⟨zs, hrv, hwf, hd⟩ := ints_RV Tryd.underlying27 Tryd.underlying21 (by kernel_rfl) hf
  have hlen : zs.length ≤ 2 ^ 45 := by
    rcases hd with ⟨_, rfl⟩ | ⟨spare, hd⟩
    · simp
    · have := sized_slice hsz (j := 0) (t := 27) rfl (by simp only [List.cons_append, List.getElem?_cons_zero]; exact congrArg some hd) Tryd.underlying27
      have hb : Tryd.prog.bytesOf 21 = 4 := by kernel_rfl
      rw [hb] at this
      have hr : reachBytes < 2 ^ 47 := reachBytes_lt
      simp [lits] at this
      omega
  have h32 : isI32 zs = true := by
    unfold isI32
    rw [List.all_eq_true]
    intro z hz
    have := hwf z hz
    simpa [Lit.wf, IntKind.min, IntKind.max, IntKind.signed, IntKind.bits] using this
  have hw : -9223372036854775808 ≤ w ∧ w ≤ 9223372036854775807 := by simpa [Lit.wf, IntKind.min, IntKind.max, IntKind.signed, IntKind.bits] using ww
  refine (entry mCuts (W := W) (args := #[.slice a0 len0 cap0, .int .i64 w]) [.fs 1 (zs.map (row1 .i32)), .v (.int .i64 w)] (gv_ok hT) rfl ?_ (x := .bool true) (H' := []) ?_).mono fun e W' ⟨he, bel⟩ => ?_
  · intro i c y hc hy
    match i, hc, hy with
    | 0, hc, hy => simp at hc hy; subst hc; subst hy; exact hrv
    | 1, hc, hy => simp at hc hy; subst hc; subst hy; exact rfl
    | i + 2, hc, hy => simp at hc
  · simp only [sCuts, slcI_fs]
    rw [if_pos ⟨hlen, h32, hw.1, hw.2⟩]
  subst he
  exact ⟨_, rfl, _, _, _, [], _, [], hW', trodAll_mk1 (shut_bool Tryd.underlying4 _), (trodAll_cons_mk (Below.trod laidOut (by kernel_rfl) (of_decide_eq_true (by kernel_rfl)) k0 bel lt0) (trodAll_cons_mk (shut_int Tryd.underlying3 ww) trodAll_mk0)), rfl, bel.frame _, fun h => by cases h⟩
theorem glyphCuts_row : Rows.GlyphCutsSaid :=
  OpenClaim.holds_of_wide 4 Tryd.f4 rfl rfl rfl rfl rfl rfl rfl ⟨rfl, rfl, rfl, rfl, rfl⟩ rfl rfl rfl rfl rfl (by kernel_rfl) Tryd.func4 (by kernel_rfl)
    (of_decide_eq_true (by kernel_rfl)) (by unfold Func.isWrapper; first | (rw [if_pos (by decide +kernel)]; kernel_rfl) | (rw [if_neg (by decide +kernel)]; exact ⟨rfl, rfl⟩))
    (fun os started H enc _ => cuts_lifted os started H enc)
theorem glyphCuts_card : Rows.GlyphCutsCardSaid :=
  Claim7.holds_tied_plain_at .later [] [.data, .pinned] true (true, "11a90f0c1a5b414c8621f8f45657e0115564c5e270b300dc5d6126ba99d82bfb") false glyphCuts_row (fun _ h => by cases h) (by kernel_rfl) (fun _ h => by cases h) glyphCuts_row_tie rfl ⟨rfl, rfl⟩ (by kernel_rfl) rfl
    (fun f fn hf hfn => by
      obtain rfl : f = 4 := Option.some.inj ((show Tryd.prog.funcNamed "casement/casementlaw01.GlyphCuts" = some 4 by kernel_rfl).symm.trans hf) |>.symm
      obtain rfl : fn = Tryd.f4 := (Option.some.inj (Tryd.func4.symm.trans hfn)).symm
      exact ⟨by kernel_rfl, fun j t ht => by
        rw [Tryd.params4] at ht
        have hm : t ∈ [27, 3] := by simpa using Array.mem_of_getElem? ht
        have hall : ([27, 3].all fun u => !Tryd.prog.wantsStandIn u) = true := by kernel_rfl
        exact (show Tryd.prog.wantsStandIn t = false by simpa using List.all_eq_true.1 hall t hm)⟩)
    (by kernel_rfl)
end Go.Eng.G
namespace Go.Proofs.YtgbgmkacpjbilaaDoor
theorem glyphCuts_holds : Rows.GlyphCutsCardSaid := Go.Eng.G.glyphCuts_card
#print axioms glyphCuts_holds
end Go.Proofs.YtgbgmkacpjbilaaDoor
