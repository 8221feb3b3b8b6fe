/- GlyphFeeds: for every input of bulk at most 1048576 the law returns true and its argument reads as it did (the tied card of the second form). -/
import Derived.Test.YtgbgmkacpjbilaaDoorT40
import Derived.Test.YtgbgmkacpjbilaaDoorT54
import Derived.Test.YtgbgmkacpjbilaaDoorE3
import Derived.Deep.DeepHandedRow
namespace Go.Eng.G
open Go Go.Eng Go.Proofs Go.Proofs.YtgbgmkacpjbilaaDoor
open Go.RowKit Go.ChangeShapes Go.WideShapes Go.ChangeAt
set_option maxRecDepth 100000
set_option linter.unusedSimpArgs false
set_option linter.unusedSectionVars false
set_option linter.unusedVariables false
theorem bulk_one {H : Type} (d : DataW H) : 1 ≤ Rows.uptoBulk d := by
  cases d with
  | lit l => cases l <;> simp [Rows.uptoBulk]
  | _ => simp [Rows.uptoBulk]
theorem bulk_mem {H : Type} {d : DataW H} {l : List (DataW H)} (h : d ∈ l) : Rows.uptoBulk d ≤ Rows.uptoBulkAll l := by
  induction l with
  | nil => cases h
  | cons x r ih =>
    simp only [Rows.uptoBulkAll]
    cases List.mem_cons.1 h with
    | inl e => subst e; omega
    | inr e => have := ih e; omega
theorem bulk_len {H : Type} (l : List (DataW H)) : l.length ≤ Rows.uptoBulkAll l := by
  induction l with
  | nil => simp [Rows.uptoBulkAll]
  | cons x r ih => have := bulk_one x; simp only [Rows.uptoBulkAll, List.length_cons]; omega
theorem c5 : Tryd.prog.cellsOf 5 = 1 := by kernel_rfl
theorem c24 : Tryd.prog.cellsOf 24 = 1 := by kernel_rfl
theorem bytes_of {H : Type} {n : Nat} {vs : List V} {d : DataW H} (h : Rd Tryd.prog (n + 2) 24 vs d) : ∃ p : List Int, vs = pRow p ∧ isBytes p = true ∧ p.length ≤ Rows.uptoBulk d := by
  unfold Rd at h
  rw [Tryd.underlying24] at h
  simp only at h
  rcases h with ⟨rfl, rfl⟩ | ⟨rows, elems, spare, rfl, rfl, hl, hr⟩
  · exact ⟨[], by rw [c5]; rfl, rfl, by simp⟩
  · obtain ⟨zs, rfl, h1, h2⟩ := pickAll (row1 .u8) (fun z _ => 0 ≤ z ∧ z ≤ 255) rows elems hl (fun i r x hr' hx => by
      have := hr i r x hr' hx
      unfold Rd at this
      rw [Tryd.underlying5] at this
      obtain ⟨z, rfl, _, hw⟩ := this
      exact ⟨z, rfl, by simpa [Lit.wf, IntKind.min, IntKind.max, IntKind.signed, IntKind.bits] using hw⟩)
    refine ⟨zs, by rw [c5]; rfl, ?_, ?_⟩
    · unfold isBytes
      rw [List.all_eq_true]
      intro z hz
      obtain ⟨i, hi, rfl⟩ := List.getElem_of_mem hz
      have := h2 i _ _ (List.getElem?_eq_getElem hi) (List.getElem?_eq_getElem (by omega : i < elems.length))
      simpa using this
    · have := bulk_len elems
      simp only [Rows.uptoBulk]; omega
theorem pieces_of {H : Type} {n : Nat} {vs : List V} {d : DataW H} (h : Rd Tryd.prog (n + 3) 22 vs d) : ∃ ps : List (List Int), vs = [.fs 1 (ps.map pRow)] ∧ ps.length ≤ Rows.uptoBulk d ∧ ∀ p ∈ ps, isBytes p = true ∧ p.length ≤ Rows.uptoBulk d := by
  unfold Rd at h
  rw [Tryd.underlying22] at h
  simp only at h
  rcases h with ⟨rfl, rfl⟩ | ⟨rows, elems, spare, rfl, rfl, hl, hr⟩
  · exact ⟨[], by rw [c24]; rfl, by simp, by simp⟩
  · obtain ⟨zs, rfl, h1, h2⟩ := pickAll pRow (fun p d => isBytes p = true ∧ p.length ≤ Rows.uptoBulk d) rows elems hl (fun i r x hr' hx => by
      obtain ⟨p, e1, e2, e3⟩ := bytes_of (hr i r x hr' hx)
      exact ⟨p, e1, e2, e3⟩)
    refine ⟨zs, by rw [c24], ?_, fun p hp => ?_⟩
    · have := bulk_len elems
      simp only [Rows.uptoBulk]; omega
    · obtain ⟨i, hi, rfl⟩ := List.getElem_of_mem hp
      have hi2 : i < elems.length := by omega
      have := h2 i _ _ (List.getElem?_eq_getElem hi) (List.getElem?_eq_getElem hi2)
      have hm := bulk_mem (List.getElem_mem hi2)
      simp only [Rows.uptoBulk]
      exact ⟨this.1, by omega⟩
theorem unP_map [GV] : ∀ ps : List (List Int), unP (ps.map pRow) = some ps
  | [] => rfl
  | p :: ps => by
    have ih := unP_map ps
    show unP ([.fs 1 (p.map (row1 .u8))] :: ps.map pRow) = _
    unfold unP
    simp only [unI_map, ih]
theorem wit_reads (os : Os) {H : Type} (enc : TypeId × Value → H) : ∃ places, DataW.whole enc Tryd.prog ((World.laidAll Tryd.prog os LL).forCall (fun _ _ => 0) ⟨#[], #[.slice none 0 0], []⟩).memory Tryd.f3.params.toList Rows.glyphFeedsSpec.vars false #[Value.slice none 0 0].toList 8 = some ([.nil], [], places) :=
  ⟨[], by kernel_rfl⟩
theorem wit_met (os : Os) : laidMet Tryd.prog LL ((World.laidAll Tryd.prog os LL).forCall (fun _ _ => 0) ⟨#[], #[.slice none 0 0], []⟩).memory := laidMet_laidAll _ (by kernel_rfl) (by kernel_rfl)
theorem feeds_lifted (os : Os) (started : os.Started) (H : Type) (enc : TypeId × Value → H) (F : Stop.Interp) :
    ReturnsInHanded {} Tryd.checked os 3 .any ((Rows.OpenSpec.upto Rows.glyphFeedsSpec).preRow enc Tryd.prog Tryd.f3 Rows.glyphFeedsUptoRow.domain false Rows.glyphFeedsUptoRow.laid) (((Rows.OpenSpec.upto Rows.glyphFeedsSpec).at F).post enc Tryd.prog Tryd.f3 false true false false) := by
  obtain ⟨places, hx⟩ := wit_reads os enc
  refine returnsInHanded_of_row (C := Tryd.checked) (s := Rows.OpenSpec.upto Rows.glyphFeedsSpec) own started (by kernel_rfl) Tryd.func3
    (witness_row_at (enc := enc) (C := Tryd.checked) false (World.laidAll Tryd.prog os LL) #[.slice none 0 0] (World.laidAll_os _ _ _) (by kernel_rfl) (by kernel_rfl) (by kernel_rfl)
      (OpenSpec.preRow_of_cond 8 hx (by kernel_rfl) (fun k hk => by cases hk; kernel_rfl) (by kernel_rfl) (wit_met os))) ?_
  intro W base args ds gs before hval0 hW _ hcond hsz0 hL _ _
  have hk : Rows.uptoSmall H (ds ++ gs) = true := hcond _ rfl
  have hval : ∀ (j : Nat) t v, Tryd.f3.params[j]? = some t → args[j]? = some v → Value.okWide Tryd.prog W .any base t v := hval0
  have hW' := hW
  obtain ⟨p, q, hA0, hV, rfl, hfz, hnd⟩ := hW
  have hA : DataW.TrodAll enc Tryd.prog W 0 (fun _ => true) true Tryd.f3.params.toList args.toList ds p := hA0
  rw [Tryd.params3] at hA hval
  obtain ⟨v0, vs0, d0, ds0, p0, q0, hargs, rfl, rfl, h0, r0⟩ := trodAll_cons hA
  obtain ⟨rfl, rfl, rfl⟩ := trodAll_nil r0
  obtain rfl : args = #[v0] := by cases args; simp_all
  obtain ⟨rfl, rfl⟩ := trodVars_none hV
  have hbulk : Rows.uptoBulk d0 ≤ 1048576 := by
    have h : Rows.uptoBulkAll ([d0] ++ []) ≤ 1048576 := of_decide_eq_true hk
    simp only [List.append_nil, Rows.uptoBulkAll] at h
    omega
  obtain ⟨a0, len0, cap0, rfl⟩ := okWide_slice Tryd.underlying22 (hval 0 22 v0 rfl rfl)
  have k0 := h0
  have lt0 : ∀ x ∈ p0, x.block < W.heap.size := by obtain ⟨m, hm⟩ := k0; exact DataW.trod_lt m _ _ _ hm
  have hT := tabs hL
  letI : GV := gv hT
  obtain ⟨fuel, hf⟩ := h0
  obtain ⟨vs, e1, e2, e3, e4⟩ := open_Rd 4 22 fuel _ _ (by kernel_rfl) hf
  obtain ⟨ps, rfl, f1, f2⟩ := pieces_of (n := 1) e3
  have f1 : ps.length ≤ Rows.uptoBulk d0 := f1
  have f2 : ∀ p ∈ ps, isBytes p = true ∧ p.length ≤ Rows.uptoBulk d0 := f2
  have hrv : RV W (Old W) (fun _ _ => none) [] (.fs 1 (ps.map pRow)) (.slice a0 len0 cap0) := e4 0 _ _ rfl rfl
  refine (entry mFeedsL (W := W) (args := #[.slice a0 len0 cap0]) [.fs 1 (ps.map pRow)] (gv_ok hT) rfl ?_ (x := .bool true) (H' := []) ?_).mono fun e W' ⟨he, bel⟩ => ?_
  · intro i c y hc hy
    match i, hc, hy with
    | 0, hc, hy => simp at hc hy; subst hc; subst hy; exact hrv
    | i + 1, hc, hy => simp at hc
  · simp only [sFeedsL, unP_map]
    rw [if_pos]
    refine ⟨by have : (2 : Nat) ^ 20 = 1048576 := rfl; omega, ?_⟩
    rw [List.all_eq_true]
    intro p hp
    obtain ⟨g1, g2⟩ := f2 p hp
    have : (2 : Nat) ^ 20 = 1048576 := rfl
    simp only [Bool.and_eq_true, decide_eq_true_eq]
    exact ⟨by omega, g1⟩
  subst he
  exact ⟨_, rfl, _, _, _, [], _, [], hW', trodAll_mk1 (shut_bool Tryd.underlying4 _), (trodAll_cons_mk (Below.trod laidOut (by kernel_rfl) (of_decide_eq_true (by kernel_rfl)) k0 bel lt0) trodAll_mk0), rfl, bel.frame _, fun h => by cases h⟩
theorem glyphFeeds_row : Rows.GlyphFeedsUptoSaid :=
  OpenClaim.holds_of_cond 3 Tryd.f3 rfl rfl rfl rfl rfl rfl rfl ⟨rfl, rfl, rfl, rfl, rfl⟩ rfl rfl rfl rfl rfl (by kernel_rfl) Tryd.func3 (by kernel_rfl)
    (of_decide_eq_true (by kernel_rfl)) (by unfold Func.isWrapper; first | (rw [if_pos (by decide +kernel)]; kernel_rfl) | (rw [if_neg (by decide +kernel)]; exact ⟨rfl, rfl⟩))
    (fun os started H enc _ F => by rw [OpenClaim.pre_eq_preRow]; exact feeds_lifted os started H enc F)
theorem glyphFeeds_card : Rows.GlyphFeedsUptoCardSaid :=
  Claim7.holds_tied_plain_at .later [] [.data, .pinned] true (true, "11a90f0c1a5b414c8621f8f45657e0115564c5e270b300dc5d6126ba99d82bfb") false glyphFeeds_row (fun _ h => by cases h) (by kernel_rfl) (fun _ h => by cases h) glyphFeedsUpto_row_tie rfl ⟨rfl, rfl⟩ (by kernel_rfl) rfl
    (fun f fn hf hfn => by
      obtain rfl : f = 3 := Option.some.inj ((show Tryd.prog.funcNamed "casement/casementlaw01.GlyphFeeds" = some 3 by kernel_rfl).symm.trans hf) |>.symm
      obtain rfl : fn = Tryd.f3 := (Option.some.inj (Tryd.func3.symm.trans hfn)).symm
      exact ⟨by kernel_rfl, fun j t ht => by
        rw [Tryd.params3] at ht
        have hm : t ∈ [22] := by simpa using Array.mem_of_getElem? ht
        have hall : ([22].all fun u => !Tryd.prog.wantsStandIn u) = true := by kernel_rfl
        exact (show Tryd.prog.wantsStandIn t = false by simpa using List.all_eq_true.1 hall t hm)⟩)
    (by kernel_rfl)
end Go.Eng.G
namespace Go.Proofs.YtgbgmkacpjbilaaDoor
theorem glyphFeeds_holds : Rows.GlyphFeedsUptoCardSaid := Go.Eng.G.glyphFeeds_card
#print axioms glyphFeeds_holds
end Go.Proofs.YtgbgmkacpjbilaaDoor
