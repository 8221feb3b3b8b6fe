/- A part of the proof: contracts of functions, each proved once. -/
import Derived.Test.YtkbmagloekociaaM15
namespace Go.Eng.M
open Go Go.Eng Go.Proofs
set_option maxRecDepth 100000
set_option linter.unusedSimpArgs false
set_option linter.unusedSectionVars false
set_option linter.unusedVariables false
variable [Globs]
theorem mc_app {H : Hp} {id : Nat} {m : Mc} (h : mc H id = some m) : ∀ G : Hp, mc (H ++ G) id = some m := by
  intro G
  obtain ⟨hlt, h1, _⟩ := mc_eq h
  exact mc_of (by rw [List.getElem?_append_left hlt, h1])
@[simp] theorem mc_setC {H : Hp} {id : Nat} (hl : id < H.length) (m : Mc) (G : Hp) : mc (H.set id (some (9, [m.cells])) ++ G) id = some m := mc_of (by simp [hl])
/-- What touches the stack and the locals alone: the locals, what is pushed. -/
def plainM (op n : Int) (vs loc : List Int) : Option (List Int × List Int) :=
  if op = 1 then some (loc, [n])
  else if op = 3 then (match vs with | v0 :: _ => some (loc, [v0, v0]) | [] => none)
  else if op = 4 then (match vs with | v0 :: v1 :: _ => some (loc, [v1, v0]) | _ => none)
  else if op = 5 then (if 0 ≤ n then (match loc[n.toNat]? with | some v => some (loc, [v]) | none => none) else none)
  else if op = 6 then (match vs with | v0 :: _ => if 0 ≤ n ∧ n < loc.length then some (loc.set n.toNat v0, []) else none | [] => none)
  else if op = 19 then (match vs with | v0 :: _ => some (loc, [truthM (decide (v0 = 0))]) | [] => none)
  else some (loc, [])
def sPlain : Spec where
  modes := [1]
  f := fun args H => match args with
    | [.ptr id [] 0 0, .agg [.v (.int .i64 op), .v (.int .i64 n)], .ref vid [] 1 0 k] => match mc H id, rootI .i64 H vid with
      | some m, some vs => match lastF m.rows with
        | some (R, fa, fb, c, st) => match unI .i64 c with
          | some loc => match plainM op n vs loc with
            | some (loc', out) => if vid ≠ id ∧ k = vs.length ∧ R.length < 2^20 ∧ st.length < 2^20 then
                some (.tup [], H.set id (some (9, [{ m with rows := R ++ [frC fa fb (loc'.map (row1 .i64)) (st ++ out.map (row1 .i64))] }.cells]))) else none
            | none => none
          | none => none
        | none => none
      | _, _ => none
    | _ => none
noncomputable def sp60 : Nat → Option Spec
  | 37 => some (sTop)
  | 38 => some (sPush)
  | 68 => some (sTruth)
  | _ => none
theorem sp60_ok : ∀ f s, sp60 f = some s → Meets PP f s := by
  intro f s h
  unfold sp60 at h
  split at h
  · injection h with h; subst h; exact mTop
  · injection h with h; subst h; exact mPush
  · injection h with h; subst h; exact mTruth
  · cases h
set_option maxHeartbeats 40000000 in
theorem mPlain : Meets PP 60 (sPlain) := by
  refine meets (dr := drF tab60 PP sp60) (live := live60) fn60 rfl rfl rfl sp60_ok (fun base ak => drF_ok mixed sp60_ok _ base ak) ?_
  intro args H z H' h
  simp only [sPlain] at h
  repeat (split at h <;> try cases h)
  rename_i id op n vid k _ _ m vs h1 hv _ R fa fb c st h2 _ loc hloc _ loc' out hp h3
  refine ⟨(by decide : 3 ≤ 74), ?_⟩
  obtain ⟨hne, rfl, h3, h4⟩ := h3
  have hloc := unI_eq hloc
  subst hloc
  obtain ⟨c0, c1, c2, mem, rows, asks, call, args, trap⟩ := m
  have h2 := lastF_eq h2
  simp only at h2
  subst h2
  have hmc := h1
  obtain ⟨hlt, h1, h1'⟩ := mc_eq h1
  obtain ⟨v1, vlt, v1'⟩ := rootI_eq hv
  have hr0 : R.length + 1 ≤ 1048576 := by have : R.length < 1048576 := h3; omega
  have hst : st.length + 1 ≤ 1048576 := by have : st.length < 1048576 := h4; omega
  have hst' : st.length ≤ 1048576 := by omega
  have hne' : ¬ id = vid := fun e => hne e.symm
  have hl : ∀ X Y : Rows, lastF (R ++ [[fa, fb, .own 1 X, .own 1 Y]]) = some (R, fa, fb, X, Y) := fun X Y => lastF_concat ..
  have hl2 : ∀ X Y : Rows, lastF (R ++ [frC fa fb X Y]) = some (R, fa, fb, X, Y) := fun X Y => lastF_concat ..
  have hA := mc_app hmc
  by_cases o1 : op = 1
  · subst o1
    simp only [plainM, if_true, Option.some.injEq, Prod.mk.injEq] at hp
    obtain ⟨rfl, rfl⟩ := hp
    simp [sPlain, sp60, sTop, sPush, hA, hlt, hl, hl2, hr0, hst', hst]
  by_cases o3 : op = 3
  · subst o3
    simp [plainM] at hp
    split at hp <;> simp at hp
    rename_i v0 r
    obtain ⟨rfl, rfl⟩ := hp
    simp [sPlain, sp60, sTop, sPush, hA, hl, hl2, hr0, hst', hst, hne, hne', v1, v1', vlt, hlt, row1]
  by_cases o4 : op = 4
  · subst o4
    simp [plainM] at hp
    split at hp <;> simp at hp
    rename_i v0 v1x r
    obtain ⟨rfl, rfl⟩ := hp
    have e4 : (1 : Int) < (r.length : Int) + 1 + 1 := by omega
    have e4b : (0 : Int) < (r.length : Int) + 1 + 1 := by omega
    simp [e4, e4b, sPlain, sp60, sTop, sPush, hA, hl, hl2, hr0, hst', hst, hne, hne', v1, v1', vlt, hlt, row1]
  by_cases o5 : op = 5
  · subst o5
    simp [plainM] at hp
    obtain ⟨hn0, hp⟩ := hp
    split at hp <;> simp at hp
    rename_i v hv
    obtain ⟨rfl, rfl⟩ := hp
    have hnl := lt_of_get hv
    have hnl2 : n < (loc.length : Int) := by omega
    have hvv : loc[n.toNat] = v := by rw [List.getElem?_eq_getElem hnl] at hv; exact Option.some.inj hv
    simp [sPlain, sp60, sTop, sPush, hA, h1, h1', Mc.cells, hl, hl2, hr0, hst', hst, hne, hne', v1, v1', vlt, hlt, row1, hn0, hnl, hnl2, hvv]
    refine DrP.intro (by decide) ?_
    simp [sPlain, sp60, sTop, sPush, hA, h1, h1', Mc.cells, hl, hl2, hr0, hst', hst, hne, hne', v1, v1', vlt, hlt, row1, hn0, hnl, hnl2, hvv]
  by_cases o6 : op = 6
  · subst o6
    simp [plainM] at hp
    split at hp <;> simp at hp
    rename_i v0 r
    obtain ⟨⟨hn0, hn2⟩, rfl, rfl⟩ := hp
    have hnl : n.toNat < loc.length := by omega
    simp [sPlain, sp60, sTop, sPush, hA, h1, h1', Mc.cells, hl, hl2, hr0, hst', hst, hne, hne', v1, v1', vlt, hlt, row1, hn0, hnl, hn2]
    refine DrP.intro (by decide) ?_
    simp [sPlain, sp60, sTop, sPush, hA, h1, h1', Mc.cells, hl, hl2, hr0, hst', hst, hne, hne', v1, v1', vlt, hlt, row1, hn0, hnl, hn2]
    rfl
  by_cases o19 : op = 19
  · subst o19
    simp [plainM] at hp
    split at hp <;> simp at hp
    rename_i v0 r
    obtain ⟨rfl, rfl⟩ := hp
    simp [sPlain, sp60, sTop, sPush, sTruth, hA, hl, hl2, hr0, hst', hst, hne, hne', v1, v1', vlt, hlt, row1]
  · simp [plainM, o1, o3, o4, o5, o6, o19] at hp
    obtain ⟨rfl, rfl⟩ := hp
    simp [sPlain, sp60, sTop, sPush, hA, hl, hl2, hr0, hst', hst, hne, hne', v1, v1', vlt, hlt, row1, o1, o3, o4, o5, o6, o19]
    exact set_same h1
end Go.Eng.M
