/- A part of the proof: contracts of functions, each proved once. -/
import Derived.Test.YtkbmagloekociaaM17
namespace Go.Eng.M
open Go Go.Eng Go.Proofs
set_option maxRecDepth 100000
set_option linter.unusedSimpArgs false
set_option linter.unusedSectionVars false
set_option linter.unusedVariables false
variable [Globs]
theorem w64z : IntKind.i64.wrap 0 = 0 := by decide
/-- What goes elsewhere. -/
def flowR (m : Mc) (op n : Int) (vs : List Int) : Option Mc :=
  match lastF m.rows with
  | none => none
  | some (R, fa, fb, c, st) =>
    if op = 25 then (match vs with
      | v0 :: _ => if v0 = 0 then some m else some { m with rows := R ++ [frC fa (.v (.int .i64 n)) c st] }
      | [] => none)
    else if op = 24 then some { m with rows := R ++ [frC fa (.v (.int .i64 n)) c st] }
    else if op = 26 then (if R.length + 1 = 16 then some { m with trap := .v (.int .i64 3) }
      else match m.c2 with
      | .fs 4 fr => match fr[n.toNat]? with
        | some [.v (.int .i64 pa), .v (.int .i64 _), .v (.int .i64 lo), .fs 2 _] => if 0 ≤ n ∧ 0 ≤ pa ∧ pa ≤ 100 ∧ 0 ≤ lo ∧ lo ≤ 100 then some { m with rows := R ++ [frC fa fb c st, frC (.v (.int .i64 n)) (.v (.int .i64 0)) ((locM (pa + lo).toNat vs).map (row1 .i64)) []] } else none
        | _ => none
      | _ => none)
    else if op = 27 then (if R.length = 0 then some { m with rows := [] }
      else match lastF R with
        | some (R', fa', fb', c', st') => if st'.length ≤ 2^20 then some { m with rows := R' ++ [frC fa' fb' c' (st' ++ vs.map (row1 .i64))] } else none
        | none => none)
    else if op = 28 then (match m.asks, m.call with
      | .v _, .v _ => some { m with asks := .v (.bool true), call := .v (.int .i64 n), args := vs.map (row1 .i64) }
      | _, _ => none)
    else if op = 29 then some { m with trap := .v (.int .i64 4) }
    else none
def sFlow : Spec where
  modes := [1, 0, 2]
  f := fun args H => match args with
    | [.ptr id [] 0 0, .agg [.v (.int .i64 op), .v (.int .i64 n)], .ref vid [] 1 0 k] => match mc H id, rootI .i64 H vid with
      | some m, some vs => match flowR m op n vs with
        | some m' => if vid ≠ id ∧ k = vs.length ∧ m.rows.length ≤ 2^20 ∧ vs.length ≤ 2^20 then
            some (.tup [], (if op = 28 then H.set vid none else H).set id (some (9, [m'.cells]))) else none
        | none => none
      | _, _ => none
    | _ => none
noncomputable def sp59 : Nat → Option Spec
  | 35 => some (sEnter)
  | 37 => some (sTop)
  | _ => none
theorem sp59_ok : ∀ f s, sp59 f = some s → Meets PP f s := by
  intro f s h
  unfold sp59 at h
  split at h
  · injection h with h; subst h; exact mEnter
  · injection h with h; subst h; exact mTop
  · cases h
set_option maxHeartbeats 40000000 in
theorem mFlow : Meets PP 59 (sFlow) := by
  refine meets (dr := drF tab59 PP sp59) (live := live59) fn59 rfl rfl rfl sp59_ok (fun base ak => drF_ok mixed sp59_ok _ base ak) ?_
  intro args H z H' h
  simp only [sFlow] at h
  repeat (split at h <;> try cases h)
  rename_i id op n vid k _ _ m vs h1 hv _ m' hp h3
  refine ⟨(by decide : 3 ≤ 92), ?_⟩
  obtain ⟨hne, rfl, h3, h4⟩ := h3
  obtain ⟨c0, c1, c2, mem, rows, asks, call, args, trap⟩ := m
  unfold flowR at hp
  split at hp
  · cases hp
  rename_i R fa fb c st h2
  have h2 := lastF_eq h2
  simp only at h2
  subst h2
  have hmc := h1
  obtain ⟨hlt, h1, h1'⟩ := mc_eq h1
  obtain ⟨v1, vlt, v1'⟩ := rootI_eq hv
  have hr0 : R.length + 1 ≤ 1048576 := by simpa using h3
  have hvl : vs.length ≤ 1048576 := h4
  have hne' : ¬ id = vid := fun e => hne e.symm
  have hl : ∀ X Y : Rows, lastF (R ++ [[fa, fb, .own 1 X, .own 1 Y]]) = some (R, fa, fb, X, Y) := fun X Y => lastF_concat ..
  have hA := mc_app hmc
  have hne3 : ∀ j, ¬ id = H.length + j := by omega
  have hne4 : ∀ j, ¬ H.length + j = id := by omega
  have hne5 : ∀ j, ¬ vid = H.length + j := by omega
  have hne6 : ∀ j, ¬ H.length + j = vid := by omega
  have hsv : ∀ G : Hp, slcI .i64 (H ++ G) (.ref vid [] 1 0 vs.length) = some vs := by
    intro G
    rw [slcI_root]
    simp [vlt, v1', part]
    rw [List.take_of_length_le (by simp), unI_map]
  have hsrc : src H 1 (.ref vid [] 1 0 vs.length) = some (vs.map (row1 .i64)) := slcI_src (xs := vs) (by simpa using hsv [])
  have hsrc2 : ∀ G : Hp, src (H ++ G) 1 (.ref vid [] 1 0 vs.length) = some (vs.map (row1 .i64)) := fun G => slcI_src (xs := vs) (hsv G)
  by_cases o25 : op = 25
  · subst o25
    rw [if_pos rfl] at hp
    split at hp
    case h_2 => cases hp
    rename_i v0 r
    have e0 : (0 : Int) < (r.length : Int) + 1 := by omega
    by_cases hv0 : v0 = 0
    · rw [if_pos hv0] at hp
      injection hp with hp
      subst hp
      have hs : H.set id (some (9, [(⟨c0, c1, c2, mem, R ++ [[fa, fb, .own 1 c, .own 1 st]], asks, call, args, trap⟩ : Mc).cells])) = H := set_same h1
      simp [sFlow, sp59, sTop, hA, hr0, hlt, v1, v1', vlt, e0, hv0, row1, hs, hne6]
    · rw [if_neg hv0] at hp
      injection hp with hp
      subst hp
      simp [sFlow, sp59, sTop, hA, hr0, hlt, v1, v1', vlt, e0, hv0, row1, h1, h1', Mc.cells, hne6, frC]
  rw [if_neg o25] at hp
  by_cases o24 : op = 24
  · subst o24
    rw [if_pos rfl] at hp
    injection hp with hp
    subst hp
    simp [sFlow, sp59, sTop, hA, hr0, hlt, v1, v1', vlt, row1, h1, h1', Mc.cells, hne6, frC]
  rw [if_neg o24] at hp
  by_cases o26 : op = 26
  · subst o26
    rw [if_pos rfl] at hp
    by_cases h16 : R.length + 1 = 16
    · rw [if_pos h16] at hp
      injection hp with hp
      subst hp
      have h15 : R.length = 15 := by omega
      simp [sFlow, sp59, sTop, hA, hr0, hlt, v1, v1', vlt, row1, h1, h1', Mc.cells, hne6, frC, h15]
    · rw [if_neg h16] at hp
      simp only at hp
      split at hp
      case h_2 => cases hp
      rename_i fr
      split at hp
      case h_2 => cases hp
      rename_i pa re lo co hfr
      split at hp
      case isFalse => cases hp
      rename_i hb
      obtain ⟨b0, b1, b2, b3, b4⟩ := hb
      injection hp with hp
      subst hp
      have h15 : ¬ R.length = 15 := by omega
      have h15I : ¬ (R.length : Int) + 1 = 16 := by omega
      simp [sFlow, sp59, sTop, sEnter, hA, hr0, hlt, v1, v1', vlt, row1, h1, h1', Mc.cells, hne6, frC, h15, h15I, hfr, b0, b1, b2, b3, b4, hsv, hvl]
  rw [if_neg o26] at hp
  by_cases o27 : op = 27
  · subst o27
    rw [if_pos rfl] at hp
    by_cases hR0 : R.length = 0
    · rw [if_pos hR0] at hp
      injection hp with hp
      subst hp
      have hRn : R = [] := List.length_eq_zero_iff.1 hR0
      subst hRn
      simp [w64z, hne3, hne4, hsrc, hsrc2, sFlow, sp59, sTop, hA, hr0, hlt, v1, v1', vlt, row1, h1, h1', Mc.cells, hne, hne', hne6, frC]
      refine DrP.intro (by decide) ?_
      simp [w64z, hne3, hne4, hsrc, hsrc2, sFlow, sp59, sTop, hA, hr0, hlt, v1, v1', vlt, row1, h1, h1', Mc.cells, hne, hne', hne6, frC]
    · rw [if_neg hR0] at hp
      split at hp
      case h_2 => cases hp
      rename_i R' fa' fb' c' st' h5
      split at hp
      case isFalse => cases hp
      rename_i hb
      injection hp with hp
      subst hp
      have h5 := lastF_eq h5
      subst h5
      have hb64 : (st'.length + vs.length) * 8 ≤ 140737488355328 := by have : st'.length ≤ 1048576 := hb; omega
      have hr3 : ∀ N : Nat, 1048574 ≤ N → R'.length ≤ N := fun N h => by simp at hr0; omega
      have htk : List.take vs.length (vs.map (row1 .i64)) = vs.map (row1 .i64) := List.take_of_length_le (by simp)
      have hRt : ∀ x y : List V, (R' ++ [x, y]).take (R'.length + 1) = R' ++ [x] := by
        intro x y
        rw [show R' ++ [x, y] = (R' ++ [x]) ++ [y] by simp, List.take_append_of_le_length (by simp), List.take_of_length_le (by simp)]
      have hRt1 : ∀ x : List V, (R' ++ [x]).take (R'.length + 1) = R' ++ [x] := fun x => List.take_of_length_le (by simp)
      have hrl : R'.length ≤ 1048574 := hr3 _ (Nat.le_refl _)
      have hwq : IntKind.i64.wrap ((R'.length : Int) + 2 - 1) = (R'.length : Int) + 1 := by rw [w64 (by omega) (by omega)]; omega
      have hq0 : (0 : Int) ≤ (R'.length : Int) + 1 := by omega
      have hq1 : ((R'.length : Int) + 1).toNat = R'.length + 1 := by omega
      have hlq : ∀ X Y : Rows, lastF (R' ++ [[fa', fb', .own 1 X, .own 1 Y]]) = some (R', fa', fb', X, Y) := fun X Y => lastF_concat ..
      simp [w64z, hne3, hne4, hsrc, hsrc2, sFlow, htk, hRt, hRt1, hwq, hq0, hq1, hr3, hlq, hb64, sp59, sTop, hA, hr0, hlt, v1, v1', vlt, row1, h1, h1', Mc.cells, hne, hne', hne6, frC]
      refine DrP.intro (by decide) ?_
      simp [w64z, hne3, hne4, hsrc, hsrc2, sFlow, htk, hRt, hRt1, hwq, hq0, hq1, hr3, hlq, hb64, sp59, sTop, hA, hr0, hlt, v1, v1', vlt, row1, h1, h1', Mc.cells, hne, hne', hne6, frC]
      rw [List.take_of_length_le (by simp)]
  rw [if_neg o27] at hp
  by_cases o28 : op = 28
  · subst o28
    rw [if_pos rfl] at hp
    simp only at hp
    split at hp
    case h_2 => cases hp
    injection hp with hp
    subst hp
    simp [w64z, hne3, hne4, hsrc, hsrc2, sFlow, sp59, sTop, hA, hr0, hlt, v1, v1', vlt, row1, h1, h1', Mc.cells, hne, hne', hne6, frC]
    refine DrP.intro (by decide) ?_
    simp [w64z, hne3, hne4, hsrc, hsrc2, sFlow, sp59, sTop, hA, hr0, hlt, v1, v1', vlt, row1, h1, h1', Mc.cells, hne, hne', hne6, frC]
    rw [List.take_of_length_le (by simp), List.set_comm _ _ hne', List.set_set]
  rw [if_neg o28] at hp
  by_cases o29 : op = 29
  · subst o29
    rw [if_pos rfl] at hp
    injection hp with hp
    subst hp
    simp [sFlow, sp59, sTop, hA, hr0, hlt, v1, v1', vlt, row1, h1, h1', Mc.cells, hne6, frC]
  · rw [if_neg o29] at hp
    cases hp
end Go.Eng.M
