/- A part of the proof: contracts of functions, each proved once. -/
import Derived.Test.YtgbgmkacpjbilaaDoorT30
namespace Go.Eng.G
open Go Go.Eng Go.Proofs
set_option maxRecDepth 100000
set_option linter.unusedSimpArgs false
set_option linter.unusedSectionVars false
theorem width_eq (r : Int) (h1 : -2147483648 ≤ r) (h2 : r ≤ 2147483647) : widthG r = refWidthG r := by
  have e : twoG r = spansTwo.any (hits r) := rfl
  unfold widthG refWidthG
  rw [e]
  have hn : spansNone.any (hits r) = (!isRuneG r || decide (r < 32) || (decide (127 ≤ r) && decide (r ≤ 159)) || (decide (768 ≤ r) && decide (r ≤ 879)) || (decide (8203 ≤ r) && decide (r ≤ 8207)) || (decide (65024 ≤ r) && decide (r ≤ 65039))) := by
    rw [Bool.eq_iff_iff]
    simp only [spansNone, List.any_cons, List.any_nil, hits, isRuneG, Bool.or_eq_true, Bool.and_eq_true, decide_eq_true_eq, Bool.not_eq_true', Bool.or_eq_false_iff, Bool.and_eq_false_iff, decide_eq_false_iff_not, Bool.false_eq_true, or_false]
    omega
  rw [hn]
  by_cases h : 32 ≤ r ∧ r < 127
  · rw [if_pos h]
    have ht : spansTwo.any (hits r) = false := by
      rw [Bool.eq_false_iff]
      intro hh
      simp only [spansTwo, List.any_cons, List.any_nil, hits, Bool.or_eq_true, Bool.and_eq_true, decide_eq_true_eq, Bool.false_eq_true, or_false] at hh
      omega
    have hn2 : (!isRuneG r || decide (r < 32) || (decide (127 ≤ r) && decide (r ≤ 159)) || (decide (768 ≤ r) && decide (r ≤ 879)) || (decide (8203 ≤ r) && decide (r ≤ 8207)) || (decide (65024 ≤ r) && decide (r ≤ 65039))) = false := by
      rw [Bool.eq_false_iff]
      intro hh
      simp only [isRuneG, Bool.or_eq_true, Bool.and_eq_true, decide_eq_true_eq, Bool.not_eq_true', Bool.or_eq_false_iff, Bool.and_eq_false_iff, decide_eq_false_iff_not] at hh
      omega
    rw [ht, hn2]
    rfl
  · rw [if_neg h]
def isI32 (xs : List Int) : Bool := xs.all fun x => decide (-2147483648 ≤ x) && decide (x ≤ 2147483647)
theorem cut_eq (w : Int) : ∀ (xs : List Int) (n : Int), isI32 xs = true → cutG w xs n = cutR w xs n
  | [], n, _ => rfl
  | r :: rs, n, h => by
    simp only [isI32, List.all_cons, Bool.and_eq_true, decide_eq_true_eq] at h
    have hw := width_eq r h.1.1 h.1.2
    have ih := cut_eq w rs (n + refWidthG r) h.2
    unfold cutG cutR
    rw [hw]
    by_cases hc : w < 0 ∨ w < n + refWidthG r
    · rw [if_pos hc, if_pos (by omega)]
    · rw [if_neg hc, if_neg (by omega), ih]
theorem cut_total (w : Int) : ∀ (xs : List Int) (n : Int), (cutG w xs n).2 = n + totalG (xs.take (cutG w xs n).1)
  | [], n => by simp [cutG, totalG]
  | r :: rs, n => by
    unfold cutG
    split
    · simp [totalG]
    · simp only [List.take_succ_cons, totalG]
      rw [cut_total w rs (n + widthG r)]
      omega
theorem cut_next (w : Int) (hw : 0 ≤ w) : ∀ (xs : List Int) (n : Int), (cutG w xs n).1 < xs.length → w < n + totalG (xs.take ((cutG w xs n).1 + 1))
  | [], n, h => by simp [cutG] at h
  | r :: rs, n, h => by
    unfold cutG at h ⊢
    split
    · simp [totalG]; omega
    · rename_i hc
      rw [if_neg hc] at h
      simp only [List.length_cons] at h
      have := cut_next w hw rs (n + widthG r) (by omega)
      simp only [List.take_succ_cons, totalG] at this ⊢
      omega
def sevens (j : Nat) (ts : List Int) : List Int := List.replicate j 7 ++ ts.drop j
theorem sevens_succ (j : Nat) (ts : List Int) (h : j < ts.length) : sevens (j + 1) ts = (sevens j ts).set j 7 := by
  unfold sevens
  rw [List.set_append_right _ _ (by simp), List.length_replicate, Nat.sub_self, List.drop_eq_getElem_cons h, List.set_cons_zero, List.replicate_succ', List.append_assoc, List.singleton_append]
variable [GV]
def sp4 : Nat → Option Spec
  | 6 => some sAlive
  | 9 => some sSame
  | 12 => some sCut
  | 13 => some sCutR
  | 14 => some sTotal
  | _ => none
theorem sp4_ok : ∀ f s, sp4 f = some s → Meets PP f s := by
  intro f s h
  unfold sp4 at h
  split at h <;> cases h
  · exact mAlive
  · exact mSame
  · exact mCut
  · exact mCutR
  · exact mTotal
def sCuts : Spec where
  modes := []
  f := fun args H => match args with
    | [x, .v (.int .i64 w)] => match slcI .i32 H x with
      | some xs => if xs.length ≤ 2^45 ∧ isI32 xs = true ∧ -9223372036854775808 ≤ w ∧ w ≤ 9223372036854775807 then some (.v (.bool true), H) else none
      | _ => none
    | _ => none
set_option maxHeartbeats 8000000 in
theorem mCuts : Meets PP 4 sCuts := by
  refine meets (dr := drF tab4 PP sp4) (live := live4) fn4 rfl rfl rfl sp4_ok (fun base ak => drF_ok mixed sp4_ok _ base ak) ?_
  intro args H z H' h
  simp only [sCuts] at h
  split at h <;> try cases h
  rename_i x w
  split at h <;> try cases h
  rename_i xs hx
  split at h <;> cases h
  rename_i hc
  obtain ⟨hl, h32, hw1, hw2⟩ := hc
  refine ⟨(by decide : 2 ≤ 78), ?_⟩
  generalize kdirs sCuts.modes _ = ak
  have hl' : xs.length ≤ 35184372088832 := hl
  have hcut := cut_eq w xs 0 h32
  have hle := cutG_le w xs 0
  have htot := cut_total w xs 0
  have hnext := fun hw => cut_next w hw xs 0
  generalize hq : cutG w xs 0 = q at *
  obtain ⟨c, n⟩ := q
  simp only at hle htot hnext
  have hmin : min c xs.length = c := by omega
  have hcl : c ≤ 35184372088832 := by omega
  have htl : (xs.take c).length = c := by simp; omega
  have htk := htot
  generalize hts : xs.take c = ts at *
  have hsA : ∀ rest : Hp, slcI .i32 (H ++ some (1, ts.map (row1 .i32)) :: rest) (.ref H.length [] 1 0 c) = some ts := fun rest => by
    rw [slcI_mk (all := ts) (by simp) (by omega), List.drop_zero, List.take_of_length_le (by omega)]
  have hsB : ∀ (y : Nd) (rest : Hp), slcI .i32 (H ++ y :: some (1, ts.map (row1 .i32)) :: rest) (.ref (H.length + 1) [] 1 0 c) = some ts := fun y rest => by
    rw [slcI_mk (all := ts) (by simp) (by omega), List.drop_zero, List.take_of_length_le (by omega)]
  have hn : totalG ts = n := by omega
  have hc2 : (c : Int) + 1 ≤ 9223372036854775807 := by omega
  have hw64 : IntKind.i64.wrap ((c : Int) + 1) = (c : Int) + 1 := w64 (by omega) (by omega)
  simp [sp4, sAlive, slcI_all hx, slcI_gall hx, sCut, sCutR, hx, hl', hw1, hw2, hq, ← hcut, sSame, hts, hsA, hsB, htl, hcl, sTotal, hn, -List.map_take]
  have hcond : (decide (c < xs.length) && decide (0 ≤ w)) = decide (c < xs.length ∧ 0 ≤ w) := by simp
  by_cases hb : c < xs.length ∧ 0 ≤ w
  · have hsub : slcI .i32 H (subS x 0 (c + 1)) = some (xs.take (c + 1)) := by
      rw [slcI_sub hx (by omega), List.drop_zero]
    have htl2 : (xs.take (c + 1)).length ≤ 35184372088832 := by simp; omega
    have hnx := hnext hb.2 hb.1
    have hp1 : (0 : Int) ≤ (c : Int) + 1 := by omega
    have hp2 : c + 1 ≤ xs.length := by omega
    have hp3 : ¬ totalG (xs.take (c + 1)) ≤ w := by omega
    have hp4 : c ≤ 35184372088831 := by omega
    simp [hb.1, hb.2, hw64, hp1, hp2, hp3, hp4, slcI_all hx, slcI_gall hx, slcI_cut hx, slcI_all hsub, slcI_gall hsub, sp4, sTotal, htl2, -List.map_take]
    refine wpX_loop (fun j : Nat => j ≤ c) (fun j => ⟨[(0, x), (1, .v (.int .i64 w)), (5, .ref H.length [] 1 0 c), (7, .ref (H.length + 1) [] 1 0 c), (61, .v (.int .i64 c)), (62, .v (.int .i64 j))], H ++ [some (1, (sevens j ts).map (row1 .i32)), some (1, ts.map (row1 .i32))]⟩) (fun j => c - j) 0 (by simp) (by simp [sevens]) ?_
    rintro j hj
    simp [slcI_all hx, slcI_gall hx]
    refine IteP.dec (fun hlt => ?_) (fun hlt => ?_)
    · have hsl : (sevens j ts).length = c := by simp [sevens]; omega
      simp [slcI_all hx, slcI_gall hx, hlt, hsl, row1]
    
      refine ⟨j + 1, by omega, ⟨?_, ?_⟩, by omega⟩
      · rw [sevens_succ j ts (by omega)]; simp [row1]
      · rw [w64 (by omega) (by omega)]; simp
    · have hsB2 : ∀ (y z : Nd) (rest : Hp), slcI .i32 (H ++ y :: z :: some (1, ts.map (row1 .i32)) :: rest) (.ref (H.length + 2) [] 1 0 c) = some ts := fun y z rest => by
        rw [slcI_mk (all := ts) (by simp) (by omega), List.drop_zero, List.take_of_length_le (by omega)]
      simp [slcI_all hx, slcI_gall hx, sp4, sCut, hl', hw1, hw2, hq, hts, htl, sSame, hsB, hsB2, hcl, -List.map_take]
  · have hb2 : (decide (c < xs.length) && decide (0 ≤ w)) = false := by rw [hcond]; simp only [hb, decide_false]
    simp [hb2, slcI_all hx, slcI_gall hx]
    refine wpX_loop (fun j : Nat => j ≤ c) (fun j => ⟨[(0, x), (1, .v (.int .i64 w)), (5, .ref H.length [] 1 0 c), (7, .ref (H.length + 1) [] 1 0 c), (61, .v (.int .i64 c)), (62, .v (.int .i64 j))], H ++ [some (1, (sevens j ts).map (row1 .i32)), some (1, ts.map (row1 .i32))]⟩) (fun j => c - j) 0 (by simp) (by simp [sevens]) ?_
    rintro j hj
    simp [slcI_all hx, slcI_gall hx]
    refine IteP.dec (fun hlt => ?_) (fun hlt => ?_)
    · have hsl : (sevens j ts).length = c := by simp [sevens]; omega
      simp [slcI_all hx, slcI_gall hx, hlt, hsl, row1]
    
      refine ⟨j + 1, by omega, ⟨?_, ?_⟩, by omega⟩
      · rw [sevens_succ j ts (by omega)]; simp [row1]
      · rw [w64 (by omega) (by omega)]; simp
    · have hsB2 : ∀ (y z : Nd) (rest : Hp), slcI .i32 (H ++ y :: z :: some (1, ts.map (row1 .i32)) :: rest) (.ref (H.length + 2) [] 1 0 c) = some ts := fun y z rest => by
        rw [slcI_mk (all := ts) (by simp) (by omega), List.drop_zero, List.take_of_length_le (by omega)]
      simp [slcI_all hx, slcI_gall hx, sp4, sCut, hl', hw1, hw2, hq, hts, htl, sSame, hsB, hsB2, hcl, -List.map_take]
end Go.Eng.G
