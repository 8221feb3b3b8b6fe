/- A part of the proof: contracts of functions, each proved once. -/
import Derived.Test.YtgbgmkacpjbilaaDoorT17
namespace Go.Eng.G
open Go Go.Eng Go.Proofs
set_option maxRecDepth 100000
set_option linter.unusedSimpArgs false
set_option linter.unusedSectionVars false
variable [Globs]
/-- How many of some runes fit, from n on. -/
def cutG (w : Int) : List Int → Int → Nat × Int
  | [], n => (0, n)
  | r :: rs, n => if w - n < widthG r ∨ w < 0 then (0, n) else
      let q := cutG w rs (n + widthG r)
      (q.1 + 1, q.2)
def sCut : Spec where
  modes := []
  f := fun args H => match args with
    | [x, .v (.int .i64 w)] => match slcI .i32 H x with
      | some xs => if xs.length ≤ 2^45 ∧ -9223372036854775808 ≤ w ∧ w ≤ 9223372036854775807 then
          some (.tup [.ref H.length [] 1 0 (cutG w xs 0).1, .v (.int .i64 (cutG w xs 0).2)], H ++ [some (1, (xs.take (cutG w xs 0).1).map (row1 .i32))]) else none
      | _ => none
    | _ => none
def sp12 : Nat → Option Spec
  | 16 => some sWidth
  | 25 => some (sCloneI .i32)
  | _ => none
theorem sp12_ok : ∀ f s, sp12 f = some s → Meets PP f s := by
  intro f s h
  unfold sp12 at h
  split at h <;> cases h
  · exact mWidth
  · exact mClone
theorem cutG_le (w : Int) : ∀ (xs : List Int) (n : Int), (cutG w xs n).1 ≤ xs.length
  | [], n => by simp [cutG]
  | r :: rs, n => by
    unfold cutG
    split
    · simp
    · have := cutG_le w rs (n + widthG r); simp; omega
set_option maxHeartbeats 2000000 in
theorem mCut : Meets PP 12 sCut := by
  refine meets (dr := drF tab12 PP sp12) (live := live12) fn12 rfl rfl rfl sp12_ok (fun base ak => drF_ok mixed sp12_ok _ base ak) ?_
  intro args H z H' h
  simp only [sCut] at h
  split at h <;> try cases h
  rename_i x w
  split at h <;> try cases h
  rename_i xs hx
  split at h <;> cases h
  rename_i hc
  obtain ⟨hl, hw1, hw2⟩ := hc
  refine ⟨(by decide : 2 ≤ 39), ?_⟩
  generalize kdirs sCut.modes _ = ak
  simp [slcI_ev hx, slcI_ln hx]
  refine wpX_loop (fun i : Nat => i ≤ xs.length ∧ cutG w xs 0 = ((cutG w (xs.drop i) (totalG (xs.take i))).1 + i, (cutG w (xs.drop i) (totalG (xs.take i))).2)) (fun i => ⟨[(0, x), (1, .v (.int .i64 w)), (9, x), (6, .v (.int .i64 (totalG (xs.take i)))), (10, .v (.int .i64 xs.length)), (11, .v (.int .i64 i))], H ++ [some (1, [])]⟩) (fun i => xs.length - i) 0 (by simp [totalG]) (by simp [totalG]) ?_
  rintro i ⟨hi, hcut⟩
  have hev := slcI_ev hx
  have hgx := slcI_grow hx [some (1, [])]
  have ht := totalG_range (xs.take i)
  simp at ht
  have hl' : xs.length ≤ 35184372088832 := hl
  simp [hev]
  refine IteP.dec (fun hlt => ?_) (fun hlt => ?_)
  · have hwd := widthG_range xs[i]
    have hdrop : xs.drop i = xs[i] :: xs.drop (i + 1) := List.drop_eq_getElem_cons hlt
    simp [hlt, hev, slcI_idxN hgx, slcI_ld hgx, slcI_evE hgx, sp12, sWidth]
    have htl : (xs.take i).length = i := by simp; omega
    have hcond : (decide (IntKind.i64.wrap (w - totalG (List.take i xs)) < widthG xs[i]) || decide (w < 0)) = decide (w - totalG (xs.take i) < widthG xs[i] ∨ w < 0) := by
      by_cases hw0 : w < 0
      · simp [hw0]
      · rw [w64 (by omega) (by omega)]; simp
    rw [hcond]
    refine IteP.dec (fun hstop => ?_) (fun hgo => ?_)
    · have he : cutG w (xs.drop i) (totalG (xs.take i)) = (0, totalG (xs.take i)) := by
        rw [hdrop]; unfold cutG; rw [if_pos hstop]
      rw [he] at hcut
      simp only [Nat.zero_add] at hcut
      have hsub := slcI_sub hgx (l := 0) (n := i) (by omega)
      simp at hsub
      have hle : i ≤ 35184372088832 := by omega
      have hmin : min i xs.length = i := by omega
      simp [hev, slcI_cut hgx, hi, hsub, slcI_ev hsub, sp12, fresh, sCloneI, hcut, hle, hmin]
    · simp [hev, sp12, sWidth]
      have htk := totalG_take xs i hlt
      refine ⟨i + 1, ⟨by omega, ?_⟩, ⟨?_, ?_⟩, by omega⟩
      · rw [hcut, hdrop]
        conv => lhs; unfold cutG
        rw [if_neg hgo, htk]
        simp only [Prod.mk.injEq, and_true]
        omega
      · rw [htk, w64 (by omega) (by omega)]
      · rw [w64 (by omega) (by omega)]; simp
  · simp [hev, sp12, sCloneI, hgx, hl', fresh]
    have hii : i = xs.length := by omega
    subst hii
    have e : cutG w xs 0 = (xs.length, totalG xs) := by
      rw [hcut]; simp [cutG]
    rw [e]
    refine ⟨⟨rfl, by simp⟩, ?_⟩
    exact List.take_of_length_le (by simp)
end Go.Eng.G
