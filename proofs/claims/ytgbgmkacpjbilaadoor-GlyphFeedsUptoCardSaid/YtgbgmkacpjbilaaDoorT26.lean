/- A part of the proof: contracts of functions, each proved once. -/
import Derived.Test.YtgbgmkacpjbilaaDoorT25
namespace Go.Eng.G
open Go Go.Eng Go.Proofs
set_option maxRecDepth 100000
set_option linter.unusedSimpArgs false
set_option linter.unusedSectionVars false
variable [Globs]
theorem refWidthG_range (r : Int) : 0 ≤ refWidthG r ∧ refWidthG r ≤ 2 := by
  unfold refWidthG
  repeat' split
  all_goals omega
def totalR : List Int → Int
  | [] => 0
  | r :: rs => refWidthG r + totalR rs
theorem totalR_take (xs : List Int) (i : Nat) (h : i < xs.length) : totalR (xs.take (i + 1)) = totalR (xs.take i) + refWidthG xs[i] := by
  induction xs generalizing i with
  | nil => simp at h
  | cons x xs ih =>
    cases i with
    | zero => simp [totalR]
    | succ i =>
      simp only [List.take_succ_cons, totalR, List.getElem_cons_succ]
      rw [ih i (by simpa using h)]
      omega
theorem totalR_range : ∀ xs : List Int, 0 ≤ totalR xs ∧ totalR xs ≤ 2 * xs.length
  | [] => by simp [totalR]
  | x :: xs => by
    have h1 := refWidthG_range x
    have h2 := totalR_range xs
    simp only [totalR, List.length_cons]
    omega
def cutR (w : Int) : List Int → Int → Nat × Int
  | [], n => (0, n)
  | r :: rs, n => if w < 0 ∨ w < n + refWidthG r then (0, n) else
      let q := cutR w rs (n + refWidthG r)
      (q.1 + 1, q.2)
def sCutR : Spec where
  modes := []
  f := fun args H => match args with
    | [x, .v (.int .i64 w)] => match slcI .i32 H x with
      | some xs => if xs.length ≤ 2^45 then
          some (.tup [.ref H.length [] 1 0 (cutR w xs 0).1, .v (.int .i64 (cutR w xs 0).2)], H ++ [some (1, (xs.take (cutR w xs 0).1).map (row1 .i32))]) else none
      | _ => none
    | _ => none
def sp13 : Nat → Option Spec
  | 26 => some (sW refWidthG)
  | _ => none
theorem sp13_ok : ∀ f s, sp13 f = some s → Meets PP f s := by
  intro f s h
  unfold sp13 at h
  split at h <;> cases h
  exact mRefWidth
set_option maxHeartbeats 4000000 in
theorem mCutR : Meets PP 13 sCutR := by
  refine meets (dr := drF tab13 PP sp13) (live := live13) fn13 rfl rfl rfl sp13_ok (fun base ak => drF_ok mixed sp13_ok _ base ak) ?_
  intro args H z H' h
  simp only [sCutR] at h
  split at h <;> try cases h
  rename_i x w
  split at h <;> try cases h
  rename_i xs hx
  split at h <;> cases h
  rename_i hl
  have hl' : xs.length ≤ 35184372088832 := hl
  refine ⟨(by decide : 2 ≤ 45), ?_⟩
  generalize kdirs sCutR.modes _ = ak
  simp [slcI_all hx, slcI_gall hx]
  refine wpX_loop (fun i : Nat => i ≤ xs.length ∧ cutR w xs 0 = ((cutR w (xs.drop i) (totalR (xs.take i))).1 + i, (cutR w (xs.drop i) (totalR (xs.take i))).2)) (fun i => ⟨[(0, x), (1, .v (.int .i64 w)), (6, .v (.int .i64 (totalR (xs.take i)))), (7, .ref (H.length + 1) [] 1 0 i), (8, .v (.int .i64 i))], H ++ [some (1, []), some (1, (xs.take i).map (row1 .i32))]⟩) (fun i => xs.length - i) 0 (by simp [totalR]) (by simp [totalR]) ?_
  rintro i ⟨hi, hcut⟩
  have ht := totalR_range (xs.take i)
  simp at ht
  simp [slcI_all hx, slcI_gall hx]
  refine IteP.dec (fun hlt => ?_) (fun hlt => ?_)
  · have hwd := refWidthG_range xs[i]
    have hdrop : xs.drop i = xs[i] :: xs.drop (i + 1) := List.drop_eq_getElem_cons hlt
    have htk := totalR_take xs i hlt
    have hw64 : IntKind.i64.wrap (totalR (List.take i xs) + refWidthG xs[i]) = totalR (xs.take (i + 1)) := by rw [htk, w64 (by omega) (by omega)]
    have hmin : min i xs.length = i := by omega
    simp [slcI_all hx, slcI_gall hx, hlt, sp13, sW, hw64]
    refine IteP.intro (fun hs => ?_) (fun hs => ?_)
    · have he : cutR w (xs.drop i) (totalR (xs.take i)) = (0, totalR (xs.take i)) := by
        rw [hdrop]; unfold cutR; rw [if_pos (by simpa [htk] using hs)]
      rw [he] at hcut
      simp only [Nat.zero_add] at hcut
      simp [slcI_all hx, slcI_gall hx, hcut]
    · have hs' : ¬ (w < 0 ∨ w < totalR (xs.take (i + 1))) := by
        intro hh; rcases hh with hh | hh <;> simp [hh] at hs
      have ho : i + 1 ≤ 140737488355328 := by omega
      have ho2 : (i + 1) * 4 ≤ 140737488355328 := by omega
      simp [slcI_all hx, slcI_gall hx, hlt, hw64, hmin, ho2]
      refine ⟨i + 1, ⟨by omega, ?_⟩, ⟨?_, ?_⟩, by omega⟩
      · rw [hcut, hdrop]
        conv => lhs; unfold cutR
        rw [if_neg (by rw [← htk]; exact hs'), htk]
        simp only [Prod.mk.injEq, and_true]
        omega
      · rw [List.take_add_one]; simp [row1, hlt]
      · rw [w64 (by omega) (by omega)]; simp
  · simp [slcI_all hx, slcI_gall hx]
    have hii : i = xs.length := by omega
    subst hii
    have e : cutR w xs 0 = (xs.length, totalR xs) := by
      rw [hcut]; simp [cutR]
    rw [e]
    simp
end Go.Eng.G
