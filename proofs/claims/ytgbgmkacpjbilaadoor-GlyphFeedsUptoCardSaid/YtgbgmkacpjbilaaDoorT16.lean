/- A part of the proof: contracts of functions, each proved once. -/
import Derived.Test.YtgbgmkacpjbilaaDoorT15
namespace Go.Eng.G
open Go Go.Eng Go.Proofs
set_option maxRecDepth 100000
set_option linter.unusedSimpArgs false
set_option linter.unusedSectionVars false
variable [Globs]
theorem widthG_range (r : Int) : 0 ≤ widthG r ∧ widthG r ≤ 2 := by
  unfold widthG
  repeat' split
  all_goals omega
def totalG : List Int → Int
  | [] => 0
  | r :: rs => widthG r + totalG rs
theorem totalG_take (xs : List Int) (i : Nat) (h : i < xs.length) : totalG (xs.take (i + 1)) = totalG (xs.take i) + widthG xs[i] := by
  induction xs generalizing i with
  | nil => simp at h
  | cons x xs ih =>
    cases i with
    | zero => simp [totalG]
    | succ i =>
      simp only [List.take_succ_cons, totalG, List.getElem_cons_succ]
      rw [ih i (by simpa using h)]
      omega
theorem totalG_range : ∀ xs : List Int, 0 ≤ totalG xs ∧ totalG xs ≤ 2 * xs.length
  | [] => by simp [totalG]
  | x :: xs => by
    have h1 := widthG_range x
    have h2 := totalG_range xs
    simp only [totalG, List.length_cons]
    omega
def sTotal : Spec where
  modes := []
  f := fun args H => match args with
    | [x] => match slcI .i32 H x with
      | some xs => if xs.length ≤ 2^45 then some (.v (.int .i64 (totalG xs)), H) else none
      | _ => none
    | _ => none
def sp14 : Nat → Option Spec
  | 16 => some sWidth
  | _ => none
theorem sp14_ok : ∀ f s, sp14 f = some s → Meets PP f s := by
  intro f s h
  unfold sp14 at h
  split at h <;> cases h
  exact mWidth
set_option maxHeartbeats 2000000 in
theorem mTotal : Meets PP 14 sTotal := by
  refine meets (dr := drF tab14 PP sp14) (live := live14) fn14 rfl rfl rfl sp14_ok (fun base ak => drF_ok mixed sp14_ok _ base ak) ?_
  intro args H z H' h
  simp only [sTotal] at h
  split at h <;> try cases h
  rename_i x
  split at h <;> try cases h
  rename_i xs hx
  split at h <;> cases h
  rename_i hl
  refine ⟨(by decide : 1 ≤ 18), ?_⟩
  generalize kdirs sTotal.modes _ = ak
  simp [slcI_ev hx, slcI_ln hx]
  refine wpX_loop (fun i : Nat => i ≤ xs.length) (fun i => ⟨[(6, x), (3, .v (.int .i64 (totalG (xs.take i)))), (7, .v (.int .i64 xs.length)), (8, .v (.int .i64 i))], H⟩) (fun i => xs.length - i) 0 (by simp) (by simp [totalG]) ?_
  rintro i hi
  simp [slcI_ev hx]
  refine IteP.dec (fun hlt => ?_) (fun hlt => ?_)
  · simp [hlt, slcI_ev hx, slcI_idxN hx, slcI_ld hx, slcI_evE hx, sp14, sWidth]
    refine ⟨i + 1, by omega, ⟨?_, ?_⟩, by omega⟩
    · have h1 := totalG_range (xs.take i)
      have h2 := widthG_range xs[i]
      rw [totalG_take xs i hlt, w64]
      · omega
      · simp at h1; omega
    · rw [w64 (by omega) (by omega)]; simp
  · simp
    rw [List.take_of_length_le (by omega)]
end Go.Eng.G
