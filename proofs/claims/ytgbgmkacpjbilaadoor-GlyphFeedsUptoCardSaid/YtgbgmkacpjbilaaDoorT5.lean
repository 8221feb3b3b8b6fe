/- A part of the proof: contracts of functions, each proved once. -/
import Derived.Test.YtgbgmkacpjbilaaDoorT18
import Derived.Test.YtgbgmkacpjbilaaDoorE3
namespace Go.Eng.G
open Go Go.Eng Go.Proofs
set_option maxRecDepth 100000
set_option linter.unusedSimpArgs false
set_option linter.unusedSectionVars false
variable [Globs]

def sSame : Spec where
  modes := []
  f := fun args H => match args with
    | [x, y] => match slcI .i32 H x, slcI .i32 H y with
      | some xs, some ys => if xs.length ≤ 2^45 then some (.v (.bool (decide (xs = ys))), H) else none
      | _, _ => none
    | _ => none

set_option maxHeartbeats 1000000 in
theorem mSame : Meets PP 9 sSame := by
  refine meets (dr := drF tab9 PP noSp) (live := live9) fn9 rfl rfl rfl noSp_ok (fun base ak => drF_ok mixed noSp_ok _ base ak) ?_
  intro args H z H' h
  simp only [sSame] at h
  split at h <;> try cases h
  rename_i x y
  split at h <;> try cases h
  rename_i xs ys hx hy
  split at h <;> cases h
  rename_i hl
  refine ⟨(by decide : 2 ≤ 26), ?_⟩
  generalize kdirs sSame.modes _ = ak
  simp [slcI_ev hx, slcI_ev hy, slcI_ln hx, slcI_ln hy]

  refine IteP.dec (fun hlen => ?_) (fun hlen => ?_)
  · simp
    refine wpX_loop (fun i : Nat => i ≤ xs.length ∧ xs.take i = ys.take i) (fun i => ⟨[(0, x), (1, y), (5, .v (.int .i64 i))], H⟩) (fun i => xs.length - i) 0 (by simp) (by simp) ?_
    rintro i ⟨hi, he⟩
    simp [slcI_ev hx, slcI_ev hy, slcI_ln hx, slcI_ln hy]
    refine IteP.dec (fun hlt => ?_) (fun hlt => ?_)
    · simp
      refine DrP.intro (by decide) ?_
      have hlt' : i < ys.length := by omega
      simp [hlt, hlt', slcI_ev hx, slcI_ev hy, slcI_ln hx, slcI_ln hy, slcI_idxN hx, slcI_idxN hy, slcI_ld hx, slcI_ld hy, slcI_evE hx, slcI_evE hy]
      refine IteP.dec (fun hx' => ?_) (fun hx' => ?_)
      · simp
        refine ⟨i + 1, ⟨by omega, ?_⟩, ?_, by omega⟩
        · rw [List.take_add_one, List.take_add_one, he]
          simp [hlt, hlt', hx']
        · rw [w64 (by omega) (by omega)]; simp
      · simp
        intro e
        subst e
        exact hx' rfl
    · simp
      have := List.take_of_length_le (l := xs) (i := i) (by omega)
      have h2 := List.take_of_length_le (l := ys) (i := i) (by omega)
      rw [← this, ← h2, he]
  · simp
    intro e
    subst e
    exact hlen rfl
end Go.Eng.G
