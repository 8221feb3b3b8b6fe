/- A part of the proof: contracts of functions, each proved once. -/
import Derived.Test.YtgbgmkacpjbilaaDoorT16
namespace Go.Eng.G
open Go Go.Eng Go.Proofs
set_option maxRecDepth 100000
set_option linter.unusedSimpArgs false
set_option linter.unusedSectionVars false
variable [Globs]
/-- A fresh slice of numbers. -/
def fresh (k : IntKind) (xs : List Int) (H : Hp) : V × Hp := (.ref H.length [] 1 0 xs.length, H ++ [some (1, xs.map (row1 k))])
def sCloneI (k : IntKind) : Spec where
  modes := []
  f := fun args H => match args with
    | [x] => match slcI k H x with
      | some xs => if xs.length ≤ 2^45 then some (fresh k xs H) else none
      | _ => none
    | _ => none
theorem slcI_nil {k : IntKind} {H : Hp} {x : V} {xs : List Int} (h : slcI k H x = some xs) (hx : xs.length = 0) : isNil x = none ∧ isSl x = true := by
  have hl := slcI_len h
  rcases slc_cases (slcI_eq h) with rfl | ⟨id, p, off, n, rows', rfl, hn, hc, hr⟩
  · simp only [slen] at hl; simp [isNil, isSl, hx]
  · simp only [slen] at hl; subst hl; simp [isNil, isSl, hx]
theorem slcI_nonnil {k : IntKind} {H : Hp} {x : V} {xs : List Int} (h : slcI k H x = some xs) (hx : 0 < xs.length) : isNil x = some (0, false) := by
  have hl := slcI_len h
  rcases slc_cases (slcI_eq h) with rfl | ⟨id, p, off, n, rows', rfl, hn, hc, hr⟩
  · simp only [slen] at hl; simp [isNil, hx]
  · simp only [slen] at hl; subst hl; simp [isNil, hx]
set_option maxHeartbeats 2000000 in
theorem mClone : Meets PP 25 (sCloneI .i32) := by
  refine meets (dr := drF tab25 PP noSp) (live := live25) fn25 rfl rfl rfl noSp_ok (fun base ak => drF_ok mixed noSp_ok _ base ak) ?_
  intro args H z H' h
  simp only [sCloneI] at h
  split at h <;> try cases h
  rename_i x
  split at h <;> try cases h
  rename_i xs hx
  split at h <;> cases h
  rename_i hl
  refine ⟨(by decide : 1 ≤ 8), ?_⟩
  generalize kdirs (sCloneI .i32).modes _ = ak
  have hb : xs.length * 4 ≤ 140737488355328 := by have : xs.length ≤ 35184372088832 := hl; omega
  rcases Nat.eq_zero_or_pos xs.length with h0 | h0
  · obtain ⟨n1, n2⟩ := slcI_nil hx h0
    have hxs : xs = [] := List.length_eq_zero_iff.1 h0
    subst hxs
    simp [slcI_ev hx, n1, n2, -isNil, -isSl]
    refine ⟨?_, ?_⟩
    · simp [fresh]
    · simp [slcI_ev hx, fun ys => slcI_src (slcI_grow hx ys), slcI_kill hx, fresh]
  · have n1 := slcI_nonnil hx h0
    simp [slcI_ev hx, n1, -isNil, -isSl, fun ys => slcI_src (slcI_grow hx ys), slcI_kill hx, fresh, hb]
end Go.Eng.G
