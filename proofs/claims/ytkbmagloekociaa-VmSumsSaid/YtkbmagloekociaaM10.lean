/- A part of the proof: contracts of functions, each proved once. -/
import Derived.Test.YtkbmagloekociaaM9
namespace Go.Eng.M
open Go Go.Eng Go.Proofs
set_option maxRecDepth 100000
set_option linter.unusedSimpArgs false
set_option linter.unusedSectionVars false
set_option linter.unusedVariables false
variable [Globs]
def sCloneI (k : IntKind) : Spec where
  modes := []
  f := fun args H => match args with
    | [x] => match slcI k H x with
      | some xs => if xs.length ≤ 2^43 then some (fresh k xs H) else none
      | _ => none
    | _ => none
theorem slcI_nil {k : IntKind} {H : Hp} {x : V} {xs : List Int} (h : slcI k H x = some xs) (hx : xs.length = 0) : isNil x = none ∧ isSl x = true := by
  have hl := slcI_len h
  rcases slc_cases (slcI_eq h) with rfl | ⟨id, p, off, n, rows', rfl, hn, hc, hr⟩
  · simp only [slen] at hl; simp [isNil, isSl, hx]
  · simp only [slen] at hl; subst hl; simp [isNil, isSl, hx]
theorem slcI_nonnil {k : IntKind} {H : Hp} {x : V} {xs : List Int} (h : slcI k H x = some xs) (hx : 0 < xs.length) : isNil x = some (0, false) := by
  have hl := slcI_len h
  rcases slc_cases (slcI_eq h) with rfl | ⟨id, p, off, n, rows', rfl, hn, hc, hr⟩
  · simp only [slen] at hl; simp [isNil, hx]
  · simp only [slen] at hl; subst hl; simp [isNil, hx]
noncomputable def sp40 : Nat → Option Spec
  | _ => none
theorem sp40_ok : ∀ f s, sp40 f = some s → Meets PP f s := by
  intro f s h
  unfold sp40 at h
  cases h
set_option maxHeartbeats 4000000 in
theorem mClone40 : Meets PP 40 (sCloneI .i64) := by
  refine meets (dr := drF tab40 PP sp40) (live := live40) fn40 rfl rfl rfl sp40_ok (fun base ak => drF_ok mixed sp40_ok _ base ak) ?_
  intro args H z H' h
  simp only [sCloneI] at h
  repeat (split at h <;> try cases h)
  rename_i x _ xs hx hl
  refine ⟨(by decide : 1 ≤ 8), ?_⟩
  generalize kdirs (sCloneI .i64).modes _ = ak
  have hb : xs.length * 8 ≤ 140737488355328 := by have : xs.length ≤ 8796093022208 := hl; omega
  rcases Nat.eq_zero_or_pos xs.length with h0 | h0
  · obtain ⟨n1, n2⟩ := slcI_nil hx h0
    have hxs : xs = [] := List.length_eq_zero_iff.1 h0
    subst hxs
    simp [slcI_ev hx, n1, n2, -isNil, -isSl]
    refine ⟨?_, ?_⟩
    · simp [fresh]
    · simp [slcI_ev hx, fun ys => slcI_src (slcI_grow hx ys), slcI_kill hx, fresh]
  · have n1 := slcI_nonnil hx h0
    simp [slcI_ev hx, n1, -isNil, -isSl, fun ys => slcI_src (slcI_grow hx ys), slcI_kill hx, fresh, hb]
noncomputable def sp36 : Nat → Option Spec
  | _ => none
theorem sp36_ok : ∀ f s, sp36 f = some s → Meets PP f s := by
  intro f s h
  unfold sp36 at h
  cases h
set_option maxHeartbeats 4000000 in
theorem mClone36 : Meets PP 36 (sCloneI .u8) := by
  refine meets (dr := drF tab36 PP sp36) (live := live36) fn36 rfl rfl rfl sp36_ok (fun base ak => drF_ok mixed sp36_ok _ base ak) ?_
  intro args H z H' h
  simp only [sCloneI] at h
  repeat (split at h <;> try cases h)
  rename_i x _ xs hx hl
  refine ⟨(by decide : 1 ≤ 8), ?_⟩
  generalize kdirs (sCloneI .u8).modes _ = ak
  have hb : xs.length ≤ 140737488355328 := by have : xs.length ≤ 8796093022208 := hl; omega
  rcases Nat.eq_zero_or_pos xs.length with h0 | h0
  · obtain ⟨n1, n2⟩ := slcI_nil hx h0
    have hxs : xs = [] := List.length_eq_zero_iff.1 h0
    subst hxs
    simp [slcI_ev hx, n1, n2, -isNil, -isSl]
    refine ⟨?_, ?_⟩
    · simp [fresh]
    · simp [slcI_ev hx, fun ys => slcI_src (slcI_grow hx ys), slcI_kill hx, fresh]
  · have n1 := slcI_nonnil hx h0
    simp [slcI_ev hx, n1, -isNil, -isSl, fun ys => slcI_src (slcI_grow hx ys), slcI_kill hx, fresh, hb]
def sCloneIns : Spec where
  modes := []
  f := fun args H => match args with
    | [.fs 2 rows] => if rows.length ≤ 2^40 ∧ allCopies rows = true then some (.ref H.length [] 2 0 rows.length, H ++ [some (2, rows)]) else none
    | _ => none
noncomputable def sp34 : Nat → Option Spec
  | _ => none
theorem sp34_ok : ∀ f s, sp34 f = some s → Meets PP f s := by
  intro f s h
  unfold sp34 at h
  cases h
set_option maxHeartbeats 4000000 in
theorem mCloneIns : Meets PP 34 (sCloneIns) := by
  refine meets (dr := drF tab34 PP sp34) (live := live34) fn34 rfl rfl rfl sp34_ok (fun base ak => drF_ok mixed sp34_ok _ base ak) ?_
  intro args H z H' h
  simp only [sCloneIns] at h
  repeat (split at h <;> try cases h)
  rename_i rows hl
  refine ⟨(by decide : 1 ≤ 8), ?_⟩
  obtain ⟨hl, hc⟩ := hl
  have hl' : rows.length * 16 ≤ 140737488355328 := by have : rows.length ≤ 1099511627776 := hl; omega
  rcases Nat.eq_zero_or_pos rows.length with h0 | h0
  · have hxs : rows = [] := List.length_eq_zero_iff.1 h0
    subst hxs
    simp
    refine ⟨?_, ?_⟩
    · simp
    · simp
  · have hne : ¬ rows.length = 0 := by omega
    have hne2 : ¬ rows = [] := by rintro rfl; simp at h0
    simp [hne, hne2, h0, hc, hl']
end Go.Eng.M
