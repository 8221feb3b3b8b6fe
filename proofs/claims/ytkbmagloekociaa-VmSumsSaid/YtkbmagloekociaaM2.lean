/- A part of the proof: contracts of functions, each proved once. -/
import Derived.Test.YtkbmagloekociaaM1
namespace Go.Eng.M
open Go Go.Eng Go.Proofs
set_option maxRecDepth 100000
set_option linter.unusedSimpArgs false
set_option linter.unusedSectionVars false
set_option linter.unusedVariables false
variable [Globs]
def idxI (x : Int) (xs : List Int) : Int := match xs.findIdx? (· == x) with | some i => i | none => -1
def sIndex : Spec where
  modes := []
  f := fun args H => match args with
    | [x, .v (.int .i64 v)] => match slcI .i64 H x with
      | some xs => if xs.length ≤ 2^40 then some (.v (.int .i64 (idxI v xs)), H) else none
      | none => none
    | _ => none
noncomputable def sp69 : Nat → Option Spec
  | _ => none
theorem sp69_ok : ∀ f s, sp69 f = some s → Meets PP f s := by
  intro f s h
  unfold sp69 at h
  cases h
set_option maxHeartbeats 4000000 in
theorem mIndex : Meets PP 69 (sIndex) := by
  refine meets (dr := drF tab69 PP sp69) (live := live69) fn69 rfl rfl rfl sp69_ok (fun base ak => drF_ok mixed sp69_ok _ base ak) ?_
  intro args H z H' h
  simp only [sIndex] at h
  repeat (split at h <;> try cases h)
  rename_i x v _ xs hx hl
  refine ⟨(by decide : 2 ≤ 19), ?_⟩
  generalize kdirs sIndex.modes _ = ak
  have hl' : xs.length ≤ 1099511627776 := hl
  simp [slcI_all hx, slcI_gall hx]
  refine wpX_loop (fun i : Nat => i ≤ xs.length ∧ ∀ j, (hj : j < i) → (hj2 : j < xs.length) → xs[j] ≠ v) (fun i => ⟨[(0, x), (1, .v (.int .i64 v)), (7, .v (.int .i64 xs.length)), (8, .v (.int .i64 i))], H⟩) (fun i => xs.length - i) 0 ⟨by omega, by intro j hj; omega⟩ (by simp) ?_
  rintro i ⟨hi, hno⟩
  simp [slcI_all hx, slcI_gall hx]
  refine IteP.dec (fun hlt2 => ?_) (fun hlt2 => ?_)
  · simp [hlt2, slcI_all hx, slcI_gall hx]
    refine IteP.dec (fun hb => ?_) (fun hb => ?_)
    · simp
      unfold idxI
      have : xs.findIdx? (· == v) = some i := by
        rw [List.findIdx?_eq_some_iff_getElem]
        exact ⟨hlt2, by simp [hb], fun j hj => by simpa using hno j hj (by omega)⟩
      rw [this]
    · simp
      refine ⟨i + 1, ⟨by omega, fun j hj hj2 => ?_⟩, ?_, by omega⟩
      · by_cases e : j = i
        · subst e; exact fun e => hb e.symm
        · exact hno j (by omega) hj2
      · rw [w64 (by omega) (by omega)]; simp
  · simp
    unfold idxI
    have : xs.findIdx? (· == v) = none := by
      rw [List.findIdx?_eq_none_iff]
      intro x hx
      obtain ⟨j, hj, rfl⟩ := List.getElem_of_mem hx
      simpa using hno j (by omega) hj
    rw [this]
theorem idxI_nonneg (x : Int) (xs : List Int) : decide (0 ≤ idxI x xs) = xs.contains x := by
  unfold idxI
  cases h : xs.findIdx? (· == x) with
  | none =>
    rw [List.findIdx?_eq_none_iff] at h
    simp only [Bool.eq_false_iff.1, Int.reduceNeg, Int.not_le, decide_eq_false_iff_not]
    symm
    rw [Bool.eq_iff_iff]
    simp
    intro hm
    have := h x hm
    simp at this
  | some i =>
    rw [List.findIdx?_eq_some_iff_getElem] at h
    obtain ⟨h1, h2, _⟩ := h
    simp at h2
    simp
    exact h2 ▸ List.getElem_mem h1
def sContains : Spec where
  modes := []
  f := fun args H => match args with
    | [x, .v (.int .i64 v)] => match slcI .i64 H x with
      | some xs => if xs.length ≤ 2^40 then some (.v (.bool (xs.contains v)), H) else none
      | none => none
    | _ => none
noncomputable def sp62 : Nat → Option Spec
  | 69 => some (sIndex)
  | _ => none
theorem sp62_ok : ∀ f s, sp62 f = some s → Meets PP f s := by
  intro f s h
  unfold sp62 at h
  split at h
  · injection h with h; subst h; exact mIndex
  · cases h
set_option maxHeartbeats 4000000 in
theorem mContains : Meets PP 62 (sContains) := by
  refine meets (dr := drF tab62 PP sp62) (live := live62) fn62 rfl rfl rfl sp62_ok (fun base ak => drF_ok mixed sp62_ok _ base ak) ?_
  intro args H z H' h
  simp only [sContains] at h
  repeat (split at h <;> try cases h)
  rename_i x v _ xs hx hl
  refine ⟨(by decide : 2 ≤ 9), ?_⟩
  have hl' : xs.length ≤ 1099511627776 := hl
  simp [slcI_all hx, slcI_gall hx, sp62, sIndex, hx, hl', idxI_nonneg]
def hasM (op : Int) : Bool := [1, 5, 6, 24, 25, 26, 28].contains op
def sHas : Spec where
  modes := []
  f := fun args H => match args with
    | [.v (.int .i64 op)] => some (.v (.bool (hasM op)), H)
    | _ => none
noncomputable def sp45 : Nat → Option Spec
  | 62 => some (sContains)
  | _ => none
theorem sp45_ok : ∀ f s, sp45 f = some s → Meets PP f s := by
  intro f s h
  unfold sp45 at h
  split at h
  · injection h with h; subst h; exact mContains
  · cases h
set_option maxHeartbeats 4000000 in
theorem mHas : Meets PP 45 (sHas) := by
  refine meets (dr := drF tab45 PP sp45) (live := live45) fn45 rfl rfl rfl sp45_ok (fun base ak => drF_ok mixed sp45_ok _ base ak) ?_
  intro args H z H' h
  simp only [sHas] at h
  repeat (split at h <;> try cases h)
  rename_i op
  refine ⟨(by decide : 1 ≤ 6), ?_⟩
  simp [sp45, sContains, slcI_root, unI_cons, unI_nil, hasM, slcI_fs']
def hostT : List Int := [3, 3, 0, 1, 1, 3, 1, 0, 1, 3, 0, 2]
def hostM (n : Int) : Int := if n < 0 ∨ 12 ≤ n then -1 else hostT.getD n.toNat 0
def sHost : Spec where
  modes := []
  f := fun args H => match args with
    | [.v (.int .i64 n)] => some (.v (.int .i64 (hostM n)), H)
    | _ => none
noncomputable def sp50 : Nat → Option Spec
  | _ => none
theorem sp50_ok : ∀ f s, sp50 f = some s → Meets PP f s := by
  intro f s h
  unfold sp50 at h
  cases h
set_option maxHeartbeats 4000000 in
theorem mHost : Meets PP 50 (sHost) := by
  refine meets (dr := drF tab50 PP sp50) (live := live50) fn50 rfl rfl rfl sp50_ok (fun base ak => drF_ok mixed sp50_ok _ base ak) ?_
  intro args H z H' h
  simp only [sHost] at h
  repeat (split at h <;> try cases h)
  rename_i n
  refine ⟨(by decide : 1 ≤ 14), ?_⟩
  simp
  by_cases hc : n < 0 ∨ 12 ≤ n
  · have hb : (decide (n < 0) || decide (12 ≤ n)) = true := by simpa using hc
    simp [hb, hostM, hc]
  · have hb : (decide (n < 0) || decide (12 ≤ n)) = false := by simpa using hc
    have hn : n = 0 ∨ n = 1 ∨ n = 2 ∨ n = 3 ∨ n = 4 ∨ n = 5 ∨ n = 6 ∨ n = 7 ∨ n = 8 ∨ n = 9 ∨ n = 10 ∨ n = 11 := by omega
    simp only [hb]
    simp
    rcases hn with rfl | rfl | rfl | rfl | rfl | rfl | rfl | rfl | rfl | rfl | rfl | rfl <;> simp [hostM, hostT]
/-- Is a number a function's? -/
def fnumM (m : Md) (n : Int) : Bool := decide (0 ≤ n) && decide (n < m.funcs.length)
noncomputable def sFnum : Spec where
  modes := []
  f := fun args H => match args with
    | [x, .v (.int .i64 n)] => match unMd x with
      | some m => some (.v (.bool (fnumM m n)), H)
      | none => none
    | _ => none
noncomputable def sp49 : Nat → Option Spec
  | _ => none
theorem sp49_ok : ∀ f s, sp49 f = some s → Meets PP f s := by
  intro f s h
  unfold sp49 at h
  cases h
set_option maxHeartbeats 4000000 in
theorem mFnum : Meets PP 49 (sFnum) := by
  refine meets (dr := drF tab49 PP sp49) (live := live49) fn49 rfl rfl rfl sp49_ok (fun base ak => drF_ok mixed sp49_ok _ base ak) ?_
  intro args H z H' h
  simp only [sFnum] at h
  repeat (split at h <;> try cases h)
  rename_i x n _ m hm
  refine ⟨(by decide : 2 ≤ 14), ?_⟩
  rw [unMd_eq hm]
  simp [mdV, fnumM]
end Go.Eng.M
