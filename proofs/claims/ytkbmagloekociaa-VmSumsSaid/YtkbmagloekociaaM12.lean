/- A part of the proof: contracts of functions, each proved once. -/
import Derived.Test.YtkbmagloekociaaM11
namespace Go.Eng.M
open Go Go.Eng Go.Proofs
set_option maxRecDepth 100000
set_option linter.unusedSimpArgs false
set_option linter.unusedSectionVars false
set_option linter.unusedVariables false
variable [Globs]
attribute [simp] take_set
def truthM (b : Bool) : Int := if b = true then 1 else 0
def sTruth : Spec where
  modes := []
  f := fun args H => match args with
    | [.v (.bool b)] => some (.v (.int .i64 (truthM b)), H)
    | _ => none
noncomputable def sp68 : Nat → Option Spec
  | _ => none
theorem sp68_ok : ∀ f s, sp68 f = some s → Meets PP f s := by
  intro f s h
  unfold sp68 at h
  cases h
set_option maxHeartbeats 4000000 in
theorem mTruth : Meets PP 68 (sTruth) := by
  refine meets (dr := drF tab68 PP sp68) (live := live68) fn68 rfl rfl rfl sp68_ok (fun base ak => drF_ok mixed sp68_ok _ base ak) ?_
  intro args H z H' h
  simp only [sTruth] at h
  repeat (split at h <;> try cases h)
  rename_i b
  refine ⟨(by decide : 1 ≤ 4), ?_⟩
  cases b <;> simp [truthM]
theorem u64_nonneg (x : Int) : ¬ IntKind.u64.wrap x < 0 := by rw [IntKind.wrap_u64]; omega
/-- What two numbers come to; none: a trap. -/
def binM (op a b : Int) : Option Int :=
  if (op = 10 ∨ op = 11) ∧ b = 0 then none
  else some (if op = 7 then IntKind.i64.wrap (a + b) else if op = 8 then IntKind.i64.wrap (a - b) else if op = 9 then IntKind.i64.wrap (a * b)
    else if op = 10 then IntKind.i64.wrap (a.tdiv b) else if op = 11 then a.tmod b else if op = 12 then andI .i64 a b else if op = 13 then orI .i64 a b else if op = 14 then xorI .i64 a b
    else if op = 15 then shlI .i64 a (IntKind.u64.wrap (andI .i64 b 63)) else if op = 16 then shrI .i64 a (IntKind.u64.wrap (andI .i64 b 63)) else if op = 17 then truthM (decide (a = b)) else truthM (decide (a < b)))
def sBinary : Spec where
  modes := [1]
  f := fun args H => match args with
    | [.ptr id [] 0 0, .v (.int .i64 op), .v (.int .i64 a), .v (.int .i64 b)] => match mc H id with
      | some m => match lastF m.rows with
        | some (R, fa, fb, c, st) => if 7 ≤ op ∧ op ≤ 18 ∧ R.length < 2^20 ∧ st.length ≤ 2^20 then
            some (.tup [], H.set id (some (9, [(match binM op a b with | some v => { m with rows := R ++ [frC fa fb c (st ++ [row1 .i64 v])] } | none => { m with trap := .v (.int .i64 1) }).cells]))) else none
        | none => none
      | none => none
    | _ => none
@[simp] theorem mc_set {H : Hp} {id : Nat} (hl : id < H.length) (m : Mc) : mc (H.set id (some (9, [m.cells]))) id = some m := mc_of (by simp [hl])
noncomputable def sp57 : Nat → Option Spec
  | 37 => some (sTop)
  | 38 => some (sPush)
  | 68 => some (sTruth)
  | _ => none
theorem sp57_ok : ∀ f s, sp57 f = some s → Meets PP f s := by
  intro f s h
  unfold sp57 at h
  split at h
  · injection h with h; subst h; exact mTop
  · injection h with h; subst h; exact mPush
  · injection h with h; subst h; exact mTruth
  · cases h
set_option maxHeartbeats 40000000 in
theorem mBinary : Meets PP 57 (sBinary) := by
  refine meets (dr := drF tab57 PP sp57) (live := live57) fn57 rfl rfl rfl sp57_ok (fun base ak => drF_ok mixed sp57_ok _ base ak) ?_
  intro args H z H' h
  simp only [sBinary] at h
  repeat (split at h <;> try cases h)
  rename_i id op a b _ m h1 _ R fa fb c st h2 h3
  refine ⟨(by decide : 4 ≤ 115), ?_⟩
  obtain ⟨o1, o2, h3, h4⟩ := h3
  obtain ⟨c0, c1, c2, mem, rows, asks, call, args, trap⟩ := m
  have h2 := lastF_eq h2
  simp only at h2
  subst h2
  have hmc := h1
  obtain ⟨hlt, h1, h1'⟩ := mc_eq h1
  have hr0 : R.length + 1 ≤ 1048576 := by have : R.length < 1048576 := h3; omega
  have hst : st.length ≤ 1048576 := h4
  have hop : op = 7 ∨ op = 8 ∨ op = 9 ∨ op = 10 ∨ op = 11 ∨ op = 12 ∨ op = 13 ∨ op = 14 ∨ op = 15 ∨ op = 16 ∨ op = 17 ∨ op = 18 := by omega
  have hl : lastF (R ++ [[fa, fb, .own 1 c, .own 1 st]]) = some (R, fa, fb, c, st) := lastF_concat ..
  rcases hop with rfl | rfl | rfl | rfl | rfl | rfl | rfl | rfl | rfl | rfl | rfl | rfl
  case inr.inr.inr.inl =>
    by_cases hb : b = 0
    · subst hb
      simp [sBinary, h1, h1', hlt, Mc.cells, binM]
    · simp [sBinary, sp57, sTop, sPush, hmc, hl, hr0, hst, binM, hb]
  case inr.inr.inr.inr.inl =>
    by_cases hb : b = 0
    · subst hb
      simp [sBinary, h1, h1', hlt, Mc.cells, binM]
    · simp [sBinary, sp57, sTop, sPush, hmc, hl, hr0, hst, binM, hb]
  all_goals simp [sBinary, sp57, sTop, sPush, sTruth, hmc, hl, hr0, hst, binM, u64_nonneg]
def sBusy : Spec where
  modes := []
  f := fun args H => match args with
    | [.ptr id [] 0 0] => match mc H id with
      | some ⟨_, _, _, _, rows, _, _, _, .v (.int .i64 t)⟩ => some (.v (.bool (decide (t = 0) && decide (0 < rows.length))), H)
      | _ => none
    | _ => none
noncomputable def sp19 : Nat → Option Spec
  | _ => none
theorem sp19_ok : ∀ f s, sp19 f = some s → Meets PP f s := by
  intro f s h
  unfold sp19 at h
  cases h
set_option maxHeartbeats 4000000 in
theorem mBusy : Meets PP 19 (sBusy) := by
  refine meets (dr := drF tab19 PP sp19) (live := live19) fn19 rfl rfl rfl sp19_ok (fun base ak => drF_ok mixed sp19_ok _ base ak) ?_
  intro args H z H' h
  simp only [sBusy] at h
  repeat (split at h <;> try cases h)
  rename_i id _ c0 c1 c2 mem rows asks call args t h1
  refine ⟨(by decide : 1 ≤ 16), ?_⟩
  obtain ⟨hlt, h1, h1'⟩ := mc_eq h1
  simp [sBusy, h1, h1', hlt, Mc.cells]
end Go.Eng.M
