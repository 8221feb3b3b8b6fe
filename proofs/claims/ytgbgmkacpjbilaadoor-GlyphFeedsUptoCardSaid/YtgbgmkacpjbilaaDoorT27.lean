/- A part of the proof: contracts of functions, each proved once. -/
import Derived.Test.YtgbgmkacpjbilaaDoorT25
import Derived.Test.YtgbgmkacpjbilaaDoorT26
namespace Go.Eng.G
open Go Go.Eng Go.Proofs
set_option maxRecDepth 100000
set_option linter.unusedSimpArgs false
set_option linter.unusedSectionVars false
variable [Globs]
theorem mulb0 : andI .u64 1 4294967295 = 1 ∧ andI .u64 0 4294967295 = 0 ∧ andI .u64 2 4294967295 = 2 ∧ andI .u64 3 4294967295 = 3 := by decide
theorem mulb1 : shrI .u64 1 32 = 0 ∧ shrI .u64 0 32 = 0 ∧ shrI .u64 2 32 = 0 ∧ shrI .u64 3 32 = 0 := by decide
theorem mulb2 : IntKind.u64.wrap 0 = 0 ∧ IntKind.u64.wrap 1 = 1 ∧ IntKind.u64.wrap 2 = 2 ∧ IntKind.u64.wrap 3 = 3 ∧ IntKind.i64.wrap 0 = 0 ∧ IntKind.i64.wrap 1 = 1 ∧ IntKind.i64.wrap 2 = 2 ∧ IntKind.i64.wrap 3 = 3 := by decide
/-- The product of 1 and a small number. -/
def sMul : Spec where
  modes := []
  f := fun args H => match args with
    | [.v (.int .u64 1), .v (.int .u64 n)] => if 0 ≤ n ∧ n ≤ 3 then some (.tup [.v (.int .u64 0), .v (.int .u64 n)], H) else none
    | _ => none
set_option maxHeartbeats 4000000 in
theorem mMul64 : Meets PP 36 sMul := by
  refine meets (dr := drF tab36 PP noSp) (live := live36) fn36 rfl rfl rfl noSp_ok (fun base ak => drF_ok mixed noSp_ok _ base ak) ?_
  intro args H z H' h
  simp only [sMul] at h
  split at h <;> try cases h
  rename_i n
  split at h <;> cases h
  rename_i hc
  refine ⟨(by decide : 2 ≤ 51), ?_⟩
  generalize kdirs sMul.modes _ = ak
  have hn : n = 0 ∨ n = 1 ∨ n = 2 ∨ n = 3 := by omega
  rcases hn with rfl | rfl | rfl | rfl <;> simp [mulb0, mulb1, mulb2]
def sp32 : Nat → Option Spec
  | 36 => some sMul
  | _ => none
theorem sp32_ok : ∀ f s, sp32 f = some s → Meets PP f s := by
  intro f s h
  unfold sp32 at h
  split at h <;> cases h
  exact mMul64
set_option maxHeartbeats 4000000 in
theorem mMul : Meets PP 32 sMul := by
  refine meets (dr := drF tab32 PP sp32) (live := live32) fn32 rfl rfl rfl sp32_ok (fun base ak => drF_ok mixed sp32_ok _ base ak) ?_
  intro args H z H' h
  simp only [sMul] at h
  split at h <;> try cases h
  rename_i n
  split at h <;> cases h
  rename_i hc
  refine ⟨(by decide : 2 ≤ 30), ?_⟩
  generalize kdirs sMul.modes _ = ak
  simp [sp32, sMul, hc]
/-- Some times the same rune. -/
def sRepeat : Spec where
  modes := []
  f := fun args H => match args with
    | [.fs 1 [[.v (.int .i32 r)]], .v (.int .i64 n)] => if 0 ≤ n ∧ n ≤ 3 then some (fresh .i32 (List.replicate n.toNat r) H) else none
    | _ => none
def sp24 : Nat → Option Spec
  | 32 => some sMul
  | _ => none
theorem sp24_ok : ∀ f s, sp24 f = some s → Meets PP f s := by
  intro f s h
  unfold sp24 at h
  split at h <;> cases h
  exact mMul
set_option maxHeartbeats 4000000 in
theorem mRepeat : Meets PP 24 sRepeat := by
  refine meets (dr := drF tab24 PP sp24) (live := live24) fn24 rfl rfl rfl sp24_ok (fun base ak => drF_ok mixed sp24_ok _ base ak) ?_
  intro args H z H' h
  simp only [sRepeat] at h
  split at h <;> try cases h
  rename_i r n
  split at h <;> cases h
  rename_i hc
  refine ⟨(by decide : 2 ≤ 48), ?_⟩
  generalize kdirs sRepeat.modes _ = ak
  have hn : n = 0 ∨ n = 1 ∨ n = 2 ∨ n = 3 := by omega
  rcases hn with rfl | rfl | rfl | rfl
  · simp [sp24, sMul, mulb2, zrow]
    refine wpX_loop (fun c : Nat => c = 0) (fun c => ⟨[(7, .ref (H.length + 1) [] 1 0 0), (8, .v (.int .i64 c))], H ++ [some (1, []), some (1, List.replicate c (row1 .i32 r) ++ List.replicate (0 - c) (row1 .i32 0))]⟩) (fun c => 0 - c) 0 (by omega) (by simp [row1, List.replicate]) ?_
    rintro c hc'
    subst hc'
    · simp [mulb2, fresh, row1, List.replicate]
  · simp [sp24, sMul, mulb2, zrow]
    refine wpX_loop (fun c : Nat => c = 1) (fun c => ⟨[(7, .ref (H.length + 1) [] 1 0 1), (8, .v (.int .i64 c))], H ++ [some (1, []), some (1, List.replicate c (row1 .i32 r) ++ List.replicate (1 - c) (row1 .i32 0))]⟩) (fun c => 1 - c) 1 (by omega) (by simp [row1, List.replicate]) ?_
    rintro c hc'
    subst hc'
    · simp [mulb2, fresh, row1, List.replicate]
  · simp [sp24, sMul, mulb2, zrow]
    refine wpX_loop (fun c : Nat => c = 1 ∨ c = 2) (fun c => ⟨[(7, .ref (H.length + 1) [] 1 0 2), (8, .v (.int .i64 c))], H ++ [some (1, []), some (1, List.replicate c (row1 .i32 r) ++ List.replicate (2 - c) (row1 .i32 0))]⟩) (fun c => 2 - c) 1 (by omega) (by simp [row1, List.replicate]) ?_
    rintro c hc'
    rcases hc' with rfl | rfl
    · simp [mulb2]
      refine DrP.intro (by decide) ?_
      simp [mulb2, row1, List.replicate, part]
    · simp [mulb2, fresh, row1, List.replicate]
  · simp [sp24, sMul, mulb2, zrow]
    refine wpX_loop (fun c : Nat => c = 1 ∨ c = 2 ∨ c = 3) (fun c => ⟨[(7, .ref (H.length + 1) [] 1 0 3), (8, .v (.int .i64 c))], H ++ [some (1, []), some (1, List.replicate c (row1 .i32 r) ++ List.replicate (3 - c) (row1 .i32 0))]⟩) (fun c => 3 - c) 1 (by omega) (by simp [row1, List.replicate]) ?_
    rintro c hc'
    rcases hc' with rfl | rfl | rfl
    · simp [mulb2]
      refine DrP.intro (by decide) ?_
      simp [mulb2, row1, List.replicate, part]
    · simp [mulb2]
      refine DrP.intro (by decide) ?_
      simp [mulb2, row1, List.replicate, part]
    · simp [mulb2, fresh, row1, List.replicate]
end Go.Eng.G
