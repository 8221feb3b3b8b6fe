/- A part of the proof: contracts of functions, each proved once. -/
import Derived.Test.YtkbmagloekociaaM22
namespace Go.Eng.M
open Go Go.Eng Go.Proofs
set_option maxRecDepth 100000
set_option linter.unusedSimpArgs false
set_option linter.unusedSectionVars false
set_option linter.unusedVariables false
variable [Globs]
@[simp] theorem un_mObj (p : Md × MS) : un mObj (mObj p) = some p := un_enc mObj_inj p
theorem unMd_one (a : Int) (b : List Int) (f : Fn) : unMd (.agg [.v (.int .i64 a), .fs 1 (b.map (row1 .u8)), .fs 4 [fnRow f]]) = some ⟨a, b, [f]⟩ := unMd_mdV ⟨a, b, [f]⟩
theorem unMd_one0 (a : Int) (f : Fn) : unMd (.agg [.v (.int .i64 a), .fs 1 [], .fs 4 [fnRow f]]) = some ⟨a, [], [f]⟩ := unMd_mdV ⟨a, [], [f]⟩
def cA1 : List Ins := [⟨1, 2⟩, ⟨1, 3⟩, ⟨9, 0⟩, ⟨6, 0⟩, ⟨27, 0⟩]
def cA2 : List Ins := [⟨1, 1⟩, ⟨1, 0⟩, ⟨10, 0⟩, ⟨2, 0⟩, ⟨27, 0⟩]
def cA3 : List Ins := [⟨28, 10⟩, ⟨2, 0⟩, ⟨27, 0⟩]
def sBeg : MS := ⟨[], [⟨0, 0, [0, 0, 0], []⟩], false, 0, [], 0⟩
theorem init0 (c : List Ins) : initM (oneMd c) = ⟨[], [], false, 0, [], 0⟩ := rfl
theorem new0 (c : List Ins) : newMd (oneMd c) = oneMd c := rfl
theorem chkA1 : checkM (oneMd cA1) = (0, 0, 0) := by decide +kernel
theorem chkA2 : checkM (oneMd cA2) = (0, 0, 0) := by decide +kernel
theorem chkA3 : checkM (oneMd cA3) = (0, 0, 0) := by decide +kernel
theorem begA (c : List Ins) : beginM (oneMd c) ⟨[], [], false, 0, [], 0⟩ 0 0 0 = some (sBeg, 0) := rfl
theorem runA1 : runM (oneMd cA1) sBeg 9 = some (⟨[], [], false, 0, [], 0⟩, ⟨1, 0, 5, 0, []⟩) := by decide +kernel
theorem runA2 : runM (oneMd cA2) sBeg 9 = some (⟨[], [⟨0, 3, [0, 0, 0], []⟩], false, 0, [], 1⟩, ⟨4, 1, 3, 0, []⟩) := by decide +kernel
theorem runA3 : runM (oneMd cA3) sBeg 9 = some (⟨[], [⟨0, 1, [0, 0, 0], []⟩], true, 10, [], 0⟩, ⟨3, 0, 1, 10, []⟩) := by decide +kernel
theorem repA3 : replyM ⟨[], [⟨0, 1, [0, 0, 0], []⟩], true, 10, [], 0⟩ 5 = some (⟨[], [⟨0, 1, [0, 0, 0], [5]⟩], false, 10, [], 0⟩, 0) := by decide +kernel
theorem runA3b : runM (oneMd cA3) ⟨[], [⟨0, 1, [0, 0, 0], [5]⟩], false, 10, [], 0⟩ 9 = some (⟨[], [], false, 10, [], 0⟩, ⟨1, 0, 2, 0, []⟩) := by decide +kernel
theorem smA (c : List Ins) (h : c.length ≤ 1000) : mdSm (oneMd c) = true := by
  simp [mdSm, oneMd]; omega
theorem riA1 : rightM (oneMd cA1) = true := by decide +kernel
theorem riA2 : rightM (oneMd cA2) = true := by decide +kernel
theorem riA3 : rightM (oneMd cA3) = true := by decide +kernel
noncomputable def sBusyT : Spec where
  modes := []
  f := fun args H => match args with
    | [.ptr id [] 0 0] => match isM H id with
      | some (_, s) => some (.v (.bool (decide (s.trap = 0) && decide (0 < s.fs.length))), H)
      | none => none
    | _ => none
theorem mBusyT : Meets PP 19 sBusyT := by
  refine mBusy.weak rfl ?_
  intro args H z H' h
  simp only [sBusyT] at h
  repeat (split at h <;> try cases h)
  rename_i id _ md s h1
  obtain ⟨hmc, h1, hlt, h1'⟩ := isM_mc h1
  refine ⟨_, _, by simp only [sBusy, hmc, mcM]; rfl, ?_⟩
  simp
  exact Weak.refl _ _ _
noncomputable def sMemT : Spec where
  modes := []
  f := fun args H => match args with
    | [.ptr id [] 0 0, .v (.int .i64 a), .v (.int .i64 n)] => match isM H id with
      | some (_, s) => if s.mem.length ≤ 2^40 then some (.tup [.fs 1 ((memP s.mem a n).map (row1 .u8)), .v (.bool (memOk s.mem.length a n))], H) else none
      | none => none
    | _ => none
theorem mMemT : Meets PP 15 sMemT := by
  refine mMemory.weak rfl ?_
  intro args H z H' h
  simp only [sMemT] at h
  repeat (split at h <;> try cases h)
  rename_i id a n _ md s h1 hl
  obtain ⟨hmc, h1, hlt, h1'⟩ := isM_mc h1
  refine ⟨_, _, by simp only [sMemory, hmc, mcM, unI_map]; rw [if_pos hl], ?_⟩
  simpa using Weak.fresh2 (H := H) (y := .bool (memOk s.mem.length a n)) (Frz.rows1 .u8 (memP s.mem a n))
noncomputable def sAlive : Spec where
  modes := []
  f := fun args H => match args with
    | [] => some (.v (.bool true), H)
    | _ => none
noncomputable def sp10 : Nat → Option Spec
  | 11 => some (sNew)
  | 12 => some (sBegin)
  | 17 => some (sReply)
  | 18 => some (sRun)
  | 19 => some (sBusyT)
  | 20 => some (sMod)
  | 21 => some (sIns)
  | _ => none
theorem sp10_ok : ∀ f s, sp10 f = some s → Meets PP f s := by
  intro f s h
  unfold sp10 at h
  split at h
  · injection h with h; subst h; exact mNew
  · injection h with h; subst h; exact mBegin
  · injection h with h; subst h; exact mReply
  · injection h with h; subst h; exact mRun
  · injection h with h; subst h; exact mBusyT
  · injection h with h; subst h; exact mMod
  · injection h with h; subst h; exact mIns
  · cases h
set_option maxHeartbeats 40000000 in
theorem mAlive : Meets PP 10 (sAlive) := by
  refine meets (dr := drF tab10 PP sp10) (live := live10) fn10 rfl rfl rfl sp10_ok (fun base ak => drF_ok mixed sp10_ok _ base ak) ?_
  intro args H z H' h
  simp only [sAlive] at h
  repeat (split at h <;> try cases h)
  refine ⟨(by decide : 0 ≤ 128), ?_⟩
  have k1 := chkA1
  have k2 := chkA2
  have k3 := chkA3
  have r1 := runA1
  have r2 := runA2
  have r3 := runA3
  have r4 := runA3b
  have i1 := riA1
  have i2 := riA2
  have i3 := riA3
  have s1 := smA cA1 (by decide)
  have s2 := smA cA2 (by decide)
  have s3 := smA cA3 (by decide)
  have n0 := fun c => init0 c
  have w0 := fun c => new0 c
  have b0 := fun c => begA c
  have r5 := repA3
  simp only [cA1, cA2, cA3, oneMd, sBeg] at k1 k2 k3 r1 r2 r3 r4 i1 i2 i3 s1 s2 s3 n0 w0 b0
  simp [sp10, sIns, sMod, mdV, oneMd, unMd_one0, sNew, k1, k2, k3, s1, s2, s3, n0, w0, isM, sBegin, sRun, sReply, sBusyT, b0, r1, r2, r3, r4, i1, i2, i3, repA3, toldV, sBeg]
end Go.Eng.M
