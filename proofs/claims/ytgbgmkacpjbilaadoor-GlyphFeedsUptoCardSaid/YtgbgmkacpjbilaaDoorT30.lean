/- A part of the proof: contracts of functions, each proved once. -/
import Derived.Test.YtgbgmkacpjbilaaDoorT29
import Derived.Test.YtgbgmkacpjbilaaDoorT5
namespace Go.Eng.G
open Go Go.Eng Go.Proofs
set_option maxRecDepth 100000
set_option linter.unusedSimpArgs false
set_option linter.unusedSectionVars false
variable [GV]
theorem al1 : feedG [228, 184] = ([], [228, 184]) := by decide
theorem al2 : feedG [228, 184, 173] = ([20013], []) := by decide
theorem al3 : cutG 2 [97, 20013, 98] 0 = (1, 1) := by decide
theorem al4 : decAll [97, 255, 195, 169] = [97, 65533, 233] := by decide
theorem al5 : widthG 20013 = 2 := by decide
theorem al6 : totalG [97, 20013] = 3 := by decide
theorem al7 : encAll [233] = [195, 169] := by decide
theorem al8 : (ByteArray.empty.push 195).push 169 = ByteArray.mk #[195, 169] := rfl
def sWaits' : Spec where
  modes := []
  f := fun args H => match args with
    | [.ptr id [] 0 0] => match unR H[id]? with
      | some ws => some (.v (.int .i64 ws.length), H)
      | none => none
    | _ => none
set_option maxHeartbeats 4000000 in
theorem mWaits' : Meets PP 10 sWaits' := by
  refine meets (dr := drF tab10 PP noSp) (live := live10) fn10 rfl rfl rfl noSp_ok (fun base ak => drF_ok mixed noSp_ok _ base ak) ?_
  intro args H z H' h
  simp only [sWaits'] at h
  split at h <;> try cases h
  rename_i id
  split at h <;> cases h
  rename_i ws hws
  obtain ⟨hlt, hid⟩ := get_of (unR_eq hws)
  refine ⟨(by decide : 1 ≤ 8), ?_⟩
  simp [sWaits', hid, hlt, rdr]
def sp6 : Nat → Option Spec
  | 8 => some sFeed
  | 9 => some sSame
  | 10 => some sWaits'
  | 11 => some sRest
  | 12 => some sCut
  | 14 => some sTotal
  | 16 => some sWidth
  | 17 => some sBytes
  | 18 => some sRunes
  | _ => none
theorem sp6_ok : ∀ f s, sp6 f = some s → Meets PP f s := by
  intro f s h
  unfold sp6 at h
  split at h <;> cases h
  · exact mFeed
  · exact mSame
  · exact mWaits'
  · exact mRest
  · exact mCut
  · exact mTotal
  · exact mWidth
  · exact mBytes
  · exact mRunes
def sAlive : Spec where
  modes := []
  f := fun args H => match args with
    | [] => some (.v (.bool true), H)
    | _ => none
set_option maxHeartbeats 8000000 in
theorem mAlive : Meets PP 6 sAlive := by
  refine meets (dr := drF tab6 PP sp6) (live := live6) fn6 rfl rfl rfl sp6_ok (fun base ak => drF_ok mixed sp6_ok _ base ak) ?_
  intro args H z H' h
  simp only [sAlive] at h
  split at h <;> cases h
  refine ⟨(by decide : 0 ≤ 73), ?_⟩
  generalize kdirs sAlive.modes _ = ak
  simp [sp6, sFeed, unR, unI, slcI, slc, part, isBytes, al1, rdr, zrow, sWaits', row1, al2, sCut, al3, sRunes, fresh, al4, sSame, sWidth, al5, sTotal, al6, sRest, sBytes, al7, al8]
end Go.Eng.G
