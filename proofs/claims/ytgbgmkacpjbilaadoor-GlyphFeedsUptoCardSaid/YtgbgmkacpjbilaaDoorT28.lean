/- A part of the proof: contracts of functions, each proved once. -/
import Derived.Test.YtgbgmkacpjbilaaDoorT27
namespace Go.Eng.G
open Go Go.Eng Go.Proofs
set_option maxRecDepth 100000
set_option linter.unusedSimpArgs false
set_option linter.unusedSectionVars false
variable [GV]
def unB (rows : Rows) : Option (List Int) := unI .u8 rows
/-- A reader: what waits. -/
def rdr (ws : List Int) : Nd := some (1, [[.own 1 (ws.map (row1 .u8))]])
def unR (nd : Option Nd) : Option (List Int) := match nd with
  | some (some (1, [[.own 1 rows]])) => unI .u8 rows
  | _ => none
theorem unR_eq {nd : Option Nd} {ws : List Int} (h : unR nd = some ws) : nd = some (rdr ws) := by
  unfold unR at h
  split at h
  · rename_i rows; rw [unI_eq h]; rfl
  · cases h
def sRest : Spec where
  modes := [1]
  f := fun args H => match args with
    | [.ptr id [] 0 0] => match unR H[id]? with
      | some ws => if ws.length ≤ 3 then some (.ref H.length [] 1 0 ws.length, H.set id (rdr []) ++ [some (1, (List.replicate ws.length 65533).map (row1 .i32))]) else none
      | none => none
    | _ => none
def sp11 : Nat → Option Spec
  | 24 => some sRepeat
  | _ => none
theorem sp11_ok : ∀ f s, sp11 f = some s → Meets PP f s := by
  intro f s h
  unfold sp11 at h
  split at h <;> cases h
  exact mRepeat
theorem get_of {H : Hp} {id : Nat} {x : Nd} (h : H[id]? = some x) : ∃ hlt : id < H.length, H[id] = x := by
  rcases Nat.lt_or_ge id H.length with h1 | h1
  · exact ⟨h1, by rw [List.getElem?_eq_getElem h1] at h; exact Option.some.inj h⟩
  · rw [List.getElem?_eq_none h1] at h; cases h
set_option maxHeartbeats 4000000 in
theorem mRest : Meets PP 11 sRest := by
  refine meets (dr := drF tab11 PP sp11) (live := live11) fn11 rfl rfl rfl sp11_ok (fun base ak => drF_ok mixed sp11_ok _ base ak) ?_
  intro args H z H' h
  simp only [sRest] at h
  split at h <;> try cases h
  rename_i id
  split at h <;> try cases h
  rename_i ws hws
  split at h <;> cases h
  rename_i hl
  obtain ⟨hlt, hid⟩ := get_of (unR_eq hws)
  refine ⟨(by decide : 1 ≤ 15), ?_⟩
  have hl2 : (ws.length : Int) ≤ 3 := by omega
  simp [sRest, hid, hlt, rdr, sp11, sRepeat, hl2, fresh]
end Go.Eng.G
