/- A part of the proof: contracts of functions, each proved once. -/
import Derived.Test.YtgbgmkacpjbilaaDoorGFacts
import Derived.Test.YtgbgmkacpjbilaaDoorGTabs
namespace Go.Eng.G
open Go Go.Eng Go.Proofs
set_option maxRecDepth 100000
set_option linter.unusedSimpArgs false
set_option linter.unusedSectionVars false
variable [Globs]
def noSp : Nat → Option Spec := fun _ => none
theorem noSp_ok : ∀ f s, noSp f = some s → Meets PP f s := by intro f s h; cases h
def sLit : Spec where
  modes := []
  f := fun args H => match args with
    | [.agg [.v (.int .i32 a), .v (.int .i32 b)], .ptr id [] 0 0] => match H[id]? with
      | some (some (1, [[.v (.int .i32 r)]])) => some (.v (.bool (decide (a ≤ r) && decide (r ≤ b))), H)
      | _ => none
    | _ => none
set_option maxHeartbeats 2000000 in
theorem mLit : Meets PP 38 sLit := by
  refine meets (dr := drF tab38 PP noSp) (live := live38) fn38 rfl rfl rfl noSp_ok (fun base ak => drF_ok mixed noSp_ok _ base ak) ?_
  intro args H z H' h
  simp only [sLit] at h
  split at h <;> try cases h
  rename_i a b id
  split at h <;> cases h
  rename_i r hH
  refine ⟨(by decide : 2 ≤ 14), ?_⟩
  generalize kdirs sLit.modes _ = ak
  have hlt : id < H.length := by
    rcases Nat.lt_or_ge id H.length with h | h
    · exact h
    · rw [List.getElem?_eq_none h] at hH; cases hH
  have hH2 : H[id] = some (1, [[.v (.int .i32 r)]]) := by rw [List.getElem?_eq_getElem hlt] at hH; exact Option.some.inj hH
  simp [hH2, hlt]
end Go.Eng.G
