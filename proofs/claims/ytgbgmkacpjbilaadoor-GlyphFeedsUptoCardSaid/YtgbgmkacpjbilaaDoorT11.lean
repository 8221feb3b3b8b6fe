/- A part of the proof: contracts of functions, each proved once. -/
import Derived.Test.YtgbgmkacpjbilaaDoorT10
namespace Go.Eng.G
open Go Go.Eng Go.Proofs
set_option maxRecDepth 100000
set_option linter.unusedSimpArgs false
set_option linter.unusedSectionVars false
variable [Globs]
/-- A span's row. -/
def spRow (s : Int × Int) : List V := [.v (.int .i32 s.1), .v (.int .i32 s.2)]
def hits (r : Int) (s : Int × Int) : Bool := decide (s.1 ≤ r) && decide (r ≤ s.2)
def unS : Rows → Option (List (Int × Int))
  | [] => some []
  | [.v (.int .i32 a), .v (.int .i32 b)] :: l => match unS l with | some q => some ((a, b) :: q) | none => none
  | _ => none
theorem unS_eq : ∀ {rows : Rows} {xs : List (Int × Int)}, unS rows = some xs → rows = xs.map spRow
  | [], xs, h => by simp only [unS, Option.some.injEq] at h; subst h; rfl
  | r :: rows, xs, h => by
    unfold unS at h
    split at h
    · rename_i h1; cases h1
    · rename_i a b l h1
      injection h1 with h1 h2
      subst h1; subst h2
      split at h
      · rename_i q hq
        injection h with h
        subst h
        rw [unS_eq hq]; rfl
      · cases h
    · cases h
def idxOfHit (r : Int) (xs : List (Int × Int)) : Int := match xs.findIdx? (hits r) with | some i => i | none => -1
def sIdx : Spec where
  modes := []
  f := fun args H => match args with
    | [.fs 2 rows, .clo 38 [.ptr id [] 0 0]] => match H[id]?, unS rows with
      | some (some (1, [[.v (.int .i32 r)]])), some xs => if xs.length ≤ 2^45 then some (.v (.int .i64 (idxOfHit r xs)), H) else none
      | _, _ => none
    | _ => none
def sp39 : Nat → Option Spec
  | 38 => some sLit
  | _ => none
theorem sp39_ok : ∀ f s, sp39 f = some s → Meets PP f s := by
  intro f s h
  unfold sp39 at h
  split at h <;> cases h
  exact mLit
set_option maxHeartbeats 2000000 in
theorem mIdx : Meets PP 39 sIdx := by
  refine meets (dr := drF tab39 PP sp39) (live := live39) fn39 rfl rfl rfl sp39_ok (fun base ak => drF_ok mixed sp39_ok _ base ak) ?_
  intro args H z H' h
  simp only [sIdx] at h
  split at h <;> try cases h
  rename_i rows id
  split at h <;> try cases h
  rename_i r xs hH hxs
  split at h <;> cases h
  rename_i hl
  have hrows := unS_eq hxs
  subst hrows
  refine ⟨(by decide : 2 ≤ 19), ?_⟩
  generalize kdirs sIdx.modes _ = ak
  have hlt : id < H.length := by
    rcases Nat.lt_or_ge id H.length with h | h
    · exact h
    · rw [List.getElem?_eq_none h] at hH; cases hH
  have hH2 : H[id] = some (1, [[.v (.int .i32 r)]]) := by rw [List.getElem?_eq_getElem hlt] at hH; exact Option.some.inj hH
  simp
  refine wpX_loop (fun i : Nat => i ≤ xs.length ∧ ∀ j, (hj : j < i) → (hj2 : j < xs.length) → hits r xs[j] = false) (fun i => ⟨[(0, .fs 2 (xs.map spRow)), (1, .clo 38 [.ptr id [] 0 0]), (7, .v (.int .i64 xs.length)), (8, .v (.int .i64 i))], H⟩) (fun i => xs.length - i) 0 ⟨by omega, by intro j hj; omega⟩ (by simp) ?_
  rintro i ⟨hi, hno⟩
  simp
  refine IteP.dec (fun hlt2 => ?_) (fun hlt2 => ?_)
  · simp [hlt2, spRow, sp39, sLit, hH2, hlt]
    refine IteP.intro (fun hb => ?_) (fun hb => ?_)
    · simp
      have hb2 : hits r xs[i] = true := hb
      unfold idxOfHit
      have : xs.findIdx? (hits r) = some i := by
        rw [List.findIdx?_eq_some_iff_getElem]
        exact ⟨hlt2, hb2, fun j hj => by simpa using hno j hj (by omega)⟩
      rw [this]
    · simp
      refine ⟨i + 1, ⟨by omega, fun j hj hj2 => ?_⟩, ?_, by omega⟩
      · by_cases e : j = i
        · subst e; exact hb
        · exact hno j (by omega) hj2
      · rw [w64 (by omega) (by omega)]; simp
  · simp
    unfold idxOfHit
    have : xs.findIdx? (hits r) = none := by
      rw [List.findIdx?_eq_none_iff]
      intro x hx
      obtain ⟨j, hj, rfl⟩ := List.getElem_of_mem hx
      exact hno j (by omega) hj
    rw [this]
end Go.Eng.G
