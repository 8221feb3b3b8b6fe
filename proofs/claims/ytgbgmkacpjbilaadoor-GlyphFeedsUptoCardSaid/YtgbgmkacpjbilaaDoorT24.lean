/- A part of the proof: contracts of functions, each proved once. -/
import Derived.Test.YtgbgmkacpjbilaaDoorT23
namespace Go.Eng.G
open Go Go.Eng Go.Proofs
set_option maxRecDepth 100000
set_option linter.unusedSimpArgs false
set_option linter.unusedSectionVars false
variable [Globs]
def sEnc34 : Spec := { sEnc with f := fun args H => match args with | [_, .v (.int .i32 r)] => if ru r ≤ 127 then none else sEnc.f args H | _ => none }
def sp29 : Nat → Option Spec
  | 34 => some sEnc34
  | _ => none
theorem sp29_ok : ∀ f s, sp29 f = some s → Meets PP f s := by
  intro f s h
  unfold sp29 at h
  split at h <;> cases h
  exact mEnc34
set_option maxHeartbeats 4000000 in
theorem mEnc : Meets PP 29 sEnc := by
  refine meets (dr := drF tab29 PP sp29) (live := live29) fn29 rfl rfl rfl sp29_ok (fun base ak => drF_ok mixed sp29_ok _ base ak) ?_
  intro args H z H' h
  simp only [sEnc] at h
  split at h <;> try cases h
  rename_i id n r
  split at h <;> try cases h
  rename_i rows hH
  split at h <;> cases h
  rename_i hc
  obtain ⟨rfl, hlen⟩ := hc
  refine ⟨(by decide : 2 ≤ 16), ?_⟩
  have hlt : id < H.length := by
    rcases Nat.lt_or_ge id H.length with h | h
    · exact h
    · rw [List.getElem?_eq_none h] at hH; cases hH
  have hH2 : H[id] = some (1, rows) := by rw [List.getElem?_eq_getElem hlt] at hH; exact Option.some.inj hH
  have hl' : rows.length ≤ 70368744177664 := hlen
  have E : ∀ k : Nat, k ≤ 4 → rows.length + k ≤ 140737488355328 := fun k hk => by omega
  simp [sEnc]
  refine IteP.dec (fun h1 => ?_) (fun h1 => ?_)
  · simp [hH2, hlt, E, allCopies, V.copies, encG, ru, h1, row1]
  · simp [hH2, hlt, sp29, sEnc34, sEnc, ru, h1, hl']
def encAll (xs : List Int) : List Int := xs.flatMap encG
def sBytes : Spec where
  modes := []
  f := fun args H => match args with
    | [x] => match slcI .i32 H x with
      | some xs => if xs.length ≤ 2^40 then some (fresh .u8 (encAll xs) H) else none
      | _ => none
    | _ => none
theorem encAll_len (xs : List Int) : (encAll xs).length ≤ 4 * xs.length := by
  induction xs with
  | nil => simp [encAll]
  | cons x xs ih => have := encG_len x; simp [encAll] at ih ⊢; omega
theorem encAll_take (xs : List Int) (i : Nat) (h : i < xs.length) : encAll (xs.take (i + 1)) = encAll (xs.take i) ++ encG xs[i] := by
  unfold encAll
  rw [List.take_add_one, List.getElem?_eq_getElem h, List.flatMap_append]; simp [List.flatMap_cons]
theorem encAll_nil : encAll [] = [] := rfl
def sp17 : Nat → Option Spec
  | 29 => some sEnc
  | _ => none
theorem sp17_ok : ∀ f s, sp17 f = some s → Meets PP f s := by
  intro f s h
  unfold sp17 at h
  split at h <;> cases h
  exact mEnc
set_option maxHeartbeats 4000000 in
theorem mBytes : Meets PP 17 sBytes := by
  refine meets (dr := drF tab17 PP sp17) (live := live17) fn17 rfl rfl rfl sp17_ok (fun base ak => drF_ok mixed sp17_ok _ base ak) ?_
  intro args H z H' h
  simp only [sBytes] at h
  split at h <;> try cases h
  rename_i x
  split at h <;> try cases h
  rename_i xs hx
  split at h <;> cases h
  rename_i hl
  refine ⟨(by decide : 1 ≤ 17), ?_⟩
  generalize kdirs sBytes.modes _ = ak
  have hl' : xs.length ≤ 1099511627776 := hl
  simp [slcI_all hx, slcI_gall hx]
  refine wpX_loop (fun i : Nat => i ≤ xs.length) (fun i => ⟨[(6, x), (7, .v (.int .i64 xs.length)), (8, .v (.int .i64 i)), (3, .ref (H.length + 1) [] 1 0 (encAll (xs.take i)).length)], H ++ [some (1, []), some (1, (encAll (xs.take i)).map (row1 .u8))]⟩) (fun i => xs.length - i) 0 (by simp) (by simp [encAll_nil]) ?_
  rintro i hi
  simp [slcI_all hx, slcI_gall hx]
  have hfl := encAll_len (xs.take i)
  rw [List.length_take] at hfl
  have hfl2 : (encAll (xs.take i)).length ≤ 70368744177664 := by omega
  refine IteP.dec (fun hlt => ?_) (fun hlt => ?_)
  · simp [slcI_all hx, slcI_gall hx, hlt, sp17, sEnc, hfl2]
    refine ⟨i + 1, by omega, ⟨?_, ?_, ?_⟩, by omega⟩
    · rw [encAll_take xs i hlt]; simp
    · rw [w64 (by omega) (by omega)]; simp
    · rw [encAll_take xs i hlt]; simp
  · simp [slcI_all hx, slcI_gall hx, hlt, fresh]
    rw [List.take_of_length_le (by omega)]
    simp
end Go.Eng.G
