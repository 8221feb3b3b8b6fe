/- A part of the proof: contracts of functions, each proved once. -/
import Derived.Test.YtkbmagloekociaaM5
namespace Go.Eng.M
open Go Go.Eng Go.Proofs
set_option maxRecDepth 100000
set_option linter.unusedSimpArgs false
set_option linter.unusedSectionVars false
set_option linter.unusedVariables false
variable [Globs]
noncomputable def sHeights : Spec where
  modes := []
  f := fun args H => match args with
    | [x, .v (.int .i64 f)] => match unMd x with
      | some m => match m.funcs[f.toNat]? with
        | some fn => if 0 ≤ f ∧ rightM m = true ∧ staticF m f fn = -1 then some (.tup [.fs 1 (((heightsM m f fn.code).getD []).map (row1 .i64)), .v (.bool (heightsM m f fn.code).isSome)], H) else none
        | none => none
      | none => none
    | _ => none
theorem mHeights : Meets PP 48 sHeights := by
  refine mHeights0.weak rfl ?_
  intro args H z H' h
  simp only [sHeights] at h
  repeat (split at h <;> try cases h)
  rename_i x f _ m hm _ fn hfn hr
  refine ⟨_, _, by simp only [sHeights0, hm, hfn]; rw [if_pos hr], ?_⟩
  simpa [hRes, hHp] using Weak.fresh2 (H := H) (y := .bool (heightsM m f fn.code).isSome) (Frz.rows1 .i64 ((heightsM m f fn.code).getD []))
def rootI (k : IntKind) (H : Hp) (id : Nat) : Option (List Int) := match H[id]? with
  | some (some (1, rows)) => unI k rows
  | _ => none
theorem rootI_eq {k : IntKind} {H : Hp} {id : Nat} {xs : List Int} (h : rootI k H id = some xs) : H[id]? = some (some (1, xs.map (row1 k))) ∧ ∃ hl : id < H.length, H[id] = some (1, xs.map (row1 k)) := by
  unfold rootI at h
  split at h
  · rename_i rows h1
    have := unI_eq h
    subst this
    exact ⟨h1, lt_of_get h1, by rw [List.getElem?_eq_getElem (lt_of_get h1)] at h1; exact Option.some.inj h1⟩
  · cases h
theorem rootI_of {k : IntKind} {H : Hp} {id : Nat} {xs : List Int} (h : H[id]? = some (some (1, xs.map (row1 k)))) : rootI k H id = some xs := by simp [rootI, h]
/-- A number in groups of 7 bits. -/
def numF : Nat → Int → List Int
  | 0, u => [IntKind.u8.wrap u]
  | k + 1, u => if 128 ≤ u then orI .u8 (IntKind.u8.wrap u) 128 :: numF k (shrI .u64 u 7) else [IntKind.u8.wrap u]
def zigM (n : Int) : Int := xorI .u64 (shlI .u64 (IntKind.u64.wrap n) 1) (IntKind.u64.wrap (shrI .i64 n 63))
def numM (n : Int) : List Int := numF 9 (zigM n)
def sAppNum : Spec where
  modes := [2]
  f := fun args H => match args with
    | [.ref id [] 1 0 len, .v (.int .i64 n)] => match rootI .u8 H id with
      | some bs => if len = bs.length ∧ bs.length ≤ 2^40 then some (.ref id [] 1 0 (bs ++ numM n).length, H.set id (some (1, (bs ++ numM n).map (row1 .u8)))) else none
      | none => none
    | _ => none
theorem shr7 (u : Int) (h : 0 ≤ u) : shrI .u64 u 7 = u / 128 := by
  have e : (2 : Int) ^ (min (7 : Int).toNat IntKind.u64.bits) = 128 := by decide
  unfold shrI
  rw [e, Int.fdiv_eq_ediv_of_nonneg _ (by decide)]
theorem zigM_range (n : Int) : 0 ≤ zigM n ∧ zigM n < 18446744073709551616 := by
  unfold zigM xorI
  rw [IntKind.wrap_u64]
  omega
theorem set_same {α : Type} {l : List α} {i : Nat} {x : α} (h : l[i]? = some x) : l.set i x = l := by
  have hl := lt_of_get h
  rw [List.getElem?_eq_getElem hl] at h
  have : l[i] = x := Option.some.inj h
  rw [← this, List.set_getElem_self]
theorem take_set {α : Type} (l : List α) (i : Nat) (x : α) : (l.set i x).take l.length = l.set i x := List.take_of_length_le (by simp)
noncomputable def sp46 : Nat → Option Spec
  | _ => none
theorem sp46_ok : ∀ f s, sp46 f = some s → Meets PP f s := by
  intro f s h
  unfold sp46 at h
  cases h
set_option maxHeartbeats 4000000 in
theorem mAppNum : Meets PP 46 (sAppNum) := by
  refine meets (dr := drF tab46 PP sp46) (live := live46) fn46 rfl rfl rfl sp46_ok (fun base ak => drF_ok mixed sp46_ok _ base ak) ?_
  intro args H z H' h
  simp only [sAppNum] at h
  repeat (split at h <;> try cases h)
  rename_i id len n _ bs hbs hr
  refine ⟨(by decide : 2 ≤ 28), ?_⟩
  obtain ⟨rfl, h2⟩ := hr
  have h2' : bs.length ≤ 1099511627776 := h2
  obtain ⟨h1, hlt, h1'⟩ := rootI_eq hbs
  have hz := zigM_range n
  have hzz : zigM n = xorI .u64 (shlI .u64 (IntKind.u64.wrap n) 1) (IntKind.u64.wrap (shrI .i64 n 63)) := rfl
  have hN : numM n = numF 9 (zigM n) := rfl
  obtain ⟨fin, hfin⟩ : ∃ q, bs ++ numM n = q := ⟨_, rfl⟩
  rw [hfin]
  rw [hN] at hfin
  simp [h1, h1', hlt, ← hzz]
  generalize zigM n = u at *
  have hset : H.set id (some (1, bs.map (row1 .u8))) = H := set_same h1
  have hz9 : u.toNat < 2 * 128 ^ 9 := by
    have e : 2 * 128 ^ 9 = 18446744073709551616 := by decide
    rw [e]; omega
  refine wpX_loopG (fun q : Nat × List Int × Int => q.1 ≤ 9 ∧ q.2.1.length + q.1 = bs.length + 9 ∧ 0 ≤ q.2.2 ∧ q.2.2.toNat < 2 * 128 ^ q.1 ∧ q.2.1 ++ numF q.1 q.2.2 = fin) (fun q => ⟨[(0, .ref id [] 1 0 q.2.1.length), (5, .v (.int .u64 q.2.2))], H.set id (some (1, q.2.1.map (row1 .u8)))⟩) (fun q => q.1) (9, bs, u) ⟨Nat.le_refl _, rfl, hz.1, hz9, hfin⟩ ?_ ?_
  · simp [hset, hlt]
  · rintro ⟨k, cur, v⟩ ⟨c1, c2, c3, c4, c5⟩
    simp only at c1 c2 c3 c4 c5
    have hcl : cur.length + 1 ≤ 140737488355328 := by omega
    have hcl2 : cur.length + 1 + 1 ≤ 140737488355328 := by omega
    simp
    refine IteP.dec (fun h128 => ?_) (fun h128 => ?_)
    · obtain ⟨k', rfl⟩ : ∃ k', k = k' + 1 := ⟨k - 1, by
        rcases Nat.eq_zero_or_pos k with h | h
        · subst h; rw [Nat.pow_zero] at c4; omega
        · omega⟩
      rw [numF, if_pos h128] at c5
      have hs7 := shr7 v c3
      simp [hlt, hcl, hcl2, row1, sAppNum]
      refine ⟨k', cur ++ [orI .u8 (IntKind.u8.wrap v) 128], shrI .u64 v 7, ⟨by omega, by simp; omega, ?_, ?_, ?_⟩, ?_, by omega⟩
      · rw [hs7]; omega
      · rw [hs7]; rw [Nat.pow_succ] at c4; omega
      · rw [← c5]; simp
      · simp [row1, hlt]
    · have : numF k v = [IntKind.u8.wrap v] := by cases k <;> simp [numF, h128]
      rw [this] at c5
      simp [hlt, hcl, hcl2, row1, sAppNum, ← c5, take_set]
end Go.Eng.M
