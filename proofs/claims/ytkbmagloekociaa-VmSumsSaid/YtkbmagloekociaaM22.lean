/- A part of the proof: contracts of functions, each proved once. -/
import Derived.Test.YtkbmagloekociaaM21
namespace Go.Eng.M
open Go Go.Eng Go.Proofs
set_option maxRecDepth 100000
set_option linter.unusedSimpArgs false
set_option linter.unusedSectionVars false
set_option linter.unusedVariables false
variable [Globs]
def sSame (k : IntKind) : Spec where
  modes := []
  f := fun args H => match args with
    | [x, y] => match slcI k H x, slcI k H y with
      | some xs, some ys => if xs.length ≤ 2^45 then some (.v (.bool (decide (xs = ys))), H) else none
      | _, _ => none
    | _ => none
noncomputable def sp14 : Nat → Option Spec
  | _ => none
theorem sp14_ok : ∀ f s, sp14 f = some s → Meets PP f s := by
  intro f s h
  unfold sp14 at h
  cases h
set_option maxHeartbeats 4000000 in
theorem mSameN : Meets PP 14 (sSame .i64) := by
  refine meets (dr := drF tab14 PP sp14) (live := live14) fn14 rfl rfl rfl sp14_ok (fun base ak => drF_ok mixed sp14_ok _ base ak) ?_
  intro args H z H' h
  simp only [sSame] at h
  repeat (split at h <;> try cases h)
  rename_i x y _ _ xs ys hx hy hl
  refine ⟨(by decide : 2 ≤ 26), ?_⟩
  generalize kdirs (sSame .i64).modes _ = ak
  have hl1' : xs.length ≤ 35184372088832 := hl
  simp [slcI_ev hx, slcI_ev hy, slcI_ln hx, slcI_ln hy]
  refine IteP.dec (fun hlen => ?_) (fun hlen => ?_)
  · simp
    refine wpX_loop (fun i : Nat => i ≤ xs.length ∧ xs.take i = ys.take i) (fun i => ⟨[(0, x), (1, y), (5, .v (.int .i64 i))], H⟩) (fun i => xs.length - i) 0 (by simp) (by simp) ?_
    rintro i ⟨hi, he⟩
    simp [slcI_ev hx, slcI_ev hy, slcI_ln hx, slcI_ln hy]
    refine IteP.dec (fun hlt => ?_) (fun hlt => ?_)
    · simp
      refine DrP.intro (by decide) ?_
      have hlt' : i < ys.length := by omega
      simp [hlt, hlt', slcI_ev hx, slcI_ev hy, slcI_ln hx, slcI_ln hy, slcI_idxN hx, slcI_idxN hy, slcI_ld hx, slcI_ld hy, slcI_evE hx, slcI_evE hy]
      refine IteP.dec (fun hx' => ?_) (fun hx' => ?_)
      · simp
        refine ⟨i + 1, ⟨by omega, ?_⟩, ?_, by omega⟩
        · rw [List.take_add_one, List.take_add_one, he]
          simp [hlt, hlt', hx']
        · rw [w64 (by omega) (by omega)]; simp
      · simp
        intro e
        subst e
        exact hx' rfl
    · simp
      have := List.take_of_length_le (l := xs) (i := i) (by omega)
      have h2 := List.take_of_length_le (l := ys) (i := i) (by omega)
      rw [← this, ← h2, he]
  · simp
    intro e
    subst e
    exact hlen rfl
noncomputable def sp16 : Nat → Option Spec
  | _ => none
theorem sp16_ok : ∀ f s, sp16 f = some s → Meets PP f s := by
  intro f s h
  unfold sp16 at h
  cases h
set_option maxHeartbeats 4000000 in
theorem mSameB : Meets PP 16 (sSame .u8) := by
  refine meets (dr := drF tab16 PP sp16) (live := live16) fn16 rfl rfl rfl sp16_ok (fun base ak => drF_ok mixed sp16_ok _ base ak) ?_
  intro args H z H' h
  simp only [sSame] at h
  repeat (split at h <;> try cases h)
  rename_i x y _ _ xs ys hx hy hl
  refine ⟨(by decide : 2 ≤ 26), ?_⟩
  generalize kdirs (sSame .u8).modes _ = ak
  have hl1' : xs.length ≤ 35184372088832 := hl
  simp [slcI_ev hx, slcI_ev hy, slcI_ln hx, slcI_ln hy]
  refine IteP.dec (fun hlen => ?_) (fun hlen => ?_)
  · simp
    refine wpX_loop (fun i : Nat => i ≤ xs.length ∧ xs.take i = ys.take i) (fun i => ⟨[(0, x), (1, y), (5, .v (.int .i64 i))], H⟩) (fun i => xs.length - i) 0 (by simp) (by simp) ?_
    rintro i ⟨hi, he⟩
    simp [slcI_ev hx, slcI_ev hy, slcI_ln hx, slcI_ln hy]
    refine IteP.dec (fun hlt => ?_) (fun hlt => ?_)
    · simp
      refine DrP.intro (by decide) ?_
      have hlt' : i < ys.length := by omega
      simp [hlt, hlt', slcI_ev hx, slcI_ev hy, slcI_ln hx, slcI_ln hy, slcI_idxN hx, slcI_idxN hy, slcI_ld hx, slcI_ld hy, slcI_evE hx, slcI_evE hy]
      refine IteP.dec (fun hx' => ?_) (fun hx' => ?_)
      · simp
        refine ⟨i + 1, ⟨by omega, ?_⟩, ?_, by omega⟩
        · rw [List.take_add_one, List.take_add_one, he]
          simp [hlt, hlt', hx']
        · rw [w64 (by omega) (by omega)]; simp
      · simp
        intro e
        subst e
        exact hx' rfl
    · simp
      have := List.take_of_length_le (l := xs) (i := i) (by omega)
      have h2 := List.take_of_length_le (l := ys) (i := i) (by omega)
      rw [← this, ← h2, he]
  · simp
    intro e
    subst e
    exact hlen rfl
def sIns : Spec where
  modes := []
  f := fun args H => match args with
    | [.v (.int .i64 a), .v (.int .i64 b)] => some (.agg [.v (.int .i64 a), .v (.int .i64 b)], H)
    | _ => none
noncomputable def sp21 : Nat → Option Spec
  | _ => none
theorem sp21_ok : ∀ f s, sp21 f = some s → Meets PP f s := by
  intro f s h
  unfold sp21 at h
  cases h
set_option maxHeartbeats 4000000 in
theorem mIns : Meets PP 21 (sIns) := by
  refine meets (dr := drF tab21 PP sp21) (live := live21) fn21 rfl rfl rfl sp21_ok (fun base ak => drF_ok mixed sp21_ok _ base ak) ?_
  intro args H z H' h
  simp only [sIns] at h
  repeat (split at h <;> try cases h)
  rename_i a b
  refine ⟨(by decide : 2 ≤ 8), ?_⟩
  simp
def unIns : Rows → Option (List Ins)
  | [] => some []
  | [.v (.int .i64 a), .v (.int .i64 b)] :: l => (match unIns l with | some q => some (⟨a, b⟩ :: q) | none => none)
  | _ => none
theorem unIns_eq : ∀ {rows : Rows} {xs : List Ins}, unIns rows = some xs → rows = xs.map insRow
  | [], xs, h => by simp only [unIns, Option.some.injEq] at h; subst h; rfl
  | r :: rows, xs, h => by
    unfold unIns at h
    split at h
    · rename_i h1; cases h1
    · rename_i a b l h1
      injection h1 with h1 h2
      subst h1; subst h2
      split at h
      · rename_i q hq
        injection h with h
        subst h
        rw [unIns_eq hq]; rfl
      · cases h
    · cases h
@[simp] theorem unIns_nil : unIns [] = some [] := rfl
@[simp] theorem unIns_cons (a b : Int) (l : Rows) : unIns ([.v (.int .i64 a), .v (.int .i64 b)] :: l) = (match unIns l with | some q => some (⟨a, b⟩ :: q) | none => none) := rfl
@[simp] theorem unIns_map (l : List Ins) : unIns (l.map insRow) = some l := by
  induction l with
  | nil => rfl
  | cons x r ih => simp [insRow, ih]
def insO (H : Hp) (id : Nat) : Option (List Ins) := match H[id]? with
  | some (some (2, rows)) => unIns rows
  | _ => none
theorem insO_eq {H : Hp} {id : Nat} {xs : List Ins} (h : insO H id = some xs) : H[id]? = some (some (2, xs.map insRow)) ∧ ∃ hl : id < H.length, H[id] = some (2, xs.map insRow) := by
  unfold insO at h
  split at h
  · rename_i rows h1
    have := unIns_eq h
    subst this
    exact ⟨h1, lt_of_get h1, by rw [List.getElem?_eq_getElem (lt_of_get h1)] at h1; exact Option.some.inj h1⟩
  · cases h
def sMod0 : Spec where
  modes := []
  f := fun args H => match args with
    | [.fs 2 rows] => match unIns rows with
      | some code => some (.agg [.v (.int .i64 0), .ref H.length [(0, 1)] 1 0 0, .ref H.length [(0, 2)] 4 0 1], H ++ [some (3, [[.v (.int .i64 0), .own 1 [], .own 4 [[.v (.int .i64 3), .v (.int .i64 0), .v (.int .i64 0), .fs 2 (code.map insRow)]]]])])
      | none => none
    | _ => none
noncomputable def sp20 : Nat → Option Spec
  | _ => none
theorem sp20_ok : ∀ f s, sp20 f = some s → Meets PP f s := by
  intro f s h
  unfold sp20 at h
  cases h
set_option maxHeartbeats 4000000 in
theorem mMod0 : Meets PP 20 (sMod0) := by
  refine meets (dr := drF tab20 PP sp20) (live := live20) fn20 rfl rfl rfl sp20_ok (fun base ak => drF_ok mixed sp20_ok _ base ak) ?_
  intro args H z H' h
  simp only [sMod0] at h
  repeat (split at h <;> try cases h)
  rename_i rows _ code hc
  refine ⟨(by decide : 1 ≤ 7), ?_⟩
  have := unIns_eq hc
  subst this
  simp [sMod0]
def oneMd (code : List Ins) : Md := ⟨0, [], [⟨3, 0, 0, code⟩]⟩
def sMod : Spec where
  modes := []
  f := fun args H => match args with
    | [.fs 2 rows] => match unIns rows with
      | some code => some (mdV (oneMd code), H)
      | none => none
    | _ => none
theorem mMod : Meets PP 20 sMod := by
  refine mMod0.weak rfl ?_
  intro args H z H' h
  simp only [sMod] at h
  repeat (split at h <;> try cases h)
  rename_i rows _ code hc
  refine ⟨_, _, by simp only [sMod0, hc]; rfl, ?_⟩
  have hf : Frz (.own 3 [[.v (.int .i64 0), .own 1 [], .own 4 [[.v (.int .i64 3), .v (.int .i64 0), .v (.int .i64 0), .fs 2 (code.map insRow)]]]]) (.fs 3 [[.v (.int .i64 0), .fs 1 [], .fs 4 [[.v (.int .i64 3), .v (.int .i64 0), .v (.int .i64 0), .fs 2 (code.map insRow)]]]]) := by
    refine Frz.map 3 (fun _ : Unit => _) (fun _ : Unit => _) [()] (fun x _ => ⟨.v _, Frz.rows1 .u8 [], ?_, trivial⟩)
    exact Frz.map 4 (fun _ : Unit => _) (fun _ : Unit => _) [()] (fun x _ => ⟨.v _, .v _, .v _, .fs _ _, trivial⟩)
  have hw := Weak.rootD (base := H.length) (z := .agg [.v (.int .i64 0), .ref H.length [(0, 1)] 1 0 0, .ref H.length [(0, 2)] 4 0 1]) (H := H ++ [some (3, [[.v (.int .i64 0), .own 1 [], .own 4 [[.v (.int .i64 3), .v (.int .i64 0), .v (.int .i64 0), .fs 2 (code.map insRow)]]]])]) (id := H.length) (Nat.le_refl _) (by simp) hf rfl rfl
  refine Weak.trans hw ?_
  have e2 : ∀ X : Nd, (H ++ [X]).set H.length none = H ++ [none] := by intro X; simp
  rw [e2]
  simp [map3, map2, mapC, V.tup?, V.agg?, V.clo?, frzD, frzRef, cellAt, part]
  exact Weak.snoc
end Go.Eng.M
