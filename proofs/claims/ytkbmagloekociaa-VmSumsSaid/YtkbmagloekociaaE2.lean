/- The engine, text 2 of 5: an abstract machine of owned objects and its laws; it speaks of any program. -/
import Derived.Test.YtkbmagloekociaaE1
import Derived.Lib.ConvBytes
import Derived.Laws.BytesString
namespace Go.Eng
open Go.RowKit
set_option linter.unusedSectionVars false
set_option linter.unusedVariables false
set_option linter.unusedSimpArgs false
variable [Globs]

def fldOk (x : V) : Bool :=
  match x with
  | .v y => y.oneCell'
  | .agg _ | .fs _ _ | .fp _ _ _ _ | .ref _ _ _ _ _ | .ptr _ _ _ _ | .clo _ _ => true
  | _ => false

theorem fldOk_flds {w : World} {F : Nat → Prop} {S : Sh} {H : Hp} {x : V} {y : Value} (h : RV w F S H x y) (hx : fldOk x = true) :
    (flds x).length = y.cells.toList.length ∧ ∀ (i : Nat) (c : V) (z : Value), (flds x)[i]? = some c → y.cells.toList[i]? = some z → RVc w F S H c z := by
  refine flds_sound h ?_ ?_ ?_
  · cases x <;> simp [fldOk] at hx <;> rfl
  · cases x <;> simp [fldOk] at hx <;> rfl
  · intro ha
    cases x with
    | v z => cases h; exact hx
    | fs sz rows => simp only [RV, V.may?, RV3, V.tup?, RV2, V.agg?, RVc, V.clo?, RV1] at h; cases h <;> rfl
    | fp sz rows i k => simp only [RV, V.may?, RV3, V.tup?, RV2, V.agg?, RVc, V.clo?, RV1] at h; cases h <;> rfl
    | ref id p sz off n =>
      rw [RV_ref] at h
      obtain ⟨nd, h1, h2, h3, h4⟩ := h
      cases hs : S id p with
      | none => rw [hs] at h4; subst h4; rfl
      | some q =>
        obtain ⟨b, o, cap⟩ := q
        rw [hs] at h4
        obtain ⟨aa, rfl, _⟩ := h4
        rfl
    | ptr id p i k =>
      obtain ⟨_, _, _, _, _, _, e⟩ := RV_ptr h
      subst e; rfl
    | clo f caps =>
      simp only [RV, V.may?, RV3, V.tup?, RV2, V.agg?, RVc, V.clo?] at h
      rcases h with h | ⟨ys, rfl, _⟩
      · cases h; rfl
      · rfl
    | agg vs => simp [V.agg?] at ha
    | _ => simp [fldOk] at hx

def splice (off : Nat) (xs cells : List V) : List V := cells.take off ++ xs ++ cells.drop (off + xs.length)

def bfill (place : Nat → Option (Nat × Nat)) (cells : List V) : List (Nat × V) → Option (List V)
  | [] => some cells
  | (i, x) :: r => match place i with
    | none => none
    | some (off, size) => if (flds x).length = size ∧ off + size ≤ cells.length ∧ fldOk x = true then bfill place (splice off (flds x) cells) r else none

def evParts (c0 : Bool) (σ : List (Nat × V)) : List (Nat × Operand) → Option (List (Nat × V))
  | [] => some []
  | (i, x) :: r => match ev c0 σ x, evParts c0 σ r with
    | some y, some l => some ((i, y) :: l)
    | _, _ => none

/-- A struct's fields: where, how many cells. -/
def tplaces (P : Program) (t : Nat) : Option (List (Nat × Nat)) :=
  match P.underlying t with
  | some (.struct fields) => fields.toList.mapM fun f => match P.info? f.type with | some i => some (f.offset, i.size) | none => none
  | _ => none

def buildV (P : Program) (c0 : Bool) (σ : List (Nat × V)) (t : Nat) (parts : List (Nat × Operand)) : Option V :=
  match tzero P t, evParts c0 σ parts with
  | some zs, some l => match tplaces P t with
    | some pl => (bfill (fun i => pl[i]?) (zs.map V.v) l).map V.agg
    | none => match tarray P t with
      | some (_, _, sz) => (bfill (fun i => some (i * sz, sz)) (zs.map V.v) l).map V.agg
      | none => none
  | _, _ => none

/-- Cells that stand for values. -/
def Cel (w : World) (F : Nat → Prop) (S : Sh) (H : Hp) (cells : List V) (arr : Array Value) : Prop := cells.length = arr.size ∧ ∀ (i : Nat) (c : V) (z : Value), cells[i]? = some c → arr[i]? = some z → RVc w F S H c z

theorem foldl_set_get0 (off : Nat) : ∀ (l : List Value) (s : Nat) (A : Array Value), off + s + l.length ≤ A.size →
    ((l.zipIdx s).foldl (fun (cs : Array Value) (x : Value × Nat) => cs.setIfInBounds (off + x.2) x.1) A).size = A.size ∧
    (∀ x, x < off + s ∨ off + s + l.length ≤ x → ((l.zipIdx s).foldl (fun (cs : Array Value) (x : Value × Nat) => cs.setIfInBounds (off + x.2) x.1) A)[x]? = A[x]?) ∧
    ∀ k, k < l.length → ((l.zipIdx s).foldl (fun (cs : Array Value) (x : Value × Nat) => cs.setIfInBounds (off + x.2) x.1) A)[off + s + k]? = l[k]?
  | [], s, A, h => by simp
  | v :: l, s, A, h => by
    simp only [List.length_cons] at h
    obtain ⟨h1, h2, h3⟩ := foldl_set_get0 off l (s + 1) (A.setIfInBounds (off + s) v) (by simp; omega)
    simp only [List.zipIdx_cons, List.foldl_cons]
    refine ⟨by rw [h1]; simp, fun x hx => ?_, fun k hk => ?_⟩
    · simp only [List.length_cons] at hx
      rw [h2 x (by omega), Array.getElem?_setIfInBounds_ne (by omega)]
    · cases k with
      | zero =>
        rw [h2 _ (.inl (by omega))]
        simp only [Nat.add_zero, List.getElem?_cons_zero]
        exact Array.getElem?_setIfInBounds_self_of_lt (by omega)
      | succ k =>
        have := h3 k (by simpa using hk)
        rw [show off + s + (k + 1) = off + (s + 1) + k by omega, this]
        simp

theorem Cel.splice {w : World} {F : Nat → Prop} {S : Sh} {H : Hp} {cells : List V} {arr : Array Value} (h : Cel w F S H cells arr) {x : V} {y : Value} (hx : RV w F S H x y) (hok : fldOk x = true) {off : Nat} (hle : off + (flds x).length ≤ cells.length) :
    Cel w F S H (Eng.splice off (flds x) cells) (y.cells.zipIdx.foldl (fun (cs : Array Value) (x : Value × Nat) => cs.setIfInBounds (off + x.2) x.1) arr) := by
  obtain ⟨f1, f2⟩ := fldOk_flds hx hok
  obtain ⟨h1, h2⟩ := h
  have hz : y.cells.zipIdx.foldl (fun (cs : Array Value) (x : Value × Nat) => cs.setIfInBounds (off + x.2) x.1) arr = (y.cells.toList.zipIdx 0).foldl (fun (cs : Array Value) (x : Value × Nat) => cs.setIfInBounds (off + x.2) x.1) arr := by
    rw [← Array.foldl_toList, Array.toList_zipIdx]
  rw [hz]
  obtain ⟨g1, g2, g3⟩ := foldl_set_get0 off y.cells.toList 0 arr (by omega)
  refine ⟨by rw [g1]; simp [Eng.splice]; omega, fun i c z hc hzz => ?_⟩
  unfold Eng.splice at hc
  by_cases hi : i < off
  · rw [g2 i (.inl (by omega))] at hzz
    rw [List.getElem?_append_left (by simp; omega), List.getElem?_append_left (by simp; omega), List.getElem?_take_of_lt hi] at hc
    exact h2 i c z hc hzz
  · by_cases hi2 : i < off + (flds x).length
    · rw [List.getElem?_append_left (by simp; omega), List.getElem?_append_right (by simp; omega)] at hc
      have e : (cells.take off).length = off := by simp; omega
      rw [e] at hc
      have := g3 (i - off) (by omega)
      rw [show off + 0 + (i - off) = i by omega] at this
      rw [this] at hzz
      exact f2 (i - off) c z hc hzz
    · rw [g2 i (.inr (by omega))] at hzz
      rw [List.getElem?_append_right (by simp; omega)] at hc
      have e : (cells.take off ++ flds x).length = off + (flds x).length := by simp; omega
      rw [e, List.getElem?_drop] at hc
      rw [show off + (flds x).length + (i - (off + (flds x).length)) = i by omega] at hc
      exact h2 i c z hc hzz

theorem bfill_sound {w : World} {F : Nat → Prop} {S : Sh} {H : Hp} {place : Nat → Option (Nat × Nat)} : ∀ {l : List (Nat × V)} {ys : List (Nat × Value)} {cells cells' : List V} {arr : Array Value}, Cel w F S H cells arr → bfill place cells l = some cells' → l.length = ys.length → (∀ (j i i' : Nat) (x : V) (y : Value), l[j]? = some (i, x) → ys[j]? = some (i', y) → i = i' ∧ RV w F S H x y) →
    ∃ arr', Instr.fill place arr ys = some arr' ∧ Cel w F S H cells' arr'
  | [], ys, cells, cells', arr, hc, hb, hl, hr => by
    simp only [bfill, Option.some.injEq] at hb
    subst hb
    cases ys with
    | nil => exact ⟨arr, rfl, hc⟩
    | cons y ys => simp at hl
  | (i, x) :: l, ys, cells, cells', arr, hc, hb, hl, hr => by
    cases ys with
    | nil => simp at hl
    | cons q ys =>
      obtain ⟨i', y⟩ := q
      obtain ⟨rfl, hxy⟩ := hr 0 i i' x y rfl rfl
      simp only [bfill] at hb
      split at hb
      · cases hb
      · rename_i off size hp
        split at hb
        · rename_i hcnd
          obtain ⟨c1, c2, c3⟩ := hcnd
          have f1 := (fldOk_flds hxy c3).1
          obtain ⟨arr', g1, g2⟩ := bfill_sound (ys := ys) (hc.splice hxy c3 (by omega)) hb (by simpa using hl) (fun j i i' x y h1 h2 => hr (j + 1) i i' x y (by simpa using h1) (by simpa using h2))
          refine ⟨arr', ?_, g2⟩
          simp only [Instr.fill, hp]
          rw [if_neg]
          · exact g1
          · have := hc.1
            simp at f1
            simp
            omega
        · cases hb

theorem evParts_sound {a : Act} {w : World} {F : Nat → Prop} {S : Sh} {H : Hp} {σ : List (Nat × V)} {c0 : Bool} (h : TR a w F S H σ) (hc : c0 = true) : ∀ {ps : List (Nat × Operand)} {l : List (Nat × V)}, evParts c0 σ ps = some l →
    l.length = (ps.map fun (i, x) => (i, a.eval x)).length ∧ ∀ (j i i' : Nat) (x : V) (y : Value), l[j]? = some (i, x) → (ps.map fun (i, x) => (i, a.eval x))[j]? = some (i', y) → i = i' ∧ RV w F S H x y
  | [], l, he => by simp only [evParts, Option.some.injEq] at he; subst he; simp
  | (i, x) :: r, l, he => by
    simp only [evParts] at he
    split at he
    · rename_i y l' h1 h2
      injection he with he
      subst he
      obtain ⟨g1, g2⟩ := evParts_sound h hc h2
      refine ⟨by simpa using g1, fun j i1 i2 x1 y1 e1 e2 => ?_⟩
      cases j with
      | zero =>
        simp only [List.getElem?_cons_zero, Option.some.injEq, Prod.mk.injEq, List.map_cons] at e1 e2
        obtain ⟨rfl, rfl⟩ := e1
        obtain ⟨rfl, rfl⟩ := e2
        exact ⟨rfl, ev_sound h h1 hc⟩
      | succ j => exact g2 j i1 i2 x1 y1 (by simpa using e1) (by simpa using e2)
    · cases he

theorem mapM_places {P : Program} {w : World} : ∀ {fields : List Field} {pl : List (Nat × Nat)}, (fields.mapM fun f => match P.info? f.type with | some i => some (f.offset, i.size) | none => none) = some pl →
    (fields.mapM (m := Sem) fun f => do pure (f.offset, ← sizeOf f.type)).run P w = .ok pl w
  | [], pl, h => by simp at h; subst h; rfl
  | f :: r, pl, h => by
    rw [List.mapM_cons] at h
    cases hi : P.info? f.type with
    | none => rw [hi] at h; cases h
    | some i =>
      rw [hi] at h
      cases hr : r.mapM fun f => match P.info? f.type with | some i => some (f.offset, i.size) | none => none with
      | none => rw [hr] at h; cases h
      | some pl' =>
        rw [hr] at h
        have e : pl = (f.offset, i.size) :: pl' := by cases h; rfl
        subst e
        have ih := mapM_places (w := w) hr
        rw [List.mapM_cons]
        have hsz : (sizeOf f.type).run P w = .ok i.size w := by simp [sizeOf, typeInfo, hi]
        simp only [Sem.run_bind, hsz, Result.andThen, Sem.run_pure, ih]

theorem buildV_sound {P : Program} {a : Act} {w : World} {F : Nat → Prop} {S : Sh} {H : Hp} {σ : List (Nat × V)} {c0 : Bool} (h : TR a w F S H σ) (hc : c0 = true) {t : Nat} {parts : Array (Nat × Operand)} {z : V} (he : buildV P c0 σ t parts.toList = some z) :
    ∃ y, (Instr.build t (parts.map fun (i, x) => (i, a.eval x))).run P w = .ok y w ∧ RV w F S H z y := by
  unfold buildV at he
  split at he
  case h_2 => cases he
  rename_i zs l hz hp
  have hzero : ∃ zv, (zeroValue t).run P w = .ok zv w ∧ zv.cells.toList = zs := by
    unfold tzero at hz
    split at hz
    · rename_i i hi
      split at hz
      · rename_i zv hzv
        injection hz with hz
        exact ⟨zv, by simp [zeroValue, typeInfo, hi, hzv], hz⟩
      · cases hz
    · cases hz
  obtain ⟨zv, z1, rfl⟩ := hzero
  obtain ⟨p1, p2⟩ := evParts_sound h hc hp
  have hcel : Cel w F S H (zv.cells.toList.map V.v) zv.cells := by
    refine ⟨by simp, fun i c y hcc hy => ?_⟩
    rw [List.getElem?_map] at hcc
    rw [← Array.getElem?_toList] at hy
    rw [hy] at hcc
    simp only [Option.map_some, Option.some.injEq] at hcc
    subst hcc
    rfl
  have fin : ∀ {cells : List V} {arr : Array Value}, Cel w F S H cells arr → RV w F S H (.agg cells) (.agg arr) := by
    intro cells arr hcl
    rw [RV_agg]
    exact ⟨arr.toList, by simp, by simpa using hcl.1, fun i c y hcc hy => hcl.2 i c y hcc (by simpa using hy)⟩
  split at he
  · rename_i pl hpl
    cases hb : bfill (fun i => pl[i]?) (zv.cells.toList.map V.v) l with
    | none => rw [hb] at he; cases he
    | some cells =>
      rw [hb] at he
      simp only [Option.map_some, Option.some.injEq] at he
      subst he
      obtain ⟨arr, g1, g2⟩ := bfill_sound hcel hb p1 p2
      refine ⟨.agg arr, ?_, fin g2⟩
      unfold tplaces at hpl
      split at hpl
      · rename_i fields hu
        have hm := mapM_places (w := w) hpl
        have hma : (fields.mapM (m := Sem) fun f => do pure (f.offset, ← sizeOf f.type)).run P w = .ok pl.toArray w := by
          rw [Array.mapM_eq_mapM_toList]
          have key : ∀ s : Sem (List (Nat × Nat)), s.run P w = .ok pl w → (List.toArray <$> s).run P w = .ok pl.toArray w := fun s hs => by simp [hs, Result.andThen]
          exact key _ hm
        have hplace : (fun i : Nat => pl.toArray[i]?) = fun i : Nat => pl[i]? := by funext i; simp
        simp only [Instr.build, Sem.run_bind, z1, Result.andThen, run_underlying hu, hma, hplace, Array.toList_map, g1, Sem.run_pure]
      · cases hpl
  · rename_i hpl
    split at he
    · rename_i n e sz hta
      cases hb : bfill (fun i => some (i * sz, sz)) (zv.cells.toList.map V.v) l with
      | none => rw [hb] at he; cases he
      | some cells =>
        rw [hb] at he
        simp only [Option.map_some, Option.some.injEq] at he
        subst he
        obtain ⟨arr, g1, g2⟩ := bfill_sound hcel hb p1 p2
        refine ⟨.agg arr, ?_, fin g2⟩
        obtain ⟨hu, i, hi, rfl⟩ := tarray_some hta
        have hsz : (sizeOf e).run P w = .ok i.size w := by simp [sizeOf, typeInfo, hi]
        simp only [Instr.build, Sem.run_bind, z1, Result.andThen, run_underlying hu, hsz, Array.toList_map, g1, Sem.run_pure]
    · cases he
end Go.Eng

namespace Go.Eng
open Go.RowKit
set_option linter.unusedSectionVars false
set_option linter.unusedVariables false
set_option linter.unusedSimpArgs false
variable [Globs]

/-- The rows of a string's bytes. -/
def strRows (s : ByteArray) : Rows := s.data.toList.map fun b => [.v (.int .u8 b.toNat)]

/-- A string's bytes, in memory that nobody writes. -/
def s2b (P : Program) (src dst : Nat) (x : Option V) : Option Rows :=
  match P.underlying src, P.underlying dst, x with
  | some _, some (.slice e), some (.v (.string s)) => match P.underlying e with
    | some (.int .u8) => some (strRows s)
    | _ => none
  | _, _, _ => none

theorem s2b_sound {P : Program} {w : World} {F : Nat → Prop} {S : Sh} {H : Hp} (h : RW w F S H) {src dst : Nat} {x : V} {y : Value} (hv : RV w F S H x y) {rows : Rows} (he : s2b P src dst (some x) = some rows) :
    ∃ v w' F', (convert src dst y).run P w = .ok v w' ∧ RW w' F' S H ∧ Stp w F S H w' F' S H ∧ RV w' F' S H (.fs 1 rows) v ∧ (∀ b, F b → w'.heap[b]? = w.heap[b]?) := by
  unfold s2b at he
  split at he
  case h_2 => cases he
  rename_i u e s hu hd hx
  injection hx with hx
  subst hx
  cases hv
  split at he
  case h_2 => cases he
  rename_i hee
  injection he with he
  subst he
  have hb : ∀ b, b < w.heap.size → (Lib.bytesWorld w e s).heap[b]? = w.heap[b]? := fun b hb => Lib.bytesWorld_at_old w e s b hb
  have hsz := Lib.bytesWorld_size w e s
  have hg : RW (Lib.bytesWorld w e s) F S H := h.grow (by omega) hb
  refine ⟨_, Lib.bytesWorld w e s, fun b => F b ∨ b = w.heap.size, Lib.run_convert_string_bytes w src dst e s hu hd hee, ⟨fun id p nd hnn => ?_, h.inj, fun b hbb => ?_⟩, ⟨rfl, rfl, rfl, by omega, fun b hlt _ => hb b hlt, fun b ho => .inl ho, fun b hf => hf.elim .inl (fun e => .inr (.inr (by omega))), fun b hf => .inl hf⟩, ?_, fun b hf => hb b (h.froz b hf)⟩
  · refine RN.mono (fun _ _ => rfl) (fun b hf => .inl hf) rfl (fun _ _ _ _ => rfl) (fun b ⟨o, cap, hs'⟩ => ⟨rfl, fun hnf hf => ?_⟩) (hg.nodes id p nd hnn)
    rcases hf with hf | rfl
    · exact hnf hf
    · exact absurd ((h.nodes id p nd hnn).notF hs').2 (Nat.lt_irrefl _)
  · rcases hbb with hf | rfl
    · have := h.froz b hf; omega
    · omega
  · show RepF _ _ (.fs 1 (strRows s)) _
    have hlen : (strRows s).length = s.size := by simp [strRows]
    have hrow : ∀ (i : Nat) (row : List V), (strRows s)[i]? = some row → i < s.size ∧ row = [.v (.int .u8 (s.data.toList.getD i 0).toNat)] := by
      intro i row hr
      unfold strRows at hr
      rw [List.getElem?_map] at hr
      cases hi : s.data.toList[i]? with
      | none => rw [hi] at hr; cases hr
      | some b =>
        rw [hi] at hr
        simp only [Option.map_some, Option.some.injEq] at hr
        have hlt : i < s.data.toList.length := by
          rcases Nat.lt_or_ge i s.data.toList.length with h | h
          · exact h
          · rw [List.getElem?_eq_none h] at hi; cases hi
        refine ⟨by simpa using hlt, ?_⟩
        rw [← hr, List.getD_eq_getElem?_getD, hi]
        rfl
    have hcap := grownCap_ge w s.size 0 e
    have key := RepF.fs (w := Lib.bytesWorld w e s) (F := fun b => F b ∨ b = w.heap.size) 1 (strRows s) w.heap.size 0 (grownCap w s.size 0 e) (fun i k => .int .u8 (s.data.toList.getD i 0).toNat) (.inr rfl) (by rw [hlen]; exact hcap)
      (fun i row hr => by rw [(hrow i row hr).2]; rfl)
      (fun i k row c hr hk => by
        obtain ⟨h1, rfl⟩ := hrow i row hr
        cases k with
        | zero => have := Lib.bytesWorld_cell w e s i h1; simpa using this
        | succ k => simp at hk)
      (fun i k row c hr hk => by
        obtain ⟨h1, rfl⟩ := hrow i row hr
        cases k with
        | zero => simp only [List.getElem?_cons_zero, Option.some.injEq] at hk; subst hk; exact .v _
        | succ k => simp at hk)
    rw [hlen] at key
    exact key
/-- One element of numbers. -/
def row1 (k : IntKind) (i : Int) : List V := [.v (.int k i)]
@[simp] theorem row1_len (k : IntKind) (i : Int) : (row1 k i).length = 1 := rfl
@[simp] theorem pack_row1 (k : IntKind) (i : Int) : pack false (row1 k i) = .v (.int k i) := rfl
/-- Rows of numbers. -/
def unI (k : IntKind) : Rows → Option (List Int)
  | [] => some []
  | [.v (.int k' i)] :: r => if k' = k then match unI k r with | some l => some (i :: l) | none => none else none
  | _ => none
theorem unI_eq {k : IntKind} : ∀ {rows : Rows} {xs : List Int}, unI k rows = some xs → rows = xs.map (row1 k)
  | [], xs, h => by simp only [unI, Option.some.injEq] at h; subst h; rfl
  | r :: rows, xs, h => by
    unfold unI at h
    split at h
    · rename_i h1; cases h1
    · rename_i k' i r' h1
      injection h1 with h1 h2
      subst h1; subst h2
      split at h
      · rename_i e
        subst e
        split at h
        · rename_i l hl
          injection h with h
          subst h
          rw [unI_eq hl]
          rfl
        · cases h
      · cases h
    · cases h
@[simp] theorem unI_map (k : IntKind) : ∀ xs : List Int, unI k (xs.map (row1 k)) = some xs
  | [] => rfl
  | x :: xs => by simp [unI, row1, unI_map k xs]

end Go.Eng

namespace Go.Eng
open Go.RowKit
set_option linter.unusedSectionVars false
set_option linter.unusedVariables false
set_option linter.unusedSimpArgs false
variable [Globs]

def evP (c0 : Bool) (σ : List (Nat × V)) (x : Operand) : Option Value :=
  match ev c0 σ x with
  | some x => plain x
  | none => none

theorem evP_sound {a : Act} {w : World} {F : Nat → Prop} {S : Sh} {H : Hp} {σ : List (Nat × V)} {c0 : Bool} {o : Operand} {y : Value} (h : TR a w F S H σ) (he : evP c0 σ o = some y) (hc : c0 = true) : a.eval o = y := by
  unfold evP at he
  cases hx : ev c0 σ o with
  | none => rw [hx] at he; cases he
  | some x => rw [hx] at he; exact plain_sound (ev_sound h hx hc) he

def evO (c0 : Bool) (σ : List (Nat × V)) : Option Operand → Option (Option Value)
  | none => some none
  | some x => match evP c0 σ x with | some y => some (some y) | none => none

theorem evO_sound {a : Act} {w : World} {F : Nat → Prop} {S : Sh} {H : Hp} {σ : List (Nat × V)} {c0 : Bool} {o : Option Operand} {y : Option Value} (h : TR a w F S H σ) (he : evO c0 σ o = some y) (hc : c0 = true) : o.map a.eval = y := by
  cases o with
  | none => simp only [evO, Option.some.injEq] at he; subst he; rfl
  | some x =>
    simp only [evO] at he
    split at he
    · rename_i z hz
      injection he with he
      subst he
      simp only [Option.map_some, evP_sound h hz hc]
    · cases he

/-- What is nil, and what is not; slices (0), pointers (1), functions (2). -/
def isNil : V → Option (Nat × Bool)
  | .v (.slice none _ _) => some (0, true)
  | .v (.pointer none) => some (1, true)
  | .v .nilFunc => some (2, true)
  | .ref _ _ _ _ n => if 0 < n then some (0, false) else none
  | .fs _ rows => if 0 < rows.length then some (0, false) else none
  | .ptr _ _ _ _ => some (1, false)
  | .fp _ _ _ _ => some (1, false)
  | .clo _ _ => some (2, false)
  | .v (.func _ _ _) => some (2, false)
  | _ => none

def nilConst : Operand → Option Nat
  | .const (.slice none 0 0) => some 0
  | .const (.pointer none) => some 1
  | .const .nilFunc => some 2
  | _ => none

def nilTy (P : Program) (t : Nat) : Option Nat :=
  match P.underlying t with
  | some (.slice _) => some 0
  | some (.pointer _) => some 1
  | some (.func _ _ _) => some 2
  | _ => none

def isSl : V → Bool
  | .ref _ _ _ _ _ => true
  | .fs _ _ => true
  | _ => false

def nilV (P : Program) (c0 : Bool) (σ : List (Nat × V)) (op : BinOp) (t : Nat) (x y : Operand) : Option V :=
  match nilConst y, nilTy P t, ev c0 σ x with
  | some k1, some k2, some x => match isNil x with
    | some (k3, b) => if k1 = k3 ∧ k2 = k3 then match op with
      | .eql => some (.v (.bool b))
      | .neq => some (.v (.bool !b))
      | _ => none
      else none
    | none => if isSl x = true ∧ k1 = 0 ∧ k2 = 0 then match op with
      | .eql => some .anyB
      | .neq => some .anyB
      | _ => none
      else none
  | _, _, _ => none

def binV (P : Program) (c0 : Bool) (σ : List (Nat × V)) (op : BinOp) (t : Nat) (x y : Operand) : Option V :=
  match evP c0 σ x, evP c0 σ y with
  | some a, some b => (pureRun P (do eqGuard op t x y a b; binOp op t a b)).map ofV
  | _, _ => none

/-- What is picked. -/
def pickR (q : Bool) (ra rb : Option V) : Option V :=
  match (if q then ra else rb) with
  | some (.v (.bool x)) => some (.v (.bool x))
  | _ => none

def pickV (c0 : Bool) (σ : List (Nat × V)) (c a b : Operand) : Option V :=
  match ev c0 σ c with
  | some (.v (.bool q)) => pickR q (ev (c0 && q) σ a) (ev (c0 && !q) σ b)
  | _ => none

def intOp (c0 : Bool) (σ : List (Nat × V)) (x : Operand) : Option Int :=
  match ev c0 σ x with
  | some (.v (.int _ i)) => some i
  | _ => none

def bndV (d : Nat) (c0 : Bool) (σ : List (Nat × V)) : Option Operand → Option Nat
  | none => some d
  | some x => match intOp c0 σ x with
    | some i => if 0 ≤ i then some i.toNat else none
    | none => none

def sliceV (P : Program) (c0 : Bool) (σ : List (Nat × V)) (t : Nat) (x : Operand) (lo hi : Option Operand) : Option V :=
  match ev c0 σ x with
  | some (.ref id p sz off n) => match tslice P t, bndV 0 c0 σ lo, bndV n c0 σ hi with
    | some (_, sz', _), some l, some h => if sz' = sz ∧ l ≤ h ∧ h ≤ n then some (.ref id p sz (off + l) (h - l)) else none
    | _, _, _ => none
  | some (.fs sz rows) => match tslice P t, bndV 0 c0 σ lo, bndV rows.length c0 σ hi with
    | some (_, sz', _), some l, some h => if sz' = sz ∧ l ≤ h ∧ h ≤ rows.length then some (.fs sz ((rows.drop l).take (h - l))) else none
    | _, _, _ => none
  | some (.v y) => match evO c0 σ lo, evO c0 σ hi with
    | some lo, some hi => (pureRun P (Instr.sliceAt t y lo hi none)).map ofV
    | _, _ => none
  | _ => none

def loadV (P : Program) (c0 : Bool) (σ : List (Nat × V)) (H : Hp) (t : Nat) (x : Operand) : Option V :=
  match ev c0 σ x with
  | some (.ptr id p i k) => match tinfo P t, node H id p with
    | some (g, n), some (sz, rows) => if i < rows.length ∧ k + n ≤ sz ∧ (g || n == 1) = true then some (pack g (loadRow id p i k (((rows.getD i []).drop k).take n))) else none
    | _, _ => none
  | some (.fp sz rows i k) => match tinfo P t with
    | some (g, n) => if i < rows.length ∧ k + n ≤ sz ∧ (g || n == 1) = true then some (pack g (((rows.getD i []).drop k).take n)) else none
    | none => none
  | _ => none

def fieldAddrV (P : Program) (c0 : Bool) (σ : List (Nat × V)) (t : Nat) (x : Operand) (f : Nat) : Option V :=
  match ev c0 σ x, tfield P t f with
  | some (.ptr id p i k), some (off, _, _, n) => if n = 0 then none else some (.ptr id p i (k + off))
  | some (.fp sz rows i k), some (off, _, _, n) => if n = 0 then none else some (.fp sz rows i (k + off))
  | _, _ => none

def indexAddrV (P : Program) (c0 : Bool) (σ : List (Nat × V)) (t : Nat) (x ix : Operand) : Option V :=
  match ev c0 σ x, intOp c0 σ ix with
  | some (.ref id p sz off n), some i => match tslice P t with
    | some (_, sz', _) => if sz' = sz ∧ 0 ≤ i ∧ i < (n : Int) then some (.ptr id p (off + i.toNat) 0) else none
    | none => none
  | some (.fs sz rows), some i => match tslice P t with
    | some (_, sz', _) => if sz' = sz ∧ 0 ≤ i ∧ i < (rows.length : Int) then some (.fp sz rows i.toNat 0) else none
    | none => none
  | some (.ptr id p j k), some i => match tarray P t with
    | some (n, _, sz) => if 0 ≤ i ∧ i < (n : Int) then some (.ptr id p j (k + i.toNat * sz)) else none
    | none => none
  | some (.fp sz0 rows j k), some i => match tarray P t with
    | some (n, _, sz) => if 0 ≤ i ∧ i < (n : Int) then some (.fp sz0 rows j (k + i.toNat * sz)) else none
    | none => none
  | _, _ => none

def fieldV (P : Program) (c0 : Bool) (σ : List (Nat × V)) (t : Nat) (x : Operand) (f : Nat) : Option V :=
  match ev c0 σ x, tfield P t f with
  | some (.agg vs), some (off, _, g, n) => if off + n ≤ vs.length ∧ (g || n == 1) = true then some (pack g ((vs.drop off).take n)) else none
  | _, _ => none

def lenV (P : Program) (c0 : Bool) (σ : List (Nat × V)) (t : Nat) (ty : Nat) (x : Operand) : Option V :=
  match ev c0 σ x with
  | some (.ref _ _ _ _ n) => match tslice P t with | some _ => some (.v (.int .i64 n)) | none => none
  | some (.fs _ rows) => match tslice P t with | some _ => some (.v (.int .i64 rows.length)) | none => none
  | some (.v y) => (pureRun P (Builtin.len_ #[t] ty #[y])).map ofV
  | _ => none

def evPs (c0 : Bool) (σ : List (Nat × V)) : List Operand → Option (List Value)
  | [] => some []
  | x :: r => match evP c0 σ x, evPs c0 σ r with
    | some y, some l => some (y :: l)
    | _, _ => none

theorem evPs_sound {a : Act} {w : World} {F : Nat → Prop} {S : Sh} {H : Hp} {σ : List (Nat × V)} {c0 : Bool} (h : TR a w F S H σ) (hc : c0 = true) : ∀ {l : List Operand} {ys : List Value}, evPs c0 σ l = some ys → l.map a.eval = ys
  | [], ys, he => by simp only [evPs, Option.some.injEq] at he; subst he; rfl
  | x :: r, ys, he => by
    simp only [evPs] at he
    split at he
    · rename_i y l h1 h2
      injection he with he
      subst he
      rw [List.map_cons, evP_sound h h1 hc, evPs_sound h hc h2]
    · cases he

/-- The value of an operation that changes nothing. -/
def fltV (P : Program) (c0 : Bool) (σ : List (Nat × V)) (H : Hp) (o : Oper) : Option V :=
  match o.op with
  | .move x => ev c0 σ x
  | .assign x => ev c0 σ x
  | .pick c a b => pickV c0 σ c a b
  | .binOp op t x y _ =>
    match nilConst y with
    | some _ => nilV P c0 σ op t x y
    | none => binV P c0 σ op t x y
  | .unOp op _ x => match evP c0 σ x with
    | some a => (pureRun P (Op.unary op a)).map ofV
    | none => none
  | .convert s d x => match evP c0 σ x with
    | some a => (pureRun P (convert s d a)).map ofV
    | none => none
  | .slice t x lo hi none => sliceV P c0 σ t x lo hi
  | .load t x => loadV P c0 σ H t x
  | .fieldAddr t x f => fieldAddrV P c0 σ t x f
  | .indexAddr t x i => indexAddrV P c0 σ t x i
  | .field t x f => fieldV P c0 σ t x f
  | .index t x i => match evP c0 σ x, evP c0 σ i with
    | some a, some b => (pureRun P (Instr.index t a b)).map ofV
    | _, _ => none
  | .build t parts => buildV P c0 σ t parts.toList
  | .nilCheck x => match ev c0 σ x with
    | some (.ptr id p i k) => some (.ptr id p i k)
    | some (.fp sz rows i k) => some (.fp sz rows i k)
    | _ => none
  | .extract x i => match ev c0 σ x with
    | some (.tup vs) => vs[i]?
    | _ => none
  | .call { callee := .builtin .len, args, argTypes } => match args.toList, argTypes.toList with
    | [x], [t] => lenV P c0 σ t o.type x
    | _, _ => none
  | .call { callee := .builtin .min, args, argTypes } => match evPs c0 σ args.toList with
    | some ys => (pureRun P (Builtin.min_ argTypes o.type ys.toArray)).map ofV
    | none => none
  | .call { callee := .builtin .max, args, argTypes } => match evPs c0 σ args.toList with
    | some ys => (pureRun P (Builtin.max_ argTypes o.type ys.toArray)).map ofV
    | none => none
  | _ => none

theorem pureRun_map_sound {P : Program} {s : Sem Value} {x : V} (h : (pureRun P s).map ofV = some x) (w : World) (F : Nat → Prop) (S : Sh) (H : Hp) : ∃ z, s.run P w = .ok z w ∧ RV w F S H x z := by
  cases hs : pureRun P s with
  | none => rw [hs] at h; cases h
  | some z =>
    rw [hs] at h
    simp only [Option.map_some, Option.some.injEq] at h
    subst h
    exact ⟨z, pureRun_sound s hs w, ofV_sound z⟩

section
variable {P : Program} {a : Act} {w : World} {F : Nat → Prop} {S : Sh} {H : Hp} {σ : List (Nat × V)} {c0 : Bool}

theorem intOp_sound (h : TR a w F S H σ) {x : Operand} {i : Int} (he : intOp c0 σ x = some i) (hc : c0 = true) : ∃ k, a.eval x = .int k i := by
  unfold intOp at he
  split at he
  · rename_i k j hj
    injection he with he
    subst he
    exact ⟨k, plain_sound (ev_sound h hj hc) rfl⟩
  · cases he

theorem bndV_sound (h : TR a w F S H σ) {d n : Nat} {x : Option Operand} (he : bndV d c0 σ x = some n) (hc : c0 = true) : bnd d (x.map a.eval) = some n := by
  cases x with
  | none => exact he
  | some x =>
    simp only [bndV] at he
    split at he
    · rename_i i hi
      obtain ⟨k, hk⟩ := intOp_sound h hi hc
      simp only [Option.map_some, hk, bnd]
      exact he
    · cases he

theorem sliceV_sound (hw : RW w F S H) (h : TR a w F S H σ) {t : Nat} {x : Operand} {lo hi : Option Operand} {z : V} (he : sliceV P c0 σ t x lo hi = some z) (hc : c0 = true) :
    ∃ y, (Instr.sliceAt t (a.eval x) (lo.map a.eval) (hi.map a.eval) none).run P w = .ok y w ∧ RV w F S H z y := by
  unfold sliceV at he
  split at he
  · rename_i id p sz off n hx
    split at he
    · rename_i e sz' by' l hh h1 h2 h3
      split at he
      · rename_i hcnd
        obtain ⟨rfl, c1, c2⟩ := hcnd
        injection he with he
        subst he
        exact slice_ref hw (ev_sound h hx hc) h1 (bndV_sound h h2 hc) (bndV_sound h h3 hc) c1 c2
      · cases he
    · cases he
  · rename_i sz rows hx
    split at he
    · rename_i e sz' by' l hh h1 h2 h3
      split at he
      · rename_i hcnd
        obtain ⟨rfl, c1, c2⟩ := hcnd
        injection he with he
        subst he
        exact slice_fs (ev_sound h hx hc) h1 (bndV_sound h h2 hc) (bndV_sound h h3 hc) c1 c2
      · cases he
    · cases he
  · rename_i y hx
    split at he
    · rename_i lo' hi' h1 h2
      rw [evO_sound h h1 hc, evO_sound h h2 hc, show a.eval x = y from plain_sound (ev_sound h hx hc) rfl]
      exact pureRun_map_sound he w F S H
    · cases he
  · cases he

theorem loadV_sound (hw : RW w F S H) (h : TR a w F S H σ) {t : Nat} {x : Operand} {z : V} (he : loadV P c0 σ H t x = some z) (hc : c0 = true) :
    ∃ y, (Instr.loadAt t (a.eval x)).run P w = .ok y w ∧ RV w F S H z y := by
  unfold loadV at he
  split at he
  · rename_i id p i k hx
    split at he
    · rename_i g n sz rows h1 h2
      split at he
      · rename_i hcnd
        obtain ⟨c1, c2, c3⟩ := hcnd
        injection he with he
        subst he
        exact load_ptr hw (ev_sound h hx hc) h1 h2 c1 c2 (fun hg => by subst hg; simpa using c3)
      · cases he
    · cases he
  · rename_i sz rows i k hx
    split at he
    · rename_i g n h1
      split at he
      · rename_i hcnd
        obtain ⟨c1, c2, c3⟩ := hcnd
        injection he with he
        subst he
        exact load_fp (ev_sound h hx hc) h1 c1 c2 (fun hg => by subst hg; simpa using c3)
      · cases he
    · cases he
  · cases he

theorem fieldAddrV_sound (h : TR a w F S H σ) {t f : Nat} {x : Operand} {z : V} (he : fieldAddrV P c0 σ t x f = some z) (hc : c0 = true) :
    ∃ y, (Instr.fieldAt t (a.eval x) f).run P w = .ok y w ∧ RV w F S H z y := by
  unfold fieldAddrV at he
  split at he
  · rename_i id p i k off ty g n hx hf
    split at he
    · cases he
    · rename_i hn
      injection he with he
      subst he
      exact fieldAddr_ptr (ev_sound h hx hc) hf hn
  · rename_i sz rows i k off ty g n hx hf
    split at he
    · cases he
    · rename_i hn
      injection he with he
      subst he
      exact fieldAddr_fp (ev_sound h hx hc) hf hn
  · cases he

theorem indexAddrV_sound (hw : RW w F S H) (h : TR a w F S H σ) {t : Nat} {x ix : Operand} {z : V} (he : indexAddrV P c0 σ t x ix = some z) (hc : c0 = true) :
    ∃ y, (Instr.indexAt t (a.eval x) (a.eval ix)).run P w = .ok y w ∧ RV w F S H z y := by
  unfold indexAddrV at he
  split at he
  · rename_i id p sz off n i hx hi
    obtain ⟨k, hk⟩ := intOp_sound h hi hc
    rw [hk]
    split at he
    · rename_i e sz' by' ht
      split at he
      · rename_i hcnd
        obtain ⟨rfl, c1, c2⟩ := hcnd
        injection he with he
        subst he
        exact indexAddr_ref hw (ev_sound h hx hc) ht k i c1 c2
      · cases he
    · cases he
  · rename_i sz rows i hx hi
    obtain ⟨k, hk⟩ := intOp_sound h hi hc
    rw [hk]
    split at he
    · rename_i e sz' by' ht
      split at he
      · rename_i hcnd
        obtain ⟨rfl, c1, c2⟩ := hcnd
        injection he with he
        subst he
        exact indexAddr_fs (ev_sound h hx hc) ht k i c1 c2
      · cases he
    · cases he
  · rename_i id p j k i hx hi
    obtain ⟨kd, hk⟩ := intOp_sound h hi hc
    rw [hk]
    split at he
    · rename_i n e sz ht
      split at he
      · rename_i hcnd
        injection he with he
        subst he
        exact indexAddr_ptr (ev_sound h hx hc) ht kd i hcnd.1 hcnd.2
      · cases he
    · cases he
  · rename_i sz0 rows j k i hx hi
    obtain ⟨kd, hk⟩ := intOp_sound h hi hc
    rw [hk]
    split at he
    · rename_i n e sz ht
      split at he
      · rename_i hcnd
        injection he with he
        subst he
        exact indexAddr_fp (ev_sound h hx hc) ht kd i hcnd.1 hcnd.2
      · cases he
    · cases he
  · cases he

theorem fieldV_sound (h : TR a w F S H σ) {t f : Nat} {x : Operand} {z : V} (he : fieldV P c0 σ t x f = some z) (hc : c0 = true) :
    ∃ y, (Instr.field t (a.eval x) f).run P w = .ok y w ∧ RV w F S H z y := by
  unfold fieldV at he
  split at he
  · rename_i vs off ty g n hx hf
    split at he
    · rename_i hcnd
      obtain ⟨c1, c2⟩ := hcnd
      injection he with he
      subst he
      obtain ⟨fs, fd, h1, h2, rfl, rfl, h5⟩ := tfield_some hf
      have hv := ev_sound h hx hc
      rw [RV_agg] at hv
      obtain ⟨ys, hy, hl, hr⟩ := hv
      rw [hy]
      have hlen : (((vs.drop fd.offset).take n)).length = n := by rw [List.length_take, List.length_drop]; omega
      cases g with
      | true =>
        refine ⟨.agg (ys.toArray.extract fd.offset (fd.offset + n)), ?_, ?_⟩
        · simp [Instr.field, run_underlying h1, h2, asAgg, Go.part, run_isAgg h5, run_sizeOf' h5]
        · simp only [pack, if_true]
          rw [RV_agg]
          refine ⟨(ys.drop fd.offset).take n, by simp [List.extract_eq_take_drop], by rw [hlen, List.length_take, List.length_drop]; omega, fun i c z hc hz => ?_⟩
          have hi : i < n := by
            rcases Nat.lt_or_ge i n with h | h
            · exact h
            · rw [List.getElem?_eq_none (by omega)] at hc; cases hc
          rw [List.getElem?_take_of_lt hi, List.getElem?_drop] at hc hz
          exact hr _ c z hc hz
      | false =>
        obtain rfl : n = 1 := by simpa using c2
        have hlt : fd.offset < vs.length := by omega
        have hlt' : fd.offset < ys.length := by omega
        refine ⟨ys[fd.offset], ?_, ?_⟩
        · simp [Instr.field, run_underlying h1, h2, asAgg, Go.part, run_isAgg h5, hlt']
        · have e : pack false ((vs.drop fd.offset).take 1) = vs[fd.offset] := by
            simp only [pack, if_false, Bool.false_eq_true]
            rw [List.drop_eq_getElem_cons hlt]
            rfl
          rw [e]
          have := hr fd.offset _ _ (List.getElem?_eq_getElem hlt) (List.getElem?_eq_getElem hlt')
          -- a component is no aggregate
          have : RV w F S H vs[fd.offset] ys[fd.offset] := by
            unfold RVc at this
            cases hcc : vs[fd.offset] <;> rw [hcc] at this <;> simp only [V.clo?, RV1] at this <;> simp only [RV, V.may?, RV3, V.tup?, RV2, V.agg?, RVc, V.clo?, RV1] <;> first | exact this | exact this.elim
          exact this
    · cases he
  · cases he

theorem isNil_sound (hw : RW w F S H) {x : V} {y : Value} (h : RV w F S H x y) {k : Nat} {b : Bool} (hb : isNil x = some (k, b)) :
    (k = 0 ∧ ∃ a n c, y = .slice a n c ∧ a.isNone = b) ∨ (k = 1 ∧ ∃ a, y = .pointer a ∧ a.isNone = b) ∨ (k = 2 ∧ ((b = true ∧ y = .nilFunc) ∨ (b = false ∧ ∃ f x y', y = .func f x y'))) := by
  unfold isNil at hb
  split at hb
  · injection hb with hb; injection hb with h1 h2; subst h1; subst h2
    simp only [RV, V.may?, RV3, V.tup?, RV2, V.agg?, RVc, V.clo?, RV1] at h
    exact .inl ⟨rfl, _, _, _, h, rfl⟩
  · injection hb with hb; injection hb with h1 h2; subst h1; subst h2
    simp only [RV, V.may?, RV3, V.tup?, RV2, V.agg?, RVc, V.clo?, RV1] at h
    exact .inr (.inl ⟨rfl, _, h, rfl⟩)
  · injection hb with hb; injection hb with h1 h2; subst h1; subst h2
    simp only [RV, V.may?, RV3, V.tup?, RV2, V.agg?, RVc, V.clo?, RV1] at h
    exact .inr (.inr ⟨rfl, .inl ⟨rfl, h⟩⟩)
  · rename_i id p sz off n
    split at hb
    · rename_i hn
      injection hb with hb; injection hb with h1 h2; subst h1; subst h2
      rw [RV_ref] at h
      obtain ⟨nd, h1, h2, h3, h4⟩ := h
      have hcap := hw.cap h1
      cases hs : S id p with
      | none => rw [hs] at hcap; simp only at hcap; rw [hcap] at h3; simp at h3; omega
      | some x =>
        obtain ⟨b, o, cap⟩ := x
        rw [hs] at h4 hcap
        simp only at hcap
        obtain ⟨a', rfl, ha⟩ := h4
        rw [ha (by omega)]
        exact .inl ⟨rfl, _, _, _, rfl, rfl⟩
    · cases hb
  · rename_i sz rows
    split at hb
    · rename_i hn
      injection hb with hb; injection hb with h1 h2; subst h1; subst h2
      rw [RV_fs] at h
      cases h with
      | fsnil => simp at hn
      | fs => exact .inl ⟨rfl, _, _, _, rfl, rfl⟩
    · cases hb
  · injection hb with hb; injection hb with h1 h2; subst h1; subst h2
    obtain ⟨_, _, _, _, _, _, rfl⟩ := RV_ptr h
    exact .inr (.inl ⟨rfl, _, rfl, rfl⟩)
  · injection hb with hb; injection hb with h1 h2; subst h1; subst h2
    obtain ⟨_, _, rfl, _⟩ := RepF_fp h
    exact .inr (.inl ⟨rfl, _, rfl, rfl⟩)
  · injection hb with hb; injection hb with h1 h2; subst h1; subst h2
    simp only [RV, V.may?, RV3, V.tup?, RV2, V.agg?, RVc, V.clo?] at h
    rcases h with h | ⟨ys, rfl, _⟩
    · cases h; exact .inr (.inr ⟨rfl, .inr ⟨rfl, _, _, _, rfl⟩⟩)
    · exact .inr (.inr ⟨rfl, .inr ⟨rfl, _, _, _, rfl⟩⟩)
  · injection hb with hb; injection hb with h1 h2; subst h1; subst h2
    simp only [RV, V.may?, RV3, V.tup?, RV2, V.agg?, RVc, V.clo?, RV1] at h
    exact .inr (.inr ⟨rfl, .inr ⟨rfl, _, _, _, h⟩⟩)
  · cases hb

theorem equal_slice_nil {t e : Nat} (hu : P.underlying t = some (.slice e)) (aa : Option Addr) (n c : Nat) (w : World) : (Op.equal t (.slice aa n c) (.slice none 0 0)).run P w = .ok aa.isNone w := by
  have : ∀ d, (Op.equalIn (d + 1) t (.slice aa n c) (.slice none 0 0)).run P w = .ok aa.isNone w := by
    intro d
    cases aa <;> simp [Op.equalIn, run_underlying hu]
  exact this 9999

theorem equal_ptr_nil {t e : Nat} (hu : P.underlying t = some (.pointer e)) (aa : Option Addr) (w : World) : (Op.equal t (.pointer aa) (.pointer none)).run P w = .ok aa.isNone w := by
  have : ∀ d, (Op.equalIn (d + 1) t (.pointer aa) (.pointer none)).run P w = .ok aa.isNone w := by
    intro d
    cases aa <;> simp [Op.equalIn, run_underlying hu]
  exact this 9999

theorem equal_func_nil {t : Nat} {e e' : Array Nat} {e'' : Bool} (hu : P.underlying t = some (.func e e' e'')) (y : Value) (hy : y = .nilFunc ∨ ∃ f x1 x2, y = .func f x1 x2) (w : World) : (Op.equal t y .nilFunc).run P w = .ok (match y with | .nilFunc => true | _ => false) w := by
  have : ∀ d, (Op.equalIn (d + 1) t y .nilFunc).run P w = .ok (match y with | .nilFunc => true | _ => false) w := by
    intro d
    rcases hy with rfl | ⟨f, x1, x2, rfl⟩ <;> simp [Op.equalIn, run_underlying hu]
  exact this 9999

theorem isSl_sound (hw : RW w F S H) {x : V} {y : Value} (h : RV w F S H x y) (hb : isSl x = true) : ∃ a n c, y = .slice a n c := by
  cases x with
  | ref id p sz off n =>
    rw [RV_ref] at h
    obtain ⟨nd, h1, h2, h3, h4⟩ := h
    cases hs : S id p with
    | none => rw [hs] at h4; exact ⟨_, _, _, h4⟩
    | some x =>
      obtain ⟨b, o, cap⟩ := x
      rw [hs] at h4
      obtain ⟨a', rfl, _⟩ := h4
      exact ⟨_, _, _, rfl⟩
  | fs sz rows =>
    simp only [RV, V.may?, RV3, V.tup?, RV2, V.agg?, RVc, V.clo?, RV1] at h
    cases h with
    | fsnil => exact ⟨_, _, _, rfl⟩
    | fs => exact ⟨_, _, _, rfl⟩
  | _ => simp [isSl] at hb

theorem nilV_sound (hw : RW w F S H) (h : TR a w F S H σ) {op : BinOp} {t : Nat} {x y : Operand} {z : V} (he : nilV P c0 σ op t x y = some z) (hc : c0 = true) :
    ∃ v, (do eqGuard op t x y (a.eval x) (a.eval y); binOp op t (a.eval x) (a.eval y)).run P w = .ok v w ∧ RV w F S H z v := by
  unfold nilV at he
  split at he
  · rename_i k1 k2 x' h1 h2 h3
    split at he
    · rename_i k3 b h4
      split at he
      · rename_i hk
        obtain ⟨rfl, rfl⟩ := hk
        have hx := ev_sound h h3 hc
        have fin : ∀ (X Y : Value), a.eval x = X → a.eval y = Y → (Op.equal t X Y).run P w = .ok b w → (∀ op : BinOp, (eqGuard op t x y X Y).run P w = .ok () w) → (binOp .eql t X Y = do pure (.bool (← Op.equal t X Y))) → (binOp .neq t X Y = do pure (.bool (!(← Op.equal t X Y)))) →
            ∃ v, (do eqGuard op t x y (a.eval x) (a.eval y); binOp op t (a.eval x) (a.eval y)).run P w = .ok v w ∧ RV w F S H z v := by
          intro X Y hX hY heq hg h5 h6
          rw [hX, hY]
          split at he
          · injection he with he; subst he
            refine ⟨.bool b, ?_, rfl⟩
            simp [Sem.run_bind, hg, h5, heq]
          · injection he with he; subst he
            refine ⟨.bool !b, ?_, rfl⟩
            simp [Sem.run_bind, hg, h6, heq]
          · cases he
        have hguard : ∀ (X Y : Value), (X ≠ .nilIface) → (∀ cs, X ≠ .agg cs) → ∀ op : BinOp, (eqGuard op t x y X Y).run P w = .ok () w := by
          intro X Y hn ha op
          cases op <;> first | rfl | (cases X <;> first | exact absurd rfl hn | exact absurd rfl (ha _) | (cases Y <;> rfl))
        rcases isNil_sound hw hx h4 with ⟨rfl, aa, n, c, hy, hb⟩ | ⟨rfl, aa, hy, hb⟩ | ⟨rfl, hy⟩
        · have hyc : a.eval y = .slice none 0 0 := by unfold nilConst at h1; split at h1 <;> first | rfl | cases h1
          have hty : ∃ e, P.underlying t = some (.slice e) := by unfold nilTy at h2; split at h2 <;> first | exact ⟨_, by assumption⟩ | cases h2
          obtain ⟨e, hu⟩ := hty
          refine fin _ _ hy hyc ?_ (hguard _ _ (by simp) (by simp)) (by cases aa <;> rfl) (by cases aa <;> rfl)
          rw [← hb]; exact equal_slice_nil hu aa n c w
        · have hyc : a.eval y = .pointer none := by unfold nilConst at h1; split at h1 <;> first | rfl | cases h1
          have hty : ∃ e, P.underlying t = some (.pointer e) := by unfold nilTy at h2; split at h2 <;> first | exact ⟨_, by assumption⟩ | cases h2
          obtain ⟨e, hu⟩ := hty
          refine fin _ _ hy hyc ?_ (hguard _ _ (by simp) (by simp)) (by cases aa <;> rfl) (by cases aa <;> rfl)
          rw [← hb]; exact equal_ptr_nil hu aa w
        · have hyc : a.eval y = .nilFunc := by unfold nilConst at h1; split at h1 <;> first | rfl | cases h1
          have hty : ∃ e e' e'', P.underlying t = some (.func e e' e'') := by unfold nilTy at h2; split at h2 <;> first | exact ⟨_, _, _, by assumption⟩ | cases h2
          obtain ⟨e, e', e'', hu⟩ := hty
          rcases hy with ⟨rfl, hy⟩ | ⟨rfl, f, x1, x2, hy⟩
          · refine fin _ _ hy hyc ?_ (hguard _ _ (by simp) (by simp)) rfl rfl
            exact equal_func_nil hu _ (.inl rfl) w
          · refine fin _ _ hy hyc ?_ (hguard _ _ (by simp) (by simp)) rfl rfl
            exact equal_func_nil hu _ (.inr ⟨_, _, _, rfl⟩) w
      · cases he
    · rename_i h4
      split at he
      · rename_i hk
        obtain ⟨hsl, rfl, rfl⟩ := hk
        obtain ⟨aa, n, c, hy⟩ := isSl_sound hw (ev_sound h h3 hc) hsl
        have hyc : a.eval y = .slice none 0 0 := by unfold nilConst at h1; split at h1 <;> first | rfl | cases h1
        have hty : ∃ e, P.underlying t = some (.slice e) := by unfold nilTy at h2; split at h2 <;> first | exact ⟨_, by assumption⟩ | cases h2
        obtain ⟨e, hu⟩ := hty
        have heq := equal_slice_nil hu aa n c w
        have hg : ∀ op : BinOp, (eqGuard op t x y (.slice aa n c) (.slice none 0 0)).run P w = .ok () w := by
          intro op; cases op <;> rfl
        rw [hy, hyc]
        split at he
        · injection he with he; subst he
          refine ⟨.bool aa.isNone, ?_, ⟨_, rfl⟩⟩
          have h5 : binOp .eql t (.slice aa n c) (.slice none 0 0) = (do pure (.bool (← Op.equal t (.slice aa n c) (.slice none 0 0)))) := by cases aa <;> rfl
          simp [Sem.run_bind, hg, h5, heq]
        · injection he with he; subst he
          refine ⟨.bool !aa.isNone, ?_, ⟨_, rfl⟩⟩
          have h6 : binOp .neq t (.slice aa n c) (.slice none 0 0) = (do pure (.bool (!(← Op.equal t (.slice aa n c) (.slice none 0 0))))) := by cases aa <;> rfl
          simp [Sem.run_bind, hg, h6, heq]
        · cases he
      · cases he
  · cases he

theorem binV_sound (h : TR a w F S H σ) {op : BinOp} {t : Nat} {x y : Operand} {z : V} (he : binV P c0 σ op t x y = some z) (hc : c0 = true) :
    ∃ v, (do eqGuard op t x y (a.eval x) (a.eval y); binOp op t (a.eval x) (a.eval y)).run P w = .ok v w ∧ RV w F S H z v := by
  unfold binV at he
  split at he
  · rename_i u v h1 h2
    rw [evP_sound h h1 hc, evP_sound h h2 hc]
    exact pureRun_map_sound he w F S H
  · cases he

theorem lenV_sound (hw : RW w F S H) (h : TR a w F S H σ) {t ty : Nat} {x : Operand} {z : V} (he : lenV P c0 σ t ty x = some z) (hc : c0 = true) :
    ∃ v, (Builtin.len_ #[t] ty #[a.eval x]).run P w = .ok v w ∧ RV w F S H z v := by
  unfold lenV at he
  split at he
  · rename_i id p sz off n hx
    split at he
    · rename_i q hq
      injection he with he; subst he
      obtain ⟨e, sz', by'⟩ := q
      obtain ⟨hu, _⟩ := tslice_some hq
      have hv := ev_sound h hx hc
      rw [RV_ref] at hv
      obtain ⟨nd, h1, h2, h3, h4⟩ := hv
      cases hs : S id p with
      | none =>
        rw [hs] at h4
        simp only at h4
        have hcap := hw.cap h1
        rw [hs] at hcap
        simp only at hcap
        rw [hcap] at h3
        obtain rfl : n = 0 := by simp at h3; omega
        exact ⟨.int .i64 0, by simp [Builtin.len_, run_underlying hu, h4, goInt], rfl⟩
      | some q =>
        obtain ⟨b, o, cap⟩ := q
        rw [hs] at h4
        obtain ⟨a', hy, _⟩ := h4
        exact ⟨.int .i64 n, by simp [Builtin.len_, run_underlying hu, hy, goInt], rfl⟩
    · cases he
  · rename_i sz rows hx
    split at he
    · rename_i q hq
      injection he with he; subst he
      obtain ⟨e, sz', by'⟩ := q
      obtain ⟨hu, _⟩ := tslice_some hq
      have hv := ev_sound h hx hc
      rw [RV_fs] at hv
      generalize hy : a.eval x = Y at hv
      cases hv with
      | fsnil => exact ⟨.int .i64 0, by simp [Builtin.len_, run_underlying hu, goInt], rfl⟩
      | fs => exact ⟨.int .i64 rows.length, by simp [Builtin.len_, run_underlying hu, goInt], rfl⟩
    · cases he
  · rename_i y hx
    rw [show a.eval x = y from plain_sound (ev_sound h hx hc) rfl]
    exact pureRun_map_sound he w F S H
  · cases he

end
end Go.Eng

namespace Go.Eng
open Go.RowKit
set_option linter.unusedSectionVars false
set_option linter.unusedVariables false
set_option linter.unusedSimpArgs false
variable [Globs]

theorem pickV_sound {a : Act} {w : World} {F : Nat → Prop} {S : Sh} {H : Hp} {σ : List (Nat × V)} {c0 : Bool} (h : TR a w F S H σ) {c x y : Operand} {z : V} (he : pickV c0 σ c x y = some z) (hc : c0 = true) :
    ∃ q, a.eval c = .bool q ∧ RV w F S H z (if q then a.eval x else a.eval y) := by
  unfold pickV at he
  split at he
  · rename_i q hq
    refine ⟨q, plain_sound (ev_sound h hq hc) rfl, ?_⟩
    unfold pickR at he
    split at he
    · rename_i u hu
      injection he with he; subst he
      cases q with
      | true =>
        have := ev_sound h hu (by simp [hc])
        rw [if_pos rfl, show a.eval x = .bool u from plain_sound this rfl]
        exact rfl
      | false =>
        have := ev_sound h hu (by simp [hc])
        rw [if_neg (by simp), show a.eval y = .bool u from plain_sound this rfl]
        exact rfl
    · cases he
  · cases he

theorem RV_tup_get {w : World} {F : Nat → Prop} {S : Sh} {H : Hp} {vs : List V} {y : Value} (h : RV w F S H (.tup vs) y) {i : Nat} {z : V} (hz : vs[i]? = some z) : ∃ ys u, y = .tuple ys ∧ ys[i]? = some u ∧ RV w F S H z u := by
  rw [RV_tup] at h
  obtain ⟨ys, rfl, hl, hr⟩ := h
  have hi : i < vs.length := by
    rcases Nat.lt_or_ge i vs.length with h | h
    · exact h
    · rw [List.getElem?_eq_none h] at hz; cases hz
  have hi' : i < ys.length := by omega
  refine ⟨ys.toArray, ys[i], rfl, by simp [hi'], ?_⟩
  have := hr i z _ hz (List.getElem?_eq_getElem hi')
  -- a component is no tuple
  cases z with
  | tup vs' => simp [RV2, V.agg?, RVc, V.clo?, RV1] at this
  | may c x => simp [RV2, V.agg?, RVc, V.clo?, RV1] at this
  | _ => exact this

theorem fltV_sound {P : Program} {a : Act} {w : World} {F : Nat → Prop} {S : Sh} {H : Hp} {σ : List (Nat × V)} {c0 : Bool} (hw : RW w F S H) (h : TR a w F S H σ) {o : Oper} {z : V} (he : fltV P c0 σ H o = some z) (hc : c0 = true) :
    ∃ y, (execOp a.eval o).run P w = .ok (.value y) w ∧ RV w F S H z y := by
  obtain ⟨dst, op, type, pos, after, guard⟩ := o
  have lift : ∀ (s : Sem Value), (∃ y, s.run P w = .ok y w ∧ RV w F S H z y) → ∃ y, (do pure (Next.value (← s)) : Sem Next).run P w = .ok (.value y) w ∧ RV w F S H z y := by
    rintro s ⟨y, h1, h2⟩
    exact ⟨y, by simp [h1], h2⟩
  unfold fltV at he
  dsimp only at he
  split at he
  · exact ⟨_, rfl, ev_sound h he hc⟩
  · exact ⟨_, rfl, ev_sound h he hc⟩
  · rename_i c x y
    obtain ⟨q, h1, h2⟩ := pickV_sound h he hc
    refine ⟨_, ?_, h2⟩
    simp [execOp, h1, asBool]
  · rename_i op t x y yt
    refine lift (do eqGuard op t x y (a.eval x) (a.eval y); binOp op t (a.eval x) (a.eval y)) ?_
    split at he
    · exact nilV_sound hw h he hc
    · exact binV_sound h he hc
  · rename_i op t x
    refine lift (Op.unary op (a.eval x)) ?_
    split at he
    · rename_i u hu
      rw [evP_sound h hu hc]
      exact pureRun_map_sound he w F S H
    · cases he
  · rename_i s d x
    refine lift (convert s d (a.eval x)) ?_
    split at he
    · rename_i u hu
      rw [evP_sound h hu hc]
      exact pureRun_map_sound he w F S H
    · cases he
  · rename_i t x lo hi
    exact lift (Instr.sliceAt t (a.eval x) (lo.map a.eval) (hi.map a.eval) none) (sliceV_sound hw h he hc)
  · rename_i t x
    exact lift (Instr.loadAt t (a.eval x)) (loadV_sound hw h he hc)
  · rename_i t x f
    exact lift (Instr.fieldAt t (a.eval x) f) (fieldAddrV_sound h he hc)
  · rename_i t x i
    exact lift (Instr.indexAt t (a.eval x) (a.eval i)) (indexAddrV_sound hw h he hc)
  · rename_i t x f
    exact lift (Instr.field t (a.eval x) f) (fieldV_sound h he hc)
  · rename_i t x i
    refine lift (Instr.index t (a.eval x) (a.eval i)) ?_
    split at he
    · rename_i u v hu hv
      rw [evP_sound h hu hc, evP_sound h hv hc]
      exact pureRun_map_sound he w F S H
    · cases he
  · rename_i t parts
    exact lift (Instr.build t (parts.map fun (i, x) => (i, a.eval x))) (buildV_sound h hc he)
  · rename_i x
    split at he
    · rename_i id p i k hx
      injection he with he; subst he
      have hv := ev_sound h hx hc
      obtain ⟨nd, b, o, cap, _, _, hy⟩ := RV_ptr hv
      refine ⟨a.eval x, ?_, hv⟩
      simp [execOp, hy]
    · rename_i sz rows i k hx
      injection he with he; subst he
      have hv := ev_sound h hx hc
      obtain ⟨b, o, hy, _⟩ := RepF_fp hv
      refine ⟨a.eval x, ?_, hv⟩
      simp [execOp, hy]
    · cases he
  · rename_i x i
    refine lift (Instr.extract (a.eval x) i) ?_
    split at he
    · rename_i vs hx
      obtain ⟨ys, u, h1, h2, h3⟩ := RV_tup_get (ev_sound h hx hc) he
      refine ⟨u, ?_, h3⟩
      rw [h1]
      simp [Instr.extract, h2]
    · cases he
  · rename_i args argTypes
    split at he
    · rename_i x t h1 h2
      have e1 : args = #[x] := by rw [← h1]
      have e2 : argTypes = #[t] := by rw [← h2]
      subst e1; subst e2
      obtain ⟨y, h3, h4⟩ := lenV_sound hw h he hc
      refine ⟨y, ?_, h4⟩
      simp [execOp, resolve, invoke, builtin, h3]
    · cases he
  · rename_i args argTypes
    split at he
    · rename_i ys hys
      have e := evPs_sound h hc hys
      obtain ⟨y, h3, h4⟩ := pureRun_map_sound he w F S H
      refine ⟨y, ?_, h4⟩
      have e2 : args.map a.eval = ys.toArray := by rw [← e]; apply Array.ext'; simp
      simp [execOp, resolve, invoke, builtin, e2, h3]
    · cases he
  · rename_i args argTypes
    split at he
    · rename_i ys hys
      have e := evPs_sound h hc hys
      obtain ⟨y, h3, h4⟩ := pureRun_map_sound he w F S H
      refine ⟨y, ?_, h4⟩
      have e2 : args.map a.eval = ys.toArray := by rw [← e]; apply Array.ext'; simp
      simp [execOp, resolve, invoke, builtin, e2, h3]
    · cases he
  · cases he

end Go.Eng

namespace Go.Eng
open Go.RowKit
set_option linter.unusedSectionVars false
set_option linter.unusedVariables false
set_option linter.unusedSimpArgs false
variable [Globs]

/-- What an operation does, whatever follows. -/
def Does (P : Program) (o : Oper) (a : Act) (w : World) (R : Value → World → Prop) : Prop :=
  ∀ (next : Act → World → Prop) (Q : Exit → Act → World → Prop), (∀ v w', R v w' → next (a.put o.dst v) w') → o.wp P a w next Q

theorem Does.value {P : Program} {o : Oper} {a : Act} {w w' : World} {R : Value → World → Prop} {y : Value} (h : (execOp a.eval o).run P w = .ok (.value y) w') (hr : R y w') : Does P o a w R := by
  intro next Q hn
  unfold Oper.wp
  rw [h]
  exact hn y w' hr

theorem Does.skip {P : Program} {o : Oper} {a : Act} {w w' : World} {R : Value → World → Prop} (h : (execOp a.eval o).run P w = .ok .skip w') (hr : R undef w') : Does P o a w R := by
  intro next Q hn
  unfold Oper.wp
  rw [h]
  exact hn undef w' hr

theorem Does.enter {P : Program} {o : Oper} {a : Act} {w w' : World} {R : Value → World → Prop} {f : Nat} {args : Array Value} (h : (execOp a.eval o).run P w = .ok (.enter f args) w') (hr : Calls P f args w' fun e w'' => ∃ v, e = .returned v ∧ R v w'') : Does P o a w R := by
  intro next Q hn
  unfold Oper.wp
  rw [h]
  show Calls P f args w' _
  refine hr.mono ?_
  rintro e w'' ⟨v, rfl, hv⟩
  exact hn v w'' hv

/-- What has become of things, behind an operation. -/
structure Step (ks : List (Nat × Nat)) (z : Option V) (w : World) (F : Nat → Prop) (S : Sh) (H : Hp) (v : Value) (w' : World) (F' : Nat → Prop) (S' : Sh) (H' : Hp) : Prop where
  rw : RW w' F' S' H'
  stp : Stp w F S H w' F' S' H'
  val : match z with | some z => RV w' F' S' H' z v | none => True
  kept : ∀ id p nd, ¬ Killed ks id p → node H id p = some nd → S' id p = S id p ∧ ∃ nd', node H' id p = some nd' ∧ nd'.1 = nd.1 ∧ nd'.2.length = nd.2.length
  blk : ∀ b, F b → w'.heap[b]? = w.heap[b]?

theorem Step.same {w : World} {F : Nat → Prop} {S : Sh} {H : Hp} (h : RW w F S H) {z : V} {v : Value} (hv : RV w F S H z v) : Step [] (some z) w F S H v w F S H :=
  ⟨h, Stp.refl .., hv, fun id p nd _ hn => ⟨rfl, nd, hn, rfl, rfl⟩, fun _ _ => rfl⟩

/-- Of each cell of a type: the elements' cells, if it is a slice's. -/
def tslotsN (P : Program) : Nat → Nat → List (Option Nat)
  | 0, t => List.replicate (P.cellsOf t) none
  | n + 1, t => match P.underlying t with
    | some (.slice e) => [some (P.cellsOf e)]
    | some (.struct fs) => fs.toList.flatMap fun f => tslotsN P n f.type
    | some (.array m e) => (List.replicate m (tslotsN P n e)).flatten
    | _ => List.replicate (P.cellsOf t) none

def tslots (P : Program) (t : Nat) : List (Option Nat) := tslotsN P 8 t

/-- A value of type t as cells. -/
def conv (P : Program) (t : Nat) (x : V) : Option (List V) := cells1 (tslots P t) (flds x)

def zrow (P : Program) (t : Nat) : Option (List V) :=
  match tzero P t with
  | some zs => cells1 (tslots P t) (zs.map V.v)
  | none => none

theorem tzero_some {P : Program} {t : Nat} {zs : List Value} (h : tzero P t = some zs) : ∃ i z, P.info? t = some i ∧ i.zero = some z ∧ z.cells.toList = zs := by
  unfold tzero at h
  split at h
  · rename_i i hi
    split at h
    · rename_i z hz
      injection h with h
      exact ⟨i, z, hi, hz, h⟩
    · cases h
  · cases h

/-- A new object of one element. -/
theorem new_one {w : World} {F : Nat → Prop} {S : Sh} {H : Hp} (h : RW w F S H) {row : List V} {cells : Array Value} (T : TypeId) (hl : row.length = cells.size)
    (hr : ∀ (i : Nat) (c : V) (z : Value), row[i]? = some c → cells.toList[i]? = some z → RC0 w F c z ∧ z.oneCell' = true) :
    ∃ S', Step [] (some (.ptr H.length [] 0 0)) w F S H (.pointer (some ⟨w.heap.size, 0, none⟩)) (w.alloc (.cells cells T)) F S' (H ++ [some (row.length, [row])]) := by
  obtain ⟨g1, g2⟩ := h.new row.length [row] cells T 1 (0, 0) (by simp) (by simp) (by simp [hl]) (by simp) (fun i k hi hk => by
    obtain rfl : i = 0 := by simpa using hi
    have hk' : k < cells.toList.length := by simpa using (hl ▸ hk)
    refine ⟨cells.toList[k], by simp [hk'], ?_⟩
    have e : cellAt [row] 0 k = row[k] := by
      show row.getD k .dead = _
      exact getD_lt _ _ hk
    rw [e]
    exact (hr k _ _ (List.getElem?_eq_getElem hk) (List.getElem?_eq_getElem hk')).1)
  refine ⟨_, g1, g2, ?_, fun id p nd _ hn => new_old id p nd hn, fun b hb => Below.heap_alloc _ _ _ (h.froz b hb)⟩
  have hn : node (H ++ [some (row.length, [row])]) H.length [] = some (row.length, [row]) := by rw [node_append, if_pos rfl]; rfl
  have := mk_ptr (w := w.alloc (.cells cells T)) (F := F) (S := shAdd S H.length (some (w.heap.size, 0, 1))) (i := 0) (k := 0) (b := w.heap.size) (o := 0) (cap := 1) hn (by simp [shAdd])
  simpa using this

theorem alloc_step {P : Program} {w : World} {F : Nat → Prop} {S : Sh} {H : Hp} (h : RW w F S H) {t : Nat} {row : List V} (hz : zrow P t = some row) :
    ∃ w' S', (Instr.alloc t true (.tuple #[])).run P w = .ok (.pointer (some ⟨w.heap.size, 0, none⟩)) w' ∧ Step [] (some (.ptr H.length [] 0 0)) w F S H (.pointer (some ⟨w.heap.size, 0, none⟩)) w' F S' (H ++ [some (row.length, [row])]) := by
  unfold zrow at hz
  split at hz
  · rename_i zs hzs
    obtain ⟨i, z, h1, h2, h3⟩ := tzero_some hzs
    have hcs := cells1_sound (w := w) (F := F) (S := S) (H := H) (ys := zs) hz (by simp) (fun j c v hc hv => by
      rw [List.getElem?_map, hv] at hc
      simp only [Option.map_some, Option.some.injEq] at hc
      subst hc
      exact rfl)
    obtain ⟨S', hs⟩ := new_one h (row := row) (cells := z.cells) t (by rw [hcs.1]; simp [← h3]) (fun j c v hc hv => hcs.2 j c v hc (by rw [← h3]; exact hv))
    refine ⟨_, S', ?_, hs⟩
    simp [Instr.alloc, zeroValue, typeInfo, h1, h2, newVar, newRow]
  · cases hz

def shapeOk (x : V) : Bool := x.may?.isNone && x.tup?.isNone

theorem box_step {P : Program} {w : World} {F : Nat → Prop} {S : Sh} {H : Hp} (h : RW w F S H) {t : Nat} {x : V} {y : Value} (hv : RV w F S H x y) {row : List V} (hz : conv P t x = some row) (hsh : shapeOk x = true) (hone : x.agg? = none → y.oneCell' = true) :
    ∃ w' S', (Instr.box t y).run P w = .ok (.pointer (some ⟨w.heap.size, 0, none⟩)) w' ∧ Step [] (some (.ptr H.length [] 0 0)) w F S H (.pointer (some ⟨w.heap.size, 0, none⟩)) w' F S' (H ++ [some (row.length, [row])]) := by
  simp only [shapeOk, Bool.and_eq_true, Option.isNone_iff_eq_none] at hsh
  obtain ⟨f1, f2⟩ := flds_sound hv hsh.1 hsh.2 hone
  have hcs := cells1_sound hz f1 f2
  obtain ⟨S', hs⟩ := new_one h (row := row) (cells := y.cells) t (by rw [hcs.1, f1]; simp) hcs.2
  refine ⟨_, S', ?_, hs⟩
  simp [Instr.box, newVar, newRow]

end Go.Eng

namespace Go.Eng
open Go.RowKit
set_option linter.unusedSectionVars false
set_option linter.unusedVariables false
set_option linter.unusedSimpArgs false
variable [Globs]

theorem conv_one {P : Program} {w : World} {F : Nat → Prop} {S : Sh} {H : Hp} {t : Nat} {x : V} {y : Value} {row : List V} (hv : RV w F S H x y) (hz : conv P t x = some row) (hsh : shapeOk x = true) (ha : x.agg? = none) : y.oneCell' = true := by
  simp only [shapeOk, Bool.and_eq_true, Option.isNone_iff_eq_none] at hsh
  have h3 := RV.of3 hsh.1 hv
  unfold RV3 at h3; rw [hsh.2] at h3
  unfold RV2 at h3; rw [ha] at h3
  have e : flds x = [x] := by cases x <;> simp [V.agg?] at ha <;> rfl
  unfold conv at hz
  rw [e] at hz
  cases hs : tslots P t with
  | nil => rw [hs] at hz; simp [cells1] at hz
  | cons s ss =>
    rw [hs] at hz
    simp only [cells1] at hz
    split at hz
    · rename_i c cs h1 h2
      exact (cell1_sound h3 h1).2
    · cases hz

theorem conv_sound {P : Program} {w : World} {F : Nat → Prop} {S : Sh} {H : Hp} {t : Nat} {x : V} {y : Value} {row : List V} (hv : RV w F S H x y) (hz : conv P t x = some row) (hsh : shapeOk x = true) :
    row.length = y.cells.size ∧ ∀ (i : Nat) (c : V) (z : Value), row[i]? = some c → y.cells.toList[i]? = some z → RC0 w F c z ∧ z.oneCell' = true := by
  have hone := conv_one hv hz hsh
  have hsh' := hsh
  simp only [shapeOk, Bool.and_eq_true, Option.isNone_iff_eq_none] at hsh'
  obtain ⟨f1, f2⟩ := flds_sound hv hsh'.1 hsh'.2 hone
  have hcs := cells1_sound hz f1 f2
  exact ⟨by rw [hcs.1, f1]; simp, hcs.2⟩

def noKids (rows : Rows) (i k n : Nat) : Bool := (((rows.getD i []).drop k).take n).all fun c => c.kid.isNone

theorem noKids_cell {rows : Rows} {i k n k' : Nat} (h : noKids rows i k n = true) (h1 : k ≤ k') (h2 : k' < k + n) : (cellAt rows i k').kid = none := by
  unfold noKids at h
  unfold cellAt
  by_cases hk : k' < (rows.getD i []).length
  · rw [getD_lt _ _ hk]
    have hm : (rows.getD i [])[k'] ∈ ((rows.getD i []).drop k).take n := by
      rw [List.mem_iff_getElem?]
      refine ⟨k' - k, ?_⟩
      rw [List.getElem?_take_of_lt (by omega), List.getElem?_drop]
      rw [show k + (k' - k) = k' by omega]
      exact List.getElem?_eq_getElem hk
    have := List.all_eq_true.1 h _ hm
    simpa using this
  · rw [getD_ge _ _ (by omega)]; rfl

theorem store_step {P : Program} {w : World} {F : Nat → Prop} {S : Sh} {H : Hp} (h : RW w F S H) {t : Nat} {x : V} {y ya : Value} {id : Nat} {p : Path} {i k : Nat} {sz : Nat} {rows : Rows} {g : Bool} {n : Nat} {cs : List V}
    (ha : RV w F S H (.ptr id p i k) ya) (hv : RV w F S H x y) (hn : node H id p = some (sz, rows)) (hi : i < rows.length) (ht : tinfo P t = some (g, n)) (hc : conv P t x = some cs) (hsh : shapeOk x = true) (hl : cs.length = n) (hk : k + n ≤ sz) :
    ∃ w' S', (Instr.storeAt t ya y).run P w = .ok () w' ∧ Step (if noKids rows i k n then [] else [(id, p.length + 1)]) none w F S H undef w' F S' (putCells H id p i k cs) := by
  obtain ⟨nd, b, o, cap, h1, hs, rfl⟩ := RV_ptr ha
  rw [hn] at h1
  injection h1 with h1
  subst h1
  obtain ⟨c1, c2⟩ := conv_sound hv hc hsh
  obtain ⟨w', S', q1, q2, q3, q4, q5⟩ := RW.puts (P := P) cs y.cells.toList w S H rows k 0 b o cap h hn hi (by omega) hs (by rw [c1]; simp) c2 ⟨b, o + i * sz + k, none⟩ (by simp [Addr.add]) rfl rfl
  refine ⟨w', S', ?_, q2, q3, trivial, fun id' q nd hno hq => ?_, q5⟩
  · have : y.cells.size = n := by omega
    simp only [Instr.storeAt, Instr.sureAddr, storeVar]
    simp [run_sizeOf' ht, this, q1]
  · refine q4 id' q nd hq ?_
    rintro ⟨rfl, k', r, g1, g2, rfl⟩
    split at hno
    · rename_i hnk
      -- there is no such node
      have hcell := noKids_cell (n := n) hnk g1 (by omega)
      obtain ⟨nd0, e1, e2⟩ := node_some hq
      obtain ⟨nd1, e3, e4⟩ := node_some hn
      rw [e1] at e3
      injection e3 with e3
      injection e3 with e3
      subst e3
      rw [nodeAt_append, e4] at e2
      simp only [Option.bind_some, nodeAt_cons, hcell] at e2
      cases e2
    · exact hno ⟨_, List.mem_singleton_self _, rfl, by simp⟩

/-- An object is stored: it becomes the cell's memory. -/
theorem move_step {P : Program} {w : World} {F : Nat → Prop} {S : Sh} {H : Hp} (h : RW w F S H) {t : Nat} {y ya : Value} {id : Nat} {p : Path} {i k : Nat} {sz : Nat} {rows : Rows} {g : Bool}
    (ha : RV w F S H (.ptr id p i k) ya) (hn : node H id p = some (sz, rows)) (hi : i < rows.length) (hk : k < sz) (ht : tinfo P t = some (g, 1)) (hy : y.oneCell' = true) {id2 sz2 off n : Nat} {rows2 : Rows} {c' : V}
    (hid : id ≠ id2) (h2 : node H id2 [] = some (sz2, rows2)) (hl : off + n ≤ rows2.length)
    (hc' : (c' = .own sz2 (part rows2 off n) ∧ RV w F S H (.ref id2 [] sz2 off n) y) ∨ (c' = .box sz2 (part rows2 off n) ∧ off = 0 ∧ RV w F S H (.ptr id2 [] 0 0) y)) :
    ∃ w' S', (Instr.storeAt t ya y).run P w = .ok () w' ∧ Step ((id2, 0) :: (if noKids rows i k 1 then [] else [(id, p.length + 1)])) none w F S H undef w' F S' (updH (H.set id2 none) id p (setC · i k c')) := by
  obtain ⟨nd, b, o, cap, h1, hs, rfl⟩ := RV_ptr ha
  rw [hn] at h1
  injection h1 with h1
  subst h1
  obtain ⟨m1, m2, m3⟩ := h.moveIn (y' := y) hn hi hk hs hid h2 hl hc'
  have hrn := h.nodes id p _ hn
  have hbF := hrn.notF hs
  have hcell : ∃ v, w.cell? ⟨b, o + i * sz + k, none⟩ = some v ∧ w.frozen? ⟨b, o + i * sz + k, none⟩ = false := by
    have h9 := hrn
    unfold RN at h9
    rw [hs] at h9
    obtain ⟨f1, f2, arr, T, fr, f3, f4, f5, f6, f7⟩ := h9
    obtain ⟨v, hv, _⟩ := f7 i k hi hk
    refine ⟨v, by rw [cell?_row f3]; exact hv, ?_⟩
    have hlt : o + i * sz + k < arr.size := by
      rcases Nat.lt_or_ge (o + i * sz + k) arr.size with h | h
      · exact h
      · rw [Array.getElem?_eq_none h] at hv; cases hv
    have := f4 _ hlt
    simp only [World.frozen?, f3]
    simp only [Bool.and_eq_false_iff, decide_eq_false_iff_not]
    omega
  obtain ⟨v0, hv0, hf0⟩ := hcell
  have hcs : y.cells = #[y] := by cases y <;> simp [Value.oneCell'] at hy <;> rfl
  refine ⟨w.setCell ⟨b, o + i * sz + k, none⟩ y, _, ?_, m1, m2, trivial, fun id' q nd hno hq => ?_, fun b' hb' => ?_⟩
  · have hst : (Go.store ⟨b, o + i * sz + k, none⟩ y).run P w = .ok () (w.setCell ⟨b, o + i * sz + k, none⟩ y) := by
      rw [run_store P w _ _ _ hy, hv0, hf0]
      rfl
    simp only [Instr.storeAt, Instr.sureAddr, storeVar, hcs]
    simp [run_sizeOf' ht, storeCells, Addr.add, hst]
  · have hne2 : id' ≠ id2 := by
      rintro rfl
      exact hno ⟨(id', 0), List.mem_cons_self .., rfl, Nat.zero_le _⟩
    have hout : ¬ (id' = id ∧ ∃ r, q = p ++ (i, k) :: r) := by
      rintro ⟨rfl, r, rfl⟩
      split at hno
      · rename_i hnk
        have hcl := noKids_cell (n := 1) hnk (Nat.le_refl k) (by omega)
        obtain ⟨nd0, e1, e2⟩ := node_some hq
        obtain ⟨nd1, e3, e4⟩ := node_some hn
        rw [e1] at e3
        injection e3 with e3
        injection e3 with e3
        subst e3
        rw [nodeAt_append, e4] at e2
        simp only [Option.bind_some, nodeAt_cons, hcl] at e2
        cases e2
      · exact hno ⟨(id', p.length + 1), by simp, rfl, by simp⟩
    refine ⟨m3 id' q nd hq hout hne2, ?_⟩
    have hn' : node (H.set id2 none) id p = some (sz, rows) := by rw [node_set_none, if_neg hid]; exact hn
    have hq' : node (H.set id2 none) id' q = some nd := by rw [node_set_none, if_neg hne2]; exact hq
    exact updH_fwd (c' := c') hrn hn' hi hk hq' hout
  · simp only [World.setCell, Array.getElem?_modify]
    rw [if_neg]
    rintro rfl
    exact hbF.1 hb'

/-- Cells that may be copied: the copy and the cell stand for the same, and own nothing. -/
def V.copies : V → Bool
  | .v x => x.oneCell'
  | .fs _ _ => true
  | .fp _ _ _ _ => true
  | _ => false

theorem copies_still {c : V} (h : c.copies = true) : c.still = true := by cases c <;> simp [V.copies] at h <;> rfl

theorem copies_RC {w : World} {F : Nat → Prop} {S : Sh} {id : Nat} {p : Path} {c : V} {y : Value} (hc : c.copies = true) (h : RC w F S id p c y) : RC0 w F c y ∧ y.oneCell' = true := by
  cases c <;> simp [V.copies] at hc
  · simp only [RC] at h; subst h; exact ⟨rfl, hc⟩
  · simp only [RC] at h; exact ⟨h, by cases h <;> rfl⟩
  · simp only [RC] at h; exact ⟨h, by cases h <;> rfl⟩

theorem copies_RepF {w : World} {F : Nat → Prop} {c : V} {y : Value} (hc : c.copies = true) (h : RepF w F c y) : RC0 w F c y ∧ y.oneCell' = true := by
  cases c <;> simp [V.copies] at hc
  · cases h; exact ⟨rfl, hc⟩
  · exact ⟨h, by cases h <;> rfl⟩
  · exact ⟨h, by cases h <;> rfl⟩

def allCopies (rows : Rows) : Bool := rows.all fun r => r.all V.copies

theorem allCopies_cell {rows : Rows} (h : allCopies rows = true) {i k : Nat} (hi : i < rows.length) (hk : k < (rows.getD i []).length) : (cellAt rows i k).copies = true := by
  unfold cellAt
  rw [getD_lt _ _ hk]
  have h1 : (rows[i]).all V.copies = true := List.all_eq_true.1 h _ (List.getElem_mem hi)
  have e : rows.getD i [] = rows[i] := getD_lt _ _ hi
  have h2 := List.all_eq_true.1 h1 ((rows.getD i [])[k]) (by simp only [e]; exact List.getElem_mem _)
  exact h2

theorem allCopies_flat {rows : Rows} (h : allCopies rows = true) : flat rows = true := by
  unfold flat allCopies at *
  rw [List.all_eq_true] at h ⊢
  intro r hr
  have := h r hr
  rw [List.all_eq_true] at this ⊢
  intro c hc
  exact copies_still (this c hc)

theorem lenOf_slice {P : Program} (a : Option Addr) (n c : Nat) (w : World) : (Builtin.lenOf (.slice a n c)).run P w = .ok n w := by simp [Builtin.lenOf]

theorem src_nil {P : Program} {w : World} {F : Nat → Prop} {sz : Nat} (a : Option Addr) (c : Nat) : Src P w F sz [] (.slice a 0 c) := by
  refine ⟨[], fun w' _ => ⟨lenOf_slice _ _ _ _, fun m hm => ?_⟩, by simp, by simp, rfl, by simp⟩
  obtain rfl : m = 0 := by simpa using hm
  cases a <;> simp [Builtin.firstCells, loadCells, loadCellsFrom]

/-- The cells of a block's part, as append and copy take them. -/
theorem src_cells {P : Program} {w : World} {F : Nat → Prop} {sz : Nat} {cs : Rows} {b o cap : Nat} {arr : Array Value} {T : TypeId} {fr : Nat × Nat} (hb : w.heap[b]? = some (.cells arr T fr)) (hl : ∀ row ∈ cs, row.length = sz) (hflat : flat cs = true)
    (hc : ∀ i k, i < cs.length → k < sz → ∃ y, arr[o + i * sz + k]? = some y ∧ RC0 w F (cellAt cs i k) y ∧ y.oneCell' = true) : Src P w F sz cs (.slice (some ⟨b, o, none⟩) cs.length cap) := by
  let news := (List.range (cs.length * sz)).map fun x => (arr[o + x]?).getD undef
  have hnl : news.length = cs.length * sz := by simp [news]
  have hget : ∀ x, x < cs.length * sz → ∃ v, arr[o + x]? = some v ∧ news[x]? = some v := by
    intro x hx
    obtain ⟨i, k, hi, hk, rfl⟩ := idx_split hx
    obtain ⟨v, hv, _⟩ := hc i k hi hk
    rw [Nat.add_assoc] at hv
    exact ⟨v, hv, by simp [news, List.getElem?_map, List.getElem?_range hx, hv]⟩
  refine ⟨news, fun w' hw' => ⟨lenOf_slice _ _ _ _, fun m hm => ?_⟩, hnl, hl, hflat, fun i k hi hk => ?_⟩
  · have hml := Nat.mul_le_mul_right sz hm
    refine run_firstCells_some (P := P) w' sz m ⟨b, o, none⟩ cs.length cap (news.take (m * sz)) (by rw [List.length_take]; omega) (fun j v hj => ?_)
    have hj : news[j]? = some v := by
      rw [List.getElem?_take] at hj
      split at hj
      · exact hj
      · cases hj
    have hjl : j < cs.length * sz := by
      rcases Nat.lt_or_ge j news.length with h | h
      · omega
      · rw [List.getElem?_eq_none h] at hj; cases hj
    obtain ⟨v', h1, h2⟩ := hget j hjl
    rw [hj] at h2
    injection h2 with h2
    subst h2
    rw [add_addr, cell?_row (by rw [hw']; exact hb)]; exact h1
  · obtain ⟨v, hv, hrc, h1⟩ := hc i k hi hk
    obtain ⟨v', h2, h3⟩ := hget _ (mul_add_lt hi hk)
    rw [Nat.add_assoc, h2] at hv
    injection hv with hv
    subst hv
    exact ⟨v', h3, hrc, h1⟩

theorem src_ref {P : Program} {w : World} {F : Nat → Prop} {S : Sh} {H : Hp} (hw : RW w F S H) {id : Nat} {p : Path} {sz off n : Nat} {y : Value} (hv : RV w F S H (.ref id p sz off n) y) {rows : Rows} (hn : node H id p = some (sz, rows)) (hc : allCopies (part rows off n) = true) :
    Src P w F sz (part rows off n) y := by
  rw [RV_ref] at hv
  obtain ⟨nd, h1, h2, h3, h4⟩ := hv
  rw [hn] at h1
  injection h1 with h1
  subst h1
  simp only at h3
  have hlen := length_part h3
  have hcap := hw.cap hn
  cases hs : S id p with
  | none =>
    rw [hs] at h4 hcap
    simp only at h4 hcap
    subst hcap
    have : part ([] : Rows) off n = [] := by simp [part]
    rw [this, h4]
    exact src_nil none 0
  | some x =>
    obtain ⟨b, o, cap⟩ := x
    rw [hs] at h4 hcap
    obtain ⟨a, rfl, ha⟩ := h4
    by_cases hn0 : n = 0
    · subst hn0
      have : part rows off 0 = [] := by simp [part]
      rw [this]
      exact src_nil a _
    · have hrn := hw.nodes id p _ hn
      unfold RN at hrn
      rw [hs] at hrn
      obtain ⟨f1, f2, arr, T, fr, f3, f4, f5, f6, f7⟩ := hrn
      simp only at f1 f5 f6 f7 ha hcap
      rw [ha (by omega)]
      have := src_cells (P := P) (w := w) (F := F) (sz := sz) (cs := part rows off n) (b := b) (o := o + off * sz) (cap := cap - off) f3 (fun row hr => f6 row (List.mem_of_mem_drop (List.mem_of_mem_take hr))) (allCopies_flat hc) (fun i k hi hk => ?_)
      · rw [hlen] at this; exact this
      · rw [hlen] at hi
        obtain ⟨v, hv, hrc⟩ := f7 (off + i) k (by omega) hk
        have hcp : (cellAt (part rows off n) i k).copies = true := by
          refine allCopies_cell hc (by rw [hlen]; exact hi) ?_
          rw [getD_lt _ _ (by rw [hlen]; exact hi)]
          have hm : (part rows off n)[i]'(by rw [hlen]; exact hi) ∈ rows := List.mem_of_mem_drop (List.mem_of_mem_take (List.getElem_mem (l := part rows off n) _))
          rw [f6 _ hm]
          exact hk
        rw [cellAt_part i k hi] at hcp ⊢
        obtain ⟨g1, g2⟩ := copies_RC hcp hrc
        refine ⟨v, ?_, g1, g2⟩
        rw [← hv]; congr 1; rw [Nat.add_mul]; omega

theorem src_fs {P : Program} {w : World} {F : Nat → Prop} {sz : Nat} {rows : Rows} {y : Value} (hv : RepF w F (.fs sz rows) y) (hc : allCopies rows = true) : Src P w F sz rows y := by
  cases hv with
  | fsnil _ a cap => exact src_nil a cap
  | fs _ _ b o cap g g1 g2 g3 g4 g5 =>
    by_cases h0 : rows = [] ∨ sz = 0
    · rcases h0 with rfl | rfl
      · exact src_nil _ _
      · refine ⟨[], fun w' hw' => ⟨lenOf_slice _ _ _ _, fun m hm => by simp [Builtin.firstCells, loadCells, loadCellsFrom]⟩, by simp, fun row hr => ?_, allCopies_flat hc, fun i k hi hk => by omega⟩
        obtain ⟨j, hj⟩ := List.mem_iff_getElem?.1 hr
        exact g3 j row hj
    · -- the block is a row of cells
      obtain ⟨hr0, hs0⟩ := not_or.1 h0
      have hblk : ∃ arr T fr, w.heap[b]? = some (.cells arr T fr) := by
        have hpos : 0 < rows.length := List.length_pos_iff.2 hr0
        have hrow := List.getElem?_eq_getElem hpos
        have hlen := g3 0 _ hrow
        have hk : 0 < (rows[0]).length := by omega
        have := g4 0 0 _ _ hrow (List.getElem?_eq_getElem hk)
        unfold World.cell? at this
        simp only at this
        split at this
        · rename_i arr T fr hb
          exact ⟨arr, T, fr, hb⟩
        · cases this
      obtain ⟨arr, T, fr, hb⟩ := hblk
      refine src_cells hb (fun row hr => ?_) (allCopies_flat hc) (fun i k hi hk => ?_)
      · obtain ⟨j, hj⟩ := List.mem_iff_getElem?.1 hr
        exact g3 j row hj
      · have hrow := List.getElem?_eq_getElem hi
        have hlen := g3 i _ hrow
        have hk' : k < (rows[i]).length := by omega
        have e1 := g4 i k _ _ hrow (List.getElem?_eq_getElem hk')
        have e2 := g5 i k _ _ hrow (List.getElem?_eq_getElem hk')
        have e3 : cellAt rows i k = rows[i][k] := by
          unfold cellAt
          have e : rows.getD i [] = rows[i] := getD_lt _ _ hi
          rw [e, getD_lt _ _ hk']
        have hcp : (cellAt rows i k).copies = true := allCopies_cell hc hi (by rw [getD_lt _ _ hi]; exact hk')
        rw [cell?_row hb] at e1
        rw [e3] at hcp ⊢
        obtain ⟨q1, q2⟩ := copies_RepF hcp e2
        exact ⟨_, e1, q1, q2⟩

end Go.Eng

namespace Go.Eng
open Go.RowKit
set_option linter.unusedSectionVars false
set_option linter.unusedVariables false
set_option linter.unusedSimpArgs false
variable [Globs]

theorem foldl_set_get (off : Nat) : ∀ (vs : List Value) (j : Nat) (A : Array Value), off + j + vs.length ≤ A.size →
    let B := (vs.zipIdx j).foldl (fun (cs : Array Value) (x : Value × Nat) => cs.setIfInBounds (off + x.2) x.1) A
    B.size = A.size ∧ (∀ x, x < off + j ∨ off + j + vs.length ≤ x → B[x]? = A[x]?) ∧ ∀ x, x < vs.length → B[off + j + x]? = vs[x]?
  | [], j, A, h => ⟨rfl, fun _ _ => rfl, fun x hx => by simp at hx⟩
  | v :: vs, j, A, h => by
    simp only [List.length_cons] at h
    have ih := foldl_set_get off vs (j + 1) (A.setIfInBounds (off + j) v) (by simp; omega)
    simp only [List.zipIdx_cons, List.foldl_cons] at ih ⊢
    obtain ⟨h1, h2, h3⟩ := ih
    refine ⟨by rw [h1]; simp, fun x hx => ?_, fun x hx => ?_⟩
    · simp only [List.length_cons] at hx
      rw [h2 x (by omega), Array.getElem?_setIfInBounds_ne (by omega)]
    · cases x with
      | zero =>
        rw [h2 _ (by omega)]
        simp only [Nat.add_zero, List.getElem?_cons_zero]
        exact Array.getElem?_setIfInBounds_self_of_lt (by omega)
      | succ x =>
        have := h3 x (by simpa using hx)
        rw [List.getElem?_cons_succ, ← this]
        congr 1; omega

/-- Parts that come in order. -/
theorem fill_seq (sz : Nat) : ∀ (vs : List Value) (s : Nat) (A : Array Value), (s + vs.length) * sz ≤ A.size → (∀ v ∈ vs, v.cells.size = sz) →
    ∃ B, Instr.fill (fun i => some (i * sz, sz)) A ((vs.zipIdx s).map fun (v, i) => (i, v)) = some B ∧ B.size = A.size ∧ (∀ x, x < s * sz → B[x]? = A[x]?) ∧
      ∀ (j : Nat) (v : Value), vs[j]? = some v → ∀ k, k < sz → B[(s + j) * sz + k]? = v.cells[k]?
  | [], s, A, h, hv => ⟨A, rfl, rfl, fun _ _ => rfl, fun j v hj => by simp at hj⟩
  | v :: vs, s, A, h, hv => by
    have hsz := hv v (List.mem_cons_self ..)
    simp only [List.length_cons] at h
    have hle : s * sz + sz ≤ A.size := by
      have := Nat.mul_le_mul_right sz (show s + 1 ≤ s + (vs.length + 1) by omega)
      rw [Nat.add_mul, Nat.one_mul] at this
      omega
    have F := foldl_set_get (s * sz) v.cells.toList 0 A (by simp [hsz]; omega)
    simp only [Nat.add_zero] at F
    obtain ⟨f1, f2, f3⟩ := F
    have hzip : v.cells.zipIdx.foldl (fun (cs : Array Value) (x : Value × Nat) => cs.setIfInBounds (s * sz + x.2) x.1) A = (v.cells.toList.zipIdx 0).foldl (fun (cs : Array Value) (x : Value × Nat) => cs.setIfInBounds (s * sz + x.2) x.1) A := by
      rw [← Array.foldl_toList, Array.toList_zipIdx]
    obtain ⟨B, e1, e2, e3, e4⟩ := fill_seq sz vs (s + 1) ((v.cells.toList.zipIdx 0).foldl (fun (cs : Array Value) (x : Value × Nat) => cs.setIfInBounds (s * sz + x.2) x.1) A) (by rw [f1, show s + 1 + vs.length = s + (vs.length + 1) by omega]; exact h) (fun u hu => hv u (List.mem_cons_of_mem _ hu))
    refine ⟨B, ?_, by rw [e2, f1], fun x hx => ?_, fun j u hj k hk => ?_⟩
    · simp only [List.zipIdx_cons, List.map_cons, Instr.fill]
      rw [if_neg (by simp [hsz]; omega)]
      rw [hzip]
      exact e1
    · rw [e3 x (by rw [Nat.add_mul]; omega), f2 x (.inl (by omega))]
    · cases j with
      | zero =>
        simp only [List.getElem?_cons_zero, Option.some.injEq] at hj
        subst hj
        rw [Nat.add_zero, e3 _ (by rw [Nat.add_mul]; omega), f3 k (by simp [hsz]; exact hk)]
        simp
      | succ j =>
        rw [List.getElem?_cons_succ] at hj
        rw [show s + (j + 1) = s + 1 + j by omega]
        exact e4 j u hj k hk

/-- The operands of a literal whose parts come in order. -/
def inOrder : Nat → List (Nat × Operand) → Option (List Operand)
  | _, [] => some []
  | s, (i, x) :: r => if i = s then match inOrder (s + 1) r with | some l => some (x :: l) | none => none else none

theorem inOrder_some : ∀ {s : Nat} {l : List (Nat × Operand)} {xs : List Operand}, inOrder s l = some xs → l = (xs.zipIdx s).map fun (x, i) => (i, x)
  | _, [], xs, h => by simp only [inOrder, Option.some.injEq] at h; subst h; rfl
  | s, (i, x) :: r, xs, h => by
    simp only [inOrder] at h
    split at h
    · rename_i hi
      subst hi
      split at h
      · rename_i l hl
        injection h with h
        subst h
        rw [inOrder_some hl]
        simp
      · cases h
    · cases h

/-- The elements of a literal. -/
def litRows (P : Program) (c0 : Bool) (σ : List (Nat × V)) (e : Nat) : List Operand → Option Rows
  | [] => some []
  | x :: r => match ev c0 σ x with
    | some v => if shapeOk v then match conv P e v, litRows P c0 σ e r with
      | some row, some rows => some (row :: rows)
      | _, _ => none
      else none
    | none => none

theorem litRows_sound {P : Program} {a : Act} {w : World} {F : Nat → Prop} {S : Sh} {H : Hp} {σ : List (Nat × V)} {c0 : Bool} (h : TR a w F S H σ) (hc : c0 = true) {e sz : Nat} : ∀ {xs : List Operand} {rows : Rows}, litRows P c0 σ e xs = some rows → (∀ row ∈ rows, row.length = sz) →
    rows.length = xs.length ∧ (∀ v ∈ xs.map a.eval, v.cells.size = sz) ∧ ∀ (i : Nat) (row : List V) (y : Value), rows[i]? = some row → (xs.map a.eval)[i]? = some y → ∀ (k : Nat) (c : V) (z : Value), row[k]? = some c → y.cells.toList[k]? = some z → RC0 w F c z ∧ z.oneCell' = true
  | [], rows, hr, hl => by simp only [litRows, Option.some.injEq] at hr; subst hr; simp
  | x :: r, rows, hr, hl => by
    simp only [litRows] at hr
    split at hr
    · rename_i v hv
      split at hr
      · rename_i hsh
        split at hr
        · rename_i row rows' h1 h2
          injection hr with hr
          subst hr
          obtain ⟨g1, g2⟩ := conv_sound (ev_sound h hv hc) h1 hsh
          obtain ⟨i1, i2, i3⟩ := litRows_sound h hc h2 (fun row hr => hl row (List.mem_cons_of_mem _ hr))
          refine ⟨by simp [i1], fun u hu => ?_, fun i row' y hi hy => ?_⟩
          · rw [List.map_cons] at hu
            rcases List.mem_cons.1 hu with rfl | hu
            · rw [← g1]; exact hl row (List.mem_cons_self ..)
            · exact i2 u hu
          · cases i with
            | zero =>
              simp only [List.getElem?_cons_zero, List.map_cons, Option.some.injEq] at hi hy
              subst hi; subst hy
              exact g2
            | succ i => exact i3 i row' y (by simpa using hi) (by simpa using hy)
        · cases hr
      · cases hr
    · cases hr

theorem run_buildSlice {P : Program} {t e : Nat} {i : TypeInfo} {z : Value} (hu : P.underlying t = some (.slice e)) (hi : P.info? e = some i) (hz : i.zero = some z) (w : World) (n : Nat) (parts : Array (Nat × Value)) (B : Array Value) (hsm : n * i.size ≤ 16777216)
    (hf : Instr.fill (fun j => some (j * i.size, i.size)) ((Array.range (n * i.size)).map (fun x => (if n * i.size = 0 then (#[] : Array Value) else z.cells)[x % (if n * i.size = 0 then (#[] : Array Value) else z.cells).size]!)) parts.toList = some B) :
    (Instr.buildSlice t n parts).run P w = .ok (.slice (some ⟨w.heap.size, 0, none⟩) n n) (w.alloc (.cells B e)) := by
  have hno : ¬ (16777216 < n * i.size) := by omega
  by_cases h0 : n * i.size = 0
  · have e0 : ∀ (f : Nat → Value), Array.map f (Array.range 0) = #[] := fun f => by simp
    simp only [h0, if_true, e0] at hf
    simp only [Instr.buildSlice, Sem.run_bind, run_underlying hu, Result.andThen_ok, sizeOf, typeInfo, zeroValue, run_program, hi, Sem.run_pure, h0, if_true]
    rw [if_neg (by omega), Sem.run_bind]
    simp only [Sem.run_pure, Result.andThen_ok]
    rw [e0, hf]
    simp [newRow]
  · simp only [h0, if_false] at hf
    simp only [Instr.buildSlice, Sem.run_bind, run_underlying hu, Result.andThen_ok, sizeOf, typeInfo, zeroValue, run_program, hi, hz, Sem.run_pure, h0, if_false]
    rw [if_neg (by omega)]
    simp [hf, newRow, hi, hz]

/-- A literal's cells, in a new block. -/
theorem lit_run {P : Program} {a : Act} {w : World} {F : Nat → Prop} {S : Sh} {H : Hp} {σ : List (Nat × V)} {c0 : Bool} (h : TR a w F S H σ) (hc : c0 = true) {t e sz bytes : Nat} (ht : tslice P t = some (e, sz, bytes)) {n : Nat} {parts : Array (Nat × Operand)} {xs : List Operand} {rows : Rows}
    (hp : inOrder 0 parts.toList = some xs) (hn : xs.length = n) (hr : litRows P c0 σ e xs = some rows) (hl : ∀ row ∈ rows, row.length = sz) (hsm : n * sz ≤ 16777216) {zs : List Value} (hz : tzero P e = some zs) :
    ∃ arr, (Instr.buildSlice t n (parts.map fun (i, x) => (i, a.eval x))).run P w = .ok (.slice (some ⟨w.heap.size, 0, none⟩) n n) (w.alloc (.cells arr e)) ∧ arr.size = n * sz ∧ rows.length = n ∧
      ∀ i k, i < rows.length → k < sz → ∃ y, arr[i * sz + k]? = some y ∧ RC0 w F (cellAt rows i k) y ∧ y.oneCell' = true := by
  obtain ⟨hu, i', hi', rfl, _⟩ := tslice_some ht
  obtain ⟨i2, z, h1, h2, h3⟩ := tzero_some hz
  rw [hi'] at h1
  injection h1 with h1
  subst h1
  obtain ⟨g1, g2, g3⟩ := litRows_sound h hc hr hl
  -- the cells that are filled
  let A0 : Array Value := (Array.range (n * i'.size)).map (fun x => (if n * i'.size = 0 then (#[] : Array Value) else z.cells)[x % (if n * i'.size = 0 then (#[] : Array Value) else z.cells).size]!)
  have hA0 : A0.size = n * i'.size := by simp [A0]
  obtain ⟨B, e1, e2, e3, e4⟩ := fill_seq i'.size (xs.map a.eval) 0 A0 (by rw [hA0]; simp [hn]) g2
  have hparts : (parts.map fun (i, x) => (i, a.eval x)).toList = ((xs.map a.eval).zipIdx 0).map fun (v, i) => (i, v) := by
    rw [Array.toList_map, inOrder_some hp, List.map_map, List.zipIdx_map, List.map_map]
    rfl
  refine ⟨B, ?_, by rw [e2, hA0], by rw [g1, hn], fun i k hi hk => ?_⟩
  · exact run_buildSlice hu hi' h2 w n _ B hsm (by rw [hparts]; exact e1)
  · have hrow := List.getElem?_eq_getElem hi
    have hk' : k < (rows[i]).length := by rw [hl _ (List.getElem_mem hi)]; exact hk
    have hi2 : i < (xs.map a.eval).length := by simp; omega
    have hy := List.getElem?_eq_getElem hi2
    have hcs := g2 _ (List.getElem_mem hi2)
    have hk2 : k < ((xs.map a.eval)[i]).cells.toList.length := by rw [Array.length_toList, hcs]; exact hk
    have hc := g3 i _ _ hrow hy k _ _ (List.getElem?_eq_getElem hk') (List.getElem?_eq_getElem hk2)
    have hB := e4 i _ hy k hk
    rw [Nat.zero_add] at hB
    refine ⟨((xs.map a.eval)[i]).cells.toList[k], ?_, ?_⟩
    · rw [hB]
      rw [← Array.getElem?_toList]
      exact List.getElem?_eq_getElem hk2
    · have e : cellAt rows i k = rows[i][k] := by
        unfold cellAt
        have e0 : rows.getD i [] = rows[i] := getD_lt _ _ hi
        rw [e0, getD_lt _ _ hk']
      rw [e]
      exact hc

end Go.Eng

namespace Go.Eng
open Go.RowKit
set_option linter.unusedSectionVars false
set_option linter.unusedVariables false
set_option linter.unusedSimpArgs false
variable [Globs]

/-- What a function does: what it lets go of its arguments (0: nothing; 1: what lies below; 2: all), and its result. -/
structure Spec where
  modes : List Nat
  f : List V → Hp → Option (V × Hp)

def kdir (m : Nat) (x : V) : List (Nat × Nat) :=
  match m with
  | 0 => []
  | 1 => (refs x).map fun r => (r.1, r.2.length + 1)
  | _ => (refs x).map fun r => (r.1, 0)

def kdirs : List Nat → List V → List (Nat × Nat)
  | m :: ms, x :: xs => kdir m x ++ kdirs ms xs
  | _, _ => []

/-- A function of the program meets a specification. -/
def Meets (P : Program) (f : Nat) (sp : Spec) : Prop :=
  ∀ args H z H', sp.f args H = some (z, H') → ∀ (w : World) (F : Nat → Prop) (S : Sh) (ys : List Value), RW w F S H → GlobOk w F → ys.length = args.length →
    (∀ (i : Nat) (c : V) (y : Value), args[i]? = some c → ys[i]? = some y → RV w F S H c y) →
    Calls P f ys.toArray w fun e w' => ∃ v, e = .returned v ∧ ∃ F' S', Step (kdirs sp.modes args) (some z) w F S H v w' F' S' H'

def callable (P : Program) (f : Nat) : Bool :=
  match P.funcs[f]? with
  | some fn => fn.name != "runtime.NumGoroutine" && fn.body.isSome
  | none => false

theorem run_callFunc {P : Program} {f : Nat} (h : callable P f = true) (args : Array Value) (w : World) : (callFunc f args).run P w = .ok (.enter f args) w := by
  unfold callable at h
  split at h
  · rename_i fn hf
    simp only [Bool.and_eq_true, bne_iff_ne, ne_eq] at h
    obtain ⟨h1, h2⟩ := h
    simp [callFunc, hf, h1]
    intro hb
    rw [hb] at h2
    cases h2
  · cases h

/-- Is a literal made to be kept, or read alone? -/
def kept1 (d : Nat) (o : Oper) : Bool :=
  let is : Operand → Bool := fun x => match x with | .tmp t => t == d | _ => false
  match o.op with
  | .call { callee := .builtin .append, args, .. } => match args.toList with | x :: _ => is x | [] => false
  | .call { callee := .builtin .len, .. } => false
  | .call { callee := .builtin .copy, args, .. } => match args.toList with | x :: _ => is x | [] => false
  | .call { callee := .value _, .. } => false
  | .buildSlice _ _ _ => false
  | op => op.operands.toList.any is

def kept (ops : List Oper) (d : Option Nat) : Bool :=
  match d with
  | some d => ops.any (kept1 d)
  | none => true

/-- What is appended. -/
def srcV (c0 : Bool) (σ : List (Nat × V)) (H : Hp) (sz : Nat) (x : Operand) : Option Rows :=
  match ev c0 σ x with
  | some (.fs sz' rows) => if sz' = sz ∧ allCopies rows = true then some rows else none
  | some (.ref id p sz' off n) => match node H id p with
    | some (sz2, rows) => if sz' = sz ∧ allCopies (part rows off n) = true then some (part rows off n) else none
    | none => none
  | some (.v (.slice none 0 0)) => some []
  | _ => none

theorem srcV_sound {P : Program} {a : Act} {w : World} {F : Nat → Prop} {S : Sh} {H : Hp} {σ : List (Nat × V)} {c0 : Bool} (hw : RW w F S H) (h : TR a w F S H σ) (hc : c0 = true) {sz : Nat} {x : Operand} {cs : Rows} (he : srcV c0 σ H sz x = some cs) : Src P w F sz cs (a.eval x) := by
  unfold srcV at he
  split at he
  · rename_i sz' rows hx
    split at he
    · rename_i hcnd
      injection he with he; subst he
      obtain ⟨rfl, hcp⟩ := hcnd
      exact src_fs (ev_sound h hx hc) hcp
    · cases he
  · rename_i id p sz' off n hx
    split at he
    · rename_i sz2 rows hn
      split at he
      · rename_i hcnd
        injection he with he; subst he
        obtain ⟨rfl, hcp⟩ := hcnd
        have hv := ev_sound h hx hc
        have : sz2 = sz' := by
          rw [RV_ref] at hv
          obtain ⟨nd, h1, h2, _⟩ := hv
          rw [hn] at h1
          injection h1 with h1
          subst h1
          exact h2
        subst this
        exact src_ref hw hv hn hcp
      · cases he
    · cases he
  · rename_i hx
    injection he with he; subst he
    rw [show a.eval x = .slice none 0 0 from plain_sound (ev_sound h hx hc) rfl]
    exact src_nil none 0
  · cases he

abbrev Eff := List (Nat × Nat) × Option V × Hp

def appendE (P : Program) (c0 : Bool) (σ : List (Nat × V)) (H : Hp) (t u : Nat) (s x : Operand) : Option Eff :=
  match tslice P t, tslice P u with
  | some (e, sz, bytes), some _ => match tzero P e, srcV c0 σ H sz x, ev c0 σ s with
    | some zs, some cs, some (.v (.slice none 0 0)) =>
      if zs.length = sz ∧ bytes ≠ 0 ∧ cs.length * bytes ≤ 140737488355328 then some ([], some (.ref H.length [] sz 0 cs.length), H ++ [some (sz, cs)]) else none
    | some zs, some cs, some (.ref id [] sz' 0 n) => match node H id [] with
      | some (sz2, rows) => if zs.length = sz ∧ bytes ≠ 0 ∧ sz' = sz ∧ n = rows.length ∧ (rows.length + cs.length) * bytes ≤ 140737488355328 then
          some ([(id, 0)], some (.ref id [] sz 0 (rows.length + cs.length)), H.set id (some (sz, rows ++ cs))) else none
      | none => none
    | _, _, _ => none
  | _, _ => none

/-- The string of a slice's bytes. -/
def b2s (P : Program) (c0 : Bool) (σ : List (Nat × V)) (H : Hp) (s d : Nat) (x : Operand) : Option V :=
  match P.underlying s, P.underlying d with
  | some (.slice e), some .string => match P.underlying e with
    | some (.int .u8) => match srcV c0 σ H 1 x with
      | some cs => match unI .u8 cs with
        | some ns => some (.v (.string (ns.foldl (fun r n => r.push (UInt8.ofNat n.toNat)) ByteArray.empty)))
        | none => none
      | none => none
    | _ => none
  | _, _ => none

theorem srcV_slice {c0 : Bool} {σ : List (Nat × V)} {H : Hp} {sz : Nat} {x : Operand} {cs : Rows} {a : Act} {w : World} {F : Nat → Prop} {S : Sh} (hw : RW w F S H) (h : TR a w F S H σ) (hc : c0 = true) (he : srcV c0 σ H sz x = some cs) : ∃ aa n c, a.eval x = .slice aa n c := by
  unfold srcV at he
  split at he
  · rename_i sz' rows hx
    exact isSl_sound hw (ev_sound h hx hc) rfl
  · rename_i id p sz' off n hx
    exact isSl_sound hw (ev_sound h hx hc) rfl
  · rename_i hx
    exact ⟨_, _, _, plain_sound (ev_sound h hx hc) rfl⟩
  · cases he

theorem b2s_sound {P : Program} {a : Act} {w : World} {F : Nat → Prop} {S : Sh} {H : Hp} {σ : List (Nat × V)} {c0 : Bool} (hw : RW w F S H) (h : TR a w F S H σ) (hc : c0 = true) {s d : Nat} {x : Operand} {z : V} (he : b2s P c0 σ H s d x = some z) :
    ∃ y, (convert s d (a.eval x)).run P w = .ok y w ∧ RV w F S H z y := by
  unfold b2s at he
  split at he
  case h_2 => cases he
  rename_i e hs hd
  split at he
  case h_2 => cases he
  rename_i hee
  split at he
  case h_2 => cases he
  rename_i cs hsrc
  split at he
  case h_2 => cases he
  rename_i ns hns
  injection he with he
  subst he
  have hrows := unI_eq hns
  obtain ⟨aa, n, c, hy⟩ := srcV_slice hw h hc hsrc
  have hS := srcV_sound (P := P) hw h hc hsrc
  rw [hy] at hS ⊢
  rw [run_convert_bytes_string w s d e aa n c hs hee hd]
  obtain ⟨news, hrun, hnl, _, _, _, hcell⟩ := hS.one
  obtain ⟨r1, r2⟩ := hrun w rfl
  have hlen : n = cs.length := by
    cases aa <;> simpa [Builtin.lenOf] using r1
  have hl2 : cs.length = ns.length := by rw [hrows]; simp
  have hnews : news = ns.map (Value.int .u8) := by
    apply List.ext_getElem?
    intro i
    by_cases hi : i < cs.length
    · obtain ⟨v, g1, g2⟩ := hcell i 0 hi (by omega)
      rw [Nat.mul_one, Nat.add_zero] at g1
      have hin : i < ns.length := by omega
      have e : cellAt cs i 0 = .v (.int .u8 ns[i]) := by
        subst hrows
        simp [cellAt, hin, row1]
      rw [e] at g2
      have : v = .int .u8 ns[i] := g2
      rw [g1, this]
      simp [hin]
    · rw [List.getElem?_eq_none (by omega), List.getElem?_eq_none (by simp; omega)]
  cases aa with
  | none =>
    simp only [Builtin.firstCells, Sem.run_pure] at r2
    have hn0 : news = [] := by
      injection r2 with r2
      simpa using r2.symm
    have : ns = [] := by
      rw [hn0] at hnews
      simpa using hnews.symm
    subst this
    exact ⟨_, rfl, rfl⟩
  | some b =>
    simp only [Builtin.firstCells, Nat.mul_one] at r2
    rw [← hlen, hnews] at r2
    exact ⟨_, run_bytesToString w b n c ns r2, rfl⟩

def evs (c0 : Bool) (σ : List (Nat × V)) : List Operand → Option (List V)
  | [] => some []
  | x :: r => match ev c0 σ x, evs c0 σ r with
    | some y, some l => some (y :: l)
    | _, _ => none

theorem evs_sound {a : Act} {w : World} {F : Nat → Prop} {S : Sh} {H : Hp} {σ : List (Nat × V)} {c0 : Bool} (h : TR a w F S H σ) (hc : c0 = true) : ∀ {l : List Operand} {xs : List V}, evs c0 σ l = some xs →
    (l.map a.eval).length = xs.length ∧ ∀ (i : Nat) (c : V) (y : Value), xs[i]? = some c → (l.map a.eval)[i]? = some y → RV w F S H c y
  | [], xs, he => by simp only [evs, Option.some.injEq] at he; subst he; simp
  | x :: r, xs, he => by
    simp only [evs] at he
    split at he
    · rename_i y l h1 h2
      injection he with he
      subst he
      obtain ⟨g1, g2⟩ := evs_sound h hc h2
      refine ⟨by simpa using g1, fun i c z hcc hz => ?_⟩
      cases i with
      | zero =>
        simp only [List.getElem?_cons_zero, List.map_cons, Option.some.injEq] at hcc hz
        subst hcc; subst hz
        exact ev_sound h h1 hc
      | succ i => exact g2 i c z (by simpa using hcc) (by simpa using hz)
    · cases he

def callE (P : Program) (sp : Nat → Option Spec) (c0 : Bool) (σ : List (Nat × V)) (H : Hp) (f : Nat) (args : List V) : Option Eff :=
  match sp f with
  | some s => if callable P f = true then match s.f args H with
    | some (z, H') => some (kdirs s.modes args, some z, H')
    | none => none
    else none
  | none => none

/-- A whole object is stored into a cell: it becomes the cell's memory. -/
def moveE (P : Program) (H : Hp) (t : Nat) (id : Nat) (p : Path) (i k : Nat) (x : V) : Option Eff :=
  match x with
  | .ref id2 [] sz2 off n => match tinfo P t, node H id p, node H id2 [] with
    | some (_, 1), some (sz, rows), some (sz3, rows2) => if id ≠ id2 ∧ sz3 = sz2 ∧ i < rows.length ∧ k < sz ∧ off + n ≤ rows2.length then
        some ((id2, 0) :: (if noKids rows i k 1 then [] else [(id, p.length + 1)]), none, updH (H.set id2 none) id p (setC · i k (.own sz2 (part rows2 off n)))) else none
    | _, _, _ => none
  | .ptr id2 [] 0 0 => match tinfo P t, node H id p, node H id2 [] with
    | some (_, 1), some (sz, rows), some (sz3, rows2) => if id ≠ id2 ∧ i < rows.length ∧ k < sz then
        some ((id2, 0) :: (if noKids rows i k 1 then [] else [(id, p.length + 1)]), none, updH (H.set id2 none) id p (setC · i k (.box sz3 (part rows2 0 rows2.length)))) else none
    | _, _, _ => none
  | _ => none

theorem moveE_sound {P : Program} {w : World} {F : Nat → Prop} {S : Sh} {H : Hp} (h : RW w F S H) {t : Nat} {x : V} {y ya : Value} {id : Nat} {p : Path} {i k : Nat} {ks : List (Nat × Nat)} {z : Option V} {H' : Hp}
    (ha : RV w F S H (.ptr id p i k) ya) (hx : RV w F S H x y) (he : moveE P H t id p i k x = some (ks, z, H')) : z = none ∧ ∃ w' S', (Instr.storeAt t ya y).run P w = .ok () w' ∧ Step ks none w F S H undef w' F S' H' := by
  unfold moveE at he
  split at he
  · rename_i id2 sz2 off n
    split at he
    · rename_i g sz rows sz3 rows2 ht hn h2
      split at he
      · rename_i hcnd
        obtain ⟨c1, rfl, c3, c4, c5⟩ := hcnd
        simp only [Option.some.injEq, Prod.mk.injEq] at he
        obtain ⟨rfl, rfl, rfl⟩ := he
        obtain ⟨aa, m, c, rfl⟩ := isSl_sound h hx rfl
        exact ⟨rfl, move_step h ha hn c3 c4 ht rfl c1 h2 c5 (.inl ⟨rfl, hx⟩)⟩
      · cases he
    · cases he
  · rename_i id2
    split at he
    · rename_i g sz rows sz3 rows2 ht hn h2
      split at he
      · rename_i hcnd
        obtain ⟨c1, c3, c4⟩ := hcnd
        simp only [Option.some.injEq, Prod.mk.injEq] at he
        obtain ⟨rfl, rfl, rfl⟩ := he
        obtain ⟨_, _, _, _, _, _, hy⟩ := RV_ptr hx
        exact ⟨rfl, move_step h ha hn c3 c4 ht (by rw [hy]; rfl) c1 h2 (by omega) (.inr ⟨rfl, rfl, hx⟩)⟩
      · cases he
    · cases he
  · cases he

end Go.Eng

namespace Go.Eng
open Go.RowKit
set_option linter.unusedSectionVars false
set_option linter.unusedVariables false
set_option linter.unusedSimpArgs false
variable [Globs]

theorem setC_setC (rows : Rows) (i k : Nat) (c c' : V) (hi : i < rows.length) (hk : k < (rows.getD i []).length) : setC (setC rows i k c) i k c' = setC rows i k c' := by
  unfold setC
  have e : (rows.set i ((rows.getD i []).set k c)).getD i [] = (rows.getD i []).set k c := by
    rw [List.getD_eq_getElem?_getD, List.getElem?_set_self hi]; rfl
  rw [e, List.set_set, List.set_set]

theorem cellAt_in {rows : Rows} {i k : Nat} {nd : Nat × Rows} (h : (cellAt rows i k).kid = some nd) : i < rows.length ∧ k < (rows.getD i []).length := by
  unfold cellAt at h
  have hk : k < (rows.getD i []).length := by
    rcases Nat.lt_or_ge k (rows.getD i []).length with h1 | h1
    · exact h1
    · rw [getD_ge _ _ h1] at h; cases h
  refine ⟨?_, hk⟩
  rcases Nat.lt_or_ge i rows.length with h1 | h1
  · exact h1
  · rw [getD_ge _ _ h1] at hk; simp at hk

theorem updRows_congr : ∀ (p : Path) (rows : Rows) (sz sz' : Nat) (r : Rows) (f g : Rows → Rows), nodeAt (sz, rows) p = some (sz', r) → f r = g r → updRows rows p f = updRows rows p g
  | [], rows, sz, sz', r, f, g, h, e => by
    simp only [nodeAt, Option.some.injEq, Prod.mk.injEq] at h
    simp only [updRows, h.2, e]
  | s :: p, rows, sz, sz', r, f, g, h, e => by
    simp only [nodeAt] at h
    simp only [updRows]
    cases hc : cellAt rows s.1 s.2 <;> rw [hc] at h <;> simp only [V.kid] at h <;> try (first | rfl | cases h)
    · simp only [updRows_congr p _ _ _ _ f g h e]
    · simp only [updRows_congr p _ _ _ _ f g h e]

theorem updRows_comp : ∀ (p : Path) (rows : Rows) (sz sz' : Nat) (r : Rows) (f g : Rows → Rows), nodeAt (sz, rows) p = some (sz', r) → updRows (updRows rows p f) p g = updRows rows p (fun x => g (f x))
  | [], rows, sz, sz', r, f, g, h => rfl
  | s :: p, rows, sz, sz', r, f, g, h => by
    simp only [nodeAt] at h
    simp only [updRows]
    cases hk : (cellAt rows s.1 s.2).kid with
    | none => rw [hk] at h; cases h
    | some nd =>
      obtain ⟨hi, hk2⟩ := cellAt_in hk
      rw [cellAt_setC _ _ _ _ hi hk2, if_pos ⟨rfl, rfl⟩, setC_setC _ _ _ _ _ hi hk2]
      cases hc : cellAt rows s.1 s.2 <;> rw [hc] at h <;> simp only [V.kid] at h <;> try (cases h)
      · simp only [updRows_comp p _ _ _ _ f g h]
      · simp only [updRows_comp p _ _ _ _ f g h]

theorem updH_congr {H : Hp} {id : Nat} {p : Path} {sz' : Nat} {r : Rows} {f g : Rows → Rows} (h : node H id p = some (sz', r)) (e : f r = g r) : updH H id p f = updH H id p g := by
  obtain ⟨⟨sz, rows⟩, h0, h1⟩ := node_some h
  unfold updH
  rw [h0]
  simp only [updRows_congr p rows sz sz' r f g h1 e]

theorem updH_comp {H : Hp} {id : Nat} {p : Path} {sz' : Nat} {r : Rows} {f g : Rows → Rows} (h : node H id p = some (sz', r)) : updH (updH H id p f) id p g = updH H id p (fun x => g (f x)) := by
  obtain ⟨⟨sz, rows⟩, h0, h1⟩ := node_some h
  have hlt := node_lt h
  unfold updH
  rw [h0]
  simp only [List.getElem?_set_self hlt, List.set_set]
  rw [updRows_comp p rows sz sz' r f g h1]

def setCells (i : Nat) : Nat → List V → Rows → Rows
  | _, [], rows => rows
  | k, c :: cs, rows => setCells i (k + 1) cs (setC rows i k c)

theorem updRows_id : ∀ (p : Path) (rows : Rows) (sz sz' : Nat) (r : Rows), nodeAt (sz, rows) p = some (sz', r) → updRows rows p (fun x => x) = rows
  | [], rows, sz, sz', r, h => rfl
  | s :: p, rows, sz, sz', r, h => by
    simp only [nodeAt] at h
    simp only [updRows]
    have key : ∀ c, cellAt rows s.1 s.2 = c → setC rows s.1 s.2 c = rows := by
      intro c hc
      unfold setC
      cases hk : (cellAt rows s.1 s.2).kid with
      | none => rw [hk] at h; cases h
      | some nd =>
        obtain ⟨hi, hk2⟩ := cellAt_in hk
        subst hc
        unfold cellAt
        have e2 : (rows.getD s.1 []).getD s.2 .dead = (rows.getD s.1 [])[s.2] := getD_lt _ _ hk2
        rw [e2, List.set_getElem_self]
        have e : rows.getD s.1 [] = rows[s.1] := getD_lt _ _ hi
        rw [e, List.set_getElem_self]
    cases hc : cellAt rows s.1 s.2 <;> rw [hc] at h <;> simp only [V.kid] at h <;> try (cases h)
    · simp only [updRows_id p _ _ _ _ h]; exact key _ hc
    · simp only [updRows_id p _ _ _ _ h]; exact key _ hc

theorem updH_id {H : Hp} {id : Nat} {p : Path} {nd : Nat × Rows} (h : node H id p = some nd) : updH H id p (fun x => x) = H := by
  obtain ⟨sz', r⟩ := nd
  obtain ⟨⟨sz, rows⟩, h0, h1⟩ := node_some h
  have hlt := node_lt h
  unfold updH
  rw [h0]
  simp only [updRows_id p rows sz sz' r h1]
  have : H[id] = some (sz, rows) := by rw [List.getElem?_eq_getElem hlt] at h0; exact Option.some.inj h0
  rw [← this, List.set_getElem_self]

/-- Some rows become others. -/
def ovr (off : Nat) (cs : Rows) (rows : Rows) : Rows := rows.take off ++ cs ++ rows.drop (off + cs.length)

theorem storeCells_append {P : Program} (A : Addr) : ∀ (xs ys : List Value) (j : Nat) (w : World), (storeCells A (xs ++ ys) j).run P w = (storeCells A xs j >>= fun _ => storeCells A ys (j + xs.length)).run P w
  | [], ys, j, w => by simp [storeCells, Sem.run_bind]
  | x :: xs, ys, j, w => by
    simp only [List.cons_append, storeCells, Sem.run_bind, List.length_cons]
    cases h : (Go.store (A.add j) x).run P w with
    | ok u w1 =>
      simp only [Result.andThen]
      rw [storeCells_append A xs ys (j + 1) w1]
      simp only [Sem.run_bind]
      rw [show j + 1 + xs.length = j + (xs.length + 1) by omega]
      rfl
    | _ => rfl

/-- The node itself behind a store. -/
theorem node_updH_self {H : Hp} {id : Nat} {p : Path} {sz' : Nat} {r : Rows} {f : Rows → Rows} (h : node H id p = some (sz', r)) : node (updH H id p f) id p = some (sz', f r) := by
  obtain ⟨⟨sz, rows⟩, h0, h1⟩ := node_some h
  rw [node_updH h0, if_pos rfl]
  clear h h0
  induction p generalizing sz rows with
  | nil => simp only [nodeAt, Option.some.injEq, Prod.mk.injEq] at h1; simp [nodeAt, updRows, h1.1, h1.2]
  | cons s p ih =>
    simp only [nodeAt] at h1
    cases hk : (cellAt rows s.1 s.2).kid with
    | none => rw [hk] at h1; cases h1
    | some nd =>
      obtain ⟨hi, hk2⟩ := cellAt_in hk
      simp only [nodeAt, updRows]
      rw [cellAt_setC _ _ _ _ hi hk2, if_pos ⟨rfl, rfl⟩]
      cases hc : cellAt rows s.1 s.2 <;> rw [hc] at h1 <;> simp only [V.kid] at h1 <;> try (cases h1)
      · simp only [V.kid]; exact ih _ _ h1
      · simp only [V.kid]; exact ih _ _ h1

theorem putCells_upd : ∀ (cs : List V) (H : Hp) (id : Nat) (p : Path) (i k sz : Nat) (r : Rows), node H id p = some (sz, r) → putCells H id p i k cs = updH H id p (setCells i k cs)
  | [], H, id, p, i, k, sz, r, h => by
    show H = updH H id p (fun rows => rows)
    rw [updH_id h]
  | c :: cs, H, id, p, i, k, sz, r, h => by
    simp only [putCells]
    rw [putCells_upd cs _ id p i (k + 1) sz _ (node_updH_self h), updH_comp h]
    rfl

theorem setCells_eq : ∀ (cs : List V) (i k : Nat) (rows : Rows), i < rows.length → k + cs.length ≤ (rows.getD i []).length → setCells i k cs rows = rows.set i ((rows.getD i []).take k ++ cs ++ (rows.getD i []).drop (k + cs.length))
  | [], i, k, rows, hi, hk => by
    simp only [setCells, List.append_nil, List.length_nil, Nat.add_zero, List.take_append_drop]
    have e : rows.getD i [] = rows[i] := getD_lt _ _ hi
    rw [e, List.set_getElem_self]
  | c :: cs, i, k, rows, hi, hk => by
    simp only [List.length_cons] at hk
    simp only [setCells]
    have e : (setC rows i k c).getD i [] = (rows.getD i []).set k c := by
      unfold setC
      rw [List.getD_eq_getElem?_getD, List.getElem?_set_self hi]; rfl
    rw [setCells_eq cs i (k + 1) _ (by rw [length_setC]; exact hi) (by rw [e, List.length_set]; omega), e]
    unfold setC
    rw [List.set_set]
    congr 1
    simp only [List.length_cons]
    generalize rows.getD i [] = l at *
    apply List.ext_getElem?
    intro j
    simp only [List.getElem?_append, List.length_take, List.length_append, List.getElem?_take, List.getElem?_set, List.getElem?_drop, List.length_set, List.length_cons]
    by_cases h1 : j < k
    · have h3 : j < k + 1 := by omega
      have h4 : j < min (k + 1) l.length := by omega
      have h5 : j < min k l.length := by omega
      have h6 : j < min (k + 1) l.length + cs.length := by omega
      have h7 : j < min k l.length + (cs.length + 1) := by omega
      have h8 : ¬ k = j := by omega
      simp [h1, h3, h4, h5, h6, h7, h8]
    · by_cases h2 : j = k
      · subst h2
        have h4 : j < min (j + 1) l.length := by omega
        have h5 : ¬ j < min j l.length := by omega
        have h6 : j < min (j + 1) l.length + cs.length := by omega
        have h7 : j < min j l.length + (cs.length + 1) := by omega
        have h8 : j - min j l.length = 0 := by omega
        have h9 : j < l.length := by omega
        simp [h4, h5, h6, h7, h8, h9]
      · have h4 : ¬ j < min (k + 1) l.length := by omega
        have h5 : ¬ j < min k l.length := by omega
        by_cases h3 : j < k + 1 + cs.length
        · have h6 : j < min (k + 1) l.length + cs.length := by omega
          have h7 : j < min k l.length + (cs.length + 1) := by omega
          have h8 : j - min k l.length = (j - min (k + 1) l.length) + 1 := by omega
          simp [h4, h5, h6, h7, h8]
        · have h6 : ¬ j < min (k + 1) l.length + cs.length := by omega
          have h7 : ¬ j < min k l.length + (cs.length + 1) := by omega
          have h9 : ¬ k = k + 1 + cs.length + (j - (min (k + 1) l.length + cs.length)) := by omega
          simp only [h4, h5, h6, h7, h9, if_false]
          congr 1
          omega

def putRows (H : Hp) (id : Nat) (p : Path) : Nat → Rows → Hp
  | _, [] => H
  | i, r :: rs => putRows (putCells H id p i 0 r) id p (i + 1) rs

theorem putRows_eq : ∀ (cs : Rows) (H : Hp) (id : Nat) (p : Path) (i sz : Nat) (r : Rows), node H id p = some (sz, r) → (∀ row ∈ r, row.length = sz) → (∀ row ∈ cs, row.length = sz) → i + cs.length ≤ r.length → putRows H id p i cs = updH H id p (ovr i cs)
  | [], H, id, p, i, sz, r, h, h1, h2, h3 => by
    have : ovr i [] = fun rows => rows := by funext rows; simp [ovr]
    rw [this, updH_id h]; rfl
  | c :: cs, H, id, p, i, sz, r, h, h1, h2, h3 => by
    simp only [List.length_cons] at h3
    simp only [putRows]
    have hi : i < r.length := by omega
    have e : r.getD i [] = r[i] := getD_lt _ _ hi
    have hl : (r.getD i []).length = sz := by rw [e]; exact h1 _ (List.getElem_mem hi)
    have hcl : c.length = sz := h2 c (by simp)
    have hset : setCells i 0 c r = r.set i c := by
      rw [setCells_eq c i 0 r hi (by omega), List.take_zero, List.nil_append, Nat.zero_add, List.drop_of_length_le (by omega), List.append_nil]
    have e1 : putCells H id p i 0 c = updH H id p (fun rows => rows.set i c) := by
      rw [putCells_upd c H id p i 0 sz r h]
      exact updH_congr h hset
    have hn1 : node (putCells H id p i 0 c) id p = some (sz, r.set i c) := by rw [e1]; exact node_updH_self h
    rw [putRows_eq cs _ id p (i + 1) sz _ hn1 (fun row hr => ?_) (fun row hr => h2 row (by simp [hr])) (by simp; omega), e1, updH_comp h]
    · refine updH_congr h ?_
      simp only [ovr, List.length_cons]
      apply List.ext_getElem?
      intro j
      simp only [List.getElem?_append, List.length_take, List.length_append, List.getElem?_take, List.getElem?_set, List.getElem?_drop, List.length_set, List.length_cons]
      by_cases h4 : j < i
      · have g1 : j < i + 1 := by omega
        have g2 : j < min (i + 1) r.length := by omega
        have g3 : j < min i r.length := by omega
        have g4 : j < min (i + 1) r.length + cs.length := by omega
        have g5 : j < min i r.length + (cs.length + 1) := by omega
        have g6 : ¬ i = j := by omega
        simp [h4, g1, g2, g3, g4, g5, g6]
      · by_cases h5 : j = i
        · subst h5
          have g2 : j < min (j + 1) r.length := by omega
          have g3 : ¬ j < min j r.length := by omega
          have g4 : j < min (j + 1) r.length + cs.length := by omega
          have g5 : j < min j r.length + (cs.length + 1) := by omega
          have g6 : j - min j r.length = 0 := by omega
          simp [g2, g3, g4, g5, g6, hi]
        · have g2 : ¬ j < min (i + 1) r.length := by omega
          have g3 : ¬ j < min i r.length := by omega
          by_cases h6 : j < i + 1 + cs.length
          · have g4 : j < min (i + 1) r.length + cs.length := by omega
            have g5 : j < min i r.length + (cs.length + 1) := by omega
            have g6 : j - min i r.length = (j - min (i + 1) r.length) + 1 := by omega
            simp [g2, g3, g4, g5, g6]
          · have g4 : ¬ j < min (i + 1) r.length + cs.length := by omega
            have g5 : ¬ j < min i r.length + (cs.length + 1) := by omega
            have g6 : ¬ i = i + 1 + cs.length + (j - (min (i + 1) r.length + cs.length)) := by omega
            simp only [g2, g3, g4, g5, g6, if_false]
            congr 1
            omega
    · rcases List.mem_or_eq_of_mem_set hr with h4 | h4
      · exact h1 row h4
      · rw [h4]; exact hcl

theorem RW.putRows {P : Program} {F : Nat → Prop} {id : Nat} {p : Path} {sz : Nat} : ∀ (cs : Rows) (ys : List Value) (w : World) (S : Sh) (H : Hp) (r1 : Rows) (i j : Nat) (b o cap : Nat),
    RW w F S H → node H id p = some (sz, r1) → i + cs.length ≤ r1.length → S id p = some (b, o, cap) → (∀ row ∈ cs, row.length = sz) → ys.length = cs.length * sz →
    (∀ a k, a < cs.length → k < sz → ∃ v, ys[a * sz + k]? = some v ∧ RC0 w F (cellAt cs a k) v ∧ v.oneCell' = true) →
    ∀ (A : Addr), A.add j = ⟨b, o + i * sz, none⟩ → A.block = b → A.spot = none →
    ∃ w' S', (storeCells A ys j).run P w = .ok () w' ∧ RW w' F S' (putRows H id p i cs) ∧ Stp w F S H w' F S' (putRows H id p i cs) ∧
      (∀ id' q nd, node H id' q = some nd → ¬ (id' = id ∧ ∃ a k r, i ≤ a ∧ a < i + cs.length ∧ k < sz ∧ q = p ++ (a, k) :: r) → S' id' q = S id' q ∧ ∃ nd', node (putRows H id p i cs) id' q = some nd' ∧ nd'.1 = nd.1 ∧ nd'.2.length = nd.2.length) ∧
      (∀ b', F b' → w'.heap[b']? = w.heap[b']?)
  | [], ys, w, S, H, r1, i, j, b, o, cap, h, hn, hi, hs, hr, hl, hc, A, hA, hb, hsp => by
    have : ys = [] := List.length_eq_zero_iff.1 (by simpa using hl)
    subst this
    exact ⟨w, S, by simp [storeCells], h, Stp.refl .., fun id' q nd hq _ => ⟨rfl, nd, hq, rfl, rfl⟩, fun _ _ => rfl⟩
  | c :: cs, ys, w, S, H, r1, i, j, b, o, cap, h, hn, hi, hs, hr, hl, hc, A, hA, hb, hsp => by
    simp only [List.length_cons] at hi hl
    have hcl : c.length = sz := hr c (by simp)
    have hl2 : ys.length = cs.length * sz + sz := by rw [hl, Nat.add_mul, Nat.one_mul]
    have hsplit : ys = ys.take sz ++ ys.drop sz := (List.take_append_drop sz ys).symm
    have hA0 : A.add j = ⟨b, o + i * sz + 0, none⟩ := by rw [hA, Nat.add_zero]
    have hcell0 : ∀ a k, cellAt (c :: cs) (a + 1) k = cellAt cs a k := by intro a k; simp [cellAt]
    have hcell1 : ∀ k, cellAt (c :: cs) 0 k = c.getD k .dead := by intro k; simp [cellAt]
    obtain ⟨w1, S1, g1, g2, g3, g4, g5⟩ := RW.puts (P := P) c (ys.take sz) w S H r1 0 j b o cap h hn (show i < r1.length by omega) (by omega) hs (by rw [List.length_take]; omega)
      (fun k c' z hc' hz => by
        have hk : k < c.length := by
          rcases Nat.lt_or_ge k c.length with h1 | h1
          · exact h1
          · rw [List.getElem?_eq_none h1] at hc'; cases hc'
        obtain ⟨v, e1, e2, e3⟩ := hc 0 k (by simp) (by omega)
        rw [Nat.zero_mul, Nat.zero_add] at e1
        rw [List.getElem?_take_of_lt (by omega), e1] at hz
        injection hz with hz
        subst hz
        rw [hcell1, List.getD_eq_getElem?_getD, hc'] at e2
        exact ⟨e2, e3⟩) A hA0 hb hsp
    have hne : ¬ (id = id ∧ ∃ k' r, 0 ≤ k' ∧ k' < 0 + c.length ∧ p = p ++ (i, k') :: r) := by
      rintro ⟨_, k', r, _, _, hr⟩
      have := congrArg List.length hr
      simp at this
    obtain ⟨k1, nd1, k2, k3, k4⟩ := g4 id p _ hn hne
    obtain ⟨sz1, r2⟩ := nd1
    simp only at k3 k4
    subst k3
    have hA1 : A.add (j + (ys.take sz1).length) = ⟨b, o + (i + 1) * sz1, none⟩ := by
      obtain ⟨ab, ao, as⟩ := A
      simp only at hb hsp
      subst hb; subst hsp
      rw [add_addr] at hA ⊢
      injection hA with _ hA _
      congr 1
      rw [List.length_take, Nat.add_mul]
      omega
    obtain ⟨w2, S2, m1, m2, m3, m4, m5⟩ := RW.putRows (P := P) cs (ys.drop sz1) w1 S1 (putCells H id p i 0 c) r2 (i + 1) (j + (ys.take sz1).length) b o cap g2 k2 (by omega) (by rw [k1]; exact hs) (fun row hrow => hr row (by simp [hrow])) (by rw [List.length_drop]; omega)
      (fun a k ha hk => by
        obtain ⟨v, e1, e2, e3⟩ := hc (a + 1) k (by simp; omega) hk
        rw [hcell0] at e2
        refine ⟨v, ?_, e2.mono g5 (fun _ x => x), e3⟩
        rw [List.getElem?_drop, ← e1]
        congr 1
        rw [Nat.add_mul]; omega) A hA1 hb hsp
    refine ⟨w2, S2, ?_, m2, g3.trans m3, fun id' q nd hq hno => ?_, fun b' hb' => (m5 b' hb').trans (g5 b' hb')⟩
    · rw [hsplit, storeCells_append, Sem.run_bind, g1]
      exact m1
    · have n1 : ¬ (id' = id ∧ ∃ k' r, 0 ≤ k' ∧ k' < 0 + c.length ∧ q = p ++ (i, k') :: r) := by
        rintro ⟨e, k', r, _, h2, h3⟩
        exact hno ⟨e, i, k', r, Nat.le_refl _, by simp, by omega, h3⟩
      obtain ⟨a1, nd', a2, a3, a4⟩ := g4 id' q nd hq n1
      have n2 : ¬ (id' = id ∧ ∃ a k r, i + 1 ≤ a ∧ a < i + 1 + cs.length ∧ k < sz1 ∧ q = p ++ (a, k) :: r) := by
        rintro ⟨e, a, k', r, h1, h2, h3, h4⟩
        exact hno ⟨e, a, k', r, by omega, by simp only [List.length_cons]; omega, h3, h4⟩
      obtain ⟨b1, nd'', b2, b3, b4⟩ := m4 id' q nd' a2 n2
      exact ⟨b1.trans a1, nd'', b2, by omega, by omega⟩

/-- What copy does: its destination is a part of an object. -/
def copyE (P : Program) (c0 : Bool) (σ : List (Nat × V)) (H : Hp) (t : Nat) (d x : Operand) : Option Eff :=
  match tslice P t, ev c0 σ d with
  | some (e, sz, _), some (.ref id p sz' off n) => match node H id p, srcV c0 σ H sz x with
    | some (sz2, rows), some cs => if sz' = sz ∧ off + n ≤ rows.length then
        some ((if allCopies (part rows off (min cs.length n)) then [] else [(id, p.length + 1)]), some (.v (.int .i64 (min cs.length n : Nat))), updH H id p (ovr off (cs.take n))) else none
    | _, _ => none
  | _, _ => none

theorem copy_step {P : Program} {a : Act} {w : World} {F : Nat → Prop} {S : Sh} {H : Hp} {σ : List (Nat × V)} {c0 : Bool} (hw : RW w F S H) (h : TR a w F S H σ) (hc : c0 = true) {t u ty : Nat} {d x : Operand} {ks : List (Nat × Nat)} {z : Option V} {H' : Hp} (he : copyE P c0 σ H t d x = some (ks, z, H')) :
    ∃ y w' S', (Builtin.copy_ #[t, u] ty #[a.eval d, a.eval x]).run P w = .ok y w' ∧ Step ks z w F S H y w' F S' H' := by
  unfold copyE at he
  split at he
  case h_2 => cases he
  rename_i e sz by' id p sz' off n ht hd
  split at he
  case h_2 => cases he
  rename_i sz2 rows cs hn hsrc
  split at he
  case isFalse => cases he
  rename_i hcnd
  obtain ⟨rfl, hoff⟩ := hcnd
  simp only [Option.some.injEq, Prod.mk.injEq] at he
  obtain ⟨rfl, rfl, rfl⟩ := he
  have hv := ev_sound h hd hc
  rw [RV_ref] at hv
  obtain ⟨nd, h1, h2, h3, h4⟩ := hv
  rw [hn] at h1
  injection h1 with h1
  subst h1
  simp only at h2
  subst h2
  obtain ⟨news, hrun, hnl, hrl, hfl, hcell⟩ := srcV_sound (P := P) hw h hc hsrc
  obtain ⟨r1, r2⟩ := hrun w rfl
  obtain ⟨hu, i', hi', rfl, rfl⟩ := tslice_some ht
  have hm : min cs.length n ≤ cs.length := Nat.min_le_left _ _
  have r2' := r2 _ hm
  have hrun : ∀ aa dn dc w', a.eval d = .slice aa dn dc → dn = n → (match aa with | some A => (storeCells A (news.take (min cs.length n * i'.size)) 0).run P w = .ok () w' | none => w' = w) →
      (Builtin.copy_ #[t, u] ty #[a.eval d, a.eval x]).run P w = .ok (.int .i64 (min cs.length n : Nat)) w' := by
    rintro aa dn dc w' hy rfl hst
    have hsz : (sizeOf e).run P w = .ok i'.size w := by simp [sizeOf, typeInfo, hi']
    rw [hy]
    simp only [Builtin.copy_, List.getElem?_toArray, List.getElem?_cons_zero, List.getElem?_cons_succ, Sem.run_bind, run_underlying hu, Result.andThen, r1, hsz]
    have : (Nat.min cs.length dn) = min cs.length dn := rfl
    rw [this, r2']
    cases aa with
    | none => subst hst; simp [goInt]
    | some A =>
      simp only [Result.andThen, Sem.run_bind]
      have hst' : (storeCells A (news.take (min cs.length dn * i'.size))).run P w = .ok () w' := hst
      rw [hst']
      rfl
  have hrows : ∀ row ∈ rows, row.length = i'.size := by
    have hrn := hw.nodes id p _ hn
    intro row hr
    obtain ⟨j, hj⟩ := List.mem_iff_getElem?.1 hr
    have hjl : j < rows.length := by
      rcases Nat.lt_or_ge j rows.length with h | h
      · exact h
      · rw [List.getElem?_eq_none h] at hj; cases hj
    have := rowlen_of hrn (i := j) hjl
    rw [List.getD_eq_getElem?_getD, hj] at this
    exact this
  have htk : (cs.take n).length = min cs.length n := by rw [List.length_take, Nat.min_comm]
  have heq : Eng.putRows H id p off (cs.take n) = updH H id p (ovr off (cs.take n)) := putRows_eq _ H id p off _ rows hn hrows (fun row hr => hrl row (List.mem_of_mem_take hr)) (by rw [htk]; omega)
  have hcap := hw.cap hn
  cases hs : S id p with
  | none =>
    rw [hs] at h4 hcap
    simp only at h4 hcap
    subst hcap
    obtain rfl : off = 0 := by simp at h3; omega
    obtain rfl : n = 0 := by simp at h3; omega
    have hH : updH H id p (ovr 0 (cs.take 0)) = H := by
      rw [← heq]; rfl
    rw [hH]
    exact ⟨_, w, S, hrun none 0 0 w h4 rfl rfl, hw, Stp.refl .., rfl, fun id' q nd _ hq => ⟨rfl, nd, hq, rfl, rfl⟩, fun _ _ => rfl⟩
  | some q =>
    obtain ⟨b, o, cap⟩ := q
    rw [hs] at h4 hcap
    obtain ⟨aa, hy, ha⟩ := h4
    simp only at hcap ha
    by_cases hm0 : min cs.length n = 0
    · have hH : updH H id p (ovr off (cs.take n)) = H := by
        rw [← heq]
        have : cs.take n = [] := List.length_eq_zero_iff.1 (by rw [htk]; exact hm0)
        rw [this]; rfl
      rw [hH]
      refine ⟨_, w, S, hrun aa n _ w hy rfl ?_, hw, Stp.refl .., rfl, fun id' q nd _ hq => ⟨rfl, nd, hq, rfl, rfl⟩, fun _ _ => rfl⟩
      cases aa with
      | none => rfl
      | some A => simp [hm0, storeCells]
    · have haa := ha (by omega)
      subst haa
      obtain ⟨w', S', m1, m2, m3, m4, m5⟩ := RW.putRows (P := P) (cs.take n) (news.take (min cs.length n * i'.size)) w S H rows off 0 b o cap hw hn (by rw [htk]; omega) hs (fun row hr => hrl row (List.mem_of_mem_take hr))
        (by rw [htk, List.length_take, hnl]; exact Nat.min_eq_left (Nat.mul_le_mul_right _ hm))
        (fun a' k ha' hk => by
          rw [htk] at ha'
          obtain ⟨v, e1, e2, e3⟩ := hcell a' k (by omega) hk
          refine ⟨v, ?_, ?_, e3⟩
          · rw [List.getElem?_take_of_lt (mul_add_lt ha' hk)]; exact e1
          · have : cellAt (cs.take n) a' k = cellAt cs a' k := by
              unfold cellAt
              congr 1
              rw [List.getD_eq_getElem?_getD, List.getD_eq_getElem?_getD, List.getElem?_take_of_lt (by omega)]
            rw [this]; exact e2) ⟨b, o + off * i'.size, none⟩ (by rw [add_addr, Nat.add_zero]) rfl rfl
      rw [heq] at m2 m3 m4
      refine ⟨_, w', S', hrun _ n _ w' hy rfl m1, m2, m3, rfl, fun id' q nd hk hq => ?_, m5⟩
      refine m4 id' q nd hq ?_
      rintro ⟨rfl, a', k', r, h5, h6, h7, rfl⟩
      rw [htk] at h6
      split at hk
      · rename_i hall
        -- there is no node below
        obtain ⟨⟨sz0, rows0⟩, g0, g1⟩ := node_some hq
        obtain ⟨⟨sz0', rows0'⟩, g0', g1'⟩ := node_some hn
        rw [g0] at g0'
        injection g0' with g0'
        injection g0' with g0'
        injection g0' with g2 g3
        subst g2; subst g3
        rw [nodeAt_append, g1'] at g1
        simp only [Option.bind_some, nodeAt] at g1
        have hlen : (part rows off (min cs.length n)).length = min cs.length n := length_part (by omega)
        have hcp : (cellAt (part rows off (min cs.length n)) (a' - off) k').copies = true := by
          refine allCopies_cell hall (by rw [hlen]; omega) ?_
          rw [getD_lt _ _ (by rw [hlen]; omega)]
          rw [hrows _ (List.mem_of_mem_drop (List.mem_of_mem_take (List.getElem_mem (l := part rows off (min cs.length n)) _)))]
          exact h7
        rw [cellAt_part _ _ (by omega), show off + (a' - off) = a' by omega] at hcp
        cases hcc : cellAt rows a' k' <;> rw [hcc] at hcp g1 <;> simp [V.copies, V.kid] at hcp g1
      · exact hk ⟨_, List.mem_singleton_self _, rfl, by simp⟩

/-- A slice of bytes that is made one of bytes. -/
def sameB (P : Program) (s d : Nat) (x : Option V) : Option V :=
  match P.underlying s, P.underlying d, x with
  | some (.slice _), some (.slice e), some (.ref id [] 1 0 n) => match P.underlying e with
    | some (.int .u8) => if s = d ∧ 0 < n then some (.ref id [] 1 0 n) else none
    | _ => none
  | _, _, _ => none

theorem mark_step {P : Program} {w : World} {F : Nat → Prop} {S : Sh} {H : Hp} (hw : RW w F S H) {s d : Nat} {x z : V} {y : Value} (hv : RV w F S H x y) (he : sameB P s d (some x) = some z) :
    ∃ w', (convert s d y).run P w = .ok y w' ∧ Step [] (some z) w F S H y w' F S H := by
  unfold sameB at he
  split at he
  case h_2 => cases he
  rename_i e0 e id n hs hd hx
  injection hx with hx
  subst hx
  split at he
  case h_2 => cases he
  rename_i hee
  split at he
  case isFalse => cases he
  rename_i hc
  obtain ⟨rfl, hn0⟩ := hc
  injection he with he
  subst he
  rw [hs] at hd
  injection hd with hd
  injection hd with hd
  subst hd
  have hv0 := hv
  rw [RV_ref] at hv
  obtain ⟨nd, h1, h2, h3, h4⟩ := hv
  have hrn := hw.nodes id [] nd h1
  have hcap := hw.cap h1
  cases hS : S id [] with
  | none => rw [hS] at hcap; simp only at hcap; rw [hcap] at h3; simp at h3; omega
  | some q =>
    obtain ⟨b, o, cap⟩ := q
    rw [hS] at h4 hcap
    obtain ⟨aa, rfl, ha⟩ := h4
    simp only at hcap
    rw [ha (by omega)] at hv0 ⊢
    have hnF := hrn.notF hS
    have hrn' := hrn
    unfold RN at hrn'
    rw [hS] at hrn'
    obtain ⟨f1, f2, arr, T, fr, f3, f4, f5, f6, f7⟩ := hrn'
    let w' := w.freeze ⟨b, arr.size, none⟩ 1
    have hlt : b < w.heap.size := hnF.2
    have hb : w'.heap[b]? = some (.cells arr T (if fr.1 == fr.2 then (arr.size, arr.size + 1) else (min fr.1 arr.size, max fr.2 (arr.size + 1)))) := by
      show (w.freeze _ 1).heap[b]? = _
      unfold World.freeze
      rw [if_neg (by decide)]
      simp only [Array.getElem?_modify, if_true, f3]
      rfl
    have hother : ∀ b', b' ≠ b → w'.heap[b']? = w.heap[b']? := by
      intro b' hne
      show (w.freeze _ 1).heap[b']? = _
      unfold World.freeze
      rw [if_neg (by decide)]
      simp only [Array.getElem?_modify]
      rw [if_neg (fun e => hne e.symm)]
    have hF : ∀ b', F b' → w'.heap[b']? = w.heap[b']? := fun b' hf => hother b' (fun e => hnF.1 (e ▸ hf))
    have hsz : w'.heap.size = w.heap.size := by
      show (w.freeze _ 1).heap.size = _
      unfold World.freeze
      rw [if_neg (by decide)]
      simp
    have hown : Own S H b := ⟨id, [], nd, o, cap, h1, hS⟩
    refine ⟨w', ?_, ⟨fun id' p nd' hnd => ?_, hw.inj, fun b' hf => by rw [hsz]; exact hw.froz b' hf⟩, ⟨rfl, rfl, rfl, by rw [hsz]; exact Nat.le_refl _, fun b' _ hno => hother b' (fun e => hno (e ▸ hown)), fun b' h => .inl h, fun b' h => .inl h, fun b' h => h⟩, ?_, fun id' q nd' _ hq => ⟨rfl, nd', hq, rfl, rfl⟩, hF⟩
    · have hsh : w.shape? b = some (T, arr.size) := by unfold World.shape?; rw [f3]
      unfold convert
      simp [run_underlying hs, run_underlying hee, markStringish, hsh, Sem.run_bind, Result.andThen]
      rfl
    · by_cases heq : (∃ o2 c2, S id' p = some (b, o2, c2))
      · obtain ⟨o2, c2, hs2⟩ := heq
        obtain ⟨rfl, rfl⟩ := hw.inj id' p nd' id [] nd b o2 c2 o cap hnd h1 hs2 hS
        rw [h1] at hnd
        injection hnd with hnd
        subst hnd
        unfold RN
        rw [hS]
        refine ⟨f1, f2, arr, T, _, hb, fun i hi => ?_, f5, f6, fun i k hi hk => ?_⟩
        · have g := f4 i hi
          by_cases hfr : fr.1 = fr.2
          · simp [hfr]; omega
          · have g2 : arr.size ≤ fr.1 := by
              rcases Nat.lt_or_ge fr.1 arr.size with h | h
              · have := f4 fr.1 h; omega
              · exact h
            simp [hfr]
            omega
        · obtain ⟨v, g1, g2⟩ := f7 i k hi hk
          exact ⟨v, g1, RC.mono hF (fun _ h => h) rfl g2⟩
      · refine RN.mono hF (fun _ h => h) rfl (fun _ _ _ _ => rfl) (fun b' ⟨o2, c2, hs2⟩ => ⟨hother b' (fun e => heq ⟨o2, c2, e ▸ hs2⟩), fun h => h⟩) (hw.nodes id' p nd' hnd)
    · show RV w' F S H (.ref id [] 1 0 n) _
      rw [RV_ref] at hv0 ⊢
      exact hv0

/-- What an operation does. -/
def exec1 (P : Program) (sp : Nat → Option Spec) (ops : List Oper) (c0 : Bool) (σ : List (Nat × V)) (H : Hp) (o : Oper) : Option Eff :=
  match o.op with
  | .assign (.const (.slice none 0 0)) => match tslice P o.type with
    | some (_, sz, _) => some ([], some (.ref H.length [] sz 0 0), H ++ [some (sz, [])])
    | none => none
  | .alloc t => match zrow P t with
    | some row => some ([], some (.ptr H.length [] 0 0), H ++ [some (row.length, [row])])
    | none => none
  | .box t x => match ev c0 σ x with
    | some v => if shapeOk v then match conv P t v with
      | some row => some ([], some (.ptr H.length [] 0 0), H ++ [some (row.length, [row])])
      | none => none
      else none
    | none => none
  | .buildSlice t n parts => match tslice P t, inOrder 0 parts.toList with
    | some (e, sz, _), some xs => match tzero P e, litRows P c0 σ e xs with
      | some zs, some rows => if xs.length = n ∧ n * sz ≤ 16777216 ∧ (rows.all fun r => r.length == sz) = true then
          if kept ops o.dst then some ([], some (.ref H.length [] sz 0 n), H ++ [some (sz, rows)])
          else if allCopies rows = true then some ([], some (.fs sz rows), H) else none
        else none
      | _, _ => none
    | _, _ => none
  | .makeSlice t l c => match tslice P t, intOp c0 σ l, intOp c0 σ c with
    | some (e, sz, bytes), some l, some c => match zrow P e with
      | some row => if row.length = sz ∧ 0 ≤ l ∧ l ≤ c ∧ (bytes : Int) * c ≤ 281474976710656 ∧ c ≤ 9223372036854775807 then
          some ([], some (.ref H.length [] sz 0 l.toNat), H ++ [some (sz, List.replicate l.toNat row)]) else none
      | none => none
    | _, _, _ => none
  | .store t d x => match ev c0 σ d, ev c0 σ x with
    | some (.ptr id p i k), some v => if shapeOk v then match tinfo P t, conv P t v, node H id p with
      | some (_, n), some cs, some (sz, rows) => if cs.length = n ∧ i < rows.length ∧ k + n ≤ sz then
          some (if noKids rows i k n then [] else [(id, p.length + 1)], none, putCells H id p i k cs) else none
      | _, _, _ => moveE P H t id p i k v
      else none
    | _, _ => none
  | .call { callee := .builtin .append, args, argTypes } => match args.toList, argTypes.toList with
    | [s, x], [t, u] => appendE P c0 σ H t u s x
    | _, _ => none
  | .call { callee := .builtin .copy, args, argTypes } => match args.toList, argTypes.toList with
    | [d, x], [t, _] => copyE P c0 σ H t d x
    | _, _ => none
  | .call { callee := .value (.func f), args, .. } => match evs c0 σ args.toList with
    | some xs => callE P sp c0 σ H f xs
    | none => none
  | .call { callee := .value (.tmp t), args, .. } => match ev c0 σ (.tmp t), evs c0 σ args.toList with
    | some (.clo f caps), some xs => callE P sp c0 σ H f (xs ++ caps)
    | _, _ => none
  | .makeFunc (.func f) first captured => if first.isEmpty then match evs c0 σ captured.toList with
    | some caps => if caps.all (fun x => match x with | .ptr _ _ _ _ => true | .fp _ _ _ _ => true | .fs _ _ => true | .ref _ _ _ _ _ => true | .v y => y.oneCell' | _ => false) then some ([], some (.clo f caps), H) else none
    | none => none
    else none
  | .convert s d x => match s2b P s d (ev c0 σ x) with
    | some rows => some ([], some (.fs 1 rows), H)
    | none => match sameB P s d (ev c0 σ x) with
     | some z => some ([], some z, H)
     | none => match b2s P c0 σ H s d x with
      | some z => some ([], some z, H)
      | none => match fltV P c0 σ H o with
        | some z => some ([], some z, H)
        | none => none
  | _ => match fltV P c0 σ H o with
    | some z => some ([], some z, H)
    | none => none

end Go.Eng

namespace Go.Eng
open Go.RowKit
set_option linter.unusedSectionVars false
set_option linter.unusedVariables false
set_option linter.unusedSimpArgs false
variable [Globs]

theorem setCell_same {w : World} {b o : Nat} {arr : Array Value} {T : TypeId} {fr : Nat × Nat} {y : Value} (hb : w.heap[b]? = some (.cells arr T fr)) (hy : arr[o]? = some y) : w.setCell ⟨b, o, none⟩ y = w := by
  have ha : arr.setIfInBounds o y = arr := by
    apply Array.ext_getElem?
    intro j
    by_cases e : o = j
    · subst e
      have hlt : o < arr.size := by
        rcases Nat.lt_or_ge o arr.size with h | h
        · exact h
        · rw [Array.getElem?_eq_none h] at hy; cases hy
      rw [Array.getElem?_setIfInBounds_self_of_lt hlt, hy]
    · rw [Array.getElem?_setIfInBounds_ne e]
  have hh : (w.setCell ⟨b, o, none⟩ y).heap = w.heap := by
    apply Array.ext_getElem?
    intro j
    simp only [World.setCell, Array.getElem?_modify]
    split
    · rename_i e
      subst e
      rw [hb]
      simp [ha]
    · rfl
  cases w
  simp only [World.setCell] at hh ⊢
  rw [hh]

/-- A root becomes the memory of a cell that has its value already. -/
theorem RW.adopt {w : World} {F : Nat → Prop} {S : Sh} {H : Hp} (h : RW w F S H) {id : Nat} {p : Path} {sz : Nat} {r1 : Rows} {i k : Nat} {y : Value} {id2 sz2 off n : Nat} {rows2 : Rows} {c' : V}
    (hn : node H id p = some (sz, r1)) (hi : i < r1.length) (hk : k < sz) (hcell : cellAt r1 i k = .v y) (hid : id ≠ id2) (h2 : node H id2 [] = some (sz2, rows2)) (hl : off + n ≤ rows2.length)
    (hc' : (c' = .own sz2 (part rows2 off n) ∧ RV w F S H (.ref id2 [] sz2 off n) y) ∨ (c' = .box sz2 (part rows2 off n) ∧ off = 0 ∧ RV w F S H (.ptr id2 [] 0 0) y)) :
    let H' := updH (H.set id2 none) id p (setC · i k c')
    ∃ S', RW w F S' H' ∧ Stp w F S H w F S' H' ∧
      (∀ id' q nd, node H id' q = some nd → ¬ (id' = id ∧ ∃ r, q = p ++ (i, k) :: r) → id' ≠ id2 → S' id' q = S id' q) := by
  intro H'
  have hrn := h.nodes id p _ hn
  have h9 := hrn
  unfold RN at h9
  cases hs : S id p with
  | none =>
    rw [hs] at h9
    simp only at h9
    rw [h9] at hi
    simp at hi
  | some x =>
    obtain ⟨b, o, cap⟩ := x
    rw [hs] at h9
    obtain ⟨f1, f2, arr, T, fr, f3, f4, f5, f6, f7⟩ := h9
    obtain ⟨v, hv, hrc⟩ := f7 i k hi hk
    rw [hcell] at hrc
    have hvy : v = y := hrc
    subst hvy
    have hw := setCell_same (o := o + i * sz + k) f3 hv
    obtain ⟨g1, g2, g3⟩ := h.moveIn (y' := v) hn hi hk hs hid h2 hl hc'
    rw [hw] at g1 g2
    exact ⟨_, g1, g2, g3⟩

theorem nodeAt_updRows_self (p : Path) : ∀ {sz : Nat} {rows : Rows} {sz1 : Nat} {r1 : Rows} (f : Rows → Rows), nodeAt (sz, rows) p = some (sz1, r1) → nodeAt (sz, updRows rows p f) p = some (sz1, f r1) := by
  induction p with
  | nil => intro sz rows sz1 r1 f h; simp only [nodeAt, Option.some.injEq, Prod.mk.injEq] at h; obtain ⟨rfl, rfl⟩ := h; rfl
  | cons s p ih =>
    intro sz rows sz1 r1 f h
    rw [nodeAt_cons] at h
    cases hk : (cellAt rows s.1 s.2).kid with
    | none => simp only [hk] at h; cases h
    | some nd =>
      simp only [hk] at h
      obtain ⟨l1, l2⟩ := cellAt_kid_lt hk
      rw [nodeAt_cons, updRows_cons]
      simp only
      rw [cellAt_setC _ _ _ _ l1 l2, if_pos ⟨rfl, rfl⟩, onWay_kid hk]
      exact ih f h

theorem setC_same {rows : Rows} {i k : Nat} (hi : i < rows.length) (hk : k < (rows.getD i []).length) : setC rows i k (cellAt rows i k) = rows := by
  unfold setC cellAt
  rw [getD_lt _ _ hk, List.set_getElem_self]
  rw [getD_lt _ _ hi]
  exact List.set_getElem_self hi

theorem updRows_same (p : Path) : ∀ {sz : Nat} {rows : Rows} {sz1 : Nat} {r1 : Rows} {f : Rows → Rows}, nodeAt (sz, rows) p = some (sz1, r1) → f r1 = r1 → updRows rows p f = rows := by
  induction p with
  | nil => intro sz rows sz1 r1 f h e; simp only [nodeAt, Option.some.injEq, Prod.mk.injEq] at h; obtain ⟨rfl, rfl⟩ := h; exact e
  | cons s p ih =>
    intro sz rows sz1 r1 f h e
    rw [nodeAt_cons] at h
    cases hk : (cellAt rows s.1 s.2).kid with
    | none => simp only [hk] at h; cases h
    | some nd =>
      simp only [hk] at h
      obtain ⟨sz2, r2⟩ := nd
      obtain ⟨l1, l2⟩ := cellAt_kid_lt hk
      rw [updRows_cons]
      have : onWay (cellAt rows s.1 s.2) (fun r => updRows r p f) = cellAt rows s.1 s.2 := by
        have h3 := ih h e
        cases hc : cellAt rows s.1 s.2 <;> rw [hc] at hk <;> simp [V.kid] at hk <;> obtain ⟨rfl, rfl⟩ := hk <;> simp [onWay, h3]
      rw [this]
      exact setC_same l1 l2

theorem updH_same {H : Hp} {id : Nat} {p : Path} {sz : Nat} {r1 : Rows} {f : Rows → Rows} (h : node H id p = some (sz, r1)) (e : f r1 = r1) : updH H id p f = H := by
  obtain ⟨⟨sz0, rows⟩, h0, h1⟩ := node_some h
  unfold updH
  rw [h0]
  simp only
  rw [updRows_same p h1 e]
  apply List.ext_getElem?
  intro j
  rw [List.getElem?_set]
  split
  · rename_i e
    subst e
    split
    · exact h0.symm
    · rename_i hge
      rw [List.getElem?_eq_none (by omega)] at h0
      cases h0
  · rfl

theorem updH_set {H : Hp} {id id2 : Nat} {p : Path} {f : Rows → Rows} (hne : id ≠ id2) : updH (H.set id2 none) id p f = (updH H id p f).set id2 none := by
  unfold updH
  rw [List.getElem?_set_ne (fun e => hne e.symm)]
  cases hx : H[id]? with
  | none => rfl
  | some x =>
    cases x with
    | none => rfl
    | some nd => simp only; rw [List.set_comm _ _ (fun e => hne e.symm)]

/-- Objects that are gone. -/
def dropAll (H : Hp) : List Nat → Hp
  | [] => H
  | a :: r => dropAll (H.set a none) r

theorem dropAll_updH {id : Nat} {p : Path} {f : Rows → Rows} : ∀ {ids : List Nat} {H : Hp}, id ∉ ids → dropAll (updH H id p f) ids = updH (dropAll H ids) id p f
  | [], H, _ => rfl
  | a :: r, H, h => by
    simp only [List.mem_cons, not_or] at h
    simp only [dropAll]
    rw [← updH_set h.1, dropAll_updH h.2]

theorem node_dropAll {id : Nat} {p : Path} : ∀ {ids : List Nat} {H : Hp}, node (dropAll H ids) id p = if id ∈ ids then none else node H id p
  | [], H => by simp [dropAll]
  | a :: r, H => by
    simp only [dropAll]
    rw [node_dropAll (ids := r), node_set_none]
    by_cases h1 : id ∈ r
    · simp [h1]
    · by_cases h2 : id = a
      · simp [h2]
      · simp [h1, h2]

/-- Which object a value holds whole. -/
def heldOf : V → Option Nat
  | .ref id [] _ _ _ => some id
  | .ptr id [] 0 0 => some id
  | _ => none

def heldAll (xs : List V) : List Nat := xs.filterMap heldOf

/-- What a cell keeps of a value. -/
def HeldOK (w : World) (F : Nat → Prop) (S : Sh) (H : Hp) (x : V) (y : Value) (c : V) : Prop :=
  y.oneCell' = true ∧ match heldOf x with
  | none => RC0 w F c y
  | some id2 => ∃ sz2 off n rows2, node H id2 [] = some (sz2, rows2) ∧ off + n ≤ rows2.length ∧
      ((c = .own sz2 (part rows2 off n) ∧ RV w F S H (.ref id2 [] sz2 off n) y) ∨ (c = .box sz2 (part rows2 off n) ∧ off = 0 ∧ RV w F S H (.ptr id2 [] 0 0) y))

def hold0 (x : V) (y : Value) (c : V) : V := match heldOf x with | some _ => .v y | none => c

def hold0s : List V → List Value → List V → List V
  | x :: xs, y :: ys, c :: cs => hold0 x y c :: hold0s xs ys cs
  | _, _, _ => []

theorem hold0s_length : ∀ {xs : List V} {ys : List Value} {cs : List V}, xs.length = ys.length → xs.length = cs.length → (hold0s xs ys cs).length = xs.length
  | [], _, _, _, _ => by simp [hold0s]
  | x :: xs, [], _, h, _ => by simp at h
  | x :: xs, y :: ys, [], _, h => by simp at h
  | x :: xs, y :: ys, c :: cs, h1, h2 => by simp only [hold0s, List.length_cons]; rw [hold0s_length (by simpa using h1) (by simpa using h2)]

theorem hold0s_RC0 {w : World} {F : Nat → Prop} {S : Sh} {H : Hp} : ∀ {xs : List V} {ys : List Value} {cs : List V}, xs.length = ys.length → xs.length = cs.length →
    (∀ (j : Nat) (x : V) (y : Value) (c : V), xs[j]? = some x → ys[j]? = some y → cs[j]? = some c → HeldOK w F S H x y c) →
    ∀ (j : Nat) (c : V) (y : Value), (hold0s xs ys cs)[j]? = some c → ys[j]? = some y → RC0 w F c y ∧ y.oneCell' = true
  | [], ys, cs, _, _, _, j, c, y, h, _ => by simp [hold0s] at h
  | x :: xs, [], _, h, _, _, _, _, _, _, _ => by simp at h
  | x :: xs, y :: ys, [], _, h, _, _, _, _, _, _ => by simp at h
  | x :: xs, y :: ys, c :: cs, h1, h2, hh, j, c', y', hc, hy => by
    cases j with
    | zero =>
      simp only [hold0s, List.getElem?_cons_zero, Option.some.injEq] at hc hy
      subst hc; subst hy
      obtain ⟨g1, g2⟩ := hh 0 x y c rfl rfl rfl
      refine ⟨?_, g1⟩
      unfold hold0
      cases hx : heldOf x with
      | none => rw [hx] at g2; exact g2
      | some _ => exact rfl
    | succ j =>
      simp only [hold0s, List.getElem?_cons_succ] at hc hy
      exact hold0s_RC0 (by simpa using h1) (by simpa using h2) (fun j x y c a b d => hh (j + 1) x y c (by simpa using a) (by simpa using b) (by simpa using d)) j c' y' hc hy

/-- Cells that have their values become what they refer to. -/
theorem adoptAll {w : World} {F : Nat → Prop} {id : Nat} {p : Path} {i sz : Nat} : ∀ (xs : List V) (ys : List Value) (cs : List V) (S : Sh) (H : Hp) (r1 : Rows) (k : Nat),
    RW w F S H → node H id p = some (sz, r1) → i < r1.length → k + xs.length ≤ sz → xs.length = ys.length → xs.length = cs.length →
    (∀ (j : Nat) (c : V), (hold0s xs ys cs)[j]? = some c → cellAt r1 i (k + j) = c) →
    (∀ (j : Nat) (x : V) (y : Value) (c : V), xs[j]? = some x → ys[j]? = some y → cs[j]? = some c → HeldOK w F S H x y c) →
    (heldAll xs).Nodup → id ∉ heldAll xs →
    ∃ S', RW w F S' (putCells (dropAll H (heldAll xs)) id p i k cs) ∧ Stp w F S H w F S' (putCells (dropAll H (heldAll xs)) id p i k cs) ∧
      (∀ id' q nd, node H id' q = some nd → id' ∉ heldAll xs → ¬ (id' = id ∧ ∃ k' r, k ≤ k' ∧ k' < k + xs.length ∧ q = p ++ (i, k') :: r) →
        S' id' q = S id' q ∧ ∃ nd', node (putCells (dropAll H (heldAll xs)) id p i k cs) id' q = some nd' ∧ nd'.1 = nd.1 ∧ nd'.2.length = nd.2.length)
  | [], ys, cs, S, H, r1, k, h, hn, hi, hk, hl1, hl2, h0, hh, hnd, hni => by
    have : cs = [] := List.length_eq_zero_iff.1 hl2.symm
    subst this
    exact ⟨S, h, Stp.refl .., fun id' q nd hq _ _ => ⟨rfl, nd, hq, rfl, rfl⟩⟩
  | x :: xs, [], _, _, _, _, _, _, _, _, _, h, _, _, _, _, _ => by simp at h
  | x :: xs, y :: ys, [], _, _, _, _, _, _, _, _, _, h, _, _, _, _ => by simp at h
  | x :: xs, y :: ys, c :: cs, S, H, r1, k, h, hn, hi, hk, hl1, hl2, h0, hh, hnd, hni => by
    simp only [List.length_cons] at hk hl1 hl2
    have hrn := h.nodes id p _ hn
    have hrl := rowlen_of hrn hi
    simp only at hrl
    have hc0 := h0 0 (hold0 x y c) rfl
    rw [Nat.add_zero] at hc0
    obtain ⟨hone, hH⟩ := hh 0 x y c rfl rfl rfl
    have htail : ∀ (j : Nat) (c' : V), (hold0s xs ys cs)[j]? = some c' → cellAt r1 i (k + 1 + j) = c' := by
      intro j c' hc
      have := h0 (j + 1) c' (by simpa [hold0s] using hc)
      rw [← this]; congr 1; omega
    cases hx : heldOf x with
    | none =>
      have hnd' : heldAll (x :: xs) = heldAll xs := by simp [heldAll, hx]
      rw [hnd'] at hnd hni ⊢
      obtain ⟨S', g1, g2, g3⟩ := adoptAll xs ys cs S H r1 (k + 1) h hn hi (by omega) (by omega) (by omega) htail
        (fun j x' y' c' a b d => hh (j + 1) x' y' c' (by simpa using a) (by simpa using b) (by simpa using d)) hnd hni
      have hcc : cellAt r1 i k = c := by rw [hc0]; simp [hold0, hx]
      have e : updH (dropAll H (heldAll xs)) id p (setC · i k c) = dropAll H (heldAll xs) := by
        refine updH_same (sz := sz) (r1 := r1) (by rw [node_dropAll, if_neg hni]; exact hn) ?_
        rw [← hcc]
        exact setC_same hi (by omega)
      simp only [putCells]
      rw [e]
      refine ⟨S', g1, g2, fun id' q nd hq hno1 hno2 => g3 id' q nd hq hno1 ?_⟩
      rintro ⟨e, k', r, a, b, d⟩
      exact hno2 ⟨e, k', r, by omega, by simp only [List.length_cons]; omega, d⟩
    | some id2 =>
      rw [hx] at hH
      obtain ⟨sz2, off, n, rows2, h2, hl, hc'⟩ := hH
      have hnd' : heldAll (x :: xs) = id2 :: heldAll xs := by simp [heldAll, hx]
      rw [hnd'] at hnd hni ⊢
      simp only [List.mem_cons, not_or] at hni
      obtain ⟨hni1, hni2⟩ := hni
      obtain ⟨hnd1, hnd2⟩ := List.nodup_cons.1 hnd
      have hcell : cellAt r1 i k = .v y := by rw [hc0]; simp [hold0, hx]
      obtain ⟨S1, m1, m2, m3⟩ := h.adopt hn hi (show k < sz by omega) hcell hni1 h2 hl hc'
      have hn' : node (H.set id2 none) id p = some (sz, r1) := by rw [node_set_none, if_neg hni1]; exact hn
      have hne : ¬ (id = id ∧ ∃ r, p = p ++ (i, k) :: r) := by
        rintro ⟨_, r, hr⟩
        have := congrArg List.length hr
        simp at this
      have hn1 : node (updH (H.set id2 none) id p (setC · i k c)) id p = some (sz, setC r1 i k c) := by
        obtain ⟨⟨sz0, rows0⟩, e1, e2⟩ := node_some hn'
        rw [node_updH e1, if_pos rfl]
        exact nodeAt_updRows_self p _ e2
      have hroot : ∀ id' nd, id' ≠ id → id' ≠ id2 → node H id' [] = some nd → node (updH (H.set id2 none) id p (setC · i k c)) id' [] = some nd := by
        intro id' nd e1 e2 hq
        obtain ⟨⟨sz0, rows0⟩, f1, f2⟩ := node_some hn'
        rw [node_updH f1, if_neg e1, node_set_none, if_neg e2]
        exact hq
      have hmem : ∀ (j : Nat) (x' : V) (id' : Nat), xs[j]? = some x' → heldOf x' = some id' → id' ∈ heldAll xs := fun j x' id' a b => List.mem_filterMap.2 ⟨x', List.mem_of_getElem? a, b⟩
      obtain ⟨S', g1, g2, g3⟩ := adoptAll xs ys cs S1 (updH (H.set id2 none) id p (setC · i k c)) (setC r1 i k c) (k + 1) m1 hn1 (by rw [length_setC]; exact hi) (by omega) (by omega) (by omega)
        (fun j c' hc => by
          rw [cellAt_setC _ _ _ _ hi (by omega), if_neg (by omega)]
          exact htail j c' hc)
        (fun j x' y' c' a b d => by
          obtain ⟨q1, q2⟩ := hh (j + 1) x' y' c' (by simpa using a) (by simpa using b) (by simpa using d)
          refine ⟨q1, ?_⟩
          cases hx' : heldOf x' with
          | none => rw [hx'] at q2; exact q2
          | some id' =>
            rw [hx'] at q2
            obtain ⟨sz3, off3, n3, rows3, u1, u2, u3⟩ := q2
            have hm := hmem j x' id' a hx'
            have e1 : id' ≠ id := fun e => hni2 (e ▸ hm)
            have e2 : id' ≠ id2 := fun e => hnd1 (e ▸ hm)
            have hS1 : S1 id' [] = S id' [] := m3 id' [] _ u1 (fun ⟨e, _⟩ => e1 e) e2
            have hro := hroot id' _ e1 e2 u1
            refine ⟨sz3, off3, n3, rows3, hro, u2, ?_⟩
            rcases u3 with ⟨rfl, u3⟩ | ⟨rfl, u4, u3⟩
            · refine .inl ⟨rfl, ?_⟩
              rw [RV_ref] at u3 ⊢
              obtain ⟨nd, v1, v2, v3, v4⟩ := u3
              refine ⟨nd, ?_, v2, v3, by rw [hS1]; exact v4⟩
              rw [u1] at v1
              rw [hro]; exact v1
            · refine .inr ⟨rfl, u4, ?_⟩
              obtain ⟨nd, b, o, cap, v1, v2, v3⟩ := RV_ptr u3
              rw [u1] at v1
              injection v1 with v1
              subst v1
              rw [v3]
              exact mk_ptr hro (by rw [hS1]; exact v2)) hnd2 hni2
      have e : dropAll (updH (H.set id2 none) id p (setC · i k c)) (heldAll xs) = updH (dropAll (H.set id2 none) (heldAll xs)) id p (setC · i k c) := dropAll_updH hni2
      rw [e] at g1 g2 g3
      refine ⟨S', g1, m2.trans g2, fun id' q nd hq hno1 hno2 => ?_⟩
      simp only [List.mem_cons, not_or] at hno1
      have hout : ¬ (id' = id ∧ ∃ r, q = p ++ (i, k) :: r) := fun ⟨e, r, hr⟩ => hno2 ⟨e, k, r, Nat.le_refl _, by simp, hr⟩
      have hq' : node (H.set id2 none) id' q = some nd := by rw [node_set_none, if_neg hno1.1]; exact hq
      obtain ⟨nd1, f1, f2, f3⟩ := updH_fwd (c' := c) hrn hn' hi (show k < sz by omega) hq' hout
      obtain ⟨q1, nd2, q2, q3, q4⟩ := g3 id' q nd1 f1 hno1.2 (by
        rintro ⟨e, k', r, a, b, d⟩
        exact hno2 ⟨e, k', r, by omega, by simp only [List.length_cons]; omega, d⟩)
      exact ⟨q1.trans (m3 id' q nd hq hout hno1.1), nd2, q2, by omega, by omega⟩

end Go.Eng

namespace Go.Eng
open Go.RowKit
set_option linter.unusedSectionVars false
set_option linter.unusedVariables false
set_option linter.unusedSimpArgs false
variable [Globs]

theorem length_updH {H : Hp} {id : Nat} {p : Path} {f : Rows → Rows} : (updH H id p f).length = H.length := by
  unfold updH
  split <;> simp

/-- What has become of things where roots were made. -/
structure Taken (w : World) (F : Nat → Prop) (S : Sh) (H : Hp) (S' : Sh) (H' : Hp) : Prop where
  rw : RW w F S' H'
  own : ∀ b, Own S' H' b → Own S H b
  len : H.length ≤ H'.length
  back : ∀ id q nd, id < H.length → node H' id q = some nd → S' id q = S id q ∧ ∃ nd0, node H id q = some nd0 ∧ nd.1 = nd0.1 ∧ nd.2.length = nd0.2.length
  root : ∀ id nd, node H id [] = some nd → ∃ nd', node H' id [] = some nd'

theorem Taken.refl {w : World} {F : Nat → Prop} {S : Sh} {H : Hp} (h : RW w F S H) : Taken w F S H S H :=
  ⟨h, fun _ h => h, Nat.le_refl _, fun id q nd _ hq => ⟨rfl, nd, hq, rfl, rfl⟩, fun id nd h => ⟨nd, h⟩⟩

theorem Taken.trans {w : World} {F : Nat → Prop} {S S1 S2 : Sh} {H H1 H2 : Hp} (h : Taken w F S H S1 H1) (k : Taken w F S1 H1 S2 H2) : Taken w F S H S2 H2 where
  rw := k.rw
  own b hb := h.own b (k.own b hb)
  len := Nat.le_trans h.len k.len
  back id q nd hlt hq := by
    obtain ⟨e1, nd1, e2, e3, e4⟩ := k.back id q nd (Nat.lt_of_lt_of_le hlt h.len) hq
    obtain ⟨f1, nd0, f2, f3, f4⟩ := h.back id q nd1 hlt e2
    exact ⟨e1.trans f1, nd0, f2, e3.trans f3, e4.trans f4⟩
  root id nd hq := by
    obtain ⟨nd1, e1⟩ := h.root id nd hq
    exact k.root id nd1 e1

theorem Taken.stp {w : World} {F : Nat → Prop} {S S' : Sh} {H H' : Hp} (h : Taken w F S H S' H') : Stp w F S H w F S' H' :=
  ⟨rfl, rfl, rfl, Nat.le_refl _, fun _ _ _ => rfl, fun b hb => .inl (h.own b hb), fun _ hb => .inl hb, fun _ hb => hb⟩

/-- A reference's value stands as long as its node does. -/
theorem RVc.taken {w : World} {F : Nat → Prop} {S S' : Sh} {H H' : Hp} (h : Taken w F S H S' H') {x : V} {y : Value} (hx : RVc w F S H x y) (hr : ∀ id p, (id, p) ∈ refsC x → ∃ nd, node H' id p = some nd) : RVc w F S' H' x y := by
  refine RVc.mono (fun _ _ => rfl) (fun _ hb => hb) hx (fun id p nd hm hn => ?_)
  obtain ⟨nd', h1⟩ := hr id p hm
  obtain ⟨e1, nd0, e2, e3, e4⟩ := h.back id p nd' (node_lt hn) h1
  rw [hn] at e2
  injection e2 with e2
  subst e2
  exact ⟨e1, nd', h1, e3, e4⟩

theorem take_facts {w : World} {F : Nat → Prop} {S : Sh} {H : Hp} (h : RW w F S H) {id : Nat} {p : Path} {sz : Nat} {r1 : Rows} {i k : Nat} {sz2 off n : Nat} {rows2 : Rows}
    (hn : node H id p = some (sz, r1)) (hi : i < r1.length) (hk : k < sz) (hc : (cellAt r1 i k).kid = some (sz2, rows2)) (hl : off + n ≤ rows2.length) :
    let H' := updH H id p (setC · i k .dead) ++ [some (sz2, part rows2 off n)]
    let S' := shTake S H.length id (p ++ [(i, k)]) off sz2
    Taken w F S H S' H' ∧
    (∀ id' q nd, node H id' q = some nd → ¬ (id' = id ∧ ∃ r, q = p ++ (i, k) :: r) → S' id' q = S id' q ∧ ∃ nd', node H' id' q = some nd' ∧ nd'.1 = nd.1 ∧ nd'.2.length = nd.2.length) ∧
    node H' H.length [] = some (sz2, part rows2 off n) ∧
    S' H.length [] = (match S id (p ++ [(i, k)]) with | some (b, o, cap) => some (b, o + off * sz2, cap - off) | none => none) := by
  intro H' S'
  have hrn := h.nodes id p _ hn
  have hkid : node H id (p ++ [(i, k)]) = some (sz2, rows2) := node_kid hn hc
  have hlen : (updH H id p (setC · i k .dead)).length = H.length := length_updH
  have hS : ∀ id' q, id' ≠ H.length → S' id' q = S id' q := fun id' q e => by show shTake .. = _; unfold shTake; rw [if_neg e]
  have hback : ∀ id' q nd, id' < H.length → node H' id' q = some nd → S' id' q = S id' q ∧ ∃ nd0, node H id' q = some nd0 ∧ nd.1 = nd0.1 ∧ nd.2.length = nd0.2.length := by
    intro id' q nd hlt hq
    refine ⟨hS id' q (by omega), ?_⟩
    rw [show H' = _ from rfl, node_append, hlen, if_neg (by omega)] at hq
    rcases updH_back hrn hn hi hk hq with ⟨_, r, nd0, _, hkd, _⟩ | ⟨_, nd0, h2, h3, h4⟩
    · cases hkd
    · exact ⟨nd0, h2, h3, h4⟩
  have hfwd : ∀ id' q nd, node H id' q = some nd → ¬ (id' = id ∧ ∃ r, q = p ++ (i, k) :: r) → S' id' q = S id' q ∧ ∃ nd', node H' id' q = some nd' ∧ nd'.1 = nd.1 ∧ nd'.2.length = nd.2.length := by
    intro id' q nd hq hno
    have hlt := node_lt hq
    obtain ⟨nd', e1, e2, e3⟩ := updH_fwd (c' := .dead) hrn hn hi hk hq hno
    refine ⟨hS id' q (by omega), nd', ?_, e2, e3⟩
    rw [show H' = _ from rfl, node_append, hlen, if_neg (by omega)]
    exact e1
  refine ⟨⟨h.takeOut hn hi hk hc hl, ?_, by simp [H', hlen], hback, fun id' nd hq => ?_⟩, hfwd, ?_, ?_⟩
  · rintro b ⟨id', q, nd, o, cap, hq, hs⟩
    by_cases e : id' = H.length
    · subst e
      rw [show H' = _ from rfl, node_append, hlen, if_pos rfl] at hq
      simp only [S', shTake, if_true] at hs
      cases q with
      | nil =>
        simp only at hs
        split at hs
        · rename_i b' o' cap' hs'
          simp only [Option.some.injEq, Prod.mk.injEq] at hs
          obtain ⟨rfl, _, _⟩ := hs
          exact ⟨id, _, _, o', cap', hkid, hs'⟩
        · cases hs
      | cons x r =>
        obtain ⟨a, c⟩ := x
        simp only at hs
        refine ⟨id, _, nd, o, cap, ?_, hs⟩
        have := nodeAt_part hl hq
        obtain ⟨nd0, e1, e2⟩ := node_some hkid
        refine node_mk e1 ?_
        rw [nodeAt_append, e2]
        exact this
    · have hlt : id' < H.length := by
        have := node_lt hq
        simp [H', hlen] at this
        omega
      obtain ⟨e1, nd0, e2, _, _⟩ := hback id' q nd hlt hq
      rw [e1] at hs
      exact ⟨id', q, nd0, o, cap, e2, hs⟩
  · have hno : ¬ (id' = id ∧ ∃ r, ([] : Path) = p ++ (i, k) :: r) := by
      rintro ⟨_, r, hr⟩
      simp at hr
    obtain ⟨_, nd', e1, _, _⟩ := hfwd id' [] nd hq hno
    exact ⟨nd', e1⟩
  · rw [show H' = _ from rfl, node_append, hlen, if_pos rfl]; rfl
  · show shTake .. = _
    unfold shTake
    rw [if_pos rfl]
    cases S id (p ++ [(i, k)]) <;> rfl

def splitLast : Path → Option (Path × Nat × Nat)
  | [] => none
  | s :: r => match splitLast r with
    | some (p, x) => some (s :: p, x)
    | none => some ([], s.1, s.2)

theorem splitLast_spec : ∀ (q : Path), match splitLast q with | none => q = [] | some (p, i, k) => q = p ++ [(i, k)]
  | [] => rfl
  | s :: r => by
    have := splitLast_spec r
    simp only [splitLast]
    cases h : splitLast r with
    | none => rw [h] at this; simp only at this ⊢; subst this; rfl
    | some x => obtain ⟨p, i, k⟩ := x; rw [h] at this; simp only at this ⊢; subst this; rfl

/-- What a value refers to becomes a root. -/
def root1 (H : Hp) (x : V) : Option (List (Nat × Nat) × V × Hp) :=
  match x with
  | .ref id q sz off n => match splitLast q with
    | none => some ([], .ref id [] sz off n, H)
    | some (p, i, k) => match node H id p with
      | some (sz1, r1) => match cellAt r1 i k with
        | .own sz2 rows2 => if i < r1.length ∧ k < sz1 ∧ sz2 = sz ∧ off + n ≤ rows2.length then
            some ([(id, p.length + 1)], .ref H.length [] sz 0 n, updH H id p (setC · i k .dead) ++ [some (sz, part rows2 off n)]) else none
        | _ => none
      | none => none
  | .ptr id q i0 k0 => match splitLast q with
    | none => some ([], .ptr id [] i0 k0, H)
    | some (p, i, k) => match node H id p with
      | some (sz1, r1) => match cellAt r1 i k with
        | .box sz2 rows2 => if i < r1.length ∧ k < sz1 ∧ i0 = 0 ∧ k0 = 0 then
            some ([(id, p.length + 1)], .ptr H.length [] 0 0, updH H id p (setC · i k .dead) ++ [some (sz2, part rows2 0 rows2.length)]) else none
        | _ => none
      | none => none
  | .clo _ _ => none
  | .agg _ => none
  | .tup _ => none
  | .may _ _ => none
  | x => some ([], x, H)

/-- Nothing but roots. -/
def rootsOnly (x : V) : Prop := ∀ id p, (id, p) ∈ refsC x → p = []

theorem root1_sound {w : World} {F : Nat → Prop} {S0 S : Sh} {H0 H : Hp} (h : Taken w F S0 H0 S H) {x x' : V} {y : Value} {ks : List (Nat × Nat)} {H' : Hp} (hx : RVc w F S0 H0 x y) (he : root1 H x = some (ks, x', H')) :
    ∃ S', Taken w F S H S' H' ∧ RVc w F S' H' x' y ∧ rootsOnly x' ∧ (∀ k ∈ ks, 1 ≤ k.2) ∧
      (∀ id p nd, ¬ Killed ks id p → node H id p = some nd → S' id p = S id p ∧ ∃ nd', node H' id p = some nd' ∧ nd'.1 = nd.1 ∧ nd'.2.length = nd.2.length) := by
  have same : ∀ {x : V}, RVc w F S0 H0 x y → (∀ id p, (id, p) ∈ refsC x → p = []) → some (([] : List (Nat × Nat)), x, H) = some (ks, x', H') → ∃ S', Taken w F S H S' H' ∧ RVc w F S' H' x' y ∧ rootsOnly x' ∧ (∀ k ∈ ks, 1 ≤ k.2) ∧
      (∀ id p nd, ¬ Killed ks id p → node H id p = some nd → S' id p = S id p ∧ ∃ nd', node H' id p = some nd' ∧ nd'.1 = nd.1 ∧ nd'.2.length = nd.2.length) := by
    intro x hx hr he
    simp only [Option.some.injEq, Prod.mk.injEq] at he
    obtain ⟨rfl, rfl, rfl⟩ := he
    refine ⟨S, Taken.refl h.rw, RVc.taken h hx (fun id p hm => ?_), hr, by simp, fun id p nd _ hn => ⟨rfl, nd, hn, rfl, rfl⟩⟩
    obtain rfl := hr id p hm
    have : ∃ nd, node H0 id [] = some nd := by
      cases x <;> simp [refsC, refs1, V.clo?] at hm
      · obtain ⟨rfl, rfl⟩ := hm
        obtain ⟨nd, h1, _⟩ := hx
        exact ⟨nd, h1⟩
      · obtain ⟨rfl, rfl⟩ := hm
        obtain ⟨nd, h1, _⟩ := hx
        exact ⟨nd, h1⟩
      · rename_i f caps
        obtain ⟨c, hc1, hc2⟩ := hm
        simp only [RVc, V.clo?] at hx
        rcases hx with hx | ⟨ys, _, hl, hx⟩
        · cases hx with
          | clo _ _ ys hl hr' =>
            obtain ⟨j, hj⟩ := List.mem_iff_getElem?.1 hc1
            have hjl : j < ys.length := by
              rcases Nat.lt_or_ge j caps.length with h | h
              · omega
              · rw [List.getElem?_eq_none h] at hj; cases hj
            have := hr' j c _ hj (List.getElem?_eq_getElem hjl)
            cases c <;> simp [refs1] at hc2 <;> cases this
        · obtain ⟨j, hj⟩ := List.mem_iff_getElem?.1 hc1
          have hjl : j < ys.length := by
            rcases Nat.lt_or_ge j caps.length with h | h
            · omega
            · rw [List.getElem?_eq_none h] at hj; cases hj
          have := hx j c _ hj (List.getElem?_eq_getElem hjl)
          cases c <;> simp [refs1] at hc2
          · obtain ⟨rfl, rfl⟩ := hc2
            obtain ⟨nd, h1, _⟩ := this
            exact ⟨nd, h1⟩
          · obtain ⟨rfl, rfl⟩ := hc2
            obtain ⟨nd, h1, _⟩ := this
            exact ⟨nd, h1⟩
    obtain ⟨nd, h1⟩ := this
    exact h.root id nd h1
  have notK : ∀ {id : Nat} {p : Path} {i k : Nat} {id' : Nat} {q : Path}, ¬ Killed [(id, p.length + 1)] id' q → ¬ (id' = id ∧ ∃ r, q = p ++ (i, k) :: r) := by
    rintro id p i k id' q hno ⟨rfl, r, rfl⟩
    exact hno ⟨_, List.mem_singleton_self _, rfl, by simp⟩
  unfold root1 at he
  split at he
  · -- a slice
    rename_i id q sz off n
    have hq := splitLast_spec q
    split at he
    · rename_i hs
      rw [hs] at hq
      simp only at hq
      subst hq
      exact same hx (fun id' p' hm => by simp [refsC, V.clo?, refs1] at hm; exact hm.2) he
    · rename_i p i k hs
      rw [hs] at hq
      simp only at hq
      subst hq
      split at he
      · rename_i sz1 r1 hn
        split at he
        · rename_i sz2 rows2 hcell
          split at he
          · rename_i hcnd
            obtain ⟨c1, c2, rfl, c4⟩ := hcnd
            simp only [Option.some.injEq, Prod.mk.injEq] at he
            obtain ⟨rfl, rfl, rfl⟩ := he
            have hkid : (cellAt r1 i k).kid = some (sz2, rows2) := by rw [hcell]; rfl
            obtain ⟨t1, t2, t3, t4⟩ := take_facts h.rw hn c1 c2 hkid c4
            refine ⟨_, t1, ?_, fun id' p' hm => by simp [refsC, V.clo?, refs1] at hm; exact hm.2, fun k hk => ?_, fun id' p' nd hno hnd => t2 id' p' nd hnd (notK hno)⟩
            · have hnk : node H id (p ++ [(i, k)]) = some (sz2, rows2) := node_kid hn hkid
              have hx2 : RVc w F S H (.ref id (p ++ [(i, k)]) sz2 off n) y := RVc.taken h hx (fun id' p' hm => by
                simp [refsC, V.clo?, refs1] at hm
                obtain ⟨rfl, rfl⟩ := hm
                exact ⟨_, hnk⟩)
              simp only [RVc, V.clo?, RV1] at hx2 ⊢
              obtain ⟨nd, v1, v2, v3, v4⟩ := hx2
              rw [hnk] at v1
              injection v1 with v1
              subst v1
              refine ⟨_, t3, rfl, by rw [length_part c4]; omega, ?_⟩
              rw [t4]
              cases hS : S id (p ++ [(i, k)]) with
              | none => rw [hS] at v4; exact v4
              | some z =>
                obtain ⟨b, o, cap⟩ := z
                rw [hS] at v4
                obtain ⟨a, rfl, ha⟩ := v4
                refine ⟨a, by simp, fun hlt => ?_⟩
                rw [ha (by omega)]
                simp
            · simp only [List.mem_singleton] at hk; subst hk; simp
          · cases he
        · cases he
      · cases he
  · -- a pointer
    rename_i id q i0 k0
    have hq := splitLast_spec q
    split at he
    · rename_i hs
      rw [hs] at hq
      simp only at hq
      subst hq
      exact same hx (fun id' p' hm => by simp [refsC, V.clo?, refs1] at hm; exact hm.2) he
    · rename_i p i k hs
      rw [hs] at hq
      simp only at hq
      subst hq
      split at he
      · rename_i sz1 r1 hn
        split at he
        · rename_i sz2 rows2 hcell
          split at he
          · rename_i hcnd
            obtain ⟨c1, c2, rfl, rfl⟩ := hcnd
            simp only [Option.some.injEq, Prod.mk.injEq] at he
            obtain ⟨rfl, rfl, rfl⟩ := he
            have hkid : (cellAt r1 i k).kid = some (sz2, rows2) := by rw [hcell]; rfl
            obtain ⟨t1, t2, t3, t4⟩ := take_facts (off := 0) (n := rows2.length) h.rw hn c1 c2 hkid (by omega)
            refine ⟨_, t1, ?_, fun id' p' hm => by simp [refsC, V.clo?, refs1] at hm; exact hm.2, fun k hk => ?_, fun id' p' nd hno hnd => t2 id' p' nd hnd (notK hno)⟩
            · have hnk : node H id (p ++ [(i, k)]) = some (sz2, rows2) := node_kid hn hkid
              have hx2 : RVc w F S H (.ptr id (p ++ [(i, k)]) 0 0) y := RVc.taken h hx (fun id' p' hm => by
                simp [refsC, V.clo?, refs1] at hm
                obtain ⟨rfl, rfl⟩ := hm
                exact ⟨_, hnk⟩)
              simp only [RVc, V.clo?, RV1] at hx2 ⊢
              obtain ⟨nd, v1, v4⟩ := hx2
              refine ⟨_, t3, ?_⟩
              rw [t4]
              cases hS : S id (p ++ [(i, k)]) with
              | none => rw [hS] at v4; exact v4
              | some z =>
                obtain ⟨b, o, cap⟩ := z
                rw [hS] at v4
                simp only at v4 ⊢
                rw [v4]
                simp
            · simp only [List.mem_singleton] at hk; subst hk; simp
          · cases he
        · cases he
      · cases he
  · cases he
  · cases he
  · cases he
  · cases he
  · rename_i h1 h2 h3 h4 h5 h6
    refine same hx (fun id p hm => ?_) he
    cases x <;> simp [refsC, V.clo?, refs1] at hm
    · exact absurd rfl (h1 _ _ _ _ _)
    · exact absurd rfl (h2 _ _ _ _)
    · exact absurd rfl (h3 _ _)

end Go.Eng
