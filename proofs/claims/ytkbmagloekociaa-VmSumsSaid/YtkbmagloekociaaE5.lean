/- The engine, text 5 of 5: an abstract machine of owned objects and its laws; it speaks of any program. -/
import Derived.Test.YtkbmagloekociaaE4
namespace Go.Eng
open Go.RowKit
set_option linter.unusedSectionVars false
set_option linter.unusedVariables false
set_option linter.unusedSimpArgs false
variable [Globs]

/-- A cell and what it is once nobody writes it any more. -/
inductive Frz : V → V → Prop
  | v (x : Value) : Frz (.v x) (.v x)
  | fs (sz : Nat) (rows : Rows) : Frz (.fs sz rows) (.fs sz rows)
  | fp (sz : Nat) (rows : Rows) (i k : Nat) : Frz (.fp sz rows i k) (.fp sz rows i k)
  | clo (f : Nat) (cs : List V) : Frz (.clo f cs) (.clo f cs)
  | nil (sz : Nat) : Frz (.v (.slice none 0 0)) (.fs sz [])
  | own (sz : Nat) (rows rows' : Rows) (hl : rows'.length = rows.length) (hrl : ∀ (i : Nat) (r r' : List V), rows[i]? = some r → rows'[i]? = some r' → r'.length = r.length)
      (hc : ∀ (i k : Nat) (r r' : List V) (c c' : V), rows[i]? = some r → rows'[i]? = some r' → r[k]? = some c → r'[k]? = some c' → Frz c c') : Frz (.own sz rows) (.fs sz rows')
  | box (sz : Nat) (rows rows' : Rows) (hl : rows'.length = rows.length) (hrl : ∀ (i : Nat) (r r' : List V), rows[i]? = some r → rows'[i]? = some r' → r'.length = r.length)
      (hc : ∀ (i k : Nat) (r r' : List V) (c c' : V), rows[i]? = some r → rows'[i]? = some r' → r[k]? = some c → r'[k]? = some c' → Frz c c') : Frz (.box sz rows) (.fp sz rows' 0 0)

theorem cellAt_of {rows : Rows} {i k : Nat} {r : List V} {c : V} (h1 : rows[i]? = some r) (h2 : r[k]? = some c) : cellAt rows i k = c := by
  unfold cellAt
  rw [List.getD_eq_getElem?_getD, List.getD_eq_getElem?_getD, h1]
  simp [h2]

theorem lt_of_get {α : Type} {l : List α} {i : Nat} {x : α} (h : l[i]? = some x) : i < l.length := by
  rcases Nat.lt_or_ge i l.length with h1 | h1
  · exact h1
  · rw [List.getElem?_eq_none h1] at h; cases h

theorem get_some {α : Type} {l : List α} {i : Nat} (h : i < l.length) : ∃ x, l[i]? = some x := ⟨l[i], List.getElem?_eq_getElem h⟩

/-- The facts of a node that has a block, for what lies in it. -/
theorem frz_rows {w : World} {F F' : Nat → Prop} {S : Sh} {id : Nat} {q : Path} {sz : Nat} {rows rows' : Rows} {b o cap : Nat}
    (hl : rows'.length = rows.length) (hrl : ∀ (i : Nat) (r r' : List V), rows[i]? = some r → rows'[i]? = some r' → r'.length = r.length)
    (hs : S id q = some (b, o, cap)) (hrn : RN w F S id q (sz, rows))
    (ih : ∀ (i k : Nat) (r r' : List V) (c c' : V), rows[i]? = some r → rows'[i]? = some r' → r[k]? = some c → r'[k]? = some c' → ∀ y, RC w F S id (q ++ [(i, k)]) c y → RepF w F' c' y) :
    rows.length ≤ cap ∧ (∀ (i : Nat) (row : List V), rows'[i]? = some row → row.length = sz) ∧ ∃ g : Nat → Nat → Value,
      (∀ (i k : Nat) (row : List V) (c : V), rows'[i]? = some row → row[k]? = some c → w.cell? ⟨b, o + i * sz + k, none⟩ = some (g i k)) ∧
      (∀ (i k : Nat) (row : List V) (c : V), rows'[i]? = some row → row[k]? = some c → RepF w F' c (g i k)) := by
  unfold RN at hrn
  rw [hs] at hrn
  obtain ⟨f1, f2, arr, T, fr, f3, f4, f5, f6, f7⟩ := hrn
  simp only at f1 f5 f6 f7
  have old : ∀ {i : Nat} {row : List V}, rows'[i]? = some row → ∃ r, rows[i]? = some r ∧ r.length = sz ∧ row.length = sz := by
    intro i row hr
    obtain ⟨r, h⟩ := get_some (l := rows) (i := i) (by rw [← hl]; exact lt_of_get hr)
    have h6 := f6 r (List.mem_of_getElem? h)
    exact ⟨r, h, h6, (hrl i r row h hr).trans h6⟩
  refine ⟨f1, fun i row hr => (old hr).choose_spec.2.2, fun i k => arr.getD (o + i * sz + k) undef, fun i k row c hr hk => ?_, fun i k row c hr hk => ?_⟩
  · obtain ⟨r, h1, h2, h3⟩ := old hr
    obtain ⟨y, hy, _⟩ := f7 i k (lt_of_get h1) (by have := lt_of_get hk; omega)
    dsimp only
    rw [cell?_row f3, Array.getD_eq_getD_getElem?, hy]; rfl
  · obtain ⟨r, h1, h2, h3⟩ := old hr
    obtain ⟨y, hy, hrc⟩ := f7 i k (lt_of_get h1) (by have := lt_of_get hk; omega)
    obtain ⟨c0, hc0⟩ := get_some (l := r) (i := k) (by have := lt_of_get hk; omega)
    rw [cellAt_of h1 hc0] at hrc
    have e : arr.getD (o + i * sz + k) undef = y := by rw [Array.getD_eq_getD_getElem?, hy]; rfl
    dsimp only
    rw [e]
    exact ih i k r row c0 c h1 hr hc0 hk y hrc

theorem frz_rep {w : World} {F F' : Nat → Prop} {S : Sh} (hFF : ∀ b, F b → F' b) {c c' : V} (hf : Frz c c') : ∀ (id : Nat) (q : Path) (y : Value), RC w F S id q c y →
    (∀ nd0 r nd, c.kid = some nd0 → nodeAt nd0 r = some nd → RN w F S id (q ++ r) nd ∧ ∀ b o cap, S id (q ++ r) = some (b, o, cap) → F' b) → RepF w F' c' y := by
  induction hf with
  | v x => intro id q y h _; simp only [RC] at h; subst h; exact .v _
  | fs sz rows => intro id q y h _; exact RepF.mono (fun _ _ => rfl) hFF h
  | fp sz rows i k => intro id q y h _; exact RepF.mono (fun _ _ => rfl) hFF h
  | clo f cs => intro id q y h _; exact RepF.mono (fun _ _ => rfl) hFF h
  | nil sz => intro id q y h _; simp only [RC] at h; subst h; exact .fsnil _ _ _
  | own sz rows rows' hl hrl hc ih =>
    intro id q y h hn
    have hn0 := hn (sz, rows) [] (sz, rows) rfl rfl
    rw [List.append_nil] at hn0
    simp only [RC] at h
    cases hs : S id q with
    | none =>
      rw [hs] at h
      have hrn := hn0.1
      unfold RN at hrn
      rw [hs] at hrn
      simp only at hrn h
      subst hrn; subst h
      have : rows' = [] := List.length_eq_zero_iff.1 (by simpa using hl)
      subst this
      exact .fsnil _ _ _
    | some x =>
      obtain ⟨b, o, cap⟩ := x
      rw [hs] at h
      obtain ⟨a, rfl, ha⟩ := h
      by_cases h0 : rows = []
      · subst h0
        have : rows' = [] := List.length_eq_zero_iff.1 (by simpa using hl)
        subst this
        exact .fsnil _ _ _
      · obtain ⟨g1, g2, g, g3, g4⟩ := frz_rows (F' := F') hl hrl hs hn0.1 (fun i k r r' c c' e1 e2 e3 e4 y hy => by
          refine ih i k r r' c c' e1 e2 e3 e4 id (q ++ [(i, k)]) y hy (fun nd0 r0 nd hk hnd => ?_)
          have := hn (sz, rows) ((i, k) :: r0) nd rfl (by rw [nodeAt_cons]; simp only; rw [cellAt_of e1 e3, hk]; exact hnd)
          simpa using this)
        have hpos := List.length_pos_iff.2 h0
        have e := ha (by omega)
        subst e
        rw [← hl]
        exact .fs sz rows' b o cap g (hn0.2 b o cap hs) (by omega) g2 g3 g4
  | box sz rows rows' hl hrl hc ih =>
    intro id q y h hn
    have hn0 := hn (sz, rows) [] (sz, rows) rfl rfl
    rw [List.append_nil] at hn0
    simp only [RC] at h
    cases hs : S id q with
    | none => rw [hs] at h; exact h.elim
    | some x =>
      obtain ⟨b, o, cap⟩ := x
      rw [hs] at h
      subst h
      obtain ⟨g1, g2, g, g3, g4⟩ := frz_rows (F' := F') hl hrl hs hn0.1 (fun i k r r' c c' e1 e2 e3 e4 y hy => by
          refine ih i k r r' c c' e1 e2 e3 e4 id (q ++ [(i, k)]) y hy (fun nd0 r0 nd hk hnd => ?_)
          have := hn (sz, rows) ((i, k) :: r0) nd rfl (by rw [nodeAt_cons]; simp only; rw [cellAt_of e1 e3, hk]; exact hnd)
          simpa using this)
      have := RepF.fp (w := w) (F := F') sz rows' 0 0 b o g (hn0.2 b o cap hs) g2 g3 g4
      simpa using this

theorem Frz.kid {c c' : V} (h : Frz c c') : c'.kid = none := by cases h <;> rfl
theorem Frz.rc {w : World} {F : Nat → Prop} {S : Sh} {id : Nat} {p : Path} {c c' : V} {y : Value} (h : Frz c c') (hr : RepF w F c' y) : RC w F S id p c' y := by
  cases h <;> first | exact hr | (cases hr; rfl)

/-- Blocks at or below a place. -/
def Below' (S : Sh) (H : Hp) (id : Nat) (p : Path) (b : Nat) : Prop := ∃ r nd o cap, node H id (p ++ r) = some nd ∧ S id (p ++ r) = some (b, o, cap)

theorem RW.freezeCell {w : World} {F : Nat → Prop} {S : Sh} {H : Hp} (h : RW w F S H) {id : Nat} {p : Path} {sz : Nat} {r1 : Rows} {i k : Nat} {c' : V}
    (hn : node H id p = some (sz, r1)) (hi : i < r1.length) (hk : k < sz) (hf : Frz (cellAt r1 i k) c') :
    RW w (fun b => F b ∨ Below' S H id (p ++ [(i, k)]) b) S (updH H id p (setC · i k c')) := by
  have hrn := h.nodes id p _ hn
  cases hs : S id p with
  | none =>
    unfold RN at hrn
    rw [hs] at hrn
    simp only at hrn
    rw [hrn] at hi
    simp at hi
  | some x =>
    obtain ⟨b, o, cap⟩ := x
    have h9 := hrn
    unfold RN at h9
    rw [hs] at h9
    obtain ⟨f1, f2, arr, T, fr, f3, f4, f5, f6, f7⟩ := h9
    obtain ⟨v, hv, hrc⟩ := f7 i k hi hk
    have hkid : ∀ nd0 r nd, (cellAt r1 i k).kid = some nd0 → nodeAt nd0 r = some nd → node H id (p ++ [(i, k)] ++ r) = some nd := by
      intro nd0 r nd e1 e2
      obtain ⟨nd1, g1, g2⟩ := node_some hn
      refine node_mk g1 ?_
      rw [List.append_assoc, nodeAt_append, g2]
      simp only [Option.bind_some, List.singleton_append, nodeAt_cons, e1]
      exact e2
    have hrep := frz_rep (F' := fun b => F b ∨ Below' S H id (p ++ [(i, k)]) b) (fun b hb => .inl hb) hf id (p ++ [(i, k)]) v hrc (fun nd0 r nd e1 e2 => by
      have hnd := hkid nd0 r nd e1 e2
      exact ⟨h.nodes _ _ _ hnd, fun b o cap hb => .inr ⟨r, nd, o, cap, hnd, hb⟩⟩)
    have hnk := hf.kid
    refine h.put (y' := v) hn hi hk hs (fun _ _ _ _ _ => rfl) (fun arr' T' fr' he => ?_) (fun _ _ _ => rfl) (fun _ h => .inl h) (fun b' hb => ?_) (fun b' hb => ?_) ?_ (fun nd0 r nd' hc => by rw [hnk] at hc; cases hc) (fun nd0 r nd' b1 o1 c1 hc => by rw [hnk] at hc; cases hc)
    · rw [f3] at he
      injection he with he
      injection he with e1 e2 e3
      subst e1; subst e2; subst e3
      rw [f3]
      congr 2
      simp only at hv
      apply Array.ext_getElem?
      intro j
      by_cases e : o + i * sz + k = j
      · subst e
        have hlt : o + i * sz + k < arr.size := by
          rcases Nat.lt_or_ge (o + i * sz + k) arr.size with h | h
          · exact h
          · rw [Array.getElem?_eq_none h] at hv; cases hv
        rw [Array.getElem?_setIfInBounds_self_of_lt hlt, hv]
      · rw [Array.getElem?_setIfInBounds_ne e]
    · rcases hb with hb | ⟨r, nd, o1, c1, e1, e2⟩
      · exact h.froz _ hb
      · exact ((h.nodes _ _ _ e1).notF e2).2
    · rcases hb with hb | ⟨r, nd, o1, c1, e1, e2⟩
      · exact .inl hb
      · refine .inr (fun id' q nd' o2 c2 hq hno hs2 => ?_)
        obtain ⟨rfl, rfl⟩ := h.inj _ _ _ _ _ _ _ _ _ _ _ hq e1 hs2 e2
        exact hno ⟨rfl, r, by simp⟩
    · exact hf.rc hrep

theorem RW.freezeRoot {w : World} {F : Nat → Prop} {S : Sh} {H : Hp} (h : RW w F S H) {id : Nat} :
    RW w (fun b => F b ∨ Below' S H id [] b) S (H.set id none) where
  nodes id' p nd hq := by
    rw [node_set_none] at hq
    split at hq
    · cases hq
    rename_i hne
    refine RN.mono (fun _ _ => rfl) (fun b hb => .inl hb) rfl (fun _ _ _ _ => rfl) (fun b ⟨o, cap, hs⟩ => ⟨rfl, fun hF hb => ?_⟩) (h.nodes id' p nd hq)
    rcases hb with hb | ⟨r, nd, o1, c1, e1, e2⟩
    · exact hF hb
    · obtain ⟨rfl, _⟩ := h.inj _ _ _ _ _ _ _ _ _ _ _ hq e1 hs e2
      exact hne rfl
  inj id p nd id' p' nd' b o cap o' cap' hq hq' hs hs' := by
    rw [node_set_none] at hq hq'
    split at hq
    · cases hq
    split at hq'
    · cases hq'
    exact h.inj _ _ _ _ _ _ _ _ _ _ _ hq hq' hs hs'
  froz b hb := by
    rcases hb with hb | ⟨r, nd, o1, c1, e1, e2⟩
    · exact h.froz _ hb
    · exact ((h.nodes _ _ _ e1).notF e2).2


/-- Other leaves of a value. -/
def mapC (g : V → V) (x : V) : V :=
  match x.clo? with
  | some (f, caps) => .clo f (caps.map g)
  | none => g x
def map2 (g : V → V) (x : V) : V :=
  match x.agg? with
  | some vs => .agg (vs.map (mapC g))
  | none => mapC g x
def map3 (g : V → V) (x : V) : V :=
  match x.tup? with
  | some vs => .tup (vs.map (map2 g))
  | none => map2 g x

/-- It makes leaves of leaves. -/
def LeafMap (g : V → V) : Prop := ∀ x, x.clo? = none → x.agg? = none → x.tup? = none → (g x).clo? = none ∧ (g x).agg? = none ∧ (g x).tup? = none ∧ (x.may? = none → (g x).may? = none)

section
variable {w : World} {F F' : Nat → Prop} {S : Sh} {H H' : Hp} {g : V → V}

theorem RVc.map (hg : LeafMap g) (hl : ∀ x y, x.clo? = none → x.agg? = none → x.tup? = none → RV1 w F S H x y → RV1 w F' S H' (g x) y) {x : V} {y : Value} (h : RVc w F S H x y) (hcl : x.clo? = none) (ha : x.agg? = none) (ht : x.tup? = none) : RVc w F' S H' (mapC g x) y := by
  unfold RVc at h ⊢
  unfold mapC
  rw [hcl] at h ⊢
  simp only
  rw [(hg x hcl ha ht).1]
  exact hl x y hcl ha ht h

theorem RVc_not {x : V} {y : Value} (h : RVc w F S H x y) : x.agg? = none ∧ x.tup? = none := by
  cases x <;> first | exact ⟨rfl, rfl⟩ | (simp [RVc, V.clo?, RV1] at h)

theorem mapC_sel (hg : LeafMap g) (x : V) (h : x.clo? = none) (h2 : x.agg? = none) (h3 : x.tup? = none) : (mapC g x).agg? = none ∧ (mapC g x).tup? = none ∧ (x.may? = none → (mapC g x).may? = none) := by
  unfold mapC
  rw [h]
  exact (hg x h h2 h3).2

theorem RV2.map (hg : LeafMap g) (hl : ∀ x y, x.clo? = none → x.agg? = none → x.tup? = none → RV1 w F S H x y → RV1 w F' S H' (g x) y) {x : V} {y : Value} (h : RV2 w F S H x y) (hcl : noClo x = true) : RV2 w F' S H' (map2 g x) y := by
  unfold RV2 at h ⊢
  unfold map2
  cases ha : x.agg? with
  | some vs =>
    rw [ha] at h
    simp only [V.agg?]
    obtain ⟨ys, h1, h2, h3⟩ := h
    cases x <;> simp [V.agg?] at ha
    subst ha
    refine ⟨ys, h1, by simpa using h2, fun i c z hc hz => ?_⟩
    rw [List.getElem?_map] at hc
    rename_i us
    cases hv : us[i]? with
    | none => rw [hv] at hc; cases hc
    | some c0 =>
      rw [hv] at hc
      simp only [Option.map_some, Option.some.injEq] at hc
      subst hc
      have hm := List.mem_of_getElem? hv
      have h4 := h3 i c0 z hv hz
      refine RVc.map hg hl h4 ?_ (RVc_not h4).1 (RVc_not h4).2
      have := List.all_eq_true.1 hcl c0 hm
      simpa using this
  | none =>
    rw [ha] at h
    have hcl' : x.clo? = none := by cases x <;> simp [noClo, V.clo?] at hcl ⊢
    have ht := (RVc_not h).2
    simp only
    rw [(mapC_sel hg x hcl' ha ht).1]
    exact RVc.map hg hl h hcl' ha ht

theorem RV3.map (hg : LeafMap g) (hl : ∀ x y, x.clo? = none → x.agg? = none → x.tup? = none → RV1 w F S H x y → RV1 w F' S H' (g x) y) {x : V} {y : Value} (h : RV3 w F S H x y) (hcl : noClo x = true) : RV3 w F' S H' (map3 g x) y := by
  unfold RV3 at h ⊢
  unfold map3
  cases ha : x.tup? with
  | some vs =>
    rw [ha] at h
    simp only [V.tup?]
    obtain ⟨ys, h1, h2, h3⟩ := h
    cases x <;> simp [V.tup?] at ha
    subst ha
    refine ⟨ys, h1, by simpa using h2, fun i c z hc hz => ?_⟩
    rw [List.getElem?_map] at hc
    rename_i us
    cases hv : us[i]? with
    | none => rw [hv] at hc; cases hc
    | some c0 =>
      rw [hv] at hc
      simp only [Option.map_some, Option.some.injEq] at hc
      subst hc
      have hm := List.mem_of_getElem? hv
      refine RV2.map hg hl (h3 i c0 z hv hz) ?_
      have hall := List.all_eq_true.1 hcl c0 hm
      cases c0 <;> simp [noClo] at hall ⊢
      exact hall
  | none =>
    rw [ha] at h
    simp only
    have : (map2 g x).tup? = none := by
      unfold map2
      cases hag : x.agg? with
      | some vs => rfl
      | none =>
        simp only
        have hcl' : x.clo? = none := by cases x <;> simp [noClo, V.clo?] at hcl ⊢
        exact (mapC_sel hg x hcl' hag ha).2.1
    rw [this]
    exact RV2.map hg hl h hcl

theorem RV.map (hg : LeafMap g) (hl : ∀ x y, x.clo? = none → x.agg? = none → x.tup? = none → RV1 w F S H x y → RV1 w F' S H' (g x) y) {x : V} {y : Value} (h : RV w F S H x y) (hcl : noClo x = true) (hm : x.may? = none) : RV w F' S H' (map3 g x) y := by
  refine RV.mk3 ?_ (RV3.map hg hl (RV.of3 hm h) hcl)
  unfold map3
  cases ht : x.tup? with
  | some vs => rfl
  | none =>
    simp only
    unfold map2
    cases ha : x.agg? with
    | some vs => rfl
    | none =>
      have hcl' : x.clo? = none := by cases x <;> simp [noClo, V.clo?] at hcl ⊢
      exact (mapC_sel hg x hcl' ha ht).2.2 hm
end

/-- WHAT MAY BE SAID LESS of a result. -/
def Weak (base : Nat) (z : V) (H : Hp) (z' : V) (H' : Hp) : Prop :=
  ∀ (w : World) (F : Nat → Prop) (S : Sh) (v : Value), RW w F S H → RV w F S H z v → ∃ F' : Nat → Prop, RW w F' S H' ∧ RV w F' S H' z' v ∧ (∀ b, F b → F' b) ∧ (∀ b, F' b → F b ∨ Own S H b) ∧ (∀ b, Own S H' b → Own S H b) ∧
    ∀ id p nd, id < base → node H id p = some nd → node H' id p = some nd

theorem Weak.refl (base : Nat) (z : V) (H : Hp) : Weak base z H z H := fun w F S v h1 h2 => ⟨F, h1, h2, fun _ h => h, fun _ h => .inl h, fun _ h => h, fun _ _ _ _ h => h⟩

theorem Weak.trans {base : Nat} {z z' z'' : V} {H H' H'' : Hp} (h : Weak base z H z' H') (k : Weak base z' H' z'' H'') : Weak base z H z'' H'' := by
  intro w F S v h1 h2
  obtain ⟨F', a1, a2, a3, a4, a5, a6⟩ := h w F S v h1 h2
  obtain ⟨F'', b1, b2, b3, b4, b5, b6⟩ := k w F' S v a1 a2
  exact ⟨F'', b1, b2, fun b hb => b3 b (a3 b hb), fun b hb => (b4 b hb).elim (a4 b) (fun ho => .inr (a5 b ho)), fun b hb => a5 b (b5 b hb), fun id p nd hlt hn => b6 id p nd hlt (a6 id p nd hlt hn)⟩

/-- Another heap with the same nodes. -/
theorem Weak.nodes {base : Nat} {z : V} {H H' : Hp} (h : ∀ id p, node H' id p = node H id p) : Weak base z H z H' := by
  intro w F S v h1 h2
  refine ⟨F, ⟨fun id p nd hn => h1.nodes id p nd (by rw [← h]; exact hn), fun id p nd id' p' nd' b o cap o' cap' e1 e2 => h1.inj id p nd id' p' nd' b o cap o' cap' (by rw [← h]; exact e1) (by rw [← h]; exact e2), h1.froz⟩, ?_, fun _ h => h, fun _ h => .inl h, fun b ⟨id, p, nd, o, cap, e1, e2⟩ => ⟨id, p, nd, o, cap, by rw [← h]; exact e1, e2⟩, fun id p nd _ hn => by rw [h]; exact hn⟩
  exact RV.mono (fun _ _ => rfl) (fun _ h => h) h2 (fun id p nd _ hn => ⟨rfl, nd, by rw [h]; exact hn, rfl, rfl⟩)

theorem node_snoc_none (H : Hp) (id : Nat) (p : Path) : node (H ++ [none]) id p = node H id p := by
  unfold node
  by_cases h : id < H.length
  · rw [List.getElem?_append_left h]
  · rw [List.getElem?_append_right (by omega), List.getElem?_eq_none (l := H) (by omega)]
    cases id - H.length <;> simp

theorem Weak.snoc {base : Nat} {z : V} {H : Hp} : Weak base z (H ++ [none]) z H := Weak.nodes (fun id p => (node_snoc_none H id p).symm)

/-- A cell is frozen. -/
theorem Weak.cell {base : Nat} {z : V} {H : Hp} {id : Nat} {p : Path} {sz : Nat} {r1 : Rows} {i k : Nat} {c' : V} (hb : base ≤ id) (hn : node H id p = some (sz, r1)) (hi : i < r1.length) (hk : k < sz) (hf : Frz (cellAt r1 i k) c')
    (hz : ∀ q, (id, p ++ (i, k) :: q) ∉ refs z) : Weak base z H z (updH H id p (setC · i k c')) := by
  intro w F S v h1 h2
  have hrn := h1.nodes id p _ hn
  obtain ⟨⟨sz0, rows0⟩, g1, g2⟩ := node_some hn
  have hnk := hf.kid
  have hk' : k < (r1.getD i []).length := by rw [rowlen_of hrn hi]; exact hk
  have U := nodeAt_upd p sz0 rows0 sz r1 i k c' g2 hi hk'
  have fwd : ∀ id' q nd, node H id' q = some nd → ¬ (id' = id ∧ ∃ r, q = p ++ (i, k) :: r) → ∃ nd', node (updH H id p (setC · i k c')) id' q = some nd' ∧ nd'.1 = nd.1 ∧ nd'.2.length = nd.2.length := by
    intro id' q nd hq hno
    exact updH_fwd (c' := c') hrn hn hi hk hq hno
  have bwd : ∀ id' q nd', node (updH H id p (setC · i k c')) id' q = some nd' → ∃ nd, node H id' q = some nd := by
    intro id' q nd' hq
    rw [node_updH g1] at hq
    by_cases e : id' = id
    · subst e
      rw [if_pos rfl] at hq
      by_cases hr : ∃ r, q = p ++ (i, k) :: r
      · obtain ⟨r, rfl⟩ := hr
        have := (U _).1 r rfl
        rw [hq, hnk] at this
        cases this
      · have := (U q).2 hr
        cases hq0 : nodeAt (sz0, rows0) q with
        | none => rw [hq0] at this; simp only at this; rw [this] at hq; cases hq
        | some nd => exact ⟨nd, node_mk g1 hq0⟩
    · rw [if_neg e] at hq
      exact ⟨nd', hq⟩
  refine ⟨_, h1.freezeCell hn hi hk hf, ?_, fun b hb => .inl hb, fun b hb => ?_, fun b ⟨id', q, nd', o, cap, e1, e2⟩ => ?_, fun id' q nd hlt hq => ?_⟩
  · refine RV.mono (fun _ _ => rfl) (fun _ h => .inl h) h2 (fun id' q nd hm hq => ⟨rfl, fwd id' q nd hq ?_⟩)
    rintro ⟨rfl, r, rfl⟩
    exact hz r hm
  · rcases hb with hb | ⟨r, nd, o, cap, e1, e2⟩
    · exact .inl hb
    · exact .inr ⟨_, _, nd, o, cap, e1, e2⟩
  · obtain ⟨nd, hnd⟩ := bwd id' q nd' e1
    exact ⟨id', q, nd, o, cap, hnd, e2⟩
  · rw [node_updH g1, if_neg (by omega)]; exact hq

/-- A slice of, a pointer into a frozen object. -/
def frz1 (id sz : Nat) (rows' : Rows) (x : V) : V :=
  match x with
  | .ref id' [] sz' off n => if id' = id then .fs sz (part rows' off n) else .ref id' [] sz' off n
  | .ref id' (s :: p) sz' off n => if id' = id then .dead else .ref id' (s :: p) sz' off n
  | .ptr id' [] i k => if id' = id then .fp sz rows' i k else .ptr id' [] i k
  | .ptr id' (s :: p) i k => if id' = id then .dead else .ptr id' (s :: p) i k
  | x => x

theorem frz1_leaf (id sz : Nat) (rows' : Rows) : LeafMap (frz1 id sz rows') := by
  intro x h1 h2 h3
  cases x with
  | ref id' p a b c => cases p <;> simp only [frz1] <;> split <;> exact ⟨rfl, rfl, rfl, fun _ => rfl⟩
  | ptr id' p a b => cases p <;> simp only [frz1] <;> split <;> exact ⟨rfl, rfl, rfl, fun _ => rfl⟩
  | _ => exact ⟨h1, h2, h3, fun h => h⟩

/-- An object is frozen. -/
theorem Weak.root {base : Nat} {z : V} {H : Hp} {id sz : Nat} {rows rows' : Rows} (hb : base ≤ id) (hn : H[id]? = some (some (sz, rows))) (hf : Frz (.own sz rows) (.fs sz rows')) (hcl : noClo z = true) (hm : z.may? = none) :
    Weak base z H (map3 (frz1 id sz rows') z) (H.set id none) := by
  intro w F S v h1 h2
  have hnode : node H id [] = some (sz, rows) := by simp [node, hn, nodeAt]
  have hrn := h1.nodes id [] _ hnode
  have hsub : ∀ nd0 r nd, V.kid (.own sz rows) = some nd0 → nodeAt nd0 r = some nd → RN w F S id ([] ++ r) nd ∧ ∀ b o cap, S id ([] ++ r) = some (b, o, cap) → (F b ∨ Below' S H id [] b) := by
    intro nd0 r nd e1 e2
    simp only [V.kid, Option.some.injEq] at e1
    subst e1
    have : node H id r = some nd := node_mk hn e2
    exact ⟨h1.nodes _ _ _ this, fun b o cap hs => .inr ⟨r, nd, o, cap, this, hs⟩⟩
  -- the rows, frozen
  have hroot : ∀ (b o cap : Nat), S id [] = some (b, o, cap) → rows.length ≤ cap ∧ rows'.length = rows.length ∧ (F b ∨ Below' S H id [] b) ∧ (∀ (i : Nat) (row : List V), rows'[i]? = some row → row.length = sz) ∧ ∃ g : Nat → Nat → Value,
      (∀ (i k : Nat) (row : List V) (c : V), rows'[i]? = some row → row[k]? = some c → w.cell? ⟨b, o + i * sz + k, none⟩ = some (g i k)) ∧
      (∀ (i k : Nat) (row : List V) (c : V), rows'[i]? = some row → row[k]? = some c → RepF w (fun b => F b ∨ Below' S H id [] b) c (g i k)) := by
    intro b o cap hs
    cases hf with
    | own _ _ _ hl hrl hc =>
      obtain ⟨g1, g2, g, g3, g4⟩ := frz_rows (F' := fun b => F b ∨ Below' S H id [] b) hl hrl hs hrn (fun i k r r' c c' e1 e2 e3 e4 y hy => by
        refine frz_rep (fun b hb => .inl hb) (hc i k r r' c c' e1 e2 e3 e4) id ([] ++ [(i, k)]) y hy (fun nd0 r0 nd hk hnd => ?_)
        have := hsub (sz, rows) ((i, k) :: r0) nd rfl (by rw [nodeAt_cons]; simp only; rw [cellAt_of e1 e3, hk]; exact hnd)
        simpa using this)
      exact ⟨g1, hl, (hsub _ [] _ rfl rfl).2 b o cap hs, g2, g, g3, g4⟩
  have hnone : S id [] = none → rows = [] ∧ rows' = [] := by
    intro hs
    unfold RN at hrn
    rw [hs] at hrn
    simp only at hrn
    subst hrn
    cases hf with
    | own _ _ _ hl hrl hc => exact ⟨rfl, List.length_eq_zero_iff.1 (by simpa using hl)⟩
  refine ⟨_, h1.freezeRoot (id := id), ?_, fun b hb => .inl hb, fun b hb => ?_, fun b ⟨id', q, nd', o, cap, e1, e2⟩ => ?_, fun id' q nd hlt hq => ?_⟩
  · refine RV.map (frz1_leaf id sz rows') ?_ h2 hcl hm
    intro x y _ _ _ hx
    cases x with
    | ref id' p sz' off n =>
      obtain ⟨nd, a1, a2, a3, a4⟩ := hx
      have other : id' ≠ id → RV1 w (fun b => F b ∨ Below' S H id [] b) S (H.set id none) (.ref id' p sz' off n) y := fun hne => ⟨nd, by rw [node_set_none, if_neg hne]; exact a1, a2, a3, a4⟩
      cases p with
      | cons s p => simp only [frz1]; split; trivial; exact other ‹_›
      | nil =>
        simp only [frz1]
        split
        · rename_i e
          subst e
          rw [hnode] at a1
          injection a1 with a1
          subst a1
          simp only at a2 a3
          subst a2
          show RepF _ _ _ _
          cases hs : S id' [] with
          | none =>
            rw [hs] at a4
            simp only at a4
            obtain ⟨e1, e2⟩ := hnone hs
            subst e1; subst e2; subst a4
            have : part ([] : Rows) off n = [] := by simp [part]
            rw [this]
            exact .fsnil _ _ _
          | some q =>
            obtain ⟨b, o, cap⟩ := q
            rw [hs] at a4
            obtain ⟨a, rfl, ha⟩ := a4
            obtain ⟨g1, gl, gF, g2, g, g3, g4⟩ := hroot b o cap hs
            have hlen : (part rows' off n).length = n := length_part (by omega)
            have hget : ∀ i, i < n → (part rows' off n)[i]? = rows'[off + i]? := by
              intro i hi
              simp only [part]
              rw [List.getElem?_take_of_lt hi, List.getElem?_drop]
            by_cases h0 : n = 0
            · subst h0
              have : part rows' off 0 = [] := by simp [part]
              rw [this]
              exact .fsnil _ _ _
            · have e := ha (by omega)
              subst e
              have := RepF.fs (w := w) (F := fun b => F b ∨ Below' S H id' [] b) sz (part rows' off n) b (o + off * sz) (cap - off) (fun i k => g (off + i) k) gF (by rw [hlen]; omega)
                (fun i row hr => by
                  have hi := lt_of_get hr
                  rw [hlen] at hi
                  rw [hget i hi] at hr
                  exact g2 _ _ hr)
                (fun i k row c hr hk => by
                  have hi := lt_of_get hr
                  rw [hlen] at hi
                  rw [hget i hi] at hr
                  have := g3 _ _ _ _ hr hk
                  rw [← this]; congr 2; rw [Nat.add_mul]; omega)
                (fun i k row c hr hk => by
                  have hi := lt_of_get hr
                  rw [hlen] at hi
                  rw [hget i hi] at hr
                  exact g4 _ _ _ _ hr hk)
              rw [hlen] at this
              exact this
        · exact other ‹_›
    | ptr id' p i k =>
      obtain ⟨nd, a1, a4⟩ := hx
      have other : id' ≠ id → RV1 w (fun b => F b ∨ Below' S H id [] b) S (H.set id none) (.ptr id' p i k) y := fun hne => ⟨nd, by rw [node_set_none, if_neg hne]; exact a1, a4⟩
      cases p with
      | cons s p => simp only [frz1]; split; trivial; exact other ‹_›
      | nil =>
        simp only [frz1]
        split
        · rename_i e
          subst e
          rw [hnode] at a1
          injection a1 with a1
          subst a1
          show RepF _ _ _ _
          cases hs : S id' [] with
          | none => rw [hs] at a4; exact a4.elim
          | some q =>
            obtain ⟨b, o, cap⟩ := q
            rw [hs] at a4
            simp only at a4
            subst a4
            obtain ⟨g1, gl, gF, g2, g, g3, g4⟩ := hroot b o cap hs
            exact .fp sz rows' i k b o g gF g2 g3 g4
        · exact other ‹_›
    | v x => exact hx
    | fs sz' r => exact RepF.mono (fun _ _ => rfl) (fun b hb => .inl hb) hx
    | fp sz' r i k => exact RepF.mono (fun _ _ => rfl) (fun b hb => .inl hb) hx
    | _ => exact hx
  · rcases hb with hb | ⟨r, nd, o, cap, e1, e2⟩
    · exact .inl hb
    · exact .inr ⟨_, _, nd, o, cap, e1, e2⟩
  · rw [node_set_none] at e1
    split at e1
    · cases e1
    · exact ⟨id', q, nd', o, cap, e1, e2⟩
  · rw [node_set_none, if_neg (by omega)]; exact hq

/-- Slices that are nil. -/
def nil1 (sz : Nat) (x : V) : V :=
  match x with
  | .v (.slice none 0 0) => .fs sz []
  | x => x

theorem nil1_leaf (sz : Nat) : LeafMap (nil1 sz) := by
  intro x h1 h2 h3
  unfold nil1
  split
  · exact ⟨rfl, rfl, rfl, fun _ => rfl⟩
  · exact ⟨h1, h2, h3, fun h => h⟩

theorem Weak.nil {base : Nat} {z : V} {H : Hp} (sz : Nat) (hcl : noClo z = true) (hm : z.may? = none) : Weak base z H (map3 (nil1 sz) z) H := by
  intro w F S v h1 h2
  refine ⟨F, h1, ?_, fun _ h => h, fun _ h => .inl h, fun _ h => h, fun _ _ _ _ h => h⟩
  refine RV.map (nil1_leaf sz) ?_ h2 hcl hm
  intro x y _ _ _ hx
  unfold nil1
  split
  · simp only [RV1] at hx; subst hx; exact RepF.fsnil _ _ _
  · exact hx

/-- A contract that says less. -/
theorem Meets.weak {P : Program} {f : Nat} {s s' : Spec} (h : Meets P f s) (hm : s'.modes = s.modes) (hw : ∀ args H z' H', s'.f args H = some (z', H') → ∃ z0 H0, s.f args H = some (z0, H0) ∧ Weak H.length z0 H0 z' H') : Meets P f s' := by
  intro args H z' H' hs w F S ys hrw hgl hl hr
  obtain ⟨z0, H0, h0, hwk⟩ := hw args H z' H' hs
  refine (h args H z0 H0 h0 w F S ys hrw hgl hl hr).mono ?_
  rintro e w' ⟨v, rfl, F', S', st⟩
  obtain ⟨F'', a1, a2, a3, a4, a5, a6⟩ := hwk w' F' S' v st.rw st.val
  refine ⟨v, rfl, F'', S', a1, ⟨st.stp.os, st.stp.tape, st.stp.output, st.stp.size, st.stp.block, fun b hb => st.stp.own b (a5 b hb), fun b hb => ?_, fun b hb => a3 b (st.stp.keeps b hb)⟩, a2, fun id p nd hk hn => ?_, st.blk⟩
  · rcases a4 b hb with h1 | h1
    · exact st.stp.frozen b h1
    · exact (st.stp.own b h1).elim (fun h => .inr (.inl h)) (fun h => .inr (.inr h))
  · rw [hm] at hk
    obtain ⟨e1, nd', e2, e3, e4⟩ := st.kept id p nd hk hn
    exact ⟨e1, nd', a6 id p nd' (node_lt hn) e2, e3, e4⟩

def RowFrz : List V → List V → Prop
  | [], [] => True
  | c :: r, c' :: r' => Frz c c' ∧ RowFrz r r'
  | _, _ => False

theorem RowFrz.len : ∀ {r r' : List V}, RowFrz r r' → r'.length = r.length
  | [], [], _ => rfl
  | c :: r, c' :: r', h => by simp [RowFrz.len h.2]
  | [], _ :: _, h => h.elim
  | _ :: _, [], h => h.elim

theorem RowFrz.get : ∀ {r r' : List V}, RowFrz r r' → ∀ (k : Nat) (c c' : V), r[k]? = some c → r'[k]? = some c' → Frz c c'
  | [], [], _, k, c, c', h1, _ => by simp at h1
  | a :: r, a' :: r', h, 0, c, c', h1, h2 => by
    simp only [List.getElem?_cons_zero, Option.some.injEq] at h1 h2
    subst h1; subst h2; exact h.1
  | a :: r, a' :: r', h, k + 1, c, c', h1, h2 => RowFrz.get h.2 k c c' (by simpa using h1) (by simpa using h2)
  | [], _ :: _, h, _, _, _, _, _ => h.elim
  | _ :: _, [], h, _, _, _, _, _ => h.elim

theorem Frz.map {α : Type} (sz : Nat) (f g : α → List V) (xs : List α) (h : ∀ x ∈ xs, RowFrz (f x) (g x)) : Frz (.own sz (xs.map f)) (.fs sz (xs.map g)) := by
  have key : ∀ (i : Nat) (r r' : List V), (xs.map f)[i]? = some r → (xs.map g)[i]? = some r' → RowFrz r r' := by
    intro i r r' h1 h2
    rw [List.getElem?_map] at h1 h2
    cases hx : xs[i]? with
    | none => rw [hx] at h1; cases h1
    | some x =>
      rw [hx] at h1 h2
      simp only [Option.map_some, Option.some.injEq] at h1 h2
      subst h1; subst h2
      exact h x (List.mem_of_getElem? hx)
  exact .own sz _ _ (by simp) (fun i r r' h1 h2 => (key i r r' h1 h2).len) (fun i k r r' c c' h1 h2 h3 h4 => (key i r r' h1 h2).get k c c' h3 h4)

theorem Frz.rows1 (k : IntKind) (xs : List Int) : Frz (.own 1 (xs.map (row1 k))) (.fs 1 (xs.map (row1 k))) := Frz.map 1 _ _ xs (fun x _ => ⟨.v _, trivial⟩)

theorem Weak.fresh {H : Hp} {sz : Nat} {rows rows' : Rows} (hf : Frz (.own sz rows) (.fs sz rows')) : Weak H.length (.ref H.length [] sz 0 rows.length) (H ++ [some (sz, rows)]) (.fs sz rows') H := by
  have h1 := Weak.root (base := H.length) (z := .ref H.length [] sz 0 rows.length) (H := H ++ [some (sz, rows)]) (id := H.length) (sz := sz) (rows := rows) (rows' := rows') (Nat.le_refl _) (by simp) hf rfl rfl
  have e1 : map3 (frz1 H.length sz rows') (.ref H.length [] sz 0 rows.length) = .fs sz (part rows' 0 rows.length) := by simp [map3, map2, mapC, V.tup?, V.agg?, V.clo?, frz1]
  have hl : rows'.length = rows.length := by cases hf; assumption
  have e2 : part rows' 0 rows.length = rows' := by simp [part, ← hl]
  have e3 : (H ++ [some (sz, rows)]).set H.length none = H ++ [none] := by simp
  rw [e1, e2, e3] at h1
  exact h1.trans Weak.snoc

theorem Weak.nilS {base : Nat} {H : Hp} (sz : Nat) : Weak base (.v (.slice none 0 0)) H (.fs sz []) H := by
  have := Weak.nil (base := base) (z := .v (.slice none 0 0)) (H := H) sz rfl rfl
  simpa [map3, map2, mapC, V.tup?, V.agg?, V.clo?, nil1] using this

theorem Weak.fresh2 {H : Hp} {sz : Nat} {rows rows' : Rows} {y : Value} (hf : Frz (.own sz rows) (.fs sz rows')) : Weak H.length (.tup [.ref H.length [] sz 0 rows.length, .v y]) (H ++ [some (sz, rows)]) (.tup [.fs sz rows', .v y]) H := by
  have h1 := Weak.root (base := H.length) (z := .tup [.ref H.length [] sz 0 rows.length, .v y]) (H := H ++ [some (sz, rows)]) (id := H.length) (sz := sz) (rows := rows) (rows' := rows') (Nat.le_refl _) (by simp) hf rfl rfl
  have e1 : map3 (frz1 H.length sz rows') (.tup [.ref H.length [] sz 0 rows.length, .v y]) = .tup [.fs sz (part rows' 0 rows.length), .v y] := by simp [map3, map2, mapC, V.tup?, V.agg?, V.clo?, frz1]
  have hl : rows'.length = rows.length := by cases hf; assumption
  have e2 : part rows' 0 rows.length = rows' := by simp [part, ← hl]
  have e3 : (H ++ [some (sz, rows)]).set H.length none = H ++ [none] := by simp
  rw [e1, e2, e3] at h1
  exact h1.trans Weak.snoc

end Go.Eng

namespace Go.Eng
open Go.RowKit
set_option linter.unusedSectionVars false
set_option linter.unusedVariables false
set_option linter.unusedSimpArgs false
variable [Globs]

def frzRef (sz : Nat) (rows' : Rows) : Path → Nat → Nat → V
  | [], off, n => .fs sz (part rows' off n)
  | (i, k) :: p, off, n => match cellAt rows' i k with
    | .fs sz2 r2 => frzRef sz2 r2 p off n
    | _ => .dead

theorem frz_ref0 {w : World} {F F' : Nat → Prop} {S : Sh} {H : Hp} (h1 : RW w F S H) (hFF : ∀ b, F b → F' b) {id : Nat} {q : Path} {sz : Nat} {rows rows' : Rows} (hnode : node H id q = some (sz, rows)) (hf : Frz (.own sz rows) (.fs sz rows'))
    (hblk : ∀ r nd b o cap, node H id (q ++ r) = some nd → S id (q ++ r) = some (b, o, cap) → F' b) {sz' off n : Nat} {y : Value} (hx : RV1 w F S H (.ref id q sz' off n) y) : RepF w F' (.fs sz (part rows' off n)) y := by
  have hrn := h1.nodes id q _ hnode
  obtain ⟨nd0, g01, g02⟩ := node_some hnode
  have hsub : ∀ r nd, nodeAt (sz, rows) r = some nd → node H id (q ++ r) = some nd := fun r nd e => node_mk g01 (by rw [nodeAt_append, g02]; exact e)
  obtain ⟨nd, a1, a2, a3, a4⟩ := hx
  rw [hnode] at a1
  injection a1 with a1
  subst a1
  simp only at a2 a3
  cases hf with
  | own _ _ _ hl hrl hc =>
    cases hs : S id q with
    | none =>
      rw [hs] at a4
      simp only at a4
      unfold RN at hrn
      rw [hs] at hrn
      simp only at hrn
      subst hrn
      have : rows' = [] := List.length_eq_zero_iff.1 (by simpa using hl)
      subst this; subst a4
      have : part ([] : Rows) off n = [] := by simp [part]
      rw [this]
      exact .fsnil _ _ _
    | some x =>
      obtain ⟨b, o, cap⟩ := x
      rw [hs] at a4
      obtain ⟨a, rfl, ha⟩ := a4
      obtain ⟨g1, g2, g, g3, g4⟩ := frz_rows (F' := F') hl hrl hs hrn (fun i k r r' c c' e1 e2 e3 e4 y hy => by
        refine frz_rep hFF (hc i k r r' c c' e1 e2 e3 e4) id (q ++ [(i, k)]) y hy (fun nd0 r0 nd hk hnd => ?_)
        have hnn := hsub ((i, k) :: r0) nd (by rw [nodeAt_cons]; simp only; rw [cellAt_of e1 e3, hk]; exact hnd)
        have e : q ++ [(i, k)] ++ r0 = q ++ (i, k) :: r0 := by simp
        rw [e]
        exact ⟨h1.nodes _ _ _ hnn, fun b o cap hb => hblk _ nd b o cap hnn hb⟩)
      have hF : F' b := hblk [] (sz, rows) b o cap (by simpa using hnode) (by simpa using hs)
      have hlen : (part rows' off n).length = n := length_part (by omega)
      have hget : ∀ i, i < n → (part rows' off n)[i]? = rows'[off + i]? := by
        intro i hi
        simp only [part]
        rw [List.getElem?_take_of_lt hi, List.getElem?_drop]
      by_cases h0 : n = 0
      · subst h0
        have : part rows' off 0 = [] := by simp [part]
        rw [this]
        exact .fsnil _ _ _
      · have e := ha (by omega)
        subst e
        have := RepF.fs (w := w) (F := F') sz (part rows' off n) b (o + off * sz) (cap - off) (fun i k => g (off + i) k) hF (by rw [hlen]; omega)
          (fun i row hr => by
            have hi := lt_of_get hr
            rw [hlen] at hi
            rw [hget i hi] at hr
            exact g2 _ _ hr)
          (fun i k row c hr hk => by
            have hi := lt_of_get hr
            rw [hlen] at hi
            rw [hget i hi] at hr
            have := g3 _ _ _ _ hr hk
            rw [← this]; congr 2; rw [Nat.add_mul]; omega)
          (fun i k row c hr hk => by
            have hi := lt_of_get hr
            rw [hlen] at hi
            rw [hget i hi] at hr
            exact g4 _ _ _ _ hr hk)
        rw [hlen] at this
        exact this

theorem frz_refP {w : World} {F F' : Nat → Prop} {S S' : Sh} {H H' : Hp} (h1 : RW w F S H) (hFF : ∀ b, F b → F' b) {id : Nat} : ∀ (p : Path) {q : Path} {sz : Nat} {rows rows' : Rows}, node H id q = some (sz, rows) → Frz (.own sz rows) (.fs sz rows') →
    (∀ r nd b o cap, node H id (q ++ r) = some nd → S id (q ++ r) = some (b, o, cap) → F' b) → ∀ {sz' off n : Nat} {y : Value}, RV1 w F S H (.ref id (q ++ p) sz' off n) y → RV1 w F' S' H' (frzRef sz rows' p off n) y
  | [], q, sz, rows, rows', hn, hf, hb, sz', off, n, y, hx => by
    rw [List.append_nil] at hx
    exact frz_ref0 h1 hFF hn hf hb hx
  | (i, k) :: p, q, sz, rows, rows', hn, hf, hb, sz', off, n, y, hx => by
    have hx0 := hx
    obtain ⟨nd, a1, _⟩ := hx
    obtain ⟨nd0, e1, e2⟩ := node_some a1
    obtain ⟨nd1, e3, e4⟩ := node_some hn
    rw [e1] at e3
    injection e3 with e3
    injection e3 with e3
    subst e3
    rw [nodeAt_append, e4] at e2
    simp only [Option.bind_some, nodeAt_cons] at e2
    cases hk : (cellAt rows i k).kid with
    | none => rw [hk] at e2; cases e2
    | some nd2 =>
      obtain ⟨l1, l2⟩ := cellAt_kid_lt hk
      obtain ⟨r, hr⟩ := get_some l1
      have hrr : rows.getD i [] = r := by rw [List.getD_eq_getElem?_getD, hr]; rfl
      rw [hrr] at l2
      obtain ⟨c, hc⟩ := get_some l2
      have hcell := cellAt_of hr hc
      rw [hcell] at hk
      cases hf with
      | own _ _ _ hl hrl hcc =>
        obtain ⟨r', hr'⟩ := get_some (l := rows') (i := i) (by omega)
        obtain ⟨c', hc'⟩ := get_some (l := r') (i := k) (by rw [hrl i r r' hr hr']; omega)
        have hf2 := hcc i k r r' c c' hr hr' hc hc'
        have hcell' := cellAt_of hr' hc'
        show RV1 w F' S' H' (match cellAt rows' i k with | .fs sz2 r2 => frzRef sz2 r2 p off n | _ => .dead) y
        rw [hcell']
        cases hf2 with
        | own sz2 rows2 rows2' hl2 hrl2 hcc2 =>
          simp only
          have hn2 : node H id (q ++ [(i, k)]) = some (sz2, rows2) := node_kid hn (by simp only; rw [hcell]; rfl)
          refine frz_refP h1 hFF p hn2 (.own sz2 rows2 rows2' hl2 hrl2 hcc2) (fun r nd b o cap g1 g2 => ?_) (by simpa using hx0)
          have e : q ++ [(i, k)] ++ r = q ++ (i, k) :: r := by simp
          rw [e] at g1 g2
          exact hb _ nd b o cap g1 g2
        | box => trivial
        | v => simp [V.kid] at hk
        | fs => simp [V.kid] at hk
        | fp => simp [V.kid] at hk
        | clo => simp [V.kid] at hk
        | nil => simp [V.kid] at hk

def frzD (id sz : Nat) (rows' : Rows) (x : V) : V :=
  match x with
  | .ref id' p sz' off n => if id' = id then frzRef sz rows' p off n else .ref id' p sz' off n
  | .ptr id' p i k => if id' = id then .dead else .ptr id' p i k
  | x => x

theorem frzRef_leaf : ∀ (p : Path) (sz : Nat) (rows' : Rows) (off n : Nat), (frzRef sz rows' p off n).clo? = none ∧ (frzRef sz rows' p off n).agg? = none ∧ (frzRef sz rows' p off n).tup? = none ∧ (frzRef sz rows' p off n).may? = none
  | [], sz, rows', off, n => ⟨rfl, rfl, rfl, rfl⟩
  | (i, k) :: p, sz, rows', off, n => by
    unfold frzRef
    split
    · exact frzRef_leaf p _ _ _ _
    · exact ⟨rfl, rfl, rfl, rfl⟩

theorem frzD_leaf (id sz : Nat) (rows' : Rows) : LeafMap (frzD id sz rows') := by
  intro x h1 h2 h3
  cases x with
  | ref id' p a b c =>
    simp only [frzD]
    split
    · have := frzRef_leaf p sz rows' b c
      exact ⟨this.1, this.2.1, this.2.2.1, fun _ => this.2.2.2⟩
    · exact ⟨rfl, rfl, rfl, fun _ => rfl⟩
  | ptr id' p a b => simp only [frzD]; split <;> exact ⟨rfl, rfl, rfl, fun _ => rfl⟩
  | _ => exact ⟨h1, h2, h3, fun h => h⟩

/-- An object is frozen, with slices of what lies below it. -/
theorem Weak.rootD {base : Nat} {z : V} {H : Hp} {id sz : Nat} {rows rows' : Rows} (hb : base ≤ id) (hn : H[id]? = some (some (sz, rows))) (hf : Frz (.own sz rows) (.fs sz rows')) (hcl : noClo z = true) (hm : z.may? = none) :
    Weak base z H (map3 (frzD id sz rows') z) (H.set id none) := by
  intro w F S v h1 h2
  have hnode : node H id [] = some (sz, rows) := by simp [node, hn, nodeAt]
  refine ⟨_, h1.freezeRoot (id := id), ?_, fun b hb => .inl hb, fun b hb => ?_, fun b ⟨id', q, nd', o, cap, e1, e2⟩ => ?_, fun id' q nd hlt hq => ?_⟩
  · refine RV.map (frzD_leaf id sz rows') ?_ h2 hcl hm
    intro x y _ _ _ hx
    cases x with
    | ref id' p sz' off n =>
      simp only [frzD]
      split
      · rename_i e
        subst e
        exact frz_refP h1 (fun b hb => .inl hb) p (q := []) hnode hf (fun r nd b o cap g1 g2 => .inr ⟨r, nd, o, cap, g1, g2⟩) hx
      · rename_i hne
        obtain ⟨nd, a1, a2, a3, a4⟩ := hx
        exact ⟨nd, by rw [node_set_none, if_neg hne]; exact a1, a2, a3, a4⟩
    | ptr id' p i k =>
      simp only [frzD]
      split
      · trivial
      · rename_i hne
        obtain ⟨nd, a1, a4⟩ := hx
        exact ⟨nd, by rw [node_set_none, if_neg hne]; exact a1, a4⟩
    | v x => exact hx
    | fs sz' r => exact RepF.mono (fun _ _ => rfl) (fun b hb => .inl hb) hx
    | fp sz' r i k => exact RepF.mono (fun _ _ => rfl) (fun b hb => .inl hb) hx
    | _ => exact hx
  · rcases hb with hb | ⟨r, nd, o, cap, e1, e2⟩
    · exact .inl hb
    · exact .inr ⟨_, _, nd, o, cap, e1, e2⟩
  · rw [node_set_none] at e1
    split at e1
    · cases e1
    · exact ⟨id', q, nd', o, cap, e1, e2⟩
  · rw [node_set_none, if_neg (by omega)]; exact hq

end Go.Eng
