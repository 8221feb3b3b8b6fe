/- The engine, text 1 of 5: an abstract machine of owned objects and its laws; it speaks of any program. -/
import Derived.WalkKit
import Derived.Laws.Rows
import Derived.Laws.AppendOwn
import Derived.Laws.CopyRow
import Derived.Laws.MakeOwn
import Derived.Below
namespace Go.Eng
open Go.RowKit
set_option linter.unusedSectionVars false

abbrev Path := List (Nat × Nat)

/-- A value of the abstract machine. 'v': any value, as it is. 'fs', 'fp': a slice, a pointer into memory that nobody writes any more. 'own', 'box': in a cell: a slice, a pointer whose memory is this cell's alone. 'ref', 'ptr': in a temporary: a slice of, a pointer into an object. 'may c x': x if c holds, else anything. 'anyB': a truth value that is not known. -/
inductive V where
  | v (x : Value)
  | fs (sz : Nat) (rows : List (List V))
  | fp (sz : Nat) (rows : List (List V)) (i k : Nat)
  | own (sz : Nat) (rows : List (List V))
  | box (sz : Nat) (rows : List (List V))
  | ref (id : Nat) (p : List (Nat × Nat)) (sz off n : Nat)
  | ptr (id : Nat) (p : List (Nat × Nat)) (i k : Nat)
  | agg (vs : List V)
  | tup (vs : List V)
  | clo (f : Nat) (caps : List V)
  | may (c : Bool) (x : V)
  | anyB
  | dead
  deriving Inhabited

abbrev Rows := List (List V)
abbrev Nd := Option (Nat × Rows)
abbrev Hp := List Nd

def cellAt (rows : Rows) (i k : Nat) : V := (rows.getD i []).getD k .dead

/-- The node behind a cell that owns one. -/
def V.kid : V → Option (Nat × Rows)
  | .own sz r => some (sz, r)
  | .box sz r => some (sz, r)
  | _ => none

def nodeAt : Nat × Rows → Path → Option (Nat × Rows)
  | nd, [] => some nd
  | nd, s :: p => match (cellAt nd.2 s.1 s.2).kid with
    | some nd' => nodeAt nd' p
    | none => none

def node (H : Hp) (id : Nat) (p : Path) : Option (Nat × Rows) :=
  match H[id]? with
  | some (some nd) => nodeAt nd p
  | _ => none

/-- Where the nodes lie: block, first cell, how many elements there is room for. -/
abbrev Sh := Nat → Path → Option (Nat × Nat × Nat)

/-- Memory that nobody writes any more, read as a tree. -/
inductive RepF (w : World) (F : Nat → Prop) : V → Value → Prop
  | v (x : Value) : RepF w F (.v x) x
  | fsnil (sz : Nat) (a : Option Addr) (cap : Nat) : RepF w F (.fs sz []) (.slice a 0 cap)
  | fs (sz : Nat) (rows : List (List V)) (b o cap : Nat) (g : Nat → Nat → Value) (hF : F b) (hlen : rows.length ≤ cap) (hsz : ∀ (i : Nat) (row : List V), rows[i]? = some row → row.length = sz)
      (hc : ∀ (i k : Nat) (row : List V) (c : V), rows[i]? = some row → row[k]? = some c → w.cell? ⟨b, o + i * sz + k, none⟩ = some (g i k))
      (hr : ∀ (i k : Nat) (row : List V) (c : V), rows[i]? = some row → row[k]? = some c → RepF w F c (g i k)) :
      RepF w F (.fs sz rows) (.slice (some ⟨b, o, none⟩) rows.length cap)
  | fp (sz : Nat) (rows : List (List V)) (i0 k0 b o : Nat) (g : Nat → Nat → Value) (hF : F b) (hsz : ∀ (i : Nat) (row : List V), rows[i]? = some row → row.length = sz)
      (hc : ∀ (i k : Nat) (row : List V) (c : V), rows[i]? = some row → row[k]? = some c → w.cell? ⟨b, o + i * sz + k, none⟩ = some (g i k))
      (hr : ∀ (i k : Nat) (row : List V) (c : V), rows[i]? = some row → row[k]? = some c → RepF w F c (g i k)) :
      RepF w F (.fp sz rows i0 k0) (.pointer (some ⟨b, o + i0 * sz + k0, none⟩))
  | clo (f : Nat) (caps : List V) (ys : List Value) (hl : caps.length = ys.length) (hr : ∀ (i : Nat) (c : V) (y : Value), caps[i]? = some c → ys[i]? = some y → RepF w F c y) :
      RepF w F (.clo f caps) (.func (.func f) #[] ys.toArray)

/-- What a cell stands for, that lies at p's last place. -/
def RC (w : World) (F : Nat → Prop) (S : Sh) (id : Nat) (p : Path) (c : V) (y : Value) : Prop :=
  match c with
  | .own _ rows => match S id p with
    | none => y = .slice none 0 0
    | some (b, o, cap) => ∃ a, y = .slice a rows.length cap ∧ (0 < cap → a = some ⟨b, o, none⟩)
  | .box _ _ => match S id p with
    | none => False
    | some (b, o, _) => y = .pointer (some ⟨b, o, none⟩)
  | .dead => True
  | .v x => y = x
  | .fs sz rows => RepF w F (.fs sz rows) y
  | .fp sz rows i k => RepF w F (.fp sz rows i k) y
  | .clo f caps => RepF w F (.clo f caps) y
  | _ => False

/-- A node in its block. -/
def RN (w : World) (F : Nat → Prop) (S : Sh) (id : Nat) (p : Path) (nd : Nat × Rows) : Prop :=
  match S id p with
  | none => nd.2 = []
  | some (b, o, cap) => nd.2.length ≤ cap ∧ ¬ F b ∧ ∃ arr T fr, w.heap[b]? = some (.cells arr T fr) ∧ (∀ i, i < arr.size → ¬ (fr.1 ≤ i ∧ i < fr.2) ∧ fr.1 ≤ fr.2) ∧ o + cap * nd.1 ≤ arr.size ∧
      (∀ row ∈ nd.2, row.length = nd.1) ∧
      ∀ i k, i < nd.2.length → k < nd.1 → ∃ y, arr[o + i * nd.1 + k]? = some y ∧ RC w F S id (p ++ [(i, k)]) (cellAt nd.2 i k) y

/-- A block that a heap owns. -/
def Own (S : Sh) (H : Hp) (b : Nat) : Prop := ∃ id p nd o cap, node H id p = some nd ∧ S id p = some (b, o, cap)

/-- A world that holds a heap. -/
structure RW (w : World) (F : Nat → Prop) (S : Sh) (H : Hp) : Prop where
  nodes : ∀ id p nd, node H id p = some nd → RN w F S id p nd
  inj : ∀ id p nd id' p' nd' b o cap o' cap', node H id p = some nd → node H id' p' = some nd' → S id p = some (b, o, cap) → S id' p' = some (b, o', cap') → id = id' ∧ p = p'
  froz : ∀ b, F b → b < w.heap.size

/-- The values of temporaries. -/
def RV1 (w : World) (F : Nat → Prop) (S : Sh) (H : Hp) (x : V) (y : Value) : Prop :=
  match x with
  | .v x => y = x
  | .fs sz rows => RepF w F (.fs sz rows) y
  | .fp sz rows i k => RepF w F (.fp sz rows i k) y
  | .ref id p sz off n => ∃ nd, node H id p = some nd ∧ nd.1 = sz ∧ off + n ≤ nd.2.length ∧ match S id p with
    | none => y = .slice none 0 0
    | some (b, o, cap) => ∃ a, y = .slice a n (cap - off) ∧ (off < cap → a = some ⟨b, o + off * nd.1, none⟩)
  | .ptr id p i k => ∃ nd, node H id p = some nd ∧ match S id p with
    | none => False
    | some (b, o, _) => y = .pointer (some ⟨b, o + i * nd.1 + k, none⟩)
  | .anyB => ∃ b, y = .bool b
  | .dead => True
  | _ => False

def V.clo? : V → Option (Nat × List V) | .clo f caps => some (f, caps) | _ => none
def V.agg? : V → Option (List V) | .agg vs => some vs | _ => none
def V.tup? : V → Option (List V) | .tup vs => some vs | _ => none
def V.may? : V → Option (Bool × V) | .may c x => some (c, x) | _ => none

def RVc (w : World) (F : Nat → Prop) (S : Sh) (H : Hp) (x : V) (y : Value) : Prop :=
  match x.clo? with
  | some (f, caps) => RepF w F (.clo f caps) y ∨ ∃ ys : List Value, y = .func (.func f) #[] ys.toArray ∧ caps.length = ys.length ∧ ∀ (i : Nat) (c : V) (z : Value), caps[i]? = some c → ys[i]? = some z → RV1 w F S H c z
  | none => RV1 w F S H x y

def RV2 (w : World) (F : Nat → Prop) (S : Sh) (H : Hp) (x : V) (y : Value) : Prop :=
  match x.agg? with
  | some vs => ∃ ys : List Value, y = .agg ys.toArray ∧ vs.length = ys.length ∧ ∀ (i : Nat) (c : V) (z : Value), vs[i]? = some c → ys[i]? = some z → RVc w F S H c z
  | none => RVc w F S H x y

def RV3 (w : World) (F : Nat → Prop) (S : Sh) (H : Hp) (x : V) (y : Value) : Prop :=
  match x.tup? with
  | some vs => ∃ ys : List Value, y = .tuple ys.toArray ∧ vs.length = ys.length ∧ ∀ (i : Nat) (c : V) (z : Value), vs[i]? = some c → ys[i]? = some z → RV2 w F S H c z
  | none => RV2 w F S H x y

def RV (w : World) (F : Nat → Prop) (S : Sh) (H : Hp) (x : V) (y : Value) : Prop :=
  match x.may? with
  | some (c, x) => (c = true → RV3 w F S H x y) ∧ (c = false → y = undef)
  | none => RV3 w F S H x y

/-- What may have become of a world and its heap. -/
structure Stp (w : World) (F : Nat → Prop) (S : Sh) (H : Hp) (w' : World) (F' : Nat → Prop) (S' : Sh) (H' : Hp) : Prop where
  os : w'.os = w.os
  tape : w'.tape = w.tape
  output : w'.output = w.output
  size : w.heap.size ≤ w'.heap.size
  block : ∀ b, b < w.heap.size → ¬ Own S H b → w'.heap[b]? = w.heap[b]?
  own : ∀ b, Own S' H' b → Own S H b ∨ w.heap.size ≤ b
  frozen : ∀ b, F' b → F b ∨ Own S H b ∨ w.heap.size ≤ b
  keeps : ∀ b, F b → F' b

theorem Stp.refl (w : World) (F : Nat → Prop) (S : Sh) (H : Hp) : Stp w F S H w F S H :=
  ⟨rfl, rfl, rfl, Nat.le_refl _, fun _ _ _ => rfl, fun _ h => .inl h, fun _ h => .inl h, fun _ h => h⟩

theorem Stp.trans {w w' w'' : World} {F F' F'' : Nat → Prop} {S S' S'' : Sh} {H H' H'' : Hp} (h : Stp w F S H w' F' S' H') (k : Stp w' F' S' H' w'' F'' S'' H'') : Stp w F S H w'' F'' S'' H'' where
  os := k.os.trans h.os
  tape := k.tape.trans h.tape
  output := k.output.trans h.output
  size := Nat.le_trans h.size k.size
  block b hb hn := (k.block b (Nat.lt_of_lt_of_le hb h.size) (fun ho => (h.own b ho).elim hn (fun hle => by omega))).trans (h.block b hb hn)
  own b hb := (k.own b hb).elim (h.own b) (fun hle => .inr (Nat.le_trans h.size hle))
  frozen b hb := by
    rcases k.frozen b hb with hf | ho | hle
    · exact h.frozen b hf
    · exact .inr (h.own b ho)
    · exact .inr (.inr (Nat.le_trans h.size hle))
  keeps b hb := k.keeps b (h.keeps b hb)

theorem RN.notF {w : World} {F : Nat → Prop} {S : Sh} {id : Nat} {p : Path} {nd : Nat × Rows} {b o cap : Nat} (h : RN w F S id p nd) (hs : S id p = some (b, o, cap)) : ¬ F b ∧ b < w.heap.size := by
  unfold RN at h
  rw [hs] at h
  obtain ⟨_, hF, arr, T, fr, hb, _⟩ := h
  refine ⟨hF, ?_⟩
  rcases Nat.lt_or_ge b w.heap.size with hlt | hge
  · exact hlt
  · rw [Array.getElem?_eq_none hge] at hb; cases hb

theorem RW.own_notF {w : World} {F : Nat → Prop} {S : Sh} {H : Hp} (h : RW w F S H) {b : Nat} (ho : Own S H b) : ¬ F b ∧ b < w.heap.size := by
  obtain ⟨id, p, nd, o, cap, hn, hs⟩ := ho
  exact (h.nodes id p nd hn).notF hs

theorem cell?_of_heap {w w' : World} {b : Nat} (h : w'.heap[b]? = w.heap[b]?) (o : Nat) (s : Option Nat) : w'.cell? ⟨b, o, s⟩ = w.cell? ⟨b, o, s⟩ := by simp [World.cell?, h]

/-- What nobody writes reads as it did. -/
theorem RepF.mono {w w' : World} {F F' : Nat → Prop} (hb : ∀ b, F b → w'.heap[b]? = w.heap[b]?) (hF : ∀ b, F b → F' b) {x : V} {y : Value} (h : RepF w F x y) : RepF w' F' x y := by
  induction h with
  | v x => exact .v x
  | fsnil sz a cap => exact .fsnil sz a cap
  | fs sz rows b o cap g h1 h3 h4 hc _ ih => exact .fs sz rows b o cap g (hF b h1) h3 h4 (fun i k row c hr hk => (cell?_of_heap (hb b h1) _ _).trans (hc i k row c hr hk)) ih
  | fp sz rows i0 k0 b o g h1 h4 hc _ ih => exact .fp sz rows i0 k0 b o g (hF b h1) h4 (fun i k row c hr hk => (cell?_of_heap (hb b h1) _ _).trans (hc i k row c hr hk)) ih
  | clo f caps ys hl _ ih => exact .clo f caps ys hl ih

theorem RC.mono {w w' : World} {F F' : Nat → Prop} {S S' : Sh} {id id' : Nat} {p p' : Path} {c : V} {y : Value} (hb : ∀ b, F b → w'.heap[b]? = w.heap[b]?) (hF : ∀ b, F b → F' b) (hS : S' id' p' = S id p) (h : RC w F S id p c y) : RC w' F' S' id' p' c y := by
  unfold RC at h ⊢
  rw [hS]
  cases c <;> first | exact h | exact RepF.mono hb hF h

theorem RN.mono {w w' : World} {F F' : Nat → Prop} {S S' : Sh} {id id' : Nat} {p p' : Path} {nd : Nat × Rows} (hb : ∀ b, F b → w'.heap[b]? = w.heap[b]?) (hF : ∀ b, F b → F' b) (hS : S' id' p' = S id p)
    (hS2 : ∀ i k nd', (cellAt nd.2 i k).kid = some nd' → S' id' (p' ++ [(i, k)]) = S id (p ++ [(i, k)]))
    (hblk : ∀ b, (∃ o cap, S id p = some (b, o, cap)) → w'.heap[b]? = w.heap[b]? ∧ (¬ F b → ¬ F' b)) (h : RN w F S id p nd) : RN w' F' S' id' p' nd := by
  unfold RN at h ⊢
  rw [hS]
  cases hs : S id p with
  | none => rw [hs] at h; exact h
  | some x =>
    obtain ⟨b, o, cap⟩ := x
    rw [hs] at h
    obtain ⟨h1, h2, arr, T, fr, h3, h4, h5, h6, h7⟩ := h
    obtain ⟨e1, e2⟩ := hblk b ⟨o, cap, hs⟩
    refine ⟨h1, e2 h2, arr, T, fr, e1.trans h3, h4, h5, h6, fun i k hi hk => ?_⟩
    obtain ⟨y, hy, hrc⟩ := h7 i k hi hk
    refine ⟨y, hy, ?_⟩
    cases hc : (cellAt nd.2 i k).kid with
    | some nd' => exact RC.mono hb hF (hS2 i k nd' hc) hrc
    | none =>
      unfold RC at hrc ⊢
      cases hcc : cellAt nd.2 i k <;> rw [hcc] at hrc hc <;> simp only [V.kid] at hc <;> first | exact hrc | exact RepF.mono hb hF hrc | cases hc

/-- New blocks alone. -/
theorem RW.grow {w w' : World} {F : Nat → Prop} {S : Sh} {H : Hp} (h : RW w F S H) (hs : w.heap.size ≤ w'.heap.size) (hb : ∀ b, b < w.heap.size → w'.heap[b]? = w.heap[b]?) : RW w' F S H where
  nodes id p nd hn := RN.mono (fun b hf => hb b (h.froz b hf)) (fun _ x => x) rfl (fun _ _ _ _ => rfl) (fun b ⟨_, _, hs'⟩ => ⟨hb b ((h.nodes id p nd hn).notF hs').2, fun x => x⟩) (h.nodes id p nd hn)
  inj := h.inj
  froz b hf := Nat.lt_of_lt_of_le (h.froz b hf) hs

theorem RV1.mono {w w' : World} {F F' : Nat → Prop} {S S' : Sh} {H H' : Hp} (hb : ∀ b, F b → w'.heap[b]? = w.heap[b]?) (hF : ∀ b, F b → F' b) {x : V} {y : Value}
    (hr : ∀ id p nd, (∃ sz off n, x = .ref id p sz off n) ∨ (∃ i k, x = .ptr id p i k) → node H id p = some nd → S' id p = S id p ∧ ∃ nd', node H' id p = some nd' ∧ nd'.1 = nd.1 ∧ nd'.2.length = nd.2.length)
    (h : RV1 w F S H x y) : RV1 w' F' S' H' x y := by
  cases x with
  | v x => exact h
  | fs sz rows => exact RepF.mono hb hF h
  | fp sz rows i k => exact RepF.mono hb hF h
  | ref id p sz off n =>
    obtain ⟨nd, hn, h0, h1, h2⟩ := h
    obtain ⟨e, nd', hn', e1, e2⟩ := hr id p nd (.inl ⟨sz, off, n, rfl⟩) hn
    exact ⟨nd', hn', by omega, by omega, by rw [e, e1]; exact h2⟩
  | ptr id p i k =>
    obtain ⟨nd, hn, h2⟩ := h
    obtain ⟨e, nd', hn', e1, e2⟩ := hr id p nd (.inr ⟨i, k, rfl⟩) hn
    exact ⟨nd', hn', by rw [e, e1]; exact h2⟩
  | dead => trivial
  | _ => exact h

/-- The references in a value. -/
def refs1 : V → List (Nat × Path)
  | .ref id p _ _ _ => [(id, p)]
  | .ptr id p _ _ => [(id, p)]
  | _ => []
def refsC (x : V) : List (Nat × Path) :=
  match x.clo? with
  | some (_, caps) => caps.flatMap refs1
  | none => refs1 x
def refs2 (x : V) : List (Nat × Path) :=
  match x.agg? with
  | some vs => vs.flatMap refsC
  | none => refsC x
def refs3 (x : V) : List (Nat × Path) :=
  match x.tup? with
  | some vs => vs.flatMap refs2
  | none => refs2 x
def refs (x : V) : List (Nat × Path) :=
  match x.may? with
  | some (_, x) => refs3 x
  | none => refs3 x

theorem RV1.mono' {w w' : World} {F F' : Nat → Prop} {S S' : Sh} {H H' : Hp} (hb : ∀ b, F b → w'.heap[b]? = w.heap[b]?) (hF : ∀ b, F b → F' b) {x : V} {y : Value}
    (h : RV1 w F S H x y) (hr : ∀ id p nd, (id, p) ∈ refs1 x → node H id p = some nd → S' id p = S id p ∧ ∃ nd', node H' id p = some nd' ∧ nd'.1 = nd.1 ∧ nd'.2.length = nd.2.length) : RV1 w' F' S' H' x y :=
  RV1.mono hb hF (fun id p nd ho => hr id p nd (by rcases ho with ⟨a, b, c, rfl⟩ | ⟨a, b, rfl⟩ <;> simp [refs1])) h

theorem RVc.mono {w w' : World} {F F' : Nat → Prop} {S S' : Sh} {H H' : Hp} (hb : ∀ b, F b → w'.heap[b]? = w.heap[b]?) (hF : ∀ b, F b → F' b) {x : V} {y : Value}
    (h : RVc w F S H x y) (hr : ∀ id p nd, (id, p) ∈ refsC x → node H id p = some nd → S' id p = S id p ∧ ∃ nd', node H' id p = some nd' ∧ nd'.1 = nd.1 ∧ nd'.2.length = nd.2.length) : RVc w' F' S' H' x y := by
  unfold RVc at h ⊢
  unfold refsC at hr
  cases hx : x.clo? with
  | none => rw [hx] at h hr; exact RV1.mono' hb hF h hr
  | some q =>
    obtain ⟨f, caps⟩ := q
    rw [hx] at h hr
    rcases h with h | ⟨ys, h1, h2, h3⟩
    · exact .inl (RepF.mono hb hF h)
    · exact .inr ⟨ys, h1, h2, fun i c z hc hz => RV1.mono' hb hF (h3 i c z hc hz) (fun id p nd hm => hr id p nd (List.mem_flatMap.2 ⟨c, List.mem_of_getElem? hc, hm⟩))⟩

theorem RV2.mono {w w' : World} {F F' : Nat → Prop} {S S' : Sh} {H H' : Hp} (hb : ∀ b, F b → w'.heap[b]? = w.heap[b]?) (hF : ∀ b, F b → F' b) {x : V} {y : Value}
    (h : RV2 w F S H x y) (hr : ∀ id p nd, (id, p) ∈ refs2 x → node H id p = some nd → S' id p = S id p ∧ ∃ nd', node H' id p = some nd' ∧ nd'.1 = nd.1 ∧ nd'.2.length = nd.2.length) : RV2 w' F' S' H' x y := by
  unfold RV2 at h ⊢
  unfold refs2 at hr
  cases hx : x.agg? with
  | none => rw [hx] at h hr; exact RVc.mono hb hF h hr
  | some vs =>
    rw [hx] at h hr
    obtain ⟨ys, h1, h2, h3⟩ := h
    exact ⟨ys, h1, h2, fun i c z hc hz => RVc.mono hb hF (h3 i c z hc hz) (fun id p nd hm => hr id p nd (List.mem_flatMap.2 ⟨c, List.mem_of_getElem? hc, hm⟩))⟩

theorem RV3.mono {w w' : World} {F F' : Nat → Prop} {S S' : Sh} {H H' : Hp} (hb : ∀ b, F b → w'.heap[b]? = w.heap[b]?) (hF : ∀ b, F b → F' b) {x : V} {y : Value}
    (h : RV3 w F S H x y) (hr : ∀ id p nd, (id, p) ∈ refs3 x → node H id p = some nd → S' id p = S id p ∧ ∃ nd', node H' id p = some nd' ∧ nd'.1 = nd.1 ∧ nd'.2.length = nd.2.length) : RV3 w' F' S' H' x y := by
  unfold RV3 at h ⊢
  unfold refs3 at hr
  cases hx : x.tup? with
  | none => rw [hx] at h hr; exact RV2.mono hb hF h hr
  | some vs =>
    rw [hx] at h hr
    obtain ⟨ys, h1, h2, h3⟩ := h
    exact ⟨ys, h1, h2, fun i c z hc hz => RV2.mono hb hF (h3 i c z hc hz) (fun id p nd hm => hr id p nd (List.mem_flatMap.2 ⟨c, List.mem_of_getElem? hc, hm⟩))⟩

theorem RV.mono {w w' : World} {F F' : Nat → Prop} {S S' : Sh} {H H' : Hp} (hb : ∀ b, F b → w'.heap[b]? = w.heap[b]?) (hF : ∀ b, F b → F' b) {x : V} {y : Value}
    (h : RV w F S H x y) (hr : ∀ id p nd, (id, p) ∈ refs x → node H id p = some nd → S' id p = S id p ∧ ∃ nd', node H' id p = some nd' ∧ nd'.1 = nd.1 ∧ nd'.2.length = nd.2.length) : RV w' F' S' H' x y := by
  unfold RV at h ⊢
  unfold refs at hr
  cases hx : x.may? with
  | none => rw [hx] at h hr; exact RV3.mono hb hF h hr
  | some q => rw [hx] at h hr; exact ⟨fun hc => RV3.mono hb hF (h.1 hc) hr, h.2⟩

end Go.Eng

namespace Go.Eng
open Go.RowKit
set_option linter.unusedSectionVars false

theorem getD_lt {α : Type} (l : List α) (d : α) {i : Nat} (h : i < l.length) : l.getD i d = l[i] := by simp [List.getD_eq_getElem?_getD, h]
theorem getD_ge {α : Type} (l : List α) (d : α) {i : Nat} (h : l.length ≤ i) : l.getD i d = d := by simp [List.getD_eq_getElem?_getD, h]

def setC (rows : Rows) (i k : Nat) (c : V) : Rows := rows.set i ((rows.getD i []).set k c)

def updRows (rows : Rows) : Path → (Rows → Rows) → Rows
  | [], f => f rows
  | s :: p, f => setC rows s.1 s.2 (match cellAt rows s.1 s.2 with
    | .own sz r => .own sz (updRows r p f)
    | .box sz r => .box sz (updRows r p f)
    | c => c)

def updH (H : Hp) (id : Nat) (p : Path) (f : Rows → Rows) : Hp :=
  match H[id]? with
  | some (some (sz, rows)) => H.set id (some (sz, updRows rows p f))
  | _ => H

/-- Two cells that stand for the same value. -/
def Sim (c c' : V) : Prop := c = c' ∨ (∃ sz r r', c = .own sz r ∧ c' = .own sz r' ∧ r.length = r'.length) ∨ (∃ sz r r', c = .box sz r ∧ c' = .box sz r')

theorem Sim.refl (c : V) : Sim c c := .inl rfl

theorem RC.sim {w : World} {F : Nat → Prop} {S : Sh} {id : Nat} {p : Path} {c c' : V} {y : Value} (h : RC w F S id p c y) (hs : Sim c c') : RC w F S id p c' y := by
  rcases hs with rfl | ⟨sz, r, r', rfl, rfl, e⟩ | ⟨sz, r, r', rfl, rfl⟩
  · exact h
  · simp only [RC] at h ⊢; rw [← e]; exact h
  · exact h

theorem cellAt_setC (rows : Rows) (i k : Nat) (c : V) (hi : i < rows.length) (hk : k < (rows.getD i []).length) (a b : Nat) :
    cellAt (setC rows i k c) a b = if a = i ∧ b = k then c else cellAt rows a b := by
  unfold cellAt setC
  by_cases ha : a = i
  · subst ha
    have e : (rows.set a ((rows.getD a []).set k c)).getD a [] = (rows.getD a []).set k c := by
      rw [List.getD_eq_getElem?_getD, List.getElem?_set_self hi]; rfl
    rw [e]
    by_cases hb : b = k
    · subst hb
      simp only [and_self, if_true]
      rw [List.getD_eq_getElem?_getD, List.getElem?_set_self hk]; rfl
    · simp only [hb, and_false, if_false]
      rw [List.getD_eq_getElem?_getD, List.getElem?_set_ne (fun h => hb h.symm), ← List.getD_eq_getElem?_getD]
  · simp only [ha, false_and, if_false]
    congr 1
    rw [List.getD_eq_getElem?_getD, List.getElem?_set_ne (fun h => ha h.symm), ← List.getD_eq_getElem?_getD]

theorem length_setC (rows : Rows) (i k : Nat) (c : V) : (setC rows i k c).length = rows.length := by simp [setC]

theorem rowlen_setC {rows : Rows} {i k n : Nat} {c : V} (h : ∀ row ∈ rows, row.length = n) : ∀ row ∈ setC rows i k c, row.length = n := by
  intro row hr
  unfold setC at hr
  by_cases hi : i < rows.length
  · rcases List.mem_or_eq_of_mem_set hr with h1 | h1
    · exact h row h1
    · subst h1
      rw [List.length_set, getD_lt _ _ hi]
      exact h _ (List.getElem_mem hi)
  · rw [List.set_eq_of_length_le (by omega)] at hr
    exact h row hr

theorem cellAt_kid_lt {rows : Rows} {i k : Nat} {nd : Nat × Rows} (h : (cellAt rows i k).kid = some nd) : i < rows.length ∧ k < (rows.getD i []).length := by
  unfold cellAt at h
  have hk : k < (rows.getD i []).length := by
    rcases Nat.lt_or_ge k (rows.getD i []).length with h1 | h1
    · exact h1
    · rw [getD_ge _ _ h1] at h; simp [V.kid] at h
  refine ⟨?_, hk⟩
  rcases Nat.lt_or_ge i rows.length with h1 | h1
  · exact h1
  · rw [getD_ge _ _ h1] at hk; simp at hk

/-- What stands in place of a cell on the way. -/
def onWay (c : V) (f : Rows → Rows) : V :=
  match c with
  | .own sz r => .own sz (f r)
  | .box sz r => .box sz (f r)
  | c => c

theorem updRows_cons (rows : Rows) (s : Nat × Nat) (p : Path) (f : Rows → Rows) : updRows rows (s :: p) f = setC rows s.1 s.2 (onWay (cellAt rows s.1 s.2) (fun r => updRows r p f)) := by
  cases h : cellAt rows s.1 s.2 <;> simp [updRows, onWay, h]

theorem onWay_kid {c : V} {f : Rows → Rows} {nd : Nat × Rows} (h : c.kid = some nd) : (onWay c f).kid = some (nd.1, f nd.2) := by
  cases c <;> simp [V.kid, onWay] at h ⊢ <;> (subst h; exact ⟨rfl, rfl⟩)

theorem onWay_sim {c : V} {f : Rows → Rows} {nd : Nat × Rows} (h : c.kid = some nd) (hl : (f nd.2).length = nd.2.length) : Sim c (onWay c f) := by
  cases c <;> simp [V.kid] at h
  · subst h; exact .inr (.inl ⟨_, _, _, rfl, rfl, hl.symm⟩)
  · subst h; exact .inr (.inr ⟨_, _, _, rfl, rfl⟩)

theorem length_updRows (rows : Rows) (p : Path) (f : Rows → Rows) (hp : p ≠ [] ∨ (f rows).length = rows.length) : (updRows rows p f).length = rows.length := by
  cases p with
  | nil => simpa [updRows] using hp
  | cons s p => rw [updRows_cons, length_setC]

theorem nodeAt_cons (nd : Nat × Rows) (s : Nat × Nat) (p : Path) : nodeAt nd (s :: p) = match (cellAt nd.2 s.1 s.2).kid with | some nd' => nodeAt nd' p | none => none := rfl

theorem nodeAt_append (p : Path) : ∀ (nd : Nat × Rows) (q : Path), nodeAt nd (p ++ q) = (nodeAt nd p).bind (fun x => nodeAt x q) := by
  induction p with
  | nil => intro nd q; rfl
  | cons s p ih =>
    intro nd q
    simp only [List.cons_append, nodeAt_cons]
    cases (cellAt nd.2 s.1 s.2).kid with
    | none => rfl
    | some nd' => exact ih nd' q

/-- What an object's nodes are behind a store. -/
theorem nodeAt_upd (p : Path) : ∀ (sz : Nat) (rows : Rows) (sz1 : Nat) (r1 : Rows) (i k : Nat) (c' : V), nodeAt (sz, rows) p = some (sz1, r1) → i < r1.length → k < (r1.getD i []).length →
    ∀ q,
      (∀ r, q = p ++ (i, k) :: r → nodeAt (sz, updRows rows p (setC · i k c')) q = match c'.kid with | some nd0 => nodeAt nd0 r | none => none) ∧
      ((¬ ∃ r, q = p ++ (i, k) :: r) → match nodeAt (sz, rows) q with
        | none => nodeAt (sz, updRows rows p (setC · i k c')) q = none
        | some nd => ∃ nd', nodeAt (sz, updRows rows p (setC · i k c')) q = some nd' ∧ nd'.1 = nd.1 ∧ nd'.2.length = nd.2.length ∧ (∀ n, (∀ row ∈ nd.2, row.length = n) → ∀ row ∈ nd'.2, row.length = n) ∧
            (∀ a b, q ++ [(a, b)] ≠ p ++ [(i, k)] → Sim (cellAt nd.2 a b) (cellAt nd'.2 a b)) ∧ (q = p → cellAt nd'.2 i k = c')) := by
  induction p with
  | nil =>
    intro sz rows sz1 r1 i k c' hn hi hk q
    simp only [nodeAt, Option.some.injEq, Prod.mk.injEq] at hn
    obtain ⟨rfl, rfl⟩ := hn
    simp only [updRows, List.nil_append]
    constructor
    · rintro r rfl
      rw [nodeAt_cons]
      simp only [cellAt_setC rows i k c' hi hk, and_self, if_true]
    · intro hq
      cases q with
      | nil =>
        refine ⟨_, rfl, rfl, length_setC .., fun n h => rowlen_setC h, fun a b hab => ?_, fun _ => by simp only [cellAt_setC rows i k c' hi hk, and_self, if_true]⟩
        simp only [cellAt_setC rows i k c' hi hk]
        rw [if_neg (by simpa using hab)]
        exact Sim.refl _
      | cons s q =>
        obtain ⟨a, b⟩ := s
        have hab : ¬ (a = i ∧ b = k) := fun h => hq ⟨q, by rw [h.1, h.2]⟩
        have e : nodeAt (sz, setC rows i k c') ((a, b) :: q) = nodeAt (sz, rows) ((a, b) :: q) := by
          simp only [nodeAt_cons, cellAt_setC rows i k c' hi hk, if_neg hab]
        rw [e]
        cases h : nodeAt (sz, rows) ((a, b) :: q) with
        | none => rfl
        | some nd => exact ⟨nd, rfl, rfl, rfl, fun _ h => h, fun _ _ _ => Sim.refl _, fun h => by cases h⟩
  | cons s p ih =>
    intro sz rows sz1 r1 i k c' hn hi hk q
    obtain ⟨a, b⟩ := s
    rw [nodeAt_cons] at hn
    cases hkid : (cellAt rows a b).kid with
    | none => simp only [hkid] at hn; cases hn
    | some nd0 =>
      simp only [hkid] at hn
      obtain ⟨sz0, r0⟩ := nd0
      obtain ⟨ha, hb⟩ := cellAt_kid_lt hkid
      have IH := ih sz0 r0 sz1 r1 i k c' hn hi hk
      rw [updRows_cons]
      have hk2 : (onWay (cellAt rows a b) (fun r => updRows r p (setC · i k c'))).kid = some (sz0, updRows r0 p (setC · i k c')) := onWay_kid hkid
      have hlen : (updRows r0 p (setC · i k c')).length = r0.length := by
        refine length_updRows _ _ _ ?_
        by_cases hp : p = []
        · exact .inr (length_setC ..)
        · exact .inl hp
      constructor
      · rintro r rfl
        simp only [List.cons_append, nodeAt_cons, cellAt_setC rows a b _ ha hb, and_self, if_true, hk2]
        exact (IH _).1 r rfl
      · intro hq
        cases q with
        | nil =>
          simp only [nodeAt]
          refine ⟨_, rfl, rfl, length_setC .., fun n h => rowlen_setC h, fun x y hxy => ?_, fun h => by cases h⟩
          simp only [cellAt_setC rows a b _ ha hb]
          by_cases hxa : x = a ∧ y = b
          · rw [if_pos hxa, hxa.1, hxa.2]
            exact onWay_sim hkid hlen
          · rw [if_neg hxa]; exact Sim.refl _
        | cons s q =>
          obtain ⟨x, y⟩ := s
          by_cases hxa : x = a ∧ y = b
          · obtain ⟨rfl, rfl⟩ := hxa
            have hq' : ¬ ∃ r, q = p ++ (i, k) :: r := fun ⟨r, h⟩ => hq ⟨r, by rw [h]; rfl⟩
            have := (IH q).2 hq'
            simp only [nodeAt_cons, cellAt_setC rows x y _ ha hb, and_self, if_true, hk2, hkid]
            cases hqn : nodeAt (sz0, r0) q with
            | none => rw [hqn] at this; exact this
            | some nd =>
              rw [hqn] at this
              obtain ⟨nd', h1, h2, h3, h4, h5, h6⟩ := this
              exact ⟨nd', h1, h2, h3, h4, fun u v huv => h5 u v (fun h => huv (by rw [List.cons_append, List.cons_append, h])), fun h => h6 (by injection h)⟩
          · have e : nodeAt (sz, setC rows a b (onWay (cellAt rows a b) (fun r => updRows r p (setC · i k c')))) ((x, y) :: q) = nodeAt (sz, rows) ((x, y) :: q) := by
              simp only [nodeAt_cons, cellAt_setC rows a b _ ha hb, if_neg hxa]
            rw [e]
            cases h : nodeAt (sz, rows) ((x, y) :: q) with
            | none => rfl
            | some nd =>
              refine ⟨nd, rfl, rfl, rfl, fun _ h => h, fun _ _ _ => Sim.refl _, fun h => ?_⟩
              injection h with h1 _
              injection h1 with h1 h2
              exact absurd ⟨h1, h2⟩ hxa

end Go.Eng

set_option linter.unusedVariables false
namespace Go.Eng
open Go.RowKit
set_option linter.unusedSectionVars false

theorem RC.move {w w' : World} {F F' : Nat → Prop} {S S' : Sh} {id id' : Nat} {p p' : Path} {c c' : V} {y : Value} (hb : ∀ b, F b → w'.heap[b]? = w.heap[b]?) (hF : ∀ b, F b → F' b)
    (hS : ∀ nd, c.kid = some nd → S' id' p' = S id p) (hs : Sim c c') (h : RC w F S id p c y) : RC w' F' S' id' p' c' y := by
  refine RC.sim ?_ hs
  cases hc : c.kid with
  | some nd => exact RC.mono hb hF (hS nd hc) h
  | none =>
    unfold RC at h ⊢
    cases c <;> simp only [V.kid] at hc <;> first | exact h | exact RepF.mono hb hF h | cases hc

theorem node_some {H : Hp} {id : Nat} {p : Path} {nd : Nat × Rows} (h : node H id p = some nd) : ∃ nd0, H[id]? = some (some nd0) ∧ nodeAt nd0 p = some nd := by
  unfold node at h
  split at h
  · exact ⟨_, by assumption, h⟩
  · cases h

theorem node_mk {H : Hp} {id : Nat} {p : Path} {nd nd0 : Nat × Rows} (h0 : H[id]? = some (some nd0)) (h : nodeAt nd0 p = some nd) : node H id p = some nd := by
  unfold node; rw [h0]; exact h

theorem node_kid {H : Hp} {id : Nat} {p : Path} {nd nd' : Nat × Rows} {i k : Nat} (h : node H id p = some nd) (hk : (cellAt nd.2 i k).kid = some nd') : node H id (p ++ [(i, k)]) = some nd' := by
  obtain ⟨nd0, h0, h1⟩ := node_some h
  refine node_mk h0 ?_
  rw [nodeAt_append, h1]
  simp only [Option.bind_some, hk, nodeAt]

theorem node_updH {H : Hp} {id : Nat} {p : Path} {f : Rows → Rows} {sz : Nat} {rows : Rows} (h : H[id]? = some (some (sz, rows))) (id' : Nat) (q : Path) :
    node (updH H id p f) id' q = if id' = id then nodeAt (sz, updRows rows p f) q else node H id' q := by
  have hlt : id < H.length := by
    rcases Nat.lt_or_ge id H.length with h1 | h1
    · exact h1
    · rw [List.getElem?_eq_none h1] at h; cases h
  unfold updH
  rw [h]
  simp only [node]
  by_cases e : id' = id
  · subst e; rw [if_pos rfl, List.getElem?_set_self hlt]
  · rw [if_neg e, List.getElem?_set_ne (fun x => e x.symm)]

theorem rowlen_of {w : World} {F : Nat → Prop} {S : Sh} {id : Nat} {p : Path} {nd : Nat × Rows} {i : Nat} (h : RN w F S id p nd) (hi : i < nd.2.length) : (nd.2.getD i []).length = nd.1 := by
  unfold RN at h
  cases hs : S id p with
  | none => rw [hs] at h; simp only at h; rw [h] at hi; simp at hi
  | some x =>
    obtain ⟨b, o, cap⟩ := x
    rw [hs] at h
    obtain ⟨_, _, arr, T, fr, _, _, _, h6, _⟩ := h
    rw [getD_lt _ _ hi]
    exact h6 _ (List.getElem_mem hi)

theorem path_tail {p q : Path} {s t : Nat × Nat} (hq : ¬ ∃ r, q = p ++ s :: r) {r : Path} (h : q ++ [t] = p ++ s :: r) : r = [] ∧ q = p ∧ t = s := by
  rcases List.eq_nil_or_concat r with rfl | ⟨r', z, rfl⟩
  · have h' : q ++ [t] = p ++ [s] := h
    have := List.append_inj' h' rfl
    exact ⟨rfl, this.1, by simpa using this.2⟩
  · exfalso
    have h' : q ++ [t] = (p ++ s :: r') ++ [z] := by rw [h]; simp
    exact hq ⟨r', (List.append_inj' h' rfl).1⟩

/-- THE GENERAL LAW OF A STORE: cell (i, k) of the node (id, p) becomes c', whose value is y'. -/
theorem RW.put {w w' : World} {F F' : Nat → Prop} {S S' : Sh} {H : Hp} (h : RW w F S H) {id : Nat} {p : Path} {sz : Nat} {r1 : Rows} {i k : Nat} {c' : V} {y' : Value} {b o cap : Nat}
    (hn : node H id p = some (sz, r1)) (hi : i < r1.length) (hk : k < sz) (hs : S id p = some (b, o, cap))
    (hS : ∀ id' q nd, node H id' q = some nd → ¬ (id' = id ∧ ∃ r, q = p ++ (i, k) :: r) → S' id' q = S id' q)
    (hw' : ∀ arr T fr, w.heap[b]? = some (.cells arr T fr) → w'.heap[b]? = some (.cells (arr.setIfInBounds (o + i * sz + k) y') T fr))
    (hother : ∀ b', b' ≠ b → b' < w.heap.size → w'.heap[b']? = w.heap[b']?)
    (hF : ∀ b, F b → F' b) (hF2 : ∀ b, F' b → b < w'.heap.size)
    (hF3 : ∀ b', F' b' → F b' ∨ ∀ id' q nd o2 c2, node H id' q = some nd → ¬ (id' = id ∧ ∃ r, q = p ++ (i, k) :: r) → S id' q ≠ some (b', o2, c2))
    (hrc : RC w' F' S' id (p ++ [(i, k)]) c' y')
    (hnew : ∀ nd0 r nd', c'.kid = some nd0 → nodeAt nd0 r = some nd' → RN w' F' S' id (p ++ (i, k) :: r) nd')
    (hinj : ∀ nd0 r nd' b1 o1 c1, c'.kid = some nd0 → nodeAt nd0 r = some nd' → S' id (p ++ (i, k) :: r) = some (b1, o1, c1) →
      (∀ id' q nd'' o2 c2, node H id' q = some nd'' → ¬ (id' = id ∧ ∃ r, q = p ++ (i, k) :: r) → S id' q ≠ some (b1, o2, c2)) ∧
      (∀ r2 nd2 o2 c2, nodeAt nd0 r2 = some nd2 → S' id (p ++ (i, k) :: r2) = some (b1, o2, c2) → r = r2)) :
    RW w' F' S' (updH H id p (setC · i k c')) := by
  obtain ⟨⟨sz0, rows⟩, h0, h1⟩ := node_some hn
  have hrn := h.nodes id p _ hn
  have hk' : k < (r1.getD i []).length := by rw [rowlen_of hrn hi]; exact hk
  have U := nodeAt_upd p sz0 rows sz r1 i k c' h1 hi hk'
  have hbF := hrn.notF hs
  have hFb : ∀ b', F b' → w'.heap[b']? = w.heap[b']? := fun b' hb' => hother b' (fun e => hbF.1 (e ▸ hb')) (h.froz b' hb')
  have hne : ∀ id' q nd b' o2 c2, node H id' q = some nd → (id', q) ≠ (id, p) → S id' q = some (b', o2, c2) → b' ≠ b := by
    rintro id' q nd b' o2 c2 hq hpq hs2 rfl
    obtain ⟨e1, e2⟩ := h.inj id' q nd id p _ _ _ _ _ _ hq hn hs2 hs
    exact hpq (by rw [e1, e2])
  -- every node of the new heap is a new one, or like an old one
  have old : ∀ id' q nd', node (updH H id p (setC · i k c')) id' q = some nd' →
      (id' = id ∧ ∃ r nd0, q = p ++ (i, k) :: r ∧ c'.kid = some nd0 ∧ nodeAt nd0 r = some nd') ∨
      (¬ (id' = id ∧ ∃ r, q = p ++ (i, k) :: r) ∧ ∃ nd, node H id' q = some nd ∧ nd'.1 = nd.1 ∧ nd'.2.length = nd.2.length ∧ (∀ n, (∀ row ∈ nd.2, row.length = n) → ∀ row ∈ nd'.2, row.length = n) ∧
        (∀ a b, ¬ (id' = id ∧ q ++ [(a, b)] = p ++ [(i, k)]) → Sim (cellAt nd.2 a b) (cellAt nd'.2 a b)) ∧ (id' = id → q = p → cellAt nd'.2 i k = c')) := by
    intro id' q nd' hq
    rw [node_updH h0] at hq
    by_cases e : id' = id
    · subst e
      rw [if_pos rfl] at hq
      by_cases hr : ∃ r, q = p ++ (i, k) :: r
      · obtain ⟨r, rfl⟩ := hr
        have := (U _).1 r rfl
        rw [hq] at this
        cases hc : c'.kid with
        | none => rw [hc] at this; cases this
        | some nd0 => rw [hc] at this; exact .inl ⟨rfl, r, nd0, rfl, rfl, this.symm⟩
      · have := (U q).2 hr
        refine .inr ⟨fun x => hr x.2, ?_⟩
        cases hq0 : nodeAt (sz0, rows) q with
        | none => rw [hq0] at this; simp only at this; rw [this] at hq; cases hq
        | some nd =>
          rw [hq0] at this
          obtain ⟨nd2, e1, e2, e3, e4, e5, e6⟩ := this
          rw [e1] at hq
          injection hq with hq
          subst hq
          exact ⟨nd, node_mk h0 hq0, e2, e3, e4, fun a b hab => e5 a b (fun x => hab ⟨rfl, x⟩), fun _ => e6⟩
    · rw [if_neg e] at hq
      exact .inr ⟨fun x => e x.1, nd', hq, rfl, rfl, fun _ x => x, fun _ _ _ => Sim.refl _, fun x => absurd x e⟩
  refine ⟨fun id' q nd' hq => ?_, fun id1 q1 nd1 id2 q2 nd2 b1 o1 c1 o2 c2 hq1 hq2 hs1 hs2 => ?_, hF2⟩
  · rcases old id' q nd' hq with ⟨rfl, r, nd0, rfl, hc, hr⟩ | ⟨hno, nd, hq0, e1, e2, e3, e4, e5⟩
    · exact hnew nd0 r nd' hc hr
    · have hrn0 := h.nodes id' q nd hq0
      have hS0 := hS id' q nd hq0 hno
      unfold RN at hrn0 ⊢
      rw [hS0]
      cases hs0 : S id' q with
      | none =>
        rw [hs0] at hrn0
        simp only at hrn0 ⊢
        exact List.length_eq_zero_iff.1 (by rw [e2, hrn0]; rfl)
      | some x =>
        obtain ⟨b0, o0, cap0⟩ := x
        rw [hs0] at hrn0
        obtain ⟨g1, g2, arr, T, fr, g3, g4, g5, g6, g7⟩ := hrn0
        have g2' : ¬ F' b0 := by
          intro hf
          rcases hF3 b0 hf with hf | hf
          · exact g2 hf
          · exact hf id' q nd o0 cap0 hq0 hno hs0
        have cellOf : ∀ a c, a < nd'.2.length → c < nd'.1 → ∀ y, ¬ (id' = id ∧ q ++ [(a, c)] = p ++ [(i, k)]) → RC w F S id' (q ++ [(a, c)]) (cellAt nd.2 a c) y → RC w' F' S' id' (q ++ [(a, c)]) (cellAt nd'.2 a c) y := by
          intro a c ha hc y hac hrc0
          refine RC.move hFb hF (fun nd1 hkid => ?_) (e4 a c hac) hrc0
          refine hS id' _ nd1 (node_kid hq0 hkid) ?_
          rintro ⟨rfl, r, hr⟩
          obtain ⟨rfl, rfl, ht⟩ := path_tail (fun x => hno ⟨rfl, x⟩) hr
          exact hac ⟨rfl, by rw [ht]⟩
        by_cases hqp : (id', q) = (id, p)
        · injection hqp with hid hqp
          subst hid; subst hqp
          rw [hs] at hs0
          injection hs0 with hs0
          injection hs0 with hb hs0
          injection hs0 with ho hcap
          subst hb; subst ho; subst hcap
          rw [hn] at hq0
          injection hq0 with hq0
          subst hq0
          dsimp only at e1 e2 g1 g5 g6 g7
          refine ⟨by rw [e2]; exact g1, g2', _, T, fr, hw' arr T fr g3, by simpa using g4, by rw [e1]; simpa using g5, fun row hr => by rw [e1]; exact e3 sz g6 row hr, fun a c ha hc => ?_⟩
          rw [e1] at hc
          rw [e2] at ha
          have hbound : ∀ a c, a < r1.length → c < sz → o + a * sz + c < arr.size := by
            intro a c ha hc
            have : a * sz + c < cap * sz := by
              have : a * sz + sz ≤ cap * sz := by
                have := Nat.mul_le_mul_right sz (show a + 1 ≤ cap by omega)
                rw [Nat.add_mul] at this; omega
              omega
            omega
          by_cases hac : (a, c) = (i, k)
          · injection hac with h1 h2
            subst h1; subst h2
            refine ⟨y', ?_, ?_⟩
            · rw [e1, Array.getElem?_setIfInBounds_self_of_lt (hbound a c ha hc)]
            · rw [e5 rfl rfl]; exact hrc
          · obtain ⟨y, hy, hrc0⟩ := g7 a c ha hc
            refine ⟨y, ?_, cellOf a c (by omega) (by omega) y (fun x => hac ?_) hrc0⟩
            · rw [e1, Array.getElem?_setIfInBounds_ne ?_]
              · exact hy
              · intro hidx
                -- two cells of one node lie at two places
                have hsz : 0 < sz := by omega
                have h3 : a * sz + c = i * sz + k := by omega
                have ha' : a = i := by
                  have h4 : (a * sz + c) / sz = a := by rw [Nat.mul_comm, Nat.mul_add_div hsz, Nat.div_eq_of_lt hc, Nat.add_zero]
                  have h5 : (i * sz + k) / sz = i := by rw [Nat.mul_comm, Nat.mul_add_div hsz, Nat.div_eq_of_lt hk, Nat.add_zero]
                  rw [← h4, ← h5, h3]
                subst ha'
                exact hac (by rw [show c = k by omega])
            · have := x.2
              simpa using this
        · have hb0 : b0 ≠ b := hne id' q nd b0 o0 cap0 hq0 hqp hs0
          have hlt0 : b0 < w.heap.size := by
            rcases Nat.lt_or_ge b0 w.heap.size with h1 | h1
            · exact h1
            · rw [Array.getElem?_eq_none h1] at g3; cases g3
          refine ⟨by rw [e2]; exact g1, g2', arr, T, fr, (hother b0 hb0 hlt0).trans g3, g4, by rw [e1]; exact g5, fun row hr => by rw [e1]; exact e3 nd.1 g6 row hr, fun a c ha hc => ?_⟩
          obtain ⟨y, hy, hrc0⟩ := g7 a c (by omega) (by omega)
          refine ⟨y, by rw [e1]; exact hy, cellOf a c ha hc y (fun x => hqp ?_) hrc0⟩
          rw [x.1, (List.append_inj' x.2 rfl).1]
  · rcases old id1 q1 nd1 hq1 with ⟨rfl, r, nd0, rfl, hc, hr⟩ | ⟨hno, nd, hq0, _⟩
    · rcases old id2 q2 nd2 hq2 with ⟨rfl, r', nd0', rfl, hc', hr'⟩ | ⟨hno', nd', hq0', _⟩
      · rw [hc] at hc'
        injection hc' with hc'
        subst hc'
        have := (hinj nd0 r nd1 b1 o1 c1 hc hr hs1).2 r' nd2 o2 c2 hr' hs2
        rw [this]
        exact ⟨rfl, rfl⟩
      · rw [hS id2 q2 nd' hq0' hno'] at hs2
        exact absurd hs2 ((hinj nd0 r nd1 b1 o1 c1 hc hr hs1).1 id2 q2 nd' o2 c2 hq0' hno')
    · rcases old id2 q2 nd2 hq2 with ⟨rfl, r', nd0', rfl, hc', hr'⟩ | ⟨hno', nd', hq0', _⟩
      · rw [hS id1 q1 nd hq0 hno] at hs1
        exact absurd hs1 ((hinj nd0' r' nd2 b1 o2 c2 hc' hr' hs2).1 id1 q1 nd o1 c1 hq0 hno)
      · rw [hS id1 q1 nd hq0 hno] at hs1
        rw [hS id2 q2 nd' hq0' hno'] at hs2
        exact h.inj id1 q1 nd id2 q2 nd' b1 o1 c1 o2 c2 hq0 hq0' hs1 hs2

end Go.Eng

namespace Go.Eng
open Go.RowKit
set_option linter.unusedSectionVars false
set_option linter.unusedVariables false

theorem node_append {H : Hp} {nd : Nat × Rows} (id : Nat) (p : Path) : node (H ++ [some nd]) id p = if id = H.length then nodeAt nd p else node H id p := by
  unfold node
  by_cases h : id = H.length
  · subst h; simp
  · rw [if_neg h]
    by_cases hlt : id < H.length
    · rw [List.getElem?_append_left hlt]
    · have : (H ++ [some nd])[id]? = none := List.getElem?_eq_none (by simp; omega)
      rw [this, List.getElem?_eq_none (by omega)]

theorem node_lt {H : Hp} {id : Nat} {p : Path} {nd : Nat × Rows} (h : node H id p = some nd) : id < H.length := by
  obtain ⟨nd0, h0, _⟩ := node_some h
  rcases Nat.lt_or_ge id H.length with h1 | h1
  · exact h1
  · rw [List.getElem?_eq_none h1] at h0; cases h0

/-- A heap all of whose nodes are nodes of another one, under other numbers. -/
theorem RW.sub {w : World} {F : Nat → Prop} {S S' : Sh} {H H' : Hp} (h : RW w F S H) (ρ : Nat → Nat)
    (hn : ∀ id p nd, node H' id p = some nd → node H (ρ id) p = some nd ∧ ∀ q, S' id q = S (ρ id) q)
    (hinj : ∀ id p nd id' p' nd', node H' id p = some nd → node H' id' p' = some nd' → ρ id = ρ id' → id = id') : RW w F S' H' where
  nodes id p nd hq := by
    obtain ⟨h1, h2⟩ := hn id p nd hq
    have h3 := h.nodes _ _ _ h1
    refine RN.mono (fun _ _ => rfl) (fun _ x => x) (h2 p) (fun _ _ _ _ => h2 _) (fun _ _ => ⟨rfl, fun x => x⟩) h3
  inj id p nd id' p' nd' b o cap o' cap' hq hq' hs hs' := by
    obtain ⟨h1, h2⟩ := hn id p nd hq
    obtain ⟨h1', h2'⟩ := hn id' p' nd' hq'
    rw [h2] at hs
    rw [h2'] at hs'
    obtain ⟨e1, e2⟩ := h.inj _ _ _ _ _ _ _ _ _ _ _ h1 h1' hs hs'
    exact ⟨hinj _ _ _ _ _ _ hq hq' e1, e2⟩
  froz := h.froz

/-- A new object. -/
theorem RW.add {w : World} {F : Nat → Prop} {S S' : Sh} {H : Hp} (h : RW w F S H) (nd : Nat × Rows)
    (hS : ∀ id p nd', node H id p = some nd' → S' id p = S id p)
    (hnew : ∀ q nd', nodeAt nd q = some nd' → RN w F S' H.length q nd')
    (hinj : ∀ q nd' b o cap, nodeAt nd q = some nd' → S' H.length q = some (b, o, cap) →
      (∀ id p nd'' o' cap', node H id p = some nd'' → S id p ≠ some (b, o', cap')) ∧ (∀ q' nd'' o' cap', nodeAt nd q' = some nd'' → S' H.length q' = some (b, o', cap') → q = q')) :
    RW w F S' (H ++ [some nd]) where
  nodes id p nd' hq := by
    rw [node_append] at hq
    by_cases e : id = H.length
    · rw [if_pos e] at hq; subst e; exact hnew p nd' hq
    · rw [if_neg e] at hq
      refine RN.mono (fun _ _ => rfl) (fun _ x => x) (hS id p nd' hq) (fun i k nd2 hk => hS id _ nd2 (node_kid hq hk)) (fun _ _ => ⟨rfl, fun x => x⟩) (h.nodes id p nd' hq)
  inj id p nd1 id' p' nd2 b o cap o' cap' hq hq' hs hs' := by
    rw [node_append] at hq hq'
    by_cases e : id = H.length <;> by_cases e' : id' = H.length
    · rw [if_pos e] at hq; rw [if_pos e'] at hq'; subst e; subst e'
      exact ⟨rfl, (hinj p nd1 b o cap hq hs).2 p' nd2 o' cap' hq' hs'⟩
    · rw [if_pos e] at hq; rw [if_neg e'] at hq'; subst e
      rw [hS _ _ _ hq'] at hs'
      exact absurd hs' ((hinj p nd1 b o cap hq hs).1 id' p' nd2 o' cap' hq')
    · rw [if_neg e] at hq; rw [if_pos e'] at hq'; subst e'
      rw [hS _ _ _ hq] at hs
      exact absurd hs ((hinj p' nd2 b o' cap' hq' hs').1 id p nd1 o cap hq)
    · rw [if_neg e] at hq; rw [if_neg e'] at hq'
      rw [hS _ _ _ hq] at hs; rw [hS _ _ _ hq'] at hs'
      exact h.inj _ _ _ _ _ _ _ _ _ _ _ hq hq' hs hs'
  froz := h.froz

/-- Values that may lie in a cell and own nothing. -/
def V.still : V → Bool
  | .v _ => true
  | .fs _ _ => true
  | .fp _ _ _ _ => true
  | .clo _ _ => true
  | .dead => true
  | _ => false

theorem V.still_kid {c : V} (h : c.still = true) : c.kid = none := by cases c <;> simp [V.still, V.kid] at h ⊢

/-- A flat node has no nodes in it. -/
def flat (rows : Rows) : Bool := rows.all (·.all V.still)

theorem flat_cell {rows : Rows} (h : flat rows = true) (i k : Nat) : (cellAt rows i k).still = true := by
  unfold cellAt
  by_cases hi : i < rows.length
  · rw [getD_lt _ _ hi]
    have h1 : (rows[i]).all V.still = true := List.all_eq_true.1 h _ (List.getElem_mem hi)
    by_cases hk : k < rows[i].length
    · rw [getD_lt _ _ hk]; exact List.all_eq_true.1 h1 _ (List.getElem_mem hk)
    · rw [getD_ge _ _ (by omega)]; rfl
  · rw [getD_ge rows _ (by omega)]; rfl

theorem flat_node {sz : Nat} {rows : Rows} (h : flat rows = true) {q : Path} {nd : Nat × Rows} (hq : nodeAt (sz, rows) q = some nd) : q = [] ∧ nd = (sz, rows) := by
  cases q with
  | nil => simp only [nodeAt, Option.some.injEq] at hq; exact ⟨rfl, hq.symm⟩
  | cons s q => rw [nodeAt_cons, V.still_kid (flat_cell h _ _)] at hq; cases hq

theorem still_RC {w : World} {F : Nat → Prop} {S S' : Sh} {id id' : Nat} {p p' : Path} {c : V} {y : Value} (hs : c.still = true) (h : RC w F S id p c y) : RC w F S' id' p' c y := by
  cases c <;> simp [V.still] at hs <;> exact h

def shAdd (S : Sh) (id : Nat) (x : Option (Nat × Nat × Nat)) : Sh := fun id' p => if id' = id then (if p = [] then x else none) else S id' p

theorem RW.fresh {w : World} {F : Nat → Prop} {S : Sh} {H : Hp} (h : RW w F S H) {b : Nat} {id : Nat} {p : Path} {nd : Nat × Rows} {o cap : Nat} (hb : w.heap.size ≤ b) (hn : node H id p = some nd) : S id p ≠ some (b, o, cap) := by
  intro hs
  have := ((h.nodes id p nd hn).notF hs).2
  omega

/-- A new object of flat cells, in a new block. -/
theorem RW.addFlat {w : World} {F : Nat → Prop} {S : Sh} {H : Hp} (h : RW w F S H) (sz : Nat) (rows : Rows) (vs : List Value) (T : TypeId) (cap : Nat) (fr : Nat × Nat)
    (hflat : flat rows = true) (hlen : ∀ row ∈ rows, row.length = sz) (hcap : rows.length ≤ cap) (hvs : cap * sz ≤ vs.length) (hfr : ∀ i, i < vs.length → ¬ (fr.1 ≤ i ∧ i < fr.2) ∧ fr.1 ≤ fr.2)
    (hc : ∀ i k, i < rows.length → k < sz → ∃ y, vs[i * sz + k]? = some y ∧ RC w F S H.length [] (cellAt rows i k) y) :
    RW (w.alloc (.cells vs.toArray T fr)) F (shAdd S H.length (some (w.heap.size, 0, cap))) (H ++ [some (sz, rows)]) := by
  have hg : RW (w.alloc (.cells vs.toArray T fr)) F S H := h.grow (by simp) (fun b hb => Below.heap_alloc _ _ _ hb)
  refine hg.add (sz, rows) (fun id p nd' hn => ?_) (fun q nd' hq => ?_) (fun q nd' b o cap' hq hs => ?_)
  · have := node_lt hn
    simp only [shAdd]; rw [if_neg (by omega)]
  · obtain ⟨rfl, rfl⟩ := flat_node hflat hq
    simp only [RN, shAdd, if_true]
    refine ⟨hcap, fun hF => ?_, vs.toArray, T, fr, Go.heap_alloc_new _ _, by simpa using hfr, by simpa using hvs, hlen, fun i k hi hk => ?_⟩
    · have := h.froz _ hF; omega
    · obtain ⟨y, hy, hrc⟩ := hc i k hi hk
      refine ⟨y, by simpa using hy, ?_⟩
      refine RC.mono (w := w) (F := F) (S := shAdd S H.length (some (w.heap.size, 0, cap))) (fun b hb => Below.heap_alloc _ _ _ (h.froz b hb)) (fun _ x => x) rfl (still_RC (flat_cell hflat i k) hrc)
  · obtain ⟨rfl, rfl⟩ := flat_node hflat hq
    simp only [shAdd, if_true, Option.some.injEq, Prod.mk.injEq] at hs
    obtain ⟨rfl, rfl, rfl⟩ := hs
    refine ⟨fun id p nd'' o' cap' hn => h.fresh (Nat.le_refl _) hn, fun q' nd'' o' cap' hq' _ => ?_⟩
    exact (flat_node hflat hq').1.symm

/-- A new object that has no memory yet. -/
theorem RW.addNil {w : World} {F : Nat → Prop} {S : Sh} {H : Hp} (h : RW w F S H) (sz : Nat) : RW w F (shAdd S H.length none) (H ++ [some (sz, [])]) := by
  refine h.add (sz, []) (fun id p nd' hn => ?_) (fun q nd' hq => ?_) (fun q nd' b o cap' hq hs => ?_)
  · have := node_lt hn
    simp only [shAdd]; rw [if_neg (by omega)]
  · obtain ⟨rfl, rfl⟩ := flat_node (rows := []) rfl hq
    simp only [RN, shAdd, if_true]
  · simp only [shAdd, if_true] at hs
    split at hs <;> cases hs

theorem Own.add {S S' : Sh} {H : Hp} {nd : Nat × Rows} (hS : ∀ id p nd', node H id p = some nd' → S' id p = S id p) {b : Nat} (h : Own S' (H ++ [some nd]) b) :
    Own S H b ∨ ∃ q nd' o cap, nodeAt nd q = some nd' ∧ S' H.length q = some (b, o, cap) := by
  obtain ⟨id, p, nd', o, cap, hn, hs⟩ := h
  rw [node_append] at hn
  by_cases e : id = H.length
  · rw [if_pos e] at hn; subst e; exact .inr ⟨p, nd', o, cap, hn, hs⟩
  · rw [if_neg e] at hn; exact .inl ⟨id, p, nd', o, cap, hn, by rw [← hS id p nd' hn]; exact hs⟩

theorem Stp.addFlat {w : World} {F : Nat → Prop} {S : Sh} {H : Hp} (o : Obj) (sz cap : Nat) (rows : Rows) (hflat : flat rows = true) :
    Stp w F S H (w.alloc o) F (shAdd S H.length (some (w.heap.size, 0, cap))) (H ++ [some (sz, rows)]) where
  os := rfl
  tape := rfl
  output := rfl
  size := by simp
  block b hb _ := Below.heap_alloc _ _ _ hb
  own b hb := by
    rcases Own.add (fun id p nd' hn => by have := node_lt hn; simp only [shAdd]; rw [if_neg (by omega)]) hb with h | ⟨q, nd', o', cap', hq, hs⟩
    · exact .inl h
    · obtain ⟨rfl, rfl⟩ := flat_node hflat hq
      simp only [shAdd, if_true, Option.some.injEq, Prod.mk.injEq] at hs
      exact .inr (by omega)
  frozen b hb := .inl hb
  keeps b hb := hb

theorem Stp.addNil {w : World} {F : Nat → Prop} {S : Sh} {H : Hp} (sz : Nat) : Stp w F S H w F (shAdd S H.length none) (H ++ [some (sz, [])]) where
  os := rfl
  tape := rfl
  output := rfl
  size := Nat.le_refl _
  block b hb _ := rfl
  own b hb := by
    rcases Own.add (fun id p nd' hn => by have := node_lt hn; simp only [shAdd]; rw [if_neg (by omega)]) hb with h | ⟨q, nd', o', cap', hq, hs⟩
    · exact .inl h
    · simp only [shAdd, if_true] at hs
      split at hs <;> cases hs
  frozen b hb := .inl hb
  keeps b hb := hb

/-- A store of a value that owns nothing, into a cell that owned nothing, or whose nodes are let go. -/
theorem RW.putStill {w : World} {F : Nat → Prop} {S : Sh} {H : Hp} (h : RW w F S H) {id : Nat} {p : Path} {sz : Nat} {r1 : Rows} {i k : Nat} {c' : V} {y' : Value} {b o cap : Nat}
    (hn : node H id p = some (sz, r1)) (hi : i < r1.length) (hk : k < sz) (hs : S id p = some (b, o, cap)) (hc : c'.still = true) (hrc : RC w F S id p c' y') :
    RW (w.setCell ⟨b, o + i * sz + k, none⟩ y') F S (updH H id p (setC · i k c')) := by
  have hbF := (h.nodes id p _ hn).notF hs
  refine h.put (y' := y') hn hi hk hs (fun _ _ _ _ _ => rfl) (fun arr T fr hb => ?_) (fun b' hb' _ => ?_) (fun _ x => x) (fun b hb => by simpa using h.froz b hb) (fun b' hb' => .inl hb') ?_ ?_ ?_
  · simp [World.setCell, Array.getElem?_modify, hb]
  · simp only [World.setCell, Array.getElem?_modify]; rw [if_neg (fun e => hb' e.symm)]
  · refine RC.mono (w := w) (F := F) (S := S) (fun b' hb' => ?_) (fun _ x => x) rfl (still_RC hc hrc)
    simp only [World.setCell, Array.getElem?_modify]; rw [if_neg (fun e => hbF.1 (by rw [e]; exact hb'))]
  · intro nd0 r nd' hk0; rw [V.still_kid hc] at hk0; cases hk0
  · intro nd0 r nd' b1 o1 c1 hk0; rw [V.still_kid hc] at hk0; cases hk0

end Go.Eng

namespace Go.Eng
open Go.RowKit
set_option linter.unusedSectionVars false
set_option linter.unusedVariables false

/-- A node behind a store is new, or an old one, of the same size. -/
theorem updH_back {w : World} {F : Nat → Prop} {S : Sh} {H : Hp} {id : Nat} {p : Path} {sz : Nat} {r1 : Rows} {i k : Nat} {c' : V}
    (hrn : RN w F S id p (sz, r1)) (hn : node H id p = some (sz, r1)) (hi : i < r1.length) (hk : k < sz) {id' : Nat} {q : Path} {nd' : Nat × Rows} (hq : node (updH H id p (setC · i k c')) id' q = some nd') :
    (id' = id ∧ ∃ r nd0, q = p ++ (i, k) :: r ∧ c'.kid = some nd0 ∧ nodeAt nd0 r = some nd') ∨ (¬ (id' = id ∧ ∃ r, q = p ++ (i, k) :: r) ∧ ∃ nd, node H id' q = some nd ∧ nd'.1 = nd.1 ∧ nd'.2.length = nd.2.length) := by
  obtain ⟨⟨sz0, rows⟩, h0, h1⟩ := node_some hn
  have hk' : k < (r1.getD i []).length := by rw [rowlen_of hrn hi]; exact hk
  have U := nodeAt_upd p sz0 rows sz r1 i k c' h1 hi hk'
  rw [node_updH h0] at hq
  by_cases e : id' = id
  · subst e
    rw [if_pos rfl] at hq
    by_cases hr : ∃ r, q = p ++ (i, k) :: r
    · obtain ⟨r, rfl⟩ := hr
      have := (U _).1 r rfl
      rw [hq] at this
      cases hc : c'.kid with
      | none => rw [hc] at this; cases this
      | some nd0 => rw [hc] at this; exact .inl ⟨rfl, r, nd0, rfl, rfl, this.symm⟩
    · have := (U q).2 hr
      refine .inr ⟨fun x => hr x.2, ?_⟩
      cases hq0 : nodeAt (sz0, rows) q with
      | none => rw [hq0] at this; simp only at this; rw [this] at hq; cases hq
      | some nd =>
        rw [hq0] at this
        obtain ⟨nd2, e1, e2, e3, _⟩ := this
        rw [e1] at hq
        injection hq with hq
        subst hq
        exact ⟨nd, node_mk h0 hq0, e2, e3⟩
  · rw [if_neg e] at hq
    exact .inr ⟨fun x => e x.1, nd', hq, rfl, rfl⟩

theorem updH_fwd {w : World} {F : Nat → Prop} {S : Sh} {H : Hp} {id : Nat} {p : Path} {sz : Nat} {r1 : Rows} {i k : Nat} {c' : V}
    (hrn : RN w F S id p (sz, r1)) (hn : node H id p = some (sz, r1)) (hi : i < r1.length) (hk : k < sz) {id' : Nat} {q : Path} {nd : Nat × Rows} (hq : node H id' q = some nd) (hno : ¬ (id' = id ∧ ∃ r, q = p ++ (i, k) :: r)) :
    ∃ nd', node (updH H id p (setC · i k c')) id' q = some nd' ∧ nd'.1 = nd.1 ∧ nd'.2.length = nd.2.length := by
  obtain ⟨⟨sz0, rows⟩, h0, h1⟩ := node_some hn
  have hk' : k < (r1.getD i []).length := by rw [rowlen_of hrn hi]; exact hk
  have U := nodeAt_upd p sz0 rows sz r1 i k c' h1 hi hk'
  rw [node_updH h0]
  by_cases e : id' = id
  · subst e
    rw [if_pos rfl]
    have hr : ¬ ∃ r, q = p ++ (i, k) :: r := fun x => hno ⟨rfl, x⟩
    obtain ⟨nd0, h0', h1'⟩ := node_some hq
    rw [h0] at h0'
    injection h0' with h0'
    injection h0' with h0'
    subst h0'
    have := (U q).2 hr
    rw [h1'] at this
    obtain ⟨nd', e1, e2, e3, _⟩ := this
    exact ⟨nd', e1, e2, e3⟩
  · rw [if_neg e]
    exact ⟨nd, hq, rfl, rfl⟩

/-- The state of the abstract machine: temporaries, objects. -/
structure St where
  σ : List (Nat × V)
  H : Hp

def look : List (Nat × V) → Nat → Option V
  | [], _ => none
  | (t, x) :: r, u => if t = u then some x else look r u

/-- What the program's tables hold: blocks that nobody writes, and what of them is read. -/
class Globs where
  val : List (Nat × Obj)
  view : Nat → Option (Nat × Rows)
  ok : ∀ g sz rows (w : World) (F : Nat → Prop), (∀ p ∈ val, F p.1 ∧ w.heap[p.1]? = some p.2) → view g = some (sz, rows) → RepF w F (.fp sz rows 0 0) (.pointer (some ⟨g, 0, none⟩))
variable [Globs]

def GlobOk (w : World) (F : Nat → Prop) : Prop := ∀ p ∈ Globs.val, F p.1 ∧ w.heap[p.1]? = some p.2

theorem GlobOk.mono {w w' : World} {F F' : Nat → Prop} (hb : ∀ b, F b → w'.heap[b]? = w.heap[b]?) (hF : ∀ b, F b → F' b) (h : GlobOk w F) : GlobOk w' F' :=
  fun p hp => ⟨hF _ (h p hp).1, (hb _ (h p hp).1).trans (h p hp).2⟩

/-- The temporaries of a frame are what a state says. -/
structure TR (a : Act) (w : World) (F : Nat → Prop) (S : Sh) (H : Hp) (σ : List (Nat × V)) : Prop where
  tmp : ∀ t x, look σ t = some x → t < a.tmps.size ∧ RV w F S H x (a.tmps.getD t undef)
  glob : GlobOk w F

/-- Which nodes are let go: from some depth on, of some objects. -/
def Killed (ks : List (Nat × Nat)) (id : Nat) (p : Path) : Prop := ∃ k ∈ ks, k.1 = id ∧ k.2 ≤ p.length

/-- No reference in x leads to what is let go. -/
def killV (ks : List (Nat × Nat)) (x : V) : V := if (refs x).any (fun r => ks.any fun k => k.1 == r.1 && decide (k.2 ≤ r.2.length)) then .dead else x

def kill (ks : List (Nat × Nat)) (σ : List (Nat × V)) : List (Nat × V) := if ks.isEmpty then σ else σ.map fun tx => (tx.1, killV ks tx.2)

theorem look_map (f : V → V) (σ : List (Nat × V)) (t : Nat) : look (σ.map fun tx => (tx.1, f tx.2)) t = (look σ t).map f := by
  induction σ with
  | nil => rfl
  | cons tx r ih =>
    simp only [List.map_cons, look]
    split
    · rfl
    · exact ih

theorem killV_nil (x : V) : killV [] x = x := by simp [killV]

theorem look_kill (ks : List (Nat × Nat)) (σ : List (Nat × V)) (t : Nat) : look (kill ks σ) t = (look σ t).map (killV ks) := by
  unfold kill
  split
  · rename_i h
    have : ks = [] := by simpa using h
    subst this
    cases look σ t with
    | none => rfl
    | some x => simp [killV_nil]
  · exact look_map _ _ _

theorem RV.dead {w : World} {F : Nat → Prop} {S : Sh} {H : Hp} (y : Value) : RV w F S H .dead y := trivial

theorem look_cons (t : Nat) (x : V) (σ : List (Nat × V)) (u : Nat) : look ((t, x) :: σ) u = if t = u then some x else look σ u := rfl

theorem TR.mono {a : Act} {w w' : World} {F F' : Nat → Prop} {S S' : Sh} {H H' : Hp} {σ : List (Nat × V)} (hb : ∀ b, F b → w'.heap[b]? = w.heap[b]?) (hF : ∀ b, F b → F' b)
    (hr : ∀ id p nd, node H id p = some nd → S' id p = S id p ∧ ∃ nd', node H' id p = some nd' ∧ nd'.1 = nd.1 ∧ nd'.2.length = nd.2.length) (h : TR a w F S H σ) : TR a w' F' S' H' σ := by
  refine ⟨fun t x hx => ?_, h.glob.mono hb hF⟩
  obtain ⟨h1, h2⟩ := h.tmp t x hx
  exact ⟨h1, RV.mono hb hF h2 (fun id p nd _ => hr id p nd)⟩

/-- Behind a change of what is let go. -/
theorem TR.kill {a : Act} {w w' : World} {F F' : Nat → Prop} {S S' : Sh} {H H' : Hp} {σ : List (Nat × V)} {ks : List (Nat × Nat)} (hb : ∀ b, F b → w'.heap[b]? = w.heap[b]?) (hF : ∀ b, F b → F' b)
    (hr : ∀ id p nd, ¬ Killed ks id p → node H id p = some nd → S' id p = S id p ∧ ∃ nd', node H' id p = some nd' ∧ nd'.1 = nd.1 ∧ nd'.2.length = nd.2.length) (h : TR a w F S H σ) : TR a w' F' S' H' (kill ks σ) := by
  refine ⟨fun t x hx => ?_, h.glob.mono hb hF⟩
  rw [look_kill] at hx
  cases hl : look σ t with
  | none => rw [hl] at hx; cases hx
  | some x0 =>
    rw [hl] at hx
    simp only [Option.map_some, Option.some.injEq] at hx
    obtain ⟨h1, h2⟩ := h.tmp t x0 hl
    refine ⟨h1, ?_⟩
    unfold killV at hx
    split at hx
    · subst hx; exact RV.dead _
    · rename_i hk
      subst hx
      refine RV.mono hb hF h2 (fun id p nd hm => hr id p nd ?_)
      rintro ⟨k, hk1, rfl, hk2⟩
      exact hk (List.any_eq_true.2 ⟨(k.1, p), hm, List.any_eq_true.2 ⟨k, hk1, by simp [hk2]⟩⟩)

theorem put_tmps (a : Act) (t : Nat) (v : Value) : (a.put (some t) v).tmps = a.tmps.setIfInBounds t v := rfl

theorem TR.put {a : Act} {w : World} {F : Nat → Prop} {S : Sh} {H : Hp} {σ : List (Nat × V)} (h : TR a w F S H σ) {t : Nat} {x : V} {y : Value} (ht : t < a.tmps.size) (hx : RV w F S H x y) :
    TR (a.put (some t) y) w F S H ((t, x) :: σ) := by
  refine ⟨fun u z hz => ?_, h.glob⟩
  rw [look_cons] at hz
  rw [put_tmps]
  by_cases e : t = u
  · subst e
    rw [if_pos rfl] at hz
    injection hz with hz
    subst hz
    refine ⟨by simpa using ht, ?_⟩
    have : (a.tmps.setIfInBounds t y).getD t undef = y := by simp [Array.getD_eq_getD_getElem?, ht]
    rw [this]
    exact hx
  · rw [if_neg e] at hz
    obtain ⟨h1, h2⟩ := h.tmp u z hz
    refine ⟨by simpa using h1, ?_⟩
    have : (a.tmps.setIfInBounds t y).getD u undef = a.tmps.getD u undef := by simp [Array.getD_eq_getD_getElem?, Array.getElem?_setIfInBounds_ne e]
    rw [this]
    exact h2

def ofV : Value → V
  | .agg cs => .agg (cs.toList.map V.v)
  | x => .v x

theorem RV_v {w : World} {F : Nat → Prop} {S : Sh} {H : Hp} (x : Value) : RV w F S H (.v x) x := rfl

theorem RV_agg {w : World} {F : Nat → Prop} {S : Sh} {H : Hp} {vs : List V} {y : Value} : RV w F S H (.agg vs) y ↔ ∃ ys : List Value, y = .agg ys.toArray ∧ vs.length = ys.length ∧ ∀ (i : Nat) (c : V) (z : Value), vs[i]? = some c → ys[i]? = some z → RVc w F S H c z := Iff.rfl

theorem ofV_sound {w : World} {F : Nat → Prop} {S : Sh} {H : Hp} (x : Value) : RV w F S H (ofV x) x := by
  cases x <;> simp only [ofV] <;> try exact RV_v _
  rename_i cs
  rw [RV_agg]
  refine ⟨cs.toList, by simp, by simp, fun i c z hc hz => ?_⟩
  rw [List.getElem?_map, hz] at hc
  simp only [Option.map_some, Option.some.injEq] at hc
  subst hc
  exact rfl

/-- What an operand is. -/
def ev (c0 : Bool) (σ : List (Nat × V)) : Operand → Option V
  | .tmp t => match look σ t with
    | some (.may c x) => if !c0 || c then some x else none
    | o => o
  | .const v => some (ofV v)
  | .func f => some (.v (.func (.func f) #[] #[]))
  | .global g => match Globs.view g with | some (sz, rows) => some (.fp sz rows 0 0) | none => none

/-- A frame and a world are in a state. -/
structure SR (N : Nat) (ak : List (Nat × Nat)) (w0 : World) (F0 : Nat → Prop) (S0 : Sh) (H0 : Hp) (st : St) (a : Act) (w : World) (F : Nat → Prop) (S : Sh) : Prop where
  rw : RW w F S st.H
  tr : TR a w F S st.H st.σ
  size : a.tmps.size = N
  stp : Stp w0 F0 S0 H0 w F S st.H
  kept : ∀ id p nd, ¬ Killed ak id p → node H0 id p = some nd → S id p = S0 id p ∧ ∃ nd', node st.H id p = some nd' ∧ nd'.1 = nd.1 ∧ nd'.2.length = nd.2.length
  defers : a.defers = []

theorem RV.of3 {w : World} {F : Nat → Prop} {S : Sh} {H : Hp} {x : V} {y : Value} (hm : x.may? = none) (h : RV w F S H x y) : RV3 w F S H x y := by
  unfold RV at h; rw [hm] at h; exact h

theorem RV.mk3 {w : World} {F : Nat → Prop} {S : Sh} {H : Hp} {x : V} {y : Value} (hm : x.may? = none) (h : RV3 w F S H x y) : RV w F S H x y := by
  unfold RV; rw [hm]; exact h

/-- An operand's value, where the operation is carried out. -/
theorem ev_sound {a : Act} {w : World} {F : Nat → Prop} {S : Sh} {H : Hp} {σ : List (Nat × V)} {c0 : Bool} {o : Operand} {x : V} (h : TR a w F S H σ) (he : ev c0 σ o = some x) (hc : c0 = true) : RV w F S H x (a.eval o) := by
  cases o with
  | tmp t =>
    simp only [ev] at he
    show RV w F S H x (a.tmps.getD t undef)
    split at he
    · rename_i c x' hl
      split at he
      · rename_i hcc
        injection he with he
        subst he
        have := (h.tmp t _ hl).2
        have hc' : c = true := by subst hc; simpa using hcc
        unfold RV at this
        simp only [V.may?] at this
        have h3 := this.1 hc'
        cases hm : x'.may? with
        | none => exact RV.mk3 hm h3
        | some q =>
          cases x' <;> simp [V.may?] at hm
          simp [RV3, V.tup?, RV2, V.agg?, RVc, V.clo?, RV1] at h3
      · cases he
    · exact (h.tmp t x he).2
  | const v => simp only [ev, Option.some.injEq] at he; subst he; exact ofV_sound v
  | func f => simp only [ev, Option.some.injEq] at he; subst he; exact rfl
  | global g =>
    simp only [ev] at he
    split at he
    · rename_i sz rows hv
      injection he with he
      subst he
      exact Globs.ok g sz rows w F h.glob hv
    · cases he

end Go.Eng

namespace Go.Eng
open Go.RowKit
set_option linter.unusedSectionVars false
set_option linter.unusedVariables false
set_option linter.unusedSimpArgs false
variable [Globs]

/-- A computation that asks the world for nothing. -/
def pureRun (P : Program) {α : Type} : Sem α → Option α
  | .pure a => some a
  | .program k => pureRun P (k P)
  | _ => none

theorem pureRun_sound {P : Program} {α : Type} (s : Sem α) : ∀ {x : α}, pureRun P s = some x → ∀ w, s.run P w = .ok x w := by
  induction s with
  | pure a => intro x h w; simp only [pureRun, Option.some.injEq] at h; subst h; rfl
  | program k ih => intro x h w; simp only [pureRun] at h; exact ih P h w
  | _ => intro x h; simp [pureRun] at h

theorem pureRun_bind {P : Program} {α β : Type} (s : Sem α) (f : α → Sem β) : pureRun P (s >>= f) = (pureRun P s).bind fun a => pureRun P (f a) := by
  show pureRun P (s.bind f) = _
  induction s with
  | pure a => rfl
  | program k ih => simp only [Sem.bind, pureRun]; exact ih P
  | _ => rfl

theorem pureRun_pure {P : Program} {α : Type} (a : α) : pureRun P (Pure.pure a : Sem α) = some a := rfl

def plain1 : V → Option Value
  | .v x => some x
  | _ => none

def plains : List V → Option (List Value)
  | [] => some []
  | x :: r => match plain1 x, plains r with
    | some y, some l => some (y :: l)
    | _, _ => none

def plain : V → Option Value
  | .v x => some x
  | .agg vs => match plains vs with | some l => some (.agg l.toArray) | none => none
  | _ => none

theorem plains_sound {w : World} {F : Nat → Prop} {S : Sh} {H : Hp} : ∀ {vs : List V} {l ys : List Value}, plains vs = some l → vs.length = ys.length → (∀ (i : Nat) (c : V) (z : Value), vs[i]? = some c → ys[i]? = some z → RVc w F S H c z) → ys = l
  | [], l, ys, h, hl, _ => by simp only [plains, Option.some.injEq] at h; subst h; exact List.length_eq_zero_iff.1 hl.symm
  | x :: r, l, ys, h, hl, hr => by
    cases ys with
    | nil => simp at hl
    | cons y ys =>
      simp only [plains] at h
      cases x <;> simp only [plain1] at h <;> try (cases h)
      rename_i v
      cases hp : plains r with
      | none => rw [hp] at h; cases h
      | some l' =>
        rw [hp] at h
        simp only [Option.some.injEq] at h
        subst h
        have h0 := hr 0 _ _ rfl rfl
        simp only [RVc, V.clo?, RV1] at h0
        have e : ys = l' := plains_sound (w := w) (F := F) (S := S) (H := H) hp (by simpa using hl) (fun i c z hc hz => hr (i + 1) c z (by simpa using hc) (by simpa using hz))
        rw [h0, e]

theorem plain_sound {w : World} {F : Nat → Prop} {S : Sh} {H : Hp} {x : V} {y z : Value} (h : RV w F S H x y) (hp : plain x = some z) : y = z := by
  cases x <;> simp only [plain] at hp <;> try (cases hp)
  · exact h
  · rename_i vs
    cases hl : plains vs with
    | none => rw [hl] at hp; cases hp
    | some l =>
      rw [hl] at hp
      injection hp with hp
      subst hp
      simp only [RV, V.may?, RV3, V.tup?, RV2, V.agg?] at h
      obtain ⟨ys, rfl, h2, h3⟩ := h
      rw [plains_sound hl h2 h3]

theorem RV_tup {w : World} {F : Nat → Prop} {S : Sh} {H : Hp} {vs : List V} {y : Value} : RV w F S H (.tup vs) y ↔ ∃ ys : List Value, y = .tuple ys.toArray ∧ vs.length = ys.length ∧ ∀ (i : Nat) (c : V) (z : Value), vs[i]? = some c → ys[i]? = some z → RV2 w F S H c z := Iff.rfl

/-- Types: is it a struct or an array, how many cells. -/
def tinfo (P : Program) (t : Nat) : Option (Bool × Nat) :=
  match P.underlying t, P.info? t with
  | some d, some i => some (d matches .struct _ | .array _ _, i.size)
  | _, _ => none

/-- A slice type's element type, its cells, its bytes. -/
def tslice (P : Program) (t : Nat) : Option (Nat × Nat × Nat) :=
  match P.underlying t with
  | some (.slice e) => match P.info? e with | some i => some (e, i.size, i.bytes) | none => none
  | _ => none

/-- An array type's length, element type, the element's cells. -/
def tarray (P : Program) (t : Nat) : Option (Nat × Nat × Nat) :=
  match P.underlying t with
  | some (.array n e) => match P.info? e with | some i => some (n, e, i.size) | none => none
  | _ => none

/-- A field's place, type, whether it is a struct or an array, its cells. -/
def tfield (P : Program) (t f : Nat) : Option (Nat × Nat × Bool × Nat) :=
  match P.underlying t with
  | some (.struct fs) => match fs[f]? with
    | some fd => match tinfo P fd.type with | some (g, n) => some (fd.offset, fd.type, g, n) | none => none
    | none => none
  | _ => none

def tzero (P : Program) (t : Nat) : Option (List Value) :=
  match P.info? t with
  | some i => match i.zero with | some z => some z.cells.toList | none => none
  | none => none

theorem run_isAgg {P : Program} {t : Nat} {g : Bool} {n : Nat} (h : tinfo P t = some (g, n)) (w : World) : (isAgg t).run P w = .ok g w := by
  unfold tinfo at h
  cases hu : P.underlying t with
  | none => rw [hu] at h; cases h
  | some d =>
    cases hi : P.info? t with
    | none => rw [hu, hi] at h; cases h
    | some i =>
      rw [hu, hi] at h
      simp only [Option.some.injEq, Prod.mk.injEq] at h
      obtain ⟨h1, h2⟩ := h
      subst h1
      cases d <;> simp [isAgg, run_underlying hu]

theorem run_sizeOf' {P : Program} {t : Nat} {g : Bool} {n : Nat} (h : tinfo P t = some (g, n)) (w : World) : (sizeOf t).run P w = .ok n w := by
  unfold tinfo at h
  cases hu : P.underlying t with
  | none => rw [hu] at h; cases h
  | some d =>
    cases hi : P.info? t with
    | none => rw [hu, hi] at h; cases h
    | some i =>
      rw [hu, hi] at h
      simp only [Option.some.injEq, Prod.mk.injEq] at h
      obtain ⟨h1, h2⟩ := h
      subst h2
      simp [sizeOf, typeInfo, hi]

end Go.Eng

namespace Go.Eng
open Go.RowKit
set_option linter.unusedSectionVars false
set_option linter.unusedVariables false
set_option linter.unusedSimpArgs false
variable [Globs]

/-- What is loaded of a cell. -/
def toTmp (id : Nat) (p : Path) (i k : Nat) (c : V) : V :=
  match c with
  | .own sz r => .ref id (p ++ [(i, k)]) sz 0 r.length
  | .box _ _ => .ptr id (p ++ [(i, k)]) 0 0
  | .v x => .v x
  | .fs sz r => .fs sz r
  | .fp sz r a b => .fp sz r a b
  | .clo f cs => .clo f cs
  | _ => .dead

def loadRow (id : Nat) (p : Path) (i : Nat) : Nat → List V → List V
  | _, [] => []
  | k, c :: cs => toTmp id p i k c :: loadRow id p i (k + 1) cs

theorem length_loadRow (id : Nat) (p : Path) (i : Nat) : ∀ (cs : List V) (k : Nat), (loadRow id p i k cs).length = cs.length
  | [], _ => rfl
  | c :: cs, k => by simp [loadRow, length_loadRow id p i cs]

theorem getElem?_loadRow (id : Nat) (p : Path) (i : Nat) : ∀ (cs : List V) (k j : Nat), (loadRow id p i k cs)[j]? = (cs[j]?).map (toTmp id p i (k + j))
  | [], _, _ => by simp [loadRow]
  | c :: cs, k, 0 => by simp [loadRow]
  | c :: cs, k, j + 1 => by
    simp only [loadRow, List.getElem?_cons_succ, getElem?_loadRow id p i cs]
    rw [show k + 1 + j = k + (j + 1) by omega]

/-- A struct or an array, or one cell, out of a row's cells. -/
def pack (g : Bool) (vs : List V) : V := if g then .agg vs else vs.headD .dead

theorem RC_tmp {w : World} {F : Nat → Prop} {S : Sh} {H : Hp} {id : Nat} {p : Path} {nd : Nat × Rows} {i k : Nat} {y : Value} (hn : node H id p = some nd) (h : RC w F S id (p ++ [(i, k)]) (cellAt nd.2 i k) y) :
    RVc w F S H (toTmp id p i k (cellAt nd.2 i k)) y := by
  have hkid : ∀ nd', (cellAt nd.2 i k).kid = some nd' → node H id (p ++ [(i, k)]) = some nd' := fun nd' hk => node_kid hn hk
  cases hc : cellAt nd.2 i k <;> rw [hc] at h hkid <;> simp only [toTmp, RVc, V.clo?]
  · exact h
  · exact h
  · exact h
  · rename_i sz r
    have hn' := hkid (sz, r) rfl
    simp only [RC] at h
    refine ⟨(sz, r), hn', rfl, by simp, ?_⟩
    cases hs : S id (p ++ [(i, k)]) with
    | none => rw [hs] at h; exact h
    | some x =>
      obtain ⟨b, o, cap⟩ := x
      rw [hs] at h
      obtain ⟨a, h1, h2⟩ := h
      exact ⟨a, h1, fun hcap => by rw [h2 hcap]; simp⟩
  · rename_i sz r
    have hn' := hkid (sz, r) rfl
    simp only [RC] at h
    refine ⟨(sz, r), hn', ?_⟩
    cases hs : S id (p ++ [(i, k)]) with
    | none => rw [hs] at h; exact h
    | some x =>
      obtain ⟨b, o, cap⟩ := x
      rw [hs] at h
      simp only at h ⊢
      rw [h]; simp
  · exact h.elim
  · exact h.elim
  · exact h.elim
  · exact h.elim
  · exact .inl h
  · exact h.elim
  · exact h.elim
  · trivial

theorem RVc_RV {w : World} {F : Nat → Prop} {S : Sh} {H : Hp} {x : V} {y : Value} (hm : x.may? = none) (ht : x.tup? = none) (ha : x.agg? = none) (h : RVc w F S H x y) : RV w F S H x y := by
  refine RV.mk3 hm ?_
  unfold RV3; rw [ht]
  unfold RV2; rw [ha]
  exact h

theorem toTmp_shape (id : Nat) (p : Path) (i k : Nat) (c : V) : (toTmp id p i k c).may? = none ∧ (toTmp id p i k c).tup? = none ∧ (toTmp id p i k c).agg? = none := by
  cases c <;> simp [toTmp, V.may?, V.tup?, V.agg?]

theorem cell?_row {w : World} {b o : Nat} {arr : Array Value} {T : TypeId} {fr : Nat × Nat} (h : w.heap[b]? = some (.cells arr T fr)) : w.cell? ⟨b, o, none⟩ = arr[o]? := by simp [World.cell?, h]

theorem add_addr (b o n : Nat) : (⟨b, o, none⟩ : Addr).add n = ⟨b, o + n, none⟩ := by unfold Addr.add; split <;> simp_all

/-- The cells of an element, one by one. -/
theorem row_cells {w : World} {F : Nat → Prop} {S : Sh} {H : Hp} (h : RW w F S H) {id : Nat} {p : Path} {nd : Nat × Rows} (hn : node H id p = some nd) {b o cap : Nat} (hs : S id p = some (b, o, cap)) {i k n : Nat} (hi : i < nd.2.length) (hk : k + n ≤ nd.1) :
    ∃ ys : List Value, ys.length = n ∧ (∀ j y, ys[j]? = some y → w.cell? ((⟨b, o + i * nd.1 + k, none⟩ : Addr).add j) = some y) ∧
      ∀ j c y, (((nd.2.getD i []).drop k).take n)[j]? = some c → ys[j]? = some y → RVc w F S H (toTmp id p i (k + j) c) y := by
  have hrn := h.nodes id p nd hn
  have hlen := rowlen_of hrn hi
  unfold RN at hrn
  rw [hs] at hrn
  obtain ⟨h1, h2, arr, T, fr, h3, h4, h5, h6, h7⟩ := hrn
  have hall : ∀ j, j < n → ∃ y, arr[o + i * nd.1 + (k + j)]? = some y ∧ RC w F S id (p ++ [(i, k + j)]) (cellAt nd.2 i (k + j)) y := fun j hj => h7 i (k + j) hi (by omega)
  let ys := (List.range n).map fun j => (arr[o + i * nd.1 + (k + j)]?).getD undef
  have hys : ∀ j, j < n → ys[j]? = arr[o + i * nd.1 + (k + j)]? := by
    intro j hj
    obtain ⟨y, hy, _⟩ := hall j hj
    simp [ys, List.getElem?_map, List.getElem?_range hj, hy]
  have hylen : ys.length = n := by simp [ys]
  have hlt : ∀ j y, ys[j]? = some y → j < n := by
    intro j y hj
    rcases Nat.lt_or_ge j n with h | h
    · exact h
    · rw [List.getElem?_eq_none (by omega)] at hj; cases hj
  refine ⟨ys, hylen, fun j y hj => ?_, fun j c y hc hj => ?_⟩
  · rw [add_addr, cell?_row h3, show o + i * nd.1 + k + j = o + i * nd.1 + (k + j) by omega, ← hys j (hlt j y hj)]; exact hj
  · have hjn := hlt j y hj
    obtain ⟨y', hy', hrc⟩ := hall j hjn
    rw [hys j hjn, hy'] at hj
    injection hj with hj
    subst hj
    have hcell : cellAt nd.2 i (k + j) = c := by
      unfold cellAt
      rw [List.getElem?_take_of_lt hjn, List.getElem?_drop] at hc
      rw [List.getD_eq_getElem?_getD, hc]
      rfl
    have := RC_tmp hn hrc
    rw [hcell] at this
    exact this

/-- A load through a pointer into an object. -/
theorem load_ptr {P : Program} {w : World} {F : Nat → Prop} {S : Sh} {H : Hp} (h : RW w F S H) {id : Nat} {p : Path} {i k : Nat} {y : Value} (hp : RV w F S H (.ptr id p i k) y) {t : Nat} {g : Bool} {n : Nat} (ht : tinfo P t = some (g, n))
    {nd : Nat × Rows} (hn : node H id p = some nd) (hi : i < nd.2.length) (hk : k + n ≤ nd.1) (hg : g = false → n = 1) :
    ∃ z, (Instr.loadAt t y).run P w = .ok z w ∧ RV w F S H (pack g (loadRow id p i k (((nd.2.getD i []).drop k).take n))) z := by
  simp only [RV, V.may?, RV3, V.tup?, RV2, V.agg?, RVc, V.clo?, RV1] at hp
  obtain ⟨nd', hn', hy⟩ := hp
  rw [hn] at hn'
  injection hn' with hn'
  subst hn'
  cases hs : S id p with
  | none => rw [hs] at hy; exact hy.elim
  | some x =>
    obtain ⟨b, o, cap⟩ := x
    rw [hs] at hy
    simp only at hy
    subst hy
    obtain ⟨ys, hl, hc, hr⟩ := row_cells h hn hs hi hk
    have hrow : (((nd.2.getD i []).drop k).take n).length = n := by
      have := rowlen_of (h.nodes id p nd hn) hi
      rw [List.length_take, List.length_drop, this]; omega
    cases g with
    | true =>
      refine ⟨.agg ys.toArray, ?_, ?_⟩
      · have := run_loadCells_list (P := P) w _ ys hc
        rw [hl] at this
        simp [Instr.loadAt, Instr.sureAddr, loadVar, run_isAgg ht, run_sizeOf' ht, this]
      · simp only [pack, if_true]
        rw [RV_agg]
        refine ⟨ys, rfl, by rw [length_loadRow, hrow, hl], fun j c z hcj hz => ?_⟩
        rw [getElem?_loadRow] at hcj
        cases hcc : (((nd.2.getD i []).drop k).take n)[j]? with
        | none => rw [hcc] at hcj; cases hcj
        | some c0 =>
          rw [hcc] at hcj
          simp only [Option.map_some, Option.some.injEq] at hcj
          subst hcj
          exact hr j c0 z hcc hz
    | false =>
      obtain rfl := hg rfl
      obtain ⟨y0, rfl⟩ : ∃ y0, ys = [y0] := by
        match ys, hl with
        | [y0], _ => exact ⟨y0, rfl⟩
      have hcell := hc 0 y0 rfl
      simp only [add_addr, Nat.add_zero] at hcell
      refine ⟨y0, ?_, ?_⟩
      · simp [Instr.loadAt, Instr.sureAddr, loadVar, run_isAgg ht, hcell, Result.andThen]
      · obtain ⟨c0, hc0⟩ : ∃ c0, ((nd.2.getD i []).drop k).take 1 = [c0] := by
          match h9 : ((nd.2.getD i []).drop k).take 1, hrow with
          | [c0], _ => exact ⟨c0, rfl⟩
        rw [hc0]
        have := hr 0 c0 y0 (by rw [hc0]; rfl) rfl
        simp only [pack, loadRow, List.headD, Nat.add_zero] at this ⊢
        obtain ⟨s1, s2, s3⟩ := toTmp_shape id p i k c0
        exact RVc_RV s1 s2 s3 this

theorem RepF.toRVc {w : World} {F : Nat → Prop} {S : Sh} {H : Hp} {c : V} {y : Value} (h : RepF w F c y) : RVc w F S H c y := by
  cases h with
  | v x => exact rfl
  | fsnil sz a cap => exact RepF.fsnil sz a cap
  | fs sz rows b o cap g h1 h2 h3 h4 h5 => exact RepF.fs sz rows b o cap g h1 h2 h3 h4 h5
  | fp sz rows i0 k0 b o g h1 h2 h3 h4 => exact RepF.fp sz rows i0 k0 b o g h1 h2 h3 h4
  | clo f caps ys h1 h2 => exact .inl (RepF.clo f caps ys h1 h2)

theorem RepF.toRV {w : World} {F : Nat → Prop} {S : Sh} {H : Hp} {c : V} {y : Value} (h : RepF w F c y) : RV w F S H c y := by
  have h2 := RepF.toRVc (S := S) (H := H) h
  cases h <;> exact h2

/-- A load through a pointer into memory that nobody writes. -/
theorem load_fp {P : Program} {w : World} {F : Nat → Prop} {S : Sh} {H : Hp} {sz : Nat} {rows : Rows} {i k : Nat} {y : Value} (hp : RepF w F (.fp sz rows i k) y) {t : Nat} {g : Bool} {n : Nat} (ht : tinfo P t = some (g, n))
    (hi : i < rows.length) (hk : k + n ≤ sz) (hg : g = false → n = 1) :
    ∃ z, (Instr.loadAt t y).run P w = .ok z w ∧ RV w F S H (pack g (((rows.getD i []).drop k).take n)) z := by
  cases hp with
  | fp sz rows i0 k0 b o gg hF hsz hc hr =>
    have hrowi : rows[i]? = some (rows.getD i []) := by rw [getD_lt _ _ hi]; exact List.getElem?_eq_getElem hi
    have hrl := hsz i _ hrowi
    have hel : ∀ j, j < n → ∃ c, (rows.getD i [])[k + j]? = some c ∧ w.cell? ⟨b, o + i * sz + (k + j), none⟩ = some (gg i (k + j)) ∧ RepF w F c (gg i (k + j)) := by
      intro j hj
      have hlt : k + j < (rows.getD i []).length := by omega
      refine ⟨(rows.getD i [])[k + j], List.getElem?_eq_getElem hlt, hc i (k + j) _ _ hrowi (List.getElem?_eq_getElem hlt), hr i (k + j) _ _ hrowi (List.getElem?_eq_getElem hlt)⟩
    let ys := (List.range n).map fun j => gg i (k + j)
    have hys : ∀ j, j < n → ys[j]? = some (gg i (k + j)) := by intro j hj; simp [ys, List.getElem?_map, List.getElem?_range hj]
    have hylen : ys.length = n := by simp [ys]
    have hlt : ∀ (j : Nat) (y : Value), ys[j]? = some y → j < n := by
      intro j y hj
      rcases Nat.lt_or_ge j n with h | h
      · exact h
      · rw [List.getElem?_eq_none (by omega)] at hj; cases hj
    have hcells : ∀ (j : Nat) (y : Value), ys[j]? = some y → w.cell? ((⟨b, o + i * sz + k, none⟩ : Addr).add j) = some y := by
      intro j y hj
      obtain ⟨c, _, h2, _⟩ := hel j (hlt j y hj)
      rw [hys j (hlt j y hj)] at hj
      rw [add_addr, show o + i * sz + k + j = o + i * sz + (k + j) by omega, h2]; exact hj
    have hrow : (((rows.getD i []).drop k).take n).length = n := by rw [List.length_take, List.length_drop, hrl]; omega
    have hval : ∀ (j : Nat) (c : V) (y : Value), (((rows.getD i []).drop k).take n)[j]? = some c → ys[j]? = some y → RepF w F c y := by
      intro j c y hcj hj
      have hjn := hlt j y hj
      obtain ⟨c', h1, _, h3⟩ := hel j hjn
      rw [hys j hjn] at hj
      injection hj with hj
      subst hj
      rw [List.getElem?_take_of_lt hjn, List.getElem?_drop, h1] at hcj
      injection hcj with hcj
      subst hcj
      exact h3
    cases g with
    | true =>
      refine ⟨.agg ys.toArray, ?_, ?_⟩
      · have := run_loadCells_list (P := P) w _ ys hcells
        rw [hylen] at this
        simp [Instr.loadAt, Instr.sureAddr, loadVar, run_isAgg ht, run_sizeOf' ht, this]
      · simp only [pack, if_true]
        rw [RV_agg]
        exact ⟨ys, rfl, by rw [hrow, hylen], fun j c z hcj hz => RepF.toRVc (hval j c z hcj hz)⟩
    | false =>
      obtain rfl := hg rfl
      have hcell := hcells 0 (gg i (k + 0)) (hys 0 (by omega))
      simp only [add_addr, Nat.add_zero] at hcell
      refine ⟨gg i k, ?_, ?_⟩
      · simp [Instr.loadAt, Instr.sureAddr, loadVar, run_isAgg ht, hcell, Result.andThen]
      · obtain ⟨c0, hc0⟩ : ∃ c0, ((rows.getD i []).drop k).take 1 = [c0] := by
          match h9 : ((rows.getD i []).drop k).take 1, hrow with
          | [c0], _ => exact ⟨c0, rfl⟩
        rw [hc0]
        have := hval 0 c0 (gg i (k + 0)) (by rw [hc0]; rfl) (hys 0 (by omega))
        simp only [pack, List.headD, Nat.add_zero] at this ⊢
        exact RepF.toRV this

end Go.Eng

namespace Go.Eng
open Go.RowKit
set_option linter.unusedSectionVars false
set_option linter.unusedVariables false
set_option linter.unusedSimpArgs false
variable [Globs]

theorem tfield_some {P : Program} {s f off t n : Nat} {g : Bool} (h : tfield P s f = some (off, t, g, n)) : ∃ fs fd, P.underlying s = some (.struct fs) ∧ fs[f]? = some fd ∧ fd.offset = off ∧ fd.type = t ∧ tinfo P t = some (g, n) := by
  unfold tfield at h
  split at h
  · rename_i fs hu
    split at h
    · rename_i fd hf
      split at h
      · rename_i g' n' ht
        simp only [Option.some.injEq, Prod.mk.injEq] at h
        obtain ⟨rfl, rfl, rfl, rfl⟩ := h
        exact ⟨fs, fd, hu, hf, rfl, rfl, ht⟩
      · cases h
    · cases h
  · cases h

theorem run_fieldAt {P : Program} {s f off t n : Nat} {g : Bool} (h : tfield P s f = some (off, t, g, n)) (hn : n ≠ 0) (w : World) (b o : Nat) :
    (Instr.fieldAt s (.pointer (some ⟨b, o, none⟩)) f).run P w = .ok (.pointer (some ⟨b, o + off, none⟩)) w := by
  obtain ⟨fs, fd, h1, h2, rfl, rfl, h5⟩ := tfield_some h
  simp [Instr.fieldAt, run_underlying h1, h2, Instr.sureAddr, fieldPlace, run_sizeOf' h5, hn, add_addr]

theorem RV_ptr {w : World} {F : Nat → Prop} {S : Sh} {H : Hp} {id : Nat} {p : Path} {i k : Nat} {y : Value} (h : RV w F S H (.ptr id p i k) y) :
    ∃ nd b o cap, node H id p = some nd ∧ S id p = some (b, o, cap) ∧ y = .pointer (some ⟨b, o + i * nd.1 + k, none⟩) := by
  simp only [RV, V.may?, RV3, V.tup?, RV2, V.agg?, RVc, V.clo?, RV1] at h
  obtain ⟨nd, hn, hy⟩ := h
  cases hs : S id p with
  | none => rw [hs] at hy; exact hy.elim
  | some x => obtain ⟨b, o, cap⟩ := x; rw [hs] at hy; exact ⟨nd, b, o, cap, hn, rfl, hy⟩

theorem mk_ptr {w : World} {F : Nat → Prop} {S : Sh} {H : Hp} {id : Nat} {p : Path} {i k : Nat} {nd : Nat × Rows} {b o cap : Nat} (hn : node H id p = some nd) (hs : S id p = some (b, o, cap)) :
    RV w F S H (.ptr id p i k) (.pointer (some ⟨b, o + i * nd.1 + k, none⟩)) := by
  simp only [RV, V.may?, RV3, V.tup?, RV2, V.agg?, RVc, V.clo?, RV1]
  exact ⟨nd, hn, by rw [hs]⟩

theorem RV_ref {w : World} {F : Nat → Prop} {S : Sh} {H : Hp} {id : Nat} {p : Path} {sz off n : Nat} {y : Value} : RV w F S H (.ref id p sz off n) y ↔
    ∃ nd, node H id p = some nd ∧ nd.1 = sz ∧ off + n ≤ nd.2.length ∧ match S id p with
    | none => y = .slice none 0 0
    | some (b, o, cap) => ∃ a, y = .slice a n (cap - off) ∧ (off < cap → a = some ⟨b, o + off * nd.1, none⟩) := Iff.rfl

theorem fieldAddr_ptr {P : Program} {w : World} {F : Nat → Prop} {S : Sh} {H : Hp} {id : Nat} {p : Path} {i k : Nat} {y : Value} (hp : RV w F S H (.ptr id p i k) y) {s f off t n : Nat} {g : Bool} (h : tfield P s f = some (off, t, g, n)) (hn : n ≠ 0) :
    ∃ z, (Instr.fieldAt s y f).run P w = .ok z w ∧ RV w F S H (.ptr id p i (k + off)) z := by
  obtain ⟨nd, b, o, cap, hnd, hs, rfl⟩ := RV_ptr hp
  refine ⟨_, run_fieldAt h hn w _ _, ?_⟩
  rw [Nat.add_assoc]
  exact mk_ptr hnd hs

theorem RepF_fp {w : World} {F : Nat → Prop} {sz : Nat} {rows : Rows} {i k : Nat} {y : Value} (h : RepF w F (.fp sz rows i k) y) : ∃ b o, y = .pointer (some ⟨b, o + i * sz + k, none⟩) ∧ ∀ i' k', RepF w F (.fp sz rows i' k') (.pointer (some ⟨b, o + i' * sz + k', none⟩)) := by
  cases h with
  | fp sz rows i0 k0 b o g h1 h2 h3 h4 => exact ⟨b, o, rfl, fun i' k' => RepF.fp sz rows i' k' b o g h1 h2 h3 h4⟩

theorem fieldAddr_fp {P : Program} {w : World} {F : Nat → Prop} {S : Sh} {H : Hp} {sz : Nat} {rows : Rows} {i k : Nat} {y : Value} (hp : RV w F S H (.fp sz rows i k) y) {s f off t n : Nat} {g : Bool} (h : tfield P s f = some (off, t, g, n)) (hn : n ≠ 0) :
    ∃ z, (Instr.fieldAt s y f).run P w = .ok z w ∧ RV w F S H (.fp sz rows i (k + off)) z := by
  obtain ⟨b, o, rfl, hall⟩ := RepF_fp hp
  refine ⟨_, run_fieldAt h hn w _ _, ?_⟩
  rw [Nat.add_assoc]
  exact hall i (k + off)

theorem tslice_some {P : Program} {t e sz bytes : Nat} (h : tslice P t = some (e, sz, bytes)) : P.underlying t = some (.slice e) ∧ ∃ i, P.info? e = some i ∧ i.size = sz ∧ i.bytes = bytes := by
  unfold tslice at h
  split at h
  · rename_i e' hu
    split at h
    · rename_i i hi
      simp only [Option.some.injEq, Prod.mk.injEq] at h
      obtain ⟨rfl, rfl, rfl⟩ := h
      exact ⟨hu, i, hi, rfl, rfl⟩
    · cases h
  · cases h

theorem run_indexAt_slice {P : Program} {t e sz bytes : Nat} (h : tslice P t = some (e, sz, bytes)) (w : World) (b o len cap : Nat) (k : IntKind) (i : Int) (h0 : 0 ≤ i) (h1 : i < len) :
    (Instr.indexAt t (.slice (some ⟨b, o, none⟩) len cap) (.int k i)).run P w = .ok (.pointer (some ⟨b, o + i.toNat * sz, none⟩)) w := by
  obtain ⟨hu, i', hi, rfl, _⟩ := tslice_some h
  simp [Instr.indexAt, asIntOf, run_underlying hu, h0, h1, sizeOf, typeInfo, hi, add_addr]

theorem RW.cap {w : World} {F : Nat → Prop} {S : Sh} {H : Hp} (h : RW w F S H) {id : Nat} {p : Path} {nd : Nat × Rows} (hn : node H id p = some nd) : match S id p with | none => nd.2 = [] | some (b, o, cap) => nd.2.length ≤ cap := by
  have := h.nodes id p nd hn
  unfold RN at this
  cases hs : S id p with
  | none => rw [hs] at this; exact this
  | some x => obtain ⟨b, o, cap⟩ := x; rw [hs] at this; exact this.1

theorem indexAddr_ref {P : Program} {w : World} {F : Nat → Prop} {S : Sh} {H : Hp} (hw : RW w F S H) {id : Nat} {p : Path} {sz off n : Nat} {y : Value} (hp : RV w F S H (.ref id p sz off n) y) {t e bytes : Nat} (h : tslice P t = some (e, sz, bytes)) (k : IntKind) (i : Int) (h0 : 0 ≤ i) (h1 : i < n) :
    ∃ z, (Instr.indexAt t y (.int k i)).run P w = .ok z w ∧ RV w F S H (.ptr id p (off + i.toNat) 0) z := by
  rw [RV_ref] at hp
  obtain ⟨nd, hn, rfl, hl, hy⟩ := hp
  have hcap := hw.cap hn
  cases hs : S id p with
  | none =>
    rw [hs] at hcap
    simp only at hcap
    rw [hcap] at hl
    simp at hl
    omega
  | some x =>
    obtain ⟨b, o, cap⟩ := x
    rw [hs] at hy hcap
    obtain ⟨a, rfl, ha⟩ := hy
    simp only at hcap
    rw [ha (by omega)]
    refine ⟨_, run_indexAt_slice h w b _ n _ k i h0 h1, ?_⟩
    have := mk_ptr (w := w) (F := F) (i := off + i.toNat) (k := 0) hn hs
    rw [Nat.add_zero, Nat.add_mul, ← Nat.add_assoc] at this
    exact this

theorem RV_fs {w : World} {F : Nat → Prop} {S : Sh} {H : Hp} {sz : Nat} {rows : Rows} {y : Value} : RV w F S H (.fs sz rows) y ↔ RepF w F (.fs sz rows) y := Iff.rfl

theorem indexAddr_fs {P : Program} {w : World} {F : Nat → Prop} {S : Sh} {H : Hp} {sz : Nat} {rows : Rows} {y : Value} (hp : RV w F S H (.fs sz rows) y) {t e bytes : Nat} (h : tslice P t = some (e, sz, bytes)) (k : IntKind) (i : Int) (h0 : 0 ≤ i) (h1 : i < rows.length) :
    ∃ z, (Instr.indexAt t y (.int k i)).run P w = .ok z w ∧ RV w F S H (.fp sz rows i.toNat 0) z := by
  rw [RV_fs] at hp
  cases hp with
  | fsnil => simp at h1; omega
  | fs _ _ b o cap g g1 g2 g3 g4 g5 =>
    refine ⟨_, run_indexAt_slice h w b o _ _ k i h0 h1, ?_⟩
    exact RepF.fp sz rows i.toNat 0 b o g g1 g3 g4 g5

theorem tarray_some {P : Program} {t n e sz : Nat} (h : tarray P t = some (n, e, sz)) : P.underlying t = some (.array n e) ∧ ∃ i, P.info? e = some i ∧ i.size = sz := by
  unfold tarray at h
  split at h
  · rename_i n' e' hu
    split at h
    · rename_i i hi
      simp only [Option.some.injEq, Prod.mk.injEq] at h
      obtain ⟨rfl, rfl, rfl⟩ := h
      exact ⟨hu, i, hi, rfl⟩
    · cases h
  · cases h

theorem run_indexAt_array {P : Program} {t n e sz : Nat} (h : tarray P t = some (n, e, sz)) (w : World) (b o : Nat) (k : IntKind) (i : Int) (h0 : 0 ≤ i) (h1 : i < n) :
    (Instr.indexAt t (.pointer (some ⟨b, o, none⟩)) (.int k i)).run P w = .ok (.pointer (some ⟨b, o + i.toNat * sz, none⟩)) w := by
  obtain ⟨hu, i', hi, rfl⟩ := tarray_some h
  simp [Instr.indexAt, asIntOf, run_underlying hu, h0, h1, sizeOf, typeInfo, hi, add_addr, Instr.sureAddr]

theorem indexAddr_ptr {P : Program} {w : World} {F : Nat → Prop} {S : Sh} {H : Hp} {id : Nat} {p : Path} {i k : Nat} {y : Value} (hp : RV w F S H (.ptr id p i k) y) {t n e sz : Nat} (h : tarray P t = some (n, e, sz)) (kd : IntKind) (j : Int) (h0 : 0 ≤ j) (h1 : j < n) :
    ∃ z, (Instr.indexAt t y (.int kd j)).run P w = .ok z w ∧ RV w F S H (.ptr id p i (k + j.toNat * sz)) z := by
  obtain ⟨nd, b, o, cap, hnd, hs, rfl⟩ := RV_ptr hp
  refine ⟨_, run_indexAt_array h w _ _ kd j h0 h1, ?_⟩
  rw [Nat.add_assoc]
  exact mk_ptr hnd hs

theorem indexAddr_fp {P : Program} {w : World} {F : Nat → Prop} {S : Sh} {H : Hp} {sz0 : Nat} {rows : Rows} {i k : Nat} {y : Value} (hp : RV w F S H (.fp sz0 rows i k) y) {t n e sz : Nat} (h : tarray P t = some (n, e, sz)) (kd : IntKind) (j : Int) (h0 : 0 ≤ j) (h1 : j < n) :
    ∃ z, (Instr.indexAt t y (.int kd j)).run P w = .ok z w ∧ RV w F S H (.fp sz0 rows i (k + j.toNat * sz)) z := by
  obtain ⟨b, o, rfl, hall⟩ := RepF_fp hp
  refine ⟨_, run_indexAt_array h w _ _ kd j h0 h1, ?_⟩
  rw [Nat.add_assoc]
  exact hall i (k + j.toNat * sz)

/-- A bound of a slice expression. -/
def bnd (d : Nat) : Option Value → Option Nat
  | none => some d
  | some (.int _ i) => if 0 ≤ i then some i.toNat else none
  | _ => none

theorem run_sliceBounds {P : Program} (w : World) (len cap l h : Nat) (lo hi : Option Value) (hlo : bnd 0 lo = some l) (hhi : bnd len hi = some h) (h1 : l ≤ h) (h2 : h ≤ len) (h3 : len ≤ cap) (b : Bool) :
    (Instr.sliceBounds b len cap lo hi none).run P w = .ok (l, h, cap) w := by
  have key : ∀ (d : Nat) (v : Value) (y x : Nat) (code : BoundsCode) , bnd d (some v) = some x → x ≤ y → (Instr.sliceBound v y code).run P w = .ok x w := by
    intro d v y x code hv hxy
    cases v <;> simp only [bnd] at hv <;> try (cases hv)
    rename_i k i
    split at hv
    · rename_i hi
      injection hv with hv
      subst hv
      simp [Instr.sliceBound, asIntOf, hi, show i ≤ (y : Int) by omega]
    · cases hv
  unfold Instr.sliceBounds
  cases lo with
  | none =>
    simp only [bnd, Option.some.injEq] at hlo
    subst hlo
    cases hi with
    | none => simp only [bnd, Option.some.injEq] at hhi; subst hhi; simp
    | some v => simp [key len v cap h _ hhi (by omega)]
  | some u =>
    cases hi with
    | none => simp only [bnd, Option.some.injEq] at hhi; subst hhi; simp [key 0 u len l _ hlo h1]
    | some v => simp [key len v cap h _ hhi (by omega), key 0 u h l _ hlo h1]

theorem run_sliceAt {P : Program} {t e sz bytes : Nat} (ht : tslice P t = some (e, sz, bytes)) (w : World) (a : Option Addr) (len cap l h : Nat) (lo hi : Option Value) (hlo : bnd 0 lo = some l) (hhi : bnd len hi = some h) (h1 : l ≤ h) (h2 : h ≤ len) (h3 : len ≤ cap) :
    (Instr.sliceAt t (.slice a len cap) lo hi none).run P w = .ok (.slice (if cap = l then a else a.map (·.add (l * sz))) (h - l) (cap - l)) w := by
  obtain ⟨hu, i', hi', rfl, _⟩ := tslice_some ht
  simp [Instr.sliceAt, Instr.slice, run_underlying hu, run_sliceBounds w len cap l h lo hi hlo hhi h1 h2 h3, sizeOf, typeInfo, hi']

theorem slice_ref {P : Program} {w : World} {F : Nat → Prop} {S : Sh} {H : Hp} (hw : RW w F S H) {id : Nat} {p : Path} {sz off n : Nat} {y : Value} (hp : RV w F S H (.ref id p sz off n) y) {t e bytes : Nat} (ht : tslice P t = some (e, sz, bytes)) {l h : Nat} {lo hi : Option Value} (hlo : bnd 0 lo = some l) (hhi : bnd n hi = some h) (h1 : l ≤ h) (h2 : h ≤ n) :
    ∃ z, (Instr.sliceAt t y lo hi none).run P w = .ok z w ∧ RV w F S H (.ref id p sz (off + l) (h - l)) z := by
  rw [RV_ref] at hp
  obtain ⟨nd, hn, rfl, hl, hy⟩ := hp
  have hcap := hw.cap hn
  cases hs : S id p with
  | none =>
    rw [hs] at hy hcap
    simp only at hcap hy
    rw [hcap] at hl
    simp at hl
    obtain rfl : n = 0 := by omega
    obtain rfl : h = 0 := by omega
    obtain rfl : l = 0 := by omega
    subst hy
    refine ⟨_, run_sliceAt ht w none 0 0 0 0 lo hi hlo hhi (by omega) (by omega) (by omega), ?_⟩
    rw [RV_ref]
    refine ⟨nd, hn, rfl, by omega, ?_⟩
    rw [hs]
    rfl
  | some x =>
    obtain ⟨b, o, cap⟩ := x
    rw [hs] at hy hcap
    obtain ⟨a, rfl, ha⟩ := hy
    simp only at hcap
    refine ⟨_, run_sliceAt ht w a n (cap - off) l h lo hi hlo hhi h1 h2 (by omega), ?_⟩
    rw [RV_ref]
    refine ⟨nd, hn, rfl, by omega, ?_⟩
    rw [hs]
    refine ⟨_, by rw [Nat.sub_sub], fun hlt => ?_⟩
    rw [if_neg (by omega), ha (by omega)]
    simp only [Option.map_some, add_addr]
    rw [Nat.add_mul, Nat.add_assoc]

theorem slice_fs {P : Program} {w : World} {F : Nat → Prop} {S : Sh} {H : Hp} {sz : Nat} {rows : Rows} {y : Value} (hp : RV w F S H (.fs sz rows) y) {t e bytes : Nat} (ht : tslice P t = some (e, sz, bytes)) {l h : Nat} {lo hi : Option Value} (hlo : bnd 0 lo = some l) (hhi : bnd rows.length hi = some h) (h1 : l ≤ h) (h2 : h ≤ rows.length) :
    ∃ z, (Instr.sliceAt t y lo hi none).run P w = .ok z w ∧ RV w F S H (.fs sz ((rows.drop l).take (h - l))) z := by
  rw [RV_fs] at hp
  cases hp with
  | fsnil _ a cap =>
    obtain rfl : h = 0 := by simpa using h2
    obtain rfl : l = 0 := by omega
    refine ⟨_, run_sliceAt ht w a 0 cap 0 0 lo hi hlo (by simpa using hhi) (by omega) (by omega) (by omega), ?_⟩
    rw [RV_fs]
    simp only [List.drop_nil, List.take_nil]
    exact RepF.fsnil sz _ _
  | fs _ _ b o cap g g1 g2 g3 g4 g5 =>
    refine ⟨_, run_sliceAt ht w (some ⟨b, o, none⟩) rows.length cap l h lo hi hlo hhi h1 h2 g2, ?_⟩
    rw [RV_fs]
    have hlen : ((rows.drop l).take (h - l)).length = h - l := by rw [List.length_take, List.length_drop]; omega
    by_cases hz : h - l = 0
    · have : (rows.drop l).take (h - l) = [] := List.length_eq_zero_iff.1 (by rw [hlen]; exact hz)
      rw [this, hz]
      exact RepF.fsnil sz _ _
    · rw [if_neg (by omega)]
      simp only [Option.map_some, add_addr]
      have hget : ∀ (i : Nat) (row : List V), ((rows.drop l).take (h - l))[i]? = some row → rows[l + i]? = some row := by
        intro i row hr
        have hi : i < h - l := by
          rcases Nat.lt_or_ge i (h - l) with h3 | h3
          · exact h3
          · rw [List.getElem?_eq_none (by omega)] at hr; cases hr
        rw [List.getElem?_take_of_lt hi, List.getElem?_drop] at hr
        exact hr
      have := RepF.fs (w := w) (F := F) sz ((rows.drop l).take (h - l)) b (o + l * sz) (cap - l) (fun i k => g (l + i) k) g1 (by rw [hlen]; omega) (fun i row hr => g3 _ row (hget i row hr)) (fun i k row c hr hc => ?_) (fun i k row c hr hc => g5 _ _ row c (hget i row hr) hc)
      · rw [hlen] at this; exact this
      · have := g4 _ k row c (hget i row hr) hc
        rw [Nat.add_mul, ← Nat.add_assoc] at this
        exact this

end Go.Eng

namespace Go.Eng
open Go.RowKit
set_option linter.unusedSectionVars false
set_option linter.unusedVariables false
set_option linter.unusedSimpArgs false
variable [Globs]

/-- What a cell stands for that owns no memory. -/
def RC0 (w : World) (F : Nat → Prop) (c : V) (y : Value) : Prop :=
  match c with
  | .v x => y = x
  | .fs sz r => RepF w F (.fs sz r) y
  | .fp sz r i k => RepF w F (.fp sz r i k) y
  | .dead => True
  | .own _ [] => y = .slice none 0 0
  | _ => False

theorem RC0.rc {w : World} {F : Nat → Prop} {S : Sh} {id : Nat} {p : Path} {c : V} {y : Value} (h : RC0 w F c y) (hS : ∀ nd, c.kid = some nd → S id p = none) : RC w F S id p c y := by
  cases c <;> simp only [RC0] at h <;> try exact h
  rename_i sz r
  cases r with
  | nil => simp only [RC]; rw [hS (sz, []) rfl]; exact h
  | cons => exact h.elim

theorem RC0.kid {w : World} {F : Nat → Prop} {c : V} {y : Value} (h : RC0 w F c y) {nd : Nat × Rows} (hk : c.kid = some nd) : nd.2 = [] := by
  cases c <;> simp only [RC0] at h <;> simp only [V.kid] at hk <;> try (cases hk)
  rename_i sz r
  cases r with
  | nil => rfl
  | cons => exact h.elim

theorem RC0.mono {w w' : World} {F F' : Nat → Prop} {c : V} {y : Value} (hb : ∀ b, F b → w'.heap[b]? = w.heap[b]?) (hF : ∀ b, F b → F' b) (h : RC0 w F c y) : RC0 w' F' c y := by
  cases c with
  | own sz r => cases r <;> exact h
  | fs sz r => exact RepF.mono hb hF h
  | fp sz r i k => exact RepF.mono hb hF h
  | _ => exact h

theorem cellAt_nil_kid (i k : Nat) : (cellAt [] i k).kid = none := by simp [cellAt, V.kid]

/-- Nodes of an object whose cells own no memory. -/
theorem near_node {sz : Nat} {rows : Rows} (h : ∀ i k nd, (cellAt rows i k).kid = some nd → nd.2 = []) {q : Path} {nd : Nat × Rows} (hq : nodeAt (sz, rows) q = some nd) : (q = [] ∧ nd = (sz, rows)) ∨ (q ≠ [] ∧ nd.2 = []) := by
  cases q with
  | nil => simp only [nodeAt, Option.some.injEq] at hq; exact .inl ⟨rfl, hq.symm⟩
  | cons s q =>
    right
    refine ⟨by simp, ?_⟩
    rw [nodeAt_cons] at hq
    cases hk : (cellAt rows s.1 s.2).kid with
    | none => simp only [hk] at hq; cases hq
    | some nd0 =>
      simp only [hk] at hq
      have h0 := h _ _ _ hk
      cases q with
      | nil => simp only [nodeAt, Option.some.injEq] at hq; subst hq; exact h0
      | cons s' q => rw [nodeAt_cons, h0, cellAt_nil_kid] at hq; cases hq

/-- A new object in a new block; its cells own no memory. -/
theorem RW.new {w : World} {F : Nat → Prop} {S : Sh} {H : Hp} (h : RW w F S H) (sz : Nat) (rows : Rows) (arr : Array Value) (T : TypeId) (cap : Nat) (fr : Nat × Nat)
    (hlen : ∀ row ∈ rows, row.length = sz) (hcap : rows.length ≤ cap) (hvs : cap * sz ≤ arr.size) (hfr : ∀ i, i < arr.size → ¬ (fr.1 ≤ i ∧ i < fr.2) ∧ fr.1 ≤ fr.2)
    (hc : ∀ i k, i < rows.length → k < sz → ∃ y, arr[i * sz + k]? = some y ∧ RC0 w F (cellAt rows i k) y) :
    RW (w.alloc (.cells arr T fr)) F (shAdd S H.length (some (w.heap.size, 0, cap))) (H ++ [some (sz, rows)]) ∧
    Stp w F S H (w.alloc (.cells arr T fr)) F (shAdd S H.length (some (w.heap.size, 0, cap))) (H ++ [some (sz, rows)]) := by
  have hkid : ∀ i k nd, (cellAt rows i k).kid = some nd → nd.2 = [] := by
    intro i k nd hk
    obtain ⟨hi, hk'⟩ := cellAt_kid_lt hk
    rw [getD_lt _ _ hi, hlen _ (List.getElem_mem hi)] at hk'
    obtain ⟨y, _, hr⟩ := hc i k hi hk'
    exact hr.kid hk
  have hg : RW (w.alloc (.cells arr T fr)) F S H := h.grow (by simp) (fun b hb => Below.heap_alloc _ _ _ hb)
  have hSold : ∀ id p nd', node H id p = some nd' → shAdd S H.length (some (w.heap.size, 0, cap)) id p = S id p := by
    intro id p nd' hn
    have := node_lt hn
    simp only [shAdd]; rw [if_neg (by omega)]
  refine ⟨hg.add (sz, rows) hSold (fun q nd' hq => ?_) (fun q nd' b o cap' hq hs => ?_), ⟨rfl, rfl, rfl, by simp, fun b hb _ => Below.heap_alloc _ _ _ hb, fun b hb => ?_, fun b hb => .inl hb, fun b hb => hb⟩⟩
  · rcases near_node hkid hq with ⟨rfl, rfl⟩ | ⟨hne, hemp⟩
    · simp only [RN, shAdd, if_true]
      refine ⟨hcap, fun hF => ?_, arr, T, fr, Go.heap_alloc_new _ _, hfr, by simpa using hvs, hlen, fun i k hi hk => ?_⟩
      · have := h.froz _ hF; omega
      · obtain ⟨y, hy, hrc⟩ := hc i k hi hk
        refine ⟨y, by simpa using hy, ?_⟩
        refine (RC0.mono (w := w) (F := F) (fun b hb => Below.heap_alloc _ _ _ (h.froz b hb)) (fun _ x => x) hrc).rc (fun nd hk => ?_)
        simp [shAdd]
    · simp only [RN, shAdd, if_true]
      rw [if_neg hne]
      exact hemp
  · rcases near_node hkid hq with ⟨rfl, rfl⟩ | ⟨hne, hemp⟩
    · simp only [shAdd, if_true, Option.some.injEq, Prod.mk.injEq] at hs
      obtain ⟨rfl, rfl, rfl⟩ := hs
      refine ⟨fun id p nd'' o' cap' hn => h.fresh (Nat.le_refl _) hn, fun q' nd'' o' cap' hq' hs' => ?_⟩
      simp only [shAdd, if_true] at hs'
      by_cases hq0 : q' = []
      · exact hq0.symm
      · rw [if_neg hq0] at hs'; cases hs'
    · simp only [shAdd, if_true] at hs
      rw [if_neg hne] at hs
      cases hs
  · rcases Own.add hSold hb with h1 | ⟨q, nd', o', cap', hq, hs⟩
    · exact .inl h1
    · simp only [shAdd, if_true] at hs
      split at hs
      · simp only [Option.some.injEq, Prod.mk.injEq] at hs
        exact .inr (by omega)
      · cases hs

/-- What becomes of old references behind a new object. -/
theorem new_old {S : Sh} {H : Hp} {x : Option (Nat × Nat × Nat)} {nd : Nat × Rows} : ∀ id p nd', node H id p = some nd' → shAdd S H.length x id p = S id p ∧ ∃ nd'', node (H ++ [some nd]) id p = some nd'' ∧ nd''.1 = nd'.1 ∧ nd''.2.length = nd'.2.length := by
  intro id p nd' hn
  have := node_lt hn
  refine ⟨by simp only [shAdd]; rw [if_neg (by omega)], nd', ?_, rfl, rfl⟩
  rw [node_append, if_neg (by omega)]; exact hn

def shNone (S : Sh) (id : Nat) (q : Path) : Sh := fun id' p => if id' = id ∧ p = q then none else S id' p

/-- One cell is written; what is written owns no memory. -/
theorem RW.put0 {w : World} {F : Nat → Prop} {S : Sh} {H : Hp} (h : RW w F S H) {id : Nat} {p : Path} {sz : Nat} {r1 : Rows} {i k : Nat} {c' : V} {y' : Value} {b o cap : Nat}
    (hn : node H id p = some (sz, r1)) (hi : i < r1.length) (hk : k < sz) (hs : S id p = some (b, o, cap)) (hrc : RC0 w F c' y') :
    ∃ S', RW (w.setCell ⟨b, o + i * sz + k, none⟩ y') F S' (updH H id p (setC · i k c')) ∧ Stp w F S H (w.setCell ⟨b, o + i * sz + k, none⟩ y') F S' (updH H id p (setC · i k c')) ∧
      (∀ id' q nd, node H id' q = some nd → ¬ (id' = id ∧ ∃ r, q = p ++ (i, k) :: r) → S' id' q = S id' q) := by
  have hrn := h.nodes id p _ hn
  have hbF := hrn.notF hs
  have hSold : ∀ id' q nd, node H id' q = some nd → ¬ (id' = id ∧ ∃ r, q = p ++ (i, k) :: r) → shNone S id (p ++ [(i, k)]) id' q = S id' q := by
    intro id' q nd hq hno
    simp only [shNone]
    rw [if_neg (fun e => hno ⟨e.1, [], e.2⟩)]
  have hnone : shNone S id (p ++ [(i, k)]) id (p ++ [(i, k)]) = none := by simp [shNone]
  have hset : ∀ b', b' ≠ b → (w.setCell ⟨b, o + i * sz + k, none⟩ y').heap[b']? = w.heap[b']? := by
    intro b' hb'
    simp only [World.setCell, Array.getElem?_modify]; rw [if_neg (fun e => hb' e.symm)]
  refine ⟨shNone S id (p ++ [(i, k)]), ?_, ⟨rfl, rfl, rfl, by simp, fun b' _ ho => hset b' ?_, fun b' hb' => ?_, fun b' hb' => .inl hb', fun b' hb' => hb'⟩, hSold⟩
  · refine h.put (y' := y') hn hi hk hs hSold (fun arr T fr hb => ?_) (fun b' hb' _ => hset b' hb') (fun _ x => x) (fun b hb => by simpa using h.froz b hb) (fun b' hb' => .inl hb') ?_ ?_ ?_
    · simp [World.setCell, Array.getElem?_modify, hb]
    · refine (RC0.mono (w := w) (F := F) (fun b' hb' => hset b' (fun e => hbF.1 (e ▸ hb'))) (fun _ x => x) hrc).rc (fun _ _ => hnone)
    · intro nd0 r nd' hk0 hr
      have h0 := hrc.kid hk0
      cases r with
      | nil =>
        simp only [nodeAt, Option.some.injEq] at hr
        subst hr
        simp only [RN]
        rw [show p ++ (i, k) :: [] = p ++ [(i, k)] from rfl, hnone]
        exact h0
      | cons s r => rw [nodeAt_cons, h0, cellAt_nil_kid] at hr; cases hr
    · intro nd0 r nd' b1 o1 c1 hk0 hr hs1
      have h0 := hrc.kid hk0
      cases r with
      | nil => rw [show p ++ (i, k) :: [] = p ++ [(i, k)] from rfl, hnone] at hs1; cases hs1
      | cons s r => rw [nodeAt_cons, h0, cellAt_nil_kid] at hr; cases hr
  · rintro rfl
    exact ho ⟨id, p, _, _, _, hn, hs⟩
  · obtain ⟨id', q, nd', o', cap', hq, hs'⟩ := hb'
    rcases updH_back hrn hn hi hk hq with ⟨rfl, r, nd0, rfl, hk0, hr⟩ | ⟨hno, nd, hq0, _⟩
    · have h0 := hrc.kid hk0
      cases r with
      | nil => rw [show p ++ (i, k) :: [] = p ++ [(i, k)] from rfl, hnone] at hs'; cases hs'
      | cons s r => rw [nodeAt_cons, h0, cellAt_nil_kid] at hr; cases hr
    · rw [hSold id' q nd hq0 hno] at hs'
      exact .inl ⟨id', q, nd, o', cap', hq0, hs'⟩

end Go.Eng

namespace Go.Eng
open Go.RowKit
set_option linter.unusedSectionVars false
set_option linter.unusedVariables false
set_option linter.unusedSimpArgs false
variable [Globs]

/-- A value as a cell keeps it; 'slot': the elements' cells, where the cell is a slice's. -/
def cell1 (slot : Option Nat) (x : V) : Option V :=
  match slot, x with
  | some sz, .v (.slice none 0 0) => some (.own sz [])
  | _, .v y => if y.oneCell' then some (.v y) else none
  | _, .fs sz r => some (.fs sz r)
  | _, .fp sz r i k => some (.fp sz r i k)
  | _, _ => none

theorem cell1_sound {w : World} {F : Nat → Prop} {S : Sh} {H : Hp} {slot : Option Nat} {x c : V} {y : Value} (h : RVc w F S H x y) (hc : cell1 slot x = some c) : RC0 w F c y ∧ y.oneCell' = true := by
  unfold cell1 at hc
  split at hc
  · injection hc with hc; subst hc
    simp only [RVc, V.clo?, RV1] at h
    subst h
    exact ⟨rfl, rfl⟩
  · rename_i z _
    split at hc
    · rename_i h1
      injection hc with hc; subst hc
      simp only [RVc, V.clo?, RV1] at h
      subst h
      exact ⟨rfl, h1⟩
    · cases hc
  · injection hc with hc; subst hc
    simp only [RVc, V.clo?, RV1] at h
    refine ⟨h, ?_⟩
    cases h <;> rfl
  · injection hc with hc; subst hc
    simp only [RVc, V.clo?, RV1] at h
    refine ⟨h, ?_⟩
    cases h <;> rfl
  · cases hc

def cells1 : List (Option Nat) → List V → Option (List V)
  | [], [] => some []
  | s :: ss, x :: xs => match cell1 s x, cells1 ss xs with
    | some c, some cs => some (c :: cs)
    | _, _ => none
  | _, _ => none

theorem cells1_sound {w : World} {F : Nat → Prop} {S : Sh} {H : Hp} : ∀ {ss : List (Option Nat)} {xs cs : List V} {ys : List Value}, cells1 ss xs = some cs → xs.length = ys.length → (∀ (i : Nat) (c : V) (z : Value), xs[i]? = some c → ys[i]? = some z → RVc w F S H c z) →
    cs.length = xs.length ∧ ∀ (i : Nat) (c : V) (z : Value), cs[i]? = some c → ys[i]? = some z → RC0 w F c z ∧ z.oneCell' = true
  | [], [], cs, ys, h, hl, _ => by simp only [cells1, Option.some.injEq] at h; subst h; simp
  | s :: ss, x :: xs, cs, ys, h, hl, hr => by
    simp only [cells1] at h
    split at h
    · rename_i c0 cs0 h1 h2
      injection h with h
      subst h
      cases ys with
      | nil => simp at hl
      | cons y ys =>
        obtain ⟨e1, e2⟩ := cells1_sound (ys := ys) h2 (by simpa using hl) (fun i c z hc hz => hr (i + 1) c z (by simpa using hc) (by simpa using hz))
        refine ⟨by simp [e1], fun i c z hc hz => ?_⟩
        cases i with
        | zero =>
          simp only [List.getElem?_cons_zero, Option.some.injEq] at hc hz
          subst hc; subst hz
          exact cell1_sound (hr 0 x y rfl rfl) h1
        | succ i => exact e2 i c z (by simpa using hc) (by simpa using hz)
    · cases h
  | [], _ :: _, _, _, h, _, _ => by simp [cells1] at h
  | _ :: _, [], _, _, h, _, _ => by simp [cells1] at h

/-- The cells of a value. -/
def flds : V → List V
  | .agg vs => vs
  | x => [x]

theorem flds_sound {w : World} {F : Nat → Prop} {S : Sh} {H : Hp} {x : V} {y : Value} (h : RV w F S H x y) (hm : x.may? = none) (ht : x.tup? = none) (hy : x.agg? = none → y.oneCell' = true) :
    (flds x).length = y.cells.toList.length ∧ ∀ (i : Nat) (c : V) (z : Value), (flds x)[i]? = some c → y.cells.toList[i]? = some z → RVc w F S H c z := by
  have h3 := RV.of3 hm h
  unfold RV3 at h3; rw [ht] at h3
  unfold RV2 at h3
  cases ha : x.agg? with
  | some vs =>
    rw [ha] at h3
    obtain ⟨ys, rfl, h1, h2⟩ := h3
    cases x <;> simp [V.agg?] at ha
    subst ha
    exact ⟨by simpa [flds, Value.cells] using h1, by simpa [flds, Value.cells] using h2⟩
  | none =>
    rw [ha] at h3
    have hone := hy ha
    have e1 : flds x = [x] := by cases x <;> simp [V.agg?] at ha <;> rfl
    have e2 : y.cells.toList = [y] := by cases y <;> simp [Value.oneCell'] at hone <;> rfl
    rw [e1, e2]
    refine ⟨rfl, fun i c z hc hz => ?_⟩
    cases i with
    | zero => simp only [List.getElem?_cons_zero, Option.some.injEq] at hc hz; subst hc; subst hz; exact h3
    | succ i => simp at hc

/-- Several cells of one element become others. -/
def putCells (H : Hp) (id : Nat) (p : Path) (i : Nat) : Nat → List V → Hp
  | _, [] => H
  | k, c :: cs => putCells (updH H id p (setC · i k c)) id p i (k + 1) cs

theorem RW.puts {P : Program} {F : Nat → Prop} {id : Nat} {p : Path} {i sz : Nat} : ∀ (cs : List V) (ys : List Value) (w : World) (S : Sh) (H : Hp) (r1 : Rows) (k j : Nat) (b o cap : Nat),
    RW w F S H → node H id p = some (sz, r1) → i < r1.length → k + cs.length ≤ sz → S id p = some (b, o, cap) → cs.length = ys.length →
    (∀ (i : Nat) (c : V) (z : Value), cs[i]? = some c → ys[i]? = some z → RC0 w F c z ∧ z.oneCell' = true) →
    ∀ (A : Addr), A.add j = ⟨b, o + i * sz + k, none⟩ → A.block = b → A.spot = none →
    ∃ w' S', (storeCells A ys j).run P w = .ok () w' ∧ RW w' F S' (putCells H id p i k cs) ∧ Stp w F S H w' F S' (putCells H id p i k cs) ∧
      (∀ id' q nd, node H id' q = some nd → ¬ (id' = id ∧ ∃ k' r, k ≤ k' ∧ k' < k + cs.length ∧ q = p ++ (i, k') :: r) → S' id' q = S id' q ∧ ∃ nd', node (putCells H id p i k cs) id' q = some nd' ∧ nd'.1 = nd.1 ∧ nd'.2.length = nd.2.length) ∧
      (∀ b', F b' → w'.heap[b']? = w.heap[b']?) := by
  intro cs
  induction cs with
  | nil =>
    intro ys w S H r1 k j b o cap h hn hi hk hs hl hr A hA hAb hAs
    cases ys with
    | cons => simp at hl
    | nil => exact ⟨w, S, by simp [storeCells], h, Stp.refl .., fun id' q nd hq _ => ⟨rfl, nd, hq, rfl, rfl⟩, fun _ _ => rfl⟩
  | cons c cs ih =>
    intro ys w S H r1 k j b o cap h hn hi hk hs hl hr A hA hAb hAs
    cases ys with
    | nil => simp at hl
    | cons y ys =>
      simp only [List.length_cons] at hk hl
      obtain ⟨h0, h01⟩ := hr 0 c y rfl rfl
      obtain ⟨S1, g1, g2, g3⟩ := h.put0 hn hi (show k < sz by omega) hs h0
      have hrn := h.nodes id p _ hn
      have hbF := hrn.notF hs
      have hne : ¬ (id = id ∧ ∃ r, p = p ++ (i, k) :: r) := by
        rintro ⟨_, r, hr⟩
        have := congrArg List.length hr
        simp at this
      obtain ⟨nd1, e1, e2, e3⟩ := updH_fwd (c' := c) hrn hn hi (show k < sz by omega) hn hne
      obtain ⟨sz', r2⟩ := nd1
      simp only at e2 e3
      subst e2
      have hcell : ∃ v, w.cell? ⟨b, o + i * sz' + k, none⟩ = some v ∧ w.frozen? ⟨b, o + i * sz' + k, none⟩ = false := by
        have h9 := hrn
        unfold RN at h9
        rw [hs] at h9
        obtain ⟨f1, f2, arr, T, fr, f3, f4, f5, f6, f7⟩ := h9
        obtain ⟨v, hv, _⟩ := f7 i k hi (show k < sz' by omega)
        refine ⟨v, by rw [cell?_row f3]; exact hv, ?_⟩
        have hlt : o + i * sz' + k < arr.size := by
          rcases Nat.lt_or_ge (o + i * sz' + k) arr.size with h | h
          · exact h
          · rw [Array.getElem?_eq_none h] at hv; cases hv
        have := f4 _ hlt
        simp only [World.frozen?, f3]
        simp only [Bool.and_eq_false_iff, decide_eq_false_iff_not]
        omega
      obtain ⟨v0, hv0, hf0⟩ := hcell
      have hset : ∀ b', b' ≠ b → (w.setCell ⟨b, o + i * sz' + k, none⟩ y).heap[b']? = w.heap[b']? := by
        intro b' hb'
        simp only [World.setCell, Array.getElem?_modify]; rw [if_neg (fun e => hb' e.symm)]
      have hFs : ∀ b', F b' → (w.setCell ⟨b, o + i * sz' + k, none⟩ y).heap[b']? = w.heap[b']? := fun b' hb' => hset b' (fun e => hbF.1 (e ▸ hb'))
      have hA' : A.add (j + 1) = ⟨b, o + i * sz' + (k + 1), none⟩ := by
        obtain ⟨ab, ao, as⟩ := A
        simp only at hAb hAs
        subst hAb; subst hAs
        rw [add_addr] at hA ⊢
        injection hA with _ hA _
        congr 1; omega
      obtain ⟨w', S', q1, q2, q3, q4, q5⟩ := ih ys (w.setCell ⟨b, o + i * sz' + k, none⟩ y) S1 (updH H id p (setC · i k c)) r2 (k + 1) (j + 1) b o cap g1 e1 (by rw [e3]; exact hi) (by omega) (by rw [g3 id p _ hn hne]; exact hs) (by omega)
        (fun i' c' z hc hz => by
          obtain ⟨x1, x2⟩ := hr (i' + 1) c' z (by simpa using hc) (by simpa using hz)
          exact ⟨x1.mono hFs (fun _ x => x), x2⟩) A hA' hAb hAs
      refine ⟨w', S', ?_, q2, g2.trans q3, fun id' q nd hq hno => ?_, fun b' hb' => (q5 b' hb').trans (hFs b' hb')⟩
      · simp only [storeCells, Sem.run_bind]
        have hst : (Go.store (A.add j) y).run P w = .ok () (w.setCell ⟨b, o + i * sz' + k, none⟩ y) := by
          rw [hA, run_store P w _ _ _ h01, hv0, hf0]
          rfl
        rw [hst]
        exact q1
      · have hno' : ¬ (id' = id ∧ ∃ r, q = p ++ (i, k) :: r) := by
          rintro ⟨rfl, r, rfl⟩
          exact hno ⟨rfl, k, r, Nat.le_refl _, by simp, rfl⟩
        have hno2 : ¬ (id' = id ∧ ∃ k' r, k + 1 ≤ k' ∧ k' < k + 1 + cs.length ∧ q = p ++ (i, k') :: r) := by
          rintro ⟨e, k', r, h1, h2, h3⟩
          exact hno ⟨e, k', r, by omega, by simp only [List.length_cons]; omega, h3⟩
        obtain ⟨nd', m1, m2, m3⟩ := updH_fwd (c' := c) hrn hn hi (show k < sz' by omega) hq hno'
        obtain ⟨n1, nd'', n2, n3, n4⟩ := q4 id' q nd' m1 hno2
        exact ⟨n1.trans (g3 id' q nd hq hno'), nd'', n2, by omega, by omega⟩

end Go.Eng

namespace Go.Eng
open Go.RowKit
set_option linter.unusedSectionVars false
set_option linter.unusedVariables false
set_option linter.unusedSimpArgs false
variable [Globs]

def part (rows : Rows) (off n : Nat) : Rows := (rows.drop off).take n

theorem cellAt_part {rows : Rows} {off n : Nat} (i k : Nat) (hi : i < n) : cellAt (part rows off n) i k = cellAt rows (off + i) k := by
  unfold cellAt part
  congr 1
  rw [List.getD_eq_getElem?_getD, List.getElem?_take_of_lt hi, List.getElem?_drop, ← List.getD_eq_getElem?_getD]

theorem length_part {rows : Rows} {off n : Nat} (h : off + n ≤ rows.length) : (part rows off n).length = n := by
  unfold part; rw [List.length_take, List.length_drop]; omega

theorem cellAt_part_kid {rows : Rows} {off n i k : Nat} {nd : Nat × Rows} (h : off + n ≤ rows.length) (hk : (cellAt (part rows off n) i k).kid = some nd) : i < n ∧ (cellAt rows (off + i) k).kid = some nd := by
  have hi : i < n := by have := (cellAt_kid_lt hk).1; rw [length_part h] at this; exact this
  rw [cellAt_part i k hi] at hk
  exact ⟨hi, hk⟩

theorem node_set_none {H : Hp} {id2 : Nat} (id : Nat) (p : Path) : node (H.set id2 none) id p = if id = id2 then none else node H id p := by
  unfold node
  by_cases e : id = id2
  · subst e
    rw [if_pos rfl]
    by_cases hlt : id < H.length
    · rw [List.getElem?_set_self hlt]
    · rw [List.getElem?_eq_none (by simp; omega)]
  · rw [if_neg e, List.getElem?_set_ne (fun x => e x.symm)]

theorem RW.drop {w : World} {F : Nat → Prop} {S : Sh} {H : Hp} (h : RW w F S H) (id2 : Nat) : RW w F S (H.set id2 none) :=
  h.sub id (fun i p nd hq => by
    rw [node_set_none] at hq
    split at hq
    · cases hq
    · exact ⟨hq, fun _ => rfl⟩) (fun _ _ _ _ _ _ _ _ e => e)

/-- The places of what is moved: the object's, behind the cell's path. -/
def shMove (S : Sh) (id : Nat) (q : Path) (id2 : Nat) (q2 : Path) (off sz : Nat) : Sh := fun id' p =>
  if id' = id ∧ q.isPrefixOf p then
    match p.drop q.length with
    | [] => match S id2 q2 with
      | some (b, o, cap) => some (b, o + off * sz, cap - off)
      | none => none
    | (a, k) :: r => S id2 (q2 ++ (off + a, k) :: r)
  else S id' p

theorem shMove_at {S : Sh} {id : Nat} {q : Path} {id2 : Nat} {q2 : Path} {off sz : Nat} : shMove S id q id2 q2 off sz id q = match S id2 q2 with
      | some (b, o, cap) => some (b, o + off * sz, cap - off)
      | none => none := by
  unfold shMove
  rw [if_pos ⟨rfl, by simp⟩]
  simp

theorem shMove_in {S : Sh} {id : Nat} {q : Path} {id2 : Nat} {q2 : Path} {off sz : Nat} (a k : Nat) (r : Path) : shMove S id q id2 q2 off sz id (q ++ (a, k) :: r) = S id2 (q2 ++ (off + a, k) :: r) := by
  unfold shMove
  rw [if_pos ⟨rfl, by simp⟩]
  simp

theorem shMove_out {S : Sh} {id : Nat} {q : Path} {id2 : Nat} {q2 : Path} {off sz : Nat} {id' : Nat} {p : Path} (h : ¬ (id' = id ∧ ∃ r, p = q ++ r)) : shMove S id q id2 q2 off sz id' p = S id' p := by
  unfold shMove
  rw [if_neg]
  rintro ⟨e, hp⟩
  rw [List.isPrefixOf_iff_prefix] at hp
  obtain ⟨r, hr⟩ := hp
  exact h ⟨e, r, hr.symm⟩

/-- A node, moved, or a part of it. -/
theorem RN.part {w w' : World} {F F' : Nat → Prop} {S S' : Sh} {id id' : Nat} {p p' : Path} {sz : Nat} {rows : Rows} {off n : Nat} (hb : ∀ b, F b → w'.heap[b]? = w.heap[b]?) (hF : ∀ b, F b → F' b)
    (hS : S' id' p' = match S id p with | some (b, o, cap) => some (b, o + off * sz, cap - off) | none => none)
    (hS2 : ∀ a k, S' id' (p' ++ [(a, k)]) = S id (p ++ [(off + a, k)]))
    (hblk : ∀ b, (∃ o cap, S id p = some (b, o, cap)) → w'.heap[b]? = w.heap[b]? ∧ (¬ F b → ¬ F' b)) (hl : off + n ≤ rows.length) (h : RN w F S id p (sz, rows)) : RN w' F' S' id' p' (sz, Eng.part rows off n) := by
  unfold RN at h ⊢
  rw [hS]
  cases hs : S id p with
  | none =>
    rw [hs] at h
    simp only at h ⊢
    rw [h]; simp [Eng.part]
  | some x =>
    obtain ⟨b, o, cap⟩ := x
    rw [hs] at h
    obtain ⟨h1, h2, arr, T, fr, h3, h4, h5, h6, h7⟩ := h
    obtain ⟨e1, e2⟩ := hblk b ⟨o, cap, hs⟩
    simp only at h1 h5 h6 h7 ⊢
    refine ⟨by rw [length_part hl]; omega, e2 h2, arr, T, fr, e1.trans h3, h4, ?_, fun row hr => h6 row (List.mem_of_mem_drop (List.mem_of_mem_take hr)), fun i k hi hk => ?_⟩
    · have : off * sz + (cap - off) * sz = cap * sz := by rw [← Nat.add_mul]; congr 1; omega
      omega
    · rw [length_part hl] at hi
      obtain ⟨y, hy, hrc⟩ := h7 (off + i) k (by omega) hk
      refine ⟨y, ?_, ?_⟩
      · rw [← hy]; congr 1; rw [Nat.add_mul]; omega
      · rw [cellAt_part i k hi]
        exact RC.mono hb hF (hS2 i k) hrc

theorem nodeAt_part {sz : Nat} {rows : Rows} {off n : Nat} (h : off + n ≤ rows.length) {a k : Nat} {r : Path} {nd : Nat × Rows} (hq : nodeAt (sz, Eng.part rows off n) ((a, k) :: r) = some nd) : nodeAt (sz, rows) ((off + a, k) :: r) = some nd := by
  rw [nodeAt_cons] at hq ⊢
  cases hk : (cellAt (Eng.part rows off n) a k).kid with
  | none => simp only [hk] at hq; cases hq
  | some nd0 =>
    simp only [hk] at hq
    obtain ⟨_, hk'⟩ := cellAt_part_kid h hk
    simp only [hk', hq]

/-- An object becomes a cell's memory. -/
theorem RW.moveIn {w : World} {F : Nat → Prop} {S : Sh} {H : Hp} (h : RW w F S H) {id : Nat} {p : Path} {sz : Nat} {r1 : Rows} {i k : Nat} {y' : Value} {b o cap : Nat} {id2 sz2 off n : Nat} {rows2 : Rows} {c' : V}
    (hn : node H id p = some (sz, r1)) (hi : i < r1.length) (hk : k < sz) (hs : S id p = some (b, o, cap)) (hid : id ≠ id2) (h2 : node H id2 [] = some (sz2, rows2)) (hl : off + n ≤ rows2.length)
    (hc' : (c' = .own sz2 (part rows2 off n) ∧ RV w F S H (.ref id2 [] sz2 off n) y') ∨ (c' = .box sz2 (part rows2 off n) ∧ off = 0 ∧ RV w F S H (.ptr id2 [] 0 0) y')) :
    let H' := updH (H.set id2 none) id p (setC · i k c')
    let S' := shMove S id (p ++ [(i, k)]) id2 [] off sz2
    RW (w.setCell ⟨b, o + i * sz + k, none⟩ y') F S' H' ∧ Stp w F S H (w.setCell ⟨b, o + i * sz + k, none⟩ y') F S' H' ∧
      (∀ id' q nd, node H id' q = some nd → ¬ (id' = id ∧ ∃ r, q = p ++ (i, k) :: r) → id' ≠ id2 → S' id' q = S id' q) := by
  intro H' S'
  have hrn := h.nodes id p _ hn
  have hbF := hrn.notF hs
  have hrn2 := h.nodes id2 [] _ h2
  have hckid : c'.kid = some (sz2, part rows2 off n) := by rcases hc' with ⟨rfl, _⟩ | ⟨rfl, _⟩ <;> rfl
  have hd := h.drop id2
  have hnd : node (H.set id2 none) id p = some (sz, r1) := by rw [node_set_none, if_neg hid]; exact hn
  have hset : ∀ b', b' ≠ b → (w.setCell ⟨b, o + i * sz + k, none⟩ y').heap[b']? = w.heap[b']? := by
    intro b' hb'
    simp only [World.setCell, Array.getElem?_modify]; rw [if_neg (fun e => hb' e.symm)]
  have hFs : ∀ b', F b' → (w.setCell ⟨b, o + i * sz + k, none⟩ y').heap[b']? = w.heap[b']? := fun b' hb' => hset b' (fun e => hbF.1 (e ▸ hb'))
  have hout : ∀ id' q, ¬ (id' = id ∧ ∃ r, q = p ++ (i, k) :: r) → S' id' q = S id' q := by
    intro id' q hno
    refine shMove_out ?_
    rintro ⟨rfl, r, hr⟩
    exact hno ⟨rfl, r, by rw [hr]; simp⟩
  have hSat : S' id (p ++ [(i, k)]) = match S id2 [] with | some (b, o, cap) => some (b, o + off * sz2, cap - off) | none => none := shMove_at
  have hSin : ∀ a kk r, S' id (p ++ (i, k) :: (a, kk) :: r) = S id2 ((off + a, kk) :: r) := by
    intro a kk r
    have e := shMove_in (S := S) (id := id) (q := p ++ [(i, k)]) (id2 := id2) (q2 := []) (off := off) (sz := sz2) a kk r
    simp only [List.append_assoc, List.singleton_append, List.nil_append] at e
    exact e
  have hSold : ∀ id' q nd, node (H.set id2 none) id' q = some nd → ¬ (id' = id ∧ ∃ r, q = p ++ (i, k) :: r) → S' id' q = S id' q := fun id' q nd _ hno => hout id' q hno
  -- the moved nodes' blocks are not b
  have hne2 : ∀ q nd b' o' c2, node H id2 q = some nd → S id2 q = some (b', o', c2) → b' ≠ b := by
    rintro q nd b' o' c2 hq hs2 rfl
    exact hid (h.inj id2 q nd id p _ _ _ _ _ _ hq hn hs2 hs).1.symm
  have hin : ∀ r nd', nodeAt (sz2, part rows2 off n) r = some nd' → (r = [] ∧ nd' = (sz2, part rows2 off n)) ∨ ∃ a kk r', r = (a, kk) :: r' ∧ node H id2 ((off + a, kk) :: r') = some nd' := by
    intro r nd' hr
    cases r with
    | nil => simp only [nodeAt, Option.some.injEq] at hr; exact .inl ⟨rfl, hr.symm⟩
    | cons s r' =>
      obtain ⟨a, kk⟩ := s
      obtain ⟨nd0, g1, g2⟩ := node_some h2
      simp only [nodeAt, Option.some.injEq] at g2
      subst g2
      exact .inr ⟨a, kk, r', rfl, node_mk g1 (nodeAt_part hl hr)⟩
  refine ⟨?_, ⟨rfl, rfl, rfl, by simp, fun b' _ ho => hset b' ?_, fun b' hb' => ?_, fun b' hb' => .inl hb', fun b' hb' => hb'⟩, fun id' q nd _ hno _ => hout id' q hno⟩
  · refine hd.put (y' := y') hnd hi hk hs hSold (fun arr T fr hb => ?_) (fun b' hb' _ => hset b' hb') (fun _ x => x) (fun b hb => by simpa using h.froz b hb) (fun b' hb' => .inl hb') ?_ ?_ ?_
    · simp [World.setCell, Array.getElem?_modify, hb]
    · rcases hc' with ⟨rfl, hy⟩ | ⟨rfl, rfl, hy⟩
      · simp only [RC]
        rw [hSat]
        rw [RV_ref] at hy
        obtain ⟨nd, m1, m2, m3, m4⟩ := hy
        rw [h2] at m1
        injection m1 with m1
        subst m1
        cases hs2 : S id2 [] with
        | none => rw [hs2] at m4; exact m4
        | some x =>
          obtain ⟨b2, o2, cap2⟩ := x
          rw [hs2] at m4
          obtain ⟨a, rfl, ha⟩ := m4
          refine ⟨a, by rw [length_part hl], fun hcap => ha (by omega)⟩
      · simp only [RC]
        rw [hSat]
        obtain ⟨nd, b2, o2, cap2, m1, m2, rfl⟩ := RV_ptr hy
        rw [m2]
        simp
    · intro nd0 r nd' hk0 hr
      rw [hckid] at hk0
      injection hk0 with hk0
      subst hk0
      rcases hin r nd' hr with ⟨rfl, rfl⟩ | ⟨a, kk, r', rfl, hq2⟩
      · refine RN.part hFs (fun _ x => x) hSat (fun a k' => ?_) (fun b' hb' => ?_) hl hrn2
        · have := hSin a k' []
          simpa using this
        · obtain ⟨o', c2, hs2⟩ := hb'
          exact ⟨hset b' (hne2 [] _ b' o' c2 h2 hs2), fun x => x⟩
      · have := h.nodes id2 _ _ hq2
        refine RN.mono hFs (fun _ x => x) ?_ (fun i' k' nd2 _ => ?_) (fun b' hb' => ?_) this
        · exact hSin a kk r'
        · have := hSin a kk (r' ++ [(i', k')])
          simpa using this
        · obtain ⟨o', c2, hs2⟩ := hb'
          exact ⟨hset b' (hne2 _ _ b' o' c2 hq2 hs2), fun x => x⟩
    · intro nd0 r nd' b1 o1 c1 hk0 hr hs1
      rw [hckid] at hk0
      injection hk0 with hk0
      subst hk0
      -- where the moved node lay
      have src : ∃ q o' c2, node H id2 q ≠ none ∧ S id2 q = some (b1, o', c2) ∧ (r = [] → q = []) ∧ ∀ a kk r', r = (a, kk) :: r' → q = (off + a, kk) :: r' := by
        rcases hin r nd' hr with ⟨rfl, rfl⟩ | ⟨a, kk, r', rfl, hq2⟩
        · rw [show p ++ (i, k) :: [] = p ++ [(i, k)] from rfl, hSat] at hs1
          cases hs2 : S id2 [] with
          | none => rw [hs2] at hs1; cases hs1
          | some x =>
            obtain ⟨b2, o2, cap2⟩ := x
            rw [hs2] at hs1
            simp only [Option.some.injEq, Prod.mk.injEq] at hs1
            obtain ⟨rfl, _, _⟩ := hs1
            exact ⟨[], o2, cap2, by rw [h2]; simp, hs2, (fun _ => rfl), (fun _ _ _ e => by cases e)⟩
        · rw [hSin] at hs1
          exact ⟨_, o1, c1, by rw [hq2]; simp, hs1, (fun e => by cases e), (fun a' kk' r'' e => by injection e with e1 e2; injection e1 with e3 e4; rw [e3, e4, e2])⟩
      obtain ⟨q, o', c2, m1, m2, m3, m4⟩ := src
      obtain ⟨ndq, hndq⟩ := Option.ne_none_iff_exists'.1 m1
      refine ⟨fun id' q' nd'' o2 c3 hq' hno hs' => ?_, fun r2 nd2 o2 c3 hr2 hs2 => ?_⟩
      · rw [node_set_none] at hq'
        split at hq'
        · cases hq'
        · rename_i hidn
          exact hidn (h.inj _ _ _ _ _ _ _ _ _ _ _ hq' hndq hs' m2).1
      · have src2 : ∃ q2 o2' c2', node H id2 q2 ≠ none ∧ S id2 q2 = some (b1, o2', c2') ∧ (r2 = [] → q2 = []) ∧ ∀ a kk r', r2 = (a, kk) :: r' → q2 = (off + a, kk) :: r' := by
          rcases hin r2 nd2 hr2 with ⟨rfl, rfl⟩ | ⟨a, kk, r', rfl, hq2⟩
          · rw [show p ++ (i, k) :: [] = p ++ [(i, k)] from rfl, hSat] at hs2
            cases hs3 : S id2 [] with
            | none => rw [hs3] at hs2; cases hs2
            | some x =>
              obtain ⟨b2, o2, cap2⟩ := x
              rw [hs3] at hs2
              simp only [Option.some.injEq, Prod.mk.injEq] at hs2
              obtain ⟨rfl, _, _⟩ := hs2
              exact ⟨[], o2, cap2, by rw [h2]; simp, hs3, (fun _ => rfl), (fun _ _ _ e => by cases e)⟩
          · rw [hSin] at hs2
            exact ⟨_, _, _, by rw [hq2]; simp, hs2, (fun e => by cases e), (fun a' kk' r'' e => by injection e with e1 e2; injection e1 with e3 e4; rw [e3, e4, e2])⟩
        obtain ⟨q2, o2', c2', n1, n2, n3, n4⟩ := src2
        obtain ⟨ndq2, hndq2⟩ := Option.ne_none_iff_exists'.1 n1
        have hqq := (h.inj _ _ _ _ _ _ _ _ _ _ _ hndq hndq2 m2 n2).2
        cases r with
        | nil =>
          cases r2 with
          | nil => rfl
          | cons s2 r2' =>
            obtain ⟨a2, k2⟩ := s2
            have x1 := m3 rfl
            have x2 := n4 a2 k2 r2' rfl
            rw [x1, x2] at hqq
            cases hqq
        | cons s r' =>
          obtain ⟨a1, k1⟩ := s
          have x1 := m4 a1 k1 r' rfl
          cases r2 with
          | nil =>
            have x2 := n3 rfl
            rw [x1, x2] at hqq
            cases hqq
          | cons s2 r2' =>
            obtain ⟨a2, k2⟩ := s2
            have x2 := n4 a2 k2 r2' rfl
            rw [x1, x2] at hqq
            injection hqq with e1 e2
            injection e1 with e3 e4
            rw [e2, e4, show a1 = a2 by omega]
  · rintro rfl
    exact ho ⟨id, p, _, _, _, hn, hs⟩
  · obtain ⟨id', q, nd, o', cap', hq, hs'⟩ := hb'
    have hrnd := hd.nodes id p _ hnd
    rcases updH_back hrnd hnd hi hk hq with ⟨rfl, r, nd0, rfl, hk0, hr⟩ | ⟨hno, nd, hq0, _⟩
    · rw [hckid] at hk0
      injection hk0 with hk0
      subst hk0
      rcases hin r _ hr with ⟨rfl, rfl⟩ | ⟨a, kk, r', rfl, hq2⟩
      · rw [show p ++ (i, k) :: [] = p ++ [(i, k)] from rfl, hSat] at hs'
        cases hs2 : S id2 [] with
        | none => rw [hs2] at hs'; cases hs'
        | some x =>
          obtain ⟨b2, o2, cap2⟩ := x
          rw [hs2] at hs'
          simp only [Option.some.injEq, Prod.mk.injEq] at hs'
          obtain ⟨rfl, _, _⟩ := hs'
          exact .inl ⟨id2, [], _, o2, cap2, h2, hs2⟩
      · rw [hSin] at hs'
        exact .inl ⟨id2, _, _, o', cap', hq2, hs'⟩
    · rw [hout id' q hno] at hs'
      rw [node_set_none] at hq0
      split at hq0
      · cases hq0
      · exact .inl ⟨id', q, _, o', cap', hq0, hs'⟩

end Go.Eng

namespace Go.Eng
open Go.RowKit
set_option linter.unusedSectionVars false
set_option linter.unusedVariables false
set_option linter.unusedSimpArgs false
variable [Globs]

/-- A cell is forgotten. -/
theorem RW.forget {w : World} {F : Nat → Prop} {S : Sh} {H : Hp} (h : RW w F S H) {id : Nat} {p : Path} {sz : Nat} {r1 : Rows} {i k : Nat}
    (hn : node H id p = some (sz, r1)) (hi : i < r1.length) (hk : k < sz) : RW w F S (updH H id p (setC · i k .dead)) := by
  have hrn := h.nodes id p _ hn
  cases hs : S id p with
  | none =>
    unfold RN at hrn
    rw [hs] at hrn
    simp only at hrn
    rw [hrn] at hi
    simp at hi
  | some x =>
    obtain ⟨b, o, cap⟩ := x
    have hbF := hrn.notF hs
    have h9 := hrn
    unfold RN at h9
    rw [hs] at h9
    obtain ⟨f1, f2, arr, T, fr, f3, f4, f5, f6, f7⟩ := h9
    obtain ⟨v, hv, _⟩ := f7 i k hi hk
    refine h.put (y' := v) hn hi hk hs (fun _ _ _ _ _ => rfl) (fun arr' T' fr' he => ?_) (fun _ _ _ => rfl) (fun _ h => h) h.froz (fun _ hb => .inl hb) trivial (fun nd0 r nd' hc => by cases hc) (fun nd0 r nd' b1 o1 c1 hc => by cases hc)
    rw [f3] at he
    injection he with he
    injection he with e1 e2 e3
    subst e1; subst e2; subst e3
    rw [f3]
    congr 2
    simp only at hv
    apply Array.ext_getElem?
    intro j
    by_cases e : o + i * sz + k = j
    · subst e
      have hlt : o + i * sz + k < arr.size := by
        rcases Nat.lt_or_ge (o + i * sz + k) arr.size with h | h
        · exact h
        · rw [Array.getElem?_eq_none h] at hv; cases hv
      rw [Array.getElem?_setIfInBounds_self_of_lt hlt, hv]
    · rw [Array.getElem?_setIfInBounds_ne e]

/-- Places with one object more. -/
def shTake (S : Sh) (n : Nat) (id : Nat) (q : Path) (off sz : Nat) : Sh := fun id' p =>
  if id' = n then
    match p with
    | [] => match S id q with
      | some (b, o, cap) => some (b, o + off * sz, cap - off)
      | none => none
    | (a, k) :: r => S id (q ++ (off + a, k) :: r)
  else S id' p

theorem RW.takeOut {w : World} {F : Nat → Prop} {S : Sh} {H : Hp} (h : RW w F S H) {id : Nat} {p : Path} {sz : Nat} {r1 : Rows} {i k : Nat} {sz2 off n : Nat} {rows2 : Rows}
    (hn : node H id p = some (sz, r1)) (hi : i < r1.length) (hk : k < sz) (hc : (cellAt r1 i k).kid = some (sz2, rows2)) (hl : off + n ≤ rows2.length) :
    RW w F (shTake S H.length id (p ++ [(i, k)]) off sz2) (updH H id p (setC · i k .dead) ++ [some (sz2, part rows2 off n)]) := by
  have hf := h.forget hn hi hk
  have hkid : node H id (p ++ [(i, k)]) = some (sz2, rows2) := node_kid hn hc
  have hlen : (updH H id p (setC · i k .dead)).length = H.length := by
    unfold updH
    split <;> simp
  have hlt := node_lt hn
  -- nodes of the new heap
  have hnodes : ∀ id' q nd, node (updH H id p (setC · i k .dead) ++ [some (sz2, part rows2 off n)]) id' q = some nd →
      (id' ≠ H.length ∧ node (updH H id p (setC · i k .dead)) id' q = some nd) ∨ (id' = H.length ∧ nodeAt (sz2, part rows2 off n) q = some nd) := by
    intro id' q nd hq
    rw [node_append, hlen] at hq
    split at hq
    · rename_i e; exact .inr ⟨e, hq⟩
    · rename_i e; exact .inl ⟨e, hq⟩
  have hrn := h.nodes id p _ hn
  have hold : ∀ id' q nd, node (updH H id p (setC · i k .dead)) id' q = some nd → ¬ (id' = id ∧ ∃ r, q = p ++ (i, k) :: r) ∧ ∃ nd0, node H id' q = some nd0 := by
    intro id' q nd hq
    rcases updH_back hrn hn hi hk hq with ⟨_, r, nd0, _, hkd, _⟩ | ⟨h1, nd0, h2, _⟩
    · cases hkd
    · exact ⟨h1, nd0, h2⟩
  have hsub : ∀ a c r nd, nodeAt (sz2, part rows2 off n) ((a, c) :: r) = some nd → node H id (p ++ [(i, k)] ++ (off + a, c) :: r) = some nd := by
    intro a c r nd hq
    have := nodeAt_part hl hq
    obtain ⟨nd0, e1, e2⟩ := node_some hkid
    refine node_mk e1 ?_
    rw [nodeAt_append, e2]
    exact this
  have hS : ∀ id' q, id' ≠ H.length → shTake S H.length id (p ++ [(i, k)]) off sz2 id' q = S id' q := fun id' q e => by unfold shTake; rw [if_neg e]
  -- whose block it was
  have hown : ∀ q nd b o cap, nodeAt (sz2, part rows2 off n) q = some nd → shTake S H.length id (p ++ [(i, k)]) off sz2 H.length q = some (b, o, cap) →
      ∃ q1 nd1 o1 c1, node H id (p ++ [(i, k)] ++ q1) = some nd1 ∧ S id (p ++ [(i, k)] ++ q1) = some (b, o1, c1) ∧ (match q with | [] => q1 = [] | (a, c) :: r => q1 = (off + a, c) :: r) := by
    intro q nd b o cap hq hs
    unfold shTake at hs
    rw [if_pos rfl] at hs
    cases q with
    | nil =>
      simp only at hs
      split at hs
      · rename_i b' o' cap' hs'
        simp only [Option.some.injEq, Prod.mk.injEq] at hs
        obtain ⟨rfl, _, _⟩ := hs
        exact ⟨[], _, _, _, by simpa using hkid, by simpa using hs', rfl⟩
      · cases hs
    | cons x r =>
      obtain ⟨a, c⟩ := x
      exact ⟨_, _, _, _, hsub a c r nd hq, hs, rfl⟩
  refine ⟨fun id' q nd hq => ?_, fun id1 q1 nd1 id2 q2 nd2 b o1 c1 o2 c2 hq1 hq2 hs1 hs2 => ?_, h.froz⟩
  · rcases hnodes id' q nd hq with ⟨e, hz⟩ | ⟨rfl, hz⟩
    · exact RN.mono (fun _ _ => rfl) (fun _ h => h) (hS id' q e) (fun _ _ _ _ => hS _ _ e) (fun _ _ => ⟨rfl, fun h => h⟩) (hf.nodes id' q nd hz)
    · cases q with
      | nil =>
        simp only [nodeAt, Option.some.injEq] at hz
        subst hz
        refine RN.part (fun _ _ => rfl) (fun _ h => h) ?_ (fun a c => ?_) (fun _ _ => ⟨rfl, fun h => h⟩) hl (h.nodes id _ _ hkid)
        · unfold shTake; rw [if_pos rfl]; try (cases S id (p ++ [(i, k)]) <;> rfl)
        · unfold shTake; rw [if_pos rfl]; try rfl
      | cons x r =>
        obtain ⟨a, c⟩ := x
        refine RN.mono (fun _ _ => rfl) (fun _ h => h) ?_ (fun a' c' _ _ => ?_) (fun _ _ => ⟨rfl, fun h => h⟩) (h.nodes id _ _ (hsub a c r nd hz))
        · unfold shTake; rw [if_pos rfl]
        · unfold shTake; rw [if_pos rfl]
          simp
  · rcases hnodes id1 q1 nd1 hq1 with ⟨e1, hz1⟩ | ⟨rfl, hz1⟩ <;> rcases hnodes id2 q2 nd2 hq2 with ⟨e2, hz2⟩ | ⟨rfl, hz2⟩
    · rw [hS _ _ e1] at hs1
      rw [hS _ _ e2] at hs2
      exact hf.inj id1 q1 nd1 id2 q2 nd2 b o1 c1 o2 c2 hz1 hz2 hs1 hs2
    · exfalso
      rw [hS _ _ e1] at hs1
      obtain ⟨g1, nd0, g2⟩ := hold id1 q1 nd1 hz1
      obtain ⟨q', nd', o', c', k1, k2, _⟩ := hown q2 nd2 b o2 c2 hz2 hs2
      obtain ⟨rfl, rfl⟩ := h.inj _ _ _ _ _ _ b _ _ _ _ g2 k1 hs1 k2
      exact g1 ⟨rfl, q', by simp⟩
    · exfalso
      rw [hS _ _ e2] at hs2
      obtain ⟨g1, nd0, g2⟩ := hold id2 q2 nd2 hz2
      obtain ⟨q', nd', o', c', k1, k2, _⟩ := hown q1 nd1 b o1 c1 hz1 hs1
      obtain ⟨rfl, rfl⟩ := h.inj _ _ _ _ _ _ b _ _ _ _ g2 k1 hs2 k2
      exact g1 ⟨rfl, q', by simp⟩
    · obtain ⟨p1, _, _, _, k1, k2, k3⟩ := hown q1 nd1 b o1 c1 hz1 hs1
      obtain ⟨p2, _, _, _, l1, l2, l3⟩ := hown q2 nd2 b o2 c2 hz2 hs2
      obtain ⟨_, hp⟩ := h.inj _ _ _ _ _ _ b _ _ _ _ k1 l1 k2 l2
      have hp := List.append_cancel_left hp
      refine ⟨rfl, ?_⟩
      cases q1 with
      | nil =>
        cases q2 with
        | nil => rfl
        | cons x r => simp only at k3 l3; rw [k3, l3] at hp; cases hp
      | cons x r =>
        cases q2 with
        | nil => simp only at k3 l3; rw [k3, l3] at hp; cases hp
        | cons x' r' =>
          simp only at k3 l3
          rw [k3, l3] at hp
          simp only [List.cons.injEq, Prod.mk.injEq] at hp
          obtain ⟨⟨ha, hb⟩, hr⟩ := hp
          have : x = x' := Prod.ext (by omega) hb
          rw [this, hr]
end Go.Eng

namespace Go.Eng
open Go.RowKit
set_option linter.unusedSectionVars false
set_option linter.unusedVariables false
set_option linter.unusedSimpArgs false
variable [Globs]

/-- Values are stored one behind the other into one block. -/
theorem run_storeBlk {P : Program} (b : Nat) (T : TypeId) (fr : Nat × Nat) : ∀ (vs : List Value) (j o : Nat) (arr : Array Value) (w : World), w.heap[b]? = some (.cells arr T fr) → (∀ i, i < arr.size → ¬ (fr.1 ≤ i ∧ i < fr.2) ∧ fr.1 ≤ fr.2) → o + j + vs.length ≤ arr.size → (∀ v ∈ vs, v.oneCell' = true) →
    ∃ w' arr', (storeCells ⟨b, o, none⟩ vs j).run P w = .ok () w' ∧ w'.heap[b]? = some (.cells arr' T fr) ∧ arr'.size = arr.size ∧
      (∀ x, x < o + j ∨ o + j + vs.length ≤ x → arr'[x]? = arr[x]?) ∧ (∀ x, x < vs.length → arr'[o + j + x]? = vs[x]?) ∧
      (∀ b', b' ≠ b → w'.heap[b']? = w.heap[b']?) ∧ w'.heap.size = w.heap.size ∧ w'.os = w.os ∧ w'.tape = w.tape ∧ w'.output = w.output
  | [], j, o, arr, w, h, hf, hl, h1 => ⟨w, arr, by simp [storeCells], h, rfl, fun _ _ => rfl, fun x hx => by simp at hx, fun _ _ => rfl, rfl, rfl, rfl, rfl⟩
  | v :: vs, j, o, arr, w, h, hf, hl, h1 => by
    simp only [List.length_cons] at hl
    have hlt : o + j < arr.size := by omega
    have hcell : w.cell? ⟨b, o + j, none⟩ = some arr[o + j] := by rw [cell?_row h]; exact Array.getElem?_eq_getElem hlt
    have hfz : w.frozen? ⟨b, o + j, none⟩ = false := by
      have := hf _ hlt
      simp only [World.frozen?, h, Bool.and_eq_false_iff, decide_eq_false_iff_not]
      omega
    have hb : (w.setCell ⟨b, o + j, none⟩ v).heap[b]? = some (.cells (arr.setIfInBounds (o + j) v) T fr) := by simp [World.setCell, Array.getElem?_modify, h]
    obtain ⟨w', arr', e1, e2, e3, e4, e5, e6, e7, e8, e9, e10⟩ := run_storeBlk (P := P) b T fr vs (j + 1) o (arr.setIfInBounds (o + j) v) (w.setCell ⟨b, o + j, none⟩ v) hb (by simpa using hf) (by simp; omega) (fun u hu => h1 u (List.mem_cons_of_mem _ hu))
    refine ⟨w', arr', ?_, e2, by simpa using e3, fun x hx => ?_, fun x hx => ?_, fun b' hb' => ?_, by simpa using e7, e8, e9, e10⟩
    · simp only [storeCells, Sem.run_bind]
      have hst : (Go.store ((⟨b, o, none⟩ : Addr).add j) v).run P w = .ok () (w.setCell ⟨b, o + j, none⟩ v) := by
        rw [add_addr, run_store P w _ _ _ (h1 v (List.mem_cons_self ..)), hcell, hfz]
        rfl
      rw [hst]
      exact e1
    · rw [e4 x (by simp only [List.length_cons] at hx; omega), Array.getElem?_setIfInBounds_ne (by simp only [List.length_cons] at hx; omega)]
    · cases x with
      | zero =>
        rw [e4 _ (by omega)]
        simp only [Nat.add_zero, List.getElem?_cons_zero]
        exact Array.getElem?_setIfInBounds_self_of_lt hlt
      | succ x =>
        have := e5 x (by simpa using hx)
        rw [List.getElem?_cons_succ, ← this]
        congr 1; omega
    · rw [e6 b' hb']
      simp only [World.setCell, Array.getElem?_modify]; rw [if_neg (fun e => hb' e.symm)]

/-- append, where there is room. -/
theorem run_append_in {P : Program} {t ty e sz bytes : Nat} (ht : tslice P t = some (e, sz, bytes)) {u : Nat} (hu : (∃ e', P.underlying u = some (.slice e')) ∨ P.underlying u = some .string) (w w' : World) (base : Option Addr) (sLen sCap n : Nat) (x : Value) (news : List Value)
    (hlen : (Builtin.lenOf x).run P w = .ok n w) (hnews : (Builtin.firstCells sz n x).run P w = .ok news.toArray w) (hroom : sLen + n ≤ sCap)
    (hst : match base with | some a => (storeCells (a.add (sLen * sz)) news).run P w = .ok () w' | none => w' = w) :
    (Builtin.append_ #[t, u] ty #[.slice base sLen sCap, x]).run P w = .ok (.slice base (sLen + n) sCap) w' := by
  obtain ⟨hu1, i', hi', rfl, _⟩ := tslice_some ht
  cases base with
  | none =>
    subst hst
    rcases hu with ⟨e', hd⟩ | hd <;> simp [Builtin.append_, run_underlying hu1, run_underlying hd, sizeOf, typeInfo, hi', hlen, hroom, hnews]
  | some a =>
    simp only at hst
    rcases hu with ⟨e', hd⟩ | hd <;> simp [Builtin.append_, run_underlying hu1, run_underlying hd, sizeOf, typeInfo, hi', hlen, hroom, hnews, hst]

/-- append, where there is none. -/
theorem run_append_out {P : Program} {t ty e sz bytes : Nat} (ht : tslice P t = some (e, sz, bytes)) {u : Nat} (hu : (∃ e', P.underlying u = some (.slice e')) ∨ P.underlying u = some .string) {z : Value} (hz : ∀ i, P.info? e = some i → i.zero = some z) (w : World) (base : Option Addr) (sLen sCap n : Nat) (x : Value) (olds news : List Value)
    (hlen : (Builtin.lenOf x).run P w = .ok n w) (hnews : (Builtin.firstCells sz n x).run P w.drew = .ok news.toArray w.drew) (holds : (Builtin.firstCells sz sLen (.slice base sLen sCap)).run P w.drew = .ok olds.toArray w.drew)
    (hroom : sCap < sLen + n) (hb : (sLen + n) * bytes ≤ 140737488355328) (hbz : bytes ≠ 0) :
    (Builtin.append_ #[t, u] ty #[.slice base sLen sCap, x]).run P w = .ok (.slice (some ⟨w.heap.size, 0, none⟩) (sLen + n) (grownCap w (sLen + n) sCap e))
      (w.drew.alloc (.cells (olds.toArray ++ news.toArray ++ Builtin.zeroCells z.cells (grownCap w (sLen + n) sCap e - (sLen + n))) e)) := by
  obtain ⟨hu1, i', hi', rfl, rfl⟩ := tslice_some ht
  have hz' := hz i' hi'
  have hn : ¬ (sLen + n ≤ sCap) := by omega
  have hfit := growslice_fits hroom hb
  have h48' : ¬ (281474976710656 < Builtin.nextslicecap (sLen + n) sCap * i'.bytes) := by omega
  rcases hu with ⟨e', hd⟩ | hd
  all_goals
    simp [Builtin.append_, run_underlying hu1, run_underlying hd, sizeOf, typeInfo, zeroValue, hi', hz', hlen, hn, hbz, h48', Question.forced, hnews, holds, newRow, grownCap]
    congr 2; apply Array.ext'; simp [List.append_assoc]

theorem node_set {H : Hp} {id : Nat} {nd : Nat × Rows} (hlt : id < H.length) (id' : Nat) (q : Path) : node (H.set id (some nd)) id' q = if id' = id then nodeAt nd q else node H id' q := by
  unfold node
  by_cases e : id' = id
  · subst e; rw [if_pos rfl, List.getElem?_set_self hlt]
  · rw [if_neg e, List.getElem?_set_ne (fun x => e x.symm)]

theorem cellAt_append {rows cs : Rows} (i k : Nat) : cellAt (rows ++ cs) i k = if i < rows.length then cellAt rows i k else cellAt cs (i - rows.length) k := by
  unfold cellAt
  split
  · rename_i h
    have : (rows ++ cs).getD i [] = rows.getD i [] := by rw [List.getD_eq_getElem?_getD, List.getElem?_append_left h, ← List.getD_eq_getElem?_getD]
    rw [this]
  · rename_i h
    have : (rows ++ cs).getD i [] = cs.getD (i - rows.length) [] := by rw [List.getD_eq_getElem?_getD, List.getElem?_append_right (by omega), ← List.getD_eq_getElem?_getD]
    rw [this]

/-- Nodes behind an append of cells that own nothing. -/
theorem nodeAt_append_rows {sz : Nat} {rows cs : Rows} (hflat : flat cs = true) {q : Path} (hq : q ≠ []) : nodeAt (sz, rows ++ cs) q = nodeAt (sz, rows) q := by
  cases q with
  | nil => exact absurd rfl hq
  | cons s q =>
    rw [nodeAt_cons, nodeAt_cons]
    simp only [cellAt_append]
    by_cases h : s.1 < rows.length
    · rw [if_pos h]
    · rw [if_neg h, V.still_kid (flat_cell hflat _ _)]
      have : cellAt rows s.1 s.2 = .dead := by
        unfold cellAt
        rw [getD_ge rows _ (by omega)]; rfl
      rw [this]
      rfl

/-- An object is longer than it was. -/
theorem RW.extend {w w' : World} {F : Nat → Prop} {S S' : Sh} {H : Hp} (h : RW w F S H) {id sz : Nat} {rows cs : Rows} (hn : node H id [] = some (sz, rows)) (hflat : flat cs = true)
    (hS : ∀ id' q, ¬ (id' = id ∧ q = []) → S' id' q = S id' q) (hroot : RN w' F S' id [] (sz, rows ++ cs)) (hF : ∀ b, F b → w'.heap[b]? = w.heap[b]?) (hsize : w.heap.size ≤ w'.heap.size)
    (hblk : ∀ id' q nd b o cap, node H id' q = some nd → ¬ (id' = id ∧ q = []) → S id' q = some (b, o, cap) → w'.heap[b]? = w.heap[b]?)
    (hb : ∀ b o cap, S' id [] = some (b, o, cap) → (∃ o' cap', S id [] = some (b, o', cap')) ∨ w.heap.size ≤ b) : RW w' F S' (H.set id (some (sz, rows ++ cs))) := by
  have hlt := node_lt hn
  obtain ⟨nd0, g1, g2⟩ := node_some hn
  simp only [nodeAt, Option.some.injEq] at g2
  subst g2
  have old : ∀ id' q nd, node (H.set id (some (sz, rows ++ cs))) id' q = some nd → ¬ (id' = id ∧ q = []) → node H id' q = some nd := by
    intro id' q nd hq hne
    rw [node_set hlt] at hq
    split at hq
    · rename_i e
      subst e
      rw [nodeAt_append_rows hflat (fun e => hne ⟨rfl, e⟩)] at hq
      exact node_mk g1 hq
    · exact hq
  have fresh : ∀ id' q nd b o cap, node H id' q = some nd → ¬ (id' = id ∧ q = []) → S id' q = some (b, o, cap) → ∀ o' cap', S' id [] ≠ some (b, o', cap') := by
    intro id' q nd b o cap hq hne hs o' cap' hs'
    rcases hb b o' cap' hs' with ⟨o2, cap2, h2⟩ | hle
    · exact hne (h.inj _ _ _ _ _ _ _ _ _ _ _ hq hn hs h2)
    · exact h.fresh hle hq hs
  refine ⟨fun id' q nd hq => ?_, fun id1 q1 nd1 id2 q2 nd2 b o1 c1 o2 c2 hq1 hq2 hs1 hs2 => ?_, fun b hf => Nat.lt_of_lt_of_le (h.froz b hf) hsize⟩
  · by_cases e : id' = id ∧ q = []
    · obtain ⟨rfl, rfl⟩ := e
      rw [node_set hlt, if_pos rfl] at hq
      simp only [nodeAt, Option.some.injEq] at hq
      subst hq
      exact hroot
    · have hq0 := old id' q nd hq e
      refine RN.mono hF (fun _ x => x) (hS id' q e) (fun i k nd' _ => hS _ _ (by simp)) (fun b ⟨o, cap, hs⟩ => ⟨hblk id' q nd b o cap hq0 e hs, fun x => x⟩) (h.nodes id' q nd hq0)
  · by_cases e1 : id1 = id ∧ q1 = [] <;> by_cases e2 : id2 = id ∧ q2 = []
    · obtain ⟨rfl, rfl⟩ := e1; obtain ⟨rfl, rfl⟩ := e2; exact ⟨rfl, rfl⟩
    · obtain ⟨rfl, rfl⟩ := e1
      rw [hS _ _ e2] at hs2
      exact absurd hs1 (fresh _ _ _ _ _ _ (old _ _ _ hq2 e2) e2 hs2 _ _)
    · obtain ⟨rfl, rfl⟩ := e2
      rw [hS _ _ e1] at hs1
      exact absurd hs2 (fresh _ _ _ _ _ _ (old _ _ _ hq1 e1) e1 hs1 _ _)
    · rw [hS _ _ e1] at hs1
      rw [hS _ _ e2] at hs2
      exact h.inj _ _ _ _ _ _ _ _ _ _ _ (old _ _ _ hq1 e1) (old _ _ _ hq2 e2) hs1 hs2

end Go.Eng

namespace Go.Eng
open Go.RowKit
set_option linter.unusedSectionVars false
set_option linter.unusedVariables false
set_option linter.unusedSimpArgs false
variable [Globs]

/-- What is appended or copied: elements that own no memory. -/
def Src (P : Program) (w : World) (F : Nat → Prop) (sz : Nat) (cs : Rows) (y : Value) : Prop :=
  ∃ news : List Value, (∀ w' : World, w'.heap = w.heap → (Builtin.lenOf y).run P w' = .ok cs.length w' ∧ ∀ m, m ≤ cs.length → (Builtin.firstCells sz m y).run P w' = .ok (news.take (m * sz)).toArray w') ∧
    news.length = cs.length * sz ∧ (∀ row ∈ cs, row.length = sz) ∧ flat cs = true ∧
    ∀ i k, i < cs.length → k < sz → ∃ v, news[i * sz + k]? = some v ∧ RC0 w F (cellAt cs i k) v ∧ v.oneCell' = true

theorem mul_add_lt {i k n sz : Nat} (hi : i < n) (hk : k < sz) : i * sz + k < n * sz := by
  have := Nat.mul_le_mul_right sz (show i + 1 ≤ n by omega)
  rw [Nat.add_mul] at this
  omega

theorem idx_split {x n sz : Nat} (h : x < n * sz) : ∃ i k, i < n ∧ k < sz ∧ x = i * sz + k := by
  have hsz : 0 < sz := by
    rcases Nat.eq_zero_or_pos sz with e | e
    · subst e; simp at h
    · exact e
  refine ⟨x / sz, x % sz, (Nat.div_lt_iff_lt_mul hsz).2 h, Nat.mod_lt _ hsz, ?_⟩
  have := Nat.div_add_mod x sz
  rw [Nat.mul_comm] at this
  omega

theorem Src.one {P : Program} {w : World} {F : Nat → Prop} {sz : Nat} {cs : Rows} {y : Value} (h : Src P w F sz cs y) : ∃ news : List Value, (∀ w' : World, w'.heap = w.heap → (Builtin.lenOf y).run P w' = .ok cs.length w' ∧ (Builtin.firstCells sz cs.length y).run P w' = .ok news.toArray w') ∧
    news.length = cs.length * sz ∧ (∀ row ∈ cs, row.length = sz) ∧ flat cs = true ∧ (∀ v ∈ news, v.oneCell' = true) ∧
    ∀ i k, i < cs.length → k < sz → ∃ v, news[i * sz + k]? = some v ∧ RC0 w F (cellAt cs i k) v := by
  obtain ⟨news, h1, h2, h3, h4, h5⟩ := h
  refine ⟨news, fun w' hw' => ⟨(h1 w' hw').1, by have := (h1 w' hw').2 cs.length (Nat.le_refl _); rw [← h2, List.take_length] at this; exact this⟩, h2, h3, h4, fun v hv => ?_, fun i k hi hk => ?_⟩
  · obtain ⟨x, hx⟩ := List.mem_iff_getElem?.1 hv
    have hlt : x < cs.length * sz := by
      rcases Nat.lt_or_ge x news.length with h | h
      · omega
      · rw [List.getElem?_eq_none h] at hx; cases hx
    obtain ⟨i, k, hi, hk, rfl⟩ := idx_split hlt
    obtain ⟨v', e1, _, e2⟩ := h5 i k hi hk
    rw [hx] at e1
    injection e1 with e1
    rw [e1]; exact e2
  · obtain ⟨v', e1, e2, _⟩ := h5 i k hi hk
    exact ⟨v', e1, e2⟩

theorem heap_alloc_lt (w : World) (o : Obj) {b : Nat} (h : b < w.heap.size) : (w.alloc o).heap[b]? = w.heap[b]? := Below.heap_alloc w o b h

/-- THE LAW OF append TO A WHOLE OBJECT. -/
theorem append_root {P : Program} {w : World} {F : Nat → Prop} {S : Sh} {H : Hp} (h : RW w F S H) {t ty e sz bytes : Nat} (ht : tslice P t = some (e, sz, bytes)) {u : Nat} (hu : (∃ e', P.underlying u = some (.slice e')) ∨ P.underlying u = some .string)
    {zs : List Value} (hz : tzero P e = some zs) (hzl : zs.length = sz) (hbz : bytes ≠ 0) {id : Nat} {rows cs : Rows} {y1 y2 : Value} (hn : node H id [] = some (sz, rows)) (hy : RV w F S H (.ref id [] sz 0 rows.length) y1)
    (hsrc : Src P w F sz cs y2) (hb : (rows.length + cs.length) * bytes ≤ 140737488355328) :
    ∃ y' w' S', (Builtin.append_ #[t, u] ty #[y1, y2]).run P w = .ok y' w' ∧ RW w' F S' (H.set id (some (sz, rows ++ cs))) ∧ Stp w F S H w' F S' (H.set id (some (sz, rows ++ cs))) ∧
      (∀ id' q, ¬ (id' = id ∧ q = []) → S' id' q = S id' q) ∧ RV w' F S' (H.set id (some (sz, rows ++ cs))) (.ref id [] sz 0 (rows.length + cs.length)) y' := by
  obtain ⟨news, hrun, hnl, hcl, hflat, hone, hcell⟩ := hsrc.one
  have hlt := node_lt hn
  have hrn := h.nodes id [] _ hn
  have hz' : ∀ i, P.info? e = some i → ∃ z, i.zero = some z ∧ z.cells.size = sz := by
    intro i hi
    unfold tzero at hz
    rw [hi] at hz
    simp only at hz
    cases hzz : i.zero with
    | none => rw [hzz] at hz; cases hz
    | some z =>
      rw [hzz] at hz
      simp only [Option.some.injEq] at hz
      exact ⟨z, rfl, by rw [← hzl, ← hz]; simp⟩
  obtain ⟨hu1, i', hi', hi2, hi3⟩ := tslice_some ht
  obtain ⟨z, hzz, hzc⟩ := hz' i' hi'
  have hzall : ∀ i, P.info? e = some i → i.zero = some z := fun i hi => by rw [hi'] at hi; injection hi with hi; rw [← hi]; exact hzz
  have nodeNew : node (H.set id (some (sz, rows ++ cs))) id [] = some (sz, rows ++ cs) := by rw [node_set hlt, if_pos rfl]; rfl
  obtain ⟨nd0, g1, g2⟩ := node_some hn
  simp only [nodeAt, Option.some.injEq] at g2
  subst g2
  have oldNode : ∀ id' q nd, node (H.set id (some (sz, rows ++ cs))) id' q = some nd → ¬ (id' = id ∧ q = []) → node H id' q = some nd := by
    intro id' q nd hq hne
    rw [node_set hlt] at hq
    split at hq
    · rename_i e; subst e
      rw [nodeAt_append_rows hflat (fun e => hne ⟨rfl, e⟩)] at hq
      exact node_mk g1 hq
    · exact hq
  rw [RV_ref] at hy
  obtain ⟨nd, m1, m2, m3, m4⟩ := hy
  rw [hn] at m1
  injection m1 with m1
  subst m1
  -- the way on which a new block is made
  have grow : ∀ (base : Option Addr) (cap : Nat) (olds : List Value), cap < rows.length + cs.length → (Builtin.firstCells sz rows.length (.slice base rows.length cap)).run P w.drew = .ok olds.toArray w.drew → olds.length = rows.length * sz → (∀ row ∈ rows, row.length = sz) →
      (∀ i k, i < rows.length → k < sz → ∃ v, olds[i * sz + k]? = some v ∧ RC w F S id [(i, k)] (cellAt rows i k) v) →
      ∃ y' w' S', (Builtin.append_ #[t, u] ty #[.slice base rows.length cap, y2]).run P w = .ok y' w' ∧ RW w' F S' (H.set id (some (sz, rows ++ cs))) ∧ Stp w F S H w' F S' (H.set id (some (sz, rows ++ cs))) ∧
        (∀ id' q, ¬ (id' = id ∧ q = []) → S' id' q = S id' q) ∧ RV w' F S' (H.set id (some (sz, rows ++ cs))) (.ref id [] sz 0 (rows.length + cs.length)) y' := by
    intro base cap olds hcap hold hol hrl holc
    have hr1 := (hrun w rfl).1
    have hr2 := (hrun w.drew rfl).2
    have hrun' := run_append_out (ty := ty) ht hu hzall w base rows.length cap cs.length y2 olds news hr1 hr2 hold hcap hb hbz
    have hge := grownCap_ge w (rows.length + cs.length) cap e
    refine ⟨_, _, fun id' q => if id' = id ∧ q = [] then some (w.heap.size, 0, grownCap w (rows.length + cs.length) cap e) else S id' q, hrun', ?_, ?_, fun id' q hne => if_neg hne, ?_⟩
    · refine h.extend hn hflat (fun id' q hne => if_neg hne) ?_ (fun b hb => heap_alloc_lt w.drew _ (h.froz b hb)) (by simp) (fun id' q nd b o cp hq hne hs => heap_alloc_lt w.drew _ ((h.nodes id' q nd hq).notF hs).2) (fun b o cp hs => ?_)
      · simp only [RN, and_self, if_true]
        refine ⟨by rw [List.length_append]; exact hge, fun hF => by have := h.froz _ hF; omega, _, e, (0, 0), Go.heap_alloc_new w.drew _, by intro i _; simp, ?_, fun row hr => ?_, fun i k hi hk => ?_⟩
        · simp only [Array.size_append, List.size_toArray, size_zeroCells, hzc, hol, hnl]
          rw [← Nat.add_mul, ← Nat.add_mul, Nat.zero_add]
          refine Nat.mul_le_mul_right _ (by omega)
        · rcases List.mem_append.1 hr with h1 | h1
          · exact hrl row h1
          · exact hcl row h1
        · rw [List.length_append] at hi
          rw [cellAt_append, Nat.zero_add]
          by_cases hir : i < rows.length
          · rw [if_pos hir]
            obtain ⟨v, hv, hrc⟩ := holc i k hir hk
            have hlt' : i * sz + k < olds.length := by rw [hol]; exact mul_add_lt hir hk
            refine ⟨v, ?_, ?_⟩
            · rw [Array.append_assoc, Array.getElem?_append_left (by simpa using hlt')]
              simpa using hv
            · refine RC.mono (w := w) (F := F) (S := S) (id := id) (p := [(i, k)]) (fun b hb => heap_alloc_lt w.drew _ (h.froz b hb)) (fun _ x => x) ?_ hrc
              exact if_neg (by simp)
          · rw [if_neg hir]
            obtain ⟨v, hv, hrc⟩ := hcell (i - rows.length) k (by omega) hk
            have hidx : i * sz + k = rows.length * sz + ((i - rows.length) * sz + k) := by
              rw [← Nat.add_assoc, ← Nat.add_mul]; congr 2; omega
            have hlt' : (i - rows.length) * sz + k < news.length := by rw [hnl]; exact mul_add_lt (by omega) hk
            refine ⟨v, ?_, ?_⟩
            · rw [Array.append_assoc, Array.getElem?_append_right (by simp only [List.size_toArray, hol]; omega), Array.getElem?_append_left (by simp only [List.size_toArray, hol]; omega)]
              simp only [List.size_toArray, hol, List.getElem?_toArray]
              rw [← hv]; congr 1; omega
            · refine (RC0.mono (w := w) (F := F) (fun b hb => heap_alloc_lt w.drew _ (h.froz b hb)) (fun _ x => x) hrc).rc (fun nd hk => ?_)
              rw [V.still_kid (flat_cell hflat _ _)] at hk; cases hk
      · simp only [and_self, if_true, Option.some.injEq, Prod.mk.injEq] at hs
        exact .inr (by omega)
    · refine ⟨rfl, rfl, rfl, by simp, fun b hb _ => heap_alloc_lt w.drew _ hb, fun b hb => ?_, fun b hb => .inl hb, fun b hb => hb⟩
      obtain ⟨id', q, nd, o, cp, hq, hs⟩ := hb
      by_cases hne : id' = id ∧ q = []
      · simp only [hne, and_self, if_true, Option.some.injEq, Prod.mk.injEq] at hs
        exact .inr (by omega)
      · simp only at hs
        rw [if_neg hne] at hs
        exact .inl ⟨id', q, nd, o, cp, oldNode id' q nd hq hne, hs⟩
    · rw [RV_ref]
      refine ⟨_, nodeNew, rfl, by simp, ?_⟩
      simp only [and_self, if_true]
      exact ⟨_, rfl, fun _ => by simp⟩
  cases hs : S id [] with
  | none =>
    rw [hs] at m4
    simp only at m4
    subst m4
    unfold RN at hrn
    rw [hs] at hrn
    simp only at hrn
    subst hrn
    by_cases hc0 : cs = []
    · subst hc0
      have hr := run_append_in (ty := ty) ht hu w w none 0 0 0 y2 news (hrun w rfl).1 (hrun w rfl).2 (by omega) rfl
      refine ⟨_, w, S, hr, ?_, ?_, fun _ _ _ => rfl, ?_⟩
      · have : H.set id (some (sz, [] ++ [])) = H := by
          apply List.ext_getElem?
          intro j
          by_cases hj : j = id
          · subst hj; rw [List.getElem?_set_self hlt, g1]; rfl
          · rw [List.getElem?_set_ne (fun x => hj x.symm)]
        rw [this]; exact h
      · have : H.set id (some (sz, [] ++ [])) = H := by
          apply List.ext_getElem?
          intro j
          by_cases hj : j = id
          · subst hj; rw [List.getElem?_set_self hlt, g1]; rfl
          · rw [List.getElem?_set_ne (fun x => hj x.symm)]
        rw [this]; exact Stp.refl ..
      · rw [RV_ref]
        refine ⟨_, nodeNew, rfl, by simp, ?_⟩
        rw [hs]
    · refine grow none 0 [] ?_ ?_ (by simp) (by simp) (by simp)
      · have : 0 < cs.length := List.length_pos_iff.2 hc0
        simpa using this
      · simp [Builtin.firstCells]
  | some x =>
    obtain ⟨b, o, cap⟩ := x
    rw [hs] at m4
    obtain ⟨a, rfl, ha⟩ := m4
    simp only [Nat.sub_zero, Nat.zero_mul, Nat.add_zero] at ha ⊢
    have hrn' := hrn
    unfold RN at hrn'
    rw [hs] at hrn'
    obtain ⟨f1, f2, arr, T, fr, f3, f4, f5, f6, f7⟩ := hrn'
    simp only [List.nil_append] at f1 f5 f6 f7
    by_cases hroom : rows.length + cs.length ≤ cap
    · by_cases hcap0 : cap = 0
      · -- nothing there, nothing comes
        have hr0 : rows = [] := List.length_eq_zero_iff.1 (by omega)
        have hc0 : cs = [] := List.length_eq_zero_iff.1 (by omega)
        subst hr0; subst hc0; subst hcap0
        have hn0 : news = [] := List.length_eq_zero_iff.1 (by simpa using hnl)
        subst hn0
        have hr := run_append_in (ty := ty) ht hu w w a 0 0 0 y2 [] (hrun w rfl).1 (hrun w rfl).2 (by omega) (by cases a <;> simp [storeCells])
        have hsame : H.set id (some (sz, [] ++ [])) = H := by
          apply List.ext_getElem?
          intro j
          by_cases hj : j = id
          · subst hj; rw [List.getElem?_set_self hlt, g1]; rfl
          · rw [List.getElem?_set_ne (fun x => hj x.symm)]
        refine ⟨_, w, S, hr, by rw [hsame]; exact h, by rw [hsame]; exact Stp.refl .., fun _ _ _ => rfl, ?_⟩
        rw [RV_ref]
        refine ⟨_, nodeNew, rfl, by simp, ?_⟩
        rw [hs]
        exact ⟨a, rfl, fun hlt => by omega⟩
      · rw [ha (by omega)] at *
        have hfit : o + rows.length * sz + 0 + news.length ≤ arr.size := by
          have : rows.length * sz + cs.length * sz ≤ cap * sz := by rw [← Nat.add_mul]; exact Nat.mul_le_mul_right _ hroom
          omega
        obtain ⟨w', arr', e1, e2, e3, e4, e5, e6, e7, e8, e9, e10⟩ := run_storeBlk (P := P) b T fr news 0 (o + rows.length * sz) arr w f3 f4 hfit hone
        have hr := run_append_in (ty := ty) ht hu w w' (some ⟨b, o, none⟩) rows.length cap cs.length y2 news (hrun w rfl).1 (hrun w rfl).2 hroom (by simp only [add_addr]; exact e1)
        have hFb : ∀ b', F b' → w'.heap[b']? = w.heap[b']? := fun b' hb' => e6 b' (fun e => f2 (e ▸ hb'))
        refine ⟨_, w', S, hr, ?_, ?_, fun _ _ _ => rfl, ?_⟩
        · refine h.extend hn hflat (fun _ _ _ => rfl) ?_ hFb (by omega) (fun id' q nd b' o' cp hq hne hs' => e6 b' ?_) (fun b' o' cp hs' => .inl ⟨o', cp, hs'⟩)
          · unfold RN
            rw [hs]
            dsimp only
            refine ⟨by rw [List.length_append]; exact hroom, f2, arr', T, fr, e2, by rw [e3]; exact f4, by rw [e3]; exact f5, fun row hr => ?_, fun i k hi hk => ?_⟩
            · rcases List.mem_append.1 hr with h1 | h1
              · exact f6 row h1
              · exact hcl row h1
            · simp only [List.length_append] at hi
              simp only [cellAt_append, List.nil_append]
              by_cases hir : i < rows.length
              · rw [if_pos hir]
                obtain ⟨v, hv, hrc⟩ := f7 i k hir hk
                have := mul_add_lt hir hk
                refine ⟨v, by rw [e4 _ (.inl (by omega))]; exact hv, RC.mono hFb (fun _ x => x) rfl hrc⟩
              · rw [if_neg hir]
                obtain ⟨v, hv, hrc⟩ := hcell (i - rows.length) k (by omega) hk
                have hidx : i * sz + k = rows.length * sz + ((i - rows.length) * sz + k) := by
                  rw [← Nat.add_assoc, ← Nat.add_mul]; congr 2; omega
                have hlt' : (i - rows.length) * sz + k < news.length := by rw [hnl]; exact mul_add_lt (by omega) hk
                refine ⟨v, ?_, ?_⟩
                · rw [← hv, ← e5 _ hlt']; congr 1; omega
                · refine (RC0.mono hFb (fun _ x => x) hrc).rc (fun nd hk => ?_)
                  rw [V.still_kid (flat_cell hflat _ _)] at hk; cases hk
          · rintro rfl
            exact hne (h.inj _ _ _ _ _ _ _ _ _ _ _ hq hn hs' hs)
        · refine ⟨e8, e9, e10, by omega, fun b' hb' ho => e6 b' (fun e => ho (e ▸ ⟨id, [], _, o, cap, hn, hs⟩)), fun b' hb' => ?_, fun b' hb' => .inl hb', fun b' hb' => hb'⟩
          obtain ⟨id', q, nd, o', cp, hq, hs'⟩ := hb'
          by_cases hne : id' = id ∧ q = []
          · obtain ⟨rfl, rfl⟩ := hne
            exact .inl ⟨_, _, _, o', cp, hn, hs'⟩
          · exact .inl ⟨id', q, nd, o', cp, oldNode id' q nd hq hne, hs'⟩
        · rw [RV_ref]
          refine ⟨_, nodeNew, rfl, by simp, ?_⟩
          rw [hs]
          exact ⟨_, rfl, fun _ => by simp⟩
    · have hfc : ∃ olds : List Value, (Builtin.firstCells sz rows.length (.slice a rows.length cap)).run P w.drew = .ok olds.toArray w.drew ∧ olds.length = rows.length * sz ∧ ∀ i k, i < rows.length → k < sz → ∃ v, olds[i * sz + k]? = some v ∧ RC w F S id [(i, k)] (cellAt rows i k) v := by
        let olds := (List.range (rows.length * sz)).map fun x => (arr[o + x]?).getD undef
        have hol : olds.length = rows.length * sz := by simp [olds]
        have hget : ∀ x, x < rows.length * sz → ∃ v, arr[o + x]? = some v ∧ olds[x]? = some v := by
          intro x hx
          obtain ⟨i, k, hi, hk, rfl⟩ := idx_split hx
          obtain ⟨v, hv, _⟩ := f7 i k hi hk
          rw [Nat.add_assoc] at hv
          exact ⟨v, hv, by simp [olds, List.getElem?_map, List.getElem?_range hx, hv]⟩
        refine ⟨olds, ?_, hol, fun i k hi hk => ?_⟩
        · by_cases hcap0 : cap = 0
          · have hr0 : rows = [] := List.length_eq_zero_iff.1 (by omega)
            subst hr0
            have : olds = [] := List.length_eq_zero_iff.1 (by simpa using hol)
            rw [this]
            cases a <;> simp [Builtin.firstCells, loadCells, loadCellsFrom]
          · rw [ha (by omega)]
            have := run_firstCells_some (P := P) w.drew sz rows.length ⟨b, o, none⟩ rows.length cap olds hol (fun j v hj => by
              have hjl : j < rows.length * sz := by
                rcases Nat.lt_or_ge j olds.length with h | h
                · omega
                · rw [List.getElem?_eq_none h] at hj; cases hj
              obtain ⟨v', h1, h2⟩ := hget j hjl
              rw [hj] at h2
              injection h2 with h2
              subst h2
              show w.cell? _ = _
              rw [add_addr, cell?_row f3]; exact h1)
            exact this
        · obtain ⟨v, hv, hrc⟩ := f7 i k hi hk
          obtain ⟨v', h1, h2⟩ := hget (i * sz + k) (mul_add_lt hi hk)
          rw [Nat.add_assoc, h1] at hv
          injection hv with hv
          subst hv
          exact ⟨v', h2, hrc⟩
      obtain ⟨olds, hf, hol, holc⟩ := hfc
      exact grow a cap olds (by omega) hf hol f6 holc

end Go.Eng
