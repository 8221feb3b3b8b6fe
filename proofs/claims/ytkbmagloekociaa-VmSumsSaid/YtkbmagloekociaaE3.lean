/- The engine, text 3 of 5: an abstract machine of owned objects and its laws; it speaks of any program. -/
import Derived.Test.YtkbmagloekociaaE2
namespace Go.Eng
open Go.RowKit
set_option linter.unusedSectionVars false
set_option linter.unusedVariables false
set_option linter.unusedSimpArgs false
variable [Globs]

theorem RV1.hasNode {w : World} {F : Nat → Prop} {S : Sh} {H : Hp} {x : V} {y : Value} (h : RV1 w F S H x y) {id : Nat} {p : Path} (hm : (id, p) ∈ refs1 x) : ∃ nd, node H id p = some nd := by
  cases x <;> simp [refs1] at hm
  · obtain ⟨rfl, rfl⟩ := hm
    obtain ⟨nd, h1, _⟩ := h
    exact ⟨nd, h1⟩
  · obtain ⟨rfl, rfl⟩ := hm
    obtain ⟨nd, h1, _⟩ := h
    exact ⟨nd, h1⟩

theorem RVc.hasNode {w : World} {F : Nat → Prop} {S : Sh} {H : Hp} {x : V} {y : Value} (h : RVc w F S H x y) (hc : x.clo? = none) {id : Nat} {p : Path} (hm : (id, p) ∈ refsC x) : ∃ nd, node H id p = some nd := by
  unfold RVc at h
  unfold refsC at hm
  rw [hc] at h hm
  exact RV1.hasNode h hm

def rootAll (H : Hp) : List V → Option (List (Nat × Nat) × List V × Hp)
  | [] => some ([], [], H)
  | x :: xs => match root1 H x with
    | some (k1, x', H1) => match rootAll H1 xs with
      | some (k2, xs', H2) => some (k1 ++ k2, x' :: xs', H2)
      | none => none
    | none => none

theorem root1_clo {H : Hp} {x x' : V} {ks : List (Nat × Nat)} {H' : Hp} (he : root1 H x = some (ks, x', H')) : x'.clo? = none := by
  unfold root1 at he
  split at he
  · split at he
    · simp only [Option.some.injEq, Prod.mk.injEq] at he; obtain ⟨_, rfl, _⟩ := he; rfl
    · split at he
      · split at he
        · split at he
          · simp only [Option.some.injEq, Prod.mk.injEq] at he; obtain ⟨_, rfl, _⟩ := he; rfl
          · cases he
        · cases he
      · cases he
  · split at he
    · simp only [Option.some.injEq, Prod.mk.injEq] at he; obtain ⟨_, rfl, _⟩ := he; rfl
    · split at he
      · split at he
        · split at he
          · simp only [Option.some.injEq, Prod.mk.injEq] at he; obtain ⟨_, rfl, _⟩ := he; rfl
          · cases he
        · cases he
      · cases he
  · cases he
  · cases he
  · cases he
  · cases he
  · rename_i h1 h2 h3 h4 h5 h6
    simp only [Option.some.injEq, Prod.mk.injEq] at he; obtain ⟨_, rfl, _⟩ := he
    cases x <;> first | rfl | exact absurd rfl (h3 _ _)

theorem rootAll_sound {w : World} {F : Nat → Prop} {S0 : Sh} {H0 : Hp} : ∀ (xs : List V) (ys : List Value) (S : Sh) (H : Hp) (ks : List (Nat × Nat)) (xs' : List V) (H' : Hp), Taken w F S0 H0 S H → xs.length = ys.length →
    (∀ (i : Nat) (x : V) (y : Value), xs[i]? = some x → ys[i]? = some y → RVc w F S0 H0 x y) → rootAll H xs = some (ks, xs', H') →
    ∃ S', Taken w F S H S' H' ∧ xs'.length = xs.length ∧ (∀ (i : Nat) (x : V) (y : Value), xs'[i]? = some x → ys[i]? = some y → RVc w F S' H' x y) ∧ (∀ k ∈ ks, 1 ≤ k.2) ∧
      (∀ id p nd, ¬ Killed ks id p → node H id p = some nd → S' id p = S id p ∧ ∃ nd', node H' id p = some nd' ∧ nd'.1 = nd.1 ∧ nd'.2.length = nd.2.length)
  | [], ys, S, H, ks, xs', H', h, hl, hr, he => by
    simp only [rootAll, Option.some.injEq, Prod.mk.injEq] at he
    obtain ⟨rfl, rfl, rfl⟩ := he
    exact ⟨S, Taken.refl h.rw, rfl, by simp, by simp, fun id p nd _ hn => ⟨rfl, nd, hn, rfl, rfl⟩⟩
  | x :: xs, [], _, _, _, _, _, _, hl, _, _ => by simp at hl
  | x :: xs, y :: ys, S, H, ks, xs', H', h, hl, hr, he => by
    simp only [rootAll] at he
    split at he
    case h_2 => cases he
    rename_i k1 x1 H1 h1
    split at he
    case h_2 => cases he
    rename_i k2 xs2 H2 h2
    simp only [Option.some.injEq, Prod.mk.injEq] at he
    obtain ⟨rfl, rfl, rfl⟩ := he
    obtain ⟨S1, t1, v1, o1, d1, f1⟩ := root1_sound h (hr 0 x y rfl rfl) h1
    obtain ⟨S2, t2, l2, v2, d2, f2⟩ := rootAll_sound xs ys S1 H1 k2 xs2 H2 (h.trans t1) (by simpa using hl) (fun i x' y' a b => hr (i + 1) x' y' (by simpa using a) (by simpa using b)) h2
    refine ⟨S2, t1.trans t2, by simp [l2], fun i x' y' a b => ?_, fun k hk => ?_, fun id p nd hno hn => ?_⟩
    · cases i with
      | zero =>
        simp only [List.getElem?_cons_zero, Option.some.injEq] at a b
        subst a; subst b
        refine RVc.taken t2 v1 (fun id p hm => ?_)
        obtain rfl := o1 id p hm
        obtain ⟨nd, hnd⟩ := RVc.hasNode v1 (root1_clo h1) hm
        exact t2.root id nd hnd
      | succ i => exact v2 i x' y' (by simpa using a) (by simpa using b)
    · rcases List.mem_append.1 hk with hk | hk
      · exact d1 k hk
      · exact d2 k hk
    · obtain ⟨e1, nd1, e2, e3, e4⟩ := f1 id p nd (fun ⟨k, hk, h⟩ => hno ⟨k, List.mem_append_left _ hk, h⟩) hn
      obtain ⟨g1, nd2, g2, g3, g4⟩ := f2 id p nd1 (fun ⟨k, hk, h⟩ => hno ⟨k, List.mem_append_right _ hk, h⟩) e2
      exact ⟨g1.trans e1, nd2, g2, g3.trans e3, g4.trans e4⟩

/-- Does it lie in a cell? -/
def interior : V → Bool
  | .ref _ (_ :: _) _ _ _ => true
  | .ptr _ (_ :: _) _ _ => true
  | _ => false

theorem splitLast_nil {q : Path} (h : splitLast q = none) : q = [] := by have := splitLast_spec q; rw [h] at this; exact this
theorem splitLast_cons {q : Path} {x : Path × Nat × Nat} (h : splitLast q = some x) : ∃ s r, q = s :: r := by
  cases q with
  | nil => cases h
  | cons s r => exact ⟨s, r, rfl⟩

theorem root1_new {H : Hp} {x x' : V} {ks : List (Nat × Nat)} {H' : Hp} (he : root1 H x = some (ks, x', H')) : (interior x = false ∧ H' = H ∧ ks = [] ∧ x' = x) ∨ (interior x = true ∧ H'.length = H.length + 1 ∧ heldOf x' = some H.length) := by
  unfold root1 at he
  split at he
  · split at he
    · rename_i hs
      have := splitLast_nil hs; subst this
      simp only [Option.some.injEq, Prod.mk.injEq] at he; obtain ⟨rfl, rfl, rfl⟩ := he; exact .inl ⟨rfl, rfl, rfl, rfl⟩
    · rename_i hs
      obtain ⟨s, r, rfl⟩ := splitLast_cons hs
      split at he
      · split at he
        · split at he
          · simp only [Option.some.injEq, Prod.mk.injEq] at he; obtain ⟨_, rfl, rfl⟩ := he; exact .inr ⟨rfl, by simp [length_updH], rfl⟩
          · cases he
        · cases he
      · cases he
  · split at he
    · rename_i hs
      have := splitLast_nil hs; subst this
      simp only [Option.some.injEq, Prod.mk.injEq] at he; obtain ⟨rfl, rfl, rfl⟩ := he; exact .inl ⟨rfl, rfl, rfl, rfl⟩
    · rename_i hs
      obtain ⟨s, r, rfl⟩ := splitLast_cons hs
      split at he
      · split at he
        · split at he
          · simp only [Option.some.injEq, Prod.mk.injEq] at he; obtain ⟨_, rfl, rfl⟩ := he; exact .inr ⟨rfl, by simp [length_updH], rfl⟩
          · cases he
        · cases he
      · cases he
  · cases he
  · cases he
  · cases he
  · cases he
  · rename_i h1 h2 h3 h4 h5 h6
    simp only [Option.some.injEq, Prod.mk.injEq] at he; obtain ⟨rfl, rfl, rfl⟩ := he
    refine .inl ⟨?_, rfl, rfl, rfl⟩
    cases x <;> first | rfl | exact absurd rfl (h1 _ _ _ _ _) | exact absurd rfl (h2 _ _ _ _)

theorem rootAll_new : ∀ {xs : List V} {H : Hp} {ks : List (Nat × Nat)} {xs' : List V} {H' : Hp}, rootAll H xs = some (ks, xs', H') →
    H'.length = H.length + xs.countP interior ∧ ∀ j, H.length ≤ j → j < H'.length → j ∈ heldAll xs'
  | [], H, ks, xs', H', he => by
    simp only [rootAll, Option.some.injEq, Prod.mk.injEq] at he
    obtain ⟨rfl, rfl, rfl⟩ := he
    exact ⟨by simp, fun j a b => by omega⟩
  | x :: xs, H, ks, xs', H', he => by
    simp only [rootAll] at he
    split at he
    case h_2 => cases he
    rename_i k1 x1 H1 h1
    split at he
    case h_2 => cases he
    rename_i k2 xs2 H2 h2
    simp only [Option.some.injEq, Prod.mk.injEq] at he
    obtain ⟨rfl, rfl, rfl⟩ := he
    obtain ⟨l2, m2⟩ := rootAll_new h2
    have hsub : ∀ j, j ∈ heldAll xs2 → j ∈ heldAll (x1 :: xs2) := fun j hj => by
      unfold heldAll at hj ⊢
      rw [List.filterMap_cons]
      split
      · exact hj
      · exact List.mem_cons_of_mem _ hj
    rcases root1_new h1 with ⟨a, rfl, _, rfl⟩ | ⟨a, b, c⟩
    · exact ⟨by rw [l2]; simp [a], fun j p q => hsub j (m2 j p q)⟩
    · refine ⟨by rw [l2, b]; simp [a]; omega, fun j p q => ?_⟩
      by_cases e : j = H.length
      · subst e
        unfold heldAll
        rw [List.filterMap_cons, c]
        exact List.mem_cons_self ..
      · exact hsub j (m2 j (by omega) q)

/-- A value as a cell keeps it, with what it refers to. -/
def cellM (H : Hp) (slot : Option Nat) (x : V) : Option V :=
  match x with
  | .ref id [] sz off n => match node H id [] with
    | some (sz', rows) => if sz' = sz ∧ off + n ≤ rows.length then some (.own sz (part rows off n)) else none
    | none => none
  | .ptr id [] 0 0 => match node H id [] with
    | some (sz, rows) => some (.box sz (part rows 0 rows.length))
    | none => none
  | x => cell1 slot x

theorem cellM_sound {w : World} {F : Nat → Prop} {S : Sh} {H : Hp} {slot : Option Nat} {x c : V} {y : Value} (h : RVc w F S H x y) (hc : cellM H slot x = some c) : HeldOK w F S H x y c := by
  unfold cellM at hc
  split at hc
  · rename_i id sz off n
    split at hc
    · rename_i sz' rows hn
      split at hc
      · rename_i hcnd
        obtain ⟨rfl, c2⟩ := hcnd
        injection hc with hc
        subst hc
        have hv : RV w F S H (.ref id [] sz' off n) y := h
        refine ⟨?_, ?_⟩
        · rw [RV_ref] at hv
          obtain ⟨nd, _, _, _, v4⟩ := hv
          cases hS : S id [] with
          | none => rw [hS] at v4; rw [v4]; rfl
          | some z =>
            obtain ⟨b, o, cap⟩ := z
            rw [hS] at v4
            obtain ⟨a, rfl, _⟩ := v4
            rfl
        · exact ⟨sz', off, n, rows, hn, c2, .inl ⟨rfl, hv⟩⟩
      · cases hc
    · cases hc
  · rename_i id
    split at hc
    · rename_i sz rows hn
      injection hc with hc
      subst hc
      have hv : RV w F S H (.ptr id [] 0 0) y := h
      refine ⟨?_, ?_⟩
      · obtain ⟨_, _, _, _, _, _, rfl⟩ := RV_ptr hv
        rfl
      · exact ⟨sz, 0, rows.length, rows, hn, by omega, .inr ⟨rfl, rfl, hv⟩⟩
    · cases hc
  · rename_i h1 h2
    obtain ⟨g1, g2⟩ := cell1_sound h hc
    refine ⟨g2, ?_⟩
    have : heldOf x = none := by
      unfold heldOf
      split
      · exact absurd rfl (h1 _ _ _ _)
      · exact absurd rfl (h2 _)
      · rfl
    rw [this]
    exact g1

def cellsM (H : Hp) : List (Option Nat) → List V → Option (List V)
  | [], [] => some []
  | s :: ss, x :: xs => match cellM H s x, cellsM H ss xs with
    | some c, some cs => some (c :: cs)
    | _, _ => none
  | _, _ => none

theorem cellsM_sound {w : World} {F : Nat → Prop} {S : Sh} {H : Hp} : ∀ {ss : List (Option Nat)} {xs cs : List V} {ys : List Value}, cellsM H ss xs = some cs → xs.length = ys.length → (∀ (i : Nat) (c : V) (z : Value), xs[i]? = some c → ys[i]? = some z → RVc w F S H c z) →
    xs.length = cs.length ∧ ∀ (j : Nat) (x : V) (y : Value) (c : V), xs[j]? = some x → ys[j]? = some y → cs[j]? = some c → HeldOK w F S H x y c
  | [], [], cs, ys, h, hl, _ => by simp only [cellsM, Option.some.injEq] at h; subst h; simp
  | s :: ss, x :: xs, cs, ys, h, hl, hr => by
    simp only [cellsM] at h
    split at h
    · rename_i c0 cs0 h1 h2
      injection h with h
      subst h
      cases ys with
      | nil => simp at hl
      | cons y ys =>
        obtain ⟨e1, e2⟩ := cellsM_sound (ys := ys) h2 (by simpa using hl) (fun i c z hc hz => hr (i + 1) c z (by simpa using hc) (by simpa using hz))
        refine ⟨by simp [e1], fun j x' y' c' a b d => ?_⟩
        cases j with
        | zero =>
          simp only [List.getElem?_cons_zero, Option.some.injEq] at a b d
          subst a; subst b; subst d
          exact cellM_sound (hr 0 x y rfl rfl) h1
        | succ j => exact e2 j x' y' c' (by simpa using a) (by simpa using b) (by simpa using d)
    · cases h
  | [], _ :: _, _, _, h, _, _ => by simp [cellsM] at h
  | _ :: _, [], _, _, h, _, _ => by simp [cellsM] at h

/-- The last objects are forgotten. -/
def trimH : Nat → Hp → Hp
  | 0, H => H
  | n + 1, H => trimH n H.dropLast

theorem trimH_take : ∀ (n : Nat) (H : Hp), trimH n H = H.take (H.length - n)
  | 0, H => by simp [trimH]
  | n + 1, H => by
    rw [trimH, trimH_take n, List.dropLast_eq_take, List.take_take, List.length_take]
    congr 1; omega

theorem node_trimH {n : Nat} {H : Hp} (h : ∀ j, H.length - n ≤ j → j < H.length → ∀ p, node H j p = none) (id : Nat) (p : Path) : node (trimH n H) id p = node H id p := by
  rw [trimH_take]
  by_cases h1 : id < H.length - n
  · unfold node
    rw [List.getElem?_take_of_lt h1]
  · have e : node (H.take (H.length - n)) id p = none := by
      unfold node
      rw [List.getElem?_eq_none (by rw [List.length_take]; omega)]
    rw [e]
    by_cases h2 : id < H.length
    · exact (h id (by omega) h2 p).symm
    · unfold node
      rw [List.getElem?_eq_none (by omega)]

theorem RW.nodes_eq {w : World} {F : Nat → Prop} {S : Sh} {H H' : Hp} (h : RW w F S H) (e : ∀ id p, node H' id p = node H id p) : RW w F S H' :=
  h.sub id (fun i p nd hq => ⟨by rw [← e]; exact hq, fun _ => rfl⟩) (fun _ _ _ _ _ _ _ _ e => e)

theorem Own.nodes_eq {S : Sh} {H H' : Hp} {b : Nat} (e : ∀ id p, node H' id p = node H id p) (h : Own S H' b) : Own S H b := by
  obtain ⟨id, p, nd, o, cap, h1, h2⟩ := h
  exact ⟨id, p, nd, o, cap, by rw [← e]; exact h1, h2⟩

theorem Step.nodes_eq {ks : List (Nat × Nat)} {z : Option V} {w w' : World} {F F' : Nat → Prop} {S S' : Sh} {H H' H2 : Hp} {v : Value} (h : Step ks z w F S H v w' F' S' H') (e : ∀ id p, node H2 id p = node H' id p) : Step ks z w F S H v w' F' S' H2 where
  rw := h.rw.nodes_eq e
  stp := ⟨h.stp.os, h.stp.tape, h.stp.output, h.stp.size, h.stp.block, fun b hb => h.stp.own b (hb.nodes_eq e), h.stp.frozen, h.stp.keeps⟩
  val := by
    have := h.val
    cases z with
    | none => trivial
    | some z => exact RV.mono (fun _ _ => rfl) (fun _ x => x) this (fun id p nd _ hn => ⟨rfl, nd, by rw [e]; exact hn, rfl, rfl⟩)
  kept id p nd hno hn := by
    obtain ⟨e1, nd', e2, e3⟩ := h.kept id p nd hno hn
    exact ⟨e1, nd', by rw [e]; exact e2, e3⟩
  blk := h.blk

theorem node_putCells {id : Nat} {p : Path} {i : Nat} : ∀ {cs : List V} {H : Hp} {k id' : Nat} {q : Path}, id' ≠ id → node (putCells H id p i k cs) id' q = node H id' q
  | [], H, k, id', q, _ => rfl
  | c :: cs, H, k, id', q, h => by
    rw [putCells, node_putCells h]
    unfold updH
    split
    · unfold node
      rw [List.getElem?_set_ne (fun e => h e.symm)]
    · rfl

theorem length_putCells {id : Nat} {p : Path} {i : Nat} : ∀ {cs : List V} {H : Hp} {k : Nat}, (putCells H id p i k cs).length = H.length
  | [], H, k => rfl
  | c :: cs, H, k => by rw [putCells, length_putCells, length_updH]

theorem length_dropAll : ∀ {ids : List Nat} {H : Hp}, (dropAll H ids).length = H.length
  | [], _ => rfl
  | a :: r, H => by rw [dropAll, length_dropAll]; simp

def noDupB : List Nat → Bool
  | [] => true
  | x :: r => !r.contains x && noDupB r

theorem noDup_nodup : ∀ {l : List Nat}, noDupB l = true → l.Nodup
  | [], _ => List.nodup_nil
  | x :: r, h => by
    simp only [noDupB, Bool.and_eq_true, Bool.not_eq_true', List.contains_eq_mem, decide_eq_false_iff_not] at h
    exact List.nodup_cons.2 ⟨h.1, noDup_nodup h.2⟩

/-- Does a pointer outlive what is let go? -/
def outlives (ks : List (Nat × Nat)) (id : Nat) (p : Path) : Bool := ks.all fun q => q.1 != id || decide (p.length < q.2)

theorem outlives_spec {ks : List (Nat × Nat)} {id : Nat} {p : Path} (h : outlives ks id p = true) : ¬ Killed ks id p := by
  rintro ⟨k, hk, rfl, h2⟩
  have := List.all_eq_true.1 h k hk
  simp at this
  omega

/-- A value with references is stored. -/
def storeM (P : Program) (c0 : Bool) (σ : List (Nat × V)) (H : Hp) (t : Nat) (d x : Operand) : Option Eff :=
  match ev c0 σ d, ev c0 σ x with
  | some (.ptr id p i k), some v => if shapeOk v then match rootAll H (flds v) with
    | some (ks, vs, H1) => match tinfo P t, node H1 id p, cellsM H1 (tslots P t) vs with
      | some (_, n), some (sz, rows), some cs =>
        if cs.length = n ∧ i < rows.length ∧ k + n ≤ sz ∧ outlives ks id p = true ∧ noDupB (heldAll vs) = true ∧ (heldAll vs).contains id = false then
          some (ks ++ ((heldAll vs).map (fun a => (a, 0)) ++ (if noKids rows i k n then [] else [(id, p.length + 1)])), none, trimH ((flds v).countP interior) (putCells (dropAll H1 (heldAll vs)) id p i k cs))
        else none
      | _, _, _ => none
    | none => none
    else none
  | _, _ => none

end Go.Eng

namespace Go.Eng
open Go.RowKit
set_option linter.unusedSectionVars false
set_option linter.unusedVariables false
set_option linter.unusedSimpArgs false
variable [Globs]

/-- The cells of a value. -/
theorem fldsV {w : World} {F : Nat → Prop} {S : Sh} {H : Hp} {x : V} {y : Value} (h : RV w F S H x y) (hsh : shapeOk x = true) :
    ∃ ys : List Value, (flds x).length = ys.length ∧ (∀ (i : Nat) (c : V) (z : Value), (flds x)[i]? = some c → ys[i]? = some z → RVc w F S H c z) ∧ ((∀ z ∈ ys, z.oneCell' = true) → y.cells.toList = ys) := by
  simp only [shapeOk, Bool.and_eq_true, Option.isNone_iff_eq_none] at hsh
  have h3 := RV.of3 hsh.1 h
  unfold RV3 at h3; rw [hsh.2] at h3
  unfold RV2 at h3
  cases ha : x.agg? with
  | some vs =>
    rw [ha] at h3
    obtain ⟨ys, rfl, h1, h2⟩ := h3
    cases x <;> simp [V.agg?] at ha
    subst ha
    exact ⟨ys, by simpa [flds] using h1, by simpa [flds] using h2, fun _ => by simp [Value.cells]⟩
  | none =>
    rw [ha] at h3
    have e1 : flds x = [x] := by cases x <;> simp [V.agg?] at ha <;> rfl
    rw [e1]
    refine ⟨[y], rfl, fun i c z hc hz => ?_, fun hone => ?_⟩
    · cases i with
      | zero => simp only [List.getElem?_cons_zero, Option.some.injEq] at hc hz; subst hc; subst hz; exact h3
      | succ i => simp at hc
    · have := hone y (List.mem_singleton_self _)
      cases y <;> simp [Value.oneCell'] at this <;> rfl

theorem setC_setC2 (rows : Rows) (i k : Nat) (c d : V) : setC (setC rows i k c) i k d = setC rows i k d := by
  unfold setC
  by_cases hi : i < rows.length
  · have : (rows.set i ((rows.getD i []).set k c)).getD i [] = (rows.getD i []).set k c := by rw [getD_lt _ _ (by simpa using hi)]; simp
    rw [this, List.set_set, List.set_set]
  · have h1 : ∀ x : List V, rows.set i x = rows := fun x => List.set_eq_of_length_le (by omega)
    simp [h1]

theorem setC_comm (rows : Rows) (i k k' : Nat) (c d : V) (h : k ≠ k') : setC (setC rows i k c) i k' d = setC (setC rows i k' d) i k c := by
  unfold setC
  by_cases hi : i < rows.length
  · have e1 : (rows.set i ((rows.getD i []).set k c)).getD i [] = (rows.getD i []).set k c := by rw [getD_lt _ _ (by simpa using hi)]; simp
    have e2 : (rows.set i ((rows.getD i []).set k' d)).getD i [] = (rows.getD i []).set k' d := by rw [getD_lt _ _ (by simpa using hi)]; simp
    rw [e1, e2, List.set_set, List.set_set, List.set_comm _ _ h]
  · have h1 : ∀ x : List V, rows.set i x = rows := fun x => List.set_eq_of_length_le (by omega)
    simp [h1]

theorem cellAt_setC_self {rows : Rows} {i k : Nat} {c : V} (h : (cellAt rows i k).kid = none ∨ c.kid.isSome = true) : True := trivial

theorem updRows_updRows (p : Path) : ∀ (rows : Rows) (f g : Rows → Rows), updRows (updRows rows p f) p g = updRows rows p (fun r => g (f r)) := by
  induction p with
  | nil => intro rows f g; rfl
  | cons s p ih =>
    intro rows f g
    rw [updRows_cons, updRows_cons, updRows_cons]
    by_cases hr : s.1 < rows.length ∧ s.2 < (rows.getD s.1 []).length
    · rw [cellAt_setC _ _ _ _ hr.1 hr.2, if_pos ⟨rfl, rfl⟩, setC_setC2]
      congr 1
      cases cellAt rows s.1 s.2 <;> simp [onWay, ih]
    · have hd : ∀ c, setC rows s.1 s.2 c = rows := by
        intro c
        unfold setC
        by_cases h1 : s.1 < rows.length
        · have h2 : (rows.getD s.1 []).length ≤ s.2 := by
            rcases Nat.lt_or_ge s.2 (rows.getD s.1 []).length with h | h
            · exact absurd ⟨h1, h⟩ hr
            · exact h
          rw [List.set_eq_of_length_le h2, getD_lt _ _ h1]
          exact List.set_getElem_self h1
        · exact List.set_eq_of_length_le (by omega)
      rw [hd, hd, hd]

theorem updH_updH (H : Hp) (id : Nat) (p : Path) (f g : Rows → Rows) : updH (updH H id p f) id p g = updH H id p (fun r => g (f r)) := by
  unfold updH
  cases hx : H[id]? with
  | none => simp [hx]
  | some x =>
    cases x with
    | none => simp [hx]
    | some nd =>
      obtain ⟨sz, rows⟩ := nd
      have hlt : id < H.length := by
        rcases Nat.lt_or_ge id H.length with h | h
        · exact h
        · rw [List.getElem?_eq_none h] at hx; cases hx
      simp only
      rw [List.getElem?_set_self hlt]
      simp only
      rw [List.set_set, updRows_updRows]

theorem putCells_updH {id : Nat} {p : Path} {i k0 : Nat} {d : V} : ∀ {cs : List V} {H : Hp} {k : Nat}, k0 < k → putCells (updH H id p (setC · i k0 d)) id p i k cs = updH (putCells H id p i k cs) id p (setC · i k0 d)
  | [], H, k, _ => rfl
  | c :: cs, H, k, h => by
    rw [putCells, putCells, ← putCells_updH (cs := cs) (k := k + 1) (by omega), updH_updH, updH_updH]
    have : (fun r => setC (setC r i k0 d) i k c) = fun r => setC (setC r i k c) i k0 d := by funext r; exact setC_comm r i k0 k d c (by omega)
    rw [this]

theorem putCells_twice {id : Nat} {p : Path} {i : Nat} : ∀ {cs0 cs : List V} {H : Hp} {k : Nat}, cs0.length = cs.length → putCells (putCells H id p i k cs0) id p i k cs = putCells H id p i k cs
  | [], [], H, k, _ => rfl
  | [], _ :: _, _, _, h => by simp at h
  | _ :: _, [], _, _, h => by simp at h
  | c0 :: cs0, c :: cs, H, k, h => by
    rw [putCells, putCells, putCells, putCells_updH (cs := cs0) (by omega)]
    have : (fun r => setC (setC r i k c0) i k c) = fun r => setC r i k c := by funext r; exact setC_setC2 r i k c0 c
    rw [updH_updH, this, putCells_updH (cs := cs) (by omega), putCells_twice (by simpa using h), ← putCells_updH (by omega)]

theorem dropAll_putCells {id : Nat} {p : Path} {i : Nat} {ids : List Nat} (hid : id ∉ ids) : ∀ {cs : List V} {H : Hp} {k : Nat}, dropAll (putCells H id p i k cs) ids = putCells (dropAll H ids) id p i k cs
  | [], H, k => rfl
  | c :: cs, H, k => by rw [putCells, putCells, dropAll_putCells hid, dropAll_updH hid]

theorem node_putCells_self {id : Nat} {p : Path} {i sz : Nat} : ∀ {cs : List V} {H : Hp} {k : Nat} {r1 : Rows}, node H id p = some (sz, r1) → i < r1.length → k + cs.length ≤ (r1.getD i []).length →
    ∃ r2, node (putCells H id p i k cs) id p = some (sz, r2) ∧ r2.length = r1.length ∧ (∀ j c, cs[j]? = some c → cellAt r2 i (k + j) = c) ∧ (∀ a b, (a ≠ i ∨ b < k ∨ k + cs.length ≤ b) → cellAt r2 a b = cellAt r1 a b)
  | [], H, k, r1, hn, hi, hk => ⟨r1, hn, rfl, by simp, fun _ _ _ => rfl⟩
  | c :: cs, H, k, r1, hn, hi, hk => by
    simp only [List.length_cons] at hk
    have hn1 : node (updH H id p (setC · i k c)) id p = some (sz, setC r1 i k c) := by
      obtain ⟨⟨sz0, rows0⟩, e1, e2⟩ := node_some hn
      rw [node_updH e1, if_pos rfl]
      exact nodeAt_updRows_self p _ e2
    have hrl : ((setC r1 i k c).getD i []).length = (r1.getD i []).length := by
      unfold setC
      rw [getD_lt _ _ (by simpa using hi)]; simp
    obtain ⟨r2, g1, g2, g3, g4⟩ := node_putCells_self (cs := cs) (k := k + 1) hn1 (by rw [length_setC]; exact hi) (by rw [hrl]; omega)
    refine ⟨r2, g1, by rw [g2, length_setC], fun j c' hc => ?_, fun a b hab => ?_⟩
    · cases j with
      | zero =>
        simp only [List.getElem?_cons_zero, Option.some.injEq] at hc
        subst hc
        rw [Nat.add_zero, g4 i k (.inr (.inl (by omega))), cellAt_setC _ _ _ _ hi (by omega), if_pos ⟨rfl, rfl⟩]
      | succ j =>
        rw [List.getElem?_cons_succ] at hc
        rw [← g3 j c' hc]; congr 1; omega
    · simp only [List.length_cons] at hab
      rw [g4 a b (by rcases hab with h | h | h; exact .inl h; exact .inr (.inl (by omega)); exact .inr (.inr (by omega))), cellAt_setC _ _ _ _ hi (by omega), if_neg]
      rintro ⟨rfl, rfl⟩
      rcases hab with h | h | h
      · exact h rfl
      · omega
      · omega

theorem HeldOK.keep {w w' : World} {F : Nat → Prop} {S S' : Sh} {H H' : Hp} {x : V} {y : Value} {c : V} (h : HeldOK w F S H x y c) (hF : ∀ b, F b → w'.heap[b]? = w.heap[b]?)
    (hr : ∀ id nd, heldOf x = some id → node H id [] = some nd → node H' id [] = some nd ∧ S' id [] = S id []) : HeldOK w' F S' H' x y c := by
  obtain ⟨q1, q2⟩ := h
  refine ⟨q1, ?_⟩
  cases hx : heldOf x with
  | none => rw [hx] at q2; exact RC0.mono hF (fun _ x => x) q2
  | some id' =>
    rw [hx] at q2
    obtain ⟨sz3, off3, n3, rows3, u1, u2, u3⟩ := q2
    obtain ⟨hro, hS1⟩ := hr id' _ hx u1
    refine ⟨sz3, off3, n3, rows3, hro, u2, ?_⟩
    rcases u3 with ⟨rfl, u3⟩ | ⟨rfl, u4, u3⟩
    · refine .inl ⟨rfl, ?_⟩
      rw [RV_ref] at u3 ⊢
      obtain ⟨nd, v1, v2, v3, v4⟩ := u3
      refine ⟨nd, ?_, v2, v3, by rw [hS1]; exact v4⟩
      rw [u1] at v1
      rw [hro]; exact v1
    · refine .inr ⟨rfl, u4, ?_⟩
      obtain ⟨nd, b, o, cap, v1, v2, v3⟩ := RV_ptr u3
      rw [u1] at v1
      injection v1 with v1
      subst v1
      rw [v3]
      exact mk_ptr hro (by rw [hS1]; exact v2)

theorem storeM_sound {P : Program} {a : Act} {w : World} {F : Nat → Prop} {S : Sh} {H : Hp} {σ : List (Nat × V)} {c0 : Bool} (hw : RW w F S H) (h : TR a w F S H σ) (hc : c0 = true) {t : Nat} {d x : Operand} {ks : List (Nat × Nat)} {z : Option V} {H' : Hp}
    (he : storeM P c0 σ H t d x = some (ks, z, H')) : z = none ∧ ∃ w' S', (Instr.storeAt t (a.eval d) (a.eval x)).run P w = .ok () w' ∧ Step ks none w F S H undef w' F S' H' := by
  unfold storeM at he
  split at he
  case h_2 => cases he
  rename_i id p i k v hd hv
  split at he
  case isFalse => cases he
  rename_i hsh
  split at he
  case h_2 => cases he
  rename_i k1 vs H1 hra
  split at he
  case h_2 => cases he
  rename_i g n sz rows cs ht hn hcs
  split at he
  case isFalse => cases he
  rename_i hcnd
  obtain ⟨c1, c2, c3, c4, c5, c6⟩ := hcnd
  simp only [Option.some.injEq, Prod.mk.injEq] at he
  obtain ⟨rfl, rfl, rfl⟩ := he
  refine ⟨rfl, ?_⟩
  have hdv := ev_sound h hd hc
  obtain ⟨nd, b, o, cap, e1, e2, e3⟩ := RV_ptr hdv
  obtain ⟨ys, l1, l2, l3⟩ := fldsV (ev_sound h hv hc) hsh
  obtain ⟨S1, t1, m1, m2, m3, m4⟩ := rootAll_sound _ ys S H k1 vs H1 (Taken.refl hw) l1 l2 hra
  obtain ⟨n1, n2⟩ := cellsM_sound hcs (by omega) m2
  have hrn := t1.rw.nodes id p _ hn
  have hrl := rowlen_of hrn c2
  simp only at hrl
  obtain ⟨b1, nd0, b2, b3, b4⟩ := t1.back id p _ (node_lt e1) hn
  rw [e1] at b2
  injection b2 with b2
  subst b2
  simp only at b3
  have hS1 : S1 id p = some (b, o, cap) := b1.trans e2
  have hni : id ∉ heldAll vs := by simpa using c6
  have hnd := noDup_nodup c5
  have hl0 := hold0s_length (xs := vs) (ys := ys) (cs := cs) (by omega) n1
  have hR0 := hold0s_RC0 (w := w) (F := F) (S := S1) (H := H1) (xs := vs) (ys := ys) (cs := cs) (by omega) n1 n2
  have hys : ∀ z ∈ ys, z.oneCell' = true := by
    intro z hz
    obtain ⟨j, hj⟩ := List.mem_iff_getElem?.1 hz
    have hjl : j < ys.length := by
      rcases Nat.lt_or_ge j ys.length with h | h
      · exact h
      · rw [List.getElem?_eq_none h] at hj; cases hj
    exact (hR0 j _ z (List.getElem?_eq_getElem (by omega)) hj).2
  have hcells := l3 hys
  obtain ⟨w2, S2, q1, q2, q3, q4, q5⟩ := RW.puts (P := P) (hold0s vs ys cs) ys w S1 H1 rows k 0 b o cap t1.rw hn c2 (by omega) hS1 (by omega) hR0 ⟨b, o + i * sz + k, none⟩ (by simp [Addr.add]) rfl rfl
  obtain ⟨r2, u1, u2, u3, u4⟩ := node_putCells_self (cs := hold0s vs ys cs) (k := k) hn c2 (by omega)
  have hkeep : ∀ (j : Nat) (x : V) (y : Value) (c : V), vs[j]? = some x → ys[j]? = some y → cs[j]? = some c → HeldOK w2 F S2 (putCells H1 id p i k (hold0s vs ys cs)) x y c := by
    intro j x y c a1 a2 a3
    refine (n2 j x y c a1 a2 a3).keep q5 (fun id' nd' hx hnd' => ?_)
    have hm : id' ∈ heldAll vs := List.mem_filterMap.2 ⟨x, List.mem_of_getElem? a1, hx⟩
    have hne : id' ≠ id := fun e => hni (e ▸ hm)
    exact ⟨by rw [node_putCells hne]; exact hnd', (q4 id' [] nd' hnd' (fun ⟨e, _⟩ => hne e)).1⟩
  obtain ⟨S3, v1, v2, v3⟩ := adoptAll vs ys cs S2 (putCells H1 id p i k (hold0s vs ys cs)) r2 k q2 u1 (by omega) (by omega) (by omega) n1 u3 hkeep hnd hni
  have hfin : putCells (dropAll (putCells H1 id p i k (hold0s vs ys cs)) (heldAll vs)) id p i k cs = putCells (dropAll H1 (heldAll vs)) id p i k cs := by
    rw [dropAll_putCells hni, putCells_twice (by omega)]
  rw [hfin] at v1 v2 v3
  refine ⟨w2, S3, ?_, Step.nodes_eq (H' := putCells (dropAll H1 (heldAll vs)) id p i k cs) ⟨v1, t1.stp.trans (q3.trans v2), trivial, fun id' q nd' hno hq => ?_, q5⟩ (fun id' q => ?_)⟩
  · have hyc : (a.eval x).cells.size = n := by rw [← Array.length_toList, hcells]; omega
    rw [e3]
    simp only [Instr.storeAt, Instr.sureAddr, storeVar]
    rw [← b3]
    simp [run_sizeOf' ht, hyc, hcells, q1]
  · obtain ⟨x1, nd1, x2, x3, x4⟩ := m4 id' q nd' (fun ⟨k, hk, h⟩ => hno ⟨k, List.mem_append_left _ hk, h⟩) hq
    have hnh : id' ∉ heldAll vs := fun hm => hno ⟨(id', 0), List.mem_append_right _ (List.mem_append_left _ (List.mem_map.2 ⟨id', hm, rfl⟩)), rfl, Nat.zero_le _⟩
    have hout : ¬ (id' = id ∧ ∃ k' r, k ≤ k' ∧ k' < k + n ∧ q = p ++ (i, k') :: r) := by
      rintro ⟨rfl, k', r, y1, y2, rfl⟩
      by_cases hnk : noKids rows i k n = true
      · have hcell := noKids_cell (n := n) hnk y1 y2
        obtain ⟨nd0, z1, z2⟩ := node_some x2
        obtain ⟨nd2, z3, z4⟩ := node_some hn
        rw [z1] at z3
        injection z3 with z3
        injection z3 with z3
        subst z3
        rw [nodeAt_append, z4] at z2
        simp only [Option.bind_some, nodeAt_cons, hcell] at z2
        cases z2
      · exact hno ⟨(id', p.length + 1), by rw [if_neg hnk]; simp, rfl, by simp⟩
    obtain ⟨y1, nd2, y2, y3, y4⟩ := q4 id' q nd1 x2 (fun ⟨e, k', r, f1, f2, f3⟩ => hout ⟨e, k', r, f1, by omega, f3⟩)
    obtain ⟨z1, nd3, z2, z3, z4⟩ := v3 id' q nd2 y2 hnh (fun ⟨e, k', r, f1, f2, f3⟩ => hout ⟨e, k', r, f1, by omega, f3⟩)
    exact ⟨z1.trans (y1.trans x1), nd3, z2, by omega, by omega⟩
  · obtain ⟨o1, o2⟩ := rootAll_new hra
    refine node_trimH (fun j j1 j2 p' => ?_) id' q
    rw [length_putCells, length_dropAll] at j1 j2
    have hm := o2 j (by omega) j2
    rw [node_putCells (show j ≠ id from fun e => hni (e ▸ hm)), node_dropAll, if_pos hm]

end Go.Eng

namespace Go.Eng
open Go.RowKit
set_option linter.unusedSectionVars false
set_option linter.unusedVariables false
set_option linter.unusedSimpArgs false
variable [Globs]

theorem cellAt_app (R C : Rows) (a k : Nat) : cellAt (R ++ C) a k = if a < R.length then cellAt R a k else cellAt C (a - R.length) k := by
  unfold cellAt
  split
  · rename_i h
    congr 1
    rw [List.getD_eq_getElem?_getD, List.getElem?_append_left h, ← List.getD_eq_getElem?_getD]
  · rename_i h
    congr 1
    rw [List.getD_eq_getElem?_getD, List.getElem?_append_right (by omega), ← List.getD_eq_getElem?_getD]

def shGraft (S : Sh) (id L n : Nat) : Sh := fun id' q =>
  if id' = id then
    match q with
    | [] => S id []
    | (a, k) :: r => if n ≤ a then S L ((a - n, k) :: r) else S id ((a, k) :: r)
  else S id' q

theorem RW.graft {w : World} {F : Nat → Prop} {S : Sh} {H : Hp} (h : RW w F S H) {id L sz : Nat} {R0 C0 rowsL : Rows} (hid : id ≠ L) (hn : node H id [] = some (sz, R0 ++ C0)) (hL : node H L [] = some (sz, rowsL)) (hlen : C0.length = rowsL.length)
    (hc : ∀ i k, i < rowsL.length → k < sz → (cellAt C0 i k = cellAt rowsL i k ∧ (cellAt rowsL i k).still = true) ∨ (∃ y nd, (cellAt rowsL i k).kid = some nd ∧ cellAt C0 i k = .v y ∧ RC w F S L [(i, k)] (cellAt rowsL i k) y)) :
    let S' := shGraft S id L R0.length
    let H' := (H.set L none).set id (some (sz, R0 ++ rowsL))
    RW w F S' H' ∧ (∀ b, Own S' H' b → Own S H b) ∧ (∀ id' q nd, id' ≠ id → id' ≠ L → node H id' q = some nd → S' id' q = S id' q ∧ node H' id' q = some nd) ∧ S' id [] = S id [] ∧ node H' id [] = some (sz, R0 ++ rowsL) := by
  intro S' H'
  have hlt := node_lt hn
  have hltL := node_lt hL
  have hrn := h.nodes id [] _ hn
  have hrnL := h.nodes L [] _ hL
  have hnode : ∀ id' q, node H' id' q = if id' = id then nodeAt (sz, R0 ++ rowsL) q else if id' = L then none else node H id' q := by
    intro id' q
    show node ((H.set L none).set id (some (sz, R0 ++ rowsL))) id' q = _
    rw [node_set (by simpa using hlt)]
    split
    · rfl
    · rw [node_set_none]
  have hS : ∀ id' q, id' ≠ id → S' id' q = S id' q := fun id' q e => by show shGraft .. = _; unfold shGraft; rw [if_neg e]
  have hSlo : ∀ a k r, a < R0.length → S' id ((a, k) :: r) = S id ((a, k) :: r) := fun a k r e => by show shGraft .. = _; unfold shGraft; rw [if_pos rfl]; simp only; rw [if_neg (by omega)]
  have hShi : ∀ a k r, R0.length ≤ a → S' id ((a, k) :: r) = S L ((a - R0.length, k) :: r) := fun a k r e => by show shGraft .. = _; unfold shGraft; rw [if_pos rfl]; simp only; rw [if_pos e]
  have hS0 : S' id [] = S id [] := by show shGraft .. = _; unfold shGraft; rw [if_pos rfl]
  -- where a node was
  have hwhere : ∀ id' q nd, node H' id' q = some nd →
      (id' ≠ L ∧ (∀ a k r, id' = id → q = (a, k) :: r → a < R0.length) ∧ S' id' q = S id' q ∧ ∃ nd0, node H id' q = some nd0 ∧ (q = [] ∧ id' = id ∧ nd = (sz, R0 ++ rowsL) ∨ nd = nd0)) ∨
      (id' = id ∧ ∃ a k r, q = (a, k) :: r ∧ R0.length ≤ a ∧ node H L ((a - R0.length, k) :: r) = some nd ∧ S' id' q = S L ((a - R0.length, k) :: r)) := by
    intro id' q nd hq
    rw [hnode] at hq
    split at hq
    · rename_i e
      subst e
      cases q with
      | nil =>
        simp only [nodeAt, Option.some.injEq] at hq
        exact .inl ⟨hid, (fun _ _ _ _ e => by cases e), hS0, _, hn, .inl ⟨rfl, rfl, hq.symm⟩⟩
      | cons s r =>
        obtain ⟨a, k⟩ := s
        rw [nodeAt_cons] at hq
        simp only [cellAt_app] at hq
        by_cases ha : a < R0.length
        · simp only [ha, if_true] at hq
          refine .inl ⟨hid, (fun _ _ _ _ e => by cases e; exact ha), hSlo a k r ha, nd, ?_, .inr rfl⟩
          obtain ⟨nd0, e1, e2⟩ := node_some hn
          refine node_mk e1 ?_
          simp only [nodeAt, Option.some.injEq] at e2
          subst e2
          rw [nodeAt_cons]
          simp only [cellAt_app, ha, if_true]
          exact hq
        · simp only [ha, if_false] at hq
          refine .inr ⟨rfl, a, k, r, rfl, by omega, ?_, hShi a k r (by omega)⟩
          obtain ⟨nd0, e1, e2⟩ := node_some hL
          refine node_mk e1 ?_
          simp only [nodeAt, Option.some.injEq] at e2
          subst e2
          rw [nodeAt_cons]
          exact hq
    · rename_i e
      split at hq
      · cases hq
      · rename_i e'
        exact .inl ⟨e', fun _ _ _ e'' _ => absurd e'' e, hS id' q e, nd, hq, .inr rfl⟩
  refine ⟨⟨fun id' q nd hq => ?_, fun id1 q1 nd1 id2 q2 nd2 b o1 c1 o2 c2 hq1 hq2 hs1 hs2 => ?_, h.froz⟩, ?_, fun id' q nd e1 e2 hq => ⟨hS id' q e1, by rw [hnode, if_neg e1, if_neg e2]; exact hq⟩, hS0, by rw [hnode, if_pos rfl]; rfl⟩
  · rcases hwhere id' q nd hq with ⟨w1, w2, w3, nd0, w4, w5⟩ | ⟨rfl, a, k, r, rfl, ha, w4, w3⟩
    · rcases w5 with ⟨rfl, rfl, rfl⟩ | rfl
      · -- the object itself
        unfold RN at hrn hrnL ⊢
        rw [hS0]
        cases hs : S id' [] with
        | none =>
          rw [hs] at hrn
          simp only at hrn ⊢
          have e1 := List.append_eq_nil_iff.1 hrn
          have : rowsL = [] := List.length_eq_zero_iff.1 (by rw [← hlen, e1.2]; rfl)
          rw [e1.1, this]; rfl
        | some x =>
          obtain ⟨b, o, cap⟩ := x
          rw [hs] at hrn
          obtain ⟨f1, f2, arr, T, fr, f3, f4, f5, f6, f7⟩ := hrn
          simp only [List.length_append] at f1 f7 ⊢
          refine ⟨by omega, f2, arr, T, fr, f3, f4, f5, fun row hr => ?_, fun i k hi hk => ?_⟩
          · rcases List.mem_append.1 hr with hr | hr
            · exact f6 row (List.mem_append_left _ hr)
            · cases hsL : S L [] with
              | none => rw [hsL] at hrnL; simp only at hrnL; rw [hrnL] at hr; cases hr
              | some y =>
                obtain ⟨b2, o2, cap2⟩ := y
                rw [hsL] at hrnL
                obtain ⟨_, _, _, _, _, _, _, _, g6, _⟩ := hrnL
                exact g6 row hr
          · obtain ⟨v, hv, hrc⟩ := f7 i k (by omega) hk
            refine ⟨v, hv, ?_⟩
            rw [cellAt_app] at hrc ⊢
            by_cases hi' : i < R0.length
            · rw [if_pos hi'] at hrc ⊢
              exact RC.mono (fun _ _ => rfl) (fun _ x => x) (hSlo i k [] hi') hrc
            · rw [if_neg hi'] at hrc ⊢
              have hSx : S' id' ([] ++ [(i, k)]) = S L [(i - R0.length, k)] := hShi i k [] (by omega)
              rcases hc (i - R0.length) k (by omega) hk with ⟨g1, g2⟩ | ⟨y, nd', g1, g2, g3⟩
              · rw [g1] at hrc
                exact still_RC g2 hrc
              · rw [g2] at hrc
                have : v = y := hrc
                subst this
                exact RC.mono (fun _ _ => rfl) (fun _ x => x) hSx g3
      · refine RN.mono (fun _ _ => rfl) (fun _ x => x) w3 (fun a k nd' hk => ?_) (fun _ _ => ⟨rfl, fun x => x⟩) (h.nodes id' q _ w4)
        by_cases e : id' = id
        · subst e
          cases q with
          | nil =>
            -- then the node is the object itself
            rw [hnode, if_pos rfl] at hq
            simp only [nodeAt, Option.some.injEq] at hq
            subst hq
            rw [hn] at w4
            simp only [Option.some.injEq, Prod.mk.injEq, List.append_cancel_left_eq, true_and] at w4
            by_cases ha : a < R0.length
            · exact hSlo a k [] ha
            · simp only [cellAt_app, if_neg ha] at hk
              have hl := cellAt_kid_lt hk
              rcases hc (a - R0.length) k hl.1 (by
                have := rowlen_of hrnL (i := a - R0.length) hl.1
                simp only at this
                omega) with ⟨_, g2⟩ | ⟨y, nd'', g1, g2, _⟩
              · rw [V.still_kid g2] at hk; cases hk
              · rw [← w4, g2] at hk; cases hk
          | cons s r =>
            obtain ⟨a', k'⟩ := s
            exact hSlo a' k' _ (w2 a' k' r rfl rfl)
        · exact hS id' _ e
    · refine RN.mono (fun _ _ => rfl) (fun _ x => x) w3 (fun a' k' nd' _ => ?_) (fun _ _ => ⟨rfl, fun x => x⟩) (h.nodes L _ _ w4)
      exact hShi a k (r ++ [(a', k')]) ha
  · rcases hwhere id1 q1 nd1 hq1 with ⟨w1, w2, w3, nd0, w4, w5⟩ | ⟨rfl, a, k, r, rfl, ha, w4, w3⟩ <;> rcases hwhere id2 q2 nd2 hq2 with ⟨x1, x2, x3, nd0', x4, x5⟩ | ⟨rfl, a', k', r', rfl, ha', x4, x3⟩
    · rw [w3] at hs1; rw [x3] at hs2
      exact h.inj _ _ _ _ _ _ b _ _ _ _ w4 x4 hs1 hs2
    · rw [w3] at hs1; rw [x3] at hs2
      exact absurd (h.inj _ _ _ _ _ _ b _ _ _ _ w4 x4 hs1 hs2).1 w1
    · rw [w3] at hs1; rw [x3] at hs2
      exact absurd (h.inj _ _ _ _ _ _ b _ _ _ _ w4 x4 hs1 hs2).1.symm x1
    · rw [w3] at hs1; rw [x3] at hs2
      have := (h.inj _ _ _ _ _ _ b _ _ _ _ w4 x4 hs1 hs2).2
      simp only [List.cons.injEq, Prod.mk.injEq] at this
      obtain ⟨⟨e1, e2⟩, e3⟩ := this
      refine ⟨rfl, ?_⟩
      rw [e2, e3, show a = a' by omega]
  · rintro b ⟨id', q, nd, o, cap, hq, hs⟩
    rcases hwhere id' q nd hq with ⟨w1, w2, w3, nd0, w4, w5⟩ | ⟨rfl, a, k, r, rfl, ha, w4, w3⟩
    · rw [w3] at hs
      exact ⟨id', q, nd0, o, cap, w4, hs⟩
    · rw [w3] at hs
      exact ⟨L, _, nd, o, cap, w4, hs⟩

/-- Rows whose cells are copied, or moved. -/
def allMoves (rows : Rows) : Bool := rows.all fun r => r.all fun c => c.copies || c.kid.isSome

theorem allMoves_cell {rows : Rows} (h : allMoves rows = true) {i k : Nat} (hi : i < rows.length) (hk : k < (rows.getD i []).length) : (cellAt rows i k).copies = true ∨ (cellAt rows i k).kid.isSome = true := by
  unfold cellAt
  rw [getD_lt _ _ hk]
  have h1 := List.all_eq_true.1 h _ (List.getElem_mem hi)
  have e : rows.getD i [] = rows[i] := getD_lt _ _ hi
  have h2 := List.all_eq_true.1 h1 ((rows.getD i [])[k]) (by simp only [e]; exact List.getElem_mem _)
  simpa using h2

theorem src_graft {P : Program} {w : World} {F : Nat → Prop} {S : Sh} {H : Hp} (hw : RW w F S H) {L sz : Nat} {y : Value} {rows : Rows} (hv : RV w F S H (.ref L [] sz 0 rows.length) y) (hn : node H L [] = some (sz, rows)) (hm : allMoves rows = true) :
    ∃ C0 : Rows, C0.length = rows.length ∧ Src P w F sz C0 y ∧
      ∀ i k, i < rows.length → k < sz → (cellAt C0 i k = cellAt rows i k ∧ (cellAt rows i k).still = true) ∨ (∃ y nd, (cellAt rows i k).kid = some nd ∧ cellAt C0 i k = .v y ∧ RC w F S L [(i, k)] (cellAt rows i k) y) := by
  rw [RV_ref] at hv
  obtain ⟨nd, h1, h2, h3, h4⟩ := hv
  rw [hn] at h1
  injection h1 with h1
  subst h1
  have hcap := hw.cap hn
  have hrn := hw.nodes L [] _ hn
  cases hs : S L [] with
  | none =>
    rw [hs] at h4 hcap
    simp only at h4 hcap
    subst hcap
    rw [h4]
    exact ⟨[], rfl, src_nil none 0, fun i k hi => by simp at hi⟩
  | some x =>
    obtain ⟨b, o, cap⟩ := x
    rw [hs] at h4 hcap
    obtain ⟨a, rfl, ha⟩ := h4
    simp only [Nat.sub_zero, Nat.zero_mul, Nat.add_zero] at ha
    by_cases hn0 : rows.length = 0
    · have : rows = [] := List.length_eq_zero_iff.1 hn0
      subst this
      exact ⟨[], rfl, src_nil a _, fun i k hi => by simp at hi⟩
    · unfold RN at hrn
      rw [hs] at hrn
      obtain ⟨f1, f2, arr, T, fr, f3, f4, f5, f6, f7⟩ := hrn
      simp only at f1 f5 f6 f7 hcap
      rw [ha (by omega)]
      let C0 : Rows := (List.range rows.length).map fun i => (List.range sz).map fun k => if (cellAt rows i k).kid.isSome then .v ((arr[o + i * sz + k]?).getD undef) else cellAt rows i k
      have hl : C0.length = rows.length := by simp [C0]
      have hcell : ∀ i k, i < rows.length → k < sz → cellAt C0 i k = if (cellAt rows i k).kid.isSome then .v ((arr[o + i * sz + k]?).getD undef) else cellAt rows i k := by
        intro i k hi hk
        have e1 : C0.getD i [] = (List.range sz).map fun k => if (cellAt rows i k).kid.isSome then .v ((arr[o + i * sz + k]?).getD undef) else cellAt rows i k := by
          rw [getD_lt _ _ (by omega)]; simp [C0]
        show (C0.getD i []).getD k .dead = _
        rw [e1, getD_lt _ _ (by simpa using hk)]
        simp
      have hrowl : ∀ row ∈ C0, row.length = sz := by
        intro row hr
        simp only [C0, List.mem_map] at hr
        obtain ⟨i, _, rfl⟩ := hr
        simp
      have hrl : ∀ i, i < rows.length → (rows.getD i []).length = sz := fun i hi => by
        rw [getD_lt _ _ hi]
        exact f6 _ (List.getElem_mem hi)
      have key : ∀ i k, i < rows.length → k < sz → ∃ v, arr[o + i * sz + k]? = some v ∧ RC0 w F (cellAt C0 i k) v ∧ v.oneCell' = true ∧
          ((cellAt C0 i k = cellAt rows i k ∧ (cellAt rows i k).copies = true) ∨ (∃ nd, (cellAt rows i k).kid = some nd ∧ cellAt C0 i k = .v v ∧ RC w F S L [(i, k)] (cellAt rows i k) v)) := by
        intro i k hi hk
        obtain ⟨v, hv, hrc⟩ := f7 i k hi hk
        refine ⟨v, hv, ?_⟩
        rw [hcell i k hi hk, hv]
        cases hkd : (cellAt rows i k).kid with
        | some nd =>
          simp only [Option.isSome_some, if_true, Option.getD_some]
          refine ⟨rfl, ?_, .inr ⟨nd, rfl, trivial, hrc⟩⟩
          cases hcc : cellAt rows i k <;> rw [hcc] at hkd hrc <;> simp [V.kid] at hkd
          · simp only [RC] at hrc
            split at hrc
            · rw [hrc]; rfl
            · obtain ⟨aa, rfl, _⟩ := hrc; rfl
          · simp only [RC] at hrc
            split at hrc
            · exact hrc.elim
            · rw [hrc]; rfl
        | none =>
          simp only [Option.isSome_none, Bool.false_eq_true, if_false]
          have hcp : (cellAt rows i k).copies = true := by
            rcases allMoves_cell hm hi (by rw [hrl i hi]; exact hk) with h | h
            · exact h
            · rw [hkd] at h; cases h
          obtain ⟨g1, g2⟩ := copies_RC hcp hrc
          exact ⟨g1, g2, .inl ⟨by first | rfl | trivial, hcp⟩⟩
      have hflat : flat C0 = true := by
        unfold flat
        rw [List.all_eq_true]
        intro row hr
        rw [List.all_eq_true]
        intro c hcm
        simp only [C0, List.mem_map, List.mem_range] at hr
        obtain ⟨i, hi, rfl⟩ := hr
        simp only [List.mem_map, List.mem_range] at hcm
        obtain ⟨k, hk, rfl⟩ := hcm
        by_cases hk2 : (cellAt rows i k).kid.isSome = true
        · rw [if_pos hk2]; rfl
        · rw [if_neg hk2]
          obtain ⟨v, _, _, _, h | ⟨nd, h, _⟩⟩ := key i k hi hk
          · exact copies_still h.2
          · rw [h] at hk2
            exact absurd rfl hk2
      refine ⟨C0, hl, ?_, fun i k hi hk => ?_⟩
      · have := src_cells (P := P) (w := w) (F := F) (sz := sz) (cs := C0) (b := b) (o := o) (cap := cap) f3 hrowl hflat (fun i k hi hk => by
          obtain ⟨v, g1, g2, g3, _⟩ := key i k (by omega) hk
          exact ⟨v, g1, g2, g3⟩)
        rw [hl] at this
        exact this
      · obtain ⟨v, g1, g2, g3, g4⟩ := key i k hi hk
        rcases g4 with ⟨g4, g5⟩ | ⟨nd, g4, g5, g6⟩
        · exact .inl ⟨g4, copies_still g5⟩
        · exact .inr ⟨v, nd, g4, g5, g6⟩

end Go.Eng

namespace Go.Eng
open Go.RowKit
set_option linter.unusedSectionVars false
set_option linter.unusedVariables false
set_option linter.unusedSimpArgs false
variable [Globs]

theorem nil_step {w : World} {F : Nat → Prop} {S : Sh} {H : Hp} (h : RW w F S H) (sz : Nat) : Step [] (some (.ref H.length [] sz 0 0)) w F S H (.slice none 0 0) w F (shAdd S H.length none) (H ++ [some (sz, [])]) := by
  refine ⟨h.addNil sz, Stp.addNil sz, ?_, fun id p nd _ hn => new_old id p nd hn, fun _ _ => rfl⟩
  show RV w F _ _ (.ref H.length [] sz 0 0) _
  rw [RV_ref]
  refine ⟨(sz, []), by rw [node_append, if_pos rfl]; rfl, rfl, by simp, ?_⟩
  simp [shAdd]

theorem lit_step {w : World} {F : Nat → Prop} {S : Sh} {H : Hp} (h : RW w F S H) {sz n : Nat} {rows : Rows} {arr : Array Value} (e : TypeId) (hl : ∀ row ∈ rows, row.length = sz) (hs : arr.size = n * sz) (hn : rows.length = n)
    (hc : ∀ i k, i < rows.length → k < sz → ∃ y, arr[i * sz + k]? = some y ∧ RC0 w F (cellAt rows i k) y) :
    ∃ S', Step [] (some (.ref H.length [] sz 0 n)) w F S H (.slice (some ⟨w.heap.size, 0, none⟩) n n) (w.alloc (.cells arr e)) F S' (H ++ [some (sz, rows)]) := by
  obtain ⟨g1, g2⟩ := h.new sz rows arr e n (0, 0) hl (by omega) (by omega) (by simp) hc
  refine ⟨_, g1, g2, ?_, fun id p nd _ hn => new_old id p nd hn, fun b hb => Below.heap_alloc _ _ _ (h.froz b hb)⟩
  show RV _ F _ _ (.ref H.length [] sz 0 n) _
  rw [RV_ref]
  refine ⟨(sz, rows), by rw [node_append, if_pos rfl]; rfl, rfl, by simp [hn], ?_⟩
  simp [shAdd]

/-- A literal that is read alone. -/
theorem frz_step {w : World} {F : Nat → Prop} {S : Sh} {H : Hp} (h : RW w F S H) {sz n : Nat} {rows : Rows} {arr : Array Value} (e : TypeId) (hl : ∀ row ∈ rows, row.length = sz) (hs : arr.size = n * sz) (hn : rows.length = n) (hcp : allCopies rows = true)
    (hc : ∀ i k, i < rows.length → k < sz → ∃ y, arr[i * sz + k]? = some y ∧ RC0 w F (cellAt rows i k) y) :
    ∃ F', Step [] (some (.fs sz rows)) w F S H (.slice (some ⟨w.heap.size, 0, none⟩) n n) (w.alloc (.cells arr e)) F' S H := by
  have hb : ∀ b, b < w.heap.size → (w.alloc (.cells arr e)).heap[b]? = w.heap[b]? := fun b hb => Below.heap_alloc _ _ _ hb
  have hg : RW (w.alloc (.cells arr e)) F S H := h.grow (by simp) hb
  have hrow : ∀ (i : Nat) (row : List V), rows[i]? = some row → row.length = sz := fun i row hr => hl row (List.mem_of_getElem? hr)
  refine ⟨fun b => F b ∨ b = w.heap.size, ⟨fun id p nd hnn => ?_, h.inj, fun b hbb => ?_⟩, ⟨rfl, rfl, rfl, by simp, fun b hlt _ => hb b hlt, fun b ho => .inl ho, fun b hf => hf.elim .inl (fun e => .inr (.inr (by omega))), fun b hf => .inl hf⟩, ?_, fun id p nd _ hnn => ⟨rfl, nd, hnn, rfl, rfl⟩, fun b hf => hb b (h.froz b hf)⟩
  · refine RN.mono (fun _ _ => rfl) (fun b hf => .inl hf) rfl (fun _ _ _ _ => rfl) (fun b ⟨o, cap, hs'⟩ => ⟨rfl, fun hnf hf => ?_⟩) (hg.nodes id p nd hnn)
    rcases hf with hf | rfl
    · exact hnf hf
    · exact absurd ((h.nodes id p nd hnn).notF hs').2 (Nat.lt_irrefl _)
  · rcases hbb with hf | rfl
    · have := h.froz b hf; simp; omega
    · simp
  · show RepF _ _ (.fs sz rows) _
    subst hn
    have cell : ∀ (i k : Nat) (row : List V) (c : V), rows[i]? = some row → row[k]? = some c → ∃ y, arr[i * sz + k]? = some y ∧ RC0 w F c y ∧ c.copies = true := by
      intro i k row c hr hk
      have hi : i < rows.length := by
        rcases Nat.lt_or_ge i rows.length with h | h
        · exact h
        · rw [List.getElem?_eq_none h] at hr; cases hr
      have hk' : k < row.length := by
        rcases Nat.lt_or_ge k row.length with h | h
        · exact h
        · rw [List.getElem?_eq_none h] at hk; cases hk
      have hlen := hrow i row hr
      obtain ⟨y, hy, hrc⟩ := hc i k hi (by omega)
      have e0 : rows.getD i [] = row := by rw [List.getD_eq_getElem?_getD, hr]; rfl
      have e1 : cellAt rows i k = c := by unfold cellAt; rw [e0, List.getD_eq_getElem?_getD, hk]; rfl
      rw [e1] at hrc
      have := allCopies_cell hcp hi (k := k) (by rw [e0]; exact hk')
      rw [e1] at this
      exact ⟨y, hy, hrc, this⟩
    refine RepF.fs sz rows w.heap.size 0 rows.length (fun i k => (arr[i * sz + k]?).getD undef) (.inr rfl) (Nat.le_refl _) hrow (fun i k row c hr hk => ?_) (fun i k row c hr hk => ?_)
    · obtain ⟨y, hy, _⟩ := cell i k row c hr hk
      rw [cell?_row (Go.heap_alloc_new _ _), Nat.zero_add, hy]
      rfl
    · obtain ⟨y, hy, hrc, hcc⟩ := cell i k row c hr hk
      rw [hy]
      simp only [Option.getD_some]
      cases c <;> simp [V.copies] at hcc
      · simp only [RC0] at hrc; subst hrc; exact .v _
      · exact RepF.mono (fun b hf => hb b (h.froz b hf)) (fun b hf => .inl hf) hrc
      · exact RepF.mono (fun b hf => hb b (h.froz b hf)) (fun b hf => .inl hf) hrc

theorem madeCells_get (z : Array Value) {n sz i k : Nat} (hz : z.size = sz) (hi : i < n) (hk : k < sz) : (madeCells z (n * sz))[i * sz + k]? = z[k]? := by
  have hlt := mul_add_lt hi hk
  unfold madeCells
  rw [Array.getElem?_map, Array.getElem?_range, if_pos hlt]
  simp only [Option.map_some, hz]
  have : (i * sz + k) % sz = k := by rw [Nat.mul_comm, Nat.mul_add_mod, Nat.mod_eq_of_lt hk]
  rw [this]
  have hk' : k < z.size := by omega
  simp [hk']

theorem make_step {P : Program} {w : World} {F : Nat → Prop} {S : Sh} {H : Hp} (h : RW w F S H) {t e sz bytes : Nat} (ht : tslice P t = some (e, sz, bytes)) {row : List V} (hz : zrow P e = some row) (hrl : row.length = sz) (kl kc : IntKind) (l c : Int) (h0 : 0 ≤ l) (hlc : l ≤ c) (hb : (bytes : Int) * c ≤ 281474976710656) (h63 : c ≤ 9223372036854775807) :
    ∃ w' S', (Instr.makeSlice t (.int kl l) (.int kc c)).run P w = .ok (.slice (some ⟨w.heap.size, 0, none⟩) l.toNat c.toNat) w' ∧ Step [] (some (.ref H.length [] sz 0 l.toNat)) w F S H (.slice (some ⟨w.heap.size, 0, none⟩) l.toNat c.toNat) w' F S' (H ++ [some (sz, List.replicate l.toNat row)]) := by
  obtain ⟨hu, i', hi', rfl, rfl⟩ := tslice_some ht
  unfold zrow at hz
  split at hz
  · rename_i zs hzs
    obtain ⟨i2, z, h1, h2, h3⟩ := tzero_some hzs
    rw [hi'] at h1
    injection h1 with h1
    subst h1
    have hcs := cells1_sound (w := w) (F := F) (S := S) (H := H) (ys := zs) hz (by simp) (fun j c v hc hv => by
      rw [List.getElem?_map, hv] at hc
      simp only [Option.map_some, Option.some.injEq] at hc
      subst hc
      exact rfl)
    have hzl : zs.length = i'.size := by rw [← hrl, hcs.1]; simp
    have hzc : z.cells.size = i'.size := by rw [← hzl, ← h3]; simp
    have hr := run_make (P := P) w t e i' z hu hi' h2 kl kc l c h0 hlc hb h63
    obtain ⟨g1, g2⟩ := h.new i'.size (List.replicate l.toNat row) (madeCells z.cells (c.toNat * i'.size)) e c.toNat (0, 0) (fun r hr => by rw [(List.mem_replicate.1 hr).2]; exact hrl) (by simp; omega) (by rw [size_madeCells]; exact Nat.le_refl _) (by simp) (fun i k hi hk => by
      rw [List.length_replicate] at hi
      have hk1 : k < zs.length := by omega
      have hk2 : k < row.length := by omega
      refine ⟨zs[k], ?_, ?_⟩
      · rw [madeCells_get z.cells hzc (by omega) hk, ← Array.getElem?_toList, h3]; exact List.getElem?_eq_getElem hk1
      · have e1 : cellAt (List.replicate l.toNat row) i k = row[k] := by
          unfold cellAt
          have : (List.replicate l.toNat row).getD i [] = row := by rw [getD_lt _ _ (by simpa using hi)]; simp
          rw [this, getD_lt _ _ hk2]
        rw [e1]
        exact (hcs.2 k _ _ (List.getElem?_eq_getElem hk2) (List.getElem?_eq_getElem hk1)).1)
    refine ⟨_, _, hr, g1, g2, ?_, fun id p nd _ hn => new_old id p nd hn, fun b hb => Below.heap_alloc _ _ _ (h.froz b hb)⟩
    show RV _ F _ _ (.ref H.length [] i'.size 0 l.toNat) _
    rw [RV_ref]
    refine ⟨(i'.size, List.replicate l.toNat row), by rw [node_append, if_pos rfl]; rfl, rfl, by simp, ?_⟩
    simp [shAdd]
  · cases hz

theorem append_step {P : Program} {a : Act} {w : World} {F : Nat → Prop} {S : Sh} {H : Hp} {σ : List (Nat × V)} {c0 : Bool} (hw : RW w F S H) (h : TR a w F S H σ) (hc : c0 = true) {t u ty : Nat} {s x : Operand} {ks : List (Nat × Nat)} {z : Option V} {H' : Hp} (he : appendE P c0 σ H t u s x = some (ks, z, H')) :
    ∃ y w' S', (Builtin.append_ #[t, u] ty #[a.eval s, a.eval x]).run P w = .ok y w' ∧ Step ks z w F S H y w' F S' H' := by
  unfold appendE at he
  split at he
  · rename_i e sz bytes q ht hu
    obtain ⟨ue, us, ub⟩ := q
    have hu' : (∃ e', P.underlying u = some (.slice e')) ∨ P.underlying u = some .string := .inl ⟨_, (tslice_some hu).1⟩
    split at he
    · rename_i zs cs hz hsrc hs
      split at he
      · rename_i hcnd
        obtain ⟨c1, c2, c3⟩ := hcnd
        simp only [Option.some.injEq, Prod.mk.injEq] at he
        obtain ⟨rfl, rfl, rfl⟩ := he
        have hy : a.eval s = .slice none 0 0 := plain_sound (ev_sound h hs hc) rfl
        have hs0 := nil_step hw sz
        have hn0 : node (H ++ [some (sz, [])]) H.length [] = some (sz, []) := by rw [node_append, if_pos rfl]; rfl
        obtain ⟨y', w', S', r1, r2, r3, r4, r5⟩ := append_root (P := P) (ty := ty) hs0.rw ht hu' hz c1 c2 hn0 (by have := hs0.val; exact this) (srcV_sound hw h hc hsrc) (by simpa using c3)
        have hset : (H ++ [some (sz, [])]).set H.length (some (sz, [] ++ cs)) = H ++ [some (sz, cs)] := by simp
        rw [hset] at r2 r3 r5
        refine ⟨y', w', S', by rw [hy]; exact r1, r2, hs0.stp.trans r3, by simpa using r5, fun id p nd _ hn => ?_, fun b hb => ?_⟩
        · have hlt := node_lt hn
          obtain ⟨e1, nd', e2, e3, e4⟩ := new_old (S := S) (x := none) (nd := (sz, cs)) id p nd hn
          exact ⟨(r4 id p (fun e => by omega)).trans (by simp only [shAdd]; rw [if_neg (by omega)]), nd', e2, e3, e4⟩
        · exact r3.block b (hw.froz b hb) (fun ho => (hs0.rw.own_notF ho).1 hb)
      · cases he
    · rename_i zs cs id sz' n hz hsrc hs
      split at he
      · rename_i sz2 rows hn
        split at he
        · rename_i hcnd
          obtain ⟨c1, c2, rfl, rfl, c5⟩ := hcnd
          simp only [Option.some.injEq, Prod.mk.injEq] at he
          obtain ⟨rfl, rfl, rfl⟩ := he
          have hv := ev_sound h hs hc
          have : sz2 = sz' := by
            rw [RV_ref] at hv
            obtain ⟨nd, h1, h2, _⟩ := hv
            rw [hn] at h1
            injection h1 with h1
            subst h1
            exact h2
          subst this
          obtain ⟨y', w', S', r1, r2, r3, r4, r5⟩ := append_root (P := P) (ty := ty) hw ht hu' hz c1 c2 hn hv (srcV_sound hw h hc hsrc) c5
          refine ⟨y', w', S', r1, r2, r3, r5, fun id' p nd hno hq => ?_, fun b hb => ?_⟩
          · have hne : id' ≠ id := by
              rintro rfl
              exact hno ⟨_, List.mem_singleton_self _, rfl, Nat.zero_le _⟩
            refine ⟨r4 id' p (fun e => hne e.1), nd, ?_, rfl, rfl⟩
            rw [node_set (node_lt hn), if_neg hne]
            exact hq
          · exact r3.block b (hw.froz b hb) (fun ho => (hw.own_notF ho).1 hb)
        · cases he
      · cases he
    · cases he
  · cases he

theorem call_does {P : Program} {sp : Nat → Option Spec} (hsp : ∀ f s, sp f = some s → Meets P f s) {o : Oper} {a : Act} {w : World} {F : Nat → Prop} {S : Sh} {H : Hp} {σ : List (Nat × V)} {c0 : Bool} (hw : RW w F S H) (hg : GlobOk w F) {f : Nat} {xs : List V} {ys : List Value} {ks : List (Nat × Nat)} {z : Option V} {H' : Hp}
    (he : callE P sp c0 σ H f xs = some (ks, z, H')) (hl : ys.length = xs.length) (hr : ∀ (i : Nat) (c : V) (y : Value), xs[i]? = some c → ys[i]? = some y → RV w F S H c y)
    (hrun : callable P f = true → (execOp a.eval o).run P w = .ok (.enter f ys.toArray) w) : Does P o a w fun v w' => ∃ F' S', Step ks z w F S H v w' F' S' H' := by
  unfold callE at he
  split at he
  · rename_i s hs
    split at he
    · rename_i hcal
      split at he
      · rename_i z' H2 hf
        simp only [Option.some.injEq, Prod.mk.injEq] at he
        obtain ⟨rfl, rfl, rfl⟩ := he
        refine Does.enter (hrun hcal) ?_
        exact (hsp f s hs xs H z' H2 hf w F S ys hw hg hl hr)
      · cases he
    · cases he
  · cases he

/-- THE LAW OF ONE OPERATION. -/
theorem exec1_sound {P : Program} {sp : Nat → Option Spec} (hsp : ∀ f s, sp f = some s → Meets P f s) {ops : List Oper} {o : Oper} {a : Act} {w : World} {F : Nat → Prop} {S : Sh} {H : Hp} {σ : List (Nat × V)} {c0 : Bool} (hw : RW w F S H) (h : TR a w F S H σ) (hc : c0 = true) {ks : List (Nat × Nat)} {z : Option V} {H' : Hp}
    (he : exec1 P sp ops c0 σ H o = some (ks, z, H')) : Does P o a w fun v w' => ∃ F' S', Step ks z w F S H v w' F' S' H' := by
  obtain ⟨dst, op, type, pos, after, guard⟩ := o
  have flt : ∀ {o : Oper}, (match fltV P c0 σ H o with | some z => some (([] : List (Nat × Nat)), some z, H) | none => none) = some (ks, z, H') → Does P o a w fun v w' => ∃ F' S', Step ks z w F S H v w' F' S' H' := by
    intro o he
    split at he
    · rename_i z' hz
      simp only [Option.some.injEq, Prod.mk.injEq] at he
      obtain ⟨rfl, rfl, rfl⟩ := he
      obtain ⟨y, h1, h2⟩ := fltV_sound hw h hz hc
      exact Does.value h1 ⟨F, S, Step.same hw h2⟩
    · cases he
  unfold exec1 at he
  dsimp only at he
  split at he
  · -- assign nil
    split at he
    · rename_i e sz by' ht
      simp only [Option.some.injEq, Prod.mk.injEq] at he
      obtain ⟨rfl, rfl, rfl⟩ := he
      exact Does.value (y := .slice none 0 0) (w' := w) rfl ⟨F, _, nil_step hw sz⟩
    · cases he
  · -- alloc
    rename_i t
    split at he
    · rename_i row hz
      simp only [Option.some.injEq, Prod.mk.injEq] at he
      obtain ⟨rfl, rfl, rfl⟩ := he
      obtain ⟨w', S', h1, h2⟩ := alloc_step hw hz
      exact Does.value (by simp [execOp, h1]) ⟨F, S', h2⟩
    · cases he
  · -- box
    rename_i t x
    split at he
    · rename_i v hv
      split at he
      · rename_i hsh
        split at he
        · rename_i row hz
          simp only [Option.some.injEq, Prod.mk.injEq] at he
          obtain ⟨rfl, rfl, rfl⟩ := he
          have hvv := ev_sound h hv hc
          obtain ⟨w', S', h1, h2⟩ := box_step (P := P) hw hvv hz hsh (conv_one hvv hz hsh)
          exact Does.value (by simp [execOp, h1]) ⟨F, S', h2⟩
        · cases he
      · cases he
    · cases he
  · -- a literal of a slice
    rename_i t n parts
    split at he
    · rename_i e sz by' xs ht hin
      split at he
      · rename_i zs rows hz hr
        split at he
        · rename_i hcnd
          obtain ⟨c1, c2, c3⟩ := hcnd
          have hl : ∀ row ∈ rows, row.length = sz := fun row hrow => by
            have := List.all_eq_true.1 c3 row hrow
            simpa using this
          obtain ⟨arr, r1, r2, r3, r4⟩ := lit_run h hc ht hin c1 hr hl c2 hz
          have r4' : ∀ i k, i < rows.length → k < sz → ∃ y, arr[i * sz + k]? = some y ∧ RC0 w F (cellAt rows i k) y := fun i k hi hk => by
            obtain ⟨y, h1, h2, _⟩ := r4 i k hi hk
            exact ⟨y, h1, h2⟩
          have hrun : (execOp a.eval { dst := dst, op := .buildSlice t n parts, type := type, pos := pos, after := after, guard := guard }).run P w = .ok (.value (.slice (some ⟨w.heap.size, 0, none⟩) n n)) (w.alloc (.cells arr e)) := by simp [execOp, r1]
          split at he
          · simp only [Option.some.injEq, Prod.mk.injEq] at he
            obtain ⟨rfl, rfl, rfl⟩ := he
            obtain ⟨S', hs⟩ := lit_step hw e hl r2 r3 r4'
            exact Does.value hrun ⟨F, S', hs⟩
          · split at he
            · rename_i hcp
              simp only [Option.some.injEq, Prod.mk.injEq] at he
              obtain ⟨rfl, rfl, rfl⟩ := he
              obtain ⟨F', hs⟩ := frz_step hw e hl r2 r3 hcp r4'
              exact Does.value hrun ⟨F', S, hs⟩
            · cases he
        · cases he
      · cases he
    · cases he
  · -- make
    rename_i t l c
    split at he
    · rename_i e sz by' l' c' ht hl hcc
      split at he
      · rename_i row hz
        split at he
        · rename_i hcnd
          obtain ⟨c1, c2, c3, c4, c5⟩ := hcnd
          simp only [Option.some.injEq, Prod.mk.injEq] at he
          obtain ⟨rfl, rfl, rfl⟩ := he
          obtain ⟨kl, hkl⟩ := intOp_sound h hl hc
          obtain ⟨kc, hkc⟩ := intOp_sound h hcc hc
          obtain ⟨w', S', h1, h2⟩ := make_step hw ht hz c1 kl kc l' c' c2 c3 c4 c5
          exact Does.value (by simp [execOp, hkl, hkc, h1]) ⟨F, S', h2⟩
        · cases he
      · cases he
    · cases he
  · -- store
    rename_i t d x
    split at he
    · rename_i id p i k v hd hv
      split at he
      · rename_i hsh
        split at he
        · rename_i g n cs sz rows ht hcv hn
          split at he
          · rename_i hcnd
            obtain ⟨c1, c2, c3⟩ := hcnd
            simp only [Option.some.injEq, Prod.mk.injEq] at he
            obtain ⟨rfl, rfl, rfl⟩ := he
            obtain ⟨w', S', h1, h2⟩ := store_step (P := P) hw (ev_sound h hd hc) (ev_sound h hv hc) hn c2 ht hcv hsh c1 c3
            exact Does.skip (by simp [execOp, h1]) ⟨F, S', h2⟩
          · cases he
        · obtain ⟨rfl, w', S', h1, h2⟩ := moveE_sound (P := P) hw (ev_sound h hd hc) (ev_sound h hv hc) he
          exact Does.skip (by simp [execOp, h1]) ⟨F, S', h2⟩
      · cases he
    · cases he
  · -- append
    rename_i args argTypes
    split at he
    · rename_i s x t u h1 h2
      have e1 : args = #[s, x] := by rw [← h1]
      have e2 : argTypes = #[t, u] := by rw [← h2]
      subst e1; subst e2
      obtain ⟨y, w', S', r1, r2⟩ := append_step (ty := type) hw h hc he
      exact Does.value (by simp [execOp, resolve, invoke, builtin, r1]) ⟨F, S', r2⟩
    · cases he
  · -- copy
    rename_i args argTypes
    split at he
    · rename_i d x t u h1 h2
      have e1 : args = #[d, x] := by rw [← h1]
      have e2 : argTypes = #[t, u] := by rw [← h2]
      subst e1; subst e2
      obtain ⟨y, w', S', r1, r2⟩ := copy_step (u := u) (ty := type) hw h hc he
      exact Does.value (by simp [execOp, resolve, invoke, builtin, r1]) ⟨F, S', r2⟩
    · cases he
  · -- call
    rename_i f args argTypes
    split at he
    · rename_i xs hxs
      obtain ⟨g1, g2⟩ := evs_sound h hc hxs
      refine call_does hsp hw h.glob he g1 g2 (fun hcal => ?_)
      have := run_callFunc hcal (args.map a.eval) w
      have e : (List.map a.eval args.toList).toArray = args.map a.eval := by apply Array.ext'; simp
      rw [e]
      simp [execOp, resolve, Act.eval, Deferred.ofValue, invoke, this]
    · cases he
  · -- a closure's call
    rename_i t args argTypes
    split at he
    · rename_i f caps xs hf hxs
      obtain ⟨g1, g2⟩ := evs_sound h hc hxs
      have hv := ev_sound h hf hc
      simp only [RV, V.may?, RV3, V.tup?, RV2, V.agg?, RVc, V.clo?] at hv
      have hcaps : ∃ zs : List Value, a.eval (.tmp t) = .func (.func f) #[] zs.toArray ∧ caps.length = zs.length ∧ ∀ (i : Nat) (c : V) (y : Value), caps[i]? = some c → zs[i]? = some y → RV w F S H c y := by
        rcases hv with hv | ⟨zs, h1, h2, h3⟩
        · generalize a.eval (.tmp t) = Y at hv
          cases hv with
          | clo _ _ zs h1 h2 => exact ⟨zs, rfl, h1, fun i c y hcc hy => (h2 i c y hcc hy).toRV⟩
        · refine ⟨zs, h1, h2, fun i c y hcc hy => ?_⟩
          have := h3 i c y hcc hy
          cases c <;> simp only [RV1] at this <;> simp only [RV, V.may?, RV3, V.tup?, RV2, V.agg?, RVc, V.clo?, RV1] <;> first | exact this | exact this.elim
      obtain ⟨zs, hz, hzl, hzr⟩ := hcaps
      refine call_does (ys := args.toList.map a.eval ++ zs) hsp hw h.glob he (by simp only [List.length_append]; omega) (fun i c y hcc hy => ?_) (fun hcal => ?_)
      · by_cases hi : i < xs.length
        · rw [List.getElem?_append_left hi] at hcc
          rw [List.getElem?_append_left (by omega)] at hy
          exact g2 i c y hcc hy
        · rw [List.getElem?_append_right (by omega)] at hcc
          rw [List.getElem?_append_right (by omega), g1] at hy
          exact hzr _ c y hcc hy
      · have := run_callFunc hcal (args.map a.eval ++ zs.toArray) w
        have e : (List.map a.eval args.toList ++ zs).toArray = args.map a.eval ++ zs.toArray := by apply Array.ext'; simp
        rw [e]
        simp [execOp, resolve, hz, Deferred.ofValue, invoke, this]
    · cases he
  · -- a closure
    rename_i f first captured
    split at he
    · rename_i hfe
      split at he
      · rename_i caps hcaps
        split at he
        · rename_i hall
          simp only [Option.some.injEq, Prod.mk.injEq] at he
          obtain ⟨rfl, rfl, rfl⟩ := he
          obtain ⟨g1, g2⟩ := evs_sound h hc hcaps
          have hf0 : first = #[] := by simpa using hfe
          subst hf0
          refine Does.value (y := .func (.func f) #[] (captured.map a.eval)) (w' := w) (by simp [execOp, Instr.makeFunc]) ⟨F, S, Step.same hw ?_⟩
          simp only [RV, V.may?, RV3, V.tup?, RV2, V.agg?, RVc, V.clo?]
          refine .inr ⟨captured.toList.map a.eval, by congr 1; apply Array.ext'; simp, by omega, fun i c z hcc hz => ?_⟩
          have hv := g2 i c z hcc hz
          have hk := List.all_eq_true.1 hall c (List.mem_of_getElem? hcc)
          cases c <;> simp at hk <;> simpa only [RV, V.may?, RV3, V.tup?, RV2, V.agg?, RVc, V.clo?] using hv
        · cases he
      · cases he
    · cases he
  · -- a conversion
    rename_i sty dty x
    split at he
    · rename_i rows hrw
      simp only [Option.some.injEq, Prod.mk.injEq] at he
      obtain ⟨rfl, rfl, rfl⟩ := he
      cases hx : ev c0 σ x with
      | none => rw [hx] at hrw; simp [s2b] at hrw
      | some v =>
        rw [hx] at hrw
        obtain ⟨y, w', F', r1, r2, r3, r4, r5⟩ := s2b_sound hw (ev_sound h hx hc) hrw
        refine Does.value (y := y) (w' := w') (by simp [execOp, r1]) ⟨F', S, r2, r3, r4, fun id p nd _ hn => ⟨rfl, nd, hn, rfl, rfl⟩, r5⟩
    · split at he
      · rename_i zz hz
        simp only [Option.some.injEq, Prod.mk.injEq] at he
        obtain ⟨rfl, rfl, rfl⟩ := he
        cases hx : ev c0 σ x with
        | none => rw [hx] at hz; simp [sameB] at hz
        | some v =>
          rw [hx] at hz
          obtain ⟨w', r1, r2⟩ := mark_step (P := P) hw (ev_sound h hx hc) hz
          exact Does.value (y := a.eval x) (w' := w') (by simp [execOp, r1]) ⟨F, S, r2⟩
      · split at he
        · rename_i zz hz
          simp only [Option.some.injEq, Prod.mk.injEq] at he
          obtain ⟨rfl, rfl, rfl⟩ := he
          obtain ⟨y, r1, r2⟩ := b2s_sound (P := P) hw h hc hz
          exact Does.value (y := y) (w' := w) (by simp [execOp, r1]) ⟨F, S, Step.same hw r2⟩
        · exact flt he
  · exact flt he

end Go.Eng

namespace Go.Eng
open Go.RowKit
set_option linter.unusedSectionVars false
set_option linter.unusedVariables false
set_option linter.unusedSimpArgs false
variable [Globs]

theorem Step.comp {k1 k2 : List (Nat × Nat)} {z1 z2 : Option V} {w w1 w2 : World} {F F1 F2 : Nat → Prop} {S S1 S2 : Sh} {H H1 H2 : Hp} {v1 v2 : Value} (h : Step k1 z1 w F S H v1 w1 F1 S1 H1) (k : Step k2 z2 w1 F1 S1 H1 v2 w2 F2 S2 H2) : Step (k1 ++ k2) z2 w F S H v2 w2 F2 S2 H2 where
  rw := k.rw
  stp := h.stp.trans k.stp
  val := k.val
  kept id p nd hno hn := by
    obtain ⟨e1, nd1, e2, e3, e4⟩ := h.kept id p nd (fun ⟨q, hq, r⟩ => hno ⟨q, List.mem_append_left _ hq, r⟩) hn
    obtain ⟨f1, nd2, f2, f3, f4⟩ := k.kept id p nd1 (fun ⟨q, hq, r⟩ => hno ⟨q, List.mem_append_right _ hq, r⟩) e2
    exact ⟨f1.trans e1, nd2, f2, f3.trans e3, f4.trans e4⟩
  blk b hb := (k.blk b (h.stp.keeps b hb)).trans (h.blk b hb)

theorem Step.tr {ks : List (Nat × Nat)} {z : Option V} {w w' : World} {F F' : Nat → Prop} {S S' : Sh} {H H' : Hp} {v : Value} (h : Step ks z w F S H v w' F' S' H') {a : Act} {σ : List (Nat × V)} (ht : TR a w F S H σ) : TR a w' F' S' H' (kill ks σ) :=
  TR.kill h.blk h.stp.keeps (fun id p nd hno hn => h.kept id p nd hno hn) ht

theorem Taken.step {w : World} {F : Nat → Prop} {S S' : Sh} {H H' : Hp} (t : Taken w F S H S' H') {ks : List (Nat × Nat)} {z : Option V} {v : Value} (hz : match z with | some z => RV w F S' H' z v | none => True)
    (hk : ∀ id p nd, ¬ Killed ks id p → node H id p = some nd → S' id p = S id p ∧ ∃ nd', node H' id p = some nd' ∧ nd'.1 = nd.1 ∧ nd'.2.length = nd.2.length) : Step ks z w F S H v w F S' H' :=
  ⟨t.rw, t.stp, hz, hk, fun _ _ => rfl⟩

/-- An append to a root. -/
def appR (c0 : Bool) (σ : List (Nat × V)) (H : Hp) (id sz bytes : Nat) (rows : Rows) (x : Operand) : Option (List (Nat × Nat) × Nat × Hp) :=
  match srcV c0 σ H sz x with
  | some cs => if (rows.length + cs.length) * bytes ≤ 140737488355328 then some ([(id, 0)], cs.length, H.set id (some (sz, rows ++ cs))) else none
  | none => match ev c0 σ x with
    | some (.ref L [] sz3 0 m) => match node H L [] with
      | some (sz4, rowsL) => if sz3 = sz ∧ sz4 = sz ∧ m = rowsL.length ∧ L ≠ id ∧ allMoves rowsL = true ∧ (rows.length + rowsL.length) * bytes ≤ 140737488355328 then
          some ([(id, 0), (L, 0)], m, (H.set L none).set id (some (sz, rows ++ rowsL))) else none
      | none => none
    | _ => none

theorem appR_sound {P : Program} {a : Act} {w : World} {F : Nat → Prop} {S : Sh} {H : Hp} {σ : List (Nat × V)} {c0 : Bool} (hw : RW w F S H) (h : TR a w F S H σ) (hc : c0 = true) {t u ty e sz bytes : Nat} (ht : tslice P t = some (e, sz, bytes)) (hu : (∃ e', P.underlying u = some (.slice e')) ∨ P.underlying u = some .string)
    {zs : List Value} (hz : tzero P e = some zs) (hzl : zs.length = sz) (hbz : bytes ≠ 0) {id : Nat} {rows : Rows} {y1 : Value} {x : Operand} (hn : node H id [] = some (sz, rows)) (hy : RV w F S H (.ref id [] sz 0 rows.length) y1) {ks : List (Nat × Nat)} {m : Nat} {H' : Hp}
    (he : appR c0 σ H id sz bytes rows x = some (ks, m, H')) :
    ∃ y w' S', (Builtin.append_ #[t, u] ty #[y1, a.eval x]).run P w = .ok y w' ∧ Step ks (some (.ref id [] sz 0 (rows.length + m))) w F S H y w' F S' H' := by
  unfold appR at he
  split at he
  · rename_i cs hsrc
    split at he
    case isFalse => cases he
    rename_i hb
    simp only [Option.some.injEq, Prod.mk.injEq] at he
    obtain ⟨rfl, rfl, rfl⟩ := he
    obtain ⟨y', w', S', r1, r2, r3, r4, r5⟩ := append_root (P := P) (ty := ty) hw ht hu hz hzl hbz hn hy (srcV_sound hw h hc hsrc) hb
    refine ⟨y', w', S', r1, r2, r3, r5, fun id' p nd hno hq => ?_, fun b hb => ?_⟩
    · have hne : id' ≠ id := by
        rintro rfl
        exact hno ⟨_, List.mem_singleton_self _, rfl, Nat.zero_le _⟩
      refine ⟨r4 id' p (fun e => hne e.1), nd, ?_, rfl, rfl⟩
      rw [node_set (node_lt hn), if_neg hne]
      exact hq
    · exact r3.block b (hw.froz b hb) (fun ho => (hw.own_notF ho).1 hb)
  · split at he
    case h_2 => cases he
    rename_i L sz3 m' hx
    split at he
    case h_2 => cases he
    rename_i sz4 rowsL hnL
    split at he
    case isFalse => cases he
    rename_i hcnd
    obtain ⟨rfl, rfl, rfl, c4, c5, c6⟩ := hcnd
    simp only [Option.some.injEq, Prod.mk.injEq] at he
    obtain ⟨rfl, rfl, rfl⟩ := he
    obtain ⟨C0, g1, g2, g3⟩ := src_graft (P := P) hw (ev_sound h hx hc) hnL c5
    obtain ⟨y', w', S', r1, r2, r3, r4, r5⟩ := append_root (P := P) (ty := ty) hw ht hu hz hzl hbz hn hy g2 (by rw [g1]; exact c6)
    have hlt := node_lt hn
    have hblk : ∀ b, F b → w'.heap[b]? = w.heap[b]? := fun b hb => r3.block b (hw.froz b hb) (fun ho => (hw.own_notF ho).1 hb)
    have hn2 : node (H.set id (some (sz4, rows ++ C0))) id [] = some (sz4, rows ++ C0) := by rw [node_set hlt, if_pos rfl]; rfl
    have hL2 : node (H.set id (some (sz4, rows ++ C0))) L [] = some (sz4, rowsL) := by rw [node_set hlt, if_neg c4]; exact hnL
    obtain ⟨q1, q2, q3, q4, q5⟩ := r2.graft (fun e => c4 e.symm) hn2 hL2 g1 (fun i k hi hk => by
      rcases g3 i k hi hk with h1 | ⟨y, nd, h1, h2, h3⟩
      · exact .inl h1
      · exact .inr ⟨y, nd, h1, h2, RC.mono hblk (fun _ x => x) (r4 L _ (fun e => c4 e.1)) h3⟩)
    have hH : ((H.set id (some (sz4, rows ++ C0))).set L none).set id (some (sz4, rows ++ rowsL)) = (H.set L none).set id (some (sz4, rows ++ rowsL)) := by
      rw [List.set_comm _ _ c4, List.set_set]
      rw [List.set_comm _ _ c4]
    rw [hH] at q1 q2 q3 q5
    refine ⟨y', w', _, r1, q1, ⟨r3.os, r3.tape, r3.output, r3.size, r3.block, fun b hb => r3.own b (q2 b hb), r3.frozen, r3.keeps⟩, ?_, fun id' p nd hno hq => ?_, hblk⟩
    · show RV _ _ _ _ (.ref id [] sz4 0 (rows.length + rowsL.length)) _
      rw [RV_ref] at r5 ⊢
      obtain ⟨nd, v1, v2, v3, v4⟩ := r5
      rw [hn2] at v1
      injection v1 with v1
      subst v1
      refine ⟨_, q5, rfl, by simp, ?_⟩
      rw [q4]
      rw [g1] at v4
      exact v4
    · have hne : id' ≠ id := by
        rintro rfl
        exact hno ⟨(id', 0), by simp, rfl, Nat.zero_le _⟩
      have hneL : id' ≠ L := by
        rintro rfl
        exact hno ⟨(id', 0), by simp, rfl, Nat.zero_le _⟩
      have hq2 : node (H.set id (some (sz4, rows ++ C0))) id' p = some nd := by rw [node_set hlt, if_neg hne]; exact hq
      obtain ⟨w1, w2⟩ := q3 id' p nd hne hneL hq2
      exact ⟨w1.trans (r4 id' p (fun e => hne e.1)), nd, w2, rfl, rfl⟩

def appendM (P : Program) (c0 : Bool) (σ : List (Nat × V)) (H : Hp) (t u : Nat) (s x : Operand) : Option Eff :=
  match tslice P t, tslice P u with
  | some (e, sz, bytes), some _ => match tzero P e, ev c0 σ s with
    | some zs, some sv => if zs.length = sz ∧ bytes ≠ 0 ∧ shapeOk sv = true then match root1 H sv with
      | some (k1, .ref id [] sz' 0 n, H1) => match node H1 id [] with
        | some (sz2, rows) => if sz' = sz ∧ n = rows.length then match appR c0 (kill k1 σ) H1 id sz bytes rows x with
          | some (k2, m, H2) => some (k1 ++ k2, some (.ref id [] sz 0 (n + m)), H2)
          | none => none
          else none
        | none => none
      | some (k1, .v (.slice none 0 0), H1) => match appR c0 σ (H ++ [some (sz, [])]) H.length sz bytes [] x with
        | some (k2, m, H2) => some (k2, some (.ref H.length [] sz 0 m), H2)
        | none => none
      | _ => none
      else none
    | _, _ => none
  | _, _ => none

theorem appendM_sound {P : Program} {a : Act} {w : World} {F : Nat → Prop} {S : Sh} {H : Hp} {σ : List (Nat × V)} {c0 : Bool} (hw : RW w F S H) (h : TR a w F S H σ) (hc : c0 = true) {t u ty : Nat} {s x : Operand} {ks : List (Nat × Nat)} {z : Option V} {H' : Hp} (he : appendM P c0 σ H t u s x = some (ks, z, H')) :
    ∃ y w' S', (Builtin.append_ #[t, u] ty #[a.eval s, a.eval x]).run P w = .ok y w' ∧ Step ks z w F S H y w' F S' H' := by
  unfold appendM at he
  split at he
  case h_2 => cases he
  rename_i e sz bytes q ht hu
  obtain ⟨ue, us, ub⟩ := q
  have hu' : (∃ e', P.underlying u = some (.slice e')) ∨ P.underlying u = some .string := .inl ⟨_, (tslice_some hu).1⟩
  split at he
  case h_2 => cases he
  rename_i zs sv hz hs
  split at he
  case isFalse => cases he
  rename_i hcnd
  obtain ⟨c1, c2, c3⟩ := hcnd
  have hv := ev_sound h hs hc
  split at he
  case h_3 => cases he
  · rename_i k1 id sz' n H1 hr
    split at he
    case h_2 => cases he
    rename_i sz2 rows hn
    split at he
    case isFalse => cases he
    rename_i hcnd2
    obtain ⟨rfl, rfl⟩ := hcnd2
    split at he
    case h_2 => cases he
    rename_i k2 m H2 happ
    simp only [Option.some.injEq, Prod.mk.injEq] at he
    obtain ⟨rfl, rfl, rfl⟩ := he
    have hvc : RVc w F S H sv (a.eval s) := by
      simp only [shapeOk, Bool.and_eq_true, Option.isNone_iff_eq_none] at c3
      have h3 := RV.of3 c3.1 hv
      unfold RV3 at h3; rw [c3.2] at h3
      unfold RV2 at h3
      have : sv.agg? = none := by
        cases sv <;> first | rfl | (simp [root1] at hr; done)
      rw [this] at h3
      exact h3
    obtain ⟨S1, t1, v1, _, _, f1⟩ := root1_sound (Taken.refl hw) hvc hr
    have hst : Step k1 (none : Option V) w F S H undef w F S1 H1 := t1.step trivial f1
    have hv1 : RV w F S1 H1 (.ref id [] sz' 0 rows.length) (a.eval s) := v1
    have hsz : sz2 = sz' := by
      rw [RV_ref] at hv1
      obtain ⟨nd, h1, h2, _⟩ := hv1
      rw [hn] at h1
      injection h1 with h1
      subst h1
      exact h2
    subst hsz
    obtain ⟨y, w', S', r1, r2⟩ := appR_sound (P := P) (ty := ty) t1.rw (hst.tr h) hc ht hu' hz c1 c2 hn hv1 happ
    exact ⟨y, w', S', r1, hst.comp r2⟩
  · rename_i k1 H1 hr
    split at he
    case h_2 => cases he
    rename_i k2 m H2 happ
    simp only [Option.some.injEq, Prod.mk.injEq] at he
    obtain ⟨rfl, rfl, rfl⟩ := he
    have hsv : sv = .v (.slice none 0 0) := by
      unfold root1 at hr
      split at hr
      · split at hr
        · cases hr
        · split at hr
          · split at hr
            · split at hr <;> cases hr
            · cases hr
          · cases hr
      · split at hr
        · cases hr
        · split at hr
          · split at hr
            · split at hr <;> cases hr
            · cases hr
          · cases hr
      · cases hr
      · cases hr
      · cases hr
      · cases hr
      · simp only [Option.some.injEq, Prod.mk.injEq] at hr
        exact hr.2.1
    subst hsv
    have hy : a.eval s = .slice none 0 0 := plain_sound hv rfl
    have hs0 := nil_step hw sz
    have hn0 : node (H ++ [some (sz, [])]) H.length [] = some (sz, []) := by rw [node_append, if_pos rfl]; rfl
    have htr := hs0.tr h
    rw [show kill [] σ = σ from by simp [kill]] at htr
    obtain ⟨y, w', S', r1, r2⟩ := appR_sound (P := P) (ty := ty) (rows := []) hs0.rw htr hc ht hu' hz c1 c2 hn0 (by have := hs0.val; exact this) happ
    rw [hy]
    refine ⟨y, w', S', r1, ?_⟩
    have := hs0.comp r2
    simpa using this

end Go.Eng

namespace Go.Eng
open Go.RowKit
set_option linter.unusedSectionVars false
set_option linter.unusedVariables false
set_option linter.unusedSimpArgs false
variable [Globs]

theorem rows_ext {R R' : Rows} (h1 : R.length = R'.length) (h2 : ∀ i, i < R.length → (R.getD i []).length = (R'.getD i []).length) (h3 : ∀ i k, i < R.length → k < (R.getD i []).length → cellAt R i k = cellAt R' i k) : R = R' := by
  apply List.ext_getElem h1
  intro i hi hi'
  have e1 : R.getD i [] = R[i] := getD_lt _ _ hi
  have e2 : R'.getD i [] = R'[i] := getD_lt _ _ hi'
  have hl := h2 i hi
  rw [e1, e2] at hl
  apply List.ext_getElem hl
  intro k hk hk'
  have h4 := h3 i k hi (by rw [e1]; exact hk)
  unfold cellAt at h4
  rw [e1, e2, getD_lt _ _ hk, getD_lt _ _ hk'] at h4
  exact h4

theorem root1_roots {H : Hp} {x x' : V} {ks : List (Nat × Nat)} {H' : Hp} (he : root1 H x = some (ks, x', H')) : rootsOnly x' ∧ x'.clo? = none := by
  refine ⟨?_, root1_clo he⟩
  intro id p hm
  unfold root1 at he
  split at he
  · split at he
    · simp only [Option.some.injEq, Prod.mk.injEq] at he; obtain ⟨_, rfl, _⟩ := he; simp [refsC, V.clo?, refs1] at hm; exact hm.2
    · split at he
      · split at he
        · split at he
          · simp only [Option.some.injEq, Prod.mk.injEq] at he; obtain ⟨_, rfl, _⟩ := he; simp [refsC, V.clo?, refs1] at hm; exact hm.2
          · cases he
        · cases he
      · cases he
  · split at he
    · simp only [Option.some.injEq, Prod.mk.injEq] at he; obtain ⟨_, rfl, _⟩ := he; simp [refsC, V.clo?, refs1] at hm; exact hm.2
    · split at he
      · split at he
        · split at he
          · simp only [Option.some.injEq, Prod.mk.injEq] at he; obtain ⟨_, rfl, _⟩ := he; simp [refsC, V.clo?, refs1] at hm; exact hm.2
          · cases he
        · cases he
      · cases he
  · cases he
  · cases he
  · cases he
  · cases he
  · rename_i h1 h2 h3 h4 h5 h6
    simp only [Option.some.injEq, Prod.mk.injEq] at he; obtain ⟨_, rfl, _⟩ := he
    cases x <;> first | exact absurd rfl (h1 _ _ _ _ _) | exact absurd rfl (h2 _ _ _ _) | exact absurd rfl (h3 _ _) | (simp [refsC, V.clo?, refs1] at hm)

theorem rootAll_roots : ∀ {xs : List V} {H : Hp} {ks : List (Nat × Nat)} {xs' : List V} {H' : Hp}, rootAll H xs = some (ks, xs', H') → ∀ x ∈ xs', rootsOnly x ∧ x.clo? = none
  | [], H, ks, xs', H', he, x, hx => by
    simp only [rootAll, Option.some.injEq, Prod.mk.injEq] at he
    obtain ⟨_, rfl, _⟩ := he
    cases hx
  | x0 :: xs, H, ks, xs', H', he, x, hx => by
    simp only [rootAll] at he
    split at he
    case h_2 => cases he
    rename_i k1 x1 H1 h1
    split at he
    case h_2 => cases he
    rename_i k2 xs2 H2 h2
    simp only [Option.some.injEq, Prod.mk.injEq] at he
    obtain ⟨rfl, rfl, rfl⟩ := he
    rcases List.mem_cons.1 hx with rfl | hx
    · exact root1_roots h1
    · exact rootAll_roots h2 x hx

def putRowsM (H : Hp) (id : Nat) : Nat → List (List V) → Hp
  | _, [] => H
  | i, cs :: C => putRowsM (putCells H id [] i 0 cs) id (i + 1) C

theorem dropAll_append : ∀ {l1 l2 : List Nat} {H : Hp}, dropAll (dropAll H l1) l2 = dropAll H (l1 ++ l2)
  | [], l2, H => rfl
  | a :: l1, l2, H => by simp only [dropAll, List.cons_append]; exact dropAll_append

theorem adoptRows {w : World} {F : Nat → Prop} {id sz : Nat} : ∀ (L : List (List V)) (Y : List (List Value)) (C : List (List V)) (S : Sh) (H : Hp) (r1 : Rows) (i0 : Nat),
    RW w F S H → node H id [] = some (sz, r1) → i0 + L.length ≤ r1.length → L.length = Y.length → L.length = C.length →
    (∀ (j : Nat) (xs : List V) (ys : List Value) (cs : List V), L[j]? = some xs → Y[j]? = some ys → C[j]? = some cs → xs.length = sz ∧ xs.length = ys.length ∧ xs.length = cs.length ∧
      (∀ (k : Nat) (c : V), (hold0s xs ys cs)[k]? = some c → cellAt r1 (i0 + j) k = c) ∧
      (∀ (k : Nat) (x : V) (y : Value) (c : V), xs[k]? = some x → ys[k]? = some y → cs[k]? = some c → HeldOK w F S H x y c)) →
    (L.flatMap heldAll).Nodup → id ∉ L.flatMap heldAll →
    ∃ S', RW w F S' (putRowsM (dropAll H (L.flatMap heldAll)) id i0 C) ∧ Stp w F S H w F S' (putRowsM (dropAll H (L.flatMap heldAll)) id i0 C) ∧ S' id [] = S id [] ∧
      (∀ id' q nd, id' ≠ id → node H id' q = some nd → id' ∉ L.flatMap heldAll → S' id' q = S id' q ∧ node (putRowsM (dropAll H (L.flatMap heldAll)) id i0 C) id' q = some nd) ∧
      ∃ r2, node (putRowsM (dropAll H (L.flatMap heldAll)) id i0 C) id [] = some (sz, r2) ∧ r2.length = r1.length ∧ (∀ i, i < r1.length → (r2.getD i []).length = (r1.getD i []).length) ∧
        (∀ i k, i < i0 ∨ i0 + L.length ≤ i → cellAt r2 i k = cellAt r1 i k) ∧ (∀ (j k : Nat) (cs : List V) (c : V), C[j]? = some cs → cs[k]? = some c → cellAt r2 (i0 + j) k = c)
  | [], Y, C, S, H, r1, i0, h, hn, hi, hl1, hl2, hr, hnd, hni => by
    have : C = [] := List.length_eq_zero_iff.1 hl2.symm
    subst this
    exact ⟨S, h, Stp.refl .., rfl, fun id' q nd _ hq _ => ⟨rfl, hq⟩, r1, hn, rfl, fun _ _ => rfl, fun _ _ _ => rfl, by simp⟩
  | xs :: L, [], _, _, _, _, _, _, _, _, h, _, _, _, _ => by simp at h
  | xs :: L, ys :: Y, [], _, _, _, _, _, _, _, _, h, _, _, _ => by simp at h
  | xs :: L, ys :: Y, cs :: C, S, H, r1, i0, h, hn, hi, hl1, hl2, hr, hnd, hni => by
    simp only [List.length_cons] at hi hl1 hl2
    simp only [List.flatMap_cons] at hnd hni ⊢
    obtain ⟨q1, q2, q3, q4, q5⟩ := hr 0 xs ys cs rfl rfl rfl
    obtain ⟨n1, n2, n3⟩ := List.nodup_append.1 hnd
    have hni1 : id ∉ heldAll xs := fun hm => hni (List.mem_append_left _ hm)
    have hni2 : id ∉ L.flatMap heldAll := fun hm => hni (List.mem_append_right _ hm)
    have hrn := h.nodes id [] _ hn
    have hrl := rowlen_of hrn (i := i0) (show i0 < r1.length by omega)
    simp only at hrl
    obtain ⟨S1, g1, g2, g3⟩ := adoptAll (p := []) (i := i0) xs ys cs S H r1 0 h hn (by omega) (by omega) q2 q3 (fun j c hc => by have := q4 j c hc; simpa using this) q5 n1 hni1
    have hnD : node (dropAll H (heldAll xs)) id [] = some (sz, r1) := by rw [node_dropAll, if_neg hni1]; exact hn
    obtain ⟨r2, u1, u2, u3, u4⟩ := node_putCells_self (cs := cs) (k := 0) hnD (show i0 < r1.length by omega) (by omega)
    have hS1 : S1 id [] = S id [] := (g3 id [] _ hn hni1 (by rintro ⟨_, k', r, _, _, e⟩; simp at e)).1
    have hex : ∀ id' q nd, id' ≠ id → node H id' q = some nd → id' ∉ heldAll xs → S1 id' q = S id' q ∧ node (putCells (dropAll H (heldAll xs)) id [] i0 0 cs) id' q = some nd := by
      intro id' q nd e hq hno
      exact ⟨(g3 id' q nd hq hno (fun ⟨e', _⟩ => e e')).1, by rw [node_putCells e, node_dropAll, if_neg hno]; exact hq⟩
    have hrn1 := g1.nodes id [] _ u1
    obtain ⟨S', m1, m2, m3, m4, r3, m5, m6, m7, m8, m9⟩ := adoptRows L Y C S1 (putCells (dropAll H (heldAll xs)) id [] i0 0 cs) r2 (i0 + 1) g1 u1 (by omega) (by omega) (by omega)
      (fun j xs' ys' cs' a1 a2 a3 => by
        obtain ⟨p1, p2, p3, p4, p5⟩ := hr (j + 1) xs' ys' cs' (by simpa using a1) (by simpa using a2) (by simpa using a3)
        refine ⟨p1, p2, p3, fun k c hc => ?_, fun k x y c b1 b2 b3 => (p5 k x y c b1 b2 b3).keep (fun _ _ => rfl) (fun id' nd' hx hnd' => ?_)⟩
        · rw [u4 _ _ (.inl (by omega)), ← p4 k c hc]
          congr 1; omega
        · have hm : id' ∈ heldAll xs' := List.mem_filterMap.2 ⟨x, List.mem_of_getElem? b1, hx⟩
          have hm2 : id' ∈ L.flatMap heldAll := List.mem_flatMap.2 ⟨xs', List.mem_of_getElem? a1, hm⟩
          have e1 : id' ≠ id := fun e => hni2 (e ▸ hm2)
          have e2 : id' ∉ heldAll xs := fun hm3 => n3 id' hm3 id' hm2 rfl
          obtain ⟨z1, z2⟩ := hex id' [] nd' e1 hnd' e2
          exact ⟨z2, z1⟩) n2 hni2
    have hfin : dropAll (putCells (dropAll H (heldAll xs)) id [] i0 0 cs) (L.flatMap heldAll) = putCells (dropAll H (heldAll xs ++ L.flatMap heldAll)) id [] i0 0 cs := by
      rw [dropAll_putCells hni2, dropAll_append]
    rw [hfin] at m1 m2 m4 m5
    have hr2l : ∀ i, i < r1.length → (r2.getD i []).length = (r1.getD i []).length := fun i hi' => by
      have a1 := rowlen_of hrn (i := i) hi'
      have a2 := rowlen_of hrn1 (i := i) (by simp only; omega)
      simp only at a1 a2
      rw [a1, a2]
    refine ⟨S', m1, g2.trans m2, m3.trans hS1, fun id' q nd e hq hno => ?_, r3, m5, by omega, fun i hi' => (m7 i (by omega)).trans (hr2l i hi'), fun i k hik => ?_, fun j k cs' c hj hk => ?_⟩
    · have e2 : id' ∉ heldAll xs := fun hm => hno (List.mem_append_left _ hm)
      obtain ⟨z1, z2⟩ := hex id' q nd e hq e2
      obtain ⟨y1, y2⟩ := m4 id' q nd e z2 (fun hm => hno (List.mem_append_right _ hm))
      exact ⟨y1.trans z1, y2⟩
    · simp only [List.length_cons] at hik
      rw [m8 i k (by omega), u4 i k (.inl (by omega))]
    · cases j with
      | zero =>
        simp only [List.getElem?_cons_zero, Option.some.injEq] at hj
        subst hj
        rw [m8 _ k (.inl (by omega))]
        have := u3 k c hk
        simpa using this
      | succ j =>
        rw [List.getElem?_cons_succ] at hj
        rw [← m9 j k cs' c hj hk]
        congr 1; omega

def rootRows (H : Hp) : List V → Option (List (Nat × Nat) × List (List V) × Hp)
  | [] => some ([], [], H)
  | v :: r => if shapeOk v then match rootAll H (flds v) with
    | some (k1, xs', H1) => match rootRows H1 r with
      | some (k2, L, H2) => some (k1 ++ k2, xs' :: L, H2)
      | none => none
    | none => none
    else none

theorem rootRows_sound {w : World} {F : Nat → Prop} {S0 : Sh} {H0 : Hp} : ∀ (vs : List V) (us : List Value) (S : Sh) (H : Hp) (ks : List (Nat × Nat)) (L : List (List V)) (H' : Hp), Taken w F S0 H0 S H → vs.length = us.length →
    (∀ (i : Nat) (x : V) (y : Value), vs[i]? = some x → us[i]? = some y → RV w F S0 H0 x y) → rootRows H vs = some (ks, L, H') →
    ∃ (S' : Sh) (Y : List (List Value)), Taken w F S H S' H' ∧ L.length = vs.length ∧ Y.length = vs.length ∧
      (∀ (j : Nat) (xs : List V) (ys : List Value), L[j]? = some xs → Y[j]? = some ys → xs.length = ys.length ∧ ∀ (i : Nat) (c : V) (z : Value), xs[i]? = some c → ys[i]? = some z → RVc w F S' H' c z) ∧
      (∀ (j : Nat) (ys : List Value) (y : Value), Y[j]? = some ys → us[j]? = some y → (∀ z ∈ ys, z.oneCell' = true) → y.cells.toList = ys) ∧
      (∀ id p nd, ¬ Killed ks id p → node H id p = some nd → S' id p = S id p ∧ ∃ nd', node H' id p = some nd' ∧ nd'.1 = nd.1 ∧ nd'.2.length = nd.2.length)
  | [], us, S, H, ks, L, H', h, hl, hr, he => by
    simp only [rootRows, Option.some.injEq, Prod.mk.injEq] at he
    obtain ⟨rfl, rfl, rfl⟩ := he
    exact ⟨S, [], Taken.refl h.rw, rfl, rfl, by simp, by simp, fun id p nd _ hn => ⟨rfl, nd, hn, rfl, rfl⟩⟩
  | v :: vs, [], _, _, _, _, _, _, hl, _, _ => by simp at hl
  | v :: vs, u :: us, S, H, ks, L, H', h, hl, hr, he => by
    simp only [rootRows] at he
    split at he
    case isFalse => cases he
    rename_i hsh
    split at he
    case h_2 => cases he
    rename_i k1 xs1 H1 h1
    split at he
    case h_2 => cases he
    rename_i k2 L2 H2 h2
    simp only [Option.some.injEq, Prod.mk.injEq] at he
    obtain ⟨rfl, rfl, rfl⟩ := he
    obtain ⟨ys, l1, l2, l3⟩ := fldsV (hr 0 v u rfl rfl) hsh
    obtain ⟨S1, t1, m1, m2, m3, m4⟩ := rootAll_sound _ ys S H k1 xs1 H1 h l1 l2 h1
    obtain ⟨S2, Y, t2, n1, n2, n3, n4, n5⟩ := rootRows_sound vs us S1 H1 k2 L2 H2 (h.trans t1) (by simpa using hl) (fun i x y a b => hr (i + 1) x y (by simpa using a) (by simpa using b)) h2
    refine ⟨S2, ys :: Y, t1.trans t2, by simp [n1], by simp [n2], fun j xs ys' a b => ?_, fun j ys' y a b => ?_, fun id p nd hno hn => ?_⟩
    · cases j with
      | zero =>
        simp only [List.getElem?_cons_zero, Option.some.injEq] at a b
        subst a; subst b
        refine ⟨by omega, fun i c z hc hz => RVc.taken t2 (m2 i c z hc hz) (fun id p hm => ?_)⟩
        obtain ⟨r1, r2⟩ := rootAll_roots h1 c (List.mem_of_getElem? hc)
        obtain rfl := r1 id p hm
        obtain ⟨nd, hnd⟩ := RVc.hasNode (m2 i c z hc hz) r2 hm
        exact t2.root id nd hnd
      | succ j => exact n3 j xs ys' (by simpa using a) (by simpa using b)
    · cases j with
      | zero =>
        simp only [List.getElem?_cons_zero, Option.some.injEq] at a b
        subst a; subst b
        exact l3
      | succ j => exact n4 j ys' y (by simpa using a) (by simpa using b)
    · obtain ⟨e1, nd1, e2, e3, e4⟩ := m4 id p nd (fun ⟨k, hk, h⟩ => hno ⟨k, List.mem_append_left _ hk, h⟩) hn
      obtain ⟨g1, nd2, g2, g3, g4⟩ := n5 id p nd1 (fun ⟨k, hk, h⟩ => hno ⟨k, List.mem_append_right _ hk, h⟩) e2
      exact ⟨g1.trans e1, nd2, g2, g3.trans e3, g4.trans e4⟩

def rowsM (H : Hp) (ss : List (Option Nat)) : List (List V) → Option (List (List V))
  | [] => some []
  | xs :: L => match cellsM H ss xs, rowsM H ss L with
    | some cs, some C => some (cs :: C)
    | _, _ => none

theorem rowsM_get {H : Hp} {ss : List (Option Nat)} : ∀ {L C : List (List V)}, rowsM H ss L = some C → L.length = C.length ∧ ∀ (j : Nat) (xs cs : List V), L[j]? = some xs → C[j]? = some cs → cellsM H ss xs = some cs
  | [], C, h => by simp only [rowsM, Option.some.injEq] at h; subst h; simp
  | xs :: L, C, h => by
    simp only [rowsM] at h
    split at h
    · rename_i cs C' h1 h2
      injection h with h
      subst h
      obtain ⟨g1, g2⟩ := rowsM_get h2
      refine ⟨by simp [g1], fun j xs' cs' a b => ?_⟩
      cases j with
      | zero => simp only [List.getElem?_cons_zero, Option.some.injEq] at a b; subst a; subst b; exact h1
      | succ j => exact g2 j xs' cs' (by simpa using a) (by simpa using b)
    · cases h

end Go.Eng

namespace Go.Eng
open Go.RowKit
set_option linter.unusedSectionVars false
set_option linter.unusedVariables false
set_option linter.unusedSimpArgs false
variable [Globs]

theorem lit_run2 {P : Program} {a : Act} {w : World} {F : Nat → Prop} {t e sz bytes : Nat} (ht : tslice P t = some (e, sz, bytes)) {n : Nat} {parts : Array (Nat × Operand)} {xs : List Operand} {rows : Rows}
    (hp : inOrder 0 parts.toList = some xs) (hn : xs.length = n) (hl : ∀ row ∈ rows, row.length = sz) (hsm : n * sz ≤ 16777216) {zs : List Value} (hz : tzero P e = some zs)
    (g1 : rows.length = xs.length) (g2 : ∀ v ∈ xs.map a.eval, v.cells.size = sz)
    (g3 : ∀ (i : Nat) (row : List V) (y : Value), rows[i]? = some row → (xs.map a.eval)[i]? = some y → ∀ (k : Nat) (c : V) (z : Value), row[k]? = some c → y.cells.toList[k]? = some z → RC0 w F c z ∧ z.oneCell' = true) :
    ∃ arr, (Instr.buildSlice t n (parts.map fun (i, x) => (i, a.eval x))).run P w = .ok (.slice (some ⟨w.heap.size, 0, none⟩) n n) (w.alloc (.cells arr e)) ∧ arr.size = n * sz ∧ rows.length = n ∧
      ∀ i k, i < rows.length → k < sz → ∃ y, arr[i * sz + k]? = some y ∧ RC0 w F (cellAt rows i k) y ∧ y.oneCell' = true := by
  obtain ⟨hu, i', hi', rfl, _⟩ := tslice_some ht
  obtain ⟨i2, z, h1, h2, h3⟩ := tzero_some hz
  rw [hi'] at h1
  injection h1 with h1
  subst h1
  let A0 : Array Value := (Array.range (n * i'.size)).map (fun x => (if n * i'.size = 0 then (#[] : Array Value) else z.cells)[x % (if n * i'.size = 0 then (#[] : Array Value) else z.cells).size]!)
  have hA0 : A0.size = n * i'.size := by simp [A0]
  obtain ⟨B, e1, e2, e3, e4⟩ := fill_seq i'.size (xs.map a.eval) 0 A0 (by rw [hA0]; simp [hn]) g2
  have hparts : (parts.map fun (i, x) => (i, a.eval x)).toList = ((xs.map a.eval).zipIdx 0).map fun (v, i) => (i, v) := by
    rw [Array.toList_map, inOrder_some hp, List.map_map, List.zipIdx_map, List.map_map]
    rfl
  refine ⟨B, ?_, by rw [e2, hA0], by rw [g1, hn], fun i k hi hk => ?_⟩
  · exact run_buildSlice hu hi' h2 w n _ B hsm (by rw [hparts]; exact e1)
  · have hrow := List.getElem?_eq_getElem hi
    have hk' : k < (rows[i]).length := by rw [hl _ (List.getElem_mem hi)]; exact hk
    have hi2 : i < (xs.map a.eval).length := by simp; omega
    have hy := List.getElem?_eq_getElem hi2
    have hcs := g2 _ (List.getElem_mem hi2)
    have hk2 : k < ((xs.map a.eval)[i]).cells.toList.length := by rw [Array.length_toList, hcs]; exact hk
    have hc := g3 i _ _ hrow hy k _ _ (List.getElem?_eq_getElem hk') (List.getElem?_eq_getElem hk2)
    have hB := e4 i _ hy k hk
    rw [Nat.zero_add] at hB
    refine ⟨((xs.map a.eval)[i]).cells.toList[k], ?_, ?_⟩
    · rw [hB]
      rw [← Array.getElem?_toList]
      exact List.getElem?_eq_getElem hk2
    · have e : cellAt rows i k = rows[i][k] := by
        unfold cellAt
        have e0 : rows.getD i [] = rows[i] := getD_lt _ _ hi
        rw [e0, getD_lt _ _ hk']
      rw [e]
      exact hc

def hold0ss : List (List V) → List (List Value) → List (List V) → Rows
  | xs :: L, ys :: Y, cs :: C => hold0s xs ys cs :: hold0ss L Y C
  | _, _, _ => []

theorem hold0ss_get : ∀ {L : List (List V)} {Y : List (List Value)} {C : List (List V)}, L.length = Y.length → L.length = C.length →
    (hold0ss L Y C).length = L.length ∧ ∀ (j : Nat) (xs : List V) (ys : List Value) (cs : List V), L[j]? = some xs → Y[j]? = some ys → C[j]? = some cs → (hold0ss L Y C)[j]? = some (hold0s xs ys cs)
  | [], _, _, _, _ => by simp [hold0ss]
  | xs :: L, [], _, h, _ => by simp at h
  | xs :: L, ys :: Y, [], _, h => by simp at h
  | xs :: L, ys :: Y, cs :: C, h1, h2 => by
    obtain ⟨g1, g2⟩ := hold0ss_get (L := L) (Y := Y) (C := C) (by simpa using h1) (by simpa using h2)
    refine ⟨by simp [hold0ss, g1], fun j xs' ys' cs' a b c => ?_⟩
    cases j with
    | zero =>
      simp only [List.getElem?_cons_zero, Option.some.injEq] at a b c
      subst a; subst b; subst c
      rfl
    | succ j =>
      simp only [List.getElem?_cons_succ] at a b c
      simp only [hold0ss, List.getElem?_cons_succ]
      exact g2 j xs' ys' cs' a b c

theorem node_putRowsM {id : Nat} : ∀ {C : List (List V)} {H : Hp} {i id' : Nat} {q : Path}, id' ≠ id → node (putRowsM H id i C) id' q = node H id' q
  | [], H, i, id', q, _ => rfl
  | cs :: C, H, i, id', q, h => by rw [putRowsM, node_putRowsM h, node_putCells h]

theorem dropAll_concat {x : Nd} : ∀ {ids : List Nat} {H : Hp}, (∀ i ∈ ids, i < H.length) → dropAll (H ++ [x]) ids = dropAll H ids ++ [x]
  | [], H, _ => rfl
  | a :: r, H, h => by
    simp only [dropAll]
    rw [List.set_append_left _ _ (h a (List.mem_cons_self ..)), dropAll_concat (fun i hi => by simpa using h i (List.mem_cons_of_mem _ hi))]

/-- A new object whose rows take references along. -/
theorem newRows {w w' : World} {F : Nat → Prop} {S1 S2 : Sh} {H1 : Hp} {sz : Nat} {L : List (List V)} {Y : List (List Value)} {C : List (List V)} {z : V} {v : Value} (hw1 : RW w F S1 H1)
    (hs : Step [] (some z) w F S1 H1 v w' F S2 (H1 ++ [some (sz, hold0ss L Y C)])) (hl1 : L.length = Y.length) (hl2 : L.length = C.length)
    (hr : ∀ (j : Nat) (xs : List V) (ys : List Value) (cs : List V), L[j]? = some xs → Y[j]? = some ys → C[j]? = some cs → xs.length = sz ∧ xs.length = ys.length ∧ xs.length = cs.length ∧
      (∀ (k : Nat) (x : V) (y : Value) (c : V), xs[k]? = some x → ys[k]? = some y → cs[k]? = some c → HeldOK w F S1 H1 x y c))
    (hnd : (L.flatMap heldAll).Nodup) (hrefs : ∀ id p, (id, p) ∈ refs z → id = H1.length ∧ p = []) :
    ∃ S3, Step ((L.flatMap heldAll).map fun a => (a, 0)) (some z) w F S1 H1 v w' F S3 (dropAll H1 (L.flatMap heldAll) ++ [some (sz, C)]) := by
  obtain ⟨r1, r2⟩ := hold0ss_get hl1 hl2
  have hheld : ∀ i ∈ L.flatMap heldAll, ∃ nd, node H1 i [] = some nd := by
    intro i hi
    obtain ⟨xs, hx1, hx2⟩ := List.mem_flatMap.1 hi
    obtain ⟨x, hx3, hx4⟩ := List.mem_filterMap.1 hx2
    obtain ⟨j, hj⟩ := List.mem_iff_getElem?.1 hx1
    obtain ⟨k, hk⟩ := List.mem_iff_getElem?.1 hx3
    have hjl : j < L.length := by
      rcases Nat.lt_or_ge j L.length with h | h
      · exact h
      · rw [List.getElem?_eq_none h] at hj; cases hj
    have hkl : k < xs.length := by
      rcases Nat.lt_or_ge k xs.length with h | h
      · exact h
      · rw [List.getElem?_eq_none h] at hk; cases hk
    obtain ⟨_, q2, q3, q4⟩ := hr j xs _ _ hj (List.getElem?_eq_getElem (by omega)) (List.getElem?_eq_getElem (by omega))
    obtain ⟨_, q5⟩ := q4 k x _ _ hk (List.getElem?_eq_getElem (by omega)) (List.getElem?_eq_getElem (by omega))
    rw [hx4] at q5
    obtain ⟨_, _, _, _, q6, _⟩ := q5
    exact ⟨_, q6⟩
  have hlt : ∀ i ∈ L.flatMap heldAll, i < H1.length := fun i hi => by obtain ⟨nd, h⟩ := hheld i hi; exact node_lt h
  have hni : H1.length ∉ L.flatMap heldAll := fun hm => Nat.lt_irrefl _ (hlt _ hm)
  have hn : node (H1 ++ [some (sz, hold0ss L Y C)]) H1.length [] = some (sz, hold0ss L Y C) := by rw [node_append, if_pos rfl]; rfl
  have hkept : ∀ id p nd, node H1 id p = some nd → S2 id p = S1 id p := fun id p nd hq => (hs.kept id p nd (by rintro ⟨k, hk, _⟩; cases hk) hq).1
  obtain ⟨S3, m1, m2, m3, m4, r3, m5, m6, m7, m8, m9⟩ := adoptRows (w := w') (F := F) (id := H1.length) (sz := sz) L Y C S2 (H1 ++ [some (sz, hold0ss L Y C)]) (hold0ss L Y C) 0 hs.rw hn (by omega) hl1 hl2
    (fun j xs ys cs a1 a2 a3 => by
      obtain ⟨q1, q2, q3, q4⟩ := hr j xs ys cs a1 a2 a3
      refine ⟨q1, q2, q3, fun k c hc => ?_, fun k x y c b1 b2 b3 => (q4 k x y c b1 b2 b3).keep hs.blk (fun id' nd' hx hnd' => ?_)⟩
      · have hrow := r2 j xs ys cs a1 a2 a3
        unfold cellAt
        rw [Nat.zero_add, List.getD_eq_getElem?_getD (l := hold0ss L Y C), hrow]
        simp only [Option.getD_some]
        rw [List.getD_eq_getElem?_getD, hc]
        rfl
      · exact ⟨by rw [node_append, if_neg (by have := node_lt hnd'; omega)]; exact hnd', hkept id' [] nd' hnd'⟩) hnd hni
  have hC : r3 = C := by
    have hrn := m1.nodes H1.length [] _ m5
    have hlen : r3.length = C.length := by omega
    refine rows_ext hlen (fun i hi => ?_) (fun i k hi hk => ?_)
    · rw [rowlen_of hrn (i := i) hi]
      have hiC : i < C.length := by omega
      obtain ⟨q1, q2, q3, _⟩ := hr i _ _ _ (List.getElem?_eq_getElem (show i < L.length by omega)) (List.getElem?_eq_getElem (show i < Y.length by omega)) (List.getElem?_eq_getElem hiC)
      rw [getD_lt _ _ hiC]
      simp only
      omega
    · have hiC : i < C.length := by omega
      obtain ⟨q1, q2, q3, _⟩ := hr i _ _ _ (List.getElem?_eq_getElem (show i < L.length by omega)) (List.getElem?_eq_getElem (show i < Y.length by omega)) (List.getElem?_eq_getElem hiC)
      rw [rowlen_of hrn (i := i) hi] at hk
      simp only at hk
      have hkC : k < (C[i]).length := by omega
      have := m9 i k _ _ (List.getElem?_eq_getElem hiC) (List.getElem?_eq_getElem hkC)
      rw [Nat.zero_add] at this
      rw [this]
      unfold cellAt
      have e0 : C.getD i [] = C[i] := getD_lt _ _ hiC
      rw [e0, getD_lt _ _ hkC]
  subst hC
  refine ⟨S3, Step.nodes_eq (H' := putRowsM (dropAll (H1 ++ [some (sz, hold0ss L Y r3)]) (L.flatMap heldAll)) H1.length 0 r3) ⟨m1, hs.stp.trans m2, ?_, fun id p nd hno hq => ?_, hs.blk⟩ (fun id p => ?_)⟩
  · refine RV.mono (fun _ _ => rfl) (fun _ x => x) hs.val (fun id p nd hm hq => ?_)
    obtain ⟨rfl, rfl⟩ := hrefs id p hm
    rw [hn] at hq
    injection hq with hq
    subst hq
    exact ⟨m3, _, m5, rfl, m6⟩
  · have hne : id ≠ H1.length := by have := node_lt hq; omega
    have hnh : id ∉ L.flatMap heldAll := fun hm => hno ⟨(id, 0), List.mem_map.2 ⟨id, hm, rfl⟩, rfl, Nat.zero_le _⟩
    have hq2 : node (H1 ++ [some (sz, hold0ss L Y r3)]) id p = some nd := by rw [node_append, if_neg hne]; exact hq
    obtain ⟨y1, y2⟩ := m4 id p nd hne hq2 hnh
    exact ⟨y1.trans (hkept id p nd hq), nd, y2, rfl, rfl⟩
  · by_cases e : id = H1.length
    · subst e
      obtain ⟨nd0, e1, e2⟩ := node_some m5
      simp only [nodeAt, Option.some.injEq] at e2
      subst e2
      have hl : (dropAll H1 (L.flatMap heldAll)).length = H1.length := length_dropAll
      rw [node_append, hl, if_pos rfl]
      unfold node
      rw [e1]
    · have hl : (dropAll H1 (L.flatMap heldAll)).length = H1.length := length_dropAll
      rw [node_putRowsM e, node_append, hl, if_neg e, node_dropAll, node_dropAll, node_append, if_neg e]

/-- A literal of a slice whose parts have references. -/
def litE (P : Program) (c0 : Bool) (σ : List (Nat × V)) (H : Hp) (t n : Nat) (parts : List (Nat × Operand)) : Option Eff :=
  match tslice P t, inOrder 0 parts with
  | some (e, sz, _), some xs => match tzero P e, evs c0 σ xs with
    | some _, some vs => match rootRows H vs with
      | some (ks, L, H1) => match rowsM H1 (tslots P e) L with
        | some C => if xs.length = n ∧ n * sz ≤ 16777216 ∧ (C.all fun r => r.length == sz) = true ∧ noDupB (L.flatMap heldAll) = true then
            some (ks ++ (L.flatMap heldAll).map (fun a => (a, 0)), some (.ref H1.length [] sz 0 n), dropAll H1 (L.flatMap heldAll) ++ [some (sz, C)]) else none
        | none => none
      | none => none
    | _, _ => none
  | _, _ => none

theorem litE_sound {P : Program} {a : Act} {w : World} {F : Nat → Prop} {S : Sh} {H : Hp} {σ : List (Nat × V)} {c0 : Bool} (hw : RW w F S H) (h : TR a w F S H σ) (hc : c0 = true) {t n : Nat} {parts : Array (Nat × Operand)} {ks : List (Nat × Nat)} {z : Option V} {H' : Hp} (he : litE P c0 σ H t n parts.toList = some (ks, z, H')) :
    ∃ y w' S', (Instr.buildSlice t n (parts.map fun (i, x) => (i, a.eval x))).run P w = .ok y w' ∧ Step ks z w F S H y w' F S' H' := by
  unfold litE at he
  split at he
  case h_2 => cases he
  rename_i e sz bytes xs ht hin
  split at he
  case h_2 => cases he
  rename_i zs vs hz hev
  split at he
  case h_2 => cases he
  rename_i k1 L H1 hrr
  split at he
  case h_2 => cases he
  rename_i C hC
  split at he
  case isFalse => cases he
  rename_i hcnd
  obtain ⟨c1, c2, c3, c4⟩ := hcnd
  simp only [Option.some.injEq, Prod.mk.injEq] at he
  obtain ⟨rfl, rfl, rfl⟩ := he
  obtain ⟨g1, g2⟩ := evs_sound h hc hev
  obtain ⟨S1, Y, t1, n1, n2, n3, n4, n5⟩ := rootRows_sound vs (xs.map a.eval) S H k1 L H1 (Taken.refl hw) g1.symm g2 hrr
  obtain ⟨m1, m2⟩ := rowsM_get hC
  have hCl : ∀ (j : Nat) (cs : List V), C[j]? = some cs → cs.length = sz := fun j cs hj => by
    have := List.all_eq_true.1 c3 cs (List.mem_of_getElem? hj)
    simpa using this
  have hvl : vs.length = xs.length := by simpa using g1.symm
  have hr : ∀ (j : Nat) (xs : List V) (ys : List Value) (cs : List V), L[j]? = some xs → Y[j]? = some ys → C[j]? = some cs → xs.length = sz ∧ xs.length = ys.length ∧ xs.length = cs.length ∧
      (∀ (k : Nat) (x : V) (y : Value) (c : V), xs[k]? = some x → ys[k]? = some y → cs[k]? = some c → HeldOK w F S1 H1 x y c) := by
    intro j xs' ys cs a1 a2 a3
    obtain ⟨q1, q2⟩ := n3 j xs' ys a1 a2
    obtain ⟨q3, q4⟩ := cellsM_sound (m2 j xs' cs a1 a3) q1 q2
    have := hCl j cs a3
    exact ⟨by omega, q1, q3, q4⟩
  obtain ⟨r1, r2⟩ := hold0ss_get (L := L) (Y := Y) (C := C) (by omega) m1
  have hrow : ∀ (i : Nat) (row : List V), (hold0ss L Y C)[i]? = some row → ∃ xs ys cs, L[i]? = some xs ∧ Y[i]? = some ys ∧ C[i]? = some cs ∧ row = hold0s xs ys cs := by
    intro i row hi
    have hil : i < L.length := by
      rcases Nat.lt_or_ge i (hold0ss L Y C).length with h | h
      · omega
      · rw [List.getElem?_eq_none h] at hi; cases hi
    have e1 := List.getElem?_eq_getElem hil
    have e2 := List.getElem?_eq_getElem (show i < Y.length by omega)
    have e3 := List.getElem?_eq_getElem (show i < C.length by omega)
    refine ⟨_, _, _, e1, e2, e3, ?_⟩
    rw [r2 i _ _ _ e1 e2 e3] at hi
    injection hi with hi
    exact hi.symm
  have hone : ∀ (i : Nat) (ys : List Value), Y[i]? = some ys → ys.length = sz ∧ ∀ z ∈ ys, z.oneCell' = true := by
    intro i ys hi
    have hil : i < Y.length := by
      rcases Nat.lt_or_ge i Y.length with h | h
      · exact h
      · rw [List.getElem?_eq_none h] at hi; cases hi
    obtain ⟨q1, q2, q3, q4⟩ := hr i _ ys _ (List.getElem?_eq_getElem (show i < L.length by omega)) hi (List.getElem?_eq_getElem (show i < C.length by omega))
    refine ⟨by omega, fun z hz => ?_⟩
    obtain ⟨k, hk⟩ := List.mem_iff_getElem?.1 hz
    have hkl : k < ys.length := by
      rcases Nat.lt_or_ge k ys.length with h | h
      · exact h
      · rw [List.getElem?_eq_none h] at hk; cases hk
    exact (q4 k _ z _ (List.getElem?_eq_getElem (by omega)) hk (List.getElem?_eq_getElem (by omega))).1
  have hcells : ∀ (i : Nat) (ys : List Value) (y : Value), Y[i]? = some ys → (xs.map a.eval)[i]? = some y → y.cells.toList = ys := fun i ys y h1 h2 => n4 i ys y h1 h2 (hone i ys h1).2
  have hrowlen : ∀ row ∈ hold0ss L Y C, row.length = sz := by
    intro row hr'
    obtain ⟨i, hi⟩ := List.mem_iff_getElem?.1 hr'
    obtain ⟨xs', ys, cs, e1, e2, e3, rfl⟩ := hrow i row hi
    obtain ⟨q1, q2, q3, _⟩ := hr i xs' ys cs e1 e2 e3
    rw [hold0s_length q2 q3]; exact q1
  obtain ⟨arr, b1, b2, b3, b4⟩ := lit_run2 (a := a) (w := w) (F := F) ht hin c1 hrowlen c2 hz (by omega)
    (fun v hv => by
      obtain ⟨i, hi⟩ := List.mem_iff_getElem?.1 hv
      have hil : i < xs.length := by
        rcases Nat.lt_or_ge i (xs.map a.eval).length with h | h
        · simpa using h
        · rw [List.getElem?_eq_none h] at hi; cases hi
      have hY := List.getElem?_eq_getElem (show i < Y.length by omega)
      rw [← Array.length_toList, hcells i _ v hY hi]
      exact (hone i _ hY).1)
    (fun i row y hi hy k c z hc' hz' => by
      obtain ⟨xs', ys, cs, e1, e2, e3, rfl⟩ := hrow i row hi
      obtain ⟨q1, q2, q3, q4⟩ := hr i xs' ys cs e1 e2 e3
      rw [hcells i ys y e2 hy] at hz'
      exact hold0s_RC0 q2 q3 q4 k c z hc' hz')
  obtain ⟨S2, hs⟩ := lit_step t1.rw e hrowlen b2 b3 (fun i k hi hk => by
    obtain ⟨y, h1, h2, _⟩ := b4 i k hi hk
    exact ⟨y, h1, h2⟩)
  obtain ⟨S3, hs3⟩ := newRows (sz := sz) t1.rw hs (by omega) m1 hr (noDup_nodup c4) (fun id p hm => by simp [refs, refs3, refs2, refsC, refs1, V.may?, V.tup?, V.agg?, V.clo?] at hm; exact hm)
  exact ⟨_, _, S3, b1, (t1.step (z := none) (v := undef) trivial n5).comp hs3⟩

/-- A new variable whose first value has references. -/
def boxM (P : Program) (c0 : Bool) (σ : List (Nat × V)) (H : Hp) (t : Nat) (x : Operand) : Option Eff :=
  match ev c0 σ x with
  | some v => match rootRows H [v] with
    | some (ks, [vs], H1) => match cellsM H1 (tslots P t) vs with
      | some cs => if noDupB (heldAll vs) = true then
          some (ks ++ (heldAll vs).map (fun a => (a, 0)), some (.ptr H1.length [] 0 0), dropAll H1 (heldAll vs) ++ [some (cs.length, [cs])]) else none
      | none => none
    | _ => none
  | none => none

theorem boxM_sound {P : Program} {a : Act} {w : World} {F : Nat → Prop} {S : Sh} {H : Hp} {σ : List (Nat × V)} {c0 : Bool} (hw : RW w F S H) (h : TR a w F S H σ) (hc : c0 = true) {t : Nat} {x : Operand} {ks : List (Nat × Nat)} {z : Option V} {H' : Hp} (he : boxM P c0 σ H t x = some (ks, z, H')) :
    ∃ y w' S', (Instr.box t (a.eval x)).run P w = .ok y w' ∧ Step ks z w F S H y w' F S' H' := by
  unfold boxM at he
  split at he
  case h_2 => cases he
  rename_i v hev
  split at he
  case h_2 => cases he
  rename_i k1 vs H1 hrr
  split at he
  case h_2 => cases he
  rename_i cs hcs
  split at he
  case isFalse => cases he
  rename_i c4
  simp only [Option.some.injEq, Prod.mk.injEq] at he
  obtain ⟨rfl, rfl, rfl⟩ := he
  obtain ⟨S1, Y, t1, n1, n2, n3, n4, n5⟩ := rootRows_sound [v] [a.eval x] S H k1 [vs] H1 (Taken.refl hw) rfl (fun i x' y hx hy => by
    cases i with
    | zero => simp only [List.getElem?_cons_zero, Option.some.injEq] at hx hy; subst hx; subst hy; exact ev_sound h hev hc
    | succ i => simp at hx) hrr
  match Y, n2 with
  | [ys], _ =>
    obtain ⟨q1, q2⟩ := n3 0 vs ys rfl rfl
    obtain ⟨q3, q4⟩ := cellsM_sound hcs q1 q2
    have hone : ∀ z ∈ ys, z.oneCell' = true := fun z hz => by
      obtain ⟨k, hk⟩ := List.mem_iff_getElem?.1 hz
      have hkl : k < ys.length := by
        rcases Nat.lt_or_ge k ys.length with h | h
        · exact h
        · rw [List.getElem?_eq_none h] at hk; cases hk
      exact (q4 k _ z _ (List.getElem?_eq_getElem (by omega)) hk (List.getElem?_eq_getElem (by omega))).1
    have hcells := n4 0 ys (a.eval x) rfl rfl hone
    have hl0 := hold0s_length (xs := vs) (ys := ys) (cs := cs) q1 q3
    have hsz : (a.eval x).cells.size = cs.length := by rw [← Array.length_toList, hcells]; omega
    obtain ⟨S2, hs⟩ := new_one t1.rw (row := hold0s vs ys cs) (cells := (a.eval x).cells) t (by omega) (fun i c z hc' hz' => by
      rw [hcells] at hz'
      exact hold0s_RC0 q1 q3 q4 i c z hc' hz')
    have hlen : (hold0s vs ys cs).length = cs.length := by omega
    rw [hlen] at hs
    obtain ⟨S3, hs3⟩ := newRows (sz := cs.length) (L := [vs]) (Y := [ys]) (C := [cs]) t1.rw hs rfl rfl (fun j xs' ys' cs' a1 a2 a3 => by
      cases j with
      | zero =>
        simp only [List.getElem?_cons_zero, Option.some.injEq] at a1 a2 a3
        subst a1; subst a2; subst a3
        exact ⟨by omega, q1, q3, q4⟩
      | succ j => simp at a1) (by simpa using noDup_nodup c4) (fun id p hm => by simp [refs, refs3, refs2, refsC, refs1, V.may?, V.tup?, V.agg?, V.clo?] at hm; exact hm)
    simp only [List.flatMap_cons, List.flatMap_nil, List.append_nil] at hs3
    refine ⟨_, _, S3, ?_, (t1.step (z := none) (v := undef) trivial n5).comp hs3⟩
    simp [Instr.box, newVar, newRow]

end Go.Eng

namespace Go.Eng
open Go.RowKit
set_option linter.unusedSectionVars false
set_option linter.unusedVariables false
set_option linter.unusedSimpArgs false
variable [Globs]

def shCut (S : Sh) (id off sz : Nat) : Sh := fun id' p =>
  if id' = id then
    match p with
    | [] => match S id [] with
      | some (b, o, cap) => some (b, o + off * sz, cap - off)
      | none => none
    | (a, k) :: r => S id ((off + a, k) :: r)
  else S id' p

theorem node_set_some {H : Hp} {id : Nat} {nd : Nat × Rows} (hlt : id < H.length) (id' : Nat) (p : Path) : node (H.set id (some nd)) id' p = if id' = id then nodeAt nd p else node H id' p := by
  unfold node
  by_cases e : id' = id
  · subst e
    rw [if_pos rfl, List.getElem?_set_self hlt]
  · rw [if_neg e, List.getElem?_set_ne (fun h => e h.symm)]

theorem RW.recut {w : World} {F : Nat → Prop} {S : Sh} {H : Hp} (h : RW w F S H) {id sz off n : Nat} {rows : Rows} (hn : node H id [] = some (sz, rows)) (hl : off + n ≤ rows.length) :
    RW w F (shCut S id off sz) (H.set id (some (sz, part rows off n))) := by
  have hlt := node_lt hn
  have hroot : H[id]? = some (some (sz, rows)) := by
    obtain ⟨nd0, e1, e2⟩ := node_some hn
    simp only [nodeAt, Option.some.injEq] at e2
    rw [e1, e2]
  have hS : ∀ id' q, id' ≠ id → shCut S id off sz id' q = S id' q := fun id' q e => by unfold shCut; rw [if_neg e]
  have hsub : ∀ a c r nd, nodeAt (sz, part rows off n) ((a, c) :: r) = some nd → node H id ((off + a, c) :: r) = some nd := fun a c r nd hq => node_mk hroot (nodeAt_part hl hq)
  have hnodes : ∀ id' q nd, node (H.set id (some (sz, part rows off n))) id' q = some nd → (id' ≠ id ∧ node H id' q = some nd) ∨ (id' = id ∧ nodeAt (sz, part rows off n) q = some nd) := by
    intro id' q nd hq
    rw [node_set_some hlt] at hq
    split at hq
    · rename_i e; exact .inr ⟨e, hq⟩
    · rename_i e; exact .inl ⟨e, hq⟩
  have hown : ∀ q nd b o cap, nodeAt (sz, part rows off n) q = some nd → shCut S id off sz id q = some (b, o, cap) →
      ∃ q1 nd1 o1 c1, node H id q1 = some nd1 ∧ S id q1 = some (b, o1, c1) ∧ (match q with | [] => q1 = [] | (a, c) :: r => q1 = (off + a, c) :: r) := by
    intro q nd b o cap hq hs
    unfold shCut at hs
    rw [if_pos rfl] at hs
    cases q with
    | nil =>
      simp only at hs
      split at hs
      · rename_i b' o' cap' hs'
        simp only [Option.some.injEq, Prod.mk.injEq] at hs
        obtain ⟨rfl, _, _⟩ := hs
        exact ⟨[], _, _, _, hn, hs', rfl⟩
      · cases hs
    | cons x r =>
      obtain ⟨a, c⟩ := x
      exact ⟨_, _, _, _, hsub a c r nd hq, hs, rfl⟩
  refine ⟨fun id' q nd hq => ?_, fun id1 q1 nd1 id2 q2 nd2 b o1 c1 o2 c2 hq1 hq2 hs1 hs2 => ?_, h.froz⟩
  · rcases hnodes id' q nd hq with ⟨e, hz⟩ | ⟨rfl, hz⟩
    · exact RN.mono (fun _ _ => rfl) (fun _ h => h) (hS id' q e) (fun _ _ _ _ => hS _ _ e) (fun _ _ => ⟨rfl, fun h => h⟩) (h.nodes id' q nd hz)
    · cases q with
      | nil =>
        simp only [nodeAt, Option.some.injEq] at hz
        subst hz
        refine RN.part (fun _ _ => rfl) (fun _ h => h) ?_ (fun a c => ?_) (fun _ _ => ⟨rfl, fun h => h⟩) hl (h.nodes id' _ _ hn)
        · unfold shCut; rw [if_pos rfl]; try (cases S id' [] <;> rfl)
        · unfold shCut; rw [if_pos rfl]; try rfl
      | cons x r =>
        obtain ⟨a, c⟩ := x
        refine RN.mono (fun _ _ => rfl) (fun _ h => h) ?_ (fun a' c' _ _ => ?_) (fun _ _ => ⟨rfl, fun h => h⟩) (h.nodes id' _ _ (hsub a c r nd hz))
        · unfold shCut; rw [if_pos rfl]
        · unfold shCut; rw [if_pos rfl]
          simp
  · rcases hnodes id1 q1 nd1 hq1 with ⟨e1, hz1⟩ | ⟨rfl, hz1⟩ <;> rcases hnodes id2 q2 nd2 hq2 with ⟨e2, hz2⟩ | ⟨rfl, hz2⟩
    · rw [hS _ _ e1] at hs1
      rw [hS _ _ e2] at hs2
      exact h.inj id1 q1 nd1 id2 q2 nd2 b o1 c1 o2 c2 hz1 hz2 hs1 hs2
    · exfalso
      rw [hS _ _ e1] at hs1
      obtain ⟨q', nd', o', c', k1, k2, _⟩ := hown q2 nd2 b o2 c2 hz2 hs2
      exact e1 (h.inj _ _ _ _ _ _ b _ _ _ _ hz1 k1 hs1 k2).1
    · exfalso
      rw [hS _ _ e2] at hs2
      obtain ⟨q', nd', o', c', k1, k2, _⟩ := hown q1 nd1 b o1 c1 hz1 hs1
      exact e2 (h.inj _ _ _ _ _ _ b _ _ _ _ hz2 k1 hs2 k2).1
    · obtain ⟨p1, _, _, _, k1, k2, k3⟩ := hown q1 nd1 b o1 c1 hz1 hs1
      obtain ⟨p2, _, _, _, l1, l2, l3⟩ := hown q2 nd2 b o2 c2 hz2 hs2
      obtain ⟨_, hp⟩ := h.inj _ _ _ _ _ _ b _ _ _ _ k1 l1 k2 l2
      refine ⟨rfl, ?_⟩
      cases q1 with
      | nil =>
        cases q2 with
        | nil => rfl
        | cons x r => simp only at k3 l3; rw [k3, l3] at hp; cases hp
      | cons x r =>
        cases q2 with
        | nil => simp only at k3 l3; rw [k3, l3] at hp; cases hp
        | cons x' r' =>
          simp only at k3 l3
          rw [k3, l3] at hp
          simp only [List.cons.injEq, Prod.mk.injEq] at hp
          obtain ⟨⟨ha, hb⟩, hr⟩ := hp
          have : x = x' := Prod.ext (by omega) hb
          rw [this, hr]

/-- The step that cuts an object: nothing happens in the world. -/
theorem recut_step {w : World} {F : Nat → Prop} {S : Sh} {H : Hp} (h : RW w F S H) {id sz off n : Nat} {rows : Rows} (hn : node H id [] = some (sz, rows)) (hl : off + n ≤ rows.length) {y : Value} (hv : RV w F S H (.ref id [] sz off n) y) :
    Step [(id, 0)] (none : Option V) w F S H undef w F (shCut S id off sz) (H.set id (some (sz, part rows off n))) ∧ RV w F (shCut S id off sz) (H.set id (some (sz, part rows off n))) (.ref id [] sz 0 n) y := by
  have hlt := node_lt hn
  have hroot : H[id]? = some (some (sz, rows)) := by
    obtain ⟨nd0, e1, e2⟩ := node_some hn
    simp only [nodeAt, Option.some.injEq] at e2
    rw [e1, e2]
  refine ⟨⟨h.recut hn hl, ⟨rfl, rfl, rfl, Nat.le_refl _, fun _ _ _ => rfl, fun b hb => .inl ?_, fun _ hb => .inl hb, fun _ hb => hb⟩, trivial, fun id' p nd hno hq => ?_, fun _ _ => rfl⟩, ?_⟩
  · obtain ⟨id', q, nd, o, cap, h1, h2⟩ := hb
    rw [node_set_some hlt] at h1
    unfold shCut at h2
    split at h1
    · rename_i e
      subst e
      rw [if_pos rfl] at h2
      cases q with
      | nil =>
        simp only at h2
        split at h2
        · rename_i b' o' cap' hs'
          simp only [Option.some.injEq, Prod.mk.injEq] at h2
          obtain ⟨rfl, _, _⟩ := h2
          exact ⟨_, _, _, _, _, hn, hs'⟩
        · cases h2
      | cons x r => exact ⟨_, _, _, _, _, node_mk hroot (nodeAt_part hl h1), h2⟩
    · rename_i e
      rw [if_neg e] at h2
      exact ⟨_, _, _, _, _, h1, h2⟩
  · have hne : id' ≠ id := by
      rintro rfl
      exact hno ⟨(id', 0), List.mem_singleton_self _, rfl, Nat.zero_le _⟩
    refine ⟨?_, nd, ?_, rfl, rfl⟩
    · unfold shCut; rw [if_neg hne]
    · rw [node_set_some hlt, if_neg hne]; exact hq
  · rw [RV_ref] at hv ⊢
    obtain ⟨nd, h1, h2, h3, h4⟩ := hv
    rw [hn] at h1
    injection h1 with h1
    subst h1
    refine ⟨(sz, part rows off n), by rw [node_set_some hlt, if_pos rfl]; rfl, rfl, by simp only; rw [length_part hl]; omega, ?_⟩
    unfold shCut
    rw [if_pos rfl]
    simp only
    cases hs : S id [] with
    | none => rw [hs] at h4; exact h4
    | some q =>
      obtain ⟨b, o, cap⟩ := q
      rw [hs] at h4
      obtain ⟨a, rfl, ha⟩ := h4
      exact ⟨a, by simp, fun hlt => by rw [ha (by omega)]; simp⟩

/-- What is appended to an object that was cut. -/
def appendC (P : Program) (c0 : Bool) (σ : List (Nat × V)) (H : Hp) (t u : Nat) (s x : Operand) : Option Eff :=
  match tslice P t, tslice P u with
  | some (e, sz, bytes), some _ => match tzero P e, ev c0 σ s with
    | some zs, some (.ref id [] sz' off n) => match node H id [] with
      | some (sz2, rows) => if zs.length = sz ∧ bytes ≠ 0 ∧ sz' = sz ∧ sz2 = sz ∧ off + n ≤ rows.length then
          match appR c0 (kill [(id, 0)] σ) (H.set id (some (sz, part rows off n))) id sz bytes (part rows off n) x with
          | some (k2, m, H2) => some ((id, 0) :: k2, some (.ref id [] sz 0 (n + m)), H2)
          | none => none
        else none
      | none => none
    | _, _ => none
  | _, _ => none

theorem appendC_sound {P : Program} {a : Act} {w : World} {F : Nat → Prop} {S : Sh} {H : Hp} {σ : List (Nat × V)} {c0 : Bool} (hw : RW w F S H) (h : TR a w F S H σ) (hc : c0 = true) {t u ty : Nat} {s x : Operand} {ks : List (Nat × Nat)} {z : Option V} {H' : Hp} (he : appendC P c0 σ H t u s x = some (ks, z, H')) :
    ∃ y w' S', (Builtin.append_ #[t, u] ty #[a.eval s, a.eval x]).run P w = .ok y w' ∧ Step ks z w F S H y w' F S' H' := by
  unfold appendC at he
  split at he
  case h_2 => cases he
  rename_i e sz bytes q ht hu
  obtain ⟨ue, us, ub⟩ := q
  have hu' : (∃ e', P.underlying u = some (.slice e')) ∨ P.underlying u = some .string := .inl ⟨_, (tslice_some hu).1⟩
  split at he
  case h_2 => cases he
  rename_i zs id sz' off n hz hs
  split at he
  case h_2 => cases he
  rename_i sz2 rows hn
  split at he
  case isFalse => cases he
  rename_i hcnd
  obtain ⟨c1, c2, rfl, rfl, c3⟩ := hcnd
  split at he
  case h_2 => cases he
  rename_i k2 m H2 happ
  simp only [Option.some.injEq, Prod.mk.injEq] at he
  obtain ⟨rfl, rfl, rfl⟩ := he
  have hv := ev_sound h hs hc
  obtain ⟨hst, hv1⟩ := recut_step hw hn c3 hv
  have hl := length_part c3
  have hn1 : node (H.set id (some (sz2, part rows off n))) id [] = some (sz2, part rows off n) := by rw [node_set_some (node_lt hn), if_pos rfl]; rfl
  obtain ⟨y, w', S', r1, r2⟩ := appR_sound (P := P) (ty := ty) hst.rw (hst.tr h) hc ht hu' hz c1 c2 hn1 (by rw [hl]; exact hv1) happ
  refine ⟨y, w', S', r1, ?_⟩
  have := hst.comp r2
  rw [hl] at this
  exact this

end Go.Eng

namespace Go.Eng
open Go.RowKit
set_option linter.unusedSectionVars false
set_option linter.unusedVariables false
set_option linter.unusedSimpArgs false
variable [Globs]

def execM (P : Program) (c0 : Bool) (σ : List (Nat × V)) (H : Hp) (o : Oper) : Option Eff :=
  match o.op with
  | .store t d x => storeM P c0 σ H t d x
  | .call { callee := .builtin .append, args, argTypes } => match args.toList, argTypes.toList with
    | [s, x], [t, u] => match appendM P c0 σ H t u s x with
      | some r => some r
      | none => appendC P c0 σ H t u s x
    | _, _ => none
  | .buildSlice t n parts => litE P c0 σ H t n parts.toList
  | .box t x => boxM P c0 σ H t x
  | _ => none

def exec2 (P : Program) (sp : Nat → Option Spec) (ops : List Oper) (c0 : Bool) (σ : List (Nat × V)) (H : Hp) (o : Oper) : Option Eff :=
  match exec1 P sp ops c0 σ H o with
  | some r => some r
  | none => execM P c0 σ H o

theorem execM_sound {P : Program} {o : Oper} {a : Act} {w : World} {F : Nat → Prop} {S : Sh} {H : Hp} {σ : List (Nat × V)} {c0 : Bool} (hw : RW w F S H) (h : TR a w F S H σ) (hc : c0 = true) {ks : List (Nat × Nat)} {z : Option V} {H' : Hp}
    (he : execM P c0 σ H o = some (ks, z, H')) : Does P o a w fun v w' => ∃ F' S', Step ks z w F S H v w' F' S' H' := by
  obtain ⟨dst, op, type, pos, after, guard⟩ := o
  unfold execM at he
  dsimp only at he
  split at he
  · rename_i t d x
    obtain ⟨rfl, w', S', h1, h2⟩ := storeM_sound hw h hc he
    exact Does.skip (by simp [execOp, h1]) ⟨F, S', h2⟩
  · rename_i args argTypes
    split at he
    · rename_i s x t u h1 h2
      have e1 : args = #[s, x] := by rw [← h1]
      have e2 : argTypes = #[t, u] := by rw [← h2]
      subst e1; subst e2
      split at he
      · rename_i r hr
        injection he with he
        subst he
        obtain ⟨y, w', S', r1, r2⟩ := appendM_sound (ty := type) hw h hc hr
        exact Does.value (by simp [execOp, resolve, invoke, builtin, r1]) ⟨F, S', r2⟩
      · obtain ⟨y, w', S', r1, r2⟩ := appendC_sound (ty := type) hw h hc he
        exact Does.value (by simp [execOp, resolve, invoke, builtin, r1]) ⟨F, S', r2⟩
    · cases he
  · rename_i t n parts
    obtain ⟨y, w', S', r1, r2⟩ := litE_sound (P := P) hw h hc he
    exact Does.value (by simp [execOp, r1]) ⟨F, S', r2⟩
  · rename_i t x
    obtain ⟨y, w', S', r1, r2⟩ := boxM_sound (P := P) hw h hc he
    exact Does.value (by simp [execOp, r1]) ⟨F, S', r2⟩
  · cases he

theorem exec2_sound {P : Program} {sp : Nat → Option Spec} (hsp : ∀ f s, sp f = some s → Meets P f s) {ops : List Oper} {o : Oper} {a : Act} {w : World} {F : Nat → Prop} {S : Sh} {H : Hp} {σ : List (Nat × V)} {c0 : Bool} (hw : RW w F S H) (h : TR a w F S H σ) (hc : c0 = true) {ks : List (Nat × Nat)} {z : Option V} {H' : Hp}
    (he : exec2 P sp ops c0 σ H o = some (ks, z, H')) : Does P o a w fun v w' => ∃ F' S', Step ks z w F S H v w' F' S' H' := by
  unfold exec2 at he
  split at he
  · rename_i r hr
    injection he with he
    subst he
    exact exec1_sound hsp hw h hc hr
  · exact execM_sound hw h hc he

end Go.Eng

namespace Go.Eng
open Go.RowKit
set_option linter.unusedSectionVars false
set_option linter.unusedVariables false
set_option linter.unusedSimpArgs false
variable [Globs]

/-- Operations that change nothing. -/
def isFlt (o : Oper) : Bool :=
  match o.op with
  | .assign (.const (.slice _ _ _)) => false
  | .move _ | .assign _ | .pick _ _ _ | .binOp _ _ _ _ _ | .unOp _ _ _ | .convert _ _ _ | .slice _ _ _ _ _ | .load _ _ | .fieldAddr _ _ _ | .indexAddr _ _ _ | .field _ _ _ | .index _ _ _ | .nilCheck _ | .extract _ _ | .build _ _ => true
  | .call { callee := .builtin .len, .. } | .call { callee := .builtin .min, .. } | .call { callee := .builtin .max, .. } => true
  | _ => false

def boolOf : V → Option Bool
  | .v (.bool b) => some b
  | _ => none

def gB (c want : Bool) (r : Option Bool) : Option Bool :=
  match r with
  | some b => some (c && (b == want))
  | none => if c then none else some false

/-- What is not carried out needs no value. -/
def gIdx (g : Bool) (r : Option V) : Option V :=
  match r with
  | some z => some z
  | none => if g then none else some .dead

def noMay (z : V) : V := match z.may? with | none => z | some _ => .dead

/-- Is an operation with a guard carried out? -/
def gw (ops : List Oper) (σ : List (Nat × V)) (j : Nat) (want : Bool) : Option Bool :=
  match (ops[j]?).bind (·.dst) with
  | some t => match look σ t with
    | some (.v (.bool b)) => some (b == want)
    | some (.may c y) => gB c want (boolOf y)
    | _ => none
  | none => none

def putσ (N : Nat) (d : Option Nat) (z : V) (σ : List (Nat × V)) : Option (List (Nat × V)) :=
  match d with
  | some d => if d < N then some ((d, z) :: σ) else none
  | none => some σ

def put (N : Nat) (d : Option Nat) (z : V) (H : Hp) (σ : List (Nat × V)) : Option St :=
  match putσ N d z σ with
  | some σ => some ⟨σ, H⟩
  | none => none

/-- Of the caller's objects no more may be let go than is told. -/
def allowed (base : Nat) (ak ks : List (Nat × Nat)) : Bool := ks.all fun k => decide (base ≤ k.1) || ak.any fun q => q.1 == k.1 && decide (q.2 ≤ k.2)

/-- One operation of a region. -/
def stepOp (P : Program) (sp : Nat → Option Spec) (N : Nat) (base : Nat) (ak : List (Nat × Nat)) (ops : List Oper) (o : Oper) (st : St) : Option St :=
  match o.guard with
  | none => match exec2 P sp ops true st.σ st.H o with
    | some (ks, z, H') => if allowed base ak ks then put N o.dst (z.getD .dead) H' (kill ks st.σ) else none
    | none => none
  | some (j, want) => match gw ops st.σ j want with
    | some g => if isFlt o then
        match gIdx g (fltV P g st.σ st.H o) with
        | some z => put N o.dst (.may g (noMay z)) st.H st.σ
        | none => if g = true then
          match exec2 P sp ops true st.σ st.H o with
          | some (ks, z, H') => if allowed base ak ks then put N o.dst (z.getD .dead) H' (kill ks st.σ) else none
          | none => none
          else none
      else if g = true then
        match exec2 P sp ops true st.σ st.H o with
        | some (ks, z, H') => if allowed base ak ks then put N o.dst (z.getD .dead) H' (kill ks st.σ) else none
        | none => none
      else put N o.dst .dead st.H st.σ
    | none => none

def runOps (P : Program) (sp : Nat → Option Spec) (N : Nat) (base : Nat) (ak : List (Nat × Nat)) (ops : List Oper) : List Oper → St → Option St
  | [], st => some st
  | o :: r, st => match stepOp P sp N base ak ops o st with
    | some st' => runOps P sp N base ak ops r st'
    | none => none

section
variable {P : Program} {sp : Nat → Option Spec} {N : Nat} {base : Nat} {ak : List (Nat × Nat)} {w0 : World} {F0 : Nat → Prop} {S0 : Sh} {H0 : Hp}

theorem allowed_kept {ks : List (Nat × Nat)} (h : allowed H0.length ak ks = true) {id : Nat} {p : Path} (hlt : id < H0.length) (hk : ¬ Killed ak id p) : ¬ Killed ks id p := by
  rintro ⟨k, hk1, rfl, hk2⟩
  have := List.all_eq_true.1 h k hk1
  simp only [Bool.or_eq_true, decide_eq_true_eq, List.any_eq_true, Bool.and_eq_true, beq_iff_eq] at this
  rcases this with h1 | ⟨q, hq1, hq2, hq3⟩
  · omega
  · exact hk ⟨q, hq1, hq2, by omega⟩

theorem SR.put {st : St} {a : Act} {w w' : World} {F F' : Nat → Prop} {S S' : Sh} (h : SR N ak w0 F0 S0 H0 st a w F S) {ks : List (Nat × Nat)} {z : Option V} {v : Value} {H' : Hp} (hs : Step ks z w F S st.H v w' F' S' H') (hal : allowed H0.length ak ks = true) {d : Option Nat} {st' : St} (hp : Eng.put N d (z.getD .dead) H' (kill ks st.σ) = some st') :
    SR N ak w0 F0 S0 H0 st' (a.put d v) w' F' S' := by
  have htr : TR a w' F' S' H' (kill ks st.σ) := TR.kill hs.blk hs.stp.keeps (fun id p nd hno hn => hs.kept id p nd hno hn) h.tr
  have hkept : ∀ id p nd, ¬ Killed ak id p → node H0 id p = some nd → S' id p = S0 id p ∧ ∃ nd', node H' id p = some nd' ∧ nd'.1 = nd.1 ∧ nd'.2.length = nd.2.length := by
    intro id p nd hk hn
    obtain ⟨e1, nd1, e2, e3, e4⟩ := h.kept id p nd hk hn
    obtain ⟨f1, nd2, f2, f3, f4⟩ := hs.kept id p nd1 (allowed_kept hal (node_lt hn) hk) e2
    exact ⟨f1.trans e1, nd2, f2, f3.trans e3, f4.trans e4⟩
  have hval : RV w' F' S' H' (z.getD .dead) v := by
    cases z with
    | none => trivial
    | some z => exact hs.val
  unfold Eng.put at hp
  split at hp
  · rename_i σ hσ
    injection hp with hp
    subst hp
    unfold putσ at hσ
    cases d with
    | none =>
      simp only [Option.some.injEq] at hσ
      subst hσ
      exact ⟨hs.rw, htr, h.size, h.stp.trans hs.stp, hkept, h.defers⟩
    | some d =>
      simp only at hσ
      split at hσ
      · rename_i hd
        injection hσ with hσ
        subst hσ
        exact ⟨hs.rw, htr.put (by rw [h.size]; exact hd) hval, by rw [← h.size]; simp [put_tmps], h.stp.trans hs.stp, hkept, h.defers⟩
      · cases hσ
  · cases hp

theorem gw_sound {ops : Array Oper} {σ : List (Nat × V)} {H : Hp} {a : Act} {w : World} {F : Nat → Prop} {S : Sh} (h : TR a w F S H σ) {j : Nat} {want g : Bool} (hg : gw ops.toList σ j want = some g) : (yielded ops a.tmps j == some want) = g := by
  unfold gw at hg
  split at hg
  · rename_i t ht
    have ht' : (ops[j]?).bind (·.dst) = some t := by simpa using ht
    unfold yielded
    rw [ht']
    simp only [Option.bind_some]
    split at hg
    · rename_i b hb
      injection hg with hg
      obtain ⟨h1, h2⟩ := h.tmp t _ hb
      have h3 : a.tmps[t]? = some (.bool b) := by
        have h4 : a.tmps.getD t undef = .bool b := h2
        rw [Array.getD_eq_getD_getElem?, Array.getElem?_eq_getElem h1] at h4
        simp only [Option.getD_some] at h4
        rw [Array.getElem?_eq_getElem h1, h4]
      rw [h3]
      simpa using hg
    · rename_i c y hb
      obtain ⟨h1, h2, h3⟩ := h.tmp t _ hb
      have hget : a.tmps[t]? = some (a.tmps.getD t undef) := by rw [Array.getD_eq_getD_getElem?, Array.getElem?_eq_getElem h1]; rfl
      rw [hget]
      cases c with
      | true =>
        unfold gB at hg
        split at hg
        · rename_i b hbo
          injection hg with hg
          unfold boolOf at hbo
          split at hbo
          · injection hbo with hbo
            subst hbo
            have h4 := h2 rfl
            simp only [RV3, V.tup?, RV2, V.agg?, RVc, V.clo?, RV1] at h4
            rw [h4]
            simpa using hg
          · cases hbo
        · simp at hg
      | false =>
        rw [h3 rfl]
        have : g = false := by
          unfold gB at hg
          split at hg <;> simpa using hg.symm
        subst this
        simp only [undef]
        simp
    · cases hg
  · cases hg

theorem noMay_sound {w : World} {F : Nat → Prop} {S : Sh} {H : Hp} {x : V} {y : Value} (h : RV w F S H x y) : RV3 w F S H (noMay x) y := by
  unfold noMay
  split
  · rename_i hm; exact RV.of3 hm h
  · trivial

/-- One operation of a region, with its guard. -/
theorem stepOp_sound (hsp : ∀ f s, sp f = some s → Meets P f s) {ops : Array Oper} {o : Oper} {st st' : St} {a : Act} {w : World} {F : Nat → Prop} {S : Sh} (h : SR N ak w0 F0 S0 H0 st a w F S) (he : stepOp P sp N H0.length ak ops.toList o st = some st')
    {next : Act → World → Prop} {Q : Exit → Act → World → Prop} (hn : ∀ a' w' F' S', SR N ak w0 F0 S0 H0 st' a' w' F' S' → next a' w') :
    if Region.wanted o (yielded ops a.tmps) then o.wp P a w next Q ∨ (o.asks P a w ∧ LetsOut Q) else next (a.put o.dst undef) w := by
  have go : ∀ {ks z H'}, exec2 P sp ops.toList true st.σ st.H o = some (ks, z, H') → (if allowed H0.length ak ks then Eng.put N o.dst (z.getD .dead) H' (kill ks st.σ) else none) = some st' → o.wp P a w next Q := by
    intro ks z H' h1 h2
    split at h2
    case isFalse => cases h2
    rename_i hal
    refine exec2_sound hsp h.rw h.tr rfl h1 next Q ?_
    rintro v w' ⟨F', S', hs⟩
    exact hn _ _ _ _ (h.put hs hal h2)
  have skip : ∀ {z : V}, RV w F S st.H z undef → Eng.put N o.dst z st.H st.σ = some st' → next (a.put o.dst undef) w := by
    intro z hz hp
    refine hn _ _ F S ?_
    have := h.put (ks := []) (z := some z) (v := undef) (Step.same h.rw hz) rfl (d := o.dst) (st' := st') (by simpa [kill] using hp)
    exact this
  have key : ∀ g : Bool, Region.wanted o (yielded ops a.tmps) = g → (g = true → o.wp P a w next Q) → (g = false → next (a.put o.dst undef) w) → if Region.wanted o (yielded ops a.tmps) then o.wp P a w next Q ∨ (o.asks P a w ∧ LetsOut Q) else next (a.put o.dst undef) w := by
    intro g hg h1 h2
    cases g with
    | true => rw [if_pos hg]; exact .inl (h1 rfl)
    | false => rw [if_neg (by simp [hg])]; exact h2 rfl
  unfold stepOp at he
  split at he
  · rename_i hg
    refine key true (by unfold Region.wanted; rw [hg]) (fun _ => ?_) (fun e => by cases e)
    split at he
    · rename_i ks z H' h1
      exact go h1 he
    · cases he
  · rename_i j want hg
    split at he
    · rename_i g hgw
      refine key g (by unfold Region.wanted; rw [hg]; exact gw_sound h.tr hgw) (fun hgt => ?_) (fun hgf => ?_)
      · subst hgt
        split at he
        · split at he
          · rename_i z hz
            have hz : fltV P true st.σ st.H o = some z := by
              unfold gIdx at hz
              split at hz
              · rename_i z1 h1; injection hz with hz; subst hz; exact h1
              · simp at hz
            obtain ⟨y, h1, h2⟩ := fltV_sound h.rw h.tr hz rfl
            refine Does.value (R := fun v w' => v = y ∧ w' = w) h1 ⟨rfl, rfl⟩ next Q ?_
            rintro v w' ⟨rfl, rfl⟩
            refine hn _ _ F S ?_
            refine h.put (ks := []) (z := some (.may true (noMay z))) (Step.same h.rw ?_) rfl (by simpa [kill] using he)
            exact ⟨fun _ => noMay_sound h2, fun e => by cases e⟩
          · simp only [if_true] at he
            split at he
            · rename_i ks z H' h1
              exact go h1 he
            · cases he
        · simp only [if_true] at he
          split at he
          · rename_i ks z H' h1
            exact go h1 he
          · cases he
      · subst hgf
        split at he
        · split at he
          · exact skip (z := .may false _) ⟨(fun e => by cases e), (fun _ => rfl)⟩ he
          · simp at he
        · simp only [Bool.false_eq_true, if_false] at he
          exact skip (z := .dead) trivial he
    · cases he
end
end Go.Eng

namespace Go.Eng
open Go.RowKit
set_option linter.unusedSectionVars false
set_option linter.unusedVariables false
set_option linter.unusedSimpArgs false
variable [Globs]

section
variable {P : Program} {sp : Nat → Option Spec} {N : Nat} {ak : List (Nat × Nat)} {w0 : World} {F0 : Nat → Prop} {S0 : Sh} {H0 : Hp}

theorem runOps_sound (hsp : ∀ f s, sp f = some s → Meets P f s) {ops : Array Oper} {Q : Exit → Act → World → Prop} : ∀ (n i : Nat) (st st' : St) (a : Act) (w : World) (F : Nat → Prop) (S : Sh), i + n = ops.size → SR N ak w0 F0 S0 H0 st a w F S → runOps P sp N H0.length ak ops.toList (ops.toList.drop i) st = some st' →
    (∀ a' w' F' S', SR N ak w0 F0 S0 H0 st' a' w' F' S' → Q .normal a' w') → wpOps P ops Q (List.range' i n) a w
  | 0, i, st, st', a, w, F, S, hi, h, he, hq => by
    have : ops.toList.drop i = [] := List.drop_eq_nil_iff.2 (by simp; omega)
    rw [this] at he
    simp only [runOps, Option.some.injEq] at he
    subst he
    simp only [List.range'_zero, wpOps]
    exact hq a w F S h
  | n + 1, i, st, st', a, w, F, S, hi, h, he, hq => by
    have hlt : i < ops.toList.length := by simp; omega
    rw [List.drop_eq_getElem_cons hlt] at he
    simp only [runOps] at he
    split at he
    · rename_i st1 h1
      have ho : ops[i]? = some ops.toList[i] := by
        rw [← Array.getElem?_toList]; exact List.getElem?_eq_getElem hlt
      rw [List.range'_succ]
      simp only [wpOps, ho]
      exact stepOp_sound hsp h h1 (fun a' w' F' S' h' => runOps_sound hsp n (i + 1) st1 st' a' w' F' S' (by omega) h' he hq)
    · cases he

/-- The temporaries that are read later. -/
def prune : List Nat → List (Nat × V) → List (Nat × V)
  | [], _ => []
  | t :: ts, σ => match look σ t with
    | some x => (t, x) :: prune ts σ
    | none => prune ts σ

theorem look_prune (ts : List Nat) (σ : List (Nat × V)) (t : Nat) (x : V) (h : look (prune ts σ) t = some x) : look σ t = some x := by
  induction ts with
  | nil => simp [prune, look] at h
  | cons u ts ih =>
    simp only [prune] at h
    split at h
    · rename_i y hy
      rw [look_cons] at h
      split at h
      · rename_i e
        subst e
        injection h with h
        rw [hy, h]
      · exact ih h
    · exact ih h

theorem SR.prune {st : St} {a : Act} {w : World} {F : Nat → Prop} {S : Sh} (h : SR N ak w0 F0 S0 H0 st a w F S) (ts : List Nat) : SR N ak w0 F0 S0 H0 ⟨Eng.prune ts st.σ, st.H⟩ a w F S :=
  ⟨h.rw, ⟨fun t x hx => h.tr.tmp t x (look_prune ts st.σ t x hx), h.tr.glob⟩, h.size, h.stp, h.kept, h.defers⟩

def live' (live : Nat → Option (List Nat)) (id : Nat) (st : St) : St :=
  match live id with
  | some ts => ⟨prune ts st.σ, st.H⟩
  | none => st

def thenX (next : St → Prop) (K : Exit → St → Prop) : Exit → St → Prop
  | .normal, st => next st
  | e, st => K e st

def inBlockX (id : Nat) (K : Exit → St → Prop) : Exit → St → Prop
  | .exit id', st => if id' = id then K .normal st else K (.exit id') st
  | e, st => K e st

/-- A state knows at least what another does. -/
def subσ : List (Nat × V) → List (Nat × V) → Prop
  | [], _ => True
  | (t, x) :: r, σ => look σ t = some x ∧ subσ r σ

def Sub (s t : St) : Prop := s.H = t.H ∧ subσ t.σ s.σ

theorem subσ_look : ∀ {r σ : List (Nat × V)}, subσ r σ → ∀ {u : Nat} {x : V}, look r u = some x → look σ u = some x
  | [], _, _, u, x, h => by simp [look] at h
  | (t, y) :: r, σ, h, u, x, hx => by
    rw [look_cons] at hx
    split at hx
    · rename_i e
      subst e
      injection hx with hx
      subst hx
      exact h.1
    · exact subσ_look h.2 hx

theorem SR.sub {s t : St} {a : Act} {w : World} {F : Nat → Prop} {S : Sh} (h : SR N ak w0 F0 S0 H0 s a w F S) (e : Sub s t) : SR N ak w0 F0 S0 H0 t a w F S := by
  obtain ⟨σ, H⟩ := s
  obtain ⟨σ', H'⟩ := t
  obtain ⟨e1, e2⟩ := e
  simp only at e1 e2
  subst e1
  exact ⟨h.rw, ⟨fun u x hx => h.tr.tmp u x (subσ_look e2 hx), h.tr.glob⟩, h.size, h.stp, h.kept, h.defers⟩

/-- What a value refers to lies in the first n objects. -/
def inB (n : Nat) (x : V) : Bool := (refs x).all fun r => decide (r.1 < n)

def subG (n : Nat) : List (Nat × V) → List (Nat × V) → Prop
  | [], _ => True
  | (t, x) :: r, σ => look σ t = some x ∧ inB n x = true ∧ subG n r σ

/-- A state knows at least what another does, and has perhaps more objects. -/
def SubG (base : Nat) (s t : St) : Prop := base ≤ t.H.length ∧ t.H <+: s.H ∧ subG t.H.length t.σ s.σ

theorem subG_look {n : Nat} : ∀ {r σ : List (Nat × V)}, subG n r σ → ∀ {u : Nat} {x : V}, look r u = some x → look σ u = some x ∧ inB n x = true
  | [], _, _, u, x, h => by simp [look] at h
  | (t, y) :: r, σ, h, u, x, hx => by
    rw [look_cons] at hx
    split at hx
    · rename_i e
      subst e
      injection hx with hx
      subst hx
      exact ⟨h.1, h.2.1⟩
    · exact subG_look h.2.2 hx

theorem node_prefix {H G : Hp} {id : Nat} (h : id < H.length) (p : Path) : node (H ++ G) id p = node H id p := by
  unfold node; rw [List.getElem?_append_left h]

theorem SR.subG {s t : St} {a : Act} {w : World} {F : Nat → Prop} {S : Sh} (h : SR N ak w0 F0 S0 H0 s a w F S) (e : SubG H0.length s t) : SR N ak w0 F0 S0 H0 t a w F S := by
  obtain ⟨σ, H1⟩ := s
  obtain ⟨σ', H'⟩ := t
  obtain ⟨e0, ⟨G, e1⟩, e2⟩ := e
  simp only at e0 e1 e2
  subst e1
  have back : ∀ id p nd, node H' id p = some nd → node (H' ++ G) id p = some nd := fun id p nd hn => by rw [node_prefix (node_lt hn)]; exact hn
  refine ⟨h.rw.sub id (fun id p nd hn => ⟨back id p nd hn, fun _ => rfl⟩) (fun _ _ _ _ _ _ _ _ h => h), ⟨fun u x hx => ?_, h.tr.glob⟩, h.size, ⟨h.stp.os, h.stp.tape, h.stp.output, h.stp.size, h.stp.block, fun b ⟨id, p, nd, o, cap, h1, h2⟩ => h.stp.own b ⟨id, p, nd, o, cap, back _ _ _ h1, h2⟩, h.stp.frozen, h.stp.keeps⟩, fun id p nd hk hn => ?_, h.defers⟩
  · obtain ⟨g1, g2⟩ := subG_look e2 hx
    obtain ⟨g3, g4⟩ := h.tr.tmp u x g1
    refine ⟨g3, RV.mono (fun _ _ => rfl) (fun _ h => h) g4 (fun id p nd hm hn => ⟨rfl, nd, ?_, rfl, rfl⟩)⟩
    have hlt : id < H'.length := by simpa using List.all_eq_true.1 g2 _ hm
    rw [node_prefix hlt] at hn
    exact hn
  · obtain ⟨g1, nd', g2, g3, g4⟩ := h.kept id p nd hk hn
    have hlt : id < H'.length := Nat.lt_of_lt_of_le (node_lt hn) e0
    rw [node_prefix hlt] at g2
    exact ⟨g1, nd', g2, g3, g4⟩

/-- WHAT IS TO BE SHOWN OF CODE. -/
def wpX (P : Program) (sp : Nat → Option Spec) (N : Nat) (base : Nat) (ak : List (Nat × Nat)) (live : Nat → Option (List Nat)) (dr : Nat → Array Oper → St → (St → Prop) → Prop) : Code → (Exit → St → Prop) → St → Prop
  | .skip, K, st => K .normal st
  | .region id ops false, K, st => ∃ st', runOps P sp N base ak ops.toList ops.toList st = some st' ∧ K .normal (live' live id st')
  | .region id ops true, K, st => dr id ops st (fun st' => K .normal (live' live id st'))
  | .seq x y, K, st => wpX P sp N base ak live dr x (thenX (wpX P sp N base ak live dr y K) K) st
  | .cond c x y, K, st => (∃ b, ev true st.σ c = some (.v (.bool b)) ∧ (b = true → wpX P sp N base ak live dr x K st) ∧ (b = false → wpX P sp N base ak live dr y K st)) ∨ (ev true st.σ c = some .anyB ∧ wpX P sp N base ak live dr x K st ∧ wpX P sp N base ak live dr y K st)
  | .block id c, K, st => wpX P sp N base ak live dr c (inBlockX id K) st
  | .loop c, K, st => ∃ (α : Type) (I : α → Prop) (Z : α → St) (μ : α → Nat) (R : St → St → Prop), (R = Sub ∨ R = SubG base) ∧ (∃ x, I x ∧ R st (Z x)) ∧ ∀ x, I x → wpX P sp N base ak live dr c (thenX (fun st' => ∃ y, I y ∧ R st' (Z y) ∧ μ y < μ x) K) (Z x)
  | .exit id, K, st => K (.exit id) st
  | .ret, K, st => K .ret st
  | .label _, K, st => K .normal st
  | _, _, _ => False

/-- A rule for regions that draw their order. -/
def DrOk (P : Program) (sp : Nat → Option Spec) (N : Nat) (base : Nat) (ak : List (Nat × Nat)) (dr : Nat → Array Oper → St → (St → Prop) → Prop) : Prop :=
  ∀ id ops st K, dr id ops st K → ∀ (w0 : World) (F0 : Nat → Prop) (S0 : Sh) (H0 : Hp), H0.length = base → ∀ (a : Act) (w : World) (F : Nat → Prop) (S : Sh) (Q : Exit → Act → World → Prop), SR N ak w0 F0 S0 H0 st a w F S →
    (∀ st' a' w' F' S', K st' → SR N ak w0 F0 S0 H0 st' a' w' F' S' → Q .normal a' w') → (Code.region id ops true).wp P Q a w

def Lift (N : Nat) (ak : List (Nat × Nat)) (w0 : World) (F0 : Nat → Prop) (S0 : Sh) (H0 : Hp) (K : Exit → St → Prop) (e : Exit) (a : Act) (w : World) : Prop := ∃ st F S, K e st ∧ SR N ak w0 F0 S0 H0 st a w F S

theorem wpX_sound (hsp : ∀ f s, sp f = some s → Meets P f s) {live : Nat → Option (List Nat)} {dr : Nat → Array Oper → St → (St → Prop) → Prop} (hdr : DrOk P sp N H0.length ak dr) : ∀ (c : Code) (K : Exit → St → Prop) (st : St), wpX P sp N H0.length ak live dr c K st → ∀ (a : Act) (w : World) (F : Nat → Prop) (S : Sh), SR N ak w0 F0 S0 H0 st a w F S →
    c.wp P (Lift N ak w0 F0 S0 H0 K) a w := by
  intro c
  have live_ok : ∀ {id st a w F S}, SR N ak w0 F0 S0 H0 st a w F S → SR N ak w0 F0 S0 H0 (live' live id st) a w F S := by
    intro id st a w F S h
    unfold live'
    split
    · exact h.prune _
    · exact h
  induction c with
  | skip => intro K st hk a w F S h; exact wp_skip ⟨st, F, S, hk, h⟩
  | label l => intro K st hk a w F S h; exact wp_label ⟨st, F, S, hk, h⟩
  | exit id => intro K st hk a w F S h; exact wp_exit ⟨st, F, S, hk, h⟩
  | ret => intro K st hk a w F S h; exact wp_ret ⟨st, F, S, hk, h⟩
  | region id ops draw =>
    intro K st hk a w F S h
    cases draw with
    | false =>
      obtain ⟨st', h1, h2⟩ := hk
      refine wp_region ?_
      rw [List.range_eq_range']
      exact runOps_sound hsp ops.size 0 st st' a w F S (by omega) h (by simpa using h1) (fun a' w' F' S' h' => ⟨_, F', S', h2, live_ok h'⟩)
    | true =>
      exact hdr id ops st _ hk w0 F0 S0 H0 rfl a w F S _ h (fun st' a' w' F' S' h2 h' => ⟨_, F', S', h2, live_ok h'⟩)
  | seq x y ihx ihy =>
    intro K st hk a w F S h
    refine wp_seq (wp_mono (ihx _ st hk a w F S h) ?_)
    rintro e a' w' ⟨st', F', S', hk', h'⟩
    cases e <;> first | exact ihy K st' hk' a' w' F' S' h' | exact ⟨st', F', S', hk', h'⟩
  | cond c x y ihx ihy =>
    intro K st hk a w F S h
    rcases hk with ⟨b, h1, h2, h3⟩ | ⟨h1, h2, h3⟩
    case inr =>
      obtain ⟨b, hv⟩ : ∃ b, a.eval c = .bool b := ev_sound h.tr h1 rfl
      exact wp_cond_split hv (fun hb => ihx K st h2 a w F S h) (fun hb => ihy K st h3 a w F S h)
    have hv : a.eval c = .bool b := plain_sound (ev_sound h.tr h1 rfl) rfl
    exact wp_cond_split hv (fun hb => ihx K st (h2 hb) a w F S h) (fun hb => ihy K st (h3 hb) a w F S h)
  | block id c ih =>
    intro K st hk a w F S h
    refine wp_block (wp_mono (ih _ st hk a w F S h) ?_)
    rintro e a' w' ⟨st', F', S', hk', h'⟩
    cases e with
    | exit id' =>
      simp only [inBlockX] at hk'
      simp only [Exit.inBlock]
      split at hk'
      · rename_i e; rw [if_pos e]; exact ⟨st', F', S', hk', h'⟩
      · rename_i e; rw [if_neg e]; exact ⟨st', F', S', hk', h'⟩
    | _ => exact ⟨st', F', S', hk', h'⟩
  | loop c ih =>
    intro K st hk a w F S h
    obtain ⟨α, I, Z, μ, R, hR, ⟨x0, hx0, h0⟩, hI⟩ := hk
    have hRs : ∀ {s t : St} {a : Act} {w : World} {F : Nat → Prop} {S : Sh}, SR N ak w0 F0 S0 H0 s a w F S → R s t → SR N ak w0 F0 S0 H0 t a w F S := by
      rcases hR with rfl | rfl
      · exact fun h e => h.sub e
      · exact fun h e => h.subG e
    have key : ∀ n (x : α), μ x = n → I x → ∀ (a : Act) (w : World) (F : Nat → Prop) (S : Sh), SR N ak w0 F0 S0 H0 (Z x) a w F S → ∀ (b : Frame) (k : List Item) (cs : List Frame),
        ∃ e a' w', Lift N ak w0 F0 S0 H0 K e a' w' ∧ Arrives P (lone (b.at a (.code c :: .inLoop c :: k)) cs w) b k cs e a' w' := by
      intro n
      induction n using Nat.strongRecOn with
      | _ n ihn =>
        intro x hn hi a w F S h b k cs
        obtain ⟨e, a₁, w₁, hq, harr⟩ := ih _ (Z x) (hI x hi) a w F S h b (.inLoop c :: k) cs
        obtain ⟨st', F', S', hk', h'⟩ := hq
        cases e with
        | normal =>
          obtain ⟨y, hy, hsub, hlt⟩ := hk'
          obtain ⟨e₂, a₂, w₂, hq₂, harr₂⟩ := ihn (μ y) (hn ▸ hlt) y rfl hy a₁ w₁ F' S' (hRs h' hsub) b k cs
          exact ⟨e₂, a₂, w₂, hq₂, .of_steps (Steps.trans harr (.one step_inLoop)) harr₂⟩
        | exit id => exact ⟨_, a₁, w₁, ⟨st', F', S', hk', h'⟩, .pass (x := .inLoop c) rfl (fun _ _ => .inl (by simp)) harr⟩
        | goto l => exact ⟨_, a₁, w₁, ⟨st', F', S', hk', h'⟩, .pass (x := .inLoop c) rfl (fun _ _ => .inl (by simp)) harr⟩
        | ret => exact ⟨_, a₁, w₁, ⟨st', F', S', hk', h'⟩, .pass (x := .inLoop c) rfl (fun _ _ => .inl (by simp)) harr⟩
        | panic ch => exact ⟨_, a₁, w₁, ⟨st', F', S', hk', h'⟩, .pass (x := .inLoop c) rfl (fun _ _ => .inl (by simp)) harr⟩
        | outgrown => exact ⟨_, a₁, w₁, ⟨st', F', S', hk', h'⟩, .pass (x := .inLoop c) rfl (fun _ _ => .inl (by simp)) harr⟩
    intro b k cs
    obtain ⟨e, a', w', hq, harr⟩ := key _ x0 rfl hx0 a w F S (hRs h h0) b k cs
    exact ⟨e, a', w', hq, .of_steps (.one step_loop) harr⟩
  | rangeFunc => intro K st hk; exact hk.elim
  | scope => intro K st hk; exact hk.elim
  | goto => intro K st hk; exact hk.elim
  | refuse => intro K st hk; exact hk.elim

end
end Go.Eng
