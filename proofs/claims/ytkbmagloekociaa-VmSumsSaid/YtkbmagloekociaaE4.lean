/- The engine, text 4 of 5: an abstract machine of owned objects and its laws; it speaks of any program. -/
import Derived.Test.YtkbmagloekociaaE3
import Derived.Orders
import Derived.IntWalk
import Derived.OpenShut
import Derived.ShutString
import Derived.ChangeOld
import Derived.SizedLaws
import Derived.ProofKit
namespace Go.Eng
open Go.RowKit
set_option linter.unusedSectionVars false
set_option linter.unusedVariables false
set_option linter.unusedSimpArgs false
variable [Globs]

/-- A value under other numbers of objects. -/
def ren1 (ρ : Nat → Nat) : V → V
  | .ref id p sz off n => .ref (ρ id) p sz off n
  | .ptr id p i k => .ptr (ρ id) p i k
  | x => x
def renC (ρ : Nat → Nat) (x : V) : V :=
  match x.clo? with
  | some (f, caps) => .clo f (caps.map (ren1 ρ))
  | none => ren1 ρ x
def ren2 (ρ : Nat → Nat) (x : V) : V :=
  match x.agg? with
  | some vs => .agg (vs.map (renC ρ))
  | none => renC ρ x
def ren3 (ρ : Nat → Nat) (x : V) : V :=
  match x.tup? with
  | some vs => .tup (vs.map (ren2 ρ))
  | none => ren2 ρ x

theorem ren1_sel (ρ : Nat → Nat) (x : V) : (ren1 ρ x).clo? = x.clo? ∧ (ren1 ρ x).agg? = x.agg? ∧ (ren1 ρ x).tup? = x.tup? ∧ (ren1 ρ x).may? = x.may? := by cases x <;> simp [ren1, V.clo?, V.agg?, V.tup?, V.may?]

section
variable {w : World} {F : Nat → Prop} {S S' : Sh} {H H' : Hp} {ρ : Nat → Nat}

theorem RV1.ren {x : V} {y : Value} (h : RV1 w F S H x y) (hr : ∀ id p nd, (id, p) ∈ refs1 x → node H id p = some nd → S' (ρ id) p = S id p ∧ node H' (ρ id) p = some nd) : RV1 w F S' H' (ren1 ρ x) y := by
  cases x with
  | ref id p sz off n =>
    obtain ⟨nd, h1, h2, h3, h4⟩ := h
    obtain ⟨e1, e2⟩ := hr id p nd (by simp [refs1]) h1
    exact ⟨nd, e2, h2, h3, by rw [e1]; exact h4⟩
  | ptr id p i k =>
    obtain ⟨nd, h1, h4⟩ := h
    obtain ⟨e1, e2⟩ := hr id p nd (by simp [refs1]) h1
    exact ⟨nd, e2, by rw [e1]; exact h4⟩
  | _ => exact h

theorem RVc.ren {x : V} {y : Value} (h : RVc w F S H x y) (hr : ∀ id p nd, (id, p) ∈ refsC x → node H id p = some nd → S' (ρ id) p = S id p ∧ node H' (ρ id) p = some nd) (hcl : x.clo? = none) : RVc w F S' H' (renC ρ x) y := by
  unfold RVc at h ⊢
  unfold refsC at hr
  unfold renC
  rw [hcl] at h hr ⊢
  simp only
  rw [(ren1_sel ρ x).1, hcl]
  exact RV1.ren h hr

/-- No closures. -/
def noClo (x : V) : Bool :=
  match x with
  | .clo _ _ => false
  | .agg vs => vs.all fun c => c.clo?.isNone
  | .tup vs => vs.all fun c => match c with | .clo _ _ => false | .agg us => us.all fun c => c.clo?.isNone | .tup _ => false | _ => true
  | _ => true

theorem renC_sel (x : V) (h : x.clo? = none) : (renC ρ x).agg? = x.agg? ∧ (renC ρ x).tup? = x.tup? ∧ (renC ρ x).may? = x.may? := by
  unfold renC
  rw [h]
  exact (ren1_sel ρ x).2

theorem RV2.ren {x : V} {y : Value} (h : RV2 w F S H x y) (hr : ∀ id p nd, (id, p) ∈ refs2 x → node H id p = some nd → S' (ρ id) p = S id p ∧ node H' (ρ id) p = some nd) (hcl : noClo x = true) : RV2 w F S' H' (ren2 ρ x) y := by
  unfold RV2 at h ⊢
  unfold refs2 at hr
  unfold ren2
  cases ha : x.agg? with
  | some vs =>
    rw [ha] at h hr
    simp only [V.agg?]
    obtain ⟨ys, h1, h2, h3⟩ := h
    cases x <;> simp [V.agg?] at ha
    subst ha
    refine ⟨ys, h1, by simpa using h2, fun i c z hc hz => ?_⟩
    rw [List.getElem?_map] at hc
    rename_i us
    cases hv : us[i]? with
    | none => rw [hv] at hc; cases hc
    | some c0 =>
      rw [hv] at hc
      simp only [Option.map_some, Option.some.injEq] at hc
      subst hc
      have hm := List.mem_of_getElem? hv
      refine RVc.ren (h3 i c0 z hv hz) (fun id p nd hm' => hr id p nd (List.mem_flatMap.2 ⟨c0, hm, hm'⟩)) ?_
      have := List.all_eq_true.1 hcl c0 hm
      simpa using this
  | none =>
    rw [ha] at h hr
    have hcl' : x.clo? = none := by cases x <;> simp [noClo, V.clo?] at hcl ⊢
    simp only
    rw [(renC_sel x hcl').1, ha]
    exact RVc.ren h hr hcl'

theorem RV3.ren {x : V} {y : Value} (h : RV3 w F S H x y) (hr : ∀ id p nd, (id, p) ∈ refs3 x → node H id p = some nd → S' (ρ id) p = S id p ∧ node H' (ρ id) p = some nd) (hcl : noClo x = true) : RV3 w F S' H' (ren3 ρ x) y := by
  unfold RV3 at h ⊢
  unfold refs3 at hr
  unfold ren3
  cases ha : x.tup? with
  | some vs =>
    rw [ha] at h hr
    simp only [V.tup?]
    obtain ⟨ys, h1, h2, h3⟩ := h
    cases x <;> simp [V.tup?] at ha
    subst ha
    refine ⟨ys, h1, by simpa using h2, fun i c z hc hz => ?_⟩
    rw [List.getElem?_map] at hc
    rename_i us
    cases hv : us[i]? with
    | none => rw [hv] at hc; cases hc
    | some c0 =>
      rw [hv] at hc
      simp only [Option.map_some, Option.some.injEq] at hc
      subst hc
      have hm := List.mem_of_getElem? hv
      refine RV2.ren (h3 i c0 z hv hz) (fun id p nd hm' => hr id p nd (List.mem_flatMap.2 ⟨c0, hm, hm'⟩)) ?_
      have hall := List.all_eq_true.1 hcl c0 hm
      cases c0 <;> simp [noClo] at hall ⊢
      exact hall
  | none =>
    rw [ha] at h hr
    simp only
    have : (ren2 ρ x).tup? = none := by
      unfold ren2
      cases x <;> simp [V.agg?, V.tup?, renC, V.clo?, ren1] at ha ⊢
    rw [this]
    exact RV2.ren h hr hcl
end

/-- Each once. -/
def dd : List Nat → List Nat
  | [] => []
  | x :: r => if r.contains x then dd r else x :: dd r

theorem mem_dd {x : Nat} : ∀ {l : List Nat}, x ∈ dd l ↔ x ∈ l
  | [] => by simp [dd]
  | y :: r => by
    simp only [dd]
    split
    · rename_i h
      rw [mem_dd (l := r), List.mem_cons]
      have h' : y ∈ r := by simpa using h
      constructor
      · exact fun h => .inr h
      · rintro (rfl | h)
        · exact h'
        · exact h
    · rw [List.mem_cons, List.mem_cons, mem_dd (l := r)]

/-- Which objects a function hands back. -/
def keeps (base : Nat) (z : V) : List Nat := dd (((refs3 z).map (·.1)).filter (fun id => decide (base ≤ id)))

def idxOf (x : Nat) : List Nat → Nat
  | [] => 0
  | y :: r => if y = x then 0 else idxOf x r + 1

def noDup : List Nat → Bool
  | [] => true
  | x :: r => !r.contains x && noDup r

theorem idxOf_get : ∀ {l : List Nat} {x : Nat}, x ∈ l → l[idxOf x l]? = some x
  | y :: r, x, h => by
    simp only [idxOf]
    by_cases e : y = x
    · subst e; simp
    · rcases List.mem_cons.1 h with h | h
      · exact absurd h.symm e
      · simpa [e] using idxOf_get h

theorem noDup_inj : ∀ {l : List Nat}, noDup l = true → ∀ {i j x : Nat}, l[i]? = some x → l[j]? = some x → i = j
  | [], _, i, j, x, h1, _ => by simp at h1
  | y :: r, h, i, j, x, h1, h2 => by
    simp only [noDup, Bool.and_eq_true, Bool.not_eq_true', List.contains_eq_mem, decide_eq_false_iff_not] at h
    cases i with
    | zero =>
      cases j with
      | zero => rfl
      | succ j =>
        simp only [List.getElem?_cons_zero, Option.some.injEq, List.getElem?_cons_succ] at h1 h2
        subst h1
        exact absurd (List.mem_of_getElem? h2) h.1
    | succ i =>
      cases j with
      | zero =>
        simp only [List.getElem?_cons_zero, Option.some.injEq, List.getElem?_cons_succ] at h1 h2
        subst h2
        exact absurd (List.mem_of_getElem? h1) h.1
      | succ j =>
        have := noDup_inj h.2 (i := i) (j := j) (x := x) (by simpa using h1) (by simpa using h2)
        rw [this]

def renum (base : Nat) (ks : List Nat) (id : Nat) : Nat := if id < base then id else base + idxOf id ks

/-- The heap that is handed back. -/
def outH (base : Nat) (ks : List Nat) (H : Hp) : Hp := H.take base ++ ks.map fun id => (H[id]?).join

theorem node_outH {base : Nat} {ks : List Nat} {H : Hp} (hb : base ≤ H.length) (id : Nat) (p : Path) : node (outH base ks H) id p = if id < base then node H id p else match ks[id - base]? with | some i => node H i p | none => none := by
  unfold node outH
  by_cases h : id < base
  · rw [if_pos h, List.getElem?_append_left (by rw [List.length_take]; omega), List.getElem?_take_of_lt h]
  · rw [if_neg h, List.getElem?_append_right (by rw [List.length_take]; omega), List.length_take, Nat.min_eq_left hb, List.getElem?_map]
    cases hk : ks[id - base]? with
    | none => rfl
    | some i =>
      simp only [Option.map_some]
      cases hi : H[i]? with
      | none => rfl
      | some x => cases x <;> rfl

/-- One result. -/
def resSem (tm : Array Value) : ResultVar → Sem Value
  | .tmp t => pure (tm.getD t undef)
  | .cell c t => asAddr (tm.getD c undef) >>= fun a => loadVar t a

theorem results_eq (fn : Func) (tm : Array Value) : results fn tm = (fn.results.mapM (resSem tm) >>= fun vs => pure (if h : vs.size = 1 then vs[0] else .tuple vs)) := by
  unfold results
  congr 2

/-- Neither many values nor an uncertain one. -/
def V.one : V → Bool
  | .tup _ => false
  | .may _ _ => false
  | _ => true

theorem RV.of_one {w : World} {F : Nat → Prop} {S : Sh} {H : Hp} {x : V} {y : Value} (hx : x.one = true) (h : RV w F S H x y) : RV2 w F S H x y := by
  cases x <;> first | (simp [V.one] at hx; done) | exact h

def retV (σ : List (Nat × V)) (H : Hp) (P : Program) : List ResultVar → Option (List V)
  | [] => some []
  | .tmp t :: r => match ev true σ (.tmp t), retV σ H P r with
    | some x, some l => if x.one then some (x :: l) else none
    | _, _ => none
  | .cell a t :: r => match loadV P true σ H t (.tmp a), retV σ H P r with
    | some x, some l => if x.one then some (x :: l) else none
    | _, _ => none

def oneOf (vs : List V) : V := match vs with | [x] => x | vs => .tup vs

/-- What a function gives back. -/
def RetOk (P : Program) (rs : List ResultVar) (base : Nat) (z : V) (H' : Hp) (st : St) : Prop :=
  ∃ vs, retV st.σ st.H P rs = some vs ∧ (let z0 := oneOf vs
    let ks := keeps base z0
    noDup ks = true ∧ noClo z0 = true ∧ base ≤ st.H.length ∧ z = ren3 (renum base ks) z0 ∧ H' = outH base ks st.H)

/-- What is to hold where a function ends. -/
def KRet (P : Program) (rs : List ResultVar) (base : Nat) (z : V) (H' : Hp) : Exit → St → Prop := fun e st => (match e with | .normal => True | .ret => True | _ => False) ∧ RetOk P rs base z H' st

def initσ : Nat → List V → List (Nat × V)
  | _, [] => []
  | i, x :: r => (i, x) :: initσ (i + 1) r

theorem look_initσ : ∀ (xs : List V) (i t : Nat) (x : V), look (initσ i xs) t = some x → ∃ j, t = i + j ∧ xs[j]? = some x
  | [], i, t, x, h => by simp [initσ, look] at h
  | y :: r, i, t, x, h => by
    simp only [initσ, look_cons] at h
    split at h
    · rename_i e; injection h with h; subst h; exact ⟨0, by omega, rfl⟩
    · obtain ⟨j, h1, h2⟩ := look_initσ r (i + 1) t x h
      exact ⟨j + 1, by omega, by simpa using h2⟩

section
variable {P : Program} {N : Nat} {ak : List (Nat × Nat)} {w0 : World} {F0 : Nat → Prop} {S0 : Sh} {H0 : Hp}

theorem retV_sound {st : St} {a : Act} {w : World} {F : Nat → Prop} {S : Sh} (h : SR N ak w0 F0 S0 H0 st a w F S) : ∀ {rs : List ResultVar} {vs : List V}, retV st.σ st.H P rs = some vs →
    ∃ ys : List Value, (rs.mapM (resSem a.tmps)).run P w = Result.ok ys w ∧ ys.length = vs.length ∧ ∀ (i : Nat) (c : V) (y : Value), vs[i]? = some c → ys[i]? = some y → RV2 w F S st.H c y
  | [], vs, he => by simp only [retV, Option.some.injEq] at he; subst he; exact ⟨[], rfl, rfl, by simp⟩
  | .tmp t :: r, vs, he => by
    simp only [retV] at he
    split at he
    · rename_i x l h1 h2
      split at he
      · rename_i hx
        injection he with he
        subst he
        obtain ⟨ys, g1, g2, g3⟩ := retV_sound h h2
        have hv := ev_sound h.tr h1 rfl
        refine ⟨a.tmps.getD t undef :: ys, by simp only [List.mapM_cons, resSem, Sem.run_bind, Sem.run_pure, Result.andThen, g1], by simp [g2], fun i c y hc hy => ?_⟩
        cases i with
        | zero =>
          simp only [List.getElem?_cons_zero, Option.some.injEq] at hc hy
          subst hc; subst hy
          exact hv.of_one hx
        | succ i => exact g3 i c y (by simpa using hc) (by simpa using hy)
      · cases he
    · cases he
  | .cell c t :: r, vs, he => by
    simp only [retV] at he
    split at he
    · rename_i x l h1 h2
      split at he
      · rename_i hx
        injection he with he
        subst he
        obtain ⟨ys, g1, g2, g3⟩ := retV_sound h h2
        obtain ⟨y, h3, h4⟩ := loadV_sound h.rw h.tr h1 rfl
        have haddr : ∃ A, a.tmps.getD c undef = .pointer (some A) := by
          unfold loadV at h1
          split at h1
          · rename_i id p i k hc
            obtain ⟨_, _, _, _, _, _, e⟩ := RV_ptr (ev_sound h.tr hc rfl)
            exact ⟨_, e⟩
          · rename_i sz rows i k hc
            obtain ⟨_, _, e, _⟩ := RepF_fp (ev_sound h.tr hc rfl)
            exact ⟨_, e⟩
          · cases h1
        obtain ⟨A, hA⟩ := haddr
        have hload : (loadVar t A).run P w = .ok y w := by
          have : a.eval (.tmp c) = .pointer (some A) := hA
          rw [this] at h3
          simpa [Instr.loadAt, Instr.sureAddr] using h3
        refine ⟨y :: ys, by simp only [List.mapM_cons, resSem, hA, asAddr, Sem.run_bind, Sem.run_pure, Result.andThen, hload, g1], by simp [g2], fun i c y' hc hy => ?_⟩
        cases i with
        | zero =>
          simp only [List.getElem?_cons_zero, Option.some.injEq] at hc hy
          subst hc; subst hy
          exact RV.of_one hx h4
        | succ i => exact g3 i c y' (by simpa using hc) (by simpa using hy)
      · cases he
    · cases he
end

/-- THE LAW OF A FUNCTION. -/
theorem meets {P : Program} {f : Nat} {fn : Func} {c : Code} {rs : List ResultVar} {N : Nat} {s : Spec} (hf : P.funcs[f]? = some fn) (hb : fn.body = some c) (hrs : fn.results.toList = rs) (hN0 : fn.ntmps = N) {sp : Nat → Option Spec} (hsp : ∀ f s, sp f = some s → Meets P f s) {live : Nat → Option (List Nat)}
    {dr : Nat → Nat → List (Nat × Nat) → Nat → Array Oper → St → (St → Prop) → Prop} (hdr : ∀ base ak, DrOk P sp N base ak (dr N base ak))
    (h : ∀ args H z H', s.f args H = some (z, H') → args.length ≤ N ∧ wpX P sp N H.length (kdirs s.modes args) live (dr N H.length (kdirs s.modes args)) c
      (KRet P rs H.length z H') ⟨initσ 0 args, H⟩) : Meets P f s := by
  subst hrs hN0
  intro args H z H' hs w F S ys hw hgl hl hr
  obtain ⟨hN, hx⟩ := h args H z H' hs
  refine calls_of_wp hf hb ?_
  have hsr : SR fn.ntmps (kdirs s.modes args) w F S H ⟨initσ 0 args, H⟩ { tmps := ys.toArray ++ Array.replicate (fn.ntmps - ys.toArray.size) undef, defers := [] } w F S := by
    refine ⟨hw, ⟨fun t x hx => ?_, hgl⟩, by simp; omega, Stp.refl .., fun id p nd _ hn => ⟨rfl, nd, hn, rfl, rfl⟩, rfl⟩
    obtain ⟨j, rfl, hj⟩ := look_initσ args 0 t x hx
    have hjl : j < args.length := by
      rcases Nat.lt_or_ge j args.length with h | h
      · exact h
      · rw [List.getElem?_eq_none h] at hj; cases hj
    have hjy : j < ys.length := by omega
    refine ⟨by simp; omega, ?_⟩
    have e : (ys.toArray ++ Array.replicate (fn.ntmps - ys.toArray.size) undef).getD (0 + j) undef = ys[j] := by
      rw [Array.getD_eq_getD_getElem?, Nat.zero_add, Array.getElem?_append_left (by simpa using hjy)]
      simp [hjy]
    rw [e]
    exact hr j x _ hj (List.getElem?_eq_getElem hjy)
  refine wp_mono (wpX_sound hsp (hdr H.length (kdirs s.modes args)) c _ _ hx _ _ _ _ hsr) ?_
  rintro e a' w' ⟨st, F', S', ⟨he, vs, hv, hnd, hcl, hbl, rfl, rfl⟩, h'⟩
  obtain ⟨us, g1, g2, g3⟩ := retV_sound (P := P) h' hv
  -- the value that is handed back
  have hres : ∃ v, (results fn a'.tmps).run P w' = .ok v w' ∧ RV w' F' S' st.H (oneOf vs) v ∧ RV3 w' F' S' st.H (oneOf vs) v := by
    have e1 : (fn.results.mapM (resSem a'.tmps)).run P w' = .ok us.toArray w' := by
      rw [Array.mapM_eq_mapM_toList]
      simp [g1, Result.andThen]
    refine ⟨if h : us.toArray.size = 1 then us.toArray[0] else .tuple us.toArray, ?_, ?_⟩
    · rw [results_eq, Sem.run_bind, e1]
      rfl
    · match vs, us, g2, g3 with
      | [x], [y], _, g3 =>
        have := g3 0 x y rfl rfl
        have hx3 : RV3 w' F' S' st.H x y := by
          unfold RV3
          cases ht : x.tup? with
          | none => exact this
          | some vs' =>
            cases x <;> simp [V.tup?] at ht
            simp [RV2, V.agg?, RVc, V.clo?, RV1] at this
        refine ⟨?_, hx3⟩
        cases hm : x.may? with
        | none => exact RV.mk3 hm hx3
        | some q =>
          cases x <;> simp [V.may?] at hm
          simp [RV2, V.agg?, RVc, V.clo?, RV1] at this
      | [], [], _, g3 => exact ⟨⟨[], rfl, rfl, g3⟩, ⟨[], rfl, rfl, g3⟩⟩
      | x :: x' :: r, y :: y' :: r', g2, g3 => exact ⟨⟨y :: y' :: r', by simp, g2.symm, g3⟩, ⟨y :: y' :: r', by simp, g2.symm, g3⟩⟩
  obtain ⟨v, hv1, hv2, hv3⟩ := hres
  have hfin : ∃ F'' S'', Step (kdirs s.modes args) (some (ren3 (renum H.length (keeps H.length (oneOf vs))) (oneOf vs))) w F S H v w' F'' S'' (outH H.length (keeps H.length (oneOf vs)) st.H) := by
    let ks := keeps H.length (oneOf vs)
    let S2 : Sh := fun id p => if id < H.length then S' id p else match ks[id - H.length]? with | some i => S' i p | none => none
    let ρ : Nat → Nat := fun id => if id < H.length then id else (ks[id - H.length]?).getD 0
    have hkb : ∀ {i x : Nat}, ks[i]? = some x → H.length ≤ x := by
      intro i x hi
      have := List.mem_of_getElem? hi
      simp only [ks, keeps, mem_dd, List.mem_filter, decide_eq_true_eq] at this
      exact this.2
    have hnodes : ∀ id p nd, node (outH H.length ks st.H) id p = some nd → node st.H (ρ id) p = some nd ∧ ∀ q, S2 id q = S' (ρ id) q := by
      intro id p nd hn
      rw [node_outH hbl] at hn
      by_cases hlt : id < H.length
      · rw [if_pos hlt] at hn
        simp only [ρ, S2]
        rw [if_pos hlt]
        exact ⟨hn, fun q => if_pos hlt⟩
      · rw [if_neg hlt] at hn
        cases hk : ks[id - H.length]? with
        | none => rw [hk] at hn; cases hn
        | some i =>
          rw [hk] at hn
          simp only [ρ, S2]
          rw [if_neg hlt, hk]
          exact ⟨hn, fun q => by rw [if_neg hlt]; rfl⟩
    have hrw : RW w' F' S2 (outH H.length ks st.H) := by
      refine h'.rw.sub ρ hnodes (fun id p nd id' p' nd' hn hn' he => ?_)
      rw [node_outH hbl] at hn hn'
      simp only [ρ] at he
      by_cases hlt : id < H.length <;> by_cases hlt' : id' < H.length
      · rw [if_pos hlt, if_pos hlt'] at he; exact he
      · rw [if_pos hlt, if_neg hlt'] at he
        rw [if_neg hlt'] at hn'
        cases hk : ks[id' - H.length]? with
        | none => rw [hk] at hn'; cases hn'
        | some i => rw [hk] at he; have := hkb hk; simp only [Option.getD_some] at he; omega
      · rw [if_neg hlt, if_pos hlt'] at he
        rw [if_neg hlt] at hn
        cases hk : ks[id - H.length]? with
        | none => rw [hk] at hn; cases hn
        | some i => rw [hk] at he; have := hkb hk; simp only [Option.getD_some] at he; omega
      · rw [if_neg hlt, if_neg hlt'] at he
        rw [if_neg hlt] at hn
        rw [if_neg hlt'] at hn'
        cases hk : ks[id - H.length]? with
        | none => rw [hk] at hn; cases hn
        | some i =>
          cases hk' : ks[id' - H.length]? with
          | none => rw [hk'] at hn'; cases hn'
          | some i' =>
            rw [hk, hk'] at he
            simp only [Option.getD_some] at he
            subst he
            have := noDup_inj hnd hk hk'
            omega
    refine ⟨F', S2, hrw, ⟨h'.stp.os, h'.stp.tape, h'.stp.output, h'.stp.size, h'.stp.block, fun b hb => ?_, h'.stp.frozen, h'.stp.keeps⟩, ?_, fun id p nd hk hn => ?_, fun b hb => h'.stp.block b (hw.froz b hb) (fun ho => (hw.own_notF ho).1 hb)⟩
    · obtain ⟨id, p, nd, o, cap, h1, h2⟩ := hb
      obtain ⟨e1, e2⟩ := hnodes id p nd h1
      exact h'.stp.own b ⟨_, p, nd, o, cap, e1, by rw [← e2]; exact h2⟩
    · -- the value
      have h3 : RV3 w' F' S2 (outH H.length ks st.H) (ren3 (renum H.length ks) (oneOf vs)) v := by
        refine RV3.ren hv3 (fun id p nd hm hn => ?_) hcl
        by_cases hlt : id < H.length
        · have e : renum H.length ks id = id := by unfold renum; rw [if_pos hlt]
          rw [e]
          exact ⟨if_pos hlt, by rw [node_outH hbl, if_pos hlt]; exact hn⟩
        · have hmem : id ∈ ks := by
            simp only [ks, keeps, mem_dd, List.mem_filter, decide_eq_true_eq]
            exact ⟨List.mem_map.2 ⟨(id, p), hm, rfl⟩, by omega⟩
          have hidx := idxOf_get hmem
          have e : renum H.length ks id = H.length + idxOf id ks := by unfold renum; rw [if_neg hlt]
          rw [e]
          refine ⟨?_, ?_⟩
          · simp only [S2]
            rw [if_neg (by omega), Nat.add_sub_cancel_left, hidx]
          · rw [node_outH hbl, if_neg (by omega), Nat.add_sub_cancel_left, hidx]
            exact hn
      show RV w' F' S2 (outH H.length ks st.H) _ v
      refine RV.mk3 ?_ h3
      -- it is not uncertain
      generalize oneOf vs = x at *
      unfold ren3
      cases x with
      | may c y => simp [RV3, V.tup?, RV2, V.agg?, RVc, V.clo?, RV1] at hv3
      | tup us => rfl
      | _ => simp [V.tup?, ren2, V.agg?, renC, V.clo?, ren1, V.may?]
    · obtain ⟨e1, nd', e2, e3, e4⟩ := h'.kept id p nd hk hn
      have hlt := node_lt hn
      exact ⟨(if_pos hlt).trans e1, nd', by rw [node_outH hbl, if_pos hlt]; exact e2, e3, e4⟩
  cases e with
  | normal => exact ⟨h'.defers, v, hv1, v, rfl, hfin⟩
  | ret => exact ⟨h'.defers, v, hv1, v, rfl, hfin⟩
  | exit _ => exact he.elim
  | goto _ => exact he.elim
  | panic _ => exact he.elim
  | outgrown => exact he.elim

end Go.Eng

namespace Go.Eng
open Go.RowKit
set_option linter.unusedSectionVars false
set_option linter.unusedVariables false
set_option linter.unusedSimpArgs false
variable [Globs]

abbrev Out := List (Nat × Nat) × V × Hp

/-- What one operation comes to. -/
def outc (P : Program) (sp : Nat → Option Spec) (ops : List Oper) (o : Oper) (σ : List (Nat × V)) (H : Hp) : Option Out :=
  match o.guard with
  | none => match exec2 P sp ops true σ H o with
    | some (ks, z, H') => some (ks, z.getD .dead, H')
    | none => none
  | some (j, want) => match gw ops σ j want with
    | some g => if isFlt o then
        match gIdx g (fltV P g σ H o) with
        | some z => some ([], .may g (noMay z), H)
        | none => if g = true then
          match exec2 P sp ops true σ H o with
          | some (ks, z, H') => some (ks, z.getD .dead, H')
          | none => none
          else none
      else if g = true then
        match exec2 P sp ops true σ H o with
        | some (ks, z, H') => some (ks, z.getD .dead, H')
        | none => none
      else some ([], .dead, H)
    | none => none

def looks (ops : List Oper) (o : Oper) : List Tmp := o.looksAt ops.toArray

def stepD (P : Program) (sp : Nat → Option Spec) (N : Nat) (base : Nat) (ak : List (Nat × Nat)) (ops : List Oper) (o : Oper) (st : St) : Option St :=
  match outc P sp ops o (prune (looks ops o) st.σ) st.H with
  | some (ks, z, H') => if allowed base ak ks then put N o.dst z H' (kill ks st.σ) else none
  | none => none

section
variable {P : Program} {sp : Nat → Option Spec} {N : Nat} {base : Nat} {ak : List (Nat × Nat)} {w0 : World} {F0 : Nat → Prop} {S0 : Sh} {H0 : Hp}

theorem stepD_sound (hsp : ∀ f s, sp f = some s → Meets P f s) {ops : Array Oper} {o : Oper} {st st' : St} {a : Act} {w : World} {F : Nat → Prop} {S : Sh} (h : SR N ak w0 F0 S0 H0 st a w F S) (he : stepD P sp N H0.length ak ops.toList o st = some st')
    {next : Act → World → Prop} {Q : Exit → Act → World → Prop} (hn : ∀ a' w' F' S', SR N ak w0 F0 S0 H0 st' a' w' F' S' → next a' w') :
    if Region.wanted o (yielded ops a.tmps) then o.wp P a w next Q ∨ (o.asks P a w ∧ LetsOut Q) else next (a.put o.dst undef) w := by
  unfold stepD at he
  generalize looks ops.toList o = ts at he
  have hte : TR a w F S st.H (prune ts st.σ) := (h.prune ts).tr
  generalize prune ts st.σ = σe at he hte
  split at he
  case h_2 => cases he
  rename_i ks z H' hout
  split at he
  case isFalse => cases he
  rename_i hal
  have go : ∀ {z0}, exec2 P sp ops.toList true σe st.H o = some (ks, z0, H') → z0.getD .dead = z → o.wp P a w next Q := by
    intro z0 h1 h2
    subst h2
    refine exec2_sound hsp h.rw hte rfl h1 next Q ?_
    rintro v w' ⟨F', S', hs⟩
    exact hn _ _ _ _ (h.put hs hal he)
  have skip : RV w F S st.H z undef → ks = [] → H' = st.H → next (a.put o.dst undef) w := by
    rintro hz rfl rfl
    refine hn _ _ F S ?_
    exact h.put (ks := []) (z := some z) (v := undef) (Step.same h.rw hz) rfl (d := o.dst) (st' := st') he
  have key : ∀ g : Bool, Region.wanted o (yielded ops a.tmps) = g → (g = true → o.wp P a w next Q) → (g = false → next (a.put o.dst undef) w) → if Region.wanted o (yielded ops a.tmps) then o.wp P a w next Q ∨ (o.asks P a w ∧ LetsOut Q) else next (a.put o.dst undef) w := by
    intro g hg h1 h2
    cases g with
    | true => rw [if_pos hg]; exact .inl (h1 rfl)
    | false => rw [if_neg (by simp [hg])]; exact h2 rfl
  unfold outc at hout
  split at hout
  · rename_i hg
    refine key true (by unfold Region.wanted; rw [hg]) (fun _ => ?_) (fun e => by cases e)
    split at hout
    · rename_i ks1 z1 H1 h1
      simp only [Option.some.injEq, Prod.mk.injEq] at hout
      obtain ⟨rfl, h2, rfl⟩ := hout
      exact go h1 h2
    · cases hout
  · rename_i j want hg
    split at hout
    · rename_i g hgw
      refine key g (by unfold Region.wanted; rw [hg]; exact gw_sound hte hgw) (fun hgt => ?_) (fun hgf => ?_)
      · subst hgt
        split at hout
        · split at hout
          · rename_i z1 hz
            have hz : fltV P true σe st.H o = some z1 := by
              unfold gIdx at hz
              split at hz
              · rename_i z2 h1; injection hz with hz; subst hz; exact h1
              · simp at hz
            simp only [Option.some.injEq, Prod.mk.injEq] at hout
            obtain ⟨rfl, rfl, rfl⟩ := hout
            obtain ⟨y, h1, h2⟩ := fltV_sound h.rw hte hz rfl
            refine Does.value (R := fun v w' => v = y ∧ w' = w) h1 ⟨rfl, rfl⟩ next Q ?_
            rintro v w' ⟨rfl, rfl⟩
            refine hn _ _ F S ?_
            refine h.put (ks := []) (z := some (.may true (noMay z1))) (Step.same h.rw ?_) rfl he
            exact ⟨fun _ => noMay_sound h2, fun e => by cases e⟩
          · simp only [if_true] at hout
            split at hout
            · rename_i ks1 z1 H1 h1
              simp only [Option.some.injEq, Prod.mk.injEq] at hout
              obtain ⟨rfl, h2, rfl⟩ := hout
              exact go h1 h2
            · cases hout
        · simp only [if_true] at hout
          split at hout
          · rename_i ks1 z1 H1 h1
            simp only [Option.some.injEq, Prod.mk.injEq] at hout
            obtain ⟨rfl, h2, rfl⟩ := hout
            exact go h1 h2
          · cases hout
      · subst hgf
        split at hout
        · split at hout
          · simp only [Option.some.injEq, Prod.mk.injEq] at hout
            obtain ⟨rfl, rfl, rfl⟩ := hout
            exact skip ⟨(fun e => by cases e), (fun _ => rfl)⟩ rfl rfl
          · simp at hout
        · simp only [Bool.false_eq_true, if_false, Option.some.injEq, Prod.mk.injEq] at hout
          obtain ⟨rfl, rfl, rfl⟩ := hout
          exact skip trivial rfl rfl
    · cases hout

theorem SR.drawn {st : St} {a : Act} {w : World} {F : Nat → Prop} {S : Sh} (h : SR N ak w0 F0 S0 H0 st a w F S) (k : Nat) : SR N ak w0 F0 S0 H0 st a { w with drawn := k } F S := by
  have hh : ∀ b, F b → ({ w with drawn := k } : World).heap[b]? = w.heap[b]? := fun _ _ => rfl
  refine ⟨⟨fun id p nd hn => ?_, h.rw.inj, h.rw.froz⟩, ?_, h.size, ⟨h.stp.os, h.stp.tape, h.stp.output, h.stp.size, h.stp.block, h.stp.own, h.stp.frozen, h.stp.keeps⟩, h.kept, h.defers⟩
  · exact RN.mono hh (fun _ h => h) rfl (fun _ _ _ _ => rfl) (fun _ _ => ⟨rfl, fun h => h⟩) (h.rw.nodes id p nd hn)
  · exact TR.mono hh (fun _ h => h) (fun id p nd hn => ⟨rfl, nd, hn, rfl, rfl⟩) h.tr

/-- Any order, in the abstract. -/
def absAny (P : Program) (sp : Nat → Option Spec) (N : Nat) (base : Nat) (ak : List (Nat × Nat)) (ops : Array Oper) (Q : St → Prop) : Nat → Array Bool → St → Prop
  | 0, listed, st => Region.ready .any ops listed = [] ∧ Q st
  | fuel + 1, listed, st => (Region.ready .any ops listed = [] → Q st) ∧
    ∀ i ∈ Region.ready .any ops listed, ∀ o, ops[i]? = some o → ∃ st', stepD P sp N base ak ops.toList o st = some st' ∧ absAny P sp N base ak ops Q fuel (listed.setIfInBounds i true) st'

theorem absAny_sound (hsp : ∀ f s, sp f = some s → Meets P f s) {ops : Array Oper} {Q : St → Prop} {QQ : Exit → Act → World → Prop} (hQ : ∀ st a w F S, Q st → SR N ak w0 F0 S0 H0 st a w F S → QQ .normal a w) :
    ∀ (fuel : Nat) (listed : Array Bool) (st : St) (a : Act) (w : World) (F : Nat → Prop) (S : Sh), absAny P sp N H0.length ak ops Q fuel listed st → SR N ak w0 F0 S0 H0 st a w F S → wpAny P .any ops QQ fuel listed a w
  | 0, listed, st, a, w, F, S, h, hs => ⟨h.1, hQ st a w F S h.2 hs⟩
  | fuel + 1, listed, st, a, w, F, S, h, hs => by
    refine ⟨fun hr => hQ st a w F S (h.1 hr) hs, fun i hi => ?_⟩
    obtain ⟨_, o, ho, _⟩ := mem_ready.1 hi
    obtain ⟨st', h1, h2⟩ := h.2 i hi o ho
    unfold wpOp
    rw [ho]
    exact stepD_sound hsp hs h1 (fun a' w' F' S' h' => absAny_sound hsp hQ fuel _ st' a' w' F' S' h2 h')
end
end Go.Eng

namespace Go.Eng
open Go.RowKit
set_option linter.unusedSectionVars false
set_option linter.unusedVariables false
set_option linter.unusedSimpArgs false
variable [Globs]

/-- What an operation waits for. -/
def waits (o : Oper) : List Nat := (o.after.toList.filter fun e => Region.binds .any e).map (·.on)

def dstOf (ops : List Oper) (i : Nat) : Option Nat := (ops[i]?).bind (·.dst)
def looksOf (ops : List Oper) (i : Nat) : List Nat := match ops[i]? with | some o => looks ops o | none => []
def waitsOf (ops : List Oper) (i : Nat) : List Nat := match ops[i]? with | some o => waits o | none => []
def fltOf (ops : List Oper) (i : Nat) : Bool := match ops[i]? with | some o => isFlt o | none => false

/-- The table of what comes before what is one that the edges bear out. -/
def tblOk (ops : List Oper) (T : List (List Nat)) : Bool :=
  (List.range ops.length).all fun j => (T.getD j []).all fun l => (waitsOf ops j).contains l || (waitsOf ops j).any fun m => (T.getD m []).contains l

/-- All others come before it. -/
def lastOf (n : Nat) (T : List (List Nat)) (i : Nat) : Bool := (List.range n).all fun j => j == i || (T.getD i []).contains j

theorem lastOf_spec {n : Nat} {T : List (List Nat)} {i : Nat} (h : lastOf n T i = true) {j : Nat} (hj : j < n) (hne : j ≠ i) : j ∈ T.getD i [] := by
  have := List.all_eq_true.1 h j (List.mem_range.2 hj)
  simp only [Bool.or_eq_true, beq_iff_eq, List.contains_eq_mem, decide_eq_true_eq] at this
  exact this.resolve_left hne

def dataOk (ops : List Oper) (T : List (List Nat)) (N : Nat) : Bool :=
  (List.range ops.length).all fun i => match dstOf ops i with
    | none => true
    | some d => decide (d < N) && (List.range ops.length).all fun j => (!(looksOf ops j).contains d || (T.getD j []).contains i || lastOf ops.length T i) && (j == i || dstOf ops j != some d)

/-- A plan, from what is done. -/
def planOk (ops : List Oper) (T : List (List Nat)) : List Nat → List Nat → Bool
  | _, [] => true
  | done, i :: r => decide (i < ops.length) && !done.contains i && (T.getD i []).all (fun l => done.contains l) && (waitsOf ops i).all (fun l => done.contains l) &&
      done.all (fun e => fltOf ops e || (T.getD i []).contains e) && planOk ops T (i :: done) r

def regOk (ops : List Oper) (T : List (List Nat)) (N : Nat) (plan : List Nat) : Bool :=
  tblOk ops T && dataOk ops T N && planOk ops T [] plan && (List.range ops.length).all fun i => plan.contains i

/-- An operation gives the same again. -/
def again (P : Program) (sp : Nat → Option Spec) (ops : List Oper) (i : Nat) (st : St) : Prop :=
  match ops[i]? with
  | some o => match outc P sp ops o (prune (looks ops o) st.σ) st.H with
    | some (ks, z, H') => ks = [] ∧ H' = st.H ∧ (match o.dst with | some d => look st.σ d = some z | none => True)
    | none => False
  | none => False

def checks (P : Program) (sp : Nat → Option Spec) (ops : List Oper) (T : List (List Nat)) (i : Nat) (st : St) : List Nat → Prop
  | [] => True
  | j :: r => if fltOf ops j && !(T.getD i []).contains j then again P sp ops j st ∧ checks P sp ops T i st r else checks P sp ops T i st r

def runPlan (P : Program) (sp : Nat → Option Spec) (N : Nat) (base : Nat) (ak : List (Nat × Nat)) (ops : List Oper) (T : List (List Nat)) : List Nat → List Nat → St → (St → Prop) → Prop
  | _, [], st, K => K st
  | done, i :: r, st, K => match ops[i]? with
    | some o => match stepD P sp N base ak ops o st with
      | some st1 => (if fltOf ops i then True else checks P sp ops T i st1 done) ∧ runPlan P sp N base ak ops T (i :: done) r st1 K
      | none => False
    | none => False

theorem checks_spec {P : Program} {sp : Nat → Option Spec} {ops : List Oper} {T : List (List Nat)} {i : Nat} {st : St} : ∀ {done : List Nat}, checks P sp ops T i st done → ∀ j ∈ done, fltOf ops j = true → j ∉ T.getD i [] → again P sp ops j st
  | [], _, j, h, _, _ => by cases h
  | k :: r, h, j, hj, hf, hn => by
    simp only [checks] at h
    split at h
    · rcases List.mem_cons.1 hj with e | hj
      · subst e; exact h.1
      · exact checks_spec h.2 j hj hf hn
    · rename_i hc
      rcases List.mem_cons.1 hj with e | hj
      · subst e
        exact absurd (by rw [hf, Bool.true_and, Bool.not_eq_true', List.contains_eq_mem, decide_eq_false_iff_not]; exact hn) hc
      · exact checks_spec h j hj hf hn

section
variable {P : Program} {sp : Nat → Option Spec} {N : Nat} {base : Nat} {ak : List (Nat × Nat)} {ops : List Oper} {T : List (List Nat)}

theorem tblOk_spec (h : tblOk ops T = true) {j l : Nat} (hj : j < ops.length) (hl : l ∈ T.getD j []) : l ∈ waitsOf ops j ∨ ∃ m ∈ waitsOf ops j, l ∈ T.getD m [] := by
  have h1 := List.all_eq_true.1 h j (List.mem_range.2 hj)
  have h2 := List.all_eq_true.1 h1 l hl
  simp only [Bool.or_eq_true, List.contains_eq_mem, decide_eq_true_eq, List.any_eq_true] at h2
  exact h2

theorem dataOk_spec (h : dataOk ops T N = true) {i d : Nat} (hd : dstOf ops i = some d) : d < N ∧ ∀ j, j < ops.length → (d ∈ looksOf ops j → i ∈ T.getD j [] ∨ lastOf ops.length T i = true) ∧ (j ≠ i → dstOf ops j ≠ some d) := by
  have hi : i < ops.length := by
    unfold dstOf at hd
    rcases Nat.lt_or_ge i ops.length with h | h
    · exact h
    · rw [List.getElem?_eq_none h] at hd; cases hd
  have h1 := List.all_eq_true.1 h i (List.mem_range.2 hi)
  rw [hd] at h1
  simp only [Bool.and_eq_true, decide_eq_true_eq] at h1
  refine ⟨h1.1, fun j hj => ?_⟩
  have h2 := List.all_eq_true.1 h1.2 j (List.mem_range.2 hj)
  simp only [Bool.and_eq_true, Bool.or_eq_true, Bool.not_eq_true', List.contains_eq_mem, decide_eq_false_iff_not, decide_eq_true_eq, beq_iff_eq, bne_iff_ne, ne_eq] at h2
  refine ⟨fun hm => ?_, fun hne => h2.2.resolve_left hne⟩
  rcases h2.1 with (h3 | h3) | h3
  · exact absurd hm h3
  · exact .inl h3
  · exact .inr h3

theorem exec1_flt {o : Oper} (h : isFlt o = true) (c0 : Bool) (σ : List (Nat × V)) (H : Hp) {ks : List (Nat × Nat)} {z : Option V} {H' : Hp} (he : exec1 P sp ops c0 σ H o = some (ks, z, H')) : ks = [] ∧ H' = H := by
  have fin : ∀ {o' : Oper}, (match fltV P c0 σ H o' with | some z => some (([] : List (Nat × Nat)), some z, H) | none => none) = some (ks, z, H') → ks = [] ∧ H' = H := by
    intro o' he
    split at he
    · simp only [Option.some.injEq, Prod.mk.injEq] at he
      exact ⟨he.1.symm, he.2.2.symm⟩
    · cases he
  obtain ⟨dst, op, type, pos, after, guard⟩ := o
  unfold exec1 at he
  split at he
  all_goals first
    | exact fin he
    | (split at he
       · simp only [Option.some.injEq, Prod.mk.injEq] at he; exact ⟨he.1.symm, he.2.2.symm⟩
       · split at he
         · simp only [Option.some.injEq, Prod.mk.injEq] at he; exact ⟨he.1.symm, he.2.2.symm⟩
         · split at he
           · simp only [Option.some.injEq, Prod.mk.injEq] at he; exact ⟨he.1.symm, he.2.2.symm⟩
           · exact fin he)
    | (rename_i hop; simp only at hop; subst hop; simp [isFlt] at h; done)
    | skip
  all_goals (simp only at *; subst_vars; simp [isFlt] at h)

theorem exec2_flt {o : Oper} (h : isFlt o = true) (c0 : Bool) (σ : List (Nat × V)) (H : Hp) {ks : List (Nat × Nat)} {z : Option V} {H' : Hp} (he : exec2 P sp ops c0 σ H o = some (ks, z, H')) : ks = [] ∧ H' = H := by
  unfold exec2 at he
  split at he
  · rename_i r hr
    injection he with he
    subst he
    exact exec1_flt h c0 σ H hr
  · exfalso
    obtain ⟨dst, op, type, pos, after, guard⟩ := o
    unfold execM at he
    dsimp only at he
    split at he <;> first | (simp [isFlt] at h; done) | cases he

theorem outc_flt {o : Oper} (h : isFlt o = true) (σ : List (Nat × V)) (H : Hp) {ks : List (Nat × Nat)} {z : V} {H' : Hp} (he : outc P sp ops o σ H = some (ks, z, H')) : ks = [] ∧ H' = H := by
  unfold outc at he
  split at he
  · split at he
    · rename_i h1
      simp only [Option.some.injEq, Prod.mk.injEq] at he
      obtain ⟨rfl, _, rfl⟩ := he
      exact exec2_flt h true σ H h1
    · cases he
  · split at he
    · rw [if_pos h] at he
      split at he
      · simp only [Option.some.injEq, Prod.mk.injEq] at he
        exact ⟨he.1.symm, he.2.2.symm⟩
      · split at he
        · split at he
          · rename_i h1
            simp only [Option.some.injEq, Prod.mk.injEq] at he
            obtain ⟨rfl, _, rfl⟩ := he
            exact exec2_flt h true σ H h1
          · cases he
        · cases he
    · cases he

theorem prune_congr : ∀ {ts : List Nat} {σ σ' : List (Nat × V)}, (∀ t ∈ ts, look σ t = look σ' t) → prune ts σ = prune ts σ'
  | [], _, _, _ => rfl
  | t :: ts, σ, σ', h => by
    simp only [prune]
    rw [h t (by simp), prune_congr (fun u hu => h u (by simp [hu]))]

/-- How a run of any order stands to the run of the plan. -/
structure Inv (P : Program) (sp : Nat → Option Spec) (N : Nat) (base : Nat) (ak : List (Nat × Nat)) (ops : List Oper) (T : List (List Nat)) (K : St → Prop) (D r : List Nat) (t : St) (L : Nat → Prop) (s : St) : Prop where
  plan : planOk ops T D r = true
  noDup : ∀ i ∈ D, ∀ l ∈ T.getD i [], l ∈ D
  run : runPlan P sp N base ak ops T D r t K
  closed : ∀ j, L j → ∀ l ∈ T.getD j [], L l
  heap : s.H = t.H
  rest : ∀ u, (∀ i, dstOf ops i ≠ some u) → look s.σ u = look t.σ u
  same : ∀ i d, L i → dstOf ops i = some d → look s.σ d = look t.σ d
  sub : ∀ i, L i → i ∈ D
  ag : ∀ i ∈ D, ¬ L i → fltOf ops i = true ∧ again P sp ops i t
  dlt : ∀ i ∈ D, i < ops.length
  irr : ∀ i ∈ D, i ∉ T.getD i []
  old : ∀ i d, i ∉ D → dstOf ops i = some d → look s.σ d = look t.σ d
  fin : ∀ i ∈ D, lastOf ops.length T i = true → L i

variable {K : St → Prop} {D r : List Nat} {t s : St} {L : Nat → Prop}

theorem planOk_cons {i : Nat} (h : planOk ops T D (i :: r) = true) : i < ops.length ∧ i ∉ D ∧ (∀ l ∈ T.getD i [], l ∈ D) ∧ (∀ l ∈ waitsOf ops i, l ∈ D) ∧ (∀ e ∈ D, fltOf ops e = true ∨ e ∈ T.getD i []) ∧ planOk ops T (i :: D) r = true := by
  simp only [planOk, Bool.and_eq_true, decide_eq_true_eq, Bool.not_eq_true', List.contains_eq_mem, decide_eq_false_iff_not, List.all_eq_true, Bool.or_eq_true] at h
  exact ⟨h.1.1.1.1.1, h.1.1.1.1.2, h.1.1.1.2, h.1.1.2, h.1.2, h.2⟩

theorem look_put {d : Option Nat} {z : V} {H : Hp} {σ : List (Nat × V)} {st : St} (h : put N d z H σ = some st) : st.H = H ∧ ∀ u, look st.σ u = if d = some u then some z else look σ u := by
  unfold put at h
  split at h
  · rename_i σ' hσ
    injection h with h
    subst h
    refine ⟨rfl, fun u => ?_⟩
    unfold putσ at hσ
    split at hσ
    · split at hσ
      · injection hσ with hσ
        subst hσ
        rw [look_cons]
        simp only [Option.some.injEq]
      · cases hσ
    · injection hσ with hσ
      subst hσ
      simp
  · cases h

theorem put_ok {d : Option Nat} (hd : ∀ u, d = some u → u < N) (z : V) (H : Hp) (σ : List (Nat × V)) : ∃ st, put N d z H σ = some st := by
  unfold put putσ
  cases d with
  | none => exact ⟨_, rfl⟩
  | some u => simp only; rw [if_pos (hd u rfl)]; exact ⟨_, rfl⟩

/-- The plan goes on by an operation that changes nothing. -/
theorem Inv.advance {f : Nat} (hda : dataOk ops T N = true) (h : Inv P sp N base ak ops T K D (f :: r) t L s) (hf : fltOf ops f = true) (hnl : lastOf ops.length T f ≠ true) : ∃ t', Inv P sp N base ak ops T K (f :: D) r t' L s := by
  obtain ⟨hlt, hnd, hT, _, _, hpl⟩ := planOk_cons h.plan
  have hrun := h.run
  simp only [runPlan] at hrun
  split at hrun
  case h_2 => cases hrun
  rename_i o ho
  split at hrun
  case h_2 => cases hrun
  rename_i t1 hst
  have hfo : isFlt o = true := by unfold fltOf at hf; rw [ho] at hf; exact hf
  have hst0 := hst
  unfold stepD at hst
  split at hst
  case h_2 => cases hst
  rename_i ks z H' hout
  obtain ⟨rfl, rfl⟩ := outc_flt hfo _ _ hout
  split at hst
  case isFalse => cases hst
  have hkill : kill [] t.σ = t.σ := rfl
  rw [hkill] at hst
  obtain ⟨e1, e2⟩ := look_put hst
  have hdst : dstOf ops f = o.dst := by unfold dstOf; rw [ho]; rfl
  have other : ∀ u, dstOf ops f ≠ some u → look t1.σ u = look t.σ u := fun u hu => by rw [e2 u, if_neg (by rw [← hdst]; exact hu)]
  have keepP : ∀ i o', i < ops.length → ops[i]? = some o' → f ∉ T.getD i [] → prune (looks ops o') t1.σ = prune (looks ops o') t.σ := by
    intro i o' hi ho' hn
    refine prune_congr fun u hu => other u fun hd => ?_
    refine hn ((((dataOk_spec hda hd).2 i hi).1 ?_).resolve_right hnl)
    unfold looksOf; rw [ho']; exact hu
  have hfT : f ∉ T.getD f [] := fun hm => hnd (hT f hm)
  refine ⟨t1, hpl, ?_, hrun.2, h.closed, h.heap.trans e1.symm, fun u hu => (h.rest u hu).trans (other u (hu f)).symm, fun i d hi hd => ?_, fun i hi => List.mem_cons_of_mem _ (h.sub i hi), fun i hi hL => ?_, ?_, ?_, fun i d hi hd => ?_, fun i hi hfin => ?_⟩
  · intro i hi l hl
    rcases List.mem_cons.1 hi with e | hi
    · subst e; exact List.mem_cons_of_mem _ (hT l hl)
    · exact List.mem_cons_of_mem _ (h.noDup i hi l hl)
  · refine (h.same i d hi hd).trans (other d fun hd' => ?_).symm
    have hne : i ≠ f := fun e => hnd (e ▸ h.sub i hi)
    exact ((dataOk_spec hda hd').2 i (h.dlt i (h.sub i hi))).2 hne hd
  · rcases List.mem_cons.1 hi with e | hi
    · subst e
      refine ⟨hf, ?_⟩
      unfold again
      rw [ho]
      simp only
      rw [keepP _ o hlt ho hfT, e1, hout]
      refine ⟨rfl, rfl, ?_⟩
      split
      · rename_i d hd
        rw [e2 d, if_pos hd]
      · trivial
    · obtain ⟨g1, g2⟩ := h.ag i hi hL
      refine ⟨g1, ?_⟩
      have hn : f ∉ T.getD i [] := fun hm => hnd (h.noDup i hi f hm)
      have hil := h.dlt i hi
      unfold again at g2 ⊢
      have ho' : ops[i]? = some ops[i] := List.getElem?_eq_getElem hil
      rw [ho'] at g2 ⊢
      simp only at g2 ⊢
      rw [keepP i _ hil ho' hn, e1]
      split at g2
      · rename_i ks' z' H'' hout'
        refine ⟨g2.1, g2.2.1, ?_⟩
        split
        · rename_i d hd
          have := g2.2.2
          rw [hd] at this
          refine (other d fun hd' => ?_).trans this
          have hne : i ≠ f := fun e => hnd (e ▸ hi)
          exact ((dataOk_spec hda hd').2 i hil).2 hne (by unfold dstOf; rw [ho']; exact hd)
        · trivial
      · exact g2.elim
  · intro i hi
    rcases List.mem_cons.1 hi with e | hi
    · subst e; exact hlt
    · exact h.dlt i hi
  · intro i hi
    rcases List.mem_cons.1 hi with e | hi
    · subst e; exact hfT
    · exact h.irr i hi
  · simp only [List.mem_cons, not_or] at hi
    refine (h.old i d hi.2 hd).trans (other d fun hd' => ?_).symm
    have hil : i < ops.length := by
      unfold dstOf at hd
      rcases Nat.lt_or_ge i ops.length with h | h
      · exact h
      · rw [List.getElem?_eq_none h] at hd; cases hd
    exact ((dataOk_spec hda hd').2 i hil).2 hi.1 hd
  · rcases List.mem_cons.1 hi with e | hi
    · subst e; exact absurd hfin hnl
    · exact h.fin i hi hfin

/-- What an operation reads is the same here and there. -/
theorem Inv.reads {i : Nat} {o : Oper} (hda : dataOk ops T N = true) (h : Inv P sp N base ak ops T K D r t L s) (ho : ops[i]? = some o) (hLi : ¬ L i) (hT : ∀ l ∈ T.getD i [], L l) : prune (looks ops o) s.σ = prune (looks ops o) t.σ := by
  refine prune_congr fun u hu => ?_
  have hi : i < ops.length := by
    rcases Nat.lt_or_ge i ops.length with h | h
    · exact h
    · rw [List.getElem?_eq_none h] at ho; cases ho
  by_cases hx : ∃ j, dstOf ops j = some u
  · obtain ⟨j, hj⟩ := hx
    rcases ((dataOk_spec hda hj).2 i hi).1 (by unfold looksOf; rw [ho]; exact hu) with this | this
    · exact h.same j u (hT j this) hj
    · refine h.old j u (fun hjD => ?_) hj
      have hLj := h.fin j hjD this
      by_cases e : i = j
      · exact hLi (e ▸ hLj)
      · exact hLi (h.closed j hLj i (lastOf_spec this hi e))
  · exact h.rest u fun j hj => hx ⟨j, hj⟩

/-- An operation that the plan has had. -/
theorem Inv.late {i : Nat} {o : Oper} (hda : dataOk ops T N = true) (h : Inv P sp N base ak ops T K D r t L s) (hi : i ∈ D) (hL : ¬ L i) (ho : ops[i]? = some o) (hT : ∀ l ∈ T.getD i [], L l) :
    ∃ s', stepD P sp N base ak ops o s = some s' ∧ Inv P sp N base ak ops T K D r t (fun j => L j ∨ j = i) s' := by
  obtain ⟨hf, hag⟩ := h.ag i hi hL
  have hdst : dstOf ops i = o.dst := by unfold dstOf; rw [ho]; rfl
  unfold again at hag
  rw [ho] at hag
  simp only at hag
  split at hag
  case h_2 => cases hag
  rename_i ks z H' hout
  obtain ⟨rfl, rfl, hz⟩ := hag
  have hil := h.dlt i hi
  obtain ⟨s', hs'⟩ := put_ok (N := N) (d := o.dst) (fun u hu => (dataOk_spec hda (hdst.trans hu)).1) z t.H s.σ
  refine ⟨s', ?_, ?_⟩
  · unfold stepD
    rw [h.reads hda ho hL hT, h.heap, hout]
    exact hs'
  · obtain ⟨e1, e2⟩ := look_put hs'
    refine ⟨h.plan, h.noDup, h.run, fun j hj l hl => ?_, e1, fun u hu => ?_, fun j d hj hd => ?_, fun j hj => ?_, fun j hj hn => h.ag j hj fun hl => hn (.inl hl), h.dlt, h.irr, fun j d hj hd => ?_, fun j hj hfin => .inl (h.fin j hj hfin)⟩
    · rcases hj with hj | rfl
      · exact .inl (h.closed j hj l hl)
      · exact .inl (hT l hl)
    · rw [e2 u, if_neg (by rw [← hdst]; exact hu i)]; exact h.rest u hu
    · rcases hj with hj | rfl
      · have hne : j ≠ i := fun e => hL (e ▸ hj)
        rw [e2 d, if_neg]
        · exact h.same j d hj hd
        · intro hd'
          exact ((dataOk_spec hda (hdst.trans hd')).2 j (h.dlt j (h.sub j hj))).2 hne hd
      · rw [hdst] at hd
        rw [e2 d, if_pos hd]
        rw [hd] at hz
        exact hz.symm
    · rcases hj with hj | rfl
      · exact h.sub j hj
      · exact hi
    · have hne : j ≠ i := fun e => hj (e ▸ hi)
      have hjl : j < ops.length := by
        unfold dstOf at hd
        rcases Nat.lt_or_ge j ops.length with h | h
        · exact h
        · rw [List.getElem?_eq_none h] at hd; cases hd
      rw [e2 d, if_neg]
      · exact h.old j d hj hd
      · intro hd'
        exact ((dataOk_spec hda (hdst.trans hd')).2 j hjl).2 hne hd

/-- The next effect. -/
theorem Inv.effect {i : Nat} {o : Oper} (hda : dataOk ops T N = true) (h : Inv P sp N base ak ops T K D (i :: r) t L s) (hf : fltOf ops i = false ∨ ∀ j, j < ops.length → j ≠ i → L j) (hLi : ¬ L i) (ho : ops[i]? = some o) (hT : ∀ l ∈ T.getD i [], L l) :
    ∃ s' t', stepD P sp N base ak ops o s = some s' ∧ Inv P sp N base ak ops T K (i :: D) r t' (fun j => L j ∨ j = i) s' := by
  obtain ⟨hlt, hnd, hTD, _, _, hpl⟩ := planOk_cons h.plan
  have hdst : dstOf ops i = o.dst := by unfold dstOf; rw [ho]; rfl
  have hrun := h.run
  simp only [runPlan] at hrun
  rw [ho] at hrun
  simp only at hrun
  split at hrun
  case h_2 => cases hrun
  rename_i t1 hst
  obtain ⟨hchk0, hrest⟩ := hrun
  have hchk : (∀ j, j < ops.length → j ≠ i → L j) ∨ checks P sp ops T i t1 D := by
    rcases hf with hf | hf
    · rw [hf] at hchk0; exact .inr hchk0
    · exact .inl hf
  unfold stepD at hst
  split at hst
  case h_2 => cases hst
  rename_i ks z H' hout
  split at hst
  case isFalse => cases hst
  rename_i hal
  obtain ⟨s', hs'⟩ := put_ok (N := N) (d := o.dst) (fun u hu => (dataOk_spec hda (hdst.trans hu)).1) z H' (kill ks s.σ)
  obtain ⟨e1, e2⟩ := look_put hs'
  obtain ⟨f1, f2⟩ := look_put hst
  refine ⟨s', t1, ?_, hpl, ?_, hrest, fun j hj l hl => ?_, e1.trans f1.symm, fun u hu => ?_, fun j d hj hd => ?_, fun j hj => ?_, fun j hj hn => ?_, ?_, ?_, fun j d hj hd => ?_, fun j hj hfin => ?_⟩
  · unfold stepD
    rw [h.reads hda ho hLi hT, h.heap, hout]
    simp only
    rw [if_pos hal]
    exact hs'
  · intro j hj l hl
    rcases List.mem_cons.1 hj with e | hj
    · subst e; exact List.mem_cons_of_mem _ (hTD l hl)
    · exact List.mem_cons_of_mem _ (h.noDup j hj l hl)
  · rcases hj with hj | rfl
    · exact .inl (h.closed j hj l hl)
    · exact .inl (hT l hl)
  · have : o.dst ≠ some u := by rw [← hdst]; exact hu i
    rw [e2 u, f2 u, if_neg this, if_neg this, look_kill, look_kill, h.rest u hu]
  · rcases hj with hj | rfl
    · have hne : j ≠ i := fun e => hnd (e ▸ h.sub j hj)
      have : o.dst ≠ some d := fun hd' => ((dataOk_spec hda (hdst.trans hd')).2 j (h.dlt j (h.sub j hj))).2 hne hd
      rw [e2 d, f2 d, if_neg this, if_neg this, look_kill, look_kill, h.same j d hj hd]
    · rw [hdst] at hd
      rw [e2 d, f2 d, if_pos hd, if_pos hd]
  · rcases hj with hj | rfl
    · exact List.mem_cons_of_mem _ (h.sub j hj)
    · exact List.mem_cons_self ..
  · rcases List.mem_cons.1 hj with e | hj
    · exact absurd (.inr e) hn
    · have hnL : ¬ L j := fun hl => hn (.inl hl)
      have hfj := (h.ag j hj hnL).1
      rcases hchk with hchk | hchk
      · exact absurd (hchk j (h.dlt j hj) fun e => hnd (e ▸ hj)) hnL
      · exact ⟨hfj, checks_spec hchk j hj hfj fun hm => hnL (hT j hm)⟩
  · intro j hj
    rcases List.mem_cons.1 hj with e | hj
    · subst e; exact hlt
    · exact h.dlt j hj
  · intro j hj
    rcases List.mem_cons.1 hj with e | hj
    · subst e; exact fun hm => hnd (hTD _ hm)
    · exact h.irr j hj
  · simp only [List.mem_cons, not_or] at hj
    have hjl : j < ops.length := by
      unfold dstOf at hd
      rcases Nat.lt_or_ge j ops.length with h | h
      · exact h
      · rw [List.getElem?_eq_none h] at hd; cases hd
    have : o.dst ≠ some d := fun hd' => ((dataOk_spec hda (hdst.trans hd')).2 j hjl).2 hj.1 hd
    rw [e2 d, f2 d, if_neg this, if_neg this, look_kill, look_kill, h.old j d hj.2 hd]
  · rcases List.mem_cons.1 hj with e | hj
    · exact .inr e
    · exact .inl (h.fin j hj hfin)

/-- Any operation that is ready. -/
theorem Inv.step {i : Nat} {o : Oper} (hda : dataOk ops T N = true) (ho : ops[i]? = some o) (hL : ¬ L i) (hT : ∀ l ∈ T.getD i [], L l) : ∀ {r D : List Nat} {t : St}, i ∈ D ∨ i ∈ r → Inv P sp N base ak ops T K D r t L s →
    ∃ D' r' t' s', stepD P sp N base ak ops o s = some s' ∧ Inv P sp N base ak ops T K D' r' t' (fun j => L j ∨ j = i) s' ∧ (∀ j, (j ∈ D' ∨ j ∈ r') ↔ (j ∈ D ∨ j ∈ r))
  | [], D, t, hm, h => by
    have hi : i ∈ D := hm.resolve_right (by simp)
    obtain ⟨s', h1, h2⟩ := h.late hda hi hL ho hT
    exact ⟨D, [], t, s', h1, h2, fun j => Iff.rfl⟩
  | f :: r, D, t, hm, h => by
    by_cases hi : i ∈ D
    · obtain ⟨s', h1, h2⟩ := h.late hda hi hL ho hT
      exact ⟨D, f :: r, t, s', h1, h2, fun j => Iff.rfl⟩
    · have hsw : ∀ j, (j ∈ f :: D ∨ j ∈ r) ↔ (j ∈ D ∨ j ∈ f :: r) := by
        intro j
        simp only [List.mem_cons]
        constructor
        · rintro ((h | h) | h)
          · exact .inr (.inl h)
          · exact .inl h
          · exact .inr (.inr h)
        · rintro (h | h | h)
          · exact .inl (.inr h)
          · exact .inl (.inl h)
          · exact .inr h
      cases hf : fltOf ops f with
      | true =>
        by_cases hlast : lastOf ops.length T f = true
        · have hil : i < ops.length := by
            rcases Nat.lt_or_ge i ops.length with h | h
            · exact h
            · rw [List.getElem?_eq_none h] at ho; cases ho
          have hif : i = f := by
            by_cases e : i = f
            · exact e
            · obtain ⟨_, _, hTD, _⟩ := planOk_cons h.plan
              exact absurd (hTD i (lastOf_spec hlast hil e)) hi
          subst hif
          obtain ⟨s', t', g1, g2⟩ := h.effect hda (.inr fun j hj hne => hT j (lastOf_spec hlast hj hne)) hL ho hT
          exact ⟨_, _, t', s', g1, g2, hsw⟩
        obtain ⟨t', h'⟩ := h.advance hda hf hlast
        obtain ⟨D', r', t'', s', g1, g2, g3⟩ := Inv.step hda ho hL hT (r := r) (D := f :: D) (t := t') ((hsw i).2 hm) h'
        exact ⟨D', r', t'', s', g1, g2, fun j => (g3 j).trans (hsw j)⟩
      | false =>
        have hif : i = f := by
          rcases List.mem_cons.1 (hm.resolve_left hi) with e | hr
          · exact e
          · -- then f comes before i
            exfalso
            have hfi : ∀ {r' D' : List Nat}, planOk ops T D' r' = true → f ∈ D' → i ∈ r' → f ∈ T.getD i [] := by
              intro r'
              induction r' with
              | nil => intro D' _ _ hm; cases hm
              | cons g r' ih =>
                intro D' hp hfD hm
                obtain ⟨_, _, _, _, h5, h6⟩ := planOk_cons hp
                rcases List.mem_cons.1 hm with e | hm
                · subst e
                  rcases h5 f hfD with h5 | h5
                  · rw [hf] at h5; cases h5
                  · exact h5
                · exact ih h6 (List.mem_cons_of_mem _ hfD) hm
            obtain ⟨_, hnd, _, _, _, hpl⟩ := planOk_cons h.plan
            have := hfi hpl (List.mem_cons_self ..) hr
            exact hnd (h.sub f (hT f this))
        subst hif
        obtain ⟨s', t', g1, g2⟩ := h.effect hda (.inl hf) hL ho hT
        exact ⟨_, _, t', s', g1, g2, hsw⟩

theorem count_set : ∀ (l : List Bool) (i : Nat), l[i]? = some false → (l.set i true).count false + 1 = l.count false
  | [], i, h => by simp at h
  | b :: r, 0, h => by
    simp only [List.getElem?_cons_zero, Option.some.injEq] at h
    subst h
    simp
  | b :: r, i + 1, h => by
    have := count_set r i (by simpa using h)
    simp only [List.set_cons_succ, List.count_cons]
    omega

theorem count_zero : ∀ (l : List Bool), l.count false = 0 → ∀ i, i < l.length → l[i]? = some true
  | [], _, i, h => by simp at h
  | b :: r, h, i, hi => by
    cases b with
    | false => simp at h
    | true =>
      cases i with
      | zero => rfl
      | succ i =>
        simp only [List.getElem?_cons_succ]
        exact count_zero r (by simpa using h) i (by simpa using hi)

def Li (listed : Array Bool) (j : Nat) : Prop := listed.getD j false = true

theorem Li_set (listed : Array Bool) (i : Nat) (hi : i < listed.size) (j : Nat) : Li (listed.setIfInBounds i true) j ↔ Li listed j ∨ j = i := by
  unfold Li
  by_cases e : i = j
  · subst e
    simp [hi]
  · rw [getD_set_ne false e]
    constructor
    · exact .inl
    · rintro (h | h)
      · exact h
      · exact absurd h.symm e

theorem Inv.congr {L' : Nat → Prop} (h : Inv P sp N base ak ops T K D r t L s) (e : ∀ j, L' j ↔ L j) : Inv P sp N base ak ops T K D r t L' s :=
  ⟨h.plan, h.noDup, h.run, fun j hj l hl => (e l).2 (h.closed j ((e j).1 hj) l hl), h.heap, h.rest, fun i d hi hd => h.same i d ((e i).1 hi) hd, fun i hi => h.sub i ((e i).1 hi), fun i hi hn => h.ag i hi (fun hl => hn ((e i).2 hl)), h.dlt, h.irr, h.old, fun i hi hf => (e i).2 (h.fin i hi hf)⟩

/-- When nothing is ready all is done. -/
theorem all_done {opa : Array Oper} {listed : Array Bool} (hs : listed.size = opa.size) (hr : Region.ready .any opa listed = []) : ∀ {pl D0 : List Nat}, planOk opa.toList T D0 pl = true → (∀ j ∈ D0, Li listed j) → ∀ j ∈ pl, Li listed j
  | [], _, _, _, j, hj => by cases hj
  | i :: pl, D0, hp, hd, j, hj => by
    obtain ⟨hlt, _, _, hw, _, hp'⟩ := planOk_cons hp
    have hlt' : i < opa.size := by simpa using hlt
    have hi : Li listed i := by
      rcases hb : listed.getD i true with _ | _
      · exfalso
        have : i ∈ Region.ready .any opa listed := by
          refine mem_ready.2 ⟨hb, opa[i], Array.getElem?_eq_getElem hlt', fun e he hbd => ?_⟩
          refine hd e.on (hw e.on ?_)
          unfold waitsOf
          have : opa.toList[i]? = some opa[i] := by simp
          rw [this]
          exact List.mem_map.2 ⟨e, List.mem_filter.2 ⟨by simpa using he, hbd⟩, rfl⟩
        rw [hr] at this
        cases this
      · unfold Li
        have hil : i < listed.size := by omega
        simp [hil] at hb ⊢
        exact hb
    rcases List.mem_cons.1 hj with e | hj
    · subst e; exact hi
    · exact all_done hs hr hp' (fun k hk => (List.mem_cons.1 hk).elim (fun e => e ▸ hi) (hd k)) j hj

theorem Inv.any {opa : Array Oper} {pl : List Nat} (hda : dataOk opa.toList T N = true) (htb : tblOk opa.toList T = true) (hpl : planOk opa.toList T [] pl = true) (hall : ∀ j, j < opa.size → j ∈ pl) :
    ∀ (fuel : Nat) (listed : Array Bool) (D r : List Nat) (t s : St), listed.size = opa.size → listed.toList.count false ≤ fuel → (∀ j, j < opa.size → j ∈ D ∨ j ∈ r) → Inv P sp N base ak opa.toList T K D r t (Li listed) s →
    absAny P sp N base ak opa (fun s => ∃ t, K t ∧ s.H = t.H ∧ ∀ u, look s.σ u = look t.σ u) fuel listed s := by
  have fin : ∀ (listed : Array Bool) (D r : List Nat) (t s : St), (∀ j, j < opa.size → Li listed j) → Inv P sp N base ak opa.toList T K D r t (Li listed) s → ∃ t, K t ∧ s.H = t.H ∧ ∀ u, look s.σ u = look t.σ u := by
    intro listed D r t s hl h
    have hr : r = [] := by
      cases r with
      | nil => rfl
      | cons f r =>
        obtain ⟨hlt, hnd, _⟩ := planOk_cons h.plan
        exact absurd (h.sub f (hl f (by simpa using hlt))) hnd
    subst hr
    refine ⟨t, h.run, h.heap, fun u => ?_⟩
    by_cases hx : ∃ j, dstOf opa.toList j = some u
    · obtain ⟨j, hj⟩ := hx
      have hjl : j < opa.size := by
        unfold dstOf at hj
        rcases Nat.lt_or_ge j opa.toList.length with h | h
        · simpa using h
        · rw [List.getElem?_eq_none h] at hj; cases hj
      exact h.same j u (hl j hjl) hj
    · exact h.rest u fun j hj => hx ⟨j, hj⟩
  intro fuel
  induction fuel with
  | zero =>
    intro listed D r t s hs hc hm h
    have hl : ∀ j, j < opa.size → listed.toList[j]? = some true := fun j hj => count_zero _ (by omega) j (by simp; omega)
    refine ⟨?_, fin listed D r t s (fun j hj => ?_) h⟩
    · cases hr : Region.ready .any opa listed with
      | nil => rfl
      | cons i is =>
        exfalso
        have hi : i ∈ Region.ready .any opa listed := by rw [hr]; exact List.mem_cons_self ..
        obtain ⟨h0, o, ho, _⟩ := mem_ready.1 hi
        have hlt := (Array.getElem?_eq_some_iff.1 ho).1
        have h1 := hl i hlt
        have hil : i < listed.size := by omega
        simp [hil] at h0 h1
        rw [h0] at h1
        cases h1
    · have h1 := hl j hj
      have hil : j < listed.size := by omega
      unfold Li
      simp [hil] at h1 ⊢
      exact h1
  | succ fuel ih =>
    intro listed D r t s hs hc hm h
    refine ⟨fun hr => fin listed D r t s (fun j hj => all_done hs hr hpl (by simp) j (hall j hj)) h, fun i hi o ho => ?_⟩
    obtain ⟨h0, o', ho', hall'⟩ := mem_ready.1 hi
    rw [ho] at ho'
    injection ho' with ho'
    subst ho'
    have hlt : i < opa.size := (Array.getElem?_eq_some_iff.1 ho).1
    have hil : i < listed.size := by omega
    have hL : ¬ Li listed i := by
      unfold Li
      simp [hil] at h0 ⊢
      exact h0
    have hol : opa.toList[i]? = some o := by simpa using ho
    have hw : ∀ m ∈ waitsOf opa.toList i, Li listed m := by
      intro m hm
      unfold waitsOf at hm
      rw [hol] at hm
      obtain ⟨e, he, rfl⟩ := List.mem_map.1 hm
      obtain ⟨he1, he2⟩ := List.mem_filter.1 he
      exact hall' e (by simpa using he1) he2
    have hT : ∀ l ∈ T.getD i [], Li listed l := by
      intro l hl
      rcases tblOk_spec htb (by simpa using hlt) hl with h1 | ⟨m, h1, h2⟩
      · exact hw l h1
      · exact h.closed m (hw m h1) l h2
    obtain ⟨D', r', t', s', g1, g2, g3⟩ := Inv.step hda hol hL hT (hm i hlt) h
    refine ⟨s', g1, ih _ D' r' t' s' (by simpa using hs) ?_ (fun j hj => (g3 j).2 (hm j hj)) (g2.congr (Li_set listed i hil))⟩
    have h00 : listed.toList[i]? = some false := by
      simp [hil] at h0
      simp [hil, h0]
    have := count_set listed.toList i h00
    rw [Array.toList_setIfInBounds]
    omega

theorem SR.congr {w0 : World} {F0 : Nat → Prop} {S0 : Sh} {H0 : Hp} {a : Act} {w : World} {F : Nat → Prop} {S : Sh} (h : SR N ak w0 F0 S0 H0 s a w F S) (e1 : s.H = t.H) (e2 : ∀ u, look s.σ u = look t.σ u) : SR N ak w0 F0 S0 H0 t a w F S := by
  obtain ⟨σ, H⟩ := s
  obtain ⟨σ', H'⟩ := t
  simp only at e1 e2
  subst e1
  exact ⟨h.rw, ⟨fun u x hx => h.tr.tmp u x ((e2 u).trans hx), h.tr.glob⟩, h.size, h.stp, h.kept, h.defers⟩

/-- THE RULE. -/
def dr (P : Program) (sp : Nat → Option Spec) (N : Nat) (base : Nat) (ak : List (Nat × Nat)) (id : Nat) (ops : Array Oper) (st : St) (K : St → Prop) : Prop :=
  ∃ T plan, regOk ops.toList T N plan = true ∧ runPlan P sp N base ak ops.toList T [] plan st K

theorem dr_ok (hm : P.follows .mixedOrders = true) (hsp : ∀ f s, sp f = some s → Meets P f s) (N : Nat) (base : Nat) (ak : List (Nat × Nat)) : DrOk P sp N base ak (dr P sp N base ak) := by
  rintro id ops st K ⟨T, plan, hok, hrun⟩ w0 F0 S0 H0 rfl a w F S Q hs hq
  simp only [regOk, Bool.and_eq_true, List.all_eq_true, List.mem_range, List.contains_eq_mem, decide_eq_true_eq] at hok
  obtain ⟨⟨⟨h1, h2⟩, h3⟩, h4⟩ := hok
  have hall : ∀ j, j < ops.size → j ∈ plan := fun j hj => h4 j (by simpa using hj)
  refine wp_region_any hm ?_
  refine absAny_sound hsp (Q := fun s => ∃ t, K t ∧ s.H = t.H ∧ ∀ u, look s.σ u = look t.σ u) (fun st a w F S hQ h => ?_) ops.size _ st a _ F S ?_ (hs.drawn _)
  · obtain ⟨t, g1, g2, g3⟩ := hQ
    exact hq t a w F S g1 (h.congr g2 g3)
  · refine Inv.any h2 h1 h3 hall ops.size _ [] plan st st (by simp) (by simp) (fun j hj => .inr (hall j hj)) ?_
    have hn : ∀ j, ¬ Li (Array.replicate ops.size false) j := by
      intro j
      unfold Li
      rcases Nat.lt_or_ge j ops.size with h | h <;> simp [h]
    exact ⟨h3, by simp, hrun, fun j hj => (hn j hj).elim, rfl, fun _ _ => rfl, fun i d hi => (hn i hi).elim, fun i hi => (hn i hi).elim, by simp, by simp, by simp, fun _ _ _ _ => rfl, by simp⟩
end
end Go.Eng

namespace Go.Eng
open Go.RowKit
set_option linter.unusedSectionVars false
set_option linter.unusedVariables false
set_option linter.unusedSimpArgs false
variable [Globs]

section
variable {P : Program} {t : TypeId} {x y : Operand} {k : IntKind} {a b : Int}

@[simp] theorem p_add : pureRun P (do eqGuard .add t x y (.int k a) (.int k b); binOp .add t (.int k a) (.int k b)) = some (.int k (k.wrap (a + b))) := by
  simp [eqGuard, binOp, Op.intArith, pureRun_bind, pureRun_pure]
@[simp] theorem p_sub : pureRun P (do eqGuard .sub t x y (.int k a) (.int k b); binOp .sub t (.int k a) (.int k b)) = some (.int k (k.wrap (a - b))) := by
  simp [eqGuard, binOp, Op.intArith, pureRun_bind, pureRun_pure]
@[simp] theorem p_mul : pureRun P (do eqGuard .mul t x y (.int k a) (.int k b); binOp .mul t (.int k a) (.int k b)) = some (.int k (k.wrap (a * b))) := by
  simp [eqGuard, binOp, Op.intArith, pureRun_bind, pureRun_pure]
@[simp] theorem p_lss : pureRun P (do eqGuard .lss t x y (.int k a) (.int k b); binOp .lss t (.int k a) (.int k b)) = some (.bool (decide (a < b))) := by
  simp [eqGuard, binOp, Op.intCmp, pureRun_bind, pureRun_pure]
@[simp] theorem p_leq : pureRun P (do eqGuard .leq t x y (.int k a) (.int k b); binOp .leq t (.int k a) (.int k b)) = some (.bool (decide (a ≤ b))) := by
  simp [eqGuard, binOp, Op.intCmp, pureRun_bind, pureRun_pure]
@[simp] theorem p_gtr : pureRun P (do eqGuard .gtr t x y (.int k a) (.int k b); binOp .gtr t (.int k a) (.int k b)) = some (.bool (decide (b < a))) := by
  simp [eqGuard, binOp, Op.intCmp, pureRun_bind, pureRun_pure]
@[simp] theorem p_geq : pureRun P (do eqGuard .geq t x y (.int k a) (.int k b); binOp .geq t (.int k a) (.int k b)) = some (.bool (decide (b ≤ a))) := by
  simp [eqGuard, binOp, Op.intCmp, pureRun_bind, pureRun_pure]
@[simp] theorem p_eql : pureRun P (do eqGuard .eql t x y (.int k a) (.int k b); binOp .eql t (.int k a) (.int k b)) = some (.bool (decide (a = b))) := by
  simp [eqGuard, binOp, Op.intCmp, pureRun_bind, pureRun_pure]; rfl
@[simp] theorem p_neq : pureRun P (do eqGuard .neq t x y (.int k a) (.int k b); binOp .neq t (.int k a) (.int k b)) = some (.bool (decide (a ≠ b))) := by
  simp [eqGuard, binOp, Op.intCmp, pureRun_bind, pureRun_pure, bne]; rfl
theorem w64 {n : Int} (h1 : -9223372036854775808 ≤ n) (h2 : n ≤ 9223372036854775807) : IntKind.i64.wrap n = n := by rw [IntKind.wrap_i64]; omega
theorem w32 {n : Int} (h1 : -2147483648 ≤ n) (h2 : n ≤ 2147483647) : IntKind.i32.wrap n = n := by rw [IntKind.wrap_i32]; omega
theorem w8 {n : Int} (h1 : 0 ≤ n) (h2 : n ≤ 255) : IntKind.u8.wrap n = n := by rw [IntKind.wrap_u8]; omega
@[simp] theorem p_not {b : Bool} : pureRun P (Op.unary .not (.bool b)) = some (.bool !b) := rfl
end
end Go.Eng

namespace Go.Eng
open Go.RowKit
set_option linter.unusedSectionVars false
set_option linter.unusedVariables false
set_option linter.unusedSimpArgs false
variable [Globs]

/-- A value that is sure under a condition. -/
def okIf (c0 c : Bool) (x : V) : Option V := if !c0 || c then some x else none

theorem okIf_of {c0 c : Bool} {x : V} (h : c0 = true → c = true) : okIf c0 c x = some x := by
  unfold okIf
  cases c0 <;> cases c <;> simp at h ⊢

@[simp] theorem okIf_true {c0 : Bool} {x : V} : okIf c0 true x = some x := okIf_of (fun _ => rfl)
@[simp] theorem okIf_same {c0 : Bool} {x : V} : okIf c0 c0 x = some x := okIf_of (fun h => h)

def evL (c0 : Bool) : Option V → Option V
  | some (.may c x) => okIf c0 c x
  | o => o

/-- The address of an element. -/
def idx (P : Program) (t : Nat) (x : V) (i : Int) : Option V :=
  match x with
  | .ref id p sz off n => match tslice P t with
    | some (_, sz', _) => if sz' = sz ∧ 0 ≤ i ∧ i < (n : Int) then some (.ptr id p (off + i.toNat) 0) else none
    | none => none
  | .fs sz rows => match tslice P t with
    | some (_, sz', _) => if sz' = sz ∧ 0 ≤ i ∧ i < (rows.length : Int) then some (.fp sz rows i.toNat 0) else none
    | none => none
  | .ptr id p j k => match tarray P t with
    | some (n, _, sz) => if 0 ≤ i ∧ i < (n : Int) then some (.ptr id p j (k + i.toNat * sz)) else none
    | none => none
  | .fp sz0 rows j k => match tarray P t with
    | some (n, _, sz) => if 0 ≤ i ∧ i < (n : Int) then some (.fp sz0 rows j (k + i.toNat * sz)) else none
    | none => none
  | _ => none

/-- What lies at an address. -/
def ld (P : Program) (H : Hp) (t : Nat) (x : V) : Option V :=
  match x with
  | .ptr id p i k => match tinfo P t, node H id p with
    | some (g, n), some (sz, rows) => if i < rows.length ∧ k + n ≤ sz ∧ (g || n == 1) = true then some (pack g (loadRow id p i k (((rows.getD i []).drop k).take n))) else none
    | _, _ => none
  | .fp sz rows i k => match tinfo P t with
    | some (g, n) => if i < rows.length ∧ k + n ≤ sz ∧ (g || n == 1) = true then some (pack g (((rows.getD i []).drop k).take n)) else none
    | none => none
  | _ => none

/-- A part of a slice. -/
def cut (P : Program) (t : Nat) (x : V) (lo hi : Option Nat) : Option V :=
  match x with
  | .ref id p sz off n => match tslice P t, lo, hi with
    | some (_, sz', _), some l, some h => if sz' = sz ∧ l ≤ h ∧ h ≤ n then some (.ref id p sz (off + l) (h - l)) else none
    | _, _, _ => none
  | .fs sz rows => match tslice P t, lo, hi with
    | some (_, sz', _), some l, some h => if sz' = sz ∧ l ≤ h ∧ h ≤ rows.length then some (.fs sz ((rows.drop l).take (h - l))) else none
    | _, _, _ => none
  | _ => none

def slen : V → Nat
  | .ref _ _ _ _ n => n
  | .fs _ rows => rows.length
  | _ => 0

/-- The rows of a slice. -/
def slc (H : Hp) (x : V) : Option (Nat × Rows) :=
  match x with
  | .fs sz rows => some (sz, rows)
  | .ref id p sz off n => match node H id p with
    | some (sz', rows) => if sz' = sz ∧ off + n ≤ rows.length then some (sz, part rows off n) else none
    | none => none
  | _ => none

/-- An element's address. -/
def elemP (x : V) (j : Nat) : V :=
  match x with
  | .fs sz rows => .fp sz rows j 0
  | .ref id p _ off _ => .ptr id p (off + j) 0
  | _ => .dead

/-- From l, n elements. -/
def subS (x : V) (l n : Nat) : V :=
  match x with
  | .fs sz rows => .fs sz ((rows.drop l).take n)
  | .ref id p sz off _ => .ref id p sz (off + l) n
  | _ => .dead

section
variable {P : Program} {c0 : Bool} {σ : List (Nat × V)} {H : Hp} {t : Nat} {x : V} {sz : Nat} {rows : Rows}

theorem indexAddrV_eq {a b : Operand} : indexAddrV P c0 σ t a b = match ev c0 σ a, intOp c0 σ b with | some x, some i => idx P t x i | _, _ => none := by
  unfold indexAddrV
  cases ev c0 σ a with
  | none => rfl
  | some x => cases intOp c0 σ b <;> cases x <;> rfl

theorem loadV_eq {a : Operand} : loadV P c0 σ H t a = match ev c0 σ a with | some x => ld P H t x | none => none := by
  unfold loadV
  cases ev c0 σ a with
  | none => rfl
  | some x => cases x <;> rfl

theorem slc_cases (h : slc H x = some (sz, rows)) : x = .fs sz rows ∨ ∃ id p off n rows', x = .ref id p sz off n ∧ node H id p = some (sz, rows') ∧ off + n ≤ rows'.length ∧ rows = part rows' off n := by
  unfold slc at h
  split at h
  · injection h with h; injection h with h1 h2; subst h1; subst h2; exact .inl rfl
  · rename_i id p sz' off n
    split at h
    · rename_i sz2 rows' hn
      split at h
      · rename_i hc
        obtain ⟨rfl, hc⟩ := hc
        injection h with h; injection h with h1 h2; subst h1; subst h2
        exact .inr ⟨id, p, off, n, rows', rfl, hn, hc, rfl⟩
      · cases h
    · cases h
  · cases h

theorem slc_len (h : slc H x = some (sz, rows)) : slen x = rows.length := by
  rcases slc_cases h with rfl | ⟨id, p, off, n, rows', rfl, hn, hc, rfl⟩
  · rfl
  · simp [slen, part]; omega

theorem slc_ev (h : slc H x = some (sz, rows)) (c : Bool) : evL c (some x) = some x := by
  rcases slc_cases h with rfl | ⟨id, p, off, n, rows', rfl, hn, hc, rfl⟩ <;> rfl

theorem slc_evE (h : slc H x = some (sz, rows)) (c : Bool) (j : Nat) : evL c (some (elemP x j)) = some (elemP x j) := by
  rcases slc_cases h with rfl | ⟨id, p, off, n, rows', rfl, hn, hc, rfl⟩ <;> rfl

theorem slc_idx (h : slc H x = some (sz, rows)) {e by' : Nat} (ht : tslice P t = some (e, sz, by')) {i : Int} (h0 : 0 ≤ i) (h1 : i < (rows.length : Int)) : idx P t x i = some (elemP x i.toNat) := by
  have hl := slc_len h
  rcases slc_cases h with rfl | ⟨id, p, off, n, rows', rfl, hn, hc, rfl⟩
  · simp [idx, ht, h0, h1, elemP]
  · simp only [slen] at hl
    simp only [idx, ht, elemP]
    rw [if_pos ⟨trivial, h0, by omega⟩]

theorem slc_ld (h : slc H x = some (sz, rows)) {g : Bool} (ht : tinfo P t = some (g, sz)) (hg : (g || sz == 1) = true) {j : Nat} (hj : j < rows.length) (hsz : (rows[j]).length = sz) (hp : (rows[j]).all V.copies = true) : ld P H t (elemP x j) = some (pack g rows[j]) := by
  rcases slc_cases h with rfl | ⟨id, p, off, n, rows', rfl, hn, hc, rfl⟩
  · simp only [ld, elemP, ht]
    rw [if_pos ⟨hj, by omega, hg⟩]
    rw [getD_lt _ _ hj, List.drop_zero, List.take_of_length_le (by omega)]
  · have hj' : off + j < rows'.length := by simp [part] at hj; omega
    have e : (part rows' off n)[j] = rows'[off + j] := by simp [part]
    simp only [ld, elemP, ht, hn]
    rw [if_pos ⟨hj', by omega, hg⟩]
    rw [getD_lt _ _ hj', List.drop_zero, List.take_of_length_le (by rw [← e]; omega)]
    rw [e] at hp hsz ⊢
    congr 2
    apply List.ext_getElem?
    intro k
    rw [getElem?_loadRow]
    cases hk : rows'[off + j][k]? with
    | none => rfl
    | some c =>
      have := List.all_eq_true.1 hp c (List.mem_of_getElem? hk)
      simp only [Option.map_some, Option.some.injEq]
      cases c <;> simp [V.copies] at this <;> rfl

theorem slc_node (h : slc H x = some (sz, rows)) (ys : Hp) : slc (H ++ ys) x = some (sz, rows) := by
  rcases slc_cases h with rfl | ⟨id, p, off, n, rows', rfl, hn, hc, rfl⟩
  · rfl
  · have hlt := node_lt hn
    have : node (H ++ ys) id p = node H id p := by
      unfold node; rw [List.getElem?_append_left hlt]
    simp only [slc, this, hn]
    rw [if_pos ⟨trivial, hc⟩]

theorem slc_kill (h : slc H x = some (sz, rows)) {ks : List (Nat × Nat)} (hk : ks.all (fun k => decide (H.length ≤ k.1)) = true) : killV ks x = x := by
  rcases slc_cases h with rfl | ⟨id, p, off, n, rows', rfl, hn, hc, rfl⟩
  · simp [killV, refs, refs3, refs2, refsC, refs1, V.may?, V.tup?, V.agg?, V.clo?]
  · have hlt := node_lt hn
    unfold killV
    rw [if_neg]
    simp only [refs, refs3, refs2, refsC, refs1, V.may?, V.tup?, V.agg?, V.clo?, List.any_cons, List.any_nil, Bool.or_false, List.any_eq_true, Bool.and_eq_true, beq_iff_eq, decide_eq_true_eq, not_exists, not_and]
    intro k hk' he _
    have := List.all_eq_true.1 hk k hk'
    simp only [decide_eq_true_eq] at this
    omega
end
@[simp] theorem evL_v (c : Bool) (y : Value) : evL c (some (.v y)) = some (.v y) := rfl
@[simp] theorem evL_fs (c : Bool) (z : Nat) (r : List (List V)) : evL c (some (.fs z r)) = some (.fs z r) := rfl
@[simp] theorem evL_fp (c : Bool) (z : Nat) (r : List (List V)) (i k : Nat) : evL c (some (.fp z r i k)) = some (.fp z r i k) := rfl
@[simp] theorem evL_own (c : Bool) (z : Nat) (r : List (List V)) : evL c (some (.own z r)) = some (.own z r) := rfl
@[simp] theorem evL_box (c : Bool) (z : Nat) (r : List (List V)) : evL c (some (.box z r)) = some (.box z r) := rfl
@[simp] theorem evL_ref (c : Bool) (id : Nat) (p : List (Nat × Nat)) (z o n : Nat) : evL c (some (.ref id p z o n)) = some (.ref id p z o n) := rfl
@[simp] theorem evL_ptr (c : Bool) (id : Nat) (p : List (Nat × Nat)) (i k : Nat) : evL c (some (.ptr id p i k)) = some (.ptr id p i k) := rfl
@[simp] theorem evL_agg (c : Bool) (vs : List V) : evL c (some (.agg vs)) = some (.agg vs) := rfl
@[simp] theorem evL_tup (c : Bool) (vs : List V) : evL c (some (.tup vs)) = some (.tup vs) := rfl
@[simp] theorem evL_clo (c : Bool) (f : Nat) (cs : List V) : evL c (some (.clo f cs)) = some (.clo f cs) := rfl
@[simp] theorem evL_anyB (c : Bool)  : evL c (some (.anyB )) = some (.anyB ) := rfl
@[simp] theorem evL_dead (c : Bool)  : evL c (some (.dead )) = some (.dead ) := rfl
@[simp] theorem evL_may (c d : Bool) (x : V) : evL c (some (.may d x)) = okIf c d x := rfl
@[simp] theorem evL_none (c : Bool) : evL c none = none := rfl
@[simp] theorem idx_ref (P : Program) (t id : Nat) (p : List (Nat × Nat)) (sz off n : Nat) (i : Int) : idx P t (.ref id p sz off n) i = match tslice P t with
    | some (_, sz', _) => if sz' = sz ∧ 0 ≤ i ∧ i < (n : Int) then some (.ptr id p (off + i.toNat) 0) else none
    | none => none := rfl
@[simp] theorem idx_fs (P : Program) (t sz : Nat) (rows : List (List V)) (i : Int) : idx P t (.fs sz rows) i = match tslice P t with
    | some (_, sz', _) => if sz' = sz ∧ 0 ≤ i ∧ i < (rows.length : Int) then some (.fp sz rows i.toNat 0) else none
    | none => none := rfl
@[simp] theorem idx_ptr (P : Program) (t id : Nat) (p : List (Nat × Nat)) (j k : Nat) (i : Int) : idx P t (.ptr id p j k) i = match tarray P t with
    | some (n, _, sz) => if 0 ≤ i ∧ i < (n : Int) then some (.ptr id p j (k + i.toNat * sz)) else none
    | none => none := rfl
@[simp] theorem idx_fp (P : Program) (t sz0 : Nat) (rows : List (List V)) (j k : Nat) (i : Int) : idx P t (.fp sz0 rows j k) i = match tarray P t with
    | some (n, _, sz) => if 0 ≤ i ∧ i < (n : Int) then some (.fp sz0 rows j (k + i.toNat * sz)) else none
    | none => none := rfl
@[simp] theorem ld_ptr (P : Program) (H : Hp) (t id : Nat) (p : List (Nat × Nat)) (i k : Nat) : ld P H t (.ptr id p i k) = match tinfo P t, node H id p with
    | some (g, n), some (sz, rows) => if i < rows.length ∧ k + n ≤ sz ∧ (g || n == 1) = true then some (pack g (loadRow id p i k (((rows.getD i []).drop k).take n))) else none
    | _, _ => none := rfl
@[simp] theorem ld_fp (P : Program) (H : Hp) (t sz : Nat) (rows : List (List V)) (i k : Nat) : ld P H t (.fp sz rows i k) = match tinfo P t with
    | some (g, n) => if i < rows.length ∧ k + n ≤ sz ∧ (g || n == 1) = true then some (pack g (((rows.getD i []).drop k).take n)) else none
    | none => none := rfl
@[simp] theorem slc_fs (H : Hp) (sz : Nat) (rows : List (List V)) : slc H (.fs sz rows) = some (sz, rows) := rfl
@[simp] theorem slc_ref (H : Hp) (id : Nat) (p : List (Nat × Nat)) (sz off n : Nat) : slc H (.ref id p sz off n) = match node H id p with
    | some (sz', rows) => if sz' = sz ∧ off + n ≤ rows.length then some (sz, part rows off n) else none
    | none => none := rfl
attribute [simp] killV_nil
@[simp] theorem kill_nil (σ : List (Nat × V)) : kill [] σ = σ := rfl
@[simp] theorem kill_cons (k : Nat × Nat) (ks : List (Nat × Nat)) (σ : List (Nat × V)) : kill (k :: ks) σ = σ.map fun tx => (tx.1, killV (k :: ks) tx.2) := rfl
@[simp] theorem row1_copies (k : IntKind) (i : Int) : (row1 k i).all V.copies = true := rfl
/-- The numbers of a slice. -/
def slcI (k : IntKind) (H : Hp) (x : V) : Option (List Int) := match slc H x with
  | some (1, rows) => unI k rows
  | _ => none
theorem slcI_eq {k : IntKind} {H : Hp} {x : V} {xs : List Int} (h : slcI k H x = some xs) : slc H x = some (1, xs.map (row1 k)) := by
  unfold slcI at h
  split at h
  · rename_i rows hr
    rw [hr, unI_eq h]
  · cases h
@[simp] theorem slcI_fs (k : IntKind) (H : Hp) (xs : List Int) : slcI k H (.fs 1 (xs.map (row1 k))) = some xs := by simp [slcI]

/-- How long a value is. -/
def lnV (P : Program) (t ty : Nat) (x : V) : Option V :=
  match x with
  | .ref _ _ _ _ n => match tslice P t with | some _ => some (.v (.int .i64 n)) | none => none
  | .fs _ rows => match tslice P t with | some _ => some (.v (.int .i64 rows.length)) | none => none
  | .v y => (pureRun P (Builtin.len_ #[t] ty #[y])).map ofV
  | _ => none
@[simp] theorem lnV_ref (P : Program) (t ty id : Nat) (p : List (Nat × Nat)) (sz off n : Nat) : lnV P t ty (.ref id p sz off n) = match tslice P t with | some _ => some (.v (.int .i64 n)) | none => none := rfl
@[simp] theorem lnV_fs (P : Program) (t ty sz : Nat) (rows : List (List V)) : lnV P t ty (.fs sz rows) = match tslice P t with | some _ => some (.v (.int .i64 rows.length)) | none => none := rfl
@[simp] theorem lnV_v (P : Program) (t ty : Nat) (y : Value) : lnV P t ty (.v y) = (pureRun P (Builtin.len_ #[t] ty #[y])).map ofV := rfl
theorem lenV_eq {P : Program} {c0 : Bool} {σ : List (Nat × V)} {t ty : Nat} {a : Operand} : lenV P c0 σ t ty a = match ev c0 σ a with | some x => lnV P t ty x | none => none := by
  unfold lenV
  cases ev c0 σ a with
  | none => rfl
  | some x => cases x <;> rfl
/-- A part of a value. -/
def cutV (P : Program) (c0 : Bool) (σ : List (Nat × V)) (t : Nat) (x : V) (lo hi : Option Operand) : Option V :=
  match x with
  | .ref id p sz off n => match tslice P t, bndV 0 c0 σ lo, bndV n c0 σ hi with
    | some (_, sz', _), some l, some h => if sz' = sz ∧ l ≤ h ∧ h ≤ n then some (.ref id p sz (off + l) (h - l)) else none
    | _, _, _ => none
  | .fs sz rows => match tslice P t, bndV 0 c0 σ lo, bndV rows.length c0 σ hi with
    | some (_, sz', _), some l, some h => if sz' = sz ∧ l ≤ h ∧ h ≤ rows.length then some (.fs sz ((rows.drop l).take (h - l))) else none
    | _, _, _ => none
  | .v y => match evO c0 σ lo, evO c0 σ hi with
    | some lo, some hi => (pureRun P (Instr.sliceAt t y lo hi none)).map ofV
    | _, _ => none
  | _ => none
@[simp] theorem cutV_ref (P : Program) (c0 : Bool) (σ : List (Nat × V)) (t id : Nat) (p : List (Nat × Nat)) (sz off n : Nat) (lo hi : Option Operand) : cutV P c0 σ t (.ref id p sz off n) lo hi = match tslice P t, bndV 0 c0 σ lo, bndV n c0 σ hi with
    | some (_, sz', _), some l, some h => if sz' = sz ∧ l ≤ h ∧ h ≤ n then some (.ref id p sz (off + l) (h - l)) else none
    | _, _, _ => none := rfl
@[simp] theorem cutV_fs (P : Program) (c0 : Bool) (σ : List (Nat × V)) (t sz : Nat) (rows : List (List V)) (lo hi : Option Operand) : cutV P c0 σ t (.fs sz rows) lo hi = match tslice P t, bndV 0 c0 σ lo, bndV rows.length c0 σ hi with
    | some (_, sz', _), some l, some h => if sz' = sz ∧ l ≤ h ∧ h ≤ rows.length then some (.fs sz ((rows.drop l).take (h - l))) else none
    | _, _, _ => none := rfl
@[simp] theorem cutV_v (P : Program) (c0 : Bool) (σ : List (Nat × V)) (t : Nat) (y : Value) (lo hi : Option Operand) : cutV P c0 σ t (.v y) lo hi = match evO c0 σ lo, evO c0 σ hi with
    | some lo, some hi => (pureRun P (Instr.sliceAt t y lo hi none)).map ofV
    | _, _ => none := rfl
theorem sliceV_eq {P : Program} {c0 : Bool} {σ : List (Nat × V)} {t : Nat} {a : Operand} {lo hi : Option Operand} : sliceV P c0 σ t a lo hi = match ev c0 σ a with | some x => cutV P c0 σ t x lo hi | none => none := by
  unfold sliceV
  cases ev c0 σ a with
  | none => rfl
  | some x => cases x <;> rfl
/-- What is appended. -/
def src (H : Hp) (sz : Nat) (x : V) : Option Rows :=
  match x with
  | .fs sz' rows => if sz' = sz ∧ allCopies rows = true then some rows else none
  | .ref id p sz' off n => match node H id p with
    | some (sz2, rows) => if sz' = sz ∧ allCopies (part rows off n) = true then some (part rows off n) else none
    | none => none
  | .v (.slice none 0 0) => some []
  | _ => none
@[simp] theorem src_ref' (H : Hp) (sz id : Nat) (p : List (Nat × Nat)) (sz' off n : Nat) : src H sz (.ref id p sz' off n) = match node H id p with
    | some (sz2, rows) => if sz' = sz ∧ allCopies (part rows off n) = true then some (part rows off n) else none
    | none => none := rfl
@[simp] theorem src_fs' (H : Hp) (sz sz' : Nat) (rows : List (List V)) : src H sz (.fs sz' rows) = if sz' = sz ∧ allCopies rows = true then some rows else none := rfl
@[simp] theorem src_nil' (H : Hp) (sz : Nat) : src H sz (.v (.slice none 0 0)) = some [] := rfl
theorem srcV_eq {c0 : Bool} {σ : List (Nat × V)} {H : Hp} {sz : Nat} {a : Operand} : srcV c0 σ H sz a = match ev c0 σ a with | some x => src H sz x | none => none := by
  unfold srcV
  cases ev c0 σ a with
  | none => rfl
  | some x =>
    cases x with
    | v y => cases y <;> first | rfl | (rename_i b n c; cases b <;> cases n <;> cases c <;> rfl)
    | _ => rfl
@[simp] theorem allCopies_map (k : IntKind) (xs : List Int) : allCopies (xs.map (row1 k)) = true := by simp [allCopies]
@[simp] theorem allCopies_nil : allCopies [] = true := rfl

section
variable {P : Program} {c0 : Bool} {H : Hp} {x : V} {xs : List Int} {k : IntKind}
theorem tslice_of {t : Nat} (ht : (tslice P t).map (fun r => r.2.1) = some 1) : ∃ e by', tslice P t = some (e, 1, by') := by
  cases hs : tslice P t with
  | none => rw [hs] at ht; cases ht
  | some r => obtain ⟨e, sz, by'⟩ := r; rw [hs] at ht; simp at ht; subst ht; exact ⟨_, _, rfl⟩
theorem slcI_ev (h : slcI k H x = some xs) (c : Bool) : evL c (some x) = some x := slc_ev (slcI_eq h) c
theorem slcI_evE (h : slcI k H x = some xs) (c : Bool) (j : Nat) : evL c (some (elemP x j)) = some (elemP x j) := slc_evE (slcI_eq h) c j
theorem slcI_idx (h : slcI k H x = some xs) {t : Nat} (ht : (tslice P t).map (fun r => r.2.1) = some 1) {i : Int} (h0 : 0 ≤ i) (h1 : i < (xs.length : Int)) : idx P t x i = some (elemP x i.toNat) := by
  obtain ⟨e, by', ht⟩ := tslice_of ht
  exact slc_idx (slcI_eq h) ht h0 (by simpa using h1)
theorem slcI_idxN (h : slcI k H x = some xs) {t : Nat} (ht : (tslice P t).map (fun r => r.2.1) = some 1) {i : Nat} (h1 : i < xs.length) : idx P t x (i : Int) = some (elemP x i) := by
  simpa using slcI_idx (P := P) h ht (i := (i : Int)) (by omega) (by omega)
theorem slcI_ld (h : slcI k H x = some xs) {t : Nat} (ht : tinfo P t = some (false, 1)) {j : Nat} (hj : j < xs.length) : ld P H t (elemP x j) = some (.v (.int k xs[j])) := by
  have := slc_ld (P := P) (slcI_eq h) ht rfl (j := j) (by simpa using hj) (by simp) (by simp)
  rw [this]
  simp
theorem slcI_len (h : slcI k H x = some xs) : slen x = xs.length := by rw [slc_len (slcI_eq h)]; simp
theorem slcI_ln (h : slcI k H x = some xs) {t ty : Nat} (ht : (tslice P t).map (fun r => r.2.1) = some 1) : lnV P t ty x = some (.v (.int .i64 xs.length)) := by
  obtain ⟨e, by', ht⟩ := tslice_of ht
  have hl := slcI_len h
  rcases slc_cases (slcI_eq h) with rfl | ⟨id, p, off, n, rows', rfl, hn, hc, hr⟩
  · simp [ht]
  · simp only [slen] at hl; subst hl; simp [ht]
theorem slcI_src (h : slcI k H x = some xs) : src H 1 x = some (xs.map (row1 k)) := by
  rcases slc_cases (slcI_eq h) with rfl | ⟨id, p, off, n, rows', rfl, hn, hc, hr⟩
  · simp
  · simp [hn, ← hr]
theorem slcI_cut {σ : List (Nat × V)} (h : slcI k H x = some xs) {t : Nat} {lo hi : Option Operand} (ht : (tslice P t).map (fun r => r.2.1) = some 1) : cutV P c0 σ t x lo hi = match bndV 0 c0 σ lo, bndV xs.length c0 σ hi with | some l, some r => if l ≤ r ∧ r ≤ xs.length then some (subS x l (r - l)) else none | _, _ => none := by
  obtain ⟨e, by', ht⟩ := tslice_of ht
  have hl := slcI_len h
  rcases slc_cases (slcI_eq h) with rfl | ⟨id, p, off, n, rows', rfl, hn, hc, hr⟩
  · simp only [slen] at hl
    rw [cutV_fs, ht, hl]
    simp only [subS]
    cases bndV 0 c0 σ lo <;> cases bndV xs.length c0 σ hi <;> simp
  · simp only [slen] at hl; subst hl
    rw [cutV_ref, ht]
    simp only [subS]
    cases bndV 0 c0 σ lo <;> cases bndV xs.length c0 σ hi <;> simp
theorem slcI_sub (h : slcI k H x = some xs) {l n : Nat} (hn : l + n ≤ xs.length) : slcI k H (subS x l n) = some ((xs.drop l).take n) := by
  have hl := slcI_len h
  rcases slc_cases (slcI_eq h) with rfl | ⟨id, p, off, m, rows', rfl, hnd, hc, hr⟩
  · simp only [subS, slcI, slc_fs]
    rw [← List.map_drop, ← List.map_take, unI_map]
  · simp only [slen] at hl; subst hl
    simp only [subS, slcI, slc_ref, hnd]
    rw [if_pos ⟨trivial, by omega⟩]
    have e : part rows' (off + l) n = ((xs.drop l).take n).map (row1 k) := by
      rw [List.map_take, List.map_drop, hr]
      simp only [part]
      rw [List.drop_take, List.take_take, List.drop_drop]
      congr 1
      omega
    show unI k (part rows' (off + l) n) = _
    rw [e, unI_map]
theorem slcI_grow (h : slcI k H x = some xs) (ys : Hp) : slcI k (H ++ ys) x = some xs := by
  unfold slcI
  rw [slc_node (slcI_eq h) ys]
  simp
theorem slcI_kill (h : slcI k H x = some xs) {ks : List (Nat × Nat)} (hk : ks.all (fun k => decide (H.length ≤ k.1)) = true) : killV ks x = x := slc_kill (slcI_eq h) hk
end

end Go.Eng

namespace Go.Eng
open Go.RowKit
set_option linter.unusedSectionVars false
set_option linter.unusedVariables false
set_option linter.unusedSimpArgs false
variable [Globs]

/-- Every block that was there. -/
def Old (W : World) (b : Nat) : Prop := b < W.heap.size

theorem entry {P : Program} {f : Nat} {s : Spec} (hm : Meets P f s) {W : World} {args : Array Value} (xs : List V) (hg : GlobOk W (Old W)) (hl : args.toList.length = xs.length)
    (hr : ∀ (i : Nat) (c : V) (y : Value), xs[i]? = some c → args.toList[i]? = some y → RV W (Old W) (fun _ _ => none) [] c y) {x : Value} {H' : Hp} (hf : s.f xs [] = some (.v x, H')) :
    Calls P f args W fun e W' => e = .returned x ∧ Below W.heap.size W W' := by
  have hw : RW W (Old W) (fun _ _ => none) [] := by
    refine ⟨fun id p nd hn => ?_, fun id p nd id' p' nd' b o cap o' cap' hn => ?_, fun b hb => hb⟩
    · simp [node] at hn
    · simp [node] at hn
  have := hm xs [] (.v x) H' hf W (Old W) (fun _ _ => none) args.toList hw hg hl hr
  rw [show args.toList.toArray = args from by simp] at this
  refine this.mono ?_
  rintro e W' ⟨v, rfl, F', S', hs⟩
  have hv : RV W' F' S' H' (.v x) v := hs.val
  cases hv
  exact ⟨rfl, ⟨hs.stp.os, hs.stp.tape, hs.stp.output, hs.stp.size, fun b hb => hs.blk b hb⟩⟩
end Go.Eng

namespace Go.Eng
set_option linter.unusedSectionVars false
set_option linter.unusedVariables false
set_option linter.unusedSimpArgs false
variable [Globs]

theorem ev_tmp (c0 : Bool) (σ : List (Nat × V)) (t : Nat) : ev c0 σ (.tmp t) = evL c0 (look σ t) := rfl
theorem ev_const (c0 : Bool) (σ : List (Nat × V)) (v : Value) : ev c0 σ (.const v) = some (ofV v) := rfl
theorem ev_func (c0 : Bool) (σ : List (Nat × V)) (f : Nat) : ev c0 σ (.func f) = some (.v (.func (.func f) #[] #[])) := rfl
theorem ev_global (c0 : Bool) (σ : List (Nat × V)) (g : Nat) : ev c0 σ (.global g) = match Globs.view g with | some (sz, rows) => some (.fp sz rows 0 0) | none => none := rfl
attribute [simp] ev_tmp ev_const ev_func ev_global okIf_of
/-- What is checked after an effect. -/
def CheckP (b : Bool) (A : Unit → Prop) : Prop := b = true ∨ A ()
@[simp] theorem CheckP_true {A : Unit → Prop} : CheckP true A = True := by simp [CheckP]
@[simp] theorem CheckP_false {A : Unit → Prop} : CheckP false A = A () := by simp [CheckP]
@[simp] theorem gIdx_some {g : Bool} {z : V} : gIdx g (some z) = some z := rfl
@[simp] theorem gIdx_true {r : Option V} : gIdx true r = r := by cases r <;> rfl
@[simp] theorem gIdx_false {r : Option V} : gIdx false r = some (r.getD .dead) := by cases r <;> rfl
@[simp] theorem gB_some {c want b : Bool} : gB c want (some b) = some (c && (b == want)) := rfl
@[simp] theorem gB_false {want : Bool} {r : Option Bool} : gB false want r = some false := by cases r <;> rfl
@[simp] theorem pickR_true {x : Bool} {rb : Option V} : pickR true (some (.v (.bool x))) rb = some (.v (.bool x)) := rfl
@[simp] theorem pickR_false {x : Bool} {ra : Option V} : pickR false ra (some (.v (.bool x))) = some (.v (.bool x)) := rfl
@[simp] theorem pickR_sym {q x y : Bool} : pickR q (some (.v (.bool x))) (some (.v (.bool y))) = some (.v (.bool (if q then x else y))) := by cases q <;> rfl
def liveσ : Option (List Nat) → List (Nat × V) → List (Nat × V)
  | some ts, σ => prune ts σ
  | none, σ => σ
section
variable {P : Program} {sp : Nat → Option Spec} {N base : Nat} {ak : List (Nat × Nat)} {live : Nat → Option (List Nat)} {dr : Nat → Array Oper → St → (St → Prop) → Prop} {K : Exit → St → Prop} {st : St}
variable {σ : List (Nat × V)} {H : Hp}
/-- What follows on a step. The laws below fire at states that are written out only, so that simp does not run ahead. -/
def BindP (x : Option St) (k : St → Prop) : Prop := ∃ s, x = some s ∧ k s
@[simp] theorem BindP_some {s : St} {k : St → Prop} : BindP (some s) k = k s := by simp [BindP]
/-- A choice. -/
def IteP (b : Bool) (A B : St → Prop) (st : St) : Prop := (b = true → A st) ∧ (b = false → B st)
@[simp] theorem IteP_true {A B : St → Prop} : IteP true A B st = A st := by simp [IteP]
@[simp] theorem IteP_false {A B : St → Prop} : IteP false A B st = B st := by simp [IteP]
@[simp] theorem IteP_not {b : Bool} {A B : St → Prop} : IteP (!b) A B st = IteP b B A st := by cases b <;> simp
theorem IteP.intro {b : Bool} {A B : St → Prop} (h1 : b = true → A st) (h2 : b = false → B st) : IteP b A B st := ⟨h1, h2⟩
theorem IteP.dec {p : Prop} [Decidable p] {A B : St → Prop} (h1 : p → A st) (h2 : ¬ p → B st) : IteP (decide p) A B st := ⟨fun h => h1 (by simpa using h), fun h => h2 (by simpa using h)⟩
/-- Whatever is chosen. -/
def BothP (A B : St → Prop) (st : St) : Prop := A st ∧ B st
def CondP (x : Option V) (A B : St → Prop) (st : St) : Prop := (∃ b, x = some (.v (.bool b)) ∧ IteP b A B st) ∨ (x = some .anyB ∧ A st ∧ B st)
@[simp] theorem CondP_some {b : Bool} {A B : St → Prop} : CondP (some (.v (.bool b))) A B st = IteP b A B st := by simp [CondP]
@[simp] theorem CondP_any {A B : St → Prop} : CondP (some .anyB) A B st = BothP A B st := by simp [CondP, BothP]
/-- A region that draws. -/
def DrP (A : Prop) (B : St → Prop) (st : St) : Prop := A ∧ B st
theorem DrP.intro {A : Prop} {B : St → Prop} (h1 : A) (h2 : B st) : DrP A B st := ⟨h1, h2⟩

def runOpsC (P : Program) (sp : Nat → Option Spec) (N : Nat) (base : Nat) (ak : List (Nat × Nat)) (ops : List Oper) : List Oper → St → (St → Prop) → Prop
  | [], st, K => K st
  | o :: r, st, K => BindP (stepOp P sp N base ak ops o st) (fun st' => runOpsC P sp N base ak ops r st' K)
theorem runOpsC_eq {ops : List Oper} : ∀ {l : List Oper} {st : St} {K : St → Prop}, (∃ st', runOps P sp N base ak ops l st = some st' ∧ K st') = runOpsC P sp N base ak ops l st K
  | [], st, K => by simp [runOps, runOpsC]
  | o :: r, st, K => by
    simp only [runOps, runOpsC, BindP]
    cases h : stepOp P sp N base ak ops o st with
    | none => simp
    | some s => simp [runOpsC_eq]
@[simp] theorem runOpsC_nil {ops : List Oper} {K : St → Prop} : runOpsC P sp N base ak ops [] ⟨σ, H⟩ K = K ⟨σ, H⟩ := rfl
@[simp] theorem runOpsC_cons {ops : List Oper} {o : Oper} {r : List Oper} {K : St → Prop} : runOpsC P sp N base ak ops (o :: r) ⟨σ, H⟩ K = BindP (stepOp P sp N base ak ops o ⟨σ, H⟩) (fun st' => runOpsC P sp N base ak ops r st' K) := rfl
@[simp] theorem runPlan_nil {ops : List Oper} {T : List (List Nat)} {D : List Nat} {K : St → Prop} : runPlan P sp N base ak ops T D [] ⟨σ, H⟩ K = K ⟨σ, H⟩ := rfl
@[simp] theorem runPlan_cons {ops : List Oper} {T : List (List Nat)} {D : List Nat} {i : Nat} {r : List Nat} {K : St → Prop} : runPlan P sp N base ak ops T D (i :: r) ⟨σ, H⟩ K =
    BindP (match ops[i]? with | some o => stepD P sp N base ak ops o ⟨σ, H⟩ | none => none) (fun st1 => CheckP (fltOf ops i) (fun _ => checks P sp ops T i st1 D) ∧ runPlan P sp N base ak ops T (i :: D) r st1 K) := by
  simp only [runPlan, BindP, CheckP]
  cases ops[i]? with
  | none => simp
  | some o =>
    simp only
    cases stepD P sp N base ak ops o ⟨σ, H⟩ with
    | none => simp
    | some s => cases fltOf ops i <;> simp
@[simp] theorem wpX_skip : wpX P sp N base ak live dr .skip K ⟨σ, H⟩ = K .normal ⟨σ, H⟩ := rfl
@[simp] theorem wpX_region {id : Nat} {ops : Array Oper} : wpX P sp N base ak live dr (.region id ops false) K ⟨σ, H⟩ = runOpsC P sp N base ak ops.toList ops.toList ⟨σ, H⟩ (fun st' => K .normal (live' live id st')) := runOpsC_eq
@[simp] theorem wpX_regionD {id : Nat} {ops : Array Oper} : wpX P sp N base ak live dr (.region id ops true) K ⟨σ, H⟩ = dr id ops ⟨σ, H⟩ (fun st' => K .normal (live' live id st')) := rfl
@[simp] theorem wpX_seq {x y : Code} : wpX P sp N base ak live dr (.seq x y) K ⟨σ, H⟩ = wpX P sp N base ak live dr x (thenX (wpX P sp N base ak live dr y K) K) ⟨σ, H⟩ := rfl
@[simp] theorem wpX_cond {c : Operand} {x y : Code} : wpX P sp N base ak live dr (.cond c x y) K ⟨σ, H⟩ = CondP (ev true σ c) (wpX P sp N base ak live dr x K) (wpX P sp N base ak live dr y K) ⟨σ, H⟩ := rfl
@[simp] theorem wpX_block {id : Nat} {c : Code} : wpX P sp N base ak live dr (.block id c) K ⟨σ, H⟩ = wpX P sp N base ak live dr c (inBlockX id K) ⟨σ, H⟩ := rfl
@[simp] theorem wpX_exit {id : Nat} : wpX P sp N base ak live dr (.exit id) K ⟨σ, H⟩ = K (.exit id) ⟨σ, H⟩ := rfl
@[simp] theorem wpX_ret : wpX P sp N base ak live dr .ret K ⟨σ, H⟩ = K .ret ⟨σ, H⟩ := rfl
@[simp] theorem wpX_label {l : Nat} : wpX P sp N base ak live dr (.label l) K ⟨σ, H⟩ = K .normal ⟨σ, H⟩ := rfl
@[simp] theorem thenX_normal {next : St → Prop} : thenX next K .normal ⟨σ, H⟩ = next ⟨σ, H⟩ := rfl
@[simp] theorem thenX_ret {next : St → Prop} : thenX next K .ret ⟨σ, H⟩ = K .ret ⟨σ, H⟩ := rfl
@[simp] theorem thenX_exit {next : St → Prop} {id : Nat} : thenX next K (.exit id) ⟨σ, H⟩ = K (.exit id) ⟨σ, H⟩ := rfl
@[simp] theorem inBlockX_normal {id : Nat} : inBlockX id K .normal ⟨σ, H⟩ = K .normal ⟨σ, H⟩ := rfl
@[simp] theorem inBlockX_ret {id : Nat} : inBlockX id K .ret ⟨σ, H⟩ = K .ret ⟨σ, H⟩ := rfl
@[simp] theorem inBlockX_exit {id id' : Nat} : inBlockX id K (.exit id') ⟨σ, H⟩ = if id' = id then K .normal ⟨σ, H⟩ else K (.exit id') ⟨σ, H⟩ := rfl
@[simp] theorem live'_mk {id : Nat} : live' live id ⟨σ, H⟩ = ⟨liveσ (live id) σ, H⟩ := by unfold live' liveσ; cases live id <;> rfl
theorem wpX_loop {c : Code} {α : Type} (I : α → Prop) (Z : α → St) (μ : α → Nat) (x0 : α) (h0 : I x0) (hs : Sub st (Z x0)) (h : ∀ x, I x → wpX P sp N base ak live dr c (thenX (fun st' => ∃ y, I y ∧ Sub st' (Z y) ∧ μ y < μ x) K) (Z x)) : wpX P sp N base ak live dr (.loop c) K st := ⟨α, I, Z, μ, Sub, .inl rfl, ⟨x0, h0, hs⟩, h⟩
/-- A loop that leaves objects behind. -/
theorem wpX_loopG {c : Code} {α : Type} (I : α → Prop) (Z : α → St) (μ : α → Nat) (x0 : α) (h0 : I x0) (hs : SubG base st (Z x0)) (h : ∀ x, I x → wpX P sp N base ak live dr c (thenX (fun st' => ∃ y, I y ∧ SubG base st' (Z y) ∧ μ y < μ x) K) (Z x)) : wpX P sp N base ak live dr (.loop c) K st := ⟨α, I, Z, μ, SubG base, .inr rfl, ⟨x0, h0, hs⟩, h⟩
@[simp] theorem SubG_mk {σ σ' : List (Nat × V)} {H H' : Hp} : SubG base ⟨σ, H⟩ ⟨σ', H'⟩ = (base ≤ H'.length ∧ H' <+: H ∧ subG H'.length σ' σ) := rfl
@[simp] theorem subG_nil {n : Nat} {σ : List (Nat × V)} : subG n [] σ = True := rfl
@[simp] theorem subG_cons {n t : Nat} {x : V} {r σ : List (Nat × V)} : subG n ((t, x) :: r) σ = (look σ t = some x ∧ inB n x = true ∧ subG n r σ) := rfl
@[simp] theorem prefix_self (H : Hp) : H <+: H := List.prefix_refl H
@[simp] theorem inB_v (n : Nat) (x : Value) : inB n (.v x) = true := rfl
@[simp] theorem inB_fs (n sz : Nat) (r : Rows) : inB n (.fs sz r) = true := rfl
@[simp] theorem inB_fp (n sz : Nat) (r : Rows) (i k : Nat) : inB n (.fp sz r i k) = true := rfl
@[simp] theorem inB_anyB (n : Nat) : inB n .anyB = true := rfl
@[simp] theorem inB_dead (n : Nat) : inB n .dead = true := rfl
@[simp] theorem inB_ref (n id : Nat) (p : List (Nat × Nat)) (sz o m : Nat) : inB n (.ref id p sz o m) = decide (id < n) := by simp [inB, refs, refs3, refs2, refsC, refs1, V.may?, V.tup?, V.agg?, V.clo?]
@[simp] theorem inB_ptr (n id : Nat) (p : List (Nat × Nat)) (i k : Nat) : inB n (.ptr id p i k) = decide (id < n) := by simp [inB, refs, refs3, refs2, refsC, refs1, V.may?, V.tup?, V.agg?, V.clo?]
@[simp] theorem inB_agg (n : Nat) (vs : List V) : inB n (.agg vs) = vs.all (fun x => (refsC x).all fun r => decide (r.1 < n)) := by simp [inB, refs, refs3, refs2, V.may?, V.tup?, V.agg?, List.all_flatMap]
@[simp] theorem checks_nil {ops : List Oper} {T : List (List Nat)} {i : Nat} : checks P sp ops T i ⟨σ, H⟩ [] = True := rfl
@[simp] theorem checks_cons {ops : List Oper} {T : List (List Nat)} {i j : Nat} {r : List Nat} : checks P sp ops T i ⟨σ, H⟩ (j :: r) = if fltOf ops j && !(T.getD i []).contains j then again P sp ops j ⟨σ, H⟩ ∧ checks P sp ops T i ⟨σ, H⟩ r else checks P sp ops T i ⟨σ, H⟩ r := rfl
@[simp] theorem again_mk {ops : List Oper} {i : Nat} : again P sp ops i ⟨σ, H⟩ = match ops[i]? with
  | some o => match outc P sp ops o (prune (looks ops o) σ) H with
    | some (ks, z, H') => ks = [] ∧ H' = H ∧ (match o.dst with | some d => look σ d = some z | none => True)
    | none => False
  | none => False := rfl
def drF (tab : Nat → List (List Nat) × List Nat) (P : Program) (sp : Nat → Option Spec) (N : Nat) (base : Nat) (ak : List (Nat × Nat)) (id : Nat) (ops : Array Oper) (st : St) (K : St → Prop) : Prop :=
  DrP (regOk ops.toList (tab id).1 N (tab id).2 = true) (fun st => runPlan P sp N base ak ops.toList (tab id).1 [] (tab id).2 st K) st
theorem drF_ok {tab : Nat → List (List Nat) × List Nat} (hm : P.follows .mixedOrders = true) (hsp : ∀ f s, sp f = some s → Meets P f s) (N : Nat) (base : Nat) (ak : List (Nat × Nat)) : DrOk P sp N base ak (drF tab P sp N base ak) :=
  fun id ops st K h => dr_ok hm hsp N base ak id ops st K ⟨_, _, h.1, h.2⟩
@[simp] theorem drF_eq {tab : Nat → List (List Nat) × List Nat} {id : Nat} {ops : Array Oper} {K : St → Prop} : drF tab P sp N base ak id ops ⟨σ, H⟩ K = DrP (regOk ops.toList (tab id).1 N (tab id).2 = true) (fun st => runPlan P sp N base ak ops.toList (tab id).1 [] (tab id).2 st K) ⟨σ, H⟩ := rfl
end
@[simp] theorem KRet_ret {P : Program} {fn : List ResultVar} {base : Nat} {z : V} {H' : Hp} {st : St} : KRet P fn base z H' .ret st = RetOk P fn base z H' st := by simp [KRet]
@[simp] theorem KRet_normal {P : Program} {fn : List ResultVar} {base : Nat} {z : V} {H' : Hp} {st : St} : KRet P fn base z H' .normal st = RetOk P fn base z H' st := by simp [KRet]
@[simp] theorem Sub_mk {σ σ' : List (Nat × V)} {H H' : Hp} : Sub ⟨σ, H⟩ ⟨σ', H'⟩ = (H = H' ∧ subσ σ' σ) := rfl
@[simp] theorem mayQ_v (x : Value) : V.may? (.v x) = none := rfl
@[simp] theorem mayQ_fs (sz : Nat) (r : List (List V)) : V.may? (.fs sz r) = none := rfl
@[simp] theorem mayQ_fp (sz : Nat) (r : List (List V)) (i k : Nat) : V.may? (.fp sz r i k) = none := rfl
@[simp] theorem mayQ_own (sz : Nat) (r : List (List V)) : V.may? (.own sz r) = none := rfl
@[simp] theorem mayQ_box (sz : Nat) (r : List (List V)) : V.may? (.box sz r) = none := rfl
@[simp] theorem mayQ_ref (id : Nat) (p : List (Nat × Nat)) (sz o n : Nat) : V.may? (.ref id p sz o n) = none := rfl
@[simp] theorem mayQ_ptr (id : Nat) (p : List (Nat × Nat)) (i k : Nat) : V.may? (.ptr id p i k) = none := rfl
@[simp] theorem mayQ_agg (vs : List V) : V.may? (.agg vs) = none := rfl
@[simp] theorem mayQ_tup (vs : List V) : V.may? (.tup vs) = none := rfl
@[simp] theorem mayQ_clo (f : Nat) (cs : List V) : V.may? (.clo f cs) = none := rfl
@[simp] theorem mayQ_may (c : Bool) (x : V) : V.may? (.may c x) = some (c, x) := rfl
@[simp] theorem mayQ_anyB  : V.may? (.anyB ) = none := rfl
@[simp] theorem mayQ_dead  : V.may? (.dead ) = none := rfl
@[simp] theorem tupQ_v (x : Value) : V.tup? (.v x) = none := rfl
@[simp] theorem tupQ_fs (sz : Nat) (r : List (List V)) : V.tup? (.fs sz r) = none := rfl
@[simp] theorem tupQ_fp (sz : Nat) (r : List (List V)) (i k : Nat) : V.tup? (.fp sz r i k) = none := rfl
@[simp] theorem tupQ_own (sz : Nat) (r : List (List V)) : V.tup? (.own sz r) = none := rfl
@[simp] theorem tupQ_box (sz : Nat) (r : List (List V)) : V.tup? (.box sz r) = none := rfl
@[simp] theorem tupQ_ref (id : Nat) (p : List (Nat × Nat)) (sz o n : Nat) : V.tup? (.ref id p sz o n) = none := rfl
@[simp] theorem tupQ_ptr (id : Nat) (p : List (Nat × Nat)) (i k : Nat) : V.tup? (.ptr id p i k) = none := rfl
@[simp] theorem tupQ_agg (vs : List V) : V.tup? (.agg vs) = none := rfl
@[simp] theorem tupQ_tup (vs : List V) : V.tup? (.tup vs) = some vs := rfl
@[simp] theorem tupQ_clo (f : Nat) (cs : List V) : V.tup? (.clo f cs) = none := rfl
@[simp] theorem tupQ_may (c : Bool) (x : V) : V.tup? (.may c x) = none := rfl
@[simp] theorem tupQ_anyB  : V.tup? (.anyB ) = none := rfl
@[simp] theorem tupQ_dead  : V.tup? (.dead ) = none := rfl
@[simp] theorem aggQ_v (x : Value) : V.agg? (.v x) = none := rfl
@[simp] theorem aggQ_fs (sz : Nat) (r : List (List V)) : V.agg? (.fs sz r) = none := rfl
@[simp] theorem aggQ_fp (sz : Nat) (r : List (List V)) (i k : Nat) : V.agg? (.fp sz r i k) = none := rfl
@[simp] theorem aggQ_own (sz : Nat) (r : List (List V)) : V.agg? (.own sz r) = none := rfl
@[simp] theorem aggQ_box (sz : Nat) (r : List (List V)) : V.agg? (.box sz r) = none := rfl
@[simp] theorem aggQ_ref (id : Nat) (p : List (Nat × Nat)) (sz o n : Nat) : V.agg? (.ref id p sz o n) = none := rfl
@[simp] theorem aggQ_ptr (id : Nat) (p : List (Nat × Nat)) (i k : Nat) : V.agg? (.ptr id p i k) = none := rfl
@[simp] theorem aggQ_agg (vs : List V) : V.agg? (.agg vs) = some vs := rfl
@[simp] theorem aggQ_tup (vs : List V) : V.agg? (.tup vs) = none := rfl
@[simp] theorem aggQ_clo (f : Nat) (cs : List V) : V.agg? (.clo f cs) = none := rfl
@[simp] theorem aggQ_may (c : Bool) (x : V) : V.agg? (.may c x) = none := rfl
@[simp] theorem aggQ_anyB  : V.agg? (.anyB ) = none := rfl
@[simp] theorem aggQ_dead  : V.agg? (.dead ) = none := rfl
@[simp] theorem cloQ_v (x : Value) : V.clo? (.v x) = none := rfl
@[simp] theorem cloQ_fs (sz : Nat) (r : List (List V)) : V.clo? (.fs sz r) = none := rfl
@[simp] theorem cloQ_fp (sz : Nat) (r : List (List V)) (i k : Nat) : V.clo? (.fp sz r i k) = none := rfl
@[simp] theorem cloQ_own (sz : Nat) (r : List (List V)) : V.clo? (.own sz r) = none := rfl
@[simp] theorem cloQ_box (sz : Nat) (r : List (List V)) : V.clo? (.box sz r) = none := rfl
@[simp] theorem cloQ_ref (id : Nat) (p : List (Nat × Nat)) (sz o n : Nat) : V.clo? (.ref id p sz o n) = none := rfl
@[simp] theorem cloQ_ptr (id : Nat) (p : List (Nat × Nat)) (i k : Nat) : V.clo? (.ptr id p i k) = none := rfl
@[simp] theorem cloQ_agg (vs : List V) : V.clo? (.agg vs) = none := rfl
@[simp] theorem cloQ_tup (vs : List V) : V.clo? (.tup vs) = none := rfl
@[simp] theorem cloQ_clo (f : Nat) (cs : List V) : V.clo? (.clo f cs) = some (f, cs) := rfl
@[simp] theorem cloQ_may (c : Bool) (x : V) : V.clo? (.may c x) = none := rfl
@[simp] theorem cloQ_anyB  : V.clo? (.anyB ) = none := rfl
@[simp] theorem cloQ_dead  : V.clo? (.dead ) = none := rfl
@[simp] theorem refsQ_v (x : Value) : refs (.v x) = [] := rfl
@[simp] theorem refsQ_fs (sz : Nat) (r : List (List V)) : refs (.fs sz r) = [] := rfl
@[simp] theorem refsQ_fp (sz : Nat) (r : List (List V)) (i k : Nat) : refs (.fp sz r i k) = [] := rfl
@[simp] theorem refsQ_own (sz : Nat) (r : List (List V)) : refs (.own sz r) = [] := rfl
@[simp] theorem refsQ_box (sz : Nat) (r : List (List V)) : refs (.box sz r) = [] := rfl
@[simp] theorem refsQ_ref (id : Nat) (p : List (Nat × Nat)) (sz o n : Nat) : refs (.ref id p sz o n) = [(id, p)] := rfl
@[simp] theorem refsQ_ptr (id : Nat) (p : List (Nat × Nat)) (i k : Nat) : refs (.ptr id p i k) = [(id, p)] := rfl
@[simp] theorem refsQ_agg (vs : List V) : refs (.agg vs) = vs.flatMap refsC := rfl
@[simp] theorem refsQ_tup (vs : List V) : refs (.tup vs) = vs.flatMap refs2 := rfl
@[simp] theorem refsQ_clo (f : Nat) (cs : List V) : refs (.clo f cs) = cs.flatMap refs1 := rfl
@[simp] theorem refsQ_may (c : Bool) (x : V) : refs (.may c x) = refs3 x := rfl
@[simp] theorem refsQ_anyB  : refs (.anyB ) = [] := rfl
@[simp] theorem refsQ_dead  : refs (.dead ) = [] := rfl
@[simp] theorem killQ_v (ks : List (Nat × Nat)) (x : Value) : killV ks (.v x) = .v x := by simp [killV]
@[simp] theorem killQ_fs (ks : List (Nat × Nat)) (sz : Nat) (r : List (List V)) : killV ks (.fs sz r) = .fs sz r := by simp [killV]
@[simp] theorem killQ_fp (ks : List (Nat × Nat)) (sz : Nat) (r : List (List V)) (i k : Nat) : killV ks (.fp sz r i k) = .fp sz r i k := by simp [killV]
@[simp] theorem killQ_own (ks : List (Nat × Nat)) (sz : Nat) (r : List (List V)) : killV ks (.own sz r) = .own sz r := by simp [killV]
@[simp] theorem killQ_box (ks : List (Nat × Nat)) (sz : Nat) (r : List (List V)) : killV ks (.box sz r) = .box sz r := by simp [killV]
@[simp] theorem killQ_ref (ks : List (Nat × Nat)) (id : Nat) (p : List (Nat × Nat)) (sz o n : Nat) : killV ks (.ref id p sz o n) = if ks.any (fun k => k.1 == id && decide (k.2 ≤ p.length)) then .dead else .ref id p sz o n := by unfold killV; rw [refsQ_ref]; simp only [List.any_cons, List.any_nil, Bool.or_false]
@[simp] theorem killQ_ptr (ks : List (Nat × Nat)) (id : Nat) (p : List (Nat × Nat)) (i k : Nat) : killV ks (.ptr id p i k) = if ks.any (fun k => k.1 == id && decide (k.2 ≤ p.length)) then .dead else .ptr id p i k := by unfold killV; rw [refsQ_ptr]; simp only [List.any_cons, List.any_nil, Bool.or_false]
@[simp] theorem killQ_agg (ks : List (Nat × Nat)) (vs : List V) : killV ks (.agg vs) = if (vs.flatMap refsC).any (fun r => ks.any fun k => k.1 == r.1 && decide (k.2 ≤ r.2.length)) then .dead else .agg vs := rfl
@[simp] theorem killQ_tup (ks : List (Nat × Nat)) (vs : List V) : killV ks (.tup vs) = if (vs.flatMap refs2).any (fun r => ks.any fun k => k.1 == r.1 && decide (k.2 ≤ r.2.length)) then .dead else .tup vs := rfl
@[simp] theorem killQ_clo (ks : List (Nat × Nat)) (f : Nat) (cs : List V) : killV ks (.clo f cs) = if (cs.flatMap refs1).any (fun r => ks.any fun k => k.1 == r.1 && decide (k.2 ≤ r.2.length)) then .dead else .clo f cs := rfl
@[simp] theorem killQ_may (ks : List (Nat × Nat)) (c : Bool) (x : V) : killV ks (.may c x) = if (refs3 x).any (fun r => ks.any fun k => k.1 == r.1 && decide (k.2 ≤ r.2.length)) then .dead else .may c x := rfl
@[simp] theorem killQ_anyB (ks : List (Nat × Nat))  : killV ks (.anyB ) = .anyB  := by simp [killV]
@[simp] theorem killQ_dead (ks : List (Nat × Nat))  : killV ks (.dead ) = .dead  := by simp [killV]
attribute [simp] Value.oneCell' moveE s2b sameB b2s strRows buildV bfill splice evParts fldOk kept kept1 inOrder litRows srcV_eq appendE copyE ovr callE evs conv cell1 cells1 flds shapeOk node nodeAt cellAt V.kid setC updRows updH putCells noKids toTmp part
attribute [simp] List.getElem?_append_right List.getElem?_append_left List.set_append_right List.set_append_left
attribute [simp] pack loadRow subσ stepD outc looks Oper.looksAt Op.operands Call.operands fltOf stepOp exec2 execM exec1 fltV look put putσ isFlt gw allowed binV evP plain plain1 plains nilConst ofV liveσ prune initσ intOp bndV evO evPs evs
  nilV isNil isSl nilTy pickV boolOf noMay lenV_eq indexAddrV_eq fieldAddrV loadV_eq fieldV sliceV_eq
  RetOk retV oneOf V.one keeps dd Eng.noDup noClo renum outH ren3 ren2 renC ren1 refs3 refs2 refsC refs1 kdirs kdir idxOf
attribute [simp] storeM appendM appendC appR litE boxM root1 rootAll rootRows rowsM cellM cellsM heldOf heldAll dropAll trimH splitLast interior outlives noDupB allMoves

end Go.Eng

namespace Go.Eng
open Go.RowKit
set_option linter.unusedSectionVars false
set_option linter.unusedVariables false
set_option linter.unusedSimpArgs false
variable [Globs]

def andI (k : IntKind) (a b : Int) : Int := k.wrap (BitVec.ofInt k.bits a &&& BitVec.ofInt k.bits b).toNat
def orI (k : IntKind) (a b : Int) : Int := k.wrap (BitVec.ofInt k.bits a ||| BitVec.ofInt k.bits b).toNat
def xorI (k : IntKind) (a b : Int) : Int := k.wrap (BitVec.ofInt k.bits a ^^^ BitVec.ofInt k.bits b).toNat
def andNotI (k : IntKind) (a b : Int) : Int := k.wrap (BitVec.ofInt k.bits a &&& ~~~BitVec.ofInt k.bits b).toNat
def shlI (k : IntKind) (a b : Int) : Int := k.wrap (a * 2 ^ (min b.toNat k.bits))
def shrI (k : IntKind) (a b : Int) : Int := a.fdiv (2 ^ (min b.toNat k.bits))
def convRaw (P : Program) (s d : Nat) (x : Value) : Option Value := pureRun P (convert s d x)
def convR (P : Program) (s d : Nat) (k : IntKind) (n : Int) : Option Value :=
  match P.underlying s, P.underlying d with
  | some _, some (.int k') => some (.int k' (k'.wrap n))
  | _, _ => convRaw P s d (.int k n)

section
variable {P : Program} {t : TypeId} {x y : Operand} {k : IntKind} {a b : Int}
theorem pr_panic {α : Type} (e : String) : pureRun P (runtimePanic (.error e) : Sem α) = none := rfl
@[simp] theorem p_and : pureRun P (do eqGuard .and t x y (.int k a) (.int k b); binOp .and t (.int k a) (.int k b)) = some (.int k (andI k a b)) := by
  simp [eqGuard, binOp, Op.intBits, pureRun_bind, pureRun_pure, andI]
@[simp] theorem p_or : pureRun P (do eqGuard .or t x y (.int k a) (.int k b); binOp .or t (.int k a) (.int k b)) = some (.int k (orI k a b)) := by
  simp [eqGuard, binOp, Op.intBits, pureRun_bind, pureRun_pure, orI]
@[simp] theorem p_xor : pureRun P (do eqGuard .xor t x y (.int k a) (.int k b); binOp .xor t (.int k a) (.int k b)) = some (.int k (xorI k a b)) := by
  simp [eqGuard, binOp, Op.intBits, pureRun_bind, pureRun_pure, xorI]
@[simp] theorem p_andNot : pureRun P (do eqGuard .andNot t x y (.int k a) (.int k b); binOp .andNot t (.int k a) (.int k b)) = some (.int k (andNotI k a b)) := by
  simp [eqGuard, binOp, Op.intBits, pureRun_bind, pureRun_pure, andNotI]
@[simp] theorem p_shl {k' : IntKind} : pureRun P (do eqGuard .shl t x y (.int k a) (.int k' b); binOp .shl t (.int k a) (.int k' b)) = if b < 0 then none else some (.int k (shlI k a b)) := by
  simp only [eqGuard, binOp, Op.shift, pureRun_bind, shlI]
  by_cases h : b < 0
  · simp [h, pr_panic]
  · simp [h, pureRun_pure]
@[simp] theorem p_shr {k' : IntKind} : pureRun P (do eqGuard .shr t x y (.int k a) (.int k' b); binOp .shr t (.int k a) (.int k' b)) = if b < 0 then none else some (.int k (shrI k a b)) := by
  simp only [eqGuard, binOp, Op.shift, pureRun_bind, shrI]
  by_cases h : b < 0
  · simp [h, pr_panic]
  · simp [h, pureRun_pure]
@[simp] theorem p_quo : pureRun P (do eqGuard .quo t x y (.int k a) (.int k b); binOp .quo t (.int k a) (.int k b)) = if b = 0 then none else some (.int k (k.wrap (a.tdiv b))) := by
  simp only [eqGuard, binOp, Op.intDiv, pureRun_bind]
  by_cases h : b = 0
  · simp [h, pr_panic]
  · simp [h, pureRun_pure]
@[simp] theorem p_rem : pureRun P (do eqGuard .rem t x y (.int k a) (.int k b); binOp .rem t (.int k a) (.int k b)) = if b = 0 then none else some (.int k (a.tmod b)) := by
  simp only [eqGuard, binOp, Op.intDiv, pureRun_bind]
  by_cases h : b = 0
  · simp [h, pr_panic]
  · simp [h, pureRun_pure]
@[simp] theorem p_conv {s d : Nat} : pureRun P (convert s d (.int k a)) = convR P s d k a := by
  unfold convR convRaw
  split
  · rename_i u k' h1 h2
    have e1 : ∀ t d, P.underlying t = some d → pureRun P (underlying t) = some d := by
      intro t d h
      simp only [underlying, pureRun_bind, show pureRun P program = some P from rfl, Option.bind_some, h]
      rfl
    unfold convert
    simp only [pureRun_bind, e1 _ _ h1, e1 _ _ h2, Option.bind_some]
    rfl
  · rfl
@[simp] theorem p_neg : pureRun P (Op.unary .neg (.int k a)) = some (.int k (k.wrap (0 - a))) := rfl
@[simp] theorem p_eqS {u v : ByteArray} : pureRun P (do eqGuard .eql t x y (.string u) (.string v); binOp .eql t (.string u) (.string v)) = some (.bool (decide (u.toList = v.toList))) := by
  simp [eqGuard, binOp, Op.stringOp, pureRun_bind, pureRun_pure]
  rw [Bool.eq_iff_iff]; simp
@[simp] theorem p_neS {u v : ByteArray} : pureRun P (do eqGuard .neq t x y (.string u) (.string v); binOp .neq t (.string u) (.string v)) = some (.bool (!decide (u.toList = v.toList))) := by
  simp [eqGuard, binOp, Op.stringOp, pureRun_bind, pureRun_pure]
  rw [Bool.eq_iff_iff]; simp
@[simp] theorem p_addS {u v : ByteArray} : pureRun P (do eqGuard .add t x y (.string u) (.string v); binOp .add t (.string u) (.string v)) = if (u.size + v.size : Int) ≤ 9223372036854775807 then some (.string (u ++ v)) else none := by
  simp only [eqGuard, binOp, Op.stringOp, pureRun_bind, pureRun_pure]
  have e : IntKind.i64.max = 9223372036854775807 := rfl
  rw [e]
  by_cases h : ((u.size + v.size : Nat) : Int) > 9223372036854775807
  · have h2 : ¬ ((u.size : Int) + (v.size : Int) ≤ 9223372036854775807) := by omega
    simp only [h, h2, if_true, if_false]; rfl
  · have h2 : (u.size : Int) + (v.size : Int) ≤ 9223372036854775807 := by omega
    simp only [h, h2, if_true, if_false]; rfl
end
attribute [simp] convR
end Go.Eng

namespace Go.Eng
open Go.RowKit
set_option linter.unusedSectionVars false
set_option linter.unusedVariables false
set_option linter.unusedSimpArgs false
variable [Globs]
@[simp] theorem allCopies_cons (r : List V) (rows : Rows) : allCopies (r :: rows) = (r.all V.copies && allCopies rows) := rfl
@[simp] theorem allCopies_append (r rows : Rows) : allCopies (r ++ rows) = (allCopies r && allCopies rows) := by simp [allCopies]
attribute [simp] V.copies
section
variable {H : Hp} {x : V} {xs : List Int} {k : IntKind} {sz : Nat} {rows : Rows}
theorem slc_one (h : slc H x = some (sz, rows)) : V.may? x = none ∧ V.tup? x = none ∧ V.agg? x = none ∧ V.clo? x = none ∧ V.one x = true ∧ isSl x = true ∧ shapeOk x = true ∧ (∀ j, V.may? (elemP x j) = none) ∧ boolOf x = none := by
  rcases slc_cases h with rfl | ⟨id, p, off, n, rows', rfl, hn, hc, rfl⟩ <;> exact ⟨rfl, rfl, rfl, rfl, rfl, rfl, rfl, fun _ => rfl, rfl⟩
theorem slcI_all (h : slcI k H x = some xs) :
    (∀ c, evL c (some x) = some x) ∧ (∀ c j, evL c (some (elemP x j)) = some (elemP x j)) ∧
    (V.may? x = none ∧ V.tup? x = none ∧ V.agg? x = none ∧ V.clo? x = none ∧ V.one x = true ∧ isSl x = true ∧ (∀ j, V.may? (elemP x j) = none)) ∧
    (∀ (P : Program) t ty, (tslice P t).map (fun r => r.2.1) = some 1 → lnV P t ty x = some (.v (.int .i64 xs.length))) ∧
    (∀ (P : Program) t (i : Nat), (tslice P t).map (fun r => r.2.1) = some 1 → i < xs.length → idx P t x (i : Int) = some (elemP x i)) ∧
    (∀ (P : Program) t (i : Nat), (tslice P t).map (fun r => r.2.1) = some 1 → (i + 1) < xs.length → idx P t x ((i : Int) + 1) = some (elemP x (i + 1))) ∧
    ((∀ (P : Program) t, (tslice P t).map (fun r => r.2.1) = some 1 → 0 < xs.length → idx P t x 0 = some (elemP x 0)) ∧ (∀ (P : Program) t, (tslice P t).map (fun r => r.2.1) = some 1 → 1 < xs.length → idx P t x 1 = some (elemP x 1)) ∧
     (∀ (P : Program) t, (tslice P t).map (fun r => r.2.1) = some 1 → 2 < xs.length → idx P t x 2 = some (elemP x 2)) ∧ (∀ (P : Program) t, (tslice P t).map (fun r => r.2.1) = some 1 → 3 < xs.length → idx P t x 3 = some (elemP x 3))) ∧
    (∀ (P : Program) t j, tinfo P t = some (false, 1) → (hj : j < xs.length) → ld P H t (elemP x j) = some (.v (.int k xs[j]))) ∧
    src H 1 x = some (xs.map (row1 k)) := by
  have o := slc_one (slcI_eq h)
  refine ⟨slcI_ev h, fun c j => slcI_evE h c j, ⟨o.1, o.2.1, o.2.2.1, o.2.2.2.1, o.2.2.2.2.1, o.2.2.2.2.2.1, o.2.2.2.2.2.2.2.1⟩, fun P t ty ht => slcI_ln h ht, fun P t i ht hi => slcI_idxN h ht hi, fun P t i ht hi => by simpa using slcI_idxN (P := P) h ht hi, ⟨fun P t ht hi => ?_, fun P t ht hi => ?_, fun P t ht hi => ?_, fun P t ht hi => ?_⟩, fun P t j ht hj => slcI_ld h ht hj, slcI_src h⟩
  · simpa using slcI_idxN (P := P) h ht hi
  · simpa using slcI_idxN (P := P) h ht hi
  · simpa using slcI_idxN (P := P) h ht hi
  · simpa using slcI_idxN (P := P) h ht hi
theorem slcI_root {id off n : Nat} : slcI k H (.ref id [] 1 off n) = match H[id]? with
    | some (some (1, rows)) => if off + n ≤ rows.length then unI k (part rows off n) else none
    | _ => none := by
  unfold slcI
  simp only [slc_ref, node]
  cases h : H[id]? with
  | none => rfl
  | some x =>
    cases x with
    | none => rfl
    | some nd =>
      obtain ⟨sz, rows⟩ := nd
      simp only [nodeAt]
      by_cases h1 : sz = 1
      · subst h1
        by_cases h2 : off + n ≤ rows.length <;> simp [h2]
      · simp [h1]
theorem slcI_lit (r : Int) : slcI k H (.fs 1 [[.v (.int k r)]]) = some [r] := by simp [slcI, unI]
theorem slcI_fs' (rows : Rows) : slcI k H (.fs 1 rows) = unI k rows := rfl
theorem unI_take (n : Nat) : unI k (List.take n (List.map (row1 k) xs)) = some (xs.take n) := by rw [← List.map_take, unI_map]
theorem unI_drop (n : Nat) : unI k (List.drop n (List.map (row1 k) xs)) = some (xs.drop n) := by rw [← List.map_drop, unI_map]
theorem unI_td (n m : Nat) : unI k (List.take n (List.drop m (List.map (row1 k) xs))) = some ((xs.drop m).take n) := by rw [← List.map_drop, ← List.map_take, unI_map]
theorem unI_cons (i : Int) (rows : Rows) : unI k ([.v (.int k i)] :: rows) = match unI k rows with | some l => some (i :: l) | none => none := by
  simp only [unI, if_true]
  cases unI k rows <;> rfl
theorem unI_row (i : Int) (rows : Rows) : unI k (row1 k i :: rows) = match unI k rows with | some l => some (i :: l) | none => none := by
  simp only [row1, unI, if_true]
  cases unI k rows <;> rfl
theorem unI_nil : unI k [] = some [] := rfl
theorem unI_append : ∀ (a b : Rows), unI k (a ++ b) = match unI k a, unI k b with | some x, some y => some (x ++ y) | _, _ => none
  | [], b => by simp only [List.nil_append, unI_nil]; cases unI k b <;> rfl
  | r :: a, b => by
    have ih := unI_append a b
    simp only [List.cons_append]
    cases hr : unI k [r] with
    | none =>
      have e : ∀ rows, unI k (r :: rows) = none := by
        intro rows
        unfold unI at hr ⊢
        split at hr
        · rename_i h; cases h
        · rename_i k' i l h
          injection h with h1 h2
          subst h1
          simp only
          split at hr
          · subst h2; simp [unI] at hr
          · rename_i hk; rw [if_neg hk]
        · rename_i h1 h2
          split
          · rename_i h3; cases h3
          · rename_i k' i l h3
            injection h3 with h3 h4
            exact absurd (by rw [h3]) (h2 k' i [])
          · rfl
      rw [e, e]
    | some q =>
      have hq : ∃ i, r = [.v (.int k i)] := by
        unfold unI at hr
        split at hr
        · rename_i h; cases h
        · rename_i k' i l h
          injection h with h1 h2
          split at hr
          · rename_i hk; exact ⟨i, by rw [h1, hk]⟩
          · cases hr
        · cases hr
      obtain ⟨i, rfl⟩ := hq
      rw [unI_cons, unI_cons, ih]
      cases unI k a <;> cases unI k b <;> rfl
/-- A heap that has grown: nothing is forgotten. -/
theorem slcI_gall (h : slcI k H x = some xs) :
    (∀ ys (P : Program) t j, tinfo P t = some (false, 1) → (hj : j < xs.length) → ld P (H ++ ys) t (elemP x j) = some (.v (.int k xs[j]))) ∧
    (∀ ys, src (H ++ ys) 1 x = some (xs.map (row1 k))) ∧ (∀ ys, slcI k (H ++ ys) x = some xs) ∧
    (∀ ks : List (Nat × Nat), ks.all (fun k => decide (H.length ≤ k.1)) = true → killV ks x = x) :=
  ⟨fun ys P t j ht hj => slcI_ld (slcI_grow h ys) ht hj, fun ys => slcI_src (slcI_grow h ys), slcI_grow h, fun ks => slcI_kill h⟩
end
end Go.Eng

namespace Go.Eng
open Go.RowKit Go.ChangeShapes Go.WideShapes Go.ChangeAt
set_option linter.unusedSectionVars false
set_option linter.unusedVariables false


theorem addA (b o n : Nat) : (⟨b, o, none⟩ : Addr).add n = ⟨b, o + n, none⟩ := by unfold Addr.add; split <;> simp_all
theorem cell?_spot {w : World} {a : Addr} {v : Value} (h : w.cell? a = some v) : a.spot = none ∧ a.block < w.heap.size := by
  unfold World.cell? at h
  split at h
  · rename_i c _ _ hb
    split at h
    · cases h
    · rename_i hs
      refine ⟨by simpa using hs, ?_⟩
      rcases Nat.lt_or_ge a.block w.heap.size with h | h
      · exact h
      · rw [Array.getElem?_eq_none h] at hb; cases hb
  · cases h

/-- Numbers that are handed in. -/
theorem ints_RV {H : Type} {enc : TypeId × Value → H} {P : Program} {W : World} {held : Bool} {t e : TypeId} {k : IntKind} {fuel : Nat} {a : Option Addr} {len cap : Nat} {x : DataW H × List MemPlace}
    (ht : P.underlying t = some (.slice e)) (he : P.underlying e = some (.int k)) (hc : P.cellsOf e = 1)
    (h : DataW.trod enc P W 0 (fun _ => true) held fuel t (Value.cells (.slice a len cap)).toList = some x) :
    ∃ zs : List Int, RV W (Old W) (fun _ _ => none) [] (.fs 1 (zs.map (row1 k))) (.slice a len cap) ∧ (∀ n ∈ zs, (Lit.int k n).wf = true) ∧ ((x.1 = .nil ∧ zs = []) ∨ ∃ spare, x.1 = .slice (lits k zs) spare) := by
  rcases open_ints ht he hc h with ⟨hcs, hx⟩ | ⟨b, l, c, zs, hcs, _, hl, hm, hz, hx, hcell, hwz⟩
  · simp [Value.cells] at hcs
    obtain ⟨rfl, rfl, rfl⟩ := hcs
    exact ⟨[], .fsnil 1 none 0, by simp, .inl ⟨by rw [hx], rfl⟩⟩
  · simp [Value.cells] at hcs
    obtain ⟨rfl, rfl, rfl⟩ := hcs
    simp at hz
    refine ⟨zs.take len, ?_, fun n hn => hwz n (List.mem_of_mem_take hn), .inr ⟨_, by rw [hx]⟩⟩
    rcases Nat.eq_zero_or_pos len with h0 | h0
    · subst h0
      exact .fsnil 1 _ cap
    · have c0 := hcell 0 (by omega)
      obtain ⟨s1, s2⟩ := cell?_spot c0
      obtain ⟨bb, bo, bs⟩ := b
      simp only [Addr.add] at s1 s2
      subst s1
      have hlen : ((zs.take len).map (row1 k)).length = len := by simp; omega
      have := RepF.fs (w := W) (F := Old W) 1 ((zs.take len).map (row1 k)) bb bo cap (fun i _ => .int k (zs.getD i 0)) s2 (by rw [hlen]; exact hl)
        (fun i row hr => by
          rw [List.getElem?_map] at hr
          cases hq : (zs.take len)[i]? with
          | none => rw [hq] at hr; cases hr
          | some q => rw [hq] at hr; simp only [Option.map_some, Option.some.injEq] at hr; subst hr; rfl)
        (fun i j row c hr hj => by
          rw [List.getElem?_map] at hr
          cases hq : (zs.take len)[i]? with
          | none => rw [hq] at hr; cases hr
          | some q =>
            rw [hq] at hr; simp only [Option.map_some, Option.some.injEq] at hr; subst hr
            have hi : i < len := by
              rcases Nat.lt_or_ge i len with h | h
              · exact h
              · rw [List.getElem?_eq_none (by simp; omega)] at hq; cases hq
            cases j with
            | zero =>
              have := hcell i (by omega)
              rw [addA] at this
              simpa using this
            | succ j => simp [row1] at hj)
        (fun i j row c hr hj => by
          rw [List.getElem?_map] at hr
          cases hq : (zs.take len)[i]? with
          | none => rw [hq] at hr; cases hr
          | some q =>
            rw [hq] at hr; simp only [Option.map_some, Option.some.injEq] at hr; subst hr
            cases j with
            | zero =>
              simp only [row1, List.getElem?_cons_zero, Option.some.injEq] at hj
              subst hj
              have e : zs.getD i 0 = q := by
                rw [List.getElem?_take] at hq
                split at hq
                · rw [List.getD_eq_getElem?_getD, hq]; rfl
                · cases hq
              rw [e]
              exact .v _
            | succ j => simp [row1] at hj)
      rw [hlen] at this
      exact this

/-- Tables that the program lays. -/
@[reducible] def globsOf (W : World) (view : Nat → Option (Nat × Rows)) (ids : List Nat) (hb : ∀ g ∈ ids, g < W.heap.size)
    (h : ∀ g sz rows, view g = some (sz, rows) → RepF W (fun b => b ∈ ids) (.fp sz rows 0 0) (.pointer (some ⟨g, 0, none⟩))) : Globs where
  val := ids.map fun g => (g, W.heap.getD g (.cells #[] 0))
  view := view
  ok := by
    intro g sz rows w F hv hg
    refine RepF.mono (fun b hbm => ?_) (fun b hbm => ?_) (h g sz rows hg)
    · have := (hv (b, W.heap.getD b (.cells #[] 0)) (List.mem_map.2 ⟨b, hbm, rfl⟩)).2
      simp only at this
      rw [this, Array.getD_eq_getD_getElem?, Array.getElem?_eq_getElem (hb b hbm)]
      rfl
    · exact (hv (b, W.heap.getD b (.cells #[] 0)) (List.mem_map.2 ⟨b, hbm, rfl⟩)).1

theorem globsOf_ok (W : World) (view : Nat → Option (Nat × Rows)) (ids : List Nat) (hb : ∀ g ∈ ids, g < W.heap.size)
    (h : ∀ g sz rows, view g = some (sz, rows) → RepF W (fun b => b ∈ ids) (.fp sz rows 0 0) (.pointer (some ⟨g, 0, none⟩))) : @GlobOk (globsOf W view ids hb h) W (Old W) := by
  intro p hp
  obtain ⟨g, hg, rfl⟩ := List.mem_map.1 hp
  have hlt := hb g hg
  exact ⟨hlt, by rw [Array.getD_eq_getD_getElem?, Array.getElem?_eq_getElem hlt]; rfl⟩

/-- A row of numbers in one block. -/
theorem table_RepF (W : World) {F : Nat → Prop} {g : Nat} (k : IntKind) (zs : List Int) (hF : F g) (hc : ∀ i, i < zs.length → W.cell? ⟨g, i, none⟩ = some (.int k (zs.getD i 0))) : RepF W F (.fp zs.length [zs.map fun z => .v (.int k z)] 0 0) (.pointer (some ⟨g, 0, none⟩)) := by
  have := RepF.fp (w := W) (F := F) zs.length [zs.map fun z => .v (.int k z)] 0 0 g 0 (fun _ j => .int k (zs.getD j 0)) hF
    (fun i row hr => by
      cases i with
      | zero => simp at hr; subst hr; simp
      | succ i => simp at hr)
    (fun i j row c hr hj => by
      cases i with
      | zero =>
        simp at hr; subst hr
        have hjl : j < zs.length := by
          rcases Nat.lt_or_ge j zs.length with h | h
          · exact h
          · rw [List.getElem?_eq_none (by simpa using h)] at hj; cases hj
        simpa using hc j hjl
      | succ i => simp at hr)
    (fun i j row c hr hj => by
      cases i with
      | zero =>
        simp at hr; subst hr
        rw [List.getElem?_map] at hj
        cases hq : zs[j]? with
        | none => rw [hq] at hj; cases hj
        | some q =>
          rw [hq] at hj
          simp only [Option.map_some, Option.some.injEq] at hj
          subst hj
          rw [List.getD_eq_getElem?_getD, hq]
          exact .v _
      | succ i => simp at hr)
  simpa using this
end Go.Eng

namespace Go.Eng
open Go.RowKit Go.ChangeShapes Go.WideShapes Go.ChangeAt
set_option linter.unusedSectionVars false
set_option linter.unusedVariables false

def fieldsR {H : Type} (R : TypeId → List V → DataW H → Prop) (sz : TypeId → Nat) : List Field → List V → List (DataW H) → Prop
  | [], vs, ds => vs = [] ∧ ds = []
  | f :: fs, vs, ds => ∃ v w d ds', vs = v ++ w ∧ ds = d :: ds' ∧ R f.type v d ∧ v.length = sz f.type ∧ fieldsR R sz fs w ds'

/-- What an input reads as, and what the abstract machine sees. -/
def Rd (P : Program) {H : Type} : Nat → TypeId → List V → DataW H → Prop
  | 0, _, _, _ => False
  | n + 1, t, vs, d => match P.underlying t with
    | some .bool => ∃ b, vs = [.v (.bool b)] ∧ d = .lit (.bool b)
    | some (.int k) => ∃ z, vs = [.v (.int k z)] ∧ d = .lit (.int k z) ∧ (Lit.int k z).wf = true
    | some .string => ∃ s : ByteArray, vs = [.v (.string s)] ∧ d = .lit (.string s.data.toList) ∧ s.size ≤ maxLen
    | some (.slice e) => (vs = [.fs (P.cellsOf e) []] ∧ d = .nil) ∨ ∃ rows elems spare, vs = [.fs (P.cellsOf e) rows] ∧ d = .slice elems spare ∧ rows.length = elems.length ∧
        ∀ (i : Nat) (row : List V) (x : DataW H), rows[i]? = some row → elems[i]? = some x → Rd P n e row x
    | some (.struct fs) => ∃ parts, d = .agg parts ∧ fieldsR (Rd P n) P.cellsOf fs.toList vs parts
    | _ => False

def seqOk (P : Program) : Nat → List Field → Option Nat
  | o, [] => some o
  | o, f :: fs => if f.offset = o then seqOk P (o + P.cellsOf f.type) fs else none

def pty (P : Program) : Nat → TypeId → Bool
  | 0, _ => false
  | n + 1, t => match P.underlying t with
    | some .bool => P.cellsOf t == 1
    | some (.int _) => P.cellsOf t == 1
    | some .string => P.cellsOf t == 1
    | some (.slice e) => decide (0 < P.cellsOf e) && pty P n e && P.cellsOf t == 1
    | some (.struct fs) => (fs.toList.all fun f => pty P n f.type) && (seqOk P 0 fs.toList == some (P.cellsOf t))
    | _ => false

theorem mem_cells? {w : World} {a : Addr} {n : Nat} {cs : List Value} (h : w.cells? 0 a n = some cs) : cs.length = n ∧ ∀ i, i < n → w.cell? (a.add i) = cs[i]? := by
  unfold World.cells? at h
  rw [if_pos (Nat.zero_le _)] at h
  have hl := mapM_some_length h
  refine ⟨by simpa using hl, fun i hi => ?_⟩
  have := mapM_some_get h i i (by simp [hi])
  exact this

theorem rowsR_len {H : Type} {R : TypeId → List V → DataW H → Prop} {sz : TypeId → Nat} : ∀ {fs : List Field} {vs : List V} {ds : List (DataW H)}, fieldsR R sz fs vs ds → vs.length = (fs.map fun f => sz f.type).sum
  | [], vs, ds, h => by obtain ⟨rfl, rfl⟩ := h; rfl
  | f :: fs, vs, ds, h => by
    obtain ⟨v, w, d, ds', rfl, rfl, _, hl, h'⟩ := h
    simp only [List.length_append, List.map_cons, List.sum_cons, hl, rowsR_len h']

theorem seqOk_sum {P : Program} : ∀ {fs : List Field} {o m : Nat}, seqOk P o fs = some m → m = o + (fs.map fun f => P.cellsOf f.type).sum
  | [], o, m, h => by simp only [seqOk, Option.some.injEq] at h; subst h; rfl
  | f :: fs, o, m, h => by
    simp only [seqOk] at h
    split at h
    · have := seqOk_sum h
      simp only [List.map_cons, List.sum_cons]; omega
    · cases h

theorem open_Rd {H : Type} {enc : TypeId × Value → H} {P : Program} {W : World} {held : Bool} : ∀ (n : Nat) (t : TypeId) (fuel : Nat) (cs : List Value) (x : DataW H × List MemPlace), pty P n t = true →
    DataW.trod enc P W 0 (fun _ => true) held fuel t cs = some x → ∃ vs : List V, vs.length = cs.length ∧ cs.length = P.cellsOf t ∧ Rd P n t vs x.1 ∧ ∀ (i : Nat) (c : V) (y : Value), vs[i]? = some c → cs[i]? = some y → RepF W (Old W) c y
  | 0, t, fuel, cs, x, hp, h => by simp [pty] at hp
  | n + 1, t, fuel, cs, x, hp, h => by
    have one : ∀ y : Value, ∀ (i : Nat) (c : V) (z : Value), [V.v y][i]? = some c → [y][i]? = some z → RepF W (Old W) c z := by
      intro y i c z hc hz
      cases i with
      | zero => simp at hc hz; subst hc; subst hz; exact .v _
      | succ i => simp at hc
    cases hu : P.underlying t with
    | none => simp [pty, hu] at hp
    | some td =>
      cases td with
      | bool =>
        simp [pty, hu] at hp
        obtain ⟨b, rfl, rfl⟩ := DataW.trod_bool hu h
        exact ⟨[.v (.bool b)], rfl, by simp [hp], by unfold Rd; rw [hu]; exact ⟨b, rfl, rfl⟩, one _⟩
      | int k =>
        simp [pty, hu] at hp
        obtain ⟨z, rfl, rfl, hw⟩ := DataW.trod_int hu h
        exact ⟨[.v (.int k z)], rfl, by simp [hp], by unfold Rd; rw [hu]; exact ⟨z, rfl, rfl, hw⟩, one _⟩
      | string =>
        simp [pty, hu] at hp
        obtain ⟨s, rfl, rfl, hs⟩ := DataW.trod_string hu h
        exact ⟨[.v (.string s)], rfl, by simp [hp], by unfold Rd; rw [hu]; exact ⟨s, rfl, rfl, hs⟩, one _⟩
      | slice e =>
        simp only [pty, hu, Bool.and_eq_true, decide_eq_true_eq, beq_iff_eq] at hp
        obtain ⟨⟨hsz, hpe⟩, hct⟩ := hp
        rcases DataW.trod_slice hu h with ⟨rfl, rfl⟩ | ⟨a, len, cap, elems, rest, m, _, rfl, rfl, hb, hl, hm, hlen, hel, _, _⟩
        · refine ⟨[.fs (P.cellsOf e) []], rfl, by simp [hct], by unfold Rd; rw [hu]; exact .inl ⟨rfl, rfl⟩, fun i c y hc hy => ?_⟩
          cases i with
          | zero => simp at hc hy; subst hc; subst hy; exact .fsnil _ _ _
          | succ i => simp at hc
        · have each : ∀ i, i < len → ∃ (row : List V) (ci : List Value) (xi : DataW H × List MemPlace), elems[i]? = some xi ∧ W.cells? 0 (a.add (i * P.cellsOf e)) (P.cellsOf e) = some ci ∧ row.length = ci.length ∧ ci.length = P.cellsOf e ∧ Rd P n e row xi.1 ∧ ∀ (j : Nat) (c : V) (y : Value), row[j]? = some c → ci[j]? = some y → RepF W (Old W) c y := by
            intro i hi
            have hi' : i < elems.length := by omega
            have h1 := hel i hi
            rw [List.getElem?_eq_getElem hi'] at h1
            obtain ⟨ci, h2, h3⟩ := Option.bind_eq_some_iff.1 h1
            obtain ⟨row, g1, g2, g3, g4⟩ := open_Rd n e m ci elems[i] hpe h3
            exact ⟨row, ci, elems[i], List.getElem?_eq_getElem hi', h2, g1, g2, g3, g4⟩
          let rowOf : Nat → List V := fun i => if hi : i < len then Classical.choose (each i hi) else []
          have spec : ∀ i, i < len → ∃ (ci : List Value) (xi : DataW H × List MemPlace), elems[i]? = some xi ∧ W.cells? 0 (a.add (i * P.cellsOf e)) (P.cellsOf e) = some ci ∧ (rowOf i).length = ci.length ∧ ci.length = P.cellsOf e ∧ Rd P n e (rowOf i) xi.1 ∧ ∀ (j : Nat) (c : V) (y : Value), (rowOf i)[j]? = some c → ci[j]? = some y → RepF W (Old W) c y := by
            intro i hi
            have := Classical.choose_spec (each i hi)
            simp only [rowOf, hi, dif_pos]
            exact this
          let rows : Rows := (List.range len).map rowOf
          have hrl : rows.length = len := by simp [rows]
          have hrow : ∀ (i : Nat) (row : List V), rows[i]? = some row → i < len ∧ row = rowOf i := by
            intro i row hr
            have hi : i < len := by
              rcases Nat.lt_or_ge i len with h | h
              · exact h
              · rw [List.getElem?_eq_none (by omega)] at hr; cases hr
            simp only [rows, List.getElem?_map, List.getElem?_range hi, Option.map_some, Option.some.injEq] at hr
            exact ⟨hi, hr.symm⟩
          refine ⟨[.fs (P.cellsOf e) rows], rfl, by simp [hct], ?_, fun i c y hc hy => ?_⟩
          · unfold Rd; rw [hu]
            refine .inr ⟨rows, elems.map (·.1), rest.map (·.1), rfl, rfl, by simp [hrl, hlen], fun i row d hr hd => ?_⟩
            obtain ⟨hi, rfl⟩ := hrow i row hr
            obtain ⟨ci, xi, e1, _, _, _, e2, _⟩ := spec i hi
            rw [List.getElem?_map, e1] at hd
            simp only [Option.map_some, Option.some.injEq] at hd
            subst hd
            exact e2
          · cases i with
            | succ i => simp at hc
            | zero =>
              simp at hc hy
              subst hc; subst hy
              rcases Nat.eq_zero_or_pos len with h0 | h0
              · have : rows = [] := List.length_eq_zero_iff.1 (by omega)
                rw [this, h0]
                exact .fsnil _ _ _
              · obtain ⟨c0, x0, _, hc0, _, hc0l, _, _⟩ := spec 0 h0
                have hcell0 := (mem_cells? hc0).2 0 hsz
                have hsome : ∃ v, W.cell? ((a.add (0 * P.cellsOf e)).add 0) = some v := by
                  rw [hcell0]
                  exact ⟨_, List.getElem?_eq_getElem (by omega)⟩
                obtain ⟨v0, hv0⟩ := hsome
                have hadd : (a.add (0 * P.cellsOf e)).add 0 = a := by
                  obtain ⟨ab, ao, as⟩ := a
                  simp [Addr.add]
                rw [hadd] at hv0
                obtain ⟨s1, s2⟩ := cell?_spot hv0
                obtain ⟨ab, ao, as⟩ := a
                simp only at s1 s2
                subst s1
                have := RepF.fs (w := W) (F := Old W) (P.cellsOf e) rows ab ao cap (fun i k => (W.cell? ⟨ab, ao + i * P.cellsOf e + k, none⟩).getD undef) s2 (by rw [hrl]; exact hl)
                  (fun i row hr => by
                    obtain ⟨hi, rfl⟩ := hrow i row hr
                    obtain ⟨ci, xi, _, _, e1, e2, _, _⟩ := spec i hi
                    omega)
                  (fun i k row c hr hk => by
                    obtain ⟨hi, rfl⟩ := hrow i row hr
                    obtain ⟨ci, xi, _, hci, e1, e2, _, _⟩ := spec i hi
                    have hkl : k < P.cellsOf e := by
                      rcases Nat.lt_or_ge k (P.cellsOf e) with h | h
                      · exact h
                      · rw [List.getElem?_eq_none (by omega)] at hk; cases hk
                    have := (mem_cells? hci).2 k hkl
                    rw [addA, addA] at this
                    rw [this, List.getElem?_eq_getElem (by omega)]
                    rfl)
                  (fun i k row c hr hk => by
                    obtain ⟨hi, rfl⟩ := hrow i row hr
                    obtain ⟨ci, xi, _, hci, e1, e2, _, e4⟩ := spec i hi
                    have hkl : k < P.cellsOf e := by
                      rcases Nat.lt_or_ge k (P.cellsOf e) with h | h
                      · exact h
                      · rw [List.getElem?_eq_none (by omega)] at hk; cases hk
                    have := (mem_cells? hci).2 k hkl
                    rw [addA, addA] at this
                    rw [this]
                    have hg : ci[k]? = some ci[k] := List.getElem?_eq_getElem (by omega)
                    rw [hg]
                    exact e4 k c _ hk hg)
                rw [hrl] at this
                exact this
      | struct fs =>
        simp only [pty, hu, Bool.and_eq_true, List.all_eq_true, beq_iff_eq] at hp
        obtain ⟨hpf, hseq⟩ := hp
        obtain ⟨xs, m, _, rfl, hcl, hxl, hf⟩ := DataW.trod_struct hu h
        have key : ∀ (l : List Field) (o tot : Nat) (ys : List (DataW H × List MemPlace)), (∀ f ∈ l, pty P n f.type = true) → seqOk P o l = some tot → tot ≤ cs.length → l.length = ys.length →
            (∀ (i : Nat) (f : Field), l[i]? = some f → DataW.trod enc P W 0 (fun _ => true) held m f.type ((cs.drop f.offset).take (P.cellsOf f.type)) = ys[i]?) →
            ∃ vs : List V, vs.length + o = tot ∧ fieldsR (Rd P n) P.cellsOf l vs (ys.map (·.1)) ∧ ∀ (i : Nat) (c : V) (y : Value), vs[i]? = some c → cs[o + i]? = some y → RepF W (Old W) c y := by
          intro l
          induction l with
          | nil =>
            intro o tot ys _ hs _ hl _
            simp only [seqOk, Option.some.injEq] at hs
            have : ys = [] := List.length_eq_zero_iff.1 hl.symm
            subst this
            exact ⟨[], by simp [hs], ⟨rfl, rfl⟩, by simp⟩
          | cons f l ih =>
            intro o tot ys hp hs htot hl hy
            simp only [seqOk] at hs
            split at hs
            · rename_i ho
              cases ys with
              | nil => simp at hl
              | cons y0 ys =>
                have h0 := hy 0 f rfl
                simp only [List.getElem?_cons_zero] at h0
                obtain ⟨v, g1, g2, g3, g4⟩ := open_Rd n f.type m _ y0 (hp f (by simp)) h0
                obtain ⟨w, k1, k2, k3⟩ := ih (o + P.cellsOf f.type) tot ys (fun f' hf' => hp f' (by simp [hf'])) hs htot (by simpa using hl) (fun i f' hf' => by simpa using hy (i + 1) f' (by simpa using hf'))
                have hvl : v.length = P.cellsOf f.type := by omega
                refine ⟨v ++ w, by simp; omega, ⟨v, w, y0.1, ys.map (·.1), rfl, rfl, g3, hvl, k2⟩, fun i c y hc hyc => ?_⟩
                by_cases hi : i < v.length
                · rw [List.getElem?_append_left hi] at hc
                  refine g4 i c y hc ?_
                  rw [List.getElem?_take_of_lt (by omega), List.getElem?_drop, ho]
                  exact hyc
                · rw [List.getElem?_append_right (by omega)] at hc
                  refine k3 (i - v.length) c y hc ?_
                  rw [← hyc]; congr 1; omega
            · cases hs
        obtain ⟨vs, k1, k2, k3⟩ := key fs.toList 0 (P.cellsOf t) xs hpf hseq (by omega) (by simp [hxl]) (fun i f hi => hf i f (by simpa using hi))
        refine ⟨vs, by omega, hcl, ?_, fun i c y hc hy => k3 i c y hc (by simpa using hy)⟩
        unfold Rd; rw [hu]
        exact ⟨_, rfl, k2⟩
      | _ => simp [pty, hu] at hp
theorem pickAll {α β γ : Type} (f : γ → α) (Q : γ → β → Prop) : ∀ (rows : List α) (elems : List β), rows.length = elems.length → (∀ (i : Nat) (r : α) (x : β), rows[i]? = some r → elems[i]? = some x → ∃ z, r = f z ∧ Q z x) →
    ∃ zs : List γ, rows = zs.map f ∧ zs.length = elems.length ∧ ∀ (i : Nat) (z : γ) (x : β), zs[i]? = some z → elems[i]? = some x → Q z x
  | [], [], _, _ => ⟨[], rfl, rfl, by simp⟩
  | r :: rows, x :: elems, hl, h => by
    obtain ⟨z, rfl, hz⟩ := h 0 r x rfl rfl
    obtain ⟨zs, rfl, h1, h2⟩ := pickAll f Q rows elems (by simpa using hl) (fun i r' x' hr hx => h (i + 1) r' x' (by simpa using hr) (by simpa using hx))
    refine ⟨z :: zs, rfl, by simp [h1], fun i z' x' hz' hx' => ?_⟩
    cases i with
    | zero => simp at hz' hx'; subst hz'; subst hx'; exact hz
    | succ i => exact h2 i z' x' (by simpa using hz') (by simpa using hx')
  | [], _ :: _, hl, _ => by simp at hl
  | _ :: _, [], hl, _ => by simp at hl
end Go.Eng
