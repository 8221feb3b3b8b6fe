/- A part of the proof: contracts of functions, each proved once. -/
import Derived.Test.YtkbmagloekociaaM18
namespace Go.Eng.M
open Go Go.Eng Go.Proofs
set_option maxRecDepth 100000
set_option linter.unusedSimpArgs false
set_option linter.unusedSectionVars false
set_option linter.unusedVariables false
variable [Globs]
def flowM (md : Md) (s : MS) (t : Fr) (r : List Fr) (op n : Int) (vs : List Int) : Option MS :=
  if op = 25 then (match vs with
    | v0 :: _ => if v0 = 0 then some { s with fs := t :: r } else some { s with fs := { t with at_ := n } :: r }
    | [] => none)
  else if op = 24 then some { s with fs := { t with at_ := n } :: r }
  else if op = 26 then (if r.length + 1 = 16 then some { s with fs := t :: r, trap := 3 }
    else match md.funcs[n.toNat]? with
    | some fn => if 0 ≤ n ∧ 0 ≤ fn.params ∧ fn.params ≤ 100 ∧ 0 ≤ fn.locals ∧ fn.locals ≤ 100 then some { s with fs := ⟨n, 0, locM (fn.params + fn.locals).toNat vs, []⟩ :: t :: r } else none
    | none => none)
  else if op = 27 then (match r with
    | [] => some { s with fs := [] }
    | t2 :: r2 => if t2.st.length ≤ 2^20 then some { s with fs := { t2 with st := t2.st ++ vs } :: r2 } else none)
  else if op = 28 then some { s with fs := t :: r, asks := true, call := n, args := vs }
  else if op = 29 then some { s with fs := t :: r, trap := 4 }
  else none
theorem flowR_flowM {md : Md} {s : MS} {t : Fr} {r : List Fr} {op n : Int} {vs : List Int} {s' : MS} (h : flowM md s t r op n vs = some s') : flowR (mcM (md, { s with fs := t :: r })) op n vs = some (mcM (md, s')) := by
  have hl : lastF (mcM (md, { s with fs := t :: r })).rows = some (r.reverse.map frRow, .v (.int .i64 t.f), .v (.int .i64 t.at_), t.loc.map (row1 .i64), t.st.map (row1 .i64)) := by
    have : (mcM (md, { s with fs := t :: r })).rows = r.reverse.map frRow ++ [frRow t] := by simp [mcM]
    rw [this]; exact lastF_fr _ _
  unfold flowR
  rw [hl]
  unfold flowM at h
  simp only
  by_cases o25 : op = 25
  · rw [if_pos o25] at h ⊢
    split at h
    case h_2 => cases h
    simp only
    split at h <;> rename_i hv <;> injection h with h <;> subst h
    · rw [if_pos hv]
    · rw [if_neg hv]; simp [mcM, frRow, frC]
  rw [if_neg o25] at h ⊢
  by_cases o24 : op = 24
  · rw [if_pos o24] at h ⊢
    injection h with h
    subst h
    simp [mcM, frRow, frC]
  rw [if_neg o24] at h ⊢
  by_cases o26 : op = 26
  · rw [if_pos o26] at h ⊢
    by_cases h16 : r.length + 1 = 16
    · rw [if_pos h16] at h
      rw [if_pos (by simpa using h16)]
      injection h with h
      subst h
      simp [mcM]
    · rw [if_neg h16] at h
      rw [if_neg (by simpa using h16)]
      split at h
      case h_2 => cases h
      rename_i fn hfn
      split at h
      case isFalse => cases h
      rename_i hb
      injection h with h
      subst h
      have e : (mcM (md, { s with fs := t :: r })).c2 = .fs 4 (md.funcs.map fnRow) := rfl
      rw [e]
      simp only [List.getElem?_map, hfn, Option.map_some, fnRow]
      rw [if_pos hb]
      simp [mcM, frRow, frC]
  rw [if_neg o26] at h ⊢
  by_cases o27 : op = 27
  · rw [if_pos o27] at h ⊢
    cases r with
    | nil =>
      injection h with h
      subst h
      rw [if_pos (by simp)]
      simp [mcM]
    | cons t2 r2 =>
      simp only at h
      split at h
      case isFalse => cases h
      rename_i hb
      injection h with h
      subst h
      rw [if_neg (by simp)]
      have hl2 : lastF ((t2 :: r2).reverse.map frRow) = some (r2.reverse.map frRow, .v (.int .i64 t2.f), .v (.int .i64 t2.at_), t2.loc.map (row1 .i64), t2.st.map (row1 .i64)) := by
        have : (t2 :: r2).reverse.map frRow = r2.reverse.map frRow ++ [frRow t2] := by simp
        rw [this]; exact lastF_fr _ _
      rw [hl2]
      simp only
      rw [if_pos (by simpa using hb)]
      simp [mcM, frRow, frC]
  rw [if_neg o27] at h ⊢
  by_cases o28 : op = 28
  · rw [if_pos o28] at h ⊢
    injection h with h
    subst h
    rfl
  rw [if_neg o28] at h ⊢
  by_cases o29 : op = 29
  · rw [if_pos o29] at h ⊢
    injection h with h
    subst h
    rfl
  · rw [if_neg o29] at h
    cases h
/-- An instruction is carried out. -/
def insM (md : Md) (s : MS) (t : Fr) (r : List Fr) (op n : Int) (vs : List Int) : Option MS :=
  if 7 ≤ op ∧ op ≤ 18 then (match vs with
    | a :: b :: _ => match binM op a b with
      | some v => some { s with fs := { t with st := t.st ++ [v] } :: r }
      | none => some { s with fs := t :: r, trap := 1 }
    | _ => none)
  else if 20 ≤ op ∧ op ≤ 23 then (match touchM op vs s.mem with
    | none => none
    | some none => some { s with fs := t :: r, trap := 2 }
    | some (some (mem', out)) => some { s with mem := mem', fs := { t with st := t.st ++ out } :: r })
  else if 24 ≤ op then flowM md s t r op n vs
  else match plainM op n vs t.loc with
    | some (loc', out) => some { s with fs := { t with loc := loc', st := t.st ++ out } :: r }
    | none => none
/-- What is there to carry out. -/
def fetchM (md : Md) (t : Fr) : Option Ins :=
  if 0 ≤ t.f ∧ 0 ≤ t.at_ then match md.funcs[t.f.toNat]? with
    | some fn => fn.code[t.at_.toNat]?
    | none => none
  else none
def stepM (md : Md) (s : MS) : Option MS :=
  match s.fs with
  | [] => none
  | t :: r => match fetchM md t with
    | none => none
    | some i =>
      if 0 ≤ (effM md t.f i).1 ∧ (effM md t.f i).1 ≤ t.st.length ∧ t.st.length < 2^20 ∧ r.length < 2^19 ∧ s.mem.length ≤ 2^20 then
        insM md s { t with at_ := t.at_ + 1, st := t.st.take (t.st.length - (effM md t.f i).1.toNat) } r i.op i.n (t.st.drop (t.st.length - (effM md t.f i).1.toNat))
      else none
noncomputable def sStep : Spec where
  modes := [1]
  f := fun args H => match args with
    | [.ptr id [] 0 0] => match isM H id with
      | some (md, s) => match stepM md s with
        | some s' => if mdSm md = true then some (.tup [], H.set id (mObj (md, s'))) else none
        | none => none
      | none => none
    | _ => none
noncomputable def sp39 : Nat → Option Spec
  | 26 => some (sEffect)
  | 37 => some (sTop)
  | 56 => some (sTake)
  | 57 => some (sBinary)
  | 58 => some (sTouch)
  | 59 => some (sFlow)
  | 60 => some (sPlain)
  | _ => none
theorem sp39_ok : ∀ f s, sp39 f = some s → Meets PP f s := by
  intro f s h
  unfold sp39 at h
  split at h
  · injection h with h; subst h; exact mEffect
  · injection h with h; subst h; exact mTop
  · injection h with h; subst h; exact mTake
  · injection h with h; subst h; exact mBinary
  · injection h with h; subst h; exact mTouch
  · injection h with h; subst h; exact mFlow
  · injection h with h; subst h; exact mPlain
  · cases h
set_option maxHeartbeats 40000000 in
theorem mStep : Meets PP 39 (sStep) := by
  refine meets (dr := drF tab39 PP sp39) (live := live39) fn39 rfl rfl rfl sp39_ok (fun base ak => drF_ok mixed sp39_ok _ base ak) ?_
  intro args H z H' h
  simp only [sStep] at h
  repeat (split at h <;> try cases h)
  rename_i id _ md s h1 _ s' hs hsm
  refine ⟨(by decide : 1 ≤ 97), ?_⟩
  obtain ⟨hmc, h1, hlt, h1'⟩ := isM_mc h1
  unfold stepM at hs
  split at hs
  · cases hs
  rename_i t r hfs
  split at hs
  · cases hs
  rename_i i hi
  split at hs
  case isFalse => cases hs
  rename_i hb
  obtain ⟨b1, b2, b3, b4, b5⟩ := hb
  unfold fetchM at hi
  split at hi
  case isFalse => cases hi
  rename_i hfa
  obtain ⟨f0, a0⟩ := hfa
  split at hi
  case h_2 => cases hi
  rename_i fn hfn
  obtain ⟨op, n⟩ := i
  obtain ⟨fi, at_, loc, st⟩ := t
  simp only at f0 a0 hi hfn b1 b2 b3 hs
  have hfl := lt_of_get hfn
  have hal := lt_of_get hi
  have hfl2 : fi < (md.funcs.length : Int) := by omega
  have hal2 : at_ < (fn.code.length : Int) := by omega
  have hfe : md.funcs[fi.toNat] = fn := by rw [List.getElem?_eq_getElem hfl] at hfn; exact Option.some.inj hfn
  have hie : fn.code[at_.toNat] = ⟨op, n⟩ := by rw [List.getElem?_eq_getElem hal] at hi; exact Option.some.inj hi
  have hcl : fn.code.length ≤ 1099511627776 := by
    simp only [mdSm, Bool.and_eq_true, decide_eq_true_eq, List.all_eq_true] at hsm
    exact hsm.2 fn (List.mem_of_getElem? hfn)
  have hw : IntKind.i64.wrap (at_ + 1) = at_ + 1 := w64 (by omega) (by omega)
  obtain ⟨mem0, fs0, asks, call, args, trap⟩ := s
  simp only at hfs b5
  subst hfs
  obtain ⟨ma, mb, mf⟩ := md
  simp only at hfn hfl hfl2 hfe
  obtain ⟨tk, htk⟩ : ∃ k : Nat, (effM ⟨ma, mb, mf⟩ fi ⟨op, n⟩).1 = (k : Int) := ⟨((effM ⟨ma, mb, mf⟩ fi ⟨op, n⟩).1).toNat, by omega⟩
  rw [htk] at hs b2
  simp only [Int.toNat_natCast] at hs
  have b2' : tk ≤ st.length := by omega
  have b3' : st.length ≤ 1048575 := by have : st.length < 1048576 := b3; omega
  have hle : ∀ N : Nat, 1048575 ≤ N → st.length ≤ N := fun N h => by omega
  have hrl : r.length + 1 ≤ 1048576 := by have : r.length < 524288 := b4; omega
  have hA := mc_app hmc
  have hne4 : ∀ j, ¬ H.length + j = id := by omega
  have hne3 : ∀ j, ¬ id = H.length + j := by omega
  have hst0 : (mcM (⟨ma, mb, mf⟩, ⟨mem0, ⟨fi, at_, loc, st⟩ :: r, asks, call, args, trap⟩)).rows = r.reverse.map frRow ++ [frRow ⟨fi, at_, loc, st⟩] := by simp [mcM]
  simp [sStep, sp39, sTop, hmc, hA, mcM, hrl, h1', mObj, mRow, hlt]
  refine DrP.intro (by decide) ?_
  simp [sStep, sp39, sTop, hmc, hA, mcM, hrl, h1', mObj, mRow, hlt, frRow, fnRow, insRow, f0, a0, hfl, hfl2, hal, hal2, hfe, hie, hw]
  refine DrP.intro (by decide) ?_
  simp [sStep, sp39, sTop, sEffect, sTake, htk, b2', hle, lastF_fr, unI_map, lastF_concat, frC, Mc.cells, hmc, hA, mcM, hrl, h1', mObj, mRow, hlt, frRow, fnRow, insRow, f0, a0, hfl, hfl2, hal, hal2, hfe, hie, hw]
  have hvl : (st.drop (st.length - tk)).length = tk := by simp; omega
  have hsl : (st.take (st.length - tk)).length ≤ 1048575 := by simp; omega
  simp only [← List.map_drop, ← List.map_take]
  generalize st.drop (st.length - tk) = vs at *
  generalize st.take (st.length - tk) = st1 at *
  have hle1 : ∀ N : Nat, 1048575 ≤ N → st1.length ≤ N := fun N h => by omega
  have hrle : ∀ N : Nat, 524288 ≤ N → r.length ≤ N := fun N h => by have : r.length < 524288 := b4; omega
  have hle1l : ∀ N : Nat, 1048576 ≤ N → st1.length < N := fun N h => by omega
  have b5' : mem0.length ≤ 1048576 := b5
  have hrlt : ∀ N : Nat, 524288 ≤ N → r.length < N := fun N h => by have : r.length < 524288 := b4; omega
  subst hvl
  have hro : ∀ (X : Nd) (G : Hp), rootI .i64 (H.set id X ++ some (2, [[.v (.int .i64 op), .v (.int .i64 n)]]) :: some (1, vs.map (row1 .i64)) :: G) (H.length + 1) = some vs := fun X G => rootI_of (by simp)
  have hvle : ∀ N : Nat, 1048575 ≤ N → vs.length ≤ N := fun N h => by omega
  refine IteP.intro (fun hc => ?_) (fun hc => ?_)
  · have hc' : 7 ≤ op ∧ op ≤ 18 := by simpa using hc
    unfold insM at hs
    rw [if_pos hc'] at hs
    split at hs
    case h_2 => cases hs
    rename_i va vb vr
    have e0 : (0 : Int) < (vr.length : Int) + 1 + 1 := by omega
    have e1 : (1 : Int) < (vr.length : Int) + 1 + 1 := by omega
    simp
    refine DrP.intro (by decide) ?_
    simp [sStep, sp39, sBinary, e0, e1, hlt, row1, hc'.1, hc'.2, lastF_concat, hrlt, hle1]
    cases hbm : binM op va vb with
    | some v =>
      rw [hbm] at hs
      injection hs with hs
      subst hs
      simp [frC, frRow, row1, Mc.cells, hlt]
    | none =>
      rw [hbm] at hs
      injection hs with hs
      subst hs
      simp [frC, frRow, row1, Mc.cells, hlt]
  · have hc' : ¬ (7 ≤ op ∧ op ≤ 18) := by simpa using hc
    unfold insM at hs
    rw [if_neg hc'] at hs
    simp
    refine IteP.intro (fun hd => ?_) (fun hd => ?_)
    · have hd' : 20 ≤ op ∧ op ≤ 23 := by simpa using hd
      rw [if_pos hd'] at hs
      split at hs
      · cases hs
      · rename_i htm
        injection hs with hs
        subst hs
        simp [sStep, sp39, sTouch, hlt, hne4, hd'.1, hd'.2, lastF_concat, hrlt, hle1l, htm, hro, unI_map, b5']
        simp [frC, frRow, row1, Mc.cells, hlt]
      · rename_i mem' out htm
        injection hs with hs
        subst hs
        simp [sStep, sp39, sTouch, hlt, hne4, hd'.1, hd'.2, lastF_concat, hrlt, hle1l, htm, hro, unI_map, b5']
        simp [frC, frRow, row1, Mc.cells, hlt]
    · have hd' : ¬ (20 ≤ op ∧ op ≤ 23) := by simpa using hd
      rw [if_neg hd'] at hs
      simp
      refine IteP.dec (fun he => ?_) (fun he => ?_)
      · rw [if_pos he] at hs
        have hfR := flowR_flowM hs
        simp [mcM, frRow] at hfR
        by_cases h28 : op = 28
        · subst h28
          simp [sStep, sp39, sFlow, hlt, hne4, hrle, hvle, hro, hfR, mcM_cells]
          simp [Mc.cells]
        · simp [sStep, sp39, sFlow, hlt, hne4, hrle, hvle, hro, hfR, h28, mcM_cells]
          simp [Mc.cells]
      · rw [if_neg he] at hs
        split at hs
        case h_2 => cases hs
        rename_i loc' out hpm
        injection hs with hs
        subst hs
        simp [sStep, sp39, sPlain, hlt, hne4, lastF_concat, hrlt, hle1l, hpm, hro, unI_map]
        simp [frC, frRow, row1, Mc.cells, hlt]
end Go.Eng.M
