/- A part of the proof: contracts of functions, each proved once. -/
import Derived.Test.YtkbmagloekociaaM14
namespace Go.Eng.M
open Go Go.Eng Go.Proofs
set_option maxRecDepth 100000
set_option linter.unusedSimpArgs false
set_option linter.unusedSectionVars false
set_option linter.unusedVariables false
variable [Globs]
def mcM (p : Md × MS) : Mc := ⟨.v (.int .i64 p.1.mem), .fs 1 (p.1.data.map (row1 .u8)), .fs 4 (p.1.funcs.map fnRow), p.2.mem.map (row1 .u8), p.2.fs.reverse.map frRow, .v (.bool p.2.asks), .v (.int .i64 p.2.call), p.2.args.map (row1 .i64), .v (.int .i64 p.2.trap)⟩
theorem mcM_cells (p : Md × MS) : some (9, [(mcM p).cells]) = mObj p := rfl
theorem isM_mc {H : Hp} {id : Nat} {p : Md × MS} (h : isM H id = some p) : mc H id = some (mcM p) ∧ H[id]? = some (mObj p) ∧ ∃ hl : id < H.length, H[id] = mObj p := by
  have h1 := isM_eq h
  have hl := lt_of_get h1
  exact ⟨mc_of (by rw [h1, ← mcM_cells]), h1, hl, by rw [List.getElem?_eq_getElem hl] at h1; exact Option.some.inj h1⟩
theorem set_obj {H : Hp} {id : Nat} {p : Md × MS} (h : H[id]? = some (mObj p)) : H.set id (mObj p) = H := set_same h
/-- A machine begins. -/
def beginM (md : Md) (s : MS) (k a b : Int) : Option (MS × Int) :=
  if s.fs ≠ [] ∨ s.trap ≠ 0 then some (s, 1)
  else match md.funcs with
    | [] => none
    | fn :: _ => some ({ s with fs := [⟨0, 0, locM (fn.params + fn.locals).toNat [k, a, b], []⟩] }, 0)
noncomputable def sBegin : Spec where
  modes := [1]
  f := fun args H => match args with
    | [.ptr id [] 0 0, .v (.int .i64 k), .v (.int .i64 a), .v (.int .i64 b)] => match isM H id with
      | some (md, s) => match beginM md s k a b with
        | some (s', e) => if rightM md = true then some (.v (.int .i64 e), H.set id (mObj (md, s'))) else none
        | none => none
      | none => none
    | _ => none
noncomputable def sp12 : Nat → Option Spec
  | 19 => some (sBusy)
  | 35 => some (sEnter)
  | _ => none
theorem sp12_ok : ∀ f s, sp12 f = some s → Meets PP f s := by
  intro f s h
  unfold sp12 at h
  split at h
  · injection h with h; subst h; exact mBusy
  · injection h with h; subst h; exact mEnter
  · cases h
set_option maxHeartbeats 20000000 in
theorem mBegin : Meets PP 12 (sBegin) := by
  refine meets (dr := drF tab12 PP sp12) (live := live12) fn12 rfl rfl rfl sp12_ok (fun base ak => drF_ok mixed sp12_ok _ base ak) ?_
  intro args H z H' h
  simp only [sBegin] at h
  repeat (split at h <;> try cases h)
  rename_i id k a b _ md s h1 _ s' e hb hR
  refine ⟨(by decide : 4 ≤ 24), ?_⟩
  obtain ⟨hmc, h1, hlt, h1'⟩ := isM_mc h1
  have hz : ((s.trap = 0) ∧ 0 < s.fs.length) ∨ s.trap ≠ 0 ∨ (s.trap = 0 ∧ s.fs = []) := by
    by_cases ht : s.trap = 0
    · by_cases hf : s.fs = []
      · exact .inr (.inr ⟨ht, hf⟩)
      · exact .inl ⟨ht, List.length_pos_iff.2 hf⟩
    · exact .inr (.inl ht)
  rcases hz with ⟨ht, hf⟩ | ht | ⟨ht, hf⟩
  · have hc : s.fs ≠ [] ∨ s.trap ≠ 0 := .inl (List.length_pos_iff.1 hf)
    unfold beginM at hb
    rw [if_pos hc] at hb
    simp only [Option.some.injEq, Prod.mk.injEq] at hb
    obtain ⟨rfl, rfl⟩ := hb
    rw [set_obj h1]
    simp [sBegin, sp12, sBusy, hmc, mcM, h1, h1', hlt, mObj, mRow, ht, hf]
  · have hc : s.fs ≠ [] ∨ s.trap ≠ 0 := .inr ht
    unfold beginM at hb
    rw [if_pos hc] at hb
    simp only [Option.some.injEq, Prod.mk.injEq] at hb
    obtain ⟨rfl, rfl⟩ := hb
    rw [set_obj h1]
    simp [sBegin, sp12, sBusy, hmc, mcM, h1, h1', hlt, mObj, mRow, ht]
  · have hc : ¬ (s.fs ≠ [] ∨ s.trap ≠ 0) := by simp [ht, hf]
    unfold beginM at hb
    rw [if_neg hc] at hb
    split at hb
    · cases hb
    rename_i fn r hfn
    simp only [Option.some.injEq, Prod.mk.injEq] at hb
    obtain ⟨rfl, rfl⟩ := hb
    have hfr := rightM_fn (i := 0) hR (by rw [hfn]; rfl)
    simp only [fnR, Bool.and_eq_true, decide_eq_true_eq] at hfr
    have p0 : 0 ≤ fn.params := by omega
    have p1 : fn.params ≤ 100 := by omega
    have l0 : 0 ≤ fn.locals := by omega
    have l1 : fn.locals ≤ 100 := by omega
    have hc2 : (mcM (md, s)).c2 = .fs 4 (fnRow fn :: r.map fnRow) := by simp [mcM, hfn]
    have hrr : (mcM (md, s)).rows = [] := by simp [mcM, hf]
    have hst : ∀ G : Hp, mc (H ++ G) id = some (mcM (md, s)) := fun G => mc_of (by rw [List.getElem?_append_left hlt, h1]; rfl)
    simp [sBegin, sp12, sBusy, hmc, hst, mcM, h1, h1', hlt, mObj, mRow, ht, hf, sEnter, hfn, fnRow, p0, p1, l0, l1, slcI_root, unI_cons, unI_nil, part, slcI_fs']
    rfl
@[simp] theorem mc_setL {H : Hp} {id : Nat} (hl : id < H.length) (c0 c1 c2 c5 c6 c8 : V) (mem rows ag : Rows) : mc (H.set id (some (9, [[c0, c1, c2, .own 1 mem, .own 4 rows, c5, c6, .own 1 ag, c8]]))) id = some ⟨c0, c1, c2, mem, rows, c5, c6, ag, c8⟩ := mc_of (by simp [hl, Mc.cells])
@[simp] theorem mc_setA {H G : Hp} {id : Nat} (hl : id < H.length) (c0 c1 c2 c5 c6 c8 : V) (mem rows ag : Rows) : mc (H.set id (some (9, [[c0, c1, c2, .own 1 mem, .own 4 rows, c5, c6, .own 1 ag, c8]])) ++ G) id = some ⟨c0, c1, c2, mem, rows, c5, c6, ag, c8⟩ := mc_of (by simp [hl, Mc.cells])
/-- A call is answered. -/
def replyM (s : MS) (x : Int) : Option (MS × Int) :=
  if s.asks = false then some (s, 1)
  else match s.fs with
    | [] => none
    | t :: r => if t.st.length ≤ 2^20 ∧ r.length < 2^20 then some ({ s with asks := false, fs := { t with st := t.st ++ [x] } :: r }, 0) else none
noncomputable def sReply : Spec where
  modes := [1]
  f := fun args H => match args with
    | [.ptr id [] 0 0, .v (.int .i64 x)] => match isM H id with
      | some (md, s) => match replyM s x with
        | some (s', e) => some (.v (.int .i64 e), H.set id (mObj (md, s')))
        | none => none
      | none => none
    | _ => none
theorem lastF_fr (R : Rows) (t : Fr) : lastF (R ++ [frRow t]) = some (R, .v (.int .i64 t.f), .v (.int .i64 t.at_), t.loc.map (row1 .i64), t.st.map (row1 .i64)) := lastF_concat ..
noncomputable def sp17 : Nat → Option Spec
  | 37 => some (sTop)
  | 38 => some (sPush)
  | _ => none
theorem sp17_ok : ∀ f s, sp17 f = some s → Meets PP f s := by
  intro f s h
  unfold sp17 at h
  split at h
  · injection h with h; subst h; exact mTop
  · injection h with h; subst h; exact mPush
  · cases h
set_option maxHeartbeats 20000000 in
theorem mReply : Meets PP 17 (sReply) := by
  refine meets (dr := drF tab17 PP sp17) (live := live17) fn17 rfl rfl rfl sp17_ok (fun base ak => drF_ok mixed sp17_ok _ base ak) ?_
  intro args H z H' h
  simp only [sReply] at h
  repeat (split at h <;> try cases h)
  rename_i id x _ md s h1 _ s' e hb
  refine ⟨(by decide : 2 ≤ 17), ?_⟩
  obtain ⟨hmc, h1, hlt, h1'⟩ := isM_mc h1
  unfold replyM at hb
  by_cases ha : s.asks = false
  · rw [if_pos ha] at hb
    simp only [Option.some.injEq, Prod.mk.injEq] at hb
    obtain ⟨rfl, rfl⟩ := hb
    rw [set_obj h1]
    simp [sReply, h1, h1', hlt, mObj, mRow, ha]
  · rw [if_neg ha] at hb
    split at hb
    · cases hb
    rename_i t r hfs
    split at hb
    case isFalse => cases hb
    rename_i hbd
    simp only [Option.some.injEq, Prod.mk.injEq] at hb
    obtain ⟨rfl, rfl⟩ := hb
    obtain ⟨b1, b2⟩ := hbd
    have b1' : t.st.length ≤ 1048576 := b1
    have b2' : r.length + 1 ≤ 1048576 := by have : r.length < 1048576 := b2; omega
    have ha' : s.asks = true := by simpa using ha
    simp [sReply, h1, h1', hlt, mObj, mRow, ha', hfs, sp17, sTop, sPush, lastF_fr, b1', b2']
    simp [frC, frRow, Mc.cells, row1]
end Go.Eng.M
