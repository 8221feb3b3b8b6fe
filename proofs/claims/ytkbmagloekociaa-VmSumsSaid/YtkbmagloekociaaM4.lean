/- A part of the proof: contracts of functions, each proved once. -/
import Derived.Test.YtkbmagloekociaaM3
namespace Go.Eng.M
open Go Go.Eng Go.Proofs
set_option maxRecDepth 100000
set_option linter.unusedSimpArgs false
set_option linter.unusedSectionVars false
set_option linter.unusedVariables false
variable [Globs]
def nextM (at_ : Int) (i : Ins) : List Int := if i.op = 27 ∨ i.op = 29 then [] else if i.op = 24 then [i.n] else if i.op = 25 then [i.n, at_ + 1] else [at_ + 1]
def sNext0 : Spec where
  modes := []
  f := fun args H => match args with
    | [.v (.int .i64 a), .agg [.v (.int .i64 op), .v (.int .i64 n)]] => if 0 ≤ a ∧ a ≤ 2^40 then some (fresh .i64 (nextM a ⟨op, n⟩) H) else none
    | _ => none
noncomputable def sp63 : Nat → Option Spec
  | _ => none
theorem sp63_ok : ∀ f s, sp63 f = some s → Meets PP f s := by
  intro f s h
  unfold sp63 at h
  cases h
set_option maxHeartbeats 4000000 in
theorem mNext0 : Meets PP 63 (sNext0) := by
  refine meets (dr := drF tab63 PP sp63) (live := live63) fn63 rfl rfl rfl sp63_ok (fun base ak => drF_ok mixed sp63_ok _ base ak) ?_
  intro args H z H' h
  simp only [sNext0] at h
  repeat (split at h <;> try cases h)
  rename_i a op n ha
  refine ⟨(by decide : 2 ≤ 25), ?_⟩
  obtain ⟨ha0, ha⟩ := ha
  have ha' : a ≤ 1099511627776 := ha
  have hw : IntKind.i64.wrap (a + 1) = a + 1 := w64 (by omega) (by omega)
  by_cases h1 : op = 24
  · subst h1; simp [nextM, fresh, row1]
  by_cases h2 : op = 25
  · subst h2; simp [nextM, fresh, row1, hw]
  by_cases h3 : op = 27
  · subst h3; simp [nextM, fresh, row1, hw]
  by_cases h4 : op = 29
  · subst h4; simp [nextM, fresh, row1, hw]
  · simp [nextM, fresh, row1, hw, h1, h2, h3, h4]
def sNext : Spec where
  modes := []
  f := fun args H => match args with
    | [.v (.int .i64 a), .agg [.v (.int .i64 op), .v (.int .i64 n)]] => if 0 ≤ a ∧ a ≤ 2^40 then some (.fs 1 ((nextM a ⟨op, n⟩).map (row1 .i64)), H) else none
    | _ => none
theorem mNext : Meets PP 63 sNext := by
  refine mNext0.weak rfl ?_
  intro args H z H' h
  simp only [sNext] at h
  repeat (split at h <;> try cases h)
  rename_i a op n ha
  refine ⟨_, _, by simp only [sNext0]; rw [if_pos ha], ?_⟩
  simpa [fresh] using Weak.fresh (H := H) (Frz.rows1 .i64 (nextM a ⟨op, n⟩))
def insR (i : Ins) : Bool := decide (0 ≤ i.op) && decide (i.op ≤ 29) && (hasM i.op || decide (i.n = 0))
def fnR (f : Fn) : Bool := decide (0 ≤ f.params) && decide (f.params ≤ 8) && decide (0 ≤ f.results) && decide (f.results ≤ 1) && decide (0 ≤ f.locals) && decide (f.locals ≤ 16 - f.params) && decide (1 ≤ f.code.length) && decide (f.code.length ≤ 400) && f.code.all insR
def rightM (m : Md) : Bool := decide (0 ≤ m.mem) && decide (m.mem ≤ 1024) && decide ((m.data.length : Int) ≤ m.mem) && decide (1 ≤ m.funcs.length) && decide (m.funcs.length ≤ 16) && m.funcs.all fnR
def insOk (m : Md) (f : Int) (fn : Fn) (i : Ins) : Bool :=
  if i.op = 5 ∨ i.op = 6 then decide (0 ≤ i.n) && decide (i.n < fn.params + fn.locals)
  else if i.op = 24 ∨ i.op = 25 then decide (0 ≤ i.n) && decide (i.n < fn.code.length)
  else if i.op = 26 ∨ i.op = 28 then (effM m f i).2.2
  else true
def staticF (m : Md) (f : Int) (fn : Fn) : Int := match fn.code.findIdx? (fun i => !insOk m f fn i) with | some i => i | none => -1
noncomputable def sStatic : Spec where
  modes := []
  f := fun args H => match args with
    | [x, .v (.int .i64 f)] => match unMd x with
      | some m => match m.funcs[f.toNat]? with
        | some fn => if 0 ≤ f ∧ fnR fn = true then some (.v (.int .i64 (staticF m f fn)), H) else none
        | none => none
      | none => none
    | _ => none
noncomputable def sp47 : Nat → Option Spec
  | 26 => some (sEffect)
  | _ => none
theorem sp47_ok : ∀ f s, sp47 f = some s → Meets PP f s := by
  intro f s h
  unfold sp47 at h
  split at h
  · injection h with h; subst h; exact mEffect
  · cases h
set_option maxHeartbeats 40000000 in
theorem mStatic : Meets PP 47 (sStatic) := by
  refine meets (dr := drF tab47 PP sp47) (live := live47) fn47 rfl rfl rfl sp47_ok (fun base ak => drF_ok mixed sp47_ok _ base ak) ?_
  intro args H z H' h
  simp only [sStatic] at h
  repeat (split at h <;> try cases h)
  rename_i x f _ m hm _ fn hfn hr
  refine ⟨(by decide : 2 ≤ 69), ?_⟩
  rw [unMd_eq hm]
  obtain ⟨a, b, c⟩ := m
  obtain ⟨hf0, hr⟩ := hr
  obtain ⟨pa, re, lo, code⟩ := fn
  simp only [fnR, Bool.and_eq_true, decide_eq_true_eq] at hr
  obtain ⟨⟨⟨⟨⟨⟨⟨⟨r1, r2⟩, r3⟩, r4⟩, r5⟩, r6⟩, r7⟩, r8⟩, r9⟩ := hr
  simp only at hfn
  have hfl : f.toNat < c.length := lt_of_get hfn
  have hfl2 : f < (c.length : Int) := by omega
  have hg : c[f.toNat] = ⟨pa, re, lo, code⟩ := by rw [List.getElem?_eq_getElem hfl] at hfn; exact Option.some.inj hfn
  simp [mdV, hf0, hfl, hfl2, hg, fnRow]
  generalize kdirs sStatic.modes _ = ak
  refine wpX_loopG (fun i : Nat => i ≤ code.length ∧ ∀ j, (hj : j < i) → (hj2 : j < code.length) → insOk ⟨a, b, c⟩ f ⟨pa, re, lo, code⟩ code[j] = true) (fun i => ⟨[(1, .v (.int .i64 f)), (2, .ptr H.length [] 0 0), (5, .ptr (H.length + 1) [] 0 0), (15, .fs 2 (code.map insRow)), (16, .v (.int .i64 code.length)), (17, .v (.int .i64 i))], H ++ [some (3, [[.v (.int .i64 a), .fs 1 (b.map (row1 .u8)), .fs 4 (c.map fnRow)]]), some (4, [[.v (.int .i64 pa), .v (.int .i64 re), .v (.int .i64 lo), .fs 2 (code.map insRow)]])]⟩) (fun i => code.length - i) 0 ⟨Nat.zero_le _, by intro j hj; omega⟩ (by simp) ?_
  rintro i ⟨hi, hno⟩
  simp
  refine IteP.dec (fun hlt2 => ?_) (fun hlt2 => ?_)
  · obtain ⟨⟨op, n⟩, hins⟩ : ∃ q, code[i] = q := ⟨_, rfl⟩
    have hnext : insOk ⟨a, b, c⟩ f ⟨pa, re, lo, code⟩ ⟨op, n⟩ = true → (i + 1 ≤ code.length ∧ ∀ j, (hj : j < i + 1) → (hj2 : j < code.length) → insOk ⟨a, b, c⟩ f ⟨pa, re, lo, code⟩ code[j] = true) := by
      intro hk
      refine ⟨by omega, fun j hj hj2 => ?_⟩
      by_cases e : j = i
      · subst e; rw [hins]; exact hk
      · exact hno j (by omega) hj2
    have hbad : insOk ⟨a, b, c⟩ f ⟨pa, re, lo, code⟩ ⟨op, n⟩ = false → staticF ⟨a, b, c⟩ f ⟨pa, re, lo, code⟩ = i := by
      intro hk
      unfold staticF
      have : code.findIdx? (fun q => !insOk ⟨a, b, c⟩ f ⟨pa, re, lo, code⟩ q) = some i := by
        rw [List.findIdx?_eq_some_iff_getElem]
        exact ⟨hlt2, by rw [hins, hk]; rfl, fun j hj => by rw [hno j hj (by omega)]; simp⟩
      simp only [this]
    have hw1 : IntKind.i64.wrap ((i : Int) + 1) = (i : Int) + 1 := w64 (by omega) (by omega)
    have hw2 : IntKind.i64.wrap (pa + lo) = pa + lo := w64 (by omega) (by omega)
    by_cases c1 : op = 5 ∨ op = 6
    · have hI : insOk ⟨a, b, c⟩ f ⟨pa, re, lo, code⟩ ⟨op, n⟩ = (decide (0 ≤ n) && decide (n < pa + lo)) := by simp only [insOk]; rw [if_pos c1]
      have key : ∀ {st : St} {A B : St → Prop}, (insOk ⟨a, b, c⟩ f ⟨pa, re, lo, code⟩ ⟨op, n⟩ = false → A st) → (insOk ⟨a, b, c⟩ f ⟨pa, re, lo, code⟩ ⟨op, n⟩ = true → B st) → IteP (!decide (0 ≤ n) || !decide (n < pa + lo)) A B st := by intro st A B h1 h2; rw [← Bool.not_and, ← hI, IteP_not]; exact IteP.intro h2 h1
      rcases c1 with rfl | rfl
      · simp [hlt2, hins, insRow, hw2]
        refine key (fun hk => ?_) (fun hk => ?_)
        · simp [hbad hk]
        · simp [hw1]; exact ⟨i + 1, hnext hk, by simp, by omega⟩
      · simp [hlt2, hins, insRow, hw2]
        refine key (fun hk => ?_) (fun hk => ?_)
        · simp [hbad hk]
        · simp [hw1]; exact ⟨i + 1, hnext hk, by simp, by omega⟩
    by_cases c2 : op = 24 ∨ op = 25
    · have hI : insOk ⟨a, b, c⟩ f ⟨pa, re, lo, code⟩ ⟨op, n⟩ = (decide (0 ≤ n) && decide (n < code.length)) := by simp only [insOk]; rw [if_neg c1, if_pos c2]
      have key : ∀ {st : St} {A B : St → Prop}, (insOk ⟨a, b, c⟩ f ⟨pa, re, lo, code⟩ ⟨op, n⟩ = false → A st) → (insOk ⟨a, b, c⟩ f ⟨pa, re, lo, code⟩ ⟨op, n⟩ = true → B st) → IteP (!decide (0 ≤ n) || !decide (n < (code.length : Int))) A B st := by intro st A B h1 h2; rw [← Bool.not_and, ← hI, IteP_not]; exact IteP.intro h2 h1
      rcases c2 with rfl | rfl
      · simp [hlt2, hins, insRow, hw2]
        refine key (fun hk => ?_) (fun hk => ?_)
        · simp [hbad hk]
        · simp [hw1]; exact ⟨i + 1, hnext hk, by simp, by omega⟩
      · simp [hlt2, hins, insRow, hw2]
        refine key (fun hk => ?_) (fun hk => ?_)
        · simp [hbad hk]
        · simp [hw1]; exact ⟨i + 1, hnext hk, by simp, by omega⟩
    by_cases c3 : op = 26 ∨ op = 28
    · have hI : insOk ⟨a, b, c⟩ f ⟨pa, re, lo, code⟩ ⟨op, n⟩ = (effM ⟨a, b, c⟩ f ⟨op, n⟩).2.2 := by simp only [insOk]; rw [if_neg c1, if_neg c2, if_pos c3]
      have key : ∀ {st : St} {A B : St → Prop}, (insOk ⟨a, b, c⟩ f ⟨pa, re, lo, code⟩ ⟨op, n⟩ = true → A st) → (insOk ⟨a, b, c⟩ f ⟨pa, re, lo, code⟩ ⟨op, n⟩ = false → B st) → IteP (effM ⟨a, b, c⟩ f ⟨op, n⟩).2.2 A B st := by rw [← hI]; exact IteP.intro
      rcases c3 with rfl | rfl
      · simp [hlt2, hins, insRow, sp47, sEffect]
        refine key (fun hk => ?_) (fun hk => ?_)
        · simp [hw1]; exact ⟨i + 1, hnext hk, by simp, by omega⟩
        · simp [hbad hk]
      · simp [hlt2, hins, insRow, sp47, sEffect]
        refine key (fun hk => ?_) (fun hk => ?_)
        · simp [hw1]; exact ⟨i + 1, hnext hk, by simp, by omega⟩
        · simp [hbad hk]
    · have hk : insOk ⟨a, b, c⟩ f ⟨pa, re, lo, code⟩ ⟨op, n⟩ = true := by simp only [insOk]; rw [if_neg c1, if_neg c2, if_neg c3]
      obtain ⟨d1, d2⟩ := not_or.1 c1
      obtain ⟨d3, d4⟩ := not_or.1 c2
      obtain ⟨d5, d6⟩ := not_or.1 c3
      simp [hlt2, hins, insRow, d1, d2, d3, d4, d5, d6, hw1]
      exact ⟨i + 1, hnext hk, by simp, by omega⟩
  · simp
    unfold staticF
    have : code.findIdx? (fun q => !insOk ⟨a, b, c⟩ f ⟨pa, re, lo, code⟩ q) = none := by
      rw [List.findIdx?_eq_none_iff]
      intro x hx
      obtain ⟨j, hj, rfl⟩ := List.getElem_of_mem hx
      rw [hno j (by omega) hj]; rfl
    simp only [this]
end Go.Eng.M
