/- A part of the proof: contracts of functions, each proved once. -/
import Derived.Test.YtkbmagloekociaaM2
namespace Go.Eng.M
open Go Go.Eng Go.Proofs
set_option maxRecDepth 100000
set_option linter.unusedSimpArgs false
set_option linter.unusedSectionVars false
set_option linter.unusedVariables false
variable [Globs]
@[simp] theorem unMd_mk (a : Int) (b : List Int) (c : List Fn) : unMd (.agg [.v (.int .i64 a), .fs 1 (b.map (row1 .u8)), .fs 4 (c.map fnRow)]) = some ⟨a, b, c⟩ := unMd_mdV ⟨a, b, c⟩
/-- What an instruction takes and puts. -/
def effM (m : Md) (f : Int) (i : Ins) : Int × Int × Bool :=
  if fnumM m f = false then (0, 0, false)
  else if i.op = 0 ∨ i.op = 24 ∨ i.op = 29 then (0, 0, true)
  else if i.op = 1 ∨ i.op = 5 then (0, 1, true)
  else if i.op = 2 ∨ i.op = 6 ∨ i.op = 25 then (1, 0, true)
  else if i.op = 3 then (1, 2, true)
  else if i.op = 4 then (2, 2, true)
  else if i.op = 19 ∨ i.op = 20 ∨ i.op = 22 then (1, 1, true)
  else if i.op = 21 ∨ i.op = 23 then (2, 0, true)
  else if i.op = 27 then ((m.funcs[f.toNat]?).elim 0 (·.results), 0, true)
  else if i.op = 26 then (if fnumM m i.n = true then ((m.funcs[i.n.toNat]?).elim 0 (·.params), (m.funcs[i.n.toNat]?).elim 0 (·.results), true) else (0, 0, false))
  else if i.op = 28 then (if 0 ≤ hostM i.n then (hostM i.n, 1, true) else (0, 0, false))
  else if 7 ≤ i.op ∧ i.op ≤ 18 then (2, 1, true)
  else (0, 0, false)
noncomputable def sEffect : Spec where
  modes := []
  f := fun args H => match args with
    | [x, .v (.int .i64 f), .agg [.v (.int .i64 op), .v (.int .i64 n)]] => match unMd x with
      | some m => some (.tup [.v (.int .i64 (effM m f ⟨op, n⟩).1), .v (.int .i64 (effM m f ⟨op, n⟩).2.1), .v (.bool (effM m f ⟨op, n⟩).2.2)], H)
      | none => none
    | _ => none
theorem IteP.dec_eq {st : St} {a c : Int} {A B : St → Prop} (h1 : a = c → A st) (h2 : a ≠ c → B st) : IteP (decide (a = c)) A B st := IteP.dec h1 h2
theorem op_cases (op : Int) : (op < 0 ∨ 29 < op) ∨ op = 0 ∨ op = 1 ∨ op = 2 ∨ op = 3 ∨ op = 4 ∨ op = 5 ∨ op = 6 ∨ op = 7 ∨ op = 8 ∨ op = 9 ∨ op = 10 ∨ op = 11 ∨ op = 12 ∨ op = 13 ∨ op = 14 ∨ op = 15 ∨ op = 16 ∨ op = 17 ∨ op = 18 ∨ op = 19 ∨ op = 20 ∨ op = 21 ∨ op = 22 ∨ op = 23 ∨ op = 24 ∨ op = 25 ∨ op = 26 ∨ op = 27 ∨ op = 28 ∨ op = 29 := by omega
theorem op_out {op : Int} (h : op < 0 ∨ 29 < op) : ∀ k : Int, 0 ≤ k → k ≤ 29 → ¬ op = k := by omega
noncomputable def sp26 : Nat → Option Spec
  | 49 => some (sFnum)
  | 50 => some (sHost)
  | _ => none
theorem sp26_ok : ∀ f s, sp26 f = some s → Meets PP f s := by
  intro f s h
  unfold sp26 at h
  split at h
  · injection h with h; subst h; exact mFnum
  · injection h with h; subst h; exact mHost
  · cases h
set_option maxHeartbeats 40000000 in
theorem mEffect : Meets PP 26 (sEffect) := by
  refine meets (dr := drF tab26 PP sp26) (live := live26) fn26 rfl rfl rfl sp26_ok (fun base ak => drF_ok mixed sp26_ok _ base ak) ?_
  intro args H z H' h
  simp only [sEffect] at h
  repeat (split at h <;> try cases h)
  rename_i x f op n _ m hm
  refine ⟨(by decide : 3 ≤ 82), ?_⟩
  rw [unMd_eq hm]
  obtain ⟨a, b, c⟩ := m
  simp [mdV, sp26, sFnum]
  refine IteP.intro (fun hf => ?_) (fun hf => ?_)
  · have hf2 : 0 ≤ f ∧ f < (c.length : Int) := by simpa [fnumM] using hf
    have hf3 : f.toNat < c.length := by omega
    have hf4 : c[f.toNat]? = some c[f.toNat] := List.getElem?_eq_getElem hf3
    rcases op_cases op with h | rfl | rfl | rfl | rfl | rfl | rfl | rfl | rfl | rfl | rfl | rfl | rfl | rfl | rfl | rfl | rfl | rfl | rfl | rfl | rfl | rfl | rfl | rfl | rfl | rfl | rfl | rfl | rfl | rfl | rfl
    · have ho := op_out h
      have h78 : (decide (7 ≤ op) && decide (op ≤ 18)) = false := by
        rw [Bool.and_eq_false_iff]; simp only [decide_eq_false_iff_not]; omega
      have h79 : ¬ (7 ≤ op ∧ op ≤ 18) := by omega
      simp [ho, h78, h79, effM, hf]
    all_goals first
      | (simp [effM, hf]; done)
      | skip
    · simp [sp26, sFnum]
      refine IteP.intro (fun hn => ?_) (fun hn => ?_)
      · have hn2 : 0 ≤ n ∧ n < (c.length : Int) := by simpa [fnumM] using hn
        have hn3 : n.toNat < c.length := by omega
        have hn4 : c[n.toNat]? = some c[n.toNat] := List.getElem?_eq_getElem hn3
        simp
        refine DrP.intro (by decide) ?_
        simp [effM, hf, hn, hn2, hn3, hn4, fnRow]
      · simp [effM, hf, hn]
    · simp [effM, hf, hf2, hf3, hf4, fnRow]
    · simp [sp26, sHost]
      refine IteP.dec (fun hn => ?_) (fun hn => ?_)
      · simp [effM, hf, hn]
      · simp [effM, hf, hn]
  · simp [effM, hf]
end Go.Eng.M
