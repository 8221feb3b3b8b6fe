/- A part of the proof: contracts of functions, each proved once. -/
import Derived.Test.YtkbmagloekociaaM6
namespace Go.Eng.M
open Go Go.Eng Go.Proofs
set_option maxRecDepth 100000
set_option linter.unusedSimpArgs false
set_option linter.unusedSectionVars false
set_option linter.unusedVariables false
variable [Globs]
/-- A module whose parts are not too long to be counted. -/
def mdSm (m : Md) : Bool := decide (m.data.length ≤ 2^40) && decide (m.funcs.length ≤ 2^40) && m.funcs.all fun f => decide (f.code.length ≤ 2^40)
noncomputable def sRight : Spec where
  modes := []
  f := fun args H => match args with
    | [x] => match unMd x with
      | some m => if mdSm m = true then some (.v (.bool (rightM m)), H) else none
      | none => none
    | _ => none
noncomputable def sp44 : Nat → Option Spec
  | 45 => some (sHas)
  | _ => none
theorem sp44_ok : ∀ f s, sp44 f = some s → Meets PP f s := by
  intro f s h
  unfold sp44 at h
  split at h
  · injection h with h; subst h; exact mHas
  · cases h
set_option maxHeartbeats 40000000 in
theorem mRight : Meets PP 44 (sRight) := by
  refine meets (dr := drF tab44 PP sp44) (live := live44) fn44 rfl rfl rfl sp44_ok (fun base ak => drF_ok mixed sp44_ok _ base ak) ?_
  intro args H z H' h
  simp only [sRight] at h
  repeat (split at h <;> try cases h)
  rename_i x _ m hm hl
  refine ⟨(by decide : 1 ≤ 113), ?_⟩
  rw [unMd_eq hm]
  obtain ⟨a, b, c⟩ := m
  generalize hak : kdirs sRight.modes _ = ak
  simp [mdV]
  by_cases hh : 0 ≤ a ∧ a ≤ 1024 ∧ (b.length : Int) ≤ a ∧ 1 ≤ c.length ∧ c.length ≤ 16
  · obtain ⟨g1, g2, g3, g4, g5⟩ := hh
    have k1 : ¬ a < 0 := by omega
    have k2 : ¬ 1024 < a := by omega
    have k3 : ¬ a < (b.length : Int) := by omega
    have k4 : ¬ (c.length : Int) < 1 := by omega
    have k5 : ¬ (16 : Int) < (c.length : Int) := by omega
    have hres : rightM ⟨a, b, c⟩ = c.all fnR := by simp [rightM, g1, g2, g3, g4, g5]
    rw [hres]
    simp only [k1, k2, k3, k4, k5]
    simp
    refine wpX_loopG (fun i : Nat => i ≤ c.length ∧ ∀ j, (hj : j < i) → (hj2 : j < c.length) → fnR c[j] = true) (fun i => ⟨[(36, .fs 4 (c.map fnRow)), (37, .v (.int .i64 c.length)), (38, .v (.int .i64 i))], H ++ [some (3, [[.v (.int .i64 a), .fs 1 (b.map (row1 .u8)), .fs 4 (c.map fnRow)]])]⟩) (fun i => c.length - i) 0 ⟨Nat.zero_le _, by intro j hj; omega⟩ (by simp) ?_
    rintro i ⟨hi, hno⟩
    simp
    refine IteP.dec (fun h0 => ?_) (fun h0 => ?_)
    · obtain ⟨⟨pa, re, lo, code⟩, hfn⟩ : ∃ q, c[i] = q := ⟨_, rfl⟩
      have hbadF : fnR ⟨pa, re, lo, code⟩ = false → c.all fnR = false := by
        intro hb
        rw [Bool.eq_false_iff]
        intro hall
        have := List.all_eq_true.1 hall c[i] (List.getElem_mem h0)
        rw [hfn, hb] at this
        cases this
      have hwi : IntKind.i64.wrap ((i : Int) + 1) = (i : Int) + 1 := w64 (by omega) (by omega)
      by_cases hf : 0 ≤ pa ∧ pa ≤ 8 ∧ 0 ≤ re ∧ re ≤ 1 ∧ 0 ≤ lo ∧ lo ≤ 16 - pa ∧ 1 ≤ code.length ∧ code.length ≤ 400
      · obtain ⟨f1, f2, f3, f4, f5, f6, f7, f8⟩ := hf
        have e1 : ¬ pa < 0 := by omega
        have e2 : ¬ 8 < pa := by omega
        have e3 : ¬ re < 0 := by omega
        have e4 : ¬ 1 < re := by omega
        have e5 : ¬ lo < 0 := by omega
        have e6 : ¬ 16 - pa < lo := by omega
        have e7 : ¬ (code.length : Int) < 1 := by omega
        have e8 : ¬ (400 : Int) < (code.length : Int) := by omega
        have ew : IntKind.i64.wrap (16 - pa) = 16 - pa := w64 (by omega) (by omega)
        have hfr : fnR ⟨pa, re, lo, code⟩ = code.all insR := by simp [fnR, f1, f2, f3, f4, f5, f6, f7, f8]
        simp [h0, hfn, fnRow, e1, e2, e3, e4, e5, e6, e7, e8, ew]
        refine wpX_loopG (fun i2 : Nat => i2 ≤ code.length ∧ ∀ j, (hj : j < i2) → (hj2 : j < code.length) → insR code[j] = true) (fun i2 => ⟨[(36, .fs 4 (c.map fnRow)), (37, .v (.int .i64 c.length)), (38, .v (.int .i64 i)), (86, .fs 2 (code.map insRow)), (87, .v (.int .i64 code.length)), (88, .v (.int .i64 i2))], H ++ [some (3, [[.v (.int .i64 a), .fs 1 (b.map (row1 .u8)), .fs 4 (c.map fnRow)]])]⟩) (fun i2 => code.length - i2) 0 ⟨Nat.zero_le _, by intro j hj; omega⟩ ?_ ?_
        · simp
        · rintro i2 ⟨hi2, hno2⟩
          simp
          refine IteP.dec (fun h02 => ?_) (fun h02 => ?_)
          · obtain ⟨⟨op, n⟩, hins⟩ : ∃ q, code[i2] = q := ⟨_, rfl⟩
            have hwi2 : IntKind.i64.wrap ((i2 : Int) + 1) = (i2 : Int) + 1 := w64 (by omega) (by omega)
            have hbadI : insR ⟨op, n⟩ = false → c.all fnR = false := by
              intro hb
              refine hbadF ?_
              rw [hfr, Bool.eq_false_iff]
              intro hall
              have := List.all_eq_true.1 hall code[i2] (List.getElem_mem h02)
              rw [hins, hb] at this
              cases this
            have hgoI : insR ⟨op, n⟩ = true → ∀ j, (hj : j < i2 + 1) → (hj2 : j < code.length) → insR code[j] = true := by
              intro hI j hj hj2
              by_cases e : j = i2
              · subst e; rw [hins]; exact hI
              · exact hno2 j (by omega) hj2
            by_cases hop : 0 ≤ op ∧ op ≤ 29
            · have o1 : ¬ op < 0 := by omega
              have o2 : ¬ 29 < op := by omega
              simp [h02, hins, insRow, o1, o2, sp44, sHas]
              have hI : insR ⟨op, n⟩ = (hasM op || decide (n = 0)) := by simp [insR, hop.1, hop.2]
              refine IteP.intro (fun hb => ?_) (fun hb => ?_)
              · have hI0 : insR ⟨op, n⟩ = false := by
                  rw [hI]; revert hb; cases hasM op <;> simp
                simp [hbadI hI0]
              · have hI0 : insR ⟨op, n⟩ = true := by
                  rw [hI]; revert hb; cases hasM op <;> simp
                simp [hwi2]
                exact ⟨i2 + 1, ⟨by omega, hgoI hI0⟩, by simp, by omega⟩
            · have hI0 : insR ⟨op, n⟩ = false := by
                rw [Bool.eq_false_iff]
                intro h
                simp only [insR, Bool.and_eq_true, decide_eq_true_eq] at h
                omega
              have hb : (decide (op < 0) || decide (29 < op)) = true := by
                simp only [Bool.or_eq_true, decide_eq_true_eq]; omega
              simp [h02, hins, insRow, hb, hbadI hI0, sp44, sHas]
          · simp
            refine ⟨i + 1, ⟨by omega, fun j hj hj2 => ?_⟩, ?_, by omega⟩
            · by_cases e : j = i
              · subst e
                rw [hfn, hfr, List.all_eq_true]
                intro x hx
                obtain ⟨j2, hj2, rfl⟩ := List.getElem_of_mem hx
                exact hno2 j2 (by omega) hj2
              · exact hno j (by omega) hj2
            · simp [hwi]
      · have hb : (decide (pa < 0) || decide (8 < pa) || decide (re < 0) || decide (1 < re) || decide (lo < 0) || decide (IntKind.i64.wrap (16 - pa) < lo) || decide ((code.length : Int) < 1) || decide ((400 : Int) < (code.length : Int))) = true := by
          by_cases hp : 0 ≤ pa ∧ pa ≤ 8
          · rw [w64 (by omega) (by omega)]; simp only [Bool.or_eq_true, decide_eq_true_eq]; omega
          · simp only [Bool.or_eq_true, decide_eq_true_eq]; omega
        have hfr : fnR ⟨pa, re, lo, code⟩ = false := by
          rw [Bool.eq_false_iff]
          intro h
          simp only [fnR, Bool.and_eq_true, decide_eq_true_eq] at h
          omega
        simp [h0, hfn, fnRow, hb, hbadF hfr]
    · simp
      intro x hx
      obtain ⟨j, hj, rfl⟩ := List.getElem_of_mem hx
      exact hno j (by omega) hj
  · have hb : (decide (a < 0) || decide (1024 < a) || decide (a < (b.length : Int)) || decide ((c.length : Int) < 1) || decide ((16 : Int) < (c.length : Int))) = true := by
      simp only [Bool.or_eq_true, decide_eq_true_eq]; omega
    have hres : rightM ⟨a, b, c⟩ = false := by
      rw [Bool.eq_false_iff]
      intro h
      simp only [rightM, Bool.and_eq_true, decide_eq_true_eq] at h
      omega
    simp [hb, hres]
end Go.Eng.M
