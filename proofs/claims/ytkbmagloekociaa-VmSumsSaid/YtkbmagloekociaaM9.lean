/- A part of the proof: contracts of functions, each proved once. -/
import Derived.Test.YtkbmagloekociaaM8
namespace Go.Eng.M
open Go Go.Eng Go.Proofs
set_option maxRecDepth 100000
set_option linter.unusedSimpArgs false
set_option linter.unusedSectionVars false
set_option linter.unusedVariables false
variable [Globs]
def chkF (m : Md) : Nat → List Fn → Option (Int × Int × Int)
  | _, [] => none
  | f, fn :: r => if 0 ≤ staticF m f fn then some (f, staticF m f fn, 130) else if (heightsM m f fn.code).isSome = true then chkF m (f + 1) r else some (f, -1, 130)
def checkM (m : Md) : Int × Int × Int :=
  if (encM m).2 ≠ 0 then (-1, -1, 1)
  else match m.funcs with
    | [] => (0, 0, 0)
    | fn :: r => if fn.params ≠ 3 ∨ fn.results ≠ 0 then (0, -1, 1) else (chkF m 0 (fn :: r)).getD (0, 0, 0)
noncomputable def sCheck : Spec where
  modes := []
  f := fun args H => match args with
    | [x] => match unMd x with
      | some m => if mdSm m = true then some (.agg [.v (.int .i64 (checkM m).1), .v (.int .i64 (checkM m).2.1), .v (.int .i64 (checkM m).2.2)], H) else none
      | none => none
    | _ => none
theorem staticF_neg {m : Md} {f : Int} {fn : Fn} (h : ¬ 0 ≤ staticF m f fn) : staticF m f fn = -1 := by
  unfold staticF at *
  split <;> simp_all
noncomputable def sp25 : Nat → Option Spec
  | 24 => some (sEncode)
  | 47 => some (sStatic)
  | 48 => some (sHeights)
  | _ => none
theorem sp25_ok : ∀ f s, sp25 f = some s → Meets PP f s := by
  intro f s h
  unfold sp25 at h
  split at h
  · injection h with h; subst h; exact mEncode
  · injection h with h; subst h; exact mStatic
  · injection h with h; subst h; exact mHeights
  · cases h
set_option maxHeartbeats 40000000 in
theorem mCheck : Meets PP 25 (sCheck) := by
  refine meets (dr := drF tab25 PP sp25) (live := live25) fn25 rfl rfl rfl sp25_ok (fun base ak => drF_ok mixed sp25_ok _ base ak) ?_
  intro args H z H' h
  simp only [sCheck] at h
  repeat (split at h <;> try cases h)
  rename_i x _ m hm hl
  refine ⟨(by decide : 1 ≤ 58), ?_⟩
  rw [unMd_eq hm]
  by_cases he : (encM m).2 = 0
  · have hR : rightM m = true := by
      cases h : rightM m with
      | true => rfl
      | false => simp [encM, h] at he
    have hfn : ∀ (i : Nat) (fn : Fn), m.funcs[i]? = some fn → fnR fn = true := fun i fn h => rightM_fn hR h
    have hfl : 1 ≤ m.funcs.length ∧ m.funcs.length ≤ 16 := by
      simp only [rightM, Bool.and_eq_true, decide_eq_true_eq] at hR
      omega
    obtain ⟨a, b, c⟩ := m
    simp only at hfl hfn
    obtain ⟨⟨p0, q0, l0, code0⟩, c', rfl⟩ : ∃ fn c', c = fn :: c' := by
      cases c with
      | nil => simp at hfl
      | cons fn c' => exact ⟨fn, c', rfl⟩
    have hchk : checkM ⟨a, b, ⟨p0, q0, l0, code0⟩ :: c'⟩ = if p0 ≠ 3 ∨ q0 ≠ 0 then (0, -1, 1) else (chkF ⟨a, b, ⟨p0, q0, l0, code0⟩ :: c'⟩ 0 (⟨p0, q0, l0, code0⟩ :: c')).getD (0, 0, 0) := by
      unfold checkM; rw [if_neg (by simpa using he)]
    rw [hchk]
    generalize hc0 : (⟨p0, q0, l0, code0⟩ : Fn) :: c' = c at *
    have hg0 : c[0]? = some ⟨p0, q0, l0, code0⟩ := by rw [← hc0]; rfl
    have h0l : 0 < c.length := by omega
    have hg0' : c[0] = ⟨p0, q0, l0, code0⟩ := by rw [List.getElem?_eq_getElem h0l] at hg0; exact Option.some.inj hg0
    generalize kdirs sCheck.modes _ = ak
    simp [mdV, sp25, sEncode, hl, he, h0l, hg0', fnRow]
    by_cases hpq : p0 = 3 ∧ q0 = 0
    · obtain ⟨rfl, rfl⟩ := hpq
      simp
      generalize hm' : (⟨a, b, c⟩ : Md) = m' at *
      refine wpX_loopG (fun i : Nat => i ≤ c.length ∧ chkF m' 0 c = chkF m' i (c.drop i)) (fun i => ⟨[(1, .ptr H.length [] 0 0), (2, .ptr (H.length + 1) [] 0 0), (34, .v (.int .i64 c.length)), (35, .v (.int .i64 i))], H ++ [some (3, [[.v (.int .i64 a), .fs 1 (b.map (row1 .u8)), .fs 4 (c.map fnRow)]]), some (3, [[.v (.int .i64 0), .v (.int .i64 0), .v (.int .i64 0)]])]⟩) (fun i => c.length - i) 0 ⟨Nat.zero_le _, by simp⟩ (by simp) ?_
      rintro i ⟨hi, hinv⟩
      simp
      refine IteP.dec (fun h0 => ?_) (fun h0 => ?_)
      · obtain ⟨fn, hfe⟩ : ∃ q, c[i] = q := ⟨_, rfl⟩
        have hge : c[i]? = some fn := by rw [List.getElem?_eq_getElem h0, hfe]
        have hff := hfn i fn hge
        have hwi : IntKind.i64.wrap ((i : Int) + 1) = (i : Int) + 1 := w64 (by omega) (by omega)
        rw [List.drop_eq_getElem_cons h0, hfe] at hinv
        simp only [chkF] at hinv
        have hum : unMd (.agg [.v (.int .i64 a), .fs 1 (b.map (row1 .u8)), .fs 4 (c.map fnRow)]) = some m' := by rw [← hm']; exact unMd_mk a b c
        have hmf : m'.funcs = c := by rw [← hm']
        simp [-unMd_mk, hum, hmf, sp25, sStatic, hge, hff]
        refine IteP.dec (fun hs => ?_) (fun hs => ?_)
        · rw [if_pos hs] at hinv
          simp [hinv]
        · have hs1 := staticF_neg hs
          rw [if_neg hs] at hinv
          simp [-unMd_mk, hum, hmf, sp25, sHeights, hge, hs1, hR]
          cases hh : heightsM m' i fn.code with
          | some o =>
            rw [hh, if_pos (by rfl)] at hinv
            simp [hwi]
            exact ⟨i + 1, ⟨by omega, hinv⟩, by simp, by omega⟩
          | none =>
            rw [hh, if_neg (by simp)] at hinv
            simp [hinv]
      · have hi2 : i = c.length := by omega
        rw [hi2, List.drop_length] at hinv
        simp [hinv, chkF]
    · have hb : (!decide (p0 = 3) || !decide (q0 = 0)) = true := by simp; omega
      have hb2 : p0 ≠ 3 ∨ q0 ≠ 0 := by omega
      rw [if_pos hb2]
      simp [hb]
  · have : checkM m = (-1, -1, 1) := by unfold checkM; rw [if_pos he]
    rw [this]
    obtain ⟨a, b, c⟩ := m
    simp [mdV, sp25, sEncode, hl, he]
end Go.Eng.M
