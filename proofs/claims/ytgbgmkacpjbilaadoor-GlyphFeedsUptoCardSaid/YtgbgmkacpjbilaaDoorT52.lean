/- A part of the proof: contracts of functions, each proved once. -/
import Derived.Test.YtgbgmkacpjbilaaDoorT51
namespace Go.Eng.G
open Go Go.Eng Go.Proofs
set_option maxRecDepth 100000
set_option linter.unusedSimpArgs false
set_option linter.unusedSectionVars false
set_option linter.unusedVariables false
variable [GV]
theorem decG_whole {b : List Int} (h : b.length ≠ 0) : decG b = if (wholeG b).1 = 0 then (65533, 1) else ((wholeG b).2, (wholeG b).1) := by
  cases b with
  | nil => simp at h
  | cons c r => simp [decG, decC, wholeG]
theorem wholeG_pos (b : List Int) : 0 ≤ (wholeG b).1 ∧ (wholeG b).1 ≤ b.length := by
  cases b with
  | nil => simp [wholeG]
  | cons c r =>
    have := wholeC_range (c :: r) c (by simp)
    simp only [wholeG, List.getElem?_cons_zero]
    exact ⟨this.1, this.2.1⟩
def sp7 : Nat → Option Spec
  | 19 => some sBegins
  | 20 => some sWhole
  | _ => none
theorem sp7_ok : ∀ f s, sp7 f = some s → Meets PP f s := by
  intro f s h
  unfold sp7 at h
  split at h <;> cases h
  · exact mBegins
  · exact mWhole
set_option maxHeartbeats 8000000 in
theorem mRf : Meets PP 7 sRf := by
  refine meets (dr := drF tab7 PP sp7) (live := live7) fn7 rfl rfl rfl sp7_ok (fun base ak => drF_ok mixed sp7_ok _ base ak) ?_
  intro args H z H' h
  simp only [sRf] at h
  split at h <;> try cases h
  rename_i x
  split at h <;> try cases h
  rename_i xs hx
  split at h <;> cases h
  rename_i hl
  have hl' : xs.length ≤ 1099511627776 := hl
  refine ⟨(by decide : 1 ≤ 43), ?_⟩
  generalize kdirs sRf.modes _ = ak
  simp [slcI_all hx, slcI_gall hx]
  refine wpX_loop (fun q : Nat × List Int => q.1 ≤ xs.length ∧ q.2.length ≤ q.1 ∧ rfG xs = (q.2 ++ (rfG (xs.drop q.1)).1, (rfG (xs.drop q.1)).2)) (fun q => ⟨[(0, x), (4, .ref (H.length + 2) [] 1 0 q.2.length), (5, .v (.int .i64 q.1))], H ++ [some (1, []), some (1, []), some (1, q.2.map (row1 .i32))]⟩) (fun q => xs.length - q.1) (0, []) (by simp) (by simp) ?_
  rintro ⟨i, out⟩ ⟨h1, h2, h3⟩
  simp only at h1 h2 h3
  simp only
  simp [slcI_all hx, slcI_gall hx]
  refine IteP.dec (fun hlt => ?_) (fun hlt => ?_)
  · have hy := slcI_rest hx h1
    have hyl : (xs.drop i).length ≤ 35184372088832 := by simp; omega
    have hyl' : xs.length - i ≤ 35184372088832 := by omega
    have hy0 : (xs.drop i).length ≠ 0 := by simp; omega
    have hw := wholeG_pos (xs.drop i)
    have hd := decG_whole hy0
    simp [slcI_all hx, slcI_gall hx, slcI_cut hx, hlt, h1, slcI_all hy, slcI_gall hy, sp7, sBegins, hyl']
    refine IteP.intro (fun hb => ?_) (fun hb => ?_)
    · have hst := rfG_stop hy0 hb
      simp
      refine DrP.intro (by decide) ?_
      rw [hst] at h3
      simp at h3
      have hne : ¬ xs.length - i = 0 := by omega
      have e1 : xs.length - (xs.length - i) = i := by omega
      simp [slcI_all hx, slcI_gall hx, slcI_cut hx, hlt, h1, slcI_all hy, slcI_gall hy, h3, hne, e1]
      clear hy
      rcases slc_cases (slcI_eq hx) with rfl | ⟨id, p, off, n, rows', rfl, hn, hc', hr⟩
      · simp [subS]
        omega
      · have hid := node_lt hn
        have hid2 : ¬ H.length ≤ id := by omega
        simp [subS, hid2, hid]
        exact ⟨fun h => by omega, by omega⟩
    · have hc := rfG_cons hy0 hb
      simp [slcI_all hx, slcI_gall hx, slcI_cut hx, hlt, h1, slcI_all hy, slcI_gall hy, sp7, sWhole, hy]
      obtain ⟨m, hm⟩ : ∃ m : Nat, (wholeG (xs.drop i)).1 = m := ⟨(wholeG (xs.drop i)).1.toNat, by omega⟩
      have ho2 : (out.length + 1) * 4 ≤ 140737488355328 := by omega
      have hm2 : m ≤ xs.length - i := by have := hw.2; simp at this; omega
      rw [hm] at hd ⊢
      refine IteP.dec (fun hm0 => ?_) (fun hm0 => ?_)
      · rw [if_pos hm0] at hd
        rw [hd] at hc
        simp at hc
        simp [ho2, slcI_all hx, slcI_gall hx]
        refine ⟨i + 1, out ++ [65533], ⟨by omega, by simp; omega, ?_⟩, ?_, by omega⟩
        · rw [h3, hc]; simp
        · have e : IntKind.i64.wrap ((i : Int) + 1) = (i : Int) + 1 := w64 (by omega) (by omega)
          simp [row1, e]
      · rw [if_neg hm0] at hd
        rw [hd] at hc
        simp at hc
        simp [ho2, slcI_all hx, slcI_gall hx]
        refine ⟨i + m, out ++ [(wholeG (xs.drop i)).2], ⟨by omega, by simp; omega, ?_⟩, ?_, by omega⟩
        · rw [h3, hc]; simp
        · have e : IntKind.i64.wrap ((i : Int) + (m : Int)) = (i : Int) + (m : Int) := w64 (by omega) (by omega)
          simp [row1, e]
  · have hi : i = xs.length := by omega
    subst hi
    rw [List.drop_length, rfG_nil] at h3
    simp at h3
    simp [slcI_all hx, slcI_gall hx, h3]
end Go.Eng.G
