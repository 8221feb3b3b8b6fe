/- A part of the proof: contracts of functions, each proved once. -/
import Derived.Test.YtkbmagloekociaaM27
namespace Go.Eng.M
open Go Go.Eng Go.Proofs
set_option maxRecDepth 100000
set_option linter.unusedSimpArgs false
set_option linter.unusedSectionVars false
set_option linter.unusedVariables false
variable [Globs]
def sBounds : Spec where
  modes := []
  f := fun args H => match args with
    | [.v (.int .i64 mem), .v (.int .i64 at_), .v (.int .i64 v), .v (.bool e)] => if i64r at_ = true ∧ i64r v = true then some (.v (.bool true), H) else none
    | _ => none
theorem memPfull (c : List Int) : memP c 0 c.length = c := by
  have : memOk c.length 0 c.length = true := by simp [memOk]
  simp [memP, this]
theorem touch21 : (touchN 21 : Int) = 1 := rfl
theorem touch23 : (touchN 23 : Int) = 8 := rfl
theorem touch21n : touchN 21 = 1 := rfl
theorem touch23n : touchN 23 = 8 := rfl
theorem getInB {m n : Nat} {at_ v : Int} (h0 : 0 ≤ at_) (h1 : at_ + n ≤ m) (i : Nat) (hi : i < m) : (storeF (List.replicate m 0) at_.toNat v n).getD i 0 = if at_ ≤ i ∧ (i : Int) < at_ + n then byteI v (i - at_.toNat) else 0 := by
  rw [storeF_getD _ _ _ _ _ (by simp; omega) (by simpa using hi)]
  by_cases hc : at_ ≤ i ∧ (i : Int) < at_ + n
  · rw [if_pos hc, if_pos (by omega)]
  · rw [if_neg hc, if_neg (by omega)]
    simp [List.getElem?_replicate, hi]
noncomputable def sp7 : Nat → Option Spec
  | 10 => some (sAlive)
  | 11 => some (sNew)
  | 12 => some (sBegin)
  | 15 => some (sMemT)
  | 18 => some (sRun)
  | 20 => some (sMod)
  | 21 => some (sIns)
  | _ => none
theorem sp7_ok : ∀ f s, sp7 f = some s → Meets PP f s := by
  intro f s h
  unfold sp7 at h
  split at h
  · injection h with h; subst h; exact mAlive
  · injection h with h; subst h; exact mNew
  · injection h with h; subst h; exact mBegin
  · injection h with h; subst h; exact mMemT
  · injection h with h; subst h; exact mRun
  · injection h with h; subst h; exact mMod
  · injection h with h; subst h; exact mIns
  · cases h
set_option maxHeartbeats 80000000 in
theorem mBounds : Meets PP 7 (sBounds) := by
  refine meets (dr := drF tab7 PP sp7) (live := live7) fn7 rfl rfl rfl sp7_ok (fun base ak => drF_ok mixed sp7_ok _ base ak) ?_
  intro args H z H' h
  simp only [sBounds] at h
  repeat (split at h <;> try cases h)
  rename_i mem at_ v e hr
  refine ⟨(by decide : 4 ≤ 134), ?_⟩
  obtain ⟨ha, hv⟩ := hr
  simp only [i64r, Bool.and_eq_true, decide_eq_true_eq] at ha
  have hmr := and_range mem 63 (by decide) (by decide)
  obtain ⟨m, hm⟩ : ∃ m : Nat, andI .i64 mem 63 = (m : Int) := ⟨(andI .i64 mem 63).toNat, by omega⟩
  have hm63 : m ≤ 63 := by omega
  generalize kdirs sBounds.modes _ = ak
  obtain ⟨op, hop, hopn⟩ : ∃ op : Int, (op = 21 ∨ op = 23) ∧ op = (if e = true then 23 else 21) := by
    cases e
    · exact ⟨21, .inl rfl, rfl⟩
    · exact ⟨23, .inr rfl, rfl⟩
  have k1 := chkB hop hm63 at_ v
  have k2 := initB m op at_ v
  have k3 := newB m op at_ v
  have k4 := begB m op at_ v
  have k5 := smB m op at_ v
  have k6 := rightB hop hm63 at_ v
  have q1 : memOk m at_ (touchN op) = true → runM (mdB m op at_ v) (stB (List.replicate m 0) 0 [] 0) 99 = some (⟨storeF (List.replicate m 0) at_.toNat v (touchN op), [], false, 0, [], 0⟩, ⟨1, 0, 4, 0, []⟩) := runB_some hop hm63
  have q2 : memOk m at_ (touchN op) = false → runM (mdB m op at_ v) (stB (List.replicate m 0) 0 [] 0) 99 = some (stB (List.replicate m 0) 3 [] 2, ⟨4, 2, 3, 0, []⟩) := runB_none hop hm63
  simp only [mdB, cB] at k1 k2 k3 k4 k5 k6 q1 q2
  cases e with
  | false =>
    simp only [Bool.false_eq_true, if_false] at hopn
    subst hopn
    simp only [touch21, touch21n, stB] at q1 q2
    have hw : IntKind.i64.wrap ((m : Int) - 1) = (m : Int) - 1 := w64 (by omega) (by omega)
    by_cases hin : 0 ≤ at_ ∧ at_ ≤ (m : Int) - 1
    · have hmo : memOk m at_ 1 = true := by simp [memOk]; omega
      have kr := q1 hmo
      have hlen : (storeF (List.replicate m 0) at_.toNat v 1).length = m := by rw [storeF_len]; simp
      have hmp := memPfull (storeF (List.replicate m 0) at_.toNat v 1)
      have hmo2 : memOk m 0 m = true := by simp [memOk]
      have hg : ∀ i : Nat, i < m → (storeF (List.replicate m 0) at_.toNat v 1).getD i 0 = if at_ ≤ i ∧ (i : Int) < at_ + 1 then byteI v (i - at_.toNat) else 0 := getInB (n := 1) (v := v) hin.1 (by omega : at_ + (1 : Int) ≤ (m : Int))
      have hle : m ≤ 2 ^ 40 := by omega
      rw [hlen] at hmp
      have d1 : decide (0 ≤ at_) = true := decide_eq_true hin.1
      have d2 : decide (at_ ≤ (m : Int) - 1) = true := decide_eq_true hin.2
      simp [sp7, sAlive, hm, sIns, sMod, mdV, oneMd, unMd_one0, sNew, k1, k2, k3, k4, k5, k6, isM, sBegin]
      simp [sp7, sRun, kr, isM, k5, toldV, stB, sMemT, hlen, hmp, hmo2, hle, hin.1, hin.2, hw, ne4]
      generalize storeF (List.replicate m 0) at_.toNat v 1 = c at *
      refine wpX_loopG (fun k : Nat => k ≤ m) (fun k => ⟨[(1, .v (.int .i64 at_)), (2, .v (.int .i64 v)), (10, .v (.int .i64 1)), (17, .v (.bool true)), (103, .fs 1 (c.map (row1 .u8))), (104, .v (.int .i64 (m : Int))), (105, .v (.int .i64 (k : Int)))], H⟩) (fun k => m - k) 0 (Nat.zero_le _) (by simp) ?_
      rintro k hk
      simp
      refine IteP.dec (fun h0 => ?_) (fun h0 => ?_)
      · have hkm : k < m := by omega
        have hkc : k < c.length := by omega
        have e5 : c[k]? = some c[k] := List.getElem?_eq_getElem hkc
        have e6 := hg k hkm
        rw [getD_lt _ _ hkc] at e6
        have e7 : IntKind.i64.wrap ((k : Int) - at_) = (k : Int) - at_ := w64 (by omega) (by omega)
        have e8 : IntKind.i64.wrap ((k : Int) + 1) = (k : Int) + 1 := w64 (by omega) (by omega)
        by_cases hc : at_ ≤ (k : Int) ∧ (k : Int) < at_ + 1
        · rw [if_pos hc] at e6
          have hd : (k : Int) - at_ = ((k - at_.toNat : Nat) : Int) := by omega
          have hd8 : k - at_.toNat < 8 := by omega
          have hb := byte_u64 v (k - at_.toNat) hd8
          rw [← hd] at hb
          have d3 : at_ ≤ (k : Int) := hc.1
          have d4 : (k : Int) - at_ < 1 := by omega
          have hnn : ¬ (IntKind.u64.wrap (8 * IntKind.u64.wrap ((k : Int) - at_)) < 0) := by rw [IntKind.wrap_u64]; omega
          simp [h0, hkm, hkc, hlen, e5, e6, e7, e8, row1, d3, d4, hb, hnn]
          exact ⟨k + 1, by omega, by simp, by omega⟩
        · rw [if_neg hc] at e6
          have hcb : (decide (at_ ≤ (k : Int)) && decide ((k : Int) - at_ < 1)) = false := by rw [Bool.eq_false_iff]; simp; omega
          simp [h0, hkm, hkc, hlen, e5, e6, e7, e8, row1, hcb]
          skip
          exact ⟨k + 1, by omega, by simp, by omega⟩
      · simp
    · have hmo : memOk m at_ 1 = false := by rw [Bool.eq_false_iff]; simp [memOk]; omega
      have kr := q2 hmo
      have hmp := memPfull (List.replicate m 0)
      have hmo2 : memOk m 0 m = true := by simp [memOk]
      have hle : m ≤ 2 ^ 40 := by omega
      rw [List.length_replicate] at hmp
      have hbn : (decide (0 ≤ at_) && decide (at_ ≤ (m : Int) - 1)) = false := by rw [Bool.eq_false_iff]; simp; omega
      simp [sp7, sAlive, hm, sIns, sMod, mdV, oneMd, unMd_one0, sNew, k1, k2, k3, k4, k5, k6, isM, sBegin]
      simp [sp7, sRun, kr, isM, k5, toldV, stB, sMemT, hmp, hmo2, hle, hw, hbn, ne4]
      refine wpX_loopG (fun k : Nat => k ≤ m) (fun k => ⟨[(1, .v (.int .i64 at_)), (2, .v (.int .i64 v)), (10, .v (.int .i64 1)), (17, .v (.bool false)), (103, .fs 1 (List.replicate m (row1 .u8 0))), (104, .v (.int .i64 (m : Int))), (105, .v (.int .i64 (k : Int)))], H⟩) (fun k => m - k) 0 (Nat.zero_le _) (by simp) ?_
      rintro k hk
      simp
      refine IteP.dec (fun h0 => ?_) (fun h0 => ?_)
      · have hkm : k < m := by omega
        have e5 : (List.replicate m (row1 .u8 0))[k]? = some (row1 .u8 0) := by simp [hkm]
        have e8 : IntKind.i64.wrap ((k : Int) + 1) = (k : Int) + 1 := w64 (by omega) (by omega)
        simp [h0, hkm, e5, e8, row1]
        skip
        exact ⟨k + 1, by omega, by simp, by omega⟩
      · simp
  | true =>
    simp only [if_true] at hopn
    subst hopn
    simp only [touch23, touch23n, stB] at q1 q2
    have hw : IntKind.i64.wrap ((m : Int) - 8) = (m : Int) - 8 := w64 (by omega) (by omega)
    by_cases hin : 0 ≤ at_ ∧ at_ ≤ (m : Int) - 8
    · have hmo : memOk m at_ 8 = true := by simp [memOk]; omega
      have kr := q1 hmo
      have hlen : (storeF (List.replicate m 0) at_.toNat v 8).length = m := by rw [storeF_len]; simp
      have hmp := memPfull (storeF (List.replicate m 0) at_.toNat v 8)
      have hmo2 : memOk m 0 m = true := by simp [memOk]
      have hg : ∀ i : Nat, i < m → (storeF (List.replicate m 0) at_.toNat v 8).getD i 0 = if at_ ≤ i ∧ (i : Int) < at_ + 8 then byteI v (i - at_.toNat) else 0 := getInB (n := 8) (v := v) hin.1 (by omega : at_ + (8 : Int) ≤ (m : Int))
      have hle : m ≤ 2 ^ 40 := by omega
      rw [hlen] at hmp
      have d1 : decide (0 ≤ at_) = true := decide_eq_true hin.1
      have d2 : decide (at_ ≤ (m : Int) - 8) = true := decide_eq_true hin.2
      simp [sp7, sAlive, hm, sIns, sMod, mdV, oneMd, unMd_one0, sNew, k1, k2, k3, k4, k5, k6, isM, sBegin]
      simp [sp7, sRun, kr, isM, k5, toldV, stB, sMemT, hlen, hmp, hmo2, hle, hin.1, hin.2, hw, ne4]
      generalize storeF (List.replicate m 0) at_.toNat v 8 = c at *
      refine wpX_loopG (fun k : Nat => k ≤ m) (fun k => ⟨[(1, .v (.int .i64 at_)), (2, .v (.int .i64 v)), (10, .v (.int .i64 8)), (17, .v (.bool true)), (103, .fs 1 (c.map (row1 .u8))), (104, .v (.int .i64 (m : Int))), (105, .v (.int .i64 (k : Int)))], H⟩) (fun k => m - k) 0 (Nat.zero_le _) (by simp) ?_
      rintro k hk
      simp
      refine IteP.dec (fun h0 => ?_) (fun h0 => ?_)
      · have hkm : k < m := by omega
        have hkc : k < c.length := by omega
        have e5 : c[k]? = some c[k] := List.getElem?_eq_getElem hkc
        have e6 := hg k hkm
        rw [getD_lt _ _ hkc] at e6
        have e7 : IntKind.i64.wrap ((k : Int) - at_) = (k : Int) - at_ := w64 (by omega) (by omega)
        have e8 : IntKind.i64.wrap ((k : Int) + 1) = (k : Int) + 1 := w64 (by omega) (by omega)
        by_cases hc : at_ ≤ (k : Int) ∧ (k : Int) < at_ + 8
        · rw [if_pos hc] at e6
          have hd : (k : Int) - at_ = ((k - at_.toNat : Nat) : Int) := by omega
          have hd8 : k - at_.toNat < 8 := by omega
          have hb := byte_u64 v (k - at_.toNat) hd8
          rw [← hd] at hb
          have d3 : at_ ≤ (k : Int) := hc.1
          have d4 : (k : Int) - at_ < 8 := by omega
          have hnn : ¬ (IntKind.u64.wrap (8 * IntKind.u64.wrap ((k : Int) - at_)) < 0) := by rw [IntKind.wrap_u64]; omega
          simp [h0, hkm, hkc, hlen, e5, e6, e7, e8, row1, d3, d4, hb, hnn]
          exact ⟨k + 1, by omega, by simp, by omega⟩
        · rw [if_neg hc] at e6
          have hcb : (decide (at_ ≤ (k : Int)) && decide ((k : Int) - at_ < 8)) = false := by rw [Bool.eq_false_iff]; simp; omega
          simp [h0, hkm, hkc, hlen, e5, e6, e7, e8, row1, hcb]
          skip
          exact ⟨k + 1, by omega, by simp, by omega⟩
      · simp
    · have hmo : memOk m at_ 8 = false := by rw [Bool.eq_false_iff]; simp [memOk]; omega
      have kr := q2 hmo
      have hmp := memPfull (List.replicate m 0)
      have hmo2 : memOk m 0 m = true := by simp [memOk]
      have hle : m ≤ 2 ^ 40 := by omega
      rw [List.length_replicate] at hmp
      have hbn : (decide (0 ≤ at_) && decide (at_ ≤ (m : Int) - 8)) = false := by rw [Bool.eq_false_iff]; simp; omega
      simp [sp7, sAlive, hm, sIns, sMod, mdV, oneMd, unMd_one0, sNew, k1, k2, k3, k4, k5, k6, isM, sBegin]
      simp [sp7, sRun, kr, isM, k5, toldV, stB, sMemT, hmp, hmo2, hle, hw, hbn, ne4]
      refine wpX_loopG (fun k : Nat => k ≤ m) (fun k => ⟨[(1, .v (.int .i64 at_)), (2, .v (.int .i64 v)), (10, .v (.int .i64 8)), (17, .v (.bool false)), (103, .fs 1 (List.replicate m (row1 .u8 0))), (104, .v (.int .i64 (m : Int))), (105, .v (.int .i64 (k : Int)))], H⟩) (fun k => m - k) 0 (Nat.zero_le _) (by simp) ?_
      rintro k hk
      simp
      refine IteP.dec (fun h0 => ?_) (fun h0 => ?_)
      · have hkm : k < m := by omega
        have e5 : (List.replicate m (row1 .u8 0))[k]? = some (row1 .u8 0) := by simp [hkm]
        have e8 : IntKind.i64.wrap ((k : Int) + 1) = (k : Int) + 1 := w64 (by omega) (by omega)
        simp [h0, hkm, e5, e8, row1]
        skip
        exact ⟨k + 1, by omega, by simp, by omega⟩
      · simp
end Go.Eng.M
