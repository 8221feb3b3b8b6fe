/- A part of the proof: contracts of functions, each proved once. -/
import Derived.Test.YtkbmagloekociaaM29
namespace Go.Eng.M
open Go Go.Eng Go.Proofs
set_option maxRecDepth 100000
set_option linter.unusedSimpArgs false
set_option linter.unusedSectionVars false
set_option linter.unusedVariables false
variable [Globs]
def sSums : Spec where
  modes := []
  f := fun args H => match args with
    | [.fs 1 rows, .v (.int .i64 x), .v (.int .u8 k)] => match unI .u8 rows with
      | some data => if (∀ b ∈ data, 0 ≤ b ∧ b < 256) ∧ data.length ≤ 2^47 ∧ i64r x = true ∧ 0 ≤ k ∧ k ≤ 255 then some (.v (.bool true), H) else none
      | none => none
    | _ => none
noncomputable def oS (d : List Int) (k x : Int) : Option (Nat × List (List V)) := some (3, [[.v (.int .i64 600), .fs 1 (d.map (row1 .u8)), .fs 4 [fnRow ⟨3, 0, 0, cS d.length k x⟩]]])
noncomputable def sp5 : Nat → Option Spec
  | 10 => some (sAlive)
  | 11 => some (sNew)
  | 12 => some (sBegin)
  | 15 => some (sMemT)
  | 18 => some (sRun)
  | 20 => some (sMod)
  | 21 => some (sIns)
  | _ => none
theorem sp5_ok : ∀ f s, sp5 f = some s → Meets PP f s := by
  intro f s h
  unfold sp5 at h
  split at h
  · injection h with h; subst h; exact mAlive
  · injection h with h; subst h; exact mNew
  · injection h with h; subst h; exact mBegin
  · injection h with h; subst h; exact mMemT
  · injection h with h; subst h; exact mRun
  · injection h with h; subst h; exact mMod
  · injection h with h; subst h; exact mIns
  · cases h
set_option maxHeartbeats 80000000 in
theorem mSums : Meets PP 5 (sSums) := by
  refine meets (dr := drF tab5 PP sp5) (live := live5) fn5 rfl rfl rfl sp5_ok (fun base ak => drF_ok mixed sp5_ok _ base ak) ?_
  intro args H z H' h
  simp only [sSums] at h
  repeat (split at h <;> try cases h)
  rename_i rows x k _ data hu hr
  refine ⟨(by decide : 3 ≤ 161), ?_⟩
  have hu := unI_eq hu
  subst hu
  obtain ⟨hd, hl40, hx, hk0, hk1⟩ := hr
  obtain ⟨k, rfl⟩ : ∃ a : Nat, k = (a : Int) := ⟨k.toNat, by omega⟩
  simp only [i64r, Bool.and_eq_true, decide_eq_true_eq] at hx
  generalize kdirs sSums.modes _ = ak
  have c1 : IntKind.i64.wrap (k : Int) = (k : Int) := w64 (by omega) (by omega)
  have c2 : IntKind.i64.wrap ((k : Int) + 300) = (k : Int) + 300 := w64 (by omega) (by omega)
  simp [sp5, sAlive]
  refine IteP.dec (fun h200 => ?_) (fun h200 => ?_)
  · have hlT : data.length < 200 ∨ 200 ≤ data.length := by omega
    obtain ⟨d, hdT⟩ : ∃ d, d = data.take 200 := ⟨_, rfl⟩
    have hT : List.take 200 (List.map (row1 .u8) data) = List.map (row1 .u8) d := by rw [hdT, List.map_take]
    have hd2 : ∀ b ∈ d, 0 ≤ b ∧ b < 256 := fun b hb => hd b (List.mem_of_mem_take (hdT ▸ hb))
    have hdl : d.length ≤ 200 := by rw [hdT, List.length_take]; omega
    have g1 : 200 ≤ data.length := by omega
    have g2 : (200 : Int) ≤ data.length := by omega
    have g3 : min 200 data.length = 200 := by omega
    have c3 : IntKind.i64.wrap ((d.length : Int) + 8) = (d.length : Int) + 8 := w64 (by omega) (by omega)
    have k1 := chkS hdl (k : Int) x
    have k2 := initS d (k : Int) x
    have k3 := newS d (k : Int) x
    have k4 := begS d (mS0 d) (k : Int) x
    have k5 := smS hdl (k : Int) x
    have k6 := rightN d (k : Int) x
    have k7 := smN d (k : Int) x
    have k8 := rightS hdl (k : Int) x
    obtain ⟨u, k9⟩ := runS hd2 hdl (by omega : k ≤ 255) hx.1 hx.2
    have l0 := mS0_len hdl
    have l3 := mS3_len hdl k x
    have p1 := memP_get (mem := mS3 d k x) (a := d.length) (by omega)
    have p2 := memP_get (mem := mS3 d k x) (a := d.length + 8) (by omega)
    have hs := sum_range hd2 d.length (Nat.le_refl _)
    rw [List.take_length] at hs
    have j1 := join_bytes d.sum (by omega) (by omega) _ (fun j hj => (p1.2 j hj).trans (mS3_sum hdl (by omega : k ≤ 255) x j hj))
    have j2 := join_bytes x hx.1 hx.2 _ (fun j hj => (p2.2 j hj).trans (mS3_x hdl (by omega : k ≤ 255) x j hj))
    have o1 : memOk 600 d.length 8 = true := by simp [memOk]; omega
    have o2 : memOk 600 ((d.length : Int) + 8) 8 = true := by simp [memOk]; omega
    have n1 := p1.1
    have n2 := p2.1
    rw [show ((d.length + 8 : Nat) : Int) = (d.length : Int) + 8 by omega] at j2 n2
    generalize mS0 d = m0 at *
    generalize mS3 d k x = m3 at *
    simp only [mdSu, mdN, md1, cS, stS] at k1 k2 k3 k4 k5 k6 k7 k8 k9
    simp [hT, g1, g2, g3, c1, c2, c3, sIns, sMod, mdV, oneMd, unMd_one, unMd_one0, sNew, k1, k2, k3, k4, k5, k6, k7, k8, isM, sBegin, sRun, k9, toldV, sp5]
    refine wpX_loopG (fun i : Nat => i ≤ d.length) (fun i => ⟨[(1, .v (.int .i64 x)), (7, .v (.int .i64 (d.length : Int))), (9, .ptr (H.length + 1) [] 0 0), (11, .ptr (H.length + 2) [] 0 0), (12, .v (.int .i64 (d.take i).sum)), (96, .fs 1 (d.map (row1 .u8))), (97, .v (.int .i64 (d.length : Int))), (98, .v (.int .i64 (i : Int)))], H ++ [oS d k x, mObj (mdN d k x, ⟨m3, [], false, 0, [], 0⟩), some (5, [[.v (.int .i64 1), .v (.int .i64 0), .v (.int .i64 u), .v (.int .i64 0), .fs 1 []]])]⟩) (fun i => d.length - i) 0 (Nat.zero_le _) (by simp [oS, mdN, md1, cS]) ?_
    rintro i hi
    simp
    refine IteP.dec (fun h0 => ?_) (fun h0 => ?_)
    · have hid : i < d.length := by omega
      have e5 : d[i]? = some d[i] := List.getElem?_eq_getElem hid
      have hb := hd2 _ (List.getElem_mem hid)
      have hr := sum_range hd2 i (by omega)
      have e6 : IntKind.i64.wrap d[i] = d[i] := w64 (by omega) (by omega)
      have e7 : IntKind.i64.wrap ((d.take i).sum + d[i]) = (d.take (i + 1)).sum := by rw [sum_succ d hid, w64 (by omega) (by omega)]
      have e8 : IntKind.i64.wrap ((i : Int) + 1) = (i : Int) + 1 := w64 (by omega) (by omega)
      simp [h0, hid, e5, e6, e7, e8, row1]
      exact ⟨i + 1, by omega, by simp, by omega⟩
    · obtain rfl : i = d.length := by omega
      rw [List.take_length]
      simp [sp5, isM, sMemT, l3, o1, o2, c3]
      generalize memP m3 (d.length : Int) 8 = q1 at *
      generalize memP m3 ((d.length : Int) + 8) 8 = q2 at *
      refine wpX_loopG (fun j : Nat => j ≤ 8) (fun j => ⟨[(1, .v (.int .i64 x)), (12, .v (.int .i64 d.sum)), (15, .fs 1 (q1.map (row1 .u8))), (17, .fs 1 (q2.map (row1 .u8))), (19, .v (.int .u64 (joinF q1 j))), (20, .v (.int .u64 (joinF q2 j))), (21, .v (.int .i64 (7 - (j : Int))))], H⟩) (fun j => 8 - j) 0 (Nat.zero_le _) (by simp [joinF]) ?_
      rintro j hj
      simp
      refine IteP.dec (fun h1 => ?_) (fun h1 => ?_)
      · have e2 : ((7 : Int) - (j : Int)).toNat = 7 - j := by omega
        have e1 : (7 : Int) - (j : Int) < 8 := by omega
        have e6 : 7 - j < 8 := by omega
        have e3 : 7 - j < q1.length := by omega
        have e3' : 7 - j < q2.length := by omega
        have e4 : q1.getD (7 - j) 0 = q1[7 - j] := getD_lt _ _ e3
        have e4' : q2.getD (7 - j) 0 = q2[7 - j] := getD_lt _ _ e3'
        have e5 : q1[7 - j]? = some q1[7 - j] := List.getElem?_eq_getElem e3
        have e5' : q2[7 - j]? = some q2[7 - j] := List.getElem?_eq_getElem e3'
        have hw : IntKind.i64.wrap ((7 : Int) - (j : Int) - 1) = 7 - ((j : Int) + 1) := by rw [w64 (by omega) (by omega)]; omega
        simp [h1, e1, e2, e3, e3', e5, e5', e6, n1, n2, hw, row1]
        refine ⟨j + 1, by omega, ⟨?_, ?_, by simp⟩, by omega⟩
        · rw [joinF, e4]
        · rw [joinF, e4']
      · obtain rfl : j = 8 := by omega
        simp [j1, j2]
  · have hlT : data.length < 200 ∨ 200 ≤ data.length := by omega
    obtain ⟨d, hdT⟩ : ∃ d, d = data := ⟨_, rfl⟩
    have hT : d = d := rfl
    have hd2 : ∀ b ∈ d, 0 ≤ b ∧ b < 256 := fun b hb => hd b (hdT ▸ hb)
    have hdl : d.length ≤ 200 := by rw [hdT]; omega
    have g1 : True := trivial
    have g2 : True := trivial
    have g3 : True := trivial
    subst hdT
    have c3 : IntKind.i64.wrap ((d.length : Int) + 8) = (d.length : Int) + 8 := w64 (by omega) (by omega)
    have k1 := chkS hdl (k : Int) x
    have k2 := initS d (k : Int) x
    have k3 := newS d (k : Int) x
    have k4 := begS d (mS0 d) (k : Int) x
    have k5 := smS hdl (k : Int) x
    have k6 := rightN d (k : Int) x
    have k7 := smN d (k : Int) x
    have k8 := rightS hdl (k : Int) x
    obtain ⟨u, k9⟩ := runS hd2 hdl (by omega : k ≤ 255) hx.1 hx.2
    have l0 := mS0_len hdl
    have l3 := mS3_len hdl k x
    have p1 := memP_get (mem := mS3 d k x) (a := d.length) (by omega)
    have p2 := memP_get (mem := mS3 d k x) (a := d.length + 8) (by omega)
    have hs := sum_range hd2 d.length (Nat.le_refl _)
    rw [List.take_length] at hs
    have j1 := join_bytes d.sum (by omega) (by omega) _ (fun j hj => (p1.2 j hj).trans (mS3_sum hdl (by omega : k ≤ 255) x j hj))
    have j2 := join_bytes x hx.1 hx.2 _ (fun j hj => (p2.2 j hj).trans (mS3_x hdl (by omega : k ≤ 255) x j hj))
    have o1 : memOk 600 d.length 8 = true := by simp [memOk]; omega
    have o2 : memOk 600 ((d.length : Int) + 8) 8 = true := by simp [memOk]; omega
    have n1 := p1.1
    have n2 := p2.1
    rw [show ((d.length + 8 : Nat) : Int) = (d.length : Int) + 8 by omega] at j2 n2
    generalize mS0 d = m0 at *
    generalize mS3 d k x = m3 at *
    simp only [mdSu, mdN, md1, cS, stS] at k1 k2 k3 k4 k5 k6 k7 k8 k9
    simp [hT, g1, g2, g3, c1, c2, c3, sIns, sMod, mdV, oneMd, unMd_one, unMd_one0, sNew, k1, k2, k3, k4, k5, k6, k7, k8, isM, sBegin, sRun, k9, toldV, sp5]
    refine wpX_loopG (fun i : Nat => i ≤ d.length) (fun i => ⟨[(1, .v (.int .i64 x)), (7, .v (.int .i64 (d.length : Int))), (9, .ptr (H.length + 1) [] 0 0), (11, .ptr (H.length + 2) [] 0 0), (12, .v (.int .i64 (d.take i).sum)), (96, .fs 1 (d.map (row1 .u8))), (97, .v (.int .i64 (d.length : Int))), (98, .v (.int .i64 (i : Int)))], H ++ [oS d k x, mObj (mdN d k x, ⟨m3, [], false, 0, [], 0⟩), some (5, [[.v (.int .i64 1), .v (.int .i64 0), .v (.int .i64 u), .v (.int .i64 0), .fs 1 []]])]⟩) (fun i => d.length - i) 0 (Nat.zero_le _) (by simp [oS, mdN, md1, cS]) ?_
    rintro i hi
    simp
    refine IteP.dec (fun h0 => ?_) (fun h0 => ?_)
    · have hid : i < d.length := by omega
      have e5 : d[i]? = some d[i] := List.getElem?_eq_getElem hid
      have hb := hd2 _ (List.getElem_mem hid)
      have hr := sum_range hd2 i (by omega)
      have e6 : IntKind.i64.wrap d[i] = d[i] := w64 (by omega) (by omega)
      have e7 : IntKind.i64.wrap ((d.take i).sum + d[i]) = (d.take (i + 1)).sum := by rw [sum_succ d hid, w64 (by omega) (by omega)]
      have e8 : IntKind.i64.wrap ((i : Int) + 1) = (i : Int) + 1 := w64 (by omega) (by omega)
      simp [h0, hid, e5, e6, e7, e8, row1]
      exact ⟨i + 1, by omega, by simp, by omega⟩
    · obtain rfl : i = d.length := by omega
      rw [List.take_length]
      simp [sp5, isM, sMemT, l3, o1, o2, c3]
      generalize memP m3 (d.length : Int) 8 = q1 at *
      generalize memP m3 ((d.length : Int) + 8) 8 = q2 at *
      refine wpX_loopG (fun j : Nat => j ≤ 8) (fun j => ⟨[(1, .v (.int .i64 x)), (12, .v (.int .i64 d.sum)), (15, .fs 1 (q1.map (row1 .u8))), (17, .fs 1 (q2.map (row1 .u8))), (19, .v (.int .u64 (joinF q1 j))), (20, .v (.int .u64 (joinF q2 j))), (21, .v (.int .i64 (7 - (j : Int))))], H⟩) (fun j => 8 - j) 0 (Nat.zero_le _) (by simp [joinF]) ?_
      rintro j hj
      simp
      refine IteP.dec (fun h1 => ?_) (fun h1 => ?_)
      · have e2 : ((7 : Int) - (j : Int)).toNat = 7 - j := by omega
        have e1 : (7 : Int) - (j : Int) < 8 := by omega
        have e6 : 7 - j < 8 := by omega
        have e3 : 7 - j < q1.length := by omega
        have e3' : 7 - j < q2.length := by omega
        have e4 : q1.getD (7 - j) 0 = q1[7 - j] := getD_lt _ _ e3
        have e4' : q2.getD (7 - j) 0 = q2[7 - j] := getD_lt _ _ e3'
        have e5 : q1[7 - j]? = some q1[7 - j] := List.getElem?_eq_getElem e3
        have e5' : q2[7 - j]? = some q2[7 - j] := List.getElem?_eq_getElem e3'
        have hw : IntKind.i64.wrap ((7 : Int) - (j : Int) - 1) = 7 - ((j : Int) + 1) := by rw [w64 (by omega) (by omega)]; omega
        simp [h1, e1, e2, e3, e3', e5, e5', e6, n1, n2, hw, row1]
        refine ⟨j + 1, by omega, ⟨?_, ?_, by simp⟩, by omega⟩
        · rw [joinF, e4]
        · rw [joinF, e4']
      · obtain rfl : j = 8 := by omega
        simp [j1, j2]
end Go.Eng.M
