/- A part of the proof: contracts of functions, each proved once. -/
import Derived.Test.YtkbmagloekociaaM16
namespace Go.Eng.M
open Go Go.Eng Go.Proofs
set_option maxRecDepth 100000
set_option linter.unusedSimpArgs false
set_option linter.unusedSectionVars false
set_option linter.unusedVariables false
variable [Globs]
def storeF (mem : List Int) (a : Nat) (v : Int) : Nat → List Int
  | 0 => mem
  | k + 1 => (storeF mem a v k).set (a + k) (IntKind.u8.wrap (shrI .i64 v (8 * (k : Int))))
def loadF (mem : List Int) (a : Nat) : Nat → Int
  | 0 => 0
  | k + 1 => orI .u64 (loadF mem a k) (shlI .u64 (IntKind.u64.wrap (mem.getD (a + k) 0)) (8 * (k : Int)))
theorem storeF_len (mem : List Int) (a : Nat) (v : Int) : ∀ k, (storeF mem a v k).length = mem.length
  | 0 => rfl
  | k + 1 => by simp [storeF, storeF_len mem a v k]
def touchN (op : Int) : Nat := if op = 22 ∨ op = 23 then 8 else 1
/-- What touches the memory; none within: a trap. -/
def touchM (op : Int) (vs mem : List Int) : Option (Option (List Int × List Int)) :=
  match vs with
  | [] => none
  | a :: r =>
    if memOk mem.length a (touchN op) = false then some none
    else if op = 21 ∨ op = 23 then (match r with | [] => none | v :: _ => some (some (storeF mem a.toNat v (touchN op), [])))
    else some (some (mem, [IntKind.i64.wrap (loadF mem a.toNat (touchN op))]))
def sTouch : Spec where
  modes := [1]
  f := fun args H => match args with
    | [.ptr id [] 0 0, .v (.int .i64 op), .ref vid [] 1 0 k] => match mc H id, rootI .i64 H vid with
      | some m, some vs => match lastF m.rows with
        | some (R, fa, fb, c, st) => match unI .u8 m.mem with
          | some mem => match touchM op vs mem with
            | some res => if vid ≠ id ∧ k = vs.length ∧ R.length < 2^20 ∧ st.length < 2^20 ∧ mem.length ≤ 2^20 ∧ 20 ≤ op ∧ op ≤ 23 then
                some (.tup [], H.set id (some (9, [(match res with | none => { m with trap := .v (.int .i64 2) } | some (mem', out) => { m with mem := mem'.map (row1 .u8), rows := R ++ [frC fa fb c (st ++ out.map (row1 .i64))] }).cells]))) else none
            | none => none
          | none => none
        | none => none
      | _, _ => none
    | _ => none
theorem wrap8 {k : Nat} (h : k < 8) : IntKind.i64.wrap (8 * (k : Int)) = 8 * (k : Int) := w64 (by omega) (by omega)
theorem not_neg8 {k : Nat} : ¬ (8 * (k : Int)) < 0 := by omega
noncomputable def sp58 : Nat → Option Spec
  | 15 => some (sMemory)
  | 37 => some (sTop)
  | 38 => some (sPush)
  | _ => none
theorem sp58_ok : ∀ f s, sp58 f = some s → Meets PP f s := by
  intro f s h
  unfold sp58 at h
  split at h
  · injection h with h; subst h; exact mMemory
  · injection h with h; subst h; exact mTop
  · injection h with h; subst h; exact mPush
  · cases h
set_option maxHeartbeats 40000000 in
theorem mTouch : Meets PP 58 (sTouch) := by
  refine meets (dr := drF tab58 PP sp58) (live := live58) fn58 rfl rfl rfl sp58_ok (fun base ak => drF_ok mixed sp58_ok _ base ak) ?_
  intro args H z H' h
  simp only [sTouch] at h
  repeat (split at h <;> try cases h)
  rename_i id op vid k _ _ m vs h1 hv _ R fa fb c st h2 _ mem hmem _ res hp h3
  refine ⟨(by decide : 3 ≤ 89), ?_⟩
  obtain ⟨hne, rfl, h3, h4, h5, o1, o2⟩ := h3
  obtain ⟨c0, c1, c2, mem0, rows, asks, call, args, trap⟩ := m
  have hmem := unI_eq hmem
  simp only at hmem
  subst hmem
  have h2 := lastF_eq h2
  simp only at h2
  subst h2
  have hmc := h1
  obtain ⟨hlt, h1, h1'⟩ := mc_eq h1
  obtain ⟨v1, vlt, v1'⟩ := rootI_eq hv
  have hr0 : R.length + 1 ≤ 1048576 := by have : R.length < 1048576 := h3; omega
  have hst : st.length ≤ 1048576 := by have : st.length < 1048576 := h4; omega
  have hml : mem.length ≤ 1048576 := h5
  have hml' : mem.length ≤ 1099511627776 := by omega
  have hne' : ¬ id = vid := fun e => hne e.symm
  have hl : ∀ X Y : Rows, lastF (R ++ [[fa, fb, .own 1 X, .own 1 Y]]) = some (R, fa, fb, X, Y) := fun X Y => lastF_concat ..
  have hA := mc_app hmc
  have hne3 : ∀ j, ¬ id = H.length + j := by omega
  have hne4 : ∀ j, ¬ H.length + j = id := by omega
  have hne5 : ∀ j, ¬ vid = H.length + j := by omega
  have hne6 : ∀ j, ¬ H.length + j = vid := by omega
  have hop : op = 20 ∨ op = 22 ∨ op = 21 ∨ op = 23 := by omega
  cases vs with
  | nil => simp [touchM] at hp
  | cons a r =>
  have e0 : (0 : Int) < (r.length : Int) + 1 := by omega
  rcases hop with rfl | rfl | rfl | rfl
  · have hN : touchN 20 = 1 := by decide
    simp only [touchM, hN] at hp
    cases hk : memOk mem.length a ((1 : Nat) : Int) with
    | false =>
      have hk' : memOk mem.length a 1 = false := hk
      rw [if_pos hk] at hp
      injection hp with hp
      subst hp
      simp [sTouch, sp58, sMemory, hmc, hA, v1, v1', vlt, e0, hml', hk', row1, hlt, h1', Mc.cells, hne3, hne4]
    | true =>
      have hk' : memOk mem.length a 1 = true := hk
      rw [if_neg (by rw [hk]; decide), if_neg (by decide)] at hp
      injection hp with hp
      subst hp
      simp only [memOk, Bool.and_eq_true, decide_eq_true_eq] at hk
      obtain ⟨⟨⟨k1, k2⟩, k3⟩, k4⟩ := hk
      obtain ⟨a', rfl⟩ : ∃ a' : Nat, a = (a' : Int) := ⟨a.toNat, by omega⟩
      have ew2 : IntKind.i64.wrap ((a' : Int) + 1) = (a' : Int) + 1 := w64 (by omega) (by omega)
      have e5 : (0 : Int) ≤ (a' : Int) + 1 := by omega
      have e6 : ((a' : Int) + 1).toNat = a' + 1 := by omega
      have e7 : a' + 1 ≤ mem.length := by omega
      have e8 : a' ≤ a' + 1 := by omega
      simp [sTouch, sp58, sMemory, hmc, hA, v1, v1', vlt, e0, hml', hk', row1, hlt, h1', Mc.cells, hne3, hne4]
      refine DrP.intro (by decide) ?_
      simp [sTouch, sp58, sMemory, hmc, hA, v1, v1', vlt, e0, hml', hk', row1, hlt, h1', Mc.cells, hne3, hne4, ew2, e5, e6, e7]
      refine wpX_loopG (fun k : Nat => k ≤ 1) (fun k => ⟨[(0, .ptr id [] 0 0), (11, .v (.int .u64 (loadF mem a' k))), (69, .ref id [(0, 3)] 1 a' 1), (70, .v (.int .i64 1)), (71, .v (.int .i64 k))], H⟩) (fun k => 1 - k) 0 (Nat.zero_le _) ?_ ?_
      · simp [hlt, loadF]
      · rintro j hj
        simp
        refine IteP.dec (fun h0 => ?_) (fun h0 => ?_)
        · have hj8 : j < 1 := by omega
          have hwj : IntKind.i64.wrap ((j : Int) + 1) = (j : Int) + 1 := w64 (by omega) (by omega)
          have hw8 := wrap8 (k := j) (by omega)
          have hn8 := not_neg8 (k := j)
          have hjl : a' + j < mem.length := by omega
          have hgd : mem.getD (a' + j) 0 = mem[a' + j] := getD_lt _ _ hjl
          have hjI : (j : Int) < 1 := by omega
          simp [hlt, h1', Mc.cells, hj8, hjl, hwj, hw8, hn8, hjI, row1]
          refine ⟨j + 1, by omega, ⟨?_, by simp⟩, by omega⟩
          rw [loadF, hgd]
        · obtain rfl : j = 1 := by omega
          simp [sTouch, sp58, sTop, sPush, hmc, hA, hlt, hl, hr0, hst, Mc.cells, frC, row1]

  · have hN : touchN 22 = 8 := by decide
    simp only [touchM, hN] at hp
    cases hk : memOk mem.length a ((8 : Nat) : Int) with
    | false =>
      have hk' : memOk mem.length a 8 = false := hk
      rw [if_pos hk] at hp
      injection hp with hp
      subst hp
      simp [sTouch, sp58, sMemory, hmc, hA, v1, v1', vlt, e0, hml', hk', row1, hlt, h1', Mc.cells, hne3, hne4]
    | true =>
      have hk' : memOk mem.length a 8 = true := hk
      rw [if_neg (by rw [hk]; decide), if_neg (by decide)] at hp
      injection hp with hp
      subst hp
      simp only [memOk, Bool.and_eq_true, decide_eq_true_eq] at hk
      obtain ⟨⟨⟨k1, k2⟩, k3⟩, k4⟩ := hk
      obtain ⟨a', rfl⟩ : ∃ a' : Nat, a = (a' : Int) := ⟨a.toNat, by omega⟩
      have ew2 : IntKind.i64.wrap ((a' : Int) + 8) = (a' : Int) + 8 := w64 (by omega) (by omega)
      have e5 : (0 : Int) ≤ (a' : Int) + 8 := by omega
      have e6 : ((a' : Int) + 8).toNat = a' + 8 := by omega
      have e7 : a' + 8 ≤ mem.length := by omega
      have e8 : a' ≤ a' + 8 := by omega
      simp [sTouch, sp58, sMemory, hmc, hA, v1, v1', vlt, e0, hml', hk', row1, hlt, h1', Mc.cells, hne3, hne4]
      refine DrP.intro (by decide) ?_
      simp [sTouch, sp58, sMemory, hmc, hA, v1, v1', vlt, e0, hml', hk', row1, hlt, h1', Mc.cells, hne3, hne4, ew2, e5, e6, e7]
      refine wpX_loopG (fun k : Nat => k ≤ 8) (fun k => ⟨[(0, .ptr id [] 0 0), (11, .v (.int .u64 (loadF mem a' k))), (69, .ref id [(0, 3)] 1 a' 8), (70, .v (.int .i64 8)), (71, .v (.int .i64 k))], H⟩) (fun k => 8 - k) 0 (Nat.zero_le _) ?_ ?_
      · simp [hlt, loadF]
      · rintro j hj
        simp
        refine IteP.dec (fun h0 => ?_) (fun h0 => ?_)
        · have hj8 : j < 8 := by omega
          have hwj : IntKind.i64.wrap ((j : Int) + 1) = (j : Int) + 1 := w64 (by omega) (by omega)
          have hw8 := wrap8 (k := j) (by omega)
          have hn8 := not_neg8 (k := j)
          have hjl : a' + j < mem.length := by omega
          have hgd : mem.getD (a' + j) 0 = mem[a' + j] := getD_lt _ _ hjl
          have hjI : (j : Int) < 8 := by omega
          simp [hlt, h1', Mc.cells, hj8, hjl, hwj, hw8, hn8, hjI, row1]
          refine ⟨j + 1, by omega, ⟨?_, by simp⟩, by omega⟩
          rw [loadF, hgd]
        · obtain rfl : j = 8 := by omega
          simp [sTouch, sp58, sTop, sPush, hmc, hA, hlt, hl, hr0, hst, Mc.cells, frC, row1]

  · have hN : touchN 21 = 1 := by decide
    simp only [touchM, hN] at hp
    cases hk : memOk mem.length a ((1 : Nat) : Int) with
    | false =>
      have hk' : memOk mem.length a 1 = false := hk
      rw [if_pos hk] at hp
      injection hp with hp
      subst hp
      simp [sTouch, sp58, sMemory, hmc, hA, v1, v1', vlt, e0, hml', hk', row1, hlt, h1', Mc.cells, hne3, hne4]
    | true =>
      have hk' : memOk mem.length a 1 = true := hk
      rw [if_neg (by rw [hk]; decide), if_pos (by decide)] at hp
      cases r with
      | nil => cases hp
      | cons v r =>
      injection hp with hp
      subst hp
      have e00 : (0 : Int) < (r.length : Int) + 1 + 1 := by omega
      have e01 : (1 : Int) < (r.length : Int) + 1 + 1 := by omega
      simp only [memOk, Bool.and_eq_true, decide_eq_true_eq] at hk
      obtain ⟨⟨⟨k1, k2⟩, k3⟩, k4⟩ := hk
      obtain ⟨a', rfl⟩ : ∃ a' : Nat, a = (a' : Int) := ⟨a.toNat, by omega⟩
      have ew2 : IntKind.i64.wrap ((a' : Int) + 1) = (a' : Int) + 1 := w64 (by omega) (by omega)
      have e5 : (0 : Int) ≤ (a' : Int) + 1 := by omega
      have e6 : ((a' : Int) + 1).toNat = a' + 1 := by omega
      have e7 : a' + 1 ≤ mem.length := by omega
      have e8 : a' ≤ a' + 1 := by omega
      simp [e00, e01, sTouch, sp58, sMemory, hmc, hA, v1, v1', vlt, e0, hml', hk', row1, hlt, h1', Mc.cells, hne3, hne4]
      refine DrP.intro (by decide) ?_
      simp [e00, e01, sTouch, sp58, sMemory, hmc, hA, v1, v1', vlt, e0, hml', hk', row1, hlt, h1', Mc.cells, hne3, hne4, ew2, e5, e6, e7]
      have hO : H.set id (some (9, [[c0, c1, c2, .own 1 (mem.map (row1 .u8)), .own 4 (R ++ [[fa, fb, .own 1 c, .own 1 st]]), asks, call, .own 1 args, trap]])) = H := set_same h1
      refine wpX_loopG (fun k : Nat => k ≤ 1) (fun k => ⟨[(2, .ref vid [] 1 0 (r.length + 1 + 1)), (9, .ref id [(0, 3)] 1 a' 1), (54, .v (.int .i64 1)), (55, .v (.int .i64 k))], H.set id (some (9, [[c0, c1, c2, .own 1 ((storeF mem a' v k).map (row1 .u8)), .own 4 (R ++ [[fa, fb, .own 1 c, .own 1 st]]), asks, call, .own 1 args, trap]]))⟩) (fun k => 1 - k) 0 (Nat.zero_le _) ?_ ?_
      · simp [hlt, storeF, hO, vlt]
      · rintro j hj
        simp
        refine IteP.dec (fun h0 => ?_) (fun h0 => ?_)
        · have hj8 : j < 1 := by omega
          have hwj : IntKind.i64.wrap ((j : Int) + 1) = (j : Int) + 1 := w64 (by omega) (by omega)
          have hw8 := wrap8 (k := j) (by omega)
          have hn8 := not_neg8 (k := j)
          have hsl := storeF_len mem a' v j
          have hjl : a' + j < mem.length := by omega
          have hjI : (j : Int) < 1 := by omega
          simp [e00, e01, hlt, vlt, h1', Mc.cells, hj8, hjl, hsl, hwj, hw8, hn8, hjI, row1, hne, hne', v1, v1', storeF]
          exact ⟨j + 1, by omega, ⟨by simp [storeF, row1], by simp⟩, by omega⟩
        · obtain rfl : j = 1 := by omega
          simp [e00, e01, sTouch, hlt, Mc.cells, frC]

  · have hN : touchN 23 = 8 := by decide
    simp only [touchM, hN] at hp
    cases hk : memOk mem.length a ((8 : Nat) : Int) with
    | false =>
      have hk' : memOk mem.length a 8 = false := hk
      rw [if_pos hk] at hp
      injection hp with hp
      subst hp
      simp [sTouch, sp58, sMemory, hmc, hA, v1, v1', vlt, e0, hml', hk', row1, hlt, h1', Mc.cells, hne3, hne4]
    | true =>
      have hk' : memOk mem.length a 8 = true := hk
      rw [if_neg (by rw [hk]; decide), if_pos (by decide)] at hp
      cases r with
      | nil => cases hp
      | cons v r =>
      injection hp with hp
      subst hp
      have e00 : (0 : Int) < (r.length : Int) + 1 + 1 := by omega
      have e01 : (1 : Int) < (r.length : Int) + 1 + 1 := by omega
      simp only [memOk, Bool.and_eq_true, decide_eq_true_eq] at hk
      obtain ⟨⟨⟨k1, k2⟩, k3⟩, k4⟩ := hk
      obtain ⟨a', rfl⟩ : ∃ a' : Nat, a = (a' : Int) := ⟨a.toNat, by omega⟩
      have ew2 : IntKind.i64.wrap ((a' : Int) + 8) = (a' : Int) + 8 := w64 (by omega) (by omega)
      have e5 : (0 : Int) ≤ (a' : Int) + 8 := by omega
      have e6 : ((a' : Int) + 8).toNat = a' + 8 := by omega
      have e7 : a' + 8 ≤ mem.length := by omega
      have e8 : a' ≤ a' + 8 := by omega
      simp [e00, e01, sTouch, sp58, sMemory, hmc, hA, v1, v1', vlt, e0, hml', hk', row1, hlt, h1', Mc.cells, hne3, hne4]
      refine DrP.intro (by decide) ?_
      simp [e00, e01, sTouch, sp58, sMemory, hmc, hA, v1, v1', vlt, e0, hml', hk', row1, hlt, h1', Mc.cells, hne3, hne4, ew2, e5, e6, e7]
      have hO : H.set id (some (9, [[c0, c1, c2, .own 1 (mem.map (row1 .u8)), .own 4 (R ++ [[fa, fb, .own 1 c, .own 1 st]]), asks, call, .own 1 args, trap]])) = H := set_same h1
      refine wpX_loopG (fun k : Nat => k ≤ 8) (fun k => ⟨[(2, .ref vid [] 1 0 (r.length + 1 + 1)), (9, .ref id [(0, 3)] 1 a' 8), (54, .v (.int .i64 8)), (55, .v (.int .i64 k))], H.set id (some (9, [[c0, c1, c2, .own 1 ((storeF mem a' v k).map (row1 .u8)), .own 4 (R ++ [[fa, fb, .own 1 c, .own 1 st]]), asks, call, .own 1 args, trap]]))⟩) (fun k => 8 - k) 0 (Nat.zero_le _) ?_ ?_
      · simp [hlt, storeF, hO, vlt]
      · rintro j hj
        simp
        refine IteP.dec (fun h0 => ?_) (fun h0 => ?_)
        · have hj8 : j < 8 := by omega
          have hwj : IntKind.i64.wrap ((j : Int) + 1) = (j : Int) + 1 := w64 (by omega) (by omega)
          have hw8 := wrap8 (k := j) (by omega)
          have hn8 := not_neg8 (k := j)
          have hsl := storeF_len mem a' v j
          have hjl : a' + j < mem.length := by omega
          have hjI : (j : Int) < 8 := by omega
          simp [e00, e01, hlt, vlt, h1', Mc.cells, hj8, hjl, hsl, hwj, hw8, hn8, hjI, row1, hne, hne', v1, v1', storeF]
          exact ⟨j + 1, by omega, ⟨by simp [storeF, row1], by simp⟩, by omega⟩
        · obtain rfl : j = 8 := by omega
          simp [e00, e01, sTouch, hlt, Mc.cells, frC]

end Go.Eng.M
