/- A part of the proof: contracts of functions, each proved once. -/
import Derived.Test.YtgbgmkacpjbilaaDoorT30
import Derived.Test.YtgbgmkacpjbilaaDoorT52
import Derived.Test.YtgbgmkacpjbilaaDoorT53
namespace Go.Eng.G
open Go Go.Eng Go.Proofs
set_option maxRecDepth 100000
set_option linter.unusedSimpArgs false
set_option linter.unusedSectionVars false
set_option linter.unusedVariables false
variable [GV]
def pRow (p : List Int) : List V := [.fs 1 (p.map (row1 .u8))]
def sp3 : Nat → Option Spec
  | 6 => some sAlive
  | 7 => some sRf
  | 8 => some sFeed
  | 9 => some sSame
  | 10 => some sWaits'
  | 11 => some sRest
  | _ => none
theorem sp3_ok : ∀ f s, sp3 f = some s → Meets PP f s := by
  intro f s h
  unfold sp3 at h
  split at h <;> cases h
  · exact mAlive
  · exact mRf
  · exact mFeed
  · exact mSame
  · exact mWaits'
  · exact mRest
theorem take_set_self {α : Type} (X : List α) (n : Nat) (v : α) : (X.set n v).take n = X.take n := by
  rw [List.take_set, List.set_eq_of_length_le (by simp; omega)]
theorem unR_rdr (ws : List Int) : unR (some (rdr ws)) = some ws := by simp [unR, rdr]
theorem isB_take {xs : List Int} (h : isBytes xs = true) (n : Nat) : isBytes (xs.take n) = true := by
  unfold isBytes at *
  rw [List.all_eq_true] at *
  exact fun x hx => h x (List.mem_of_mem_take hx)
def unP : Rows → Option (List (List Int))
  | [] => some []
  | [.fs 1 r] :: l => match unI .u8 r, unP l with | some p, some q => some (p :: q) | _, _ => none
  | _ => none
theorem unP_eq : ∀ {rows : Rows} {ps : List (List Int)}, unP rows = some ps → rows = ps.map pRow
  | [], ps, h => by simp only [unP, Option.some.injEq] at h; subst h; rfl
  | r :: rows, ps, h => by
    unfold unP at h
    split at h
    · rename_i h1; cases h1
    · rename_i r' l h1
      injection h1 with h1 h2
      subst h1; subst h2
      split at h
      · rename_i p q hp hq
        injection h with h
        subst h
        rw [unP_eq hq, unI_eq hp]; rfl
      · cases h
    · cases h
def sFeedsL : Spec where
  modes := []
  f := fun args H => match args with
    | [.fs 1 rows] => match unP rows with
      | some ps => if ps.length ≤ 2^20 ∧ (ps.all fun p => decide (p.length ≤ 2^20) && isBytes p) = true then some (.v (.bool true), H) else none
      | none => none
    | _ => none
theorem rf_suffix : ∀ (n : Nat) (b : List Int), b.length ≤ n → ∃ l, l ≤ b.length ∧ (rfG b).2 = b.drop l ∧ (rfG b).1.length ≤ l
  | 0, b, h => by
    have : b = [] := List.length_eq_zero_iff.1 (by omega)
    subst this
    exact ⟨0, by simp, rfl, by simp [rfG_nil]⟩
  | n + 1, b, h => by
    by_cases h0 : b.length = 0
    · have : b = [] := List.length_eq_zero_iff.1 h0
      subst this
      exact ⟨0, by simp, rfl, by simp [rfG_nil]⟩
    · cases hb : beginsG b with
      | true => rw [rfG_stop h0 hb]; exact ⟨0, by simp, rfl, by simp⟩
      | false =>
        have hr := decG_range (b := b) (by intro e; subst e; simp at h0)
        obtain ⟨l, h1, h2, h3⟩ := rf_suffix n (b.drop (decG b).2.toNat) (by simp; omega)
        rw [rfG_cons h0 hb]
        simp at h1
        refine ⟨(decG b).2.toNat + l, by omega, by rw [h2, List.drop_drop], by simp; omega⟩
set_option maxHeartbeats 16000000 in
theorem mFeedsL : Meets PP 3 sFeedsL := by
  refine meets (dr := drF tab3 PP sp3) (live := live3) fn3 rfl rfl rfl sp3_ok (fun base ak => drF_ok mixed sp3_ok _ base ak) ?_
  intro args H z H' h
  simp only [sFeedsL] at h
  split at h <;> try cases h
  rename_i rows
  split at h <;> try cases h
  rename_i ps hps
  split at h <;> cases h
  rename_i hc
  obtain ⟨hpl, hall⟩ := hc
  have hpl' : ps.length ≤ 1048576 := hpl
  have hrows := unP_eq hps
  subst hrows
  refine ⟨(by decide : 1 ≤ 73), ?_⟩
  generalize kdirs sFeedsL.modes _ = ak
  simp [sp3, sAlive, zrow]
  refine wpX_loop (fun q : Nat × List Int × Nat × Hp => q.1 ≤ ps.length ∧ q.2.1.length ≤ 3 ∧ isBytes q.2.1 = true ∧ q.2.2.2[H.length]? = some (rdr q.2.1) ∧ q.2.2.2[q.2.2.1]? = some (some (1, q.2.1.map (row1 .u8))) ∧ H.length ≠ q.2.2.1 ∧ q.2.2.2.take H.length = H)
    (fun q => ⟨[(17, .fs 1 (ps.map pRow)), (18, .v (.int .i64 ps.length)), (19, .v (.int .i64 q.1)), (3, .ptr H.length [] 0 0), (4, .ref q.2.2.1 [] 1 0 q.2.1.length)], q.2.2.2⟩) (fun q => ps.length - q.1) (0, [], H.length + 1, H ++ [rdr [], some (1, [])]) ⟨by omega, by simp, rfl, by simp, by simp, by simp, by simp⟩ (by simp [rdr]) ?_
  rintro ⟨i, ws, L, X⟩ ⟨hi, hw3, hwb, hXA, hXL, hne, hT⟩
  simp only at hi hw3 hwb hXA hXL hne hT
  obtain ⟨hA1, hA2⟩ := get_of hXA
  obtain ⟨hL1, hL2⟩ := get_of hXL
  have hle : H.length ≤ X.length := by omega
  simp
  refine IteP.dec (fun hlt => ?_) (fun hlt => ?_)
  · obtain ⟨p, hp⟩ : ∃ p, ps[i] = p := ⟨_, rfl⟩
    have hpm := List.all_eq_true.1 hall p (by rw [← hp]; exact List.getElem_mem hlt)
    simp only [Bool.and_eq_true, decide_eq_true_eq] at hpm
    obtain ⟨hp1, hp2⟩ := hpm
    have hp1' : p.length ≤ 1048576 := hp1
    have hb1 : ws.length ≤ 140737488355328 := by omega
    have hb2 : ws.length + p.length ≤ 140737488355328 := by omega
    have hb3 : ws.length + p.length ≤ 1099511627776 := by omega
    have hb4 : p.length ≤ 549755813888 := by omega
    have hall2 : isBytes (ws ++ p) = true := by rw [isBytes_append, hwb, hp2]; rfl
    have hX1 : ∀ (ys : Hp), slcI .u8 (X ++ some (1, ws.map (row1 .u8) ++ p.map (row1 .u8)) :: ys) (.ref X.length [] 1 0 (ws.length + p.length)) = some (ws ++ p) := fun ys => by
      rw [← List.map_append, slcI_mk (all := ws ++ p) (by simp) (by simp), List.drop_zero, List.take_of_length_le (by simp)]
    have hwt : List.take ws.length (List.map (row1 .u8) ws) = List.map (row1 .u8) ws := List.take_of_length_le (by simp)
    have n1 : ∀ k, ¬ X.length + k = L := by intro k; omega
    have n2 : ∀ k, ¬ L = X.length + k := by intro k; omega
    have n3 : ∀ k, ¬ X.length + k = H.length := by intro k; omega
    have n4 : ∀ k, ¬ H.length = X.length + k := by intro k; omega
    have n5 : ¬ X.length = L := n1 0
    have n6 : ¬ L = X.length := n2 0
    have n7 : ¬ X.length = H.length := n3 0
    have n8 : ¬ H.length = X.length := n4 0
    have n9 : ¬ L = H.length := fun e => hne e.symm
    have m1 : ∀ k, H.length ≤ X.length + k := by intro k; omega
    simp [hwt, n1, n2, n3, n4, n5, n6, n7, n8, n9, m1, hne, hle, hlt, hp, pRow, hA1, hA2, hL1, hL2, hb1, hb2, sp3, sRf, hX1, hb3]
    have hfeed := feed_rf _ (ws ++ p) (Nat.le_refl _)
    have hr3 := rf_rest _ (ws ++ p) (Nat.le_refl _)
    obtain ⟨l, hl1, hl2, hl3⟩ := rf_suffix _ (ws ++ p) (Nat.le_refl _)
    have hrb : isBytes (rfG (ws ++ p)).2 = true := by rw [hl2]; exact isBytes_drop hall2 l
    generalize hq : rfG (ws ++ p) = q at *
    obtain ⟨o, r⟩ := q
    simp only at hr3 hl2 hl3 hrb
    have hol : o.length ≤ 35184372088832 := by simp at hl1; omega
    have hrl : r.length = ws.length + p.length - l := by rw [hl2]; simp
    have hl1' : l ≤ ws.length + p.length := by simpa using hl1
    by_cases hr0 : r = []
    · simp [hr0, hX1, hwt, n1, n2, n3, n4, n5, n6, n7, n8, n9, m1, hne, hle, hlt, pRow, hA1, hA2, hL1, hL2, sp3, sFeed, unR_rdr, hb4, hw3, hwb, hp2, slcI_fs, hfeed, sSame, slcI_root, unI_take, hol, sWaits', Nat.add_assoc]
      refine ⟨i + 1, [], X.length + 4, _, ⟨by omega, by simp, rfl, ?_, ?_, n4 4, ?_⟩, ⟨rfl, ?_, rfl, rfl⟩, by omega⟩
      · rw [List.getElem?_append_left (by simpa using hA1)]; simp [hA1]
      · simp
      · rw [List.take_append_of_le_length (by simpa using hle), take_set_self]; exact hT
      · rw [w64 (by omega) (by omega)]; simp
    · have hrl0 : ¬ r.length = 0 := fun e => hr0 (List.length_eq_zero_iff.1 e)
      have hoff : ws.length + p.length - r.length = l := by
        have : r.length ≤ ws.length + p.length := by omega
        omega
      have hmap : ws.map (row1 .u8) ++ p.map (row1 .u8) = (ws ++ p).map (row1 .u8) := by simp
      have hsl : List.take r.length (List.drop l (ws.map (row1 .u8) ++ p.map (row1 .u8))) = r.map (row1 .u8) := by
        rw [hmap, ← List.map_drop, ← hl2, List.take_of_length_le (by simp)]
      have hrb5 : r.length ≤ 140737488355328 := by omega
      simp [subS, hoff, hsl, hrb5, hr0, hX1, hwt, n1, n2, n3, n4, n5, n6, n7, n8, n9, m1, hne, hle, hlt, pRow, hA1, hA2, hL1, hL2, sp3, sFeed, unR_rdr, hb4, hw3, hwb, hp2, slcI_fs, hfeed, sSame, slcI_root, unI_take, hol, sWaits', Nat.add_assoc]
      refine ⟨i + 1, r, X.length + 3, _, ⟨by omega, hr3, hrb, ?_, ?_, n4 3, ?_⟩, ⟨rfl, ?_, rfl, rfl⟩, by omega⟩
      · rw [List.getElem?_append_left (by simpa using hA1)]; simp [hA1]
      · simp
      · rw [List.take_append_of_le_length (by simpa using hle), take_set_self]; exact hT
      · rw [w64 (by omega) (by omega)]; simp
  · have n7 : ¬ X.length = H.length := by omega
    have n8 : ¬ H.length = X.length := by omega
    have n9 : ¬ L = H.length := fun e => hne e.symm
    have n5 : ¬ X.length = L := by omega
    have n6 : ¬ L = X.length := by omega
    simp [n5, n6, n7, n8, n9, hne, hle, hlt, hA1, hA2, hL1, hL2, sp3, sRest, unR_rdr, hw3, sWaits']
    have hTT : (X.set H.length (rdr []) ++ [some (1, List.replicate ws.length (row1 .i32 65533)), some (1, [])]).take H.length = H := by
      rw [List.take_append_of_le_length (by simpa using hle), take_set_self]; exact hT
    refine wpX_loop (fun k : Nat => k ≤ ws.length) (fun k => ⟨[(64, .ref X.length [] 1 0 ws.length), (65, .v (.int .i64 ws.length)), (66, .v (.int .i64 k))], X.set H.length (rdr []) ++ [some (1, List.replicate ws.length (row1 .i32 65533)), some (1, [])]⟩) (fun k => ws.length - k) 0 (by simp) (by simp) ?_
    rintro k hk
    simp
    refine IteP.dec (fun hkl => ?_) (fun hkl => ?_)
    · simp [hkl, row1]
      refine ⟨k + 1, by omega, ?_, by omega⟩
      rw [w64 (by omega) (by omega)]; simp
    · simp [hTT]
      omega
end Go.Eng.G
