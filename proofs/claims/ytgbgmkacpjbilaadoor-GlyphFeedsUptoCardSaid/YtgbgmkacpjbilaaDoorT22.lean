/- A part of the proof: contracts of functions, each proved once. -/
import Derived.Test.YtgbgmkacpjbilaaDoorT21
namespace Go.Eng.G
open Go Go.Eng Go.Proofs
set_option maxRecDepth 100000
set_option linter.unusedSimpArgs false
set_option linter.unusedSectionVars false
variable [GV]
def sp23 : Nat → Option Spec
  | 31 => some (sDecode 128)
  | _ => none
theorem sp23_ok : ∀ f s, sp23 f = some s → Meets PP f s := by
  intro f s h
  unfold sp23 at h
  split at h <;> cases h
  exact mSlow
set_option maxHeartbeats 8000000 in
theorem mDecode : Meets PP 23 (sDecode 0) := by
  refine meets (dr := drF tab23 PP sp23) (live := live23) fn23 rfl rfl rfl sp23_ok (fun base ak => drF_ok mixed sp23_ok _ base ak) ?_
  intro args H z H' h
  simp only [sDecode] at h
  split at h <;> try cases h
  rename_i x
  split at h <;> try cases h
  rename_i xs hx
  split at h <;> cases h
  rename_i hh
  obtain ⟨hB, hlo⟩ := hh
  refine ⟨(by decide : 1 ≤ 22), ?_⟩
  generalize kdirs (sDecode 0).modes _ = ak
  simp [slcI_all hx]
  refine wpX_loop (fun _ : Unit => True) (fun _ => ⟨[(0, x), (6, x), (7, .v (.int .i64 xs.length)), (8, .v (.int .i64 0))], H⟩) (fun _ => 0) () trivial (by simp) ?_
  rintro - -
  simp [slcI_all hx]
  refine IteP.dec (fun h0 => ?_) (fun h0 => ?_)
  · have hpos : 0 < xs.length := by omega
    have g0 : xs[0]? = some xs[0] := List.getElem?_eq_getElem hpos
    have hb := isBytes_get hB hpos
    simp [slcI_all hx, hpos]
    refine IteP.dec (fun h1 => ?_) (fun h1 => ?_)
    · simp [decG, g0, decC, wholeC, h1]
    · simp [slcI_all hx, sp23, sDecode, hx, hB, g0, show (128 : Int) ≤ xs[0] by omega]
  · have e : xs = [] := List.length_eq_zero_iff.1 (by omega)
    subst e
    simp [slcI_all hx, sp23, sDecode, hx, hB]
def fullC (b : List Int) (c : Int) : Bool :=
  if c < 194 ∨ 244 < c then true
  else if c ≤ 223 then decide (2 ≤ b.length)
  else if c ≤ 239 then decide (3 ≤ b.length) || (decide (1 < b.length) && !tailG b 1 (if c = 224 then 160 else 128) (if c = 237 then 159 else 191))
  else decide (4 ≤ b.length) || (decide (1 < b.length) && !tailG b 1 (if c = 240 then 144 else 128) (if c = 244 then 143 else 191)) || (decide (2 < b.length) && !tailG b 2 128 191)
def fullG (b : List Int) : Bool := match b[0]? with | none => false | some c => fullC b c
def sFull : Spec where
  modes := []
  f := fun args H => match args with
    | [x] => match slcI .u8 H x with
      | some xs => if isBytes xs = true then some (.v (.bool (fullG xs)), H) else none
      | _ => none
    | _ => none
theorem firstT_0 {c : Nat} (h1 : c < 128) : Lib.firstT c = 240 := by unfold Lib.firstT; repeat' split <;> try omega
set_option maxHeartbeats 8000000 in
theorem mFull : Meets PP 22 sFull := by
  refine meets (dr := drF tab22 PP noSp) (live := live22) fn22 rfl rfl rfl noSp_ok (fun base ak => drF_ok mixed noSp_ok _ base ak) ?_
  intro args H z H' h
  simp only [sFull] at h
  split at h <;> try cases h
  rename_i x
  split at h <;> try cases h
  rename_i xs hx
  split at h <;> cases h
  rename_i hB
  refine ⟨(by decide : 1 ≤ 56), ?_⟩
  generalize kdirs sFull.modes _ = ak
  have G0 := GV.v0
  have G1 := GV.v1
  simp [slcI_all hx]
  refine IteP.dec (fun h0 => ?_) (fun h0 => ?_)
  · subst h0
    simp [fullG]
  · have hpos : 0 < xs.length := List.length_pos_iff.2 h0
    have g0 : xs[0]? = some xs[0] := List.getElem?_eq_getElem hpos
    have hw : fullG xs = fullC xs xs[0] := by unfold fullG; rw [g0]
    have hb := isBytes_get hB hpos
    simp [slcI_all hx, hpos, hw]
    generalize hcc : xs[0] = c at *
    obtain ⟨c, rfl⟩ : ∃ n : Nat, c = n := ⟨c.toNat, by omega⟩
    have hc : c < 256 := by omega
    have hcz : (c : Int) < 256 := by omega
    have hc2 : c ≤ 255 := by omega
    simp [G0, hcz, hc2, firstRow_get hc]
    by_cases k0 : c < 128
    · have ef := firstT_0 (c := c) k0
      have d2 : ((c : Int) < 194 ∨ 244 < (c : Int)) := by omega
      have lz : (1 : Int) ≤ xs.length := by omega
      simp [ef, slcI_all hx, hpos, hcc, bit1, bit2, bit3, fullC, d2, lz]
    by_cases k1 : c < 194
    · have ef := firstT_A (c := c) (by omega) k1
      have d2 : ((c : Int) < 194 ∨ 244 < (c : Int)) := by omega
      have lz : (1 : Int) ≤ xs.length := by omega
      simp [ef, slcI_all hx, hpos, hcc, bit1, bit2, bit3, fullC, d2, lz]
    by_cases k2 : c < 224
    · have ef := firstT_B (c := c) (by omega) k2
      have q0 : ¬ ((c : Int) < 194) := by omega
      have q1 : ¬ (244 < (c : Int)) := by omega
      have q2 : (c : Int) ≤ 223 := by omega
      simp [ef, slcI_all hx, slcI_gall hx, hpos, hcc, bit1, bit2, bit3, G1, acc0, acc1, acc2, acc3, acc4, q0, q1, q2]
      refine IteP.dec (fun h2 => ?_) (fun h2 => ?_)
      · have lz : 2 ≤ xs.length := by omega
        simp [fullC, q0, q1, q2, lz]
      · have lz : ¬ 2 ≤ xs.length := by omega
        have lz2 : xs.length < 2 := by omega
        have le : xs.length = 1 := by omega
        simp [ef, slcI_all hx, slcI_gall hx, hpos, hcc, bit1, bit2, bit3, G1, acc0, acc1, acc2, acc3, acc4, q0, q1, q2, le]
        refine DrP.intro (by decide) ?_
        simp [ef, slcI_all hx, slcI_gall hx, hpos, hcc, bit1, bit2, bit3, G1, acc0, acc1, acc2, acc3, acc4, q0, q1, q2, le, fullC, q0, q1, q2]
    by_cases k3 : c = 224
    · have ef := show Lib.firstT c = 19 by subst k3; rfl
      have q0 : ¬ ((c : Int) < 194) := by omega
      have q1 : ¬ (244 < (c : Int)) := by omega
      have q2 : ¬ (c : Int) ≤ 223 := by omega
      have q3 : (c : Int) ≤ 239 := by omega
      have q4 : (c : Int) = 224 := by omega
      have q5 : ¬ (c : Int) = 237 := by omega
      simp [ef, slcI_all hx, slcI_gall hx, hpos, hcc, bit1, bit2, bit3, G1, acc0, acc1, acc2, acc3, acc4, q0, q1, q2, q3, q4, q5]
      refine IteP.dec (fun h2 => ?_) (fun h2 => ?_)
      · have lz : 3 ≤ xs.length := by omega
        simp [fullC, q0, q1, q2, q3, q4, q5, lz]
      · have lz : ¬ 3 ≤ xs.length := by omega
        have lz2 : xs.length < 3 := by omega
        by_cases l1 : 1 < xs.length
        · have T1 := fun lo hi => tailG_get (lo := lo) (hi := hi) l1
          have l1z : (1 : Int) < xs.length := by omega
          simp [ef, slcI_all hx, slcI_gall hx, hpos, hcc, bit1, bit2, bit3, G1, acc0, acc1, acc2, acc3, acc4, q0, q1, q2, q3, q4, q5]
          refine DrP.intro (by decide) ?_
          by_cases f3 : xs[1] < (160 : Int)
          · have f3' : ¬ (160 : Int) ≤ xs[1] := by omega
            simp [ef, slcI_all hx, slcI_gall hx, hpos, hcc, bit1, bit2, bit3, G1, acc0, acc1, acc2, acc3, acc4, q0, q1, q2, q3, q4, q5, l1, l1z, f3, f3', fullC, q0, q1, q2, q3, q4, q5, T1]
          · have f3' : (160 : Int) ≤ xs[1] := by omega
            by_cases f4 : (191 : Int) < xs[1]
            · have f4' : ¬ xs[1] ≤ (191 : Int) := by omega
              simp [ef, slcI_all hx, slcI_gall hx, hpos, hcc, bit1, bit2, bit3, G1, acc0, acc1, acc2, acc3, acc4, q0, q1, q2, q3, q4, q5, l1, l1z, f3, f3', f4, f4', fullC, q0, q1, q2, q3, q4, q5, T1]
            · have f4' : xs[1] ≤ (191 : Int) := by omega
              simp [ef, slcI_all hx, slcI_gall hx, hpos, hcc, bit1, bit2, bit3, G1, acc0, acc1, acc2, acc3, acc4, q0, q1, q2, q3, q4, q5, l1, l1z, f3, f3', f4, f4', fullC, q0, q1, q2, q3, q4, q5, T1]
              have l2 : ¬ 2 < xs.length := by omega
              have l2z : ¬ (2 : Int) < xs.length := by omega
              simp [ef, slcI_all hx, slcI_gall hx, hpos, hcc, bit1, bit2, bit3, G1, acc0, acc1, acc2, acc3, acc4, q0, q1, q2, q3, q4, q5, l1, l1z, l2, l2z, f3, f3', f4, f4', fullC, q0, q1, q2, q3, q4, q5, T1, lz]
        · have le : xs.length = 1 := by omega
          simp [ef, slcI_all hx, slcI_gall hx, hpos, hcc, bit1, bit2, bit3, G1, acc0, acc1, acc2, acc3, acc4, q0, q1, q2, q3, q4, q5]
          refine DrP.intro (by decide) ?_
          simp [ef, slcI_all hx, slcI_gall hx, hpos, hcc, bit1, bit2, bit3, G1, acc0, acc1, acc2, acc3, acc4, q0, q1, q2, q3, q4, q5, le, fullC, q0, q1, q2, q3, q4, q5]
    by_cases k4 : c = 237
    · have ef := show Lib.firstT c = 35 by subst k4; rfl
      have q0 : ¬ ((c : Int) < 194) := by omega
      have q1 : ¬ (244 < (c : Int)) := by omega
      have q2 : ¬ (c : Int) ≤ 223 := by omega
      have q3 : (c : Int) ≤ 239 := by omega
      have q4 : ¬ (c : Int) = 224 := by omega
      have q5 : (c : Int) = 237 := by omega
      simp [ef, slcI_all hx, slcI_gall hx, hpos, hcc, bit1, bit2, bit3, G1, acc0, acc1, acc2, acc3, acc4, q0, q1, q2, q3, q4, q5]
      refine IteP.dec (fun h2 => ?_) (fun h2 => ?_)
      · have lz : 3 ≤ xs.length := by omega
        simp [fullC, q0, q1, q2, q3, q4, q5, lz]
      · have lz : ¬ 3 ≤ xs.length := by omega
        have lz2 : xs.length < 3 := by omega
        by_cases l1 : 1 < xs.length
        · have T1 := fun lo hi => tailG_get (lo := lo) (hi := hi) l1
          have l1z : (1 : Int) < xs.length := by omega
          simp [ef, slcI_all hx, slcI_gall hx, hpos, hcc, bit1, bit2, bit3, G1, acc0, acc1, acc2, acc3, acc4, q0, q1, q2, q3, q4, q5]
          refine DrP.intro (by decide) ?_
          by_cases f3 : xs[1] < (128 : Int)
          · have f3' : ¬ (128 : Int) ≤ xs[1] := by omega
            simp [ef, slcI_all hx, slcI_gall hx, hpos, hcc, bit1, bit2, bit3, G1, acc0, acc1, acc2, acc3, acc4, q0, q1, q2, q3, q4, q5, l1, l1z, f3, f3', fullC, q0, q1, q2, q3, q4, q5, T1]
          · have f3' : (128 : Int) ≤ xs[1] := by omega
            by_cases f4 : (159 : Int) < xs[1]
            · have f4' : ¬ xs[1] ≤ (159 : Int) := by omega
              simp [ef, slcI_all hx, slcI_gall hx, hpos, hcc, bit1, bit2, bit3, G1, acc0, acc1, acc2, acc3, acc4, q0, q1, q2, q3, q4, q5, l1, l1z, f3, f3', f4, f4', fullC, q0, q1, q2, q3, q4, q5, T1]
            · have f4' : xs[1] ≤ (159 : Int) := by omega
              simp [ef, slcI_all hx, slcI_gall hx, hpos, hcc, bit1, bit2, bit3, G1, acc0, acc1, acc2, acc3, acc4, q0, q1, q2, q3, q4, q5, l1, l1z, f3, f3', f4, f4', fullC, q0, q1, q2, q3, q4, q5, T1]
              have l2 : ¬ 2 < xs.length := by omega
              have l2z : ¬ (2 : Int) < xs.length := by omega
              simp [ef, slcI_all hx, slcI_gall hx, hpos, hcc, bit1, bit2, bit3, G1, acc0, acc1, acc2, acc3, acc4, q0, q1, q2, q3, q4, q5, l1, l1z, l2, l2z, f3, f3', f4, f4', fullC, q0, q1, q2, q3, q4, q5, T1, lz]
        · have le : xs.length = 1 := by omega
          simp [ef, slcI_all hx, slcI_gall hx, hpos, hcc, bit1, bit2, bit3, G1, acc0, acc1, acc2, acc3, acc4, q0, q1, q2, q3, q4, q5]
          refine DrP.intro (by decide) ?_
          simp [ef, slcI_all hx, slcI_gall hx, hpos, hcc, bit1, bit2, bit3, G1, acc0, acc1, acc2, acc3, acc4, q0, q1, q2, q3, q4, q5, le, fullC, q0, q1, q2, q3, q4, q5]
    by_cases k5 : c < 240
    · have ef := firstT_D (c := c) (by omega) k5 k4
      have q0 : ¬ ((c : Int) < 194) := by omega
      have q1 : ¬ (244 < (c : Int)) := by omega
      have q2 : ¬ (c : Int) ≤ 223 := by omega
      have q3 : (c : Int) ≤ 239 := by omega
      have q4 : ¬ (c : Int) = 224 := by omega
      have q5 : ¬ (c : Int) = 237 := by omega
      simp [ef, slcI_all hx, slcI_gall hx, hpos, hcc, bit1, bit2, bit3, G1, acc0, acc1, acc2, acc3, acc4, q0, q1, q2, q3, q4, q5]
      refine IteP.dec (fun h2 => ?_) (fun h2 => ?_)
      · have lz : 3 ≤ xs.length := by omega
        simp [fullC, q0, q1, q2, q3, q4, q5, lz]
      · have lz : ¬ 3 ≤ xs.length := by omega
        have lz2 : xs.length < 3 := by omega
        by_cases l1 : 1 < xs.length
        · have T1 := fun lo hi => tailG_get (lo := lo) (hi := hi) l1
          have l1z : (1 : Int) < xs.length := by omega
          simp [ef, slcI_all hx, slcI_gall hx, hpos, hcc, bit1, bit2, bit3, G1, acc0, acc1, acc2, acc3, acc4, q0, q1, q2, q3, q4, q5]
          refine DrP.intro (by decide) ?_
          by_cases f3 : xs[1] < (128 : Int)
          · have f3' : ¬ (128 : Int) ≤ xs[1] := by omega
            simp [ef, slcI_all hx, slcI_gall hx, hpos, hcc, bit1, bit2, bit3, G1, acc0, acc1, acc2, acc3, acc4, q0, q1, q2, q3, q4, q5, l1, l1z, f3, f3', fullC, q0, q1, q2, q3, q4, q5, T1]
          · have f3' : (128 : Int) ≤ xs[1] := by omega
            by_cases f4 : (191 : Int) < xs[1]
            · have f4' : ¬ xs[1] ≤ (191 : Int) := by omega
              simp [ef, slcI_all hx, slcI_gall hx, hpos, hcc, bit1, bit2, bit3, G1, acc0, acc1, acc2, acc3, acc4, q0, q1, q2, q3, q4, q5, l1, l1z, f3, f3', f4, f4', fullC, q0, q1, q2, q3, q4, q5, T1]
            · have f4' : xs[1] ≤ (191 : Int) := by omega
              simp [ef, slcI_all hx, slcI_gall hx, hpos, hcc, bit1, bit2, bit3, G1, acc0, acc1, acc2, acc3, acc4, q0, q1, q2, q3, q4, q5, l1, l1z, f3, f3', f4, f4', fullC, q0, q1, q2, q3, q4, q5, T1]
              have l2 : ¬ 2 < xs.length := by omega
              have l2z : ¬ (2 : Int) < xs.length := by omega
              simp [ef, slcI_all hx, slcI_gall hx, hpos, hcc, bit1, bit2, bit3, G1, acc0, acc1, acc2, acc3, acc4, q0, q1, q2, q3, q4, q5, l1, l1z, l2, l2z, f3, f3', f4, f4', fullC, q0, q1, q2, q3, q4, q5, T1, lz]
        · have le : xs.length = 1 := by omega
          simp [ef, slcI_all hx, slcI_gall hx, hpos, hcc, bit1, bit2, bit3, G1, acc0, acc1, acc2, acc3, acc4, q0, q1, q2, q3, q4, q5]
          refine DrP.intro (by decide) ?_
          simp [ef, slcI_all hx, slcI_gall hx, hpos, hcc, bit1, bit2, bit3, G1, acc0, acc1, acc2, acc3, acc4, q0, q1, q2, q3, q4, q5, le, fullC, q0, q1, q2, q3, q4, q5]
    by_cases k6 : c = 240
    · have ef := show Lib.firstT c = 52 by subst k6; rfl
      have q0 : ¬ ((c : Int) < 194) := by omega
      have q1 : ¬ (244 < (c : Int)) := by omega
      have q2 : ¬ (c : Int) ≤ 223 := by omega
      have q3 : ¬ (c : Int) ≤ 239 := by omega
      have q4 : (c : Int) = 240 := by omega
      have q5 : ¬ (c : Int) = 244 := by omega
      simp [ef, slcI_all hx, slcI_gall hx, hpos, hcc, bit1, bit2, bit3, G1, acc0, acc1, acc2, acc3, acc4, q0, q1, q2, q3, q4, q5]
      refine IteP.dec (fun h2 => ?_) (fun h2 => ?_)
      · have lz : 4 ≤ xs.length := by omega
        simp [fullC, q0, q1, q2, q3, q4, q5, lz]
      · have lz : ¬ 4 ≤ xs.length := by omega
        have lz2 : xs.length < 4 := by omega
        by_cases l1 : 1 < xs.length
        · have T1 := fun lo hi => tailG_get (lo := lo) (hi := hi) l1
          have l1z : (1 : Int) < xs.length := by omega
          simp [ef, slcI_all hx, slcI_gall hx, hpos, hcc, bit1, bit2, bit3, G1, acc0, acc1, acc2, acc3, acc4, q0, q1, q2, q3, q4, q5]
          refine DrP.intro (by decide) ?_
          by_cases f3 : xs[1] < (144 : Int)
          · have f3' : ¬ (144 : Int) ≤ xs[1] := by omega
            simp [ef, slcI_all hx, slcI_gall hx, hpos, hcc, bit1, bit2, bit3, G1, acc0, acc1, acc2, acc3, acc4, q0, q1, q2, q3, q4, q5, l1, l1z, f3, f3', fullC, q0, q1, q2, q3, q4, q5, T1]
          · have f3' : (144 : Int) ≤ xs[1] := by omega
            by_cases f4 : (191 : Int) < xs[1]
            · have f4' : ¬ xs[1] ≤ (191 : Int) := by omega
              simp [ef, slcI_all hx, slcI_gall hx, hpos, hcc, bit1, bit2, bit3, G1, acc0, acc1, acc2, acc3, acc4, q0, q1, q2, q3, q4, q5, l1, l1z, f3, f3', f4, f4', fullC, q0, q1, q2, q3, q4, q5, T1]
            · have f4' : xs[1] ≤ (191 : Int) := by omega
              simp [ef, slcI_all hx, slcI_gall hx, hpos, hcc, bit1, bit2, bit3, G1, acc0, acc1, acc2, acc3, acc4, q0, q1, q2, q3, q4, q5, l1, l1z, f3, f3', f4, f4', fullC, q0, q1, q2, q3, q4, q5, T1]
              by_cases l2 : 2 < xs.length
              · have T2 := fun lo hi => tailG_get (lo := lo) (hi := hi) l2
                have l2z : (2 : Int) < xs.length := by omega
                by_cases f5 : xs[2] < (128 : Int)
                · have f5' : ¬ (128 : Int) ≤ xs[2] := by omega
                  simp [ef, slcI_all hx, slcI_gall hx, hpos, hcc, bit1, bit2, bit3, G1, acc0, acc1, acc2, acc3, acc4, q0, q1, q2, q3, q4, q5, l1, l1z, l2, l2z, f3, f3', f4, f4', f5, f5', fullC, q0, q1, q2, q3, q4, q5, T1, T2, lz]
                · have f5' : (128 : Int) ≤ xs[2] := by omega
                  by_cases f6 : (191 : Int) < xs[2]
                  · have f6' : ¬ xs[2] ≤ (191 : Int) := by omega
                    simp [ef, slcI_all hx, slcI_gall hx, hpos, hcc, bit1, bit2, bit3, G1, acc0, acc1, acc2, acc3, acc4, q0, q1, q2, q3, q4, q5, l1, l1z, l2, l2z, f3, f3', f4, f4', f5, f5', f6, f6', fullC, q0, q1, q2, q3, q4, q5, T1, T2, lz]
                  · have f6' : xs[2] ≤ (191 : Int) := by omega
                    simp [ef, slcI_all hx, slcI_gall hx, hpos, hcc, bit1, bit2, bit3, G1, acc0, acc1, acc2, acc3, acc4, q0, q1, q2, q3, q4, q5, l1, l1z, l2, l2z, f3, f3', f4, f4', f5, f5', f6, f6', fullC, q0, q1, q2, q3, q4, q5, T1, T2, lz]
              · have l2z : ¬ (2 : Int) < xs.length := by omega
                simp [ef, slcI_all hx, slcI_gall hx, hpos, hcc, bit1, bit2, bit3, G1, acc0, acc1, acc2, acc3, acc4, q0, q1, q2, q3, q4, q5, l1, l1z, l2, l2z, f3, f3', f4, f4', fullC, q0, q1, q2, q3, q4, q5, T1, lz]
        · have le : xs.length = 1 := by omega
          simp [ef, slcI_all hx, slcI_gall hx, hpos, hcc, bit1, bit2, bit3, G1, acc0, acc1, acc2, acc3, acc4, q0, q1, q2, q3, q4, q5]
          refine DrP.intro (by decide) ?_
          simp [ef, slcI_all hx, slcI_gall hx, hpos, hcc, bit1, bit2, bit3, G1, acc0, acc1, acc2, acc3, acc4, q0, q1, q2, q3, q4, q5, le, fullC, q0, q1, q2, q3, q4, q5]
    by_cases k7 : c < 244
    · have ef := firstT_H (c := c) (by omega) k7
      have q0 : ¬ ((c : Int) < 194) := by omega
      have q1 : ¬ (244 < (c : Int)) := by omega
      have q2 : ¬ (c : Int) ≤ 223 := by omega
      have q3 : ¬ (c : Int) ≤ 239 := by omega
      have q4 : ¬ (c : Int) = 240 := by omega
      have q5 : ¬ (c : Int) = 244 := by omega
      simp [ef, slcI_all hx, slcI_gall hx, hpos, hcc, bit1, bit2, bit3, G1, acc0, acc1, acc2, acc3, acc4, q0, q1, q2, q3, q4, q5]
      refine IteP.dec (fun h2 => ?_) (fun h2 => ?_)
      · have lz : 4 ≤ xs.length := by omega
        simp [fullC, q0, q1, q2, q3, q4, q5, lz]
      · have lz : ¬ 4 ≤ xs.length := by omega
        have lz2 : xs.length < 4 := by omega
        by_cases l1 : 1 < xs.length
        · have T1 := fun lo hi => tailG_get (lo := lo) (hi := hi) l1
          have l1z : (1 : Int) < xs.length := by omega
          simp [ef, slcI_all hx, slcI_gall hx, hpos, hcc, bit1, bit2, bit3, G1, acc0, acc1, acc2, acc3, acc4, q0, q1, q2, q3, q4, q5]
          refine DrP.intro (by decide) ?_
          by_cases f3 : xs[1] < (128 : Int)
          · have f3' : ¬ (128 : Int) ≤ xs[1] := by omega
            simp [ef, slcI_all hx, slcI_gall hx, hpos, hcc, bit1, bit2, bit3, G1, acc0, acc1, acc2, acc3, acc4, q0, q1, q2, q3, q4, q5, l1, l1z, f3, f3', fullC, q0, q1, q2, q3, q4, q5, T1]
          · have f3' : (128 : Int) ≤ xs[1] := by omega
            by_cases f4 : (191 : Int) < xs[1]
            · have f4' : ¬ xs[1] ≤ (191 : Int) := by omega
              simp [ef, slcI_all hx, slcI_gall hx, hpos, hcc, bit1, bit2, bit3, G1, acc0, acc1, acc2, acc3, acc4, q0, q1, q2, q3, q4, q5, l1, l1z, f3, f3', f4, f4', fullC, q0, q1, q2, q3, q4, q5, T1]
            · have f4' : xs[1] ≤ (191 : Int) := by omega
              simp [ef, slcI_all hx, slcI_gall hx, hpos, hcc, bit1, bit2, bit3, G1, acc0, acc1, acc2, acc3, acc4, q0, q1, q2, q3, q4, q5, l1, l1z, f3, f3', f4, f4', fullC, q0, q1, q2, q3, q4, q5, T1]
              by_cases l2 : 2 < xs.length
              · have T2 := fun lo hi => tailG_get (lo := lo) (hi := hi) l2
                have l2z : (2 : Int) < xs.length := by omega
                by_cases f5 : xs[2] < (128 : Int)
                · have f5' : ¬ (128 : Int) ≤ xs[2] := by omega
                  simp [ef, slcI_all hx, slcI_gall hx, hpos, hcc, bit1, bit2, bit3, G1, acc0, acc1, acc2, acc3, acc4, q0, q1, q2, q3, q4, q5, l1, l1z, l2, l2z, f3, f3', f4, f4', f5, f5', fullC, q0, q1, q2, q3, q4, q5, T1, T2, lz]
                · have f5' : (128 : Int) ≤ xs[2] := by omega
                  by_cases f6 : (191 : Int) < xs[2]
                  · have f6' : ¬ xs[2] ≤ (191 : Int) := by omega
                    simp [ef, slcI_all hx, slcI_gall hx, hpos, hcc, bit1, bit2, bit3, G1, acc0, acc1, acc2, acc3, acc4, q0, q1, q2, q3, q4, q5, l1, l1z, l2, l2z, f3, f3', f4, f4', f5, f5', f6, f6', fullC, q0, q1, q2, q3, q4, q5, T1, T2, lz]
                  · have f6' : xs[2] ≤ (191 : Int) := by omega
                    simp [ef, slcI_all hx, slcI_gall hx, hpos, hcc, bit1, bit2, bit3, G1, acc0, acc1, acc2, acc3, acc4, q0, q1, q2, q3, q4, q5, l1, l1z, l2, l2z, f3, f3', f4, f4', f5, f5', f6, f6', fullC, q0, q1, q2, q3, q4, q5, T1, T2, lz]
              · have l2z : ¬ (2 : Int) < xs.length := by omega
                simp [ef, slcI_all hx, slcI_gall hx, hpos, hcc, bit1, bit2, bit3, G1, acc0, acc1, acc2, acc3, acc4, q0, q1, q2, q3, q4, q5, l1, l1z, l2, l2z, f3, f3', f4, f4', fullC, q0, q1, q2, q3, q4, q5, T1, lz]
        · have le : xs.length = 1 := by omega
          simp [ef, slcI_all hx, slcI_gall hx, hpos, hcc, bit1, bit2, bit3, G1, acc0, acc1, acc2, acc3, acc4, q0, q1, q2, q3, q4, q5]
          refine DrP.intro (by decide) ?_
          simp [ef, slcI_all hx, slcI_gall hx, hpos, hcc, bit1, bit2, bit3, G1, acc0, acc1, acc2, acc3, acc4, q0, q1, q2, q3, q4, q5, le, fullC, q0, q1, q2, q3, q4, q5]
    by_cases k8 : c = 244
    · have ef := show Lib.firstT c = 68 by subst k8; rfl
      have q0 : ¬ ((c : Int) < 194) := by omega
      have q1 : ¬ (244 < (c : Int)) := by omega
      have q2 : ¬ (c : Int) ≤ 223 := by omega
      have q3 : ¬ (c : Int) ≤ 239 := by omega
      have q4 : ¬ (c : Int) = 240 := by omega
      have q5 : (c : Int) = 244 := by omega
      simp [ef, slcI_all hx, slcI_gall hx, hpos, hcc, bit1, bit2, bit3, G1, acc0, acc1, acc2, acc3, acc4, q0, q1, q2, q3, q4, q5]
      refine IteP.dec (fun h2 => ?_) (fun h2 => ?_)
      · have lz : 4 ≤ xs.length := by omega
        simp [fullC, q0, q1, q2, q3, q4, q5, lz]
      · have lz : ¬ 4 ≤ xs.length := by omega
        have lz2 : xs.length < 4 := by omega
        by_cases l1 : 1 < xs.length
        · have T1 := fun lo hi => tailG_get (lo := lo) (hi := hi) l1
          have l1z : (1 : Int) < xs.length := by omega
          simp [ef, slcI_all hx, slcI_gall hx, hpos, hcc, bit1, bit2, bit3, G1, acc0, acc1, acc2, acc3, acc4, q0, q1, q2, q3, q4, q5]
          refine DrP.intro (by decide) ?_
          by_cases f3 : xs[1] < (128 : Int)
          · have f3' : ¬ (128 : Int) ≤ xs[1] := by omega
            simp [ef, slcI_all hx, slcI_gall hx, hpos, hcc, bit1, bit2, bit3, G1, acc0, acc1, acc2, acc3, acc4, q0, q1, q2, q3, q4, q5, l1, l1z, f3, f3', fullC, q0, q1, q2, q3, q4, q5, T1]
          · have f3' : (128 : Int) ≤ xs[1] := by omega
            by_cases f4 : (143 : Int) < xs[1]
            · have f4' : ¬ xs[1] ≤ (143 : Int) := by omega
              simp [ef, slcI_all hx, slcI_gall hx, hpos, hcc, bit1, bit2, bit3, G1, acc0, acc1, acc2, acc3, acc4, q0, q1, q2, q3, q4, q5, l1, l1z, f3, f3', f4, f4', fullC, q0, q1, q2, q3, q4, q5, T1]
            · have f4' : xs[1] ≤ (143 : Int) := by omega
              simp [ef, slcI_all hx, slcI_gall hx, hpos, hcc, bit1, bit2, bit3, G1, acc0, acc1, acc2, acc3, acc4, q0, q1, q2, q3, q4, q5, l1, l1z, f3, f3', f4, f4', fullC, q0, q1, q2, q3, q4, q5, T1]
              by_cases l2 : 2 < xs.length
              · have T2 := fun lo hi => tailG_get (lo := lo) (hi := hi) l2
                have l2z : (2 : Int) < xs.length := by omega
                by_cases f5 : xs[2] < (128 : Int)
                · have f5' : ¬ (128 : Int) ≤ xs[2] := by omega
                  simp [ef, slcI_all hx, slcI_gall hx, hpos, hcc, bit1, bit2, bit3, G1, acc0, acc1, acc2, acc3, acc4, q0, q1, q2, q3, q4, q5, l1, l1z, l2, l2z, f3, f3', f4, f4', f5, f5', fullC, q0, q1, q2, q3, q4, q5, T1, T2, lz]
                · have f5' : (128 : Int) ≤ xs[2] := by omega
                  by_cases f6 : (191 : Int) < xs[2]
                  · have f6' : ¬ xs[2] ≤ (191 : Int) := by omega
                    simp [ef, slcI_all hx, slcI_gall hx, hpos, hcc, bit1, bit2, bit3, G1, acc0, acc1, acc2, acc3, acc4, q0, q1, q2, q3, q4, q5, l1, l1z, l2, l2z, f3, f3', f4, f4', f5, f5', f6, f6', fullC, q0, q1, q2, q3, q4, q5, T1, T2, lz]
                  · have f6' : xs[2] ≤ (191 : Int) := by omega
                    simp [ef, slcI_all hx, slcI_gall hx, hpos, hcc, bit1, bit2, bit3, G1, acc0, acc1, acc2, acc3, acc4, q0, q1, q2, q3, q4, q5, l1, l1z, l2, l2z, f3, f3', f4, f4', f5, f5', f6, f6', fullC, q0, q1, q2, q3, q4, q5, T1, T2, lz]
              · have l2z : ¬ (2 : Int) < xs.length := by omega
                simp [ef, slcI_all hx, slcI_gall hx, hpos, hcc, bit1, bit2, bit3, G1, acc0, acc1, acc2, acc3, acc4, q0, q1, q2, q3, q4, q5, l1, l1z, l2, l2z, f3, f3', f4, f4', fullC, q0, q1, q2, q3, q4, q5, T1, lz]
        · have le : xs.length = 1 := by omega
          simp [ef, slcI_all hx, slcI_gall hx, hpos, hcc, bit1, bit2, bit3, G1, acc0, acc1, acc2, acc3, acc4, q0, q1, q2, q3, q4, q5]
          refine DrP.intro (by decide) ?_
          simp [ef, slcI_all hx, slcI_gall hx, hpos, hcc, bit1, bit2, bit3, G1, acc0, acc1, acc2, acc3, acc4, q0, q1, q2, q3, q4, q5, le, fullC, q0, q1, q2, q3, q4, q5]
    · have ef := firstT_J (c := c) (by omega)
      have d2 : ((c : Int) < 194 ∨ 244 < (c : Int)) := by omega
      have lz : (1 : Int) ≤ xs.length := by omega
      simp [ef, slcI_all hx, hpos, hcc, bit1, bit2, bit3, fullC, d2, lz]
end Go.Eng.G
