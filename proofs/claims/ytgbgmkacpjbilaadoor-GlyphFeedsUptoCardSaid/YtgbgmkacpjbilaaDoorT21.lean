/- A part of the proof: contracts of functions, each proved once. -/
import Derived.Test.YtgbgmkacpjbilaaDoorT20
import Derived.Lib.DecodeN
namespace Go.Eng.G
open Go Go.Eng Go.Proofs
set_option maxRecDepth 100000
set_option linter.unusedSimpArgs false
set_option linter.unusedSectionVars false
def firstRow : List V := (List.range 256).map fun c => .v (.int .u8 (Lib.firstT c))
def accRow : List V := (List.range 32).map fun i => .v (.int .u8 (if i % 2 = 0 then Lib.accLo (i / 2) else Lib.accHi (i / 2)))
class GV extends Globs where
  v0 : Globs.view 0 = some (256, [firstRow])
  v1 : Globs.view 1 = some (32, [accRow])
variable [GV]
theorem firstRow_get {c : Nat} (h : c < 256) : (firstRow.drop c).take 1 = [.v (.int .u8 (Lib.firstT c))] := by
  have : c < firstRow.length := by simp [firstRow, h]
  rw [List.drop_eq_getElem_cons this]
  simp [firstRow]
theorem accRow_get {i : Nat} (h : i < 16) : (accRow.drop (i * 2)).take 2 = [.v (.int .u8 (Lib.accLo i)), .v (.int .u8 (Lib.accHi i))] := by
  have h1 : i * 2 < accRow.length := by simp [accRow]; omega
  have h2 : i * 2 + 1 < accRow.length := by simp [accRow]; omega
  rw [List.drop_eq_getElem_cons h1, List.drop_eq_getElem_cons h2]
  simp [accRow]
  have e1 : (i * 2 + 1) % 2 = 1 := by omega
  have e2 : (i * 2 + 1) / 2 = i := by omega
  simp [e2]
def isBytes (xs : List Int) : Bool := xs.all fun x => decide (0 ≤ x) && decide (x ≤ 255)
theorem isBytes_get {xs : List Int} (h : isBytes xs = true) {i : Nat} (hi : i < xs.length) : 0 ≤ xs[i] ∧ xs[i] ≤ 255 := by
  have := List.all_eq_true.1 h xs[i] (List.getElem_mem hi)
  simpa using this
def decC (b : List Int) (c : Int) : Int × Int := if (wholeC b c).1 = 0 then (65533, 1) else ((wholeC b c).2, (wholeC b c).1)
def decG (b : List Int) : Int × Int := match b[0]? with | none => (65533, 0) | some c => decC b c
theorem tailG_ge {b : List Int} {i : Nat} {lo hi : Int} (h : b.length ≤ i) : tailG b i lo hi = false := by
  unfold tailG; rw [List.getElem?_eq_none h]
theorem tailG_get {b : List Int} {i : Nat} {lo hi : Int} (h : i < b.length) : tailG b i lo hi = (decide (lo ≤ b[i]) && decide (b[i] ≤ hi)) := by
  unfold tailG; rw [List.getElem?_eq_getElem h]
def sDecode (lo : Int) : Spec where
  modes := []
  f := fun args H => match args with
    | [x] => match slcI .u8 H x with
      | some xs => if isBytes xs = true ∧ (xs[0]?.getD 255) ≥ lo then some (.tup [.v (.int .i32 (decG xs).1), .v (.int .i64 (decG xs).2)], H) else none
      | _ => none
    | _ => none
theorem firstT_A {c : Nat} (h1 : 128 ≤ c) (h2 : c < 194) : Lib.firstT c = 241 := by unfold Lib.firstT; repeat' split <;> try omega
theorem firstT_B {c : Nat} (h1 : 194 ≤ c) (h2 : c < 224) : Lib.firstT c = 2 := by unfold Lib.firstT; repeat' split <;> try omega
theorem firstT_D {c : Nat} (h1 : 224 < c) (h2 : c < 240) (h3 : c ≠ 237) : Lib.firstT c = 3 := by unfold Lib.firstT; repeat' split <;> try omega
theorem firstT_H {c : Nat} (h1 : 240 < c) (h2 : c < 244) : Lib.firstT c = 4 := by unfold Lib.firstT; repeat' split <;> try omega
theorem firstT_J {c : Nat} (h1 : 244 < c) : Lib.firstT c = 241 := by unfold Lib.firstT; repeat' split <;> try omega
theorem u8c (a : Int) : IntKind.i32.wrap (Int.ofNat 0 + a) = IntKind.i32.wrap a := by simp
theorem bit1 : andI .u8 2 7 = 2 ∧ andI .u8 19 7 = 3 ∧ andI .u8 3 7 = 3 ∧ andI .u8 35 7 = 3 ∧ andI .u8 52 7 = 4 ∧ andI .u8 4 7 = 4 ∧ andI .u8 68 7 = 4 ∧ andI .u8 241 7 = 1 ∧ andI .u8 240 7 = 0 := by decide
theorem bit2 : shrI .u8 2 4 = 0 ∧ shrI .u8 19 4 = 1 ∧ shrI .u8 3 4 = 0 ∧ shrI .u8 35 4 = 2 ∧ shrI .u8 52 4 = 3 ∧ shrI .u8 4 4 = 0 ∧ shrI .u8 68 4 = 4 ∧ shrI .u8 241 4 = 15 ∧ shrI .u8 240 4 = 15 := by decide
theorem bit3 : IntKind.i64.wrap 2 = 2 ∧ IntKind.i64.wrap 3 = 3 ∧ IntKind.i64.wrap 4 = 4 ∧ IntKind.i64.wrap 1 = 1 ∧ IntKind.i64.wrap 0 = 0 := by decide
theorem bit4 : shrI .i32 (shlI .i32 (IntKind.i32.wrap 241) 31) 31 = -1 := by decide
theorem bit5 (a : Int) : orI .i32 (andNotI .i32 a (-1)) (andI .i32 65533 (-1)) = 65533 := by
  have : andNotI .i32 a (-1) = 0 := by
    unfold andNotI
    have : BitVec.ofInt IntKind.i32.bits (-1) = BitVec.allOnes _ := by decide
    rw [this]
    simp
    rfl
  rw [this]
  decide
theorem acc_get (i : Nat) (h : i < 16) : List.take 2 (List.drop (i * 2) accRow) = [.v (.int .u8 (Lib.accLo i)), .v (.int .u8 (Lib.accHi i))] := accRow_get h
theorem acc0 : List.take 2 accRow = [.v (.int .u8 128), .v (.int .u8 191)] := accRow_get (i := 0) (by omega)
theorem acc1 : List.take 2 (List.drop 2 accRow) = [.v (.int .u8 160), .v (.int .u8 191)] := accRow_get (i := 1) (by omega)
theorem acc2 : List.take 2 (List.drop 4 accRow) = [.v (.int .u8 128), .v (.int .u8 159)] := accRow_get (i := 2) (by omega)
theorem acc3 : List.take 2 (List.drop 6 accRow) = [.v (.int .u8 144), .v (.int .u8 191)] := accRow_get (i := 3) (by omega)
theorem acc4 : List.take 2 (List.drop 8 accRow) = [.v (.int .u8 128), .v (.int .u8 143)] := accRow_get (i := 4) (by omega)
theorem u8w {c : Int} (h0 : 0 ≤ c) (h1 : c ≤ 255) : IntKind.i32.wrap c = c := w32 (by omega) (by omega)
set_option maxHeartbeats 8000000 in
theorem mSlow : Meets PP 31 (sDecode 128) := by
  refine meets (dr := drF tab31 PP noSp) (live := live31) fn31 rfl rfl rfl noSp_ok (fun base ak => drF_ok mixed noSp_ok _ base ak) ?_
  intro args H z H' h
  simp only [sDecode] at h
  split at h <;> try cases h
  rename_i x
  split at h <;> try cases h
  rename_i xs hx
  split at h <;> cases h
  rename_i hh
  obtain ⟨hB, hlo⟩ := hh
  refine ⟨(by decide : 1 ≤ 122), ?_⟩
  generalize kdirs (sDecode 128).modes _ = ak
  have G0 := GV.v0
  have G1 := GV.v1
  simp [slcI_all hx]
  refine IteP.dec (fun h0 => ?_) (fun h0 => ?_)
  · have e : xs = [] := List.length_eq_zero_iff.1 (by omega)
    subst e
    simp [decG]
  · have hpos : 0 < xs.length := by omega
    have g0 : xs[0]? = some xs[0] := List.getElem?_eq_getElem hpos
    have hw : decG xs = decC xs xs[0] := by unfold decG; rw [g0]
    have hb := isBytes_get hB hpos
    rw [g0] at hlo
    simp only [Option.getD_some] at hlo
    simp [slcI_all hx, hpos, hw]
    generalize hcc : xs[0] = c at *
    obtain ⟨c, rfl⟩ : ∃ n : Nat, c = n := ⟨c.toNat, by omega⟩
    have hc : c < 256 := by omega
    have hcz : (c : Int) < 256 := by omega
    have hc2 : c ≤ 255 := by omega
    simp [G0, hcz, hc2, firstRow_get hc]
    by_cases k1 : c < 194
    · have ef := firstT_A (c := c) (by omega) k1
      have d1 : ¬ (c : Int) < 128 := by omega
      have d2 : ¬ 194 ≤ (c : Int) ∧ ¬ 224 ≤ (c : Int) ∧ ¬ 240 ≤ (c : Int) := by omega
      simp [ef, slcI_all hx, hpos, hcc, bit4, bit5, decC, wholeC, d1, d2]
    by_cases k2 : c < 224
    · have ef := firstT_B (c := c) (by omega) k2
      have d1 : ¬ (c : Int) < 128 := by omega
      have q0 : 194 ≤ (c : Int) := by omega
      have q1 : (c : Int) ≤ 223 := by omega
      have q2 : ¬ 224 ≤ (c : Int) := by omega
      have q3 : ¬ 240 ≤ (c : Int) := by omega
      simp [ef, slcI_all hx, slcI_gall hx, hpos, hcc, bit1, bit2, bit3, G1, acc0, acc1, acc2, acc3, acc4, q0, q1, q2, q3]
      refine IteP.dec (fun h2 => ?_) (fun h2 => ?_)
      · have t : tailG xs 1 128 191 = false := tailG_ge (by omega)
        have t' : ∀ lo hi, tailG xs 1 lo hi = false := fun lo hi => tailG_ge (by omega)
        simp [t', decC, wholeC, d1, q0, q1, q2, q3]
      · have l1 : 1 < xs.length := by omega
        have g1 : xs[1]? = some xs[1] := List.getElem?_eq_getElem l1
        have T1 := fun lo hi => tailG_get (lo := lo) (hi := hi) l1
        simp [l1, slcI_all hx, slcI_gall hx, hpos, hcc, bit1, bit2, bit3, G1, acc0, acc1, acc2, acc3, acc4, q0, q1, q2, q3]
        refine IteP.intro (fun h3 => ?_) (fun h3 => ?_)
        · have f3 : ¬ ((128 : Int) ≤ xs[1] ∧ xs[1] ≤ 191) := by simp at h3; omega
          simp [T1, f3, decC, wholeC, d1, q0, q1, q2, q3]
        · have f3 : (128 : Int) ≤ xs[1] ∧ xs[1] ≤ 191 := by simp at h3; omega
          simp [T1, l1, slcI_all hx, slcI_gall hx, hpos, hcc, bit1, bit2, bit3, G1, acc0, acc1, acc2, acc3, acc4, q0, q1, q2, q3]
          simp [f3, T1, g1, rune2, decC, wholeC, d1, q0, q1, q2, q3]
    by_cases k3 : c = 224
    · have ef := show Lib.firstT c = 19 by subst k3; rfl
      have d1 : ¬ (c : Int) < 128 := by omega
      have q0 : ¬ 240 ≤ (c : Int) := by omega
      have q1 : ¬ (c : Int) ≤ 223 := by omega
      have q2 : (c : Int) ≤ 239 := by omega
      have q3 : 224 ≤ (c : Int) := by omega
      have q4 : (c : Int) = 224 := by omega
      have q5 : ¬ (c : Int) = 237 := by omega
      simp [ef, slcI_all hx, slcI_gall hx, hpos, hcc, bit1, bit2, bit3, G1, acc0, acc1, acc2, acc3, acc4, q0, q1, q2, q3, q4, q5]
      refine IteP.dec (fun h2 => ?_) (fun h2 => ?_)
      · have t : tailG xs 2 128 191 = false := tailG_ge (by omega)
        have t' : ∀ lo hi, tailG xs 2 lo hi = false := fun lo hi => tailG_ge (by omega)
        simp [t', decC, wholeC, d1, q0, q1, q2, q3, q4, q5]
      · have l1 : 1 < xs.length := by omega
        have g1 : xs[1]? = some xs[1] := List.getElem?_eq_getElem l1
        have T1 := fun lo hi => tailG_get (lo := lo) (hi := hi) l1
        simp [l1, slcI_all hx, slcI_gall hx, hpos, hcc, bit1, bit2, bit3, G1, acc0, acc1, acc2, acc3, acc4, q0, q1, q2, q3, q4, q5]
        refine IteP.intro (fun h3 => ?_) (fun h3 => ?_)
        · have f3 : ¬ ((160 : Int) ≤ xs[1] ∧ xs[1] ≤ 191) := by simp at h3; omega
          simp [T1, f3, decC, wholeC, d1, q0, q1, q2, q3, q4, q5]
        · have f3 : (160 : Int) ≤ xs[1] ∧ xs[1] ≤ 191 := by simp at h3; omega
          simp [T1, l1, slcI_all hx, slcI_gall hx, hpos, hcc, bit1, bit2, bit3, G1, acc0, acc1, acc2, acc3, acc4, q0, q1, q2, q3, q4, q5]
          have l2 : 2 < xs.length := by omega
          have g2 : xs[2]? = some xs[2] := List.getElem?_eq_getElem l2
          have T2 := fun lo hi => tailG_get (lo := lo) (hi := hi) l2
          simp [l2, slcI_all hx, slcI_gall hx, hpos, hcc, bit1, bit2, bit3, G1, acc0, acc1, acc2, acc3, acc4, q0, q1, q2, q3, q4, q5]
          refine IteP.intro (fun h4 => ?_) (fun h4 => ?_)
          · have f4 : ¬ ((128 : Int) ≤ xs[2] ∧ xs[2] ≤ 191) := by simp at h4; omega
            simp [T1, T2, f3, f4, decC, wholeC, d1, q0, q1, q2, q3, q4, q5]
          · have f4 : (128 : Int) ≤ xs[2] ∧ xs[2] ≤ 191 := by simp at h4; omega
            simp [T1, T2, l1, l2, slcI_all hx, slcI_gall hx, hpos, hcc, bit1, bit2, bit3, G1, acc0, acc1, acc2, acc3, acc4, q0, q1, q2, q3, q4, q5]
            simp [f3, f4, T1, T2, g1, g2, rune3, decC, wholeC, d1, q0, q1, q2, q3, q4, q5]
    by_cases k4 : c = 237
    · have ef := show Lib.firstT c = 35 by subst k4; rfl
      have d1 : ¬ (c : Int) < 128 := by omega
      have q0 : ¬ 240 ≤ (c : Int) := by omega
      have q1 : ¬ (c : Int) ≤ 223 := by omega
      have q2 : (c : Int) ≤ 239 := by omega
      have q3 : 224 ≤ (c : Int) := by omega
      have q4 : ¬ (c : Int) = 224 := by omega
      have q5 : (c : Int) = 237 := by omega
      simp [ef, slcI_all hx, slcI_gall hx, hpos, hcc, bit1, bit2, bit3, G1, acc0, acc1, acc2, acc3, acc4, q0, q1, q2, q3, q4, q5]
      refine IteP.dec (fun h2 => ?_) (fun h2 => ?_)
      · have t : tailG xs 2 128 191 = false := tailG_ge (by omega)
        have t' : ∀ lo hi, tailG xs 2 lo hi = false := fun lo hi => tailG_ge (by omega)
        simp [t', decC, wholeC, d1, q0, q1, q2, q3, q4, q5]
      · have l1 : 1 < xs.length := by omega
        have g1 : xs[1]? = some xs[1] := List.getElem?_eq_getElem l1
        have T1 := fun lo hi => tailG_get (lo := lo) (hi := hi) l1
        simp [l1, slcI_all hx, slcI_gall hx, hpos, hcc, bit1, bit2, bit3, G1, acc0, acc1, acc2, acc3, acc4, q0, q1, q2, q3, q4, q5]
        refine IteP.intro (fun h3 => ?_) (fun h3 => ?_)
        · have f3 : ¬ ((128 : Int) ≤ xs[1] ∧ xs[1] ≤ 159) := by simp at h3; omega
          simp [T1, f3, decC, wholeC, d1, q0, q1, q2, q3, q4, q5]
        · have f3 : (128 : Int) ≤ xs[1] ∧ xs[1] ≤ 159 := by simp at h3; omega
          simp [T1, l1, slcI_all hx, slcI_gall hx, hpos, hcc, bit1, bit2, bit3, G1, acc0, acc1, acc2, acc3, acc4, q0, q1, q2, q3, q4, q5]
          have l2 : 2 < xs.length := by omega
          have g2 : xs[2]? = some xs[2] := List.getElem?_eq_getElem l2
          have T2 := fun lo hi => tailG_get (lo := lo) (hi := hi) l2
          simp [l2, slcI_all hx, slcI_gall hx, hpos, hcc, bit1, bit2, bit3, G1, acc0, acc1, acc2, acc3, acc4, q0, q1, q2, q3, q4, q5]
          refine IteP.intro (fun h4 => ?_) (fun h4 => ?_)
          · have f4 : ¬ ((128 : Int) ≤ xs[2] ∧ xs[2] ≤ 191) := by simp at h4; omega
            simp [T1, T2, f3, f4, decC, wholeC, d1, q0, q1, q2, q3, q4, q5]
          · have f4 : (128 : Int) ≤ xs[2] ∧ xs[2] ≤ 191 := by simp at h4; omega
            simp [T1, T2, l1, l2, slcI_all hx, slcI_gall hx, hpos, hcc, bit1, bit2, bit3, G1, acc0, acc1, acc2, acc3, acc4, q0, q1, q2, q3, q4, q5]
            simp [f3, f4, T1, T2, g1, g2, rune3, decC, wholeC, d1, q0, q1, q2, q3, q4, q5]
    by_cases k5 : c < 240
    · have ef := firstT_D (c := c) (by omega) k5 k4
      have d1 : ¬ (c : Int) < 128 := by omega
      have q0 : ¬ 240 ≤ (c : Int) := by omega
      have q1 : ¬ (c : Int) ≤ 223 := by omega
      have q2 : (c : Int) ≤ 239 := by omega
      have q3 : 224 ≤ (c : Int) := by omega
      have q4 : ¬ (c : Int) = 224 := by omega
      have q5 : ¬ (c : Int) = 237 := by omega
      simp [ef, slcI_all hx, slcI_gall hx, hpos, hcc, bit1, bit2, bit3, G1, acc0, acc1, acc2, acc3, acc4, q0, q1, q2, q3, q4, q5]
      refine IteP.dec (fun h2 => ?_) (fun h2 => ?_)
      · have t : tailG xs 2 128 191 = false := tailG_ge (by omega)
        have t' : ∀ lo hi, tailG xs 2 lo hi = false := fun lo hi => tailG_ge (by omega)
        simp [t', decC, wholeC, d1, q0, q1, q2, q3, q4, q5]
      · have l1 : 1 < xs.length := by omega
        have g1 : xs[1]? = some xs[1] := List.getElem?_eq_getElem l1
        have T1 := fun lo hi => tailG_get (lo := lo) (hi := hi) l1
        simp [l1, slcI_all hx, slcI_gall hx, hpos, hcc, bit1, bit2, bit3, G1, acc0, acc1, acc2, acc3, acc4, q0, q1, q2, q3, q4, q5]
        refine IteP.intro (fun h3 => ?_) (fun h3 => ?_)
        · have f3 : ¬ ((128 : Int) ≤ xs[1] ∧ xs[1] ≤ 191) := by simp at h3; omega
          simp [T1, f3, decC, wholeC, d1, q0, q1, q2, q3, q4, q5]
        · have f3 : (128 : Int) ≤ xs[1] ∧ xs[1] ≤ 191 := by simp at h3; omega
          simp [T1, l1, slcI_all hx, slcI_gall hx, hpos, hcc, bit1, bit2, bit3, G1, acc0, acc1, acc2, acc3, acc4, q0, q1, q2, q3, q4, q5]
          have l2 : 2 < xs.length := by omega
          have g2 : xs[2]? = some xs[2] := List.getElem?_eq_getElem l2
          have T2 := fun lo hi => tailG_get (lo := lo) (hi := hi) l2
          simp [l2, slcI_all hx, slcI_gall hx, hpos, hcc, bit1, bit2, bit3, G1, acc0, acc1, acc2, acc3, acc4, q0, q1, q2, q3, q4, q5]
          refine IteP.intro (fun h4 => ?_) (fun h4 => ?_)
          · have f4 : ¬ ((128 : Int) ≤ xs[2] ∧ xs[2] ≤ 191) := by simp at h4; omega
            simp [T1, T2, f3, f4, decC, wholeC, d1, q0, q1, q2, q3, q4, q5]
          · have f4 : (128 : Int) ≤ xs[2] ∧ xs[2] ≤ 191 := by simp at h4; omega
            simp [T1, T2, l1, l2, slcI_all hx, slcI_gall hx, hpos, hcc, bit1, bit2, bit3, G1, acc0, acc1, acc2, acc3, acc4, q0, q1, q2, q3, q4, q5]
            simp [f3, f4, T1, T2, g1, g2, rune3, decC, wholeC, d1, q0, q1, q2, q3, q4, q5]
    by_cases k6 : c = 240
    · have ef := show Lib.firstT c = 52 by subst k6; rfl
      have d1 : ¬ (c : Int) < 128 := by omega
      have q0 : ¬ (c : Int) ≤ 223 := by omega
      have q1 : ¬ (c : Int) ≤ 239 := by omega
      have q2 : (c : Int) ≤ 244 := by omega
      have q3 : 240 ≤ (c : Int) := by omega
      have q4 : (c : Int) = 240 := by omega
      have q5 : ¬ (c : Int) = 244 := by omega
      simp [ef, slcI_all hx, slcI_gall hx, hpos, hcc, bit1, bit2, bit3, G1, acc0, acc1, acc2, acc3, acc4, q0, q1, q2, q3, q4, q5]
      refine IteP.dec (fun h2 => ?_) (fun h2 => ?_)
      · have t : tailG xs 3 128 191 = false := tailG_ge (by omega)
        have t' : ∀ lo hi, tailG xs 3 lo hi = false := fun lo hi => tailG_ge (by omega)
        simp [t', decC, wholeC, d1, q0, q1, q2, q3, q4, q5]
      · have l1 : 1 < xs.length := by omega
        have g1 : xs[1]? = some xs[1] := List.getElem?_eq_getElem l1
        have T1 := fun lo hi => tailG_get (lo := lo) (hi := hi) l1
        simp [l1, slcI_all hx, slcI_gall hx, hpos, hcc, bit1, bit2, bit3, G1, acc0, acc1, acc2, acc3, acc4, q0, q1, q2, q3, q4, q5]
        refine IteP.intro (fun h3 => ?_) (fun h3 => ?_)
        · have f3 : ¬ ((144 : Int) ≤ xs[1] ∧ xs[1] ≤ 191) := by simp at h3; omega
          simp [T1, f3, decC, wholeC, d1, q0, q1, q2, q3, q4, q5]
        · have f3 : (144 : Int) ≤ xs[1] ∧ xs[1] ≤ 191 := by simp at h3; omega
          simp [T1, l1, slcI_all hx, slcI_gall hx, hpos, hcc, bit1, bit2, bit3, G1, acc0, acc1, acc2, acc3, acc4, q0, q1, q2, q3, q4, q5]
          have l2 : 2 < xs.length := by omega
          have g2 : xs[2]? = some xs[2] := List.getElem?_eq_getElem l2
          have T2 := fun lo hi => tailG_get (lo := lo) (hi := hi) l2
          simp [l2, slcI_all hx, slcI_gall hx, hpos, hcc, bit1, bit2, bit3, G1, acc0, acc1, acc2, acc3, acc4, q0, q1, q2, q3, q4, q5]
          refine IteP.intro (fun h4 => ?_) (fun h4 => ?_)
          · have f4 : ¬ ((128 : Int) ≤ xs[2] ∧ xs[2] ≤ 191) := by simp at h4; omega
            simp [T1, T2, f3, f4, decC, wholeC, d1, q0, q1, q2, q3, q4, q5]
          · have f4 : (128 : Int) ≤ xs[2] ∧ xs[2] ≤ 191 := by simp at h4; omega
            simp [T1, T2, l1, l2, slcI_all hx, slcI_gall hx, hpos, hcc, bit1, bit2, bit3, G1, acc0, acc1, acc2, acc3, acc4, q0, q1, q2, q3, q4, q5]
            have l3 : 3 < xs.length := by omega
            have g3 : xs[3]? = some xs[3] := List.getElem?_eq_getElem l3
            have T3 := fun lo hi => tailG_get (lo := lo) (hi := hi) l3
            simp [l3, slcI_all hx, slcI_gall hx, hpos, hcc, bit1, bit2, bit3, G1, acc0, acc1, acc2, acc3, acc4, q0, q1, q2, q3, q4, q5]
            refine IteP.intro (fun h5 => ?_) (fun h5 => ?_)
            · have f5 : ¬ ((128 : Int) ≤ xs[3] ∧ xs[3] ≤ 191) := by simp at h5; omega
              simp [T1, T2, T3, f3, f4, f5, decC, wholeC, d1, q0, q1, q2, q3, q4, q5]
            · have f5 : (128 : Int) ≤ xs[3] ∧ xs[3] ≤ 191 := by simp at h5; omega
              simp [f3, f4, f5, T1, T2, T3, g1, g2, g3, rune4, decC, wholeC, d1, q0, q1, q2, q3, q4, q5]
    by_cases k7 : c < 244
    · have ef := firstT_H (c := c) (by omega) k7
      have d1 : ¬ (c : Int) < 128 := by omega
      have q0 : ¬ (c : Int) ≤ 223 := by omega
      have q1 : ¬ (c : Int) ≤ 239 := by omega
      have q2 : (c : Int) ≤ 244 := by omega
      have q3 : 240 ≤ (c : Int) := by omega
      have q4 : ¬ (c : Int) = 240 := by omega
      have q5 : ¬ (c : Int) = 244 := by omega
      simp [ef, slcI_all hx, slcI_gall hx, hpos, hcc, bit1, bit2, bit3, G1, acc0, acc1, acc2, acc3, acc4, q0, q1, q2, q3, q4, q5]
      refine IteP.dec (fun h2 => ?_) (fun h2 => ?_)
      · have t : tailG xs 3 128 191 = false := tailG_ge (by omega)
        have t' : ∀ lo hi, tailG xs 3 lo hi = false := fun lo hi => tailG_ge (by omega)
        simp [t', decC, wholeC, d1, q0, q1, q2, q3, q4, q5]
      · have l1 : 1 < xs.length := by omega
        have g1 : xs[1]? = some xs[1] := List.getElem?_eq_getElem l1
        have T1 := fun lo hi => tailG_get (lo := lo) (hi := hi) l1
        simp [l1, slcI_all hx, slcI_gall hx, hpos, hcc, bit1, bit2, bit3, G1, acc0, acc1, acc2, acc3, acc4, q0, q1, q2, q3, q4, q5]
        refine IteP.intro (fun h3 => ?_) (fun h3 => ?_)
        · have f3 : ¬ ((128 : Int) ≤ xs[1] ∧ xs[1] ≤ 191) := by simp at h3; omega
          simp [T1, f3, decC, wholeC, d1, q0, q1, q2, q3, q4, q5]
        · have f3 : (128 : Int) ≤ xs[1] ∧ xs[1] ≤ 191 := by simp at h3; omega
          simp [T1, l1, slcI_all hx, slcI_gall hx, hpos, hcc, bit1, bit2, bit3, G1, acc0, acc1, acc2, acc3, acc4, q0, q1, q2, q3, q4, q5]
          have l2 : 2 < xs.length := by omega
          have g2 : xs[2]? = some xs[2] := List.getElem?_eq_getElem l2
          have T2 := fun lo hi => tailG_get (lo := lo) (hi := hi) l2
          simp [l2, slcI_all hx, slcI_gall hx, hpos, hcc, bit1, bit2, bit3, G1, acc0, acc1, acc2, acc3, acc4, q0, q1, q2, q3, q4, q5]
          refine IteP.intro (fun h4 => ?_) (fun h4 => ?_)
          · have f4 : ¬ ((128 : Int) ≤ xs[2] ∧ xs[2] ≤ 191) := by simp at h4; omega
            simp [T1, T2, f3, f4, decC, wholeC, d1, q0, q1, q2, q3, q4, q5]
          · have f4 : (128 : Int) ≤ xs[2] ∧ xs[2] ≤ 191 := by simp at h4; omega
            simp [T1, T2, l1, l2, slcI_all hx, slcI_gall hx, hpos, hcc, bit1, bit2, bit3, G1, acc0, acc1, acc2, acc3, acc4, q0, q1, q2, q3, q4, q5]
            have l3 : 3 < xs.length := by omega
            have g3 : xs[3]? = some xs[3] := List.getElem?_eq_getElem l3
            have T3 := fun lo hi => tailG_get (lo := lo) (hi := hi) l3
            simp [l3, slcI_all hx, slcI_gall hx, hpos, hcc, bit1, bit2, bit3, G1, acc0, acc1, acc2, acc3, acc4, q0, q1, q2, q3, q4, q5]
            refine IteP.intro (fun h5 => ?_) (fun h5 => ?_)
            · have f5 : ¬ ((128 : Int) ≤ xs[3] ∧ xs[3] ≤ 191) := by simp at h5; omega
              simp [T1, T2, T3, f3, f4, f5, decC, wholeC, d1, q0, q1, q2, q3, q4, q5]
            · have f5 : (128 : Int) ≤ xs[3] ∧ xs[3] ≤ 191 := by simp at h5; omega
              simp [f3, f4, f5, T1, T2, T3, g1, g2, g3, rune4, decC, wholeC, d1, q0, q1, q2, q3, q4, q5]
    by_cases k8 : c = 244
    · have ef := show Lib.firstT c = 68 by subst k8; rfl
      have d1 : ¬ (c : Int) < 128 := by omega
      have q0 : ¬ (c : Int) ≤ 223 := by omega
      have q1 : ¬ (c : Int) ≤ 239 := by omega
      have q2 : (c : Int) ≤ 244 := by omega
      have q3 : 240 ≤ (c : Int) := by omega
      have q4 : ¬ (c : Int) = 240 := by omega
      have q5 : (c : Int) = 244 := by omega
      simp [ef, slcI_all hx, slcI_gall hx, hpos, hcc, bit1, bit2, bit3, G1, acc0, acc1, acc2, acc3, acc4, q0, q1, q2, q3, q4, q5]
      refine IteP.dec (fun h2 => ?_) (fun h2 => ?_)
      · have t : tailG xs 3 128 191 = false := tailG_ge (by omega)
        have t' : ∀ lo hi, tailG xs 3 lo hi = false := fun lo hi => tailG_ge (by omega)
        simp [t', decC, wholeC, d1, q0, q1, q2, q3, q4, q5]
      · have l1 : 1 < xs.length := by omega
        have g1 : xs[1]? = some xs[1] := List.getElem?_eq_getElem l1
        have T1 := fun lo hi => tailG_get (lo := lo) (hi := hi) l1
        simp [l1, slcI_all hx, slcI_gall hx, hpos, hcc, bit1, bit2, bit3, G1, acc0, acc1, acc2, acc3, acc4, q0, q1, q2, q3, q4, q5]
        refine IteP.intro (fun h3 => ?_) (fun h3 => ?_)
        · have f3 : ¬ ((128 : Int) ≤ xs[1] ∧ xs[1] ≤ 143) := by simp at h3; omega
          simp [T1, f3, decC, wholeC, d1, q0, q1, q2, q3, q4, q5]
        · have f3 : (128 : Int) ≤ xs[1] ∧ xs[1] ≤ 143 := by simp at h3; omega
          simp [T1, l1, slcI_all hx, slcI_gall hx, hpos, hcc, bit1, bit2, bit3, G1, acc0, acc1, acc2, acc3, acc4, q0, q1, q2, q3, q4, q5]
          have l2 : 2 < xs.length := by omega
          have g2 : xs[2]? = some xs[2] := List.getElem?_eq_getElem l2
          have T2 := fun lo hi => tailG_get (lo := lo) (hi := hi) l2
          simp [l2, slcI_all hx, slcI_gall hx, hpos, hcc, bit1, bit2, bit3, G1, acc0, acc1, acc2, acc3, acc4, q0, q1, q2, q3, q4, q5]
          refine IteP.intro (fun h4 => ?_) (fun h4 => ?_)
          · have f4 : ¬ ((128 : Int) ≤ xs[2] ∧ xs[2] ≤ 191) := by simp at h4; omega
            simp [T1, T2, f3, f4, decC, wholeC, d1, q0, q1, q2, q3, q4, q5]
          · have f4 : (128 : Int) ≤ xs[2] ∧ xs[2] ≤ 191 := by simp at h4; omega
            simp [T1, T2, l1, l2, slcI_all hx, slcI_gall hx, hpos, hcc, bit1, bit2, bit3, G1, acc0, acc1, acc2, acc3, acc4, q0, q1, q2, q3, q4, q5]
            have l3 : 3 < xs.length := by omega
            have g3 : xs[3]? = some xs[3] := List.getElem?_eq_getElem l3
            have T3 := fun lo hi => tailG_get (lo := lo) (hi := hi) l3
            simp [l3, slcI_all hx, slcI_gall hx, hpos, hcc, bit1, bit2, bit3, G1, acc0, acc1, acc2, acc3, acc4, q0, q1, q2, q3, q4, q5]
            refine IteP.intro (fun h5 => ?_) (fun h5 => ?_)
            · have f5 : ¬ ((128 : Int) ≤ xs[3] ∧ xs[3] ≤ 191) := by simp at h5; omega
              simp [T1, T2, T3, f3, f4, f5, decC, wholeC, d1, q0, q1, q2, q3, q4, q5]
            · have f5 : (128 : Int) ≤ xs[3] ∧ xs[3] ≤ 191 := by simp at h5; omega
              simp [f3, f4, f5, T1, T2, T3, g1, g2, g3, rune4, decC, wholeC, d1, q0, q1, q2, q3, q4, q5]
    · have ef := firstT_J (c := c) (by omega)
      have d1 : ¬ (c : Int) < 128 := by omega
      have d2 : ¬ (c : Int) ≤ 223 ∧ ¬ (c : Int) ≤ 239 ∧ ¬ (c : Int) ≤ 244 := by omega
      simp [ef, slcI_all hx, hpos, hcc, bit4, bit5, decC, wholeC, d1, d2]
end Go.Eng.G
