/- A part of the proof: contracts of functions, each proved once. -/
import Derived.Test.YtgbgmkacpjbilaaDoorT18
import Derived.Test.YtgbgmkacpjbilaaDoorE3
namespace Go.Eng.G
open Go Go.Eng Go.Proofs
set_option maxRecDepth 100000
set_option linter.unusedSimpArgs false
set_option linter.unusedSectionVars false
variable [Globs]
def tailG (b : List Int) (i : Nat) (lo hi : Int) : Bool := match b[i]? with | some x => decide (lo ≤ x) && decide (x ≤ hi) | none => false
def sTail : Spec where
  modes := []
  f := fun args H => match args with
    | [x, .v (.int .i64 i), .v (.int .u8 lo), .v (.int .u8 hi)] => match slcI .u8 H x with
      | some xs => if 0 ≤ i then some (.v (.bool (tailG xs i.toNat lo hi)), H) else none
      | _ => none
    | _ => none
set_option maxHeartbeats 2000000 in
theorem mTail : Meets PP 30 sTail := by
  refine meets (dr := drF tab30 PP noSp) (live := live30) fn30 rfl rfl rfl noSp_ok (fun base ak => drF_ok mixed noSp_ok _ base ak) ?_
  intro args H z H' h
  simp only [sTail] at h
  split at h <;> try cases h
  rename_i x i lo hi
  split at h <;> try cases h
  rename_i xs hx
  split at h <;> cases h
  rename_i hi0
  refine ⟨(by decide : 4 ≤ 29), ?_⟩
  generalize kdirs sTail.modes _ = ak
  obtain ⟨i, rfl⟩ : ∃ n : Nat, i = n := ⟨i.toNat, by omega⟩
  simp only [Int.toNat_natCast]
  by_cases hlt : i < xs.length
  · have hg : xs[i]? = some xs[i] := List.getElem?_eq_getElem hlt
    simp [slcI_all hx, hlt, tailG, hg]
  · have hg : xs[i]? = none := List.getElem?_eq_none (by omega)
    simp [slcI_all hx, hlt, tailG, hg]
def isRuneG (r : Int) : Bool := decide (0 ≤ r) && decide (r ≤ 1114111) && (decide (r < 55296) || decide (57343 < r))
set_option maxHeartbeats 2000000 in
theorem mIsRune : Meets PP 15 (sR isRuneG) := by
  refine meets (dr := drF tab15 PP noSp) (live := live15) fn15 rfl rfl rfl noSp_ok (fun base ak => drF_ok mixed noSp_ok _ base ak) ?_
  intro args H z H' h
  simp only [sR] at h
  split at h <;> cases h
  rename_i r
  refine ⟨(by decide : 1 ≤ 17), ?_⟩
  generalize kdirs (sR isRuneG).modes _ = ak
  simp
  simp [isRuneG]
def twoG (r : Int) : Bool := spansTwo.any (hits r)
def refWidthG (r : Int) : Int :=
  if !isRuneG r || decide (r < 32) || (decide (127 ≤ r) && decide (r ≤ 159)) || (decide (768 ≤ r) && decide (r ≤ 879)) || (decide (8203 ≤ r) && decide (r ≤ 8207)) || (decide (65024 ≤ r) && decide (r ≤ 65039)) then 0
  else if twoG r then 2 else 1
def sW (g : Int → Int) : Spec where
  modes := []
  f := fun args H => match args with
    | [.v (.int .i32 r)] => some (.v (.int .i64 (g r)), H)
    | _ => none
def sp26 : Nat → Option Spec
  | 15 => some (sR isRuneG)
  | _ => none
theorem sp26_ok : ∀ f s, sp26 f = some s → Meets PP f s := by
  intro f s h
  unfold sp26 at h
  split at h <;> cases h
  exact mIsRune
set_option maxHeartbeats 2000000 in
theorem mRefWidth : Meets PP 26 (sW refWidthG) := by
  refine meets (dr := drF tab26 PP sp26) (live := live26) fn26 rfl rfl rfl sp26_ok (fun base ak => drF_ok mixed sp26_ok _ base ak) ?_
  intro args H z H' h
  simp only [sW] at h
  split at h <;> cases h
  rename_i r
  refine ⟨(by decide : 1 ≤ 134), ?_⟩
  generalize kdirs (sW refWidthG).modes _ = ak
  simp [sp26, sR]
  refine IteP.intro (fun h1 => ?_) (fun h1 => ?_)
  · simp [refWidthG, h1]
  · simp
    refine IteP.intro (fun h2 => ?_) (fun h2 => ?_)
    · have e : twoG r = true := by
        simp only [twoG, spansTwo, List.any_cons, List.any_nil, hits, Bool.or_false]
        rw [← h2]; simp only [Bool.or_assoc]
      simp [refWidthG, h1, e]
    · have e : twoG r = false := by
        simp only [twoG, spansTwo, List.any_cons, List.any_nil, hits, Bool.or_false]
        rw [← h2]; simp only [Bool.or_assoc]
      simp [refWidthG, h1, e]
/-- The rune that bytes are read as. -/
def rune2 (a b : Int) : Int := orI .i32 (shlI .i32 (IntKind.i32.wrap (andI .u8 a 31)) 6) (IntKind.i32.wrap (andI .u8 b 63))
def rune3 (a b c : Int) : Int := orI .i32 (orI .i32 (shlI .i32 (IntKind.i32.wrap (andI .u8 a 15)) 12) (shlI .i32 (IntKind.i32.wrap (andI .u8 b 63)) 6)) (IntKind.i32.wrap (andI .u8 c 63))
def rune4 (a b c d : Int) : Int := orI .i32 (orI .i32 (orI .i32 (shlI .i32 (IntKind.i32.wrap (andI .u8 a 7)) 18) (shlI .i32 (IntKind.i32.wrap (andI .u8 b 63)) 12)) (shlI .i32 (IntKind.i32.wrap (andI .u8 c 63)) 6)) (IntKind.i32.wrap (andI .u8 d 63))
def wholeC (b : List Int) (c : Int) : Int × Int :=
    if c < 128 then (1, IntKind.i32.wrap c)
    else if 194 ≤ c ∧ c ≤ 223 ∧ tailG b 1 128 191 = true then (2, rune2 c (b[1]?.getD 0))
    else if 224 ≤ c ∧ c ≤ 239 ∧ tailG b 1 (if c = 224 then 160 else 128) (if c = 237 then 159 else 191) = true ∧ tailG b 2 128 191 = true then (3, rune3 c (b[1]?.getD 0) (b[2]?.getD 0))
    else if 240 ≤ c ∧ c ≤ 244 ∧ tailG b 1 (if c = 240 then 144 else 128) (if c = 244 then 143 else 191) = true ∧ tailG b 2 128 191 = true ∧ tailG b 3 128 191 = true then (4, rune4 c (b[1]?.getD 0) (b[2]?.getD 0) (b[3]?.getD 0))
    else (0, 0)
def wholeG (b : List Int) : Int × Int := match b[0]? with | none => (0, 0) | some c => wholeC b c
def sWhole : Spec where
  modes := []
  f := fun args H => match args with
    | [x] => match slcI .u8 H x with
      | some xs => some (.tup [.v (.int .i64 (wholeG xs).1), .v (.int .i32 (wholeG xs).2)], H)
      | _ => none
    | _ => none
def sp20 : Nat → Option Spec
  | 30 => some sTail
  | _ => none
theorem sp20_ok : ∀ f s, sp20 f = some s → Meets PP f s := by
  intro f s h
  unfold sp20 at h
  split at h <;> cases h
  exact mTail
theorem tailG_lt {b : List Int} {i : Nat} {lo hi : Int} (h : tailG b i lo hi = true) : i < b.length := by
  unfold tailG at h
  split at h
  · rename_i x hx
    rcases Nat.lt_or_ge i b.length with h | h
    · exact h
    · rw [List.getElem?_eq_none h] at hx; cases hx
  · cases h
set_option maxHeartbeats 4000000 in
theorem mWhole : Meets PP 20 sWhole := by
  refine meets (dr := drF tab20 PP sp20) (live := live20) fn20 rfl rfl rfl sp20_ok (fun base ak => drF_ok mixed sp20_ok _ base ak) ?_
  intro args H z H' h
  simp only [sWhole] at h
  split at h <;> try cases h
  rename_i x
  split at h <;> cases h
  rename_i xs hx
  refine ⟨(by decide : 1 ≤ 122), ?_⟩
  generalize kdirs sWhole.modes _ = ak
  have A := slcI_all hx
  simp [A]
  refine IteP.dec (fun h0 => ?_) (fun h0 => ?_)
  · subst h0
    simp [wholeG]
  · have hpos : 0 < xs.length := List.length_pos_iff.2 h0
    have g0 : xs[0]? = some xs[0] := List.getElem?_eq_getElem hpos
    have hw : wholeG xs = wholeC xs xs[0] := by unfold wholeG; rw [g0]
    simp [A, hpos, hw]
    generalize hcc : xs[0] = c
    clear hw
    refine IteP.dec (fun h1 => ?_) (fun h1 => ?_)
    · simp [wholeC, h1]
    · by_cases k1 : c < 194
      · have e1 : ¬ 194 ≤ c := by omega
        have e2 : ¬ 224 ≤ c := by omega
        have e3 : ¬ 240 ≤ c := by omega
        have e4 : ¬ c = 224 := by omega
        have e5 : ¬ c = 237 := by omega
        have e6 : ¬ c = 240 := by omega
        have e7 : ¬ c = 244 := by omega
        simp [A, e1, e2, e3, e4, e5, e6, e7, wholeC, h1]
      by_cases k2 : c ≤ 223
      · have e1 : 194 ≤ c := by omega
        have e2 : ¬ 224 ≤ c := by omega
        have e3 : ¬ 240 ≤ c := by omega
        have e4 : ¬ c = 224 := by omega
        have e5 : ¬ c = 237 := by omega
        have e6 : ¬ c = 240 := by omega
        have e7 : ¬ c = 244 := by omega
        simp [A, e1, k2, sp20, sTail, hx]
        refine IteP.intro (fun t1 => ?_) (fun t1 => ?_)
        · have l1 := tailG_lt t1
          have g1 : xs[1]? = some xs[1] := List.getElem?_eq_getElem l1
          simp
          refine DrP.intro (by decide) ?_
          simp [A, l1, wholeC, h1, e1, k2, t1, rune2, g1]
        · simp [A, e1, e2, e3, e4, e5, e6, e7, wholeC, h1, t1]
      by_cases k3 : c ≤ 239
      · have e1 : 194 ≤ c := by omega
        have e1' : ¬ c ≤ 223 := by omega
        have e2 : 224 ≤ c := by omega
        have e3 : ¬ 240 ≤ c := by omega
        have e6 : ¬ c = 240 := by omega
        have e7 : ¬ c = 244 := by omega
        simp [A, e1, e1']
        refine IteP.dec (fun q1 => ?_) (fun q1 => ?_)
        · subst q1
          simp [A, sp20, sTail, hx]
          cases t1 : tailG xs 1 160 191
          · simp [A, wholeC, h1, t1]
          · cases t2 : tailG xs 2 128 191
            · simp [A, wholeC, h1, t1, t2, hx, sp20, sTail]
            · have l1 := tailG_lt t1
              have l2 := tailG_lt t2
              have g1 : xs[1]? = some xs[1] := List.getElem?_eq_getElem l1
              have g2 : xs[2]? = some xs[2] := List.getElem?_eq_getElem l2
              simp [A, hx, t2, sp20, sTail]
              refine DrP.intro (by decide) ?_
              simp [A, l1, l2, wholeC, h1, t1, t2, rune3, g1, g2]
        · simp
          refine IteP.dec (fun q2 => ?_) (fun q2 => ?_)
          · subst q2
            simp [A, sp20, sTail, hx]
            cases t1 : tailG xs 1 128 159
            · simp [A, wholeC, h1, t1]
            · cases t2 : tailG xs 2 128 191
              · simp [A, wholeC, h1, t1, t2, hx, sp20, sTail]
              · have l1 := tailG_lt t1
                have l2 := tailG_lt t2
                have g1 : xs[1]? = some xs[1] := List.getElem?_eq_getElem l1
                have g2 : xs[2]? = some xs[2] := List.getElem?_eq_getElem l2
                simp [A, hx, t2, sp20, sTail]
                refine DrP.intro (by decide) ?_
                simp [A, l1, l2, wholeC, h1, t1, t2, rune3, g1, g2]
          · simp
            simp [A, sp20, sTail, hx, e1, e1', e2, e3, e6, e7, q1, q2, k3]
            cases t1 : tailG xs 1 128 191
            · simp [A, wholeC, h1, t1, e1, e1', e2, e3, e6, e7, q1, q2, k3]
            · cases t2 : tailG xs 2 128 191
              · simp [A, wholeC, h1, t1, t2, hx, sp20, sTail, e1, e1', e2, e3, e6, e7, q1, q2, k3]
              · have l1 := tailG_lt t1
                have l2 := tailG_lt t2
                have g1 : xs[1]? = some xs[1] := List.getElem?_eq_getElem l1
                have g2 : xs[2]? = some xs[2] := List.getElem?_eq_getElem l2
                simp [A, hx, t2, sp20, sTail, e1, e1', e2, e3, e6, e7, q1, q2, k3]
                refine DrP.intro (by decide) ?_
                simp [A, l1, l2, wholeC, h1, t1, t2, rune3, g1, g2, e1, e1', e2, e3, e6, e7, q1, q2, k3]
      by_cases k4 : c ≤ 244
      · have e1 : 194 ≤ c := by omega
        have e1' : ¬ c ≤ 223 := by omega
        have e2 : 224 ≤ c := by omega
        have e3 : 240 ≤ c := by omega
        have e4 : ¬ c = 224 := by omega
        have e5 : ¬ c = 237 := by omega
        simp [A, e1, e1', e2, e4, e5, k3]
        refine IteP.dec (fun q1 => ?_) (fun q1 => ?_)
        · subst q1
          simp [A, sp20, sTail, hx]
          cases t1 : tailG xs 1 144 191
          · simp [A, wholeC, h1, t1]
          · cases t2 : tailG xs 2 128 191
            · simp [A, wholeC, h1, t1, t2, hx, sp20, sTail]
            · cases t3 : tailG xs 3 128 191
              · simp [A, wholeC, h1, t1, t2, t3, hx, sp20, sTail]
              · have l1 := tailG_lt t1
                have l2 := tailG_lt t2
                have l3 := tailG_lt t3
                have g1 : xs[1]? = some xs[1] := List.getElem?_eq_getElem l1
                have g2 : xs[2]? = some xs[2] := List.getElem?_eq_getElem l2
                have g3 : xs[3]? = some xs[3] := List.getElem?_eq_getElem l3
                simp [A, hx, t2, t3, sp20, sTail]
                refine DrP.intro (by decide) ?_
                simp [A, l1, l2, l3, wholeC, h1, t1, t2, t3, rune4, g1, g2, g3]
        · simp
          refine IteP.dec (fun q2 => ?_) (fun q2 => ?_)
          · subst q2
            simp [A, sp20, sTail, hx]
            cases t1 : tailG xs 1 128 143
            · simp [A, wholeC, h1, t1]
            · cases t2 : tailG xs 2 128 191
              · simp [A, wholeC, h1, t1, t2, hx, sp20, sTail]
              · cases t3 : tailG xs 3 128 191
                · simp [A, wholeC, h1, t1, t2, t3, hx, sp20, sTail]
                · have l1 := tailG_lt t1
                  have l2 := tailG_lt t2
                  have l3 := tailG_lt t3
                  have g1 : xs[1]? = some xs[1] := List.getElem?_eq_getElem l1
                  have g2 : xs[2]? = some xs[2] := List.getElem?_eq_getElem l2
                  have g3 : xs[3]? = some xs[3] := List.getElem?_eq_getElem l3
                  simp [A, hx, t2, t3, sp20, sTail]
                  refine DrP.intro (by decide) ?_
                  simp [A, l1, l2, l3, wholeC, h1, t1, t2, t3, rune4, g1, g2, g3]
          · simp
            simp [A, sp20, sTail, hx, e1, e1', e2, e3, e4, e5, q1, q2, k3, k4]
            cases t1 : tailG xs 1 128 191
            · simp [A, wholeC, h1, t1, e1, e1', e2, e3, e4, e5, q1, q2, k3, k4]
            · cases t2 : tailG xs 2 128 191
              · simp [A, wholeC, h1, t1, t2, hx, sp20, sTail, e1, e1', e2, e3, e4, e5, q1, q2, k3, k4]
              · cases t3 : tailG xs 3 128 191
                · simp [A, wholeC, h1, t1, t2, t3, hx, sp20, sTail, e1, e1', e2, e3, e4, e5, q1, q2, k3, k4]
                · have l1 := tailG_lt t1
                  have l2 := tailG_lt t2
                  have l3 := tailG_lt t3
                  have g1 : xs[1]? = some xs[1] := List.getElem?_eq_getElem l1
                  have g2 : xs[2]? = some xs[2] := List.getElem?_eq_getElem l2
                  have g3 : xs[3]? = some xs[3] := List.getElem?_eq_getElem l3
                  simp [A, hx, t2, t3, sp20, sTail, e1, e1', e2, e3, e4, e5, q1, q2, k3, k4]
                  refine DrP.intro (by decide) ?_
                  simp [A, l1, l2, l3, wholeC, h1, t1, t2, t3, rune4, g1, g2, g3, e1, e1', e2, e3, e4, e5, q1, q2, k3, k4]
      · have e1 : 194 ≤ c := by omega
        have e1' : ¬ c ≤ 223 := by omega
        have e2 : 224 ≤ c := by omega
        have e3 : 240 ≤ c := by omega
        have e4 : ¬ c = 224 := by omega
        have e5 : ¬ c = 237 := by omega
        have e6 : ¬ c = 240 := by omega
        have e7 : ¬ c = 244 := by omega
        simp [A, e1, e1', e2, e3, e4, e5, e6, e7, k3, k4, wholeC, h1]
end Go.Eng.G
