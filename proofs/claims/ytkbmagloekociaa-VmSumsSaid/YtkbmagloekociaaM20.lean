/- A part of the proof: contracts of functions, each proved once. -/
import Derived.Test.YtkbmagloekociaaM19
import Derived.Test.YtkbmagloekociaaX1
namespace Go.Eng.M
open Go Go.Eng Go.Proofs
set_option maxRecDepth 100000
set_option linter.unusedSimpArgs false
set_option linter.unusedSectionVars false
set_option linter.unusedVariables false
variable [Globs]
structure Told where
  kind : Int
  trap : Int
  used : Int
  call : Int
  args : List Int
  deriving DecidableEq
def toldV (t : Told) : V := .agg [.v (.int .i64 t.kind), .v (.int .i64 t.trap), .v (.int .i64 t.used), .v (.int .i64 t.call), .fs 1 (t.args.map (row1 .i64))]
def goesM (s : MS) : Bool := decide (s.trap = 0) && !s.asks && decide (0 < s.fs.length)
/-- Instructions, at most so many; how many. -/
def loopM (md : Md) : Nat → MS → Option (MS × Nat)
  | 0, s => some (s, 0)
  | n + 1, s => if goesM s = true then (match stepM md s with
    | none => none
    | some s' => match loopM md n s' with
      | none => none
      | some (x, k) => some (x, k + 1)) else some (s, 0)
def endM (s : MS) (used : Nat) : Told :=
  if s.trap ≠ 0 then ⟨4, s.trap, used, 0, []⟩
  else if s.asks = true then ⟨3, 0, used, s.call, s.args⟩
  else if s.fs.length = 0 then ⟨1, 0, used, 0, []⟩
  else ⟨2, 0, used, 0, []⟩
def fuelM (f : Int) : Nat := (min (max f 0) 5000).toNat
def runM (md : Md) (s : MS) (f : Int) : Option (MS × Told) :=
  if s.fs.length = 0 then some (s, ⟨0, 0, 0, 0, []⟩)
  else match loopM md (fuelM f) s with
    | none => none
    | some (s', k) => some (s', endM s' k)
def tRow (t : Told) : List V := [.v (.int .i64 t.kind), .v (.int .i64 t.trap), .v (.int .i64 t.used), .v (.int .i64 t.call), .own 1 (t.args.map (row1 .i64))]
noncomputable def sRun0 : Spec where
  modes := [1]
  f := fun args H => match args with
    | [.ptr id [] 0 0, .v (.int .i64 f)] => match isM H id with
      | some (md, s) => match runM md s f with
        | some (s', t) => if mdSm md = true ∧ s'.fs.length ≤ 2^20 ∧ s'.args.length ≤ 2^20 ∧ s.fs.length ≤ 2^20 then some (.agg [.v (.int .i64 t.kind), .v (.int .i64 t.trap), .v (.int .i64 t.used), .v (.int .i64 t.call), .ref H.length [(0, 4)] 1 0 t.args.length], H.set id (mObj (md, s')) ++ [some (5, [tRow t])]) else none
        | none => none
      | none => none
    | _ => none
noncomputable def sp18 : Nat → Option Spec
  | 39 => some (sStep)
  | 40 => some (sCloneI .i64)
  | _ => none
theorem sp18_ok : ∀ f s, sp18 f = some s → Meets PP f s := by
  intro f s h
  unfold sp18 at h
  split at h
  · injection h with h; subst h; exact mStep
  · injection h with h; subst h; exact mClone40
  · cases h
set_option maxHeartbeats 40000000 in
theorem mRun0 : Meets PP 18 (sRun0) := by
  refine meets (dr := drF tab18 PP sp18) (live := live18) fn18 rfl rfl rfl sp18_ok (fun base ak => drF_ok mixed sp18_ok _ base ak) ?_
  intro args H z H' h
  simp only [sRun0] at h
  repeat (split at h <;> try cases h)
  rename_i id f _ md s h1 _ s' t hr hsm
  refine ⟨(by decide : 2 ≤ 86), ?_⟩
  obtain ⟨hsm, hl1, hl2, hl3⟩ := hsm
  obtain ⟨hmc, h1, hlt, h1'⟩ := isM_mc h1
  have hcl : min (max f 0) 5000 = (fuelM f : Int) := by unfold fuelM; omega
  have hset := set_obj h1
  unfold runM at hr
  by_cases hf0 : s.fs.length = 0
  · rw [if_pos hf0] at hr
    simp only [Option.some.injEq, Prod.mk.injEq] at hr
    obtain ⟨rfl, rfl⟩ := hr
    rw [hset]
    simp [sRun0, h1', hlt, mObj, mRow, p_max, p_min, hcl, hf0]
    rfl
  · rw [if_neg hf0] at hr
    split at hr
    · cases hr
    rename_i s1 k hk
    simp only [Option.some.injEq, Prod.mk.injEq] at hr
    obtain ⟨rfl, rfl⟩ := hr
    simp [sRun0, h1', hlt, mObj, mRow, p_max, p_min, hcl, hf0]
    have hfu : fuelM f ≤ 5000 := by unfold fuelM; omega
    refine wpX_loopG (fun q : Nat × Nat × MS => q.1 + q.2.1 = fuelM f ∧ ∃ j, loopM md q.1 q.2.2 = some (s1, j) ∧ q.2.1 + j = k) (fun q => ⟨[(0, .ptr id [] 0 0), (1, .v (.int .i64 (fuelM f))), (4, .ptr H.length [] 0 0)], H.set id (mObj (md, q.2.2)) ++ [some (5, [[.v (.int .i64 0), .v (.int .i64 0), .v (.int .i64 q.2.1), .v (.int .i64 0), .own 1 []]])]⟩) (fun q => q.1) (fuelM f, 0, s) ⟨by simp, k, hk, by simp⟩ ?_ ?_
    · have hlt1 : id < H.length + 1 := by omega
      simp [hlt, hset, hlt1]
    · rintro ⟨n, u, x⟩ ⟨hn, j, hj, huk⟩
      simp only at hn hj huk
      obtain ⟨xm, xf, xa, xc, xg, xt⟩ := x
      have hisM : ∀ (G : Hp) (m : List Int) (f : List Fr) (a : Bool) (c : Int) (g : List Int) (t : Int), isM (H.set id (some (9, [[.v (.int .i64 md.mem), .fs 1 (md.data.map (row1 .u8)), .fs 4 (md.funcs.map fnRow), .own 1 (m.map (row1 .u8)), .own 4 (f.map frRow).reverse, .v (.bool a), .v (.int .i64 c), .own 1 (g.map (row1 .i64)), .v (.int .i64 t)]])) ++ G) id = some (md, ⟨m, f, a, c, g, t⟩) := fun G m f a c g t => isM_of (by simp [hlt, mObj, mRow])
      simp [hlt, mObj, mRow]
      by_cases hgo : goesM ⟨xm, xf, xa, xc, xg, xt⟩ = true ∧ 0 < n
      · obtain ⟨hg, hn0⟩ := hgo
        obtain ⟨n', rfl⟩ : ∃ n', n = n' + 1 := ⟨n - 1, by omega⟩
        unfold loopM at hj
        rw [if_pos hg] at hj
        split at hj
        · cases hj
        rename_i x' hx'
        split at hj
        · cases hj
        rename_i s2 k2 hk2
        simp only [Option.some.injEq, Prod.mk.injEq] at hj
        obtain ⟨rfl, rfl⟩ := hj
        simp only [goesM, Bool.and_eq_true, decide_eq_true_eq, Bool.not_eq_true'] at hg
        obtain ⟨⟨g1, g2⟩, g3⟩ := hg
        subst g1; subst g2
        have g4 : u < fuelM f := by omega
        have hwu : IntKind.i64.wrap ((u : Int) + 1) = (u : Int) + 1 := w64 (by omega) (by omega)
        have hlt1 : id < H.length + 1 := by omega
        simp [g3, g4, hwu, hlt, sStep, sp18, hisM, hx', hsm, mObj, mRow]
        exact ⟨n', u + 1, x', ⟨by omega, k2, hk2, by omega⟩, by simp [hlt, hlt1], by omega⟩
      · have hgo' : goesM ⟨xm, xf, xa, xc, xg, xt⟩ = true → n = 0 := fun h => by
          rcases Nat.eq_zero_or_pos n with h0 | h0
          · exact h0
          · exact absurd ⟨h, h0⟩ hgo
        have hb : (decide (xt = 0) && !xa && decide (0 < xf.length) && decide (u < fuelM f)) = false := by
          rw [Bool.eq_false_iff]
          intro h
          simp only [Bool.and_eq_true, decide_eq_true_eq] at h
          have := hgo' (by simp only [goesM, Bool.and_eq_true, decide_eq_true_eq]; exact h.1)
          omega
        have hs1 : s1 = ⟨xm, xf, xa, xc, xg, xt⟩ ∧ j = 0 := by
          cases n with
          | zero => simp only [loopM, Option.some.injEq, Prod.mk.injEq] at hj; exact ⟨hj.1.symm, hj.2.symm⟩
          | succ n =>
            unfold loopM at hj
            rw [if_neg (fun h => by have := hgo' h; omega)] at hj
            simp only [Option.some.injEq, Prod.mk.injEq] at hj
            exact ⟨hj.1.symm, hj.2.symm⟩
        obtain ⟨rfl, rfl⟩ := hs1
        obtain rfl : u = k := by omega
        simp [hb]
        by_cases ht : xt = 0
        · cases xa with
          | true =>
            have hxg : xg.length ≤ 8796093022208 := by have : xg.length ≤ 1048576 := hl2; omega
            have hsl : ∀ (c0 c1 c2 c3 c4 c5 c6 c8 : V) (G : Hp), slcI .i64 (H.set id (some (9, [[c0, c1, c2, c3, c4, c5, c6, .own 1 (xg.map (row1 .i64)), c8]])) ++ G) (.ref id [(0, 7)] 1 0 xg.length) = some xg := by
              intro c0 c1 c2 c3 c4 c5 c6 c8 G
              unfold slcI
              simp [hlt, part]
              rw [List.take_of_length_le (by simp), unI_map]
            simp [ht, hlt, sp18, sCloneI, hsl, fresh, hxg, endM, tRow]
            refine DrP.intro (by decide) ?_
            simp [ht, hlt, sp18, sCloneI, hsl, fresh, hxg, endM, tRow]
            have e : List.take xg.length (xg.map (row1 .i64)) = xg.map (row1 .i64) := List.take_of_length_le (by simp)
            rw [e, e, e]
          | false =>
            by_cases hfl : xf.length = 0
            · simp [ht, hfl, hlt, endM, tRow]
            · simp [ht, hfl, hlt, endM, tRow]
        · simp [ht, hlt]
          refine DrP.intro (by decide) ?_
          simp [ht, hlt, endM, tRow]
noncomputable def sRun : Spec where
  modes := [1]
  f := fun args H => match args with
    | [.ptr id [] 0 0, .v (.int .i64 f)] => match isM H id with
      | some (md, s) => match runM md s f with
        | some (s', t) => if mdSm md = true ∧ s'.fs.length ≤ 2^20 ∧ s'.args.length ≤ 2^20 ∧ s.fs.length ≤ 2^20 then some (toldV t, H.set id (mObj (md, s'))) else none
        | none => none
      | none => none
    | _ => none
theorem mRun : Meets PP 18 sRun := by
  refine mRun0.weak rfl ?_
  intro args H z H' h
  simp only [sRun] at h
  repeat (split at h <;> try cases h)
  rename_i id f _ md s h1 _ s' t hr hsm
  refine ⟨_, _, by simp only [sRun0, h1, hr]; rw [if_pos hsm], ?_⟩
  have hw := Weak.rootD (base := H.length) (z := .agg [.v (.int .i64 t.kind), .v (.int .i64 t.trap), .v (.int .i64 t.used), .v (.int .i64 t.call), .ref H.length [(0, 4)] 1 0 t.args.length]) (H := H.set id (mObj (md, s')) ++ [some (5, [tRow t])]) (id := H.length) (sz := 5) (rows := [tRow t])
    (rows' := [[.v (.int .i64 t.kind), .v (.int .i64 t.trap), .v (.int .i64 t.used), .v (.int .i64 t.call), .fs 1 (t.args.map (row1 .i64))]]) (Nat.le_refl _) (by simp) (Frz.map 5 (fun t => tRow t) (fun t => [.v (.int .i64 t.kind), .v (.int .i64 t.trap), .v (.int .i64 t.used), .v (.int .i64 t.call), .fs 1 (t.args.map (row1 .i64))]) [t] (fun x _ => ⟨.v _, .v _, .v _, .v _, Frz.rows1 .i64 x.args, trivial⟩)) rfl rfl
  refine Weak.trans hw ?_
  have e1 : map3 (frzD H.length 5 [[.v (.int .i64 t.kind), .v (.int .i64 t.trap), .v (.int .i64 t.used), .v (.int .i64 t.call), .fs 1 (t.args.map (row1 .i64))]]) (.agg [.v (.int .i64 t.kind), .v (.int .i64 t.trap), .v (.int .i64 t.used), .v (.int .i64 t.call), .ref H.length [(0, 4)] 1 0 t.args.length]) = toldV t := by
    simp [map3, map2, mapC, V.tup?, V.agg?, V.clo?, frzD, frzRef, cellAt, part, toldV]
    exact List.take_of_length_le (by simp)
  have e2 : (H.set id (mObj (md, s')) ++ [some (5, [tRow t])]).set H.length none = H.set id (mObj (md, s')) ++ [none] := by simp
  rw [e1, e2]
  exact Weak.snoc
end Go.Eng.M
