/- A part of the proof: contracts of functions, each proved once. -/
import Derived.Test.YtkbmagloekociaaM20
import Derived.Test.YtkbmagloekociaaX2
namespace Go.Eng.M
open Go Go.Eng Go.Proofs
set_option maxRecDepth 100000
set_option linter.unusedSimpArgs false
set_option linter.unusedSectionVars false
set_option linter.unusedVariables false
variable [Globs]
theorem u62 : PP.underlying 62 = some (.struct #[{ name := "Func", type := 3, offset := 0, embedded := false, tag := "", pkgPath := "", byteOffset := 0 }, { name := "Ins", type := 3, offset := 1, embedded := false, tag := "", pkgPath := "", byteOffset := 8 }, { name := "Code", type := 30, offset := 2, embedded := false, tag := "", pkgPath := "", byteOffset := 16 }]) := by kernel_rfl
theorem h62 : PP.stoodInHeld 62 = false := by kernel_rfl
theorem g62 : PP.eqGuardType PP.depth 62 = false := by kernel_rfl
theorem a3 : pureRun PP (isAgg 3) = some false := by kernel_rfl
theorem a30 : pureRun PP (isAgg 30) = some false := by kernel_rfl
theorem i3 : PP.underlying 3 = some (.int .i64) := by kernel_rfl
theorem i30 : PP.underlying 30 = some (.int .i64) := by kernel_rfl
theorem eq62 (a b c a' b' c' : Int) : pureRun PP (Op.equal 62 (.agg #[.int .i64 a, .int .i64 b, .int .i64 c]) (.agg #[.int .i64 a', .int .i64 b', .int .i64 c'])) = some (decide (a = a') && decide (b = b') && decide (c = c')) := by
  rw [pr_equal]
  exact pr_struct3 (d := 9999) u62 h62 (by decide) (by decide) (by decide) (pr_part a3 rfl) (pr_part a3 rfl) (pr_part a30 rfl) (pr_part a3 rfl) (pr_part a3 rfl) (pr_part a30 rfl) (pr_eq_int i3 a a') (pr_eq_int i3 b b') (pr_eq_int i30 c c')
theorem ne62 (x y : Operand) (a b c a' b' c' : Int) : pureRun PP (do eqGuard .neq 62 x y (.agg #[.int .i64 a, .int .i64 b, .int .i64 c]) (.agg #[.int .i64 a', .int .i64 b', .int .i64 c']); binOp .neq 62 (.agg #[.int .i64 a, .int .i64 b, .int .i64 c]) (.agg #[.int .i64 a', .int .i64 b', .int .i64 c'])) = some (.bool (!(decide (a = a') && decide (b = b') && decide (c = c')))) := by
  have h1 : pureRun PP (eqGuard .neq 62 x y (.agg #[.int .i64 a, .int .i64 b, .int .i64 c]) (.agg #[.int .i64 a', .int .i64 b', .int .i64 c'])) = some () := by
    simp [eqGuard, pureRun_bind, pureRun_pure, pr_program, g62]
  have h2 : pureRun PP (binOp .neq 62 (.agg #[.int .i64 a, .int .i64 b, .int .i64 c]) (.agg #[.int .i64 a', .int .i64 b', .int .i64 c'])) = some (.bool (!(decide (a = a') && decide (b = b') && decide (c = c')))) := by
    show pureRun PP (Op.equal 62 (.agg #[.int .i64 a, .int .i64 b, .int .i64 c]) (.agg #[.int .i64 a', .int .i64 b', .int .i64 c']) >>= fun r => (pure (Value.bool (!r)) : Sem Value)) = _
    rw [pureRun_bind, eq62]
    rfl
  rw [pureRun_bind, h1]
  exact h2
def newMd (m : Md) : Md := ⟨m.mem, [], m.funcs⟩
def initM (m : Md) : MS := ⟨m.data ++ List.replicate (m.mem.toNat - m.data.length) 0, [], false, 0, [], 0⟩
def fnRowO (x : Fn) : List V := [.v (.int .i64 x.params), .v (.int .i64 x.results), .v (.int .i64 x.locals), .own 2 (x.code.map insRow)]
def newRow0 (m : Md) : List V := [.v (.int .i64 m.mem), .own 1 [], .own 4 (m.funcs.map fnRowO), .own 1 ((initM m).mem.map (row1 .u8)), .own 4 [], .v (.bool false), .v (.int .i64 0), .own 1 [], .v (.int .i64 0)]
noncomputable def sNew0 : Spec where
  modes := []
  f := fun args H => match args with
    | [x] => match unMd x with
      | some m => if mdSm m = true then (if checkM m = (0, 0, 0) then some (.tup [.ptr H.length [] 0 0, .v (.int .i64 0)], H ++ [some (9, [newRow0 m])]) else some (.tup [.v (.pointer none), .v (.int .i64 130)], H)) else none
      | none => none
    | _ => none
noncomputable def sp11 : Nat → Option Spec
  | 25 => some (sCheck)
  | 34 => some (sCloneIns)
  | _ => none
theorem sp11_ok : ∀ f s, sp11 f = some s → Meets PP f s := by
  intro f s h
  unfold sp11 at h
  split at h
  · injection h with h; subst h; exact mCheck
  · injection h with h; subst h; exact mCloneIns
  · cases h
set_option maxHeartbeats 40000000 in
theorem mNew0 : Meets PP 11 (sNew0) := by
  refine meets (dr := drF tab11 PP sp11) (live := live11) fn11 rfl rfl rfl sp11_ok (fun base ak => drF_ok mixed sp11_ok _ base ak) ?_
  intro args H z H' h
  simp only [sNew0] at h
  repeat (split at h <;> try cases h)
  · rename_i x _ m hm hl hc
    refine ⟨(by decide : 1 ≤ 51), ?_⟩
    rw [unMd_eq hm]
    have hR : rightM m = true := by
      cases h : rightM m with
      | true => rfl
      | false => simp [checkM, encM, h] at hc
    obtain ⟨a, b, c⟩ := m
    simp [mdV, sp11, sCheck, hl, hc, ne62]
    have hR0 := hR
    simp only [rightM, Bool.and_eq_true, decide_eq_true_eq] at hR
    obtain ⟨⟨⟨⟨⟨r1, r2⟩, r3⟩, r4⟩, r5⟩, r6⟩ := hR
    generalize kdirs sNew0.modes _ = ak
    obtain ⟨n, rfl⟩ : ∃ n : Nat, a = (n : Int) := ⟨a.toNat, by omega⟩
    have hn1 : (n : Int) ≤ 281474976710656 := by omega
    have hn2 : (n : Int) ≤ 9223372036854775807 := by omega
    refine DrP.intro (by decide) ?_
    simp [hn1, hn2]
    refine DrP.intro (by decide) ?_
    simp [hn1, hn2]
    have hmem : List.take n (List.map (row1 .u8) b) ++ List.replicate (n - min n b.length) [V.v (.int .u8 0)] = (initM ⟨(n : Int), b, c⟩).mem.map (row1 .u8) := by
      have : b.length ≤ n := by simpa using r3
      rw [List.take_of_length_le (by simpa using this), Nat.min_eq_right this]
      simp [initM, row1]
    rw [hmem]
    have hN : newRow0 ⟨(n : Int), b, c⟩ = [.v (.int .i64 n), .own 1 [], .own 4 (c.map fnRowO), .own 1 ((initM ⟨(n : Int), b, c⟩).mem.map (row1 .u8)), .own 4 [], .v (.bool false), .v (.int .i64 0), .own 1 [], .v (.int .i64 0)] := rfl
    rw [hN]
    generalize (initM ⟨(n : Int), b, c⟩).mem.map (row1 .u8) = MEM at *
    refine wpX_loopG (fun i : Nat => i ≤ c.length) (fun i => ⟨[(4, .ptr (H.length + 2) [] 0 0), (27, .fs 4 (c.map fnRow)), (28, .v (.int .i64 c.length)), (29, .v (.int .i64 i))], H ++ [some (3, [[.v (.int .i64 n), .fs 1 (b.map (row1 .u8)), .fs 4 (c.map fnRow)]]), none, some (9, [[.v (.int .i64 n), .own 1 [], .own 4 ((c.take i).map fnRowO), .own 1 MEM, .own 4 [], .v (.bool false), .v (.int .i64 0), .own 1 [], .v (.int .i64 0)]])]⟩) (fun i => c.length - i) 0 (Nat.zero_le _) ?_ ?_
    · simp
    · rintro i hi
      simp
      refine IteP.dec (fun h0 => ?_) (fun h0 => ?_)
      · obtain ⟨⟨pa, re, lo, code⟩, hfe⟩ : ∃ q, c[i] = q := ⟨_, rfl⟩
        have hff := rightM_fn (m := ⟨(n : Int), b, c⟩) (i := i) hR0 (by simp only; rw [List.getElem?_eq_getElem h0, hfe])
        simp only [fnR, Bool.and_eq_true, decide_eq_true_eq] at hff
        have hcl : code.length ≤ 1099511627776 := by omega
        have hca : allCopies (code.map insRow) = true := by simp [allCopies, insRow]
        have hwi : IntKind.i64.wrap ((i : Int) + 1) = (i : Int) + 1 := w64 (by omega) (by omega)
        have hi16 : ∀ N : Nat, 16 ≤ N → i ≤ N := fun N h => by omega
        have hmin : min i c.length = i := by omega
        simp [h0, hfe, fnRow, sp11, sCloneIns, hcl, hca]
        refine DrP.intro (by decide) ?_
        have hi48 : (i + 1) * 48 ≤ 140737488355328 := by omega
        have htc : List.take code.length (code.map insRow) = code.map insRow := List.take_of_length_le (by simp)
        have hti : List.take i (List.take i (c.map fnRowO)) = List.take i (c.map fnRowO) := by rw [List.take_take, Nat.min_self]
        simp [hmin, hi16, hi48, htc, hti, hwi]
        refine ⟨i + 1, h0, ⟨?_, rfl⟩, by omega⟩
        refine Eq.trans ?_ (List.take_of_length_le (by simp; omega)).symm
        rw [List.take_succ_eq_append_getElem (by simpa using h0), List.getElem_map, hfe]
        rfl
      · obtain rfl : i = c.length := by omega
        simp
        exact (List.take_of_length_le (by simp)).symm
  · rename_i x _ m hm hl hc
    refine ⟨(by decide : 1 ≤ 51), ?_⟩
    rw [unMd_eq hm]
    obtain ⟨a, b, c⟩ := m
    have hb : (decide ((checkM ⟨a, b, c⟩).1 = 0) && decide ((checkM ⟨a, b, c⟩).2.1 = 0) && decide ((checkM ⟨a, b, c⟩).2.2 = 0)) = false := by
      rw [Bool.eq_false_iff]
      intro h
      simp only [Bool.and_eq_true, decide_eq_true_eq] at h
      exact hc (Prod.ext h.1.1 (Prod.ext h.1.2 h.2))
    simp [mdV, sp11, sCheck, hl, ne62, hb]
noncomputable def sNew : Spec where
  modes := []
  f := fun args H => match args with
    | [x] => match unMd x with
      | some m => if mdSm m = true then (if checkM m = (0, 0, 0) then some (.tup [.ptr H.length [] 0 0, .v (.int .i64 0)], H ++ [mObj (newMd m, initM m)]) else some (.tup [.v (.pointer none), .v (.int .i64 130)], H)) else none
      | none => none
    | _ => none
theorem mNew : Meets PP 11 sNew := by
  refine mNew0.weak rfl ?_
  intro args H z H' h
  simp only [sNew] at h
  repeat (split at h <;> try cases h)
  · rename_i x _ m hm hl hc
    refine ⟨_, _, by simp only [sNew0, hm]; rw [if_pos hl, if_pos hc], ?_⟩
    have f1 : Frz (.own 1 []) (.fs 1 []) := Frz.rows1 .u8 []
    have f2 : Frz (.own 4 (m.funcs.map fnRowO)) (.fs 4 (m.funcs.map fnRow)) := by
      refine Frz.map 4 fnRowO fnRow m.funcs (fun x _ => ⟨.v _, .v _, .v _, ?_, trivial⟩)
      exact Frz.map 2 insRow insRow x.code (fun y _ => ⟨.v _, .v _, trivial⟩)
    have w1 := Weak.cell (base := H.length) (z := .tup [.ptr H.length [] 0 0, .v (.int .i64 0)]) (H := H ++ [some (9, [newRow0 m])]) (id := H.length) (p := []) (sz := 9) (r1 := [newRow0 m]) (i := 0) (k := 1) (c' := .fs 1 []) (Nat.le_refl _) (by simp) (by simp) (by decide) f1 (by intro q; simp [refs3, refs2, refsC, refs1])
    refine Weak.trans w1 ?_
    have e1 : updH (H ++ [some (9, [newRow0 m])]) H.length [] (setC · 0 1 (.fs 1 [])) = H ++ [some (9, [(newRow0 m).set 1 (.fs 1 [])])] := by
      simp [updH, updRows, setC]
    rw [e1]
    have w2 := Weak.cell (base := H.length) (z := .tup [.ptr H.length [] 0 0, .v (.int .i64 0)]) (H := H ++ [some (9, [(newRow0 m).set 1 (.fs 1 [])])]) (id := H.length) (p := []) (sz := 9) (r1 := [(newRow0 m).set 1 (.fs 1 [])]) (i := 0) (k := 2) (c' := .fs 4 (m.funcs.map fnRow)) (Nat.le_refl _) (by simp) (by simp) (by decide) f2 (by intro q; simp [refs3, refs2, refsC, refs1])
    refine Weak.trans w2 ?_
    have e2 : updH (H ++ [some (9, [(newRow0 m).set 1 (.fs 1 [])])]) H.length [] (setC · 0 2 (.fs 4 (m.funcs.map fnRow))) = H ++ [mObj (newMd m, initM m)] := by
      simp [updH, updRows, setC, mObj, mRow, newRow0, newMd, initM]
    rw [e2]
    exact Weak.refl _ _ _
  · rename_i x _ m hm hl hc
    exact ⟨_, _, by simp only [sNew0, hm]; rw [if_pos hl, if_neg hc], Weak.refl _ _ _⟩
end Go.Eng.M
