/- A part of the proof: contracts of functions, each proved once. -/
import Derived.Test.YtkbmagloekociaaM7
namespace Go.Eng.M
open Go Go.Eng Go.Proofs
set_option maxRecDepth 100000
set_option linter.unusedSimpArgs false
set_option linter.unusedSectionVars false
set_option linter.unusedVariables false
variable [Globs]
def encIns (i : Ins) : List Int := IntKind.u8.wrap i.op :: (if hasM i.op = true then numM i.n else [])
def encHd (f : Fn) : List Int := [IntKind.u8.wrap f.params, IntKind.u8.wrap f.results, IntKind.u8.wrap f.locals, IntKind.u8.wrap f.code.length, IntKind.u8.wrap (shrI .i64 f.code.length 8)]
def encFn (f : Fn) : List Int := encHd f ++ f.code.flatMap encIns
def encB (m : Md) : List Int := [67, 83, 77, 1, IntKind.u8.wrap m.mem, IntKind.u8.wrap (shrI .i64 m.mem 8), IntKind.u8.wrap m.data.length, IntKind.u8.wrap (shrI .i64 m.data.length 8)] ++ m.data ++ [IntKind.u8.wrap m.funcs.length] ++ m.funcs.flatMap encFn
def encM (m : Md) : List Int × Int := if rightM m = false then ([], 1) else if 4096 < (encB m).length then ([], 2) else (encB m, 0)
theorem numF_len : ∀ (k : Nat) (u : Int), (numF k u).length ≤ k + 1
  | 0, u => by simp [numF]
  | k + 1, u => by
    unfold numF
    split
    · have := numF_len k (shrI .u64 u 7); simp; omega
    · simp
theorem encIns_len (i : Ins) : (encIns i).length ≤ 11 := by
  unfold encIns
  split
  · have := numF_len 9 (zigM i.n); simp [numM]; omega
  · simp
theorem flatMap_len {α β : Type} {f : α → List β} {n : Nat} (h : ∀ x, (f x).length ≤ n) : ∀ xs : List α, (xs.flatMap f).length ≤ n * xs.length
  | [] => by simp
  | x :: xs => by
    have h1 := h x
    have h2 := flatMap_len h xs
    rw [List.flatMap_cons, List.length_append, List.length_cons, Nat.mul_add]
    omega
theorem flatMap_len2 {α β : Type} {f : α → List β} {n : Nat} : ∀ {xs : List α}, (∀ x ∈ xs, (f x).length ≤ n) → (xs.flatMap f).length ≤ n * xs.length
  | [], _ => by simp
  | x :: xs, h => by
    have h1 := h x (by simp)
    have h2 := flatMap_len2 (fun y hy => h y (by simp [hy]) : ∀ y ∈ xs, (f y).length ≤ n)
    rw [List.flatMap_cons, List.length_append, List.length_cons, Nat.mul_add]
    omega
theorem take_flat {α β : Type} {f : α → List β} {l : List α} {i : Nat} (h : i < l.length) : (l.take (i + 1)).flatMap f = (l.take i).flatMap f ++ f l[i] := by
  rw [List.take_succ_eq_append_getElem h, List.flatMap_append, List.flatMap_cons, List.flatMap_nil, List.append_nil]
def encAt (hd : List Int) (c : List Fn) (i : Nat) : List Int := hd ++ (c.take i).flatMap encFn
def encAt2 (hd : List Int) (c : List Ins) (i : Nat) : List Int := hd ++ (c.take i).flatMap encIns
noncomputable def sEncode0 : Spec where
  modes := []
  f := fun args H => match args with
    | [x] => match unMd x with
      | some m => if mdSm m = true then some (.tup [.ref H.length [] 1 0 (encM m).1.length, .v (.int .i64 (encM m).2)], H ++ [some (1, (encM m).1.map (row1 .u8))]) else none
      | none => none
    | _ => none
noncomputable def sp24 : Nat → Option Spec
  | 44 => some (sRight)
  | 45 => some (sHas)
  | 46 => some (sAppNum)
  | _ => none
theorem sp24_ok : ∀ f s, sp24 f = some s → Meets PP f s := by
  intro f s h
  unfold sp24 at h
  split at h
  · injection h with h; subst h; exact mRight
  · injection h with h; subst h; exact mHas
  · injection h with h; subst h; exact mAppNum
  · cases h
set_option maxHeartbeats 40000000 in
theorem mEncode0 : Meets PP 24 (sEncode0) := by
  refine meets (dr := drF tab24 PP sp24) (live := live24) fn24 rfl rfl rfl sp24_ok (fun base ak => drF_ok mixed sp24_ok _ base ak) ?_
  intro args H z H' h
  simp only [sEncode0] at h
  repeat (split at h <;> try cases h)
  rename_i x _ m hm hl
  refine ⟨(by decide : 1 ≤ 94), ?_⟩
  rw [unMd_eq hm]
  by_cases hr : rightM m = true
  · have hR := hr
    have hfn : ∀ (i : Nat) (fn : Fn), m.funcs[i]? = some fn → fnR fn = true := fun i fn h => rightM_fn hr h
    have hne : ¬ rightM m = false := by rw [hr]; decide
    have hEnc : encM m = if 4096 < (encB m).length then ([], 2) else (encB m, 0) := by unfold encM; rw [if_neg hne]
    have hEB : encB m = [67, 83, 77, 1, IntKind.u8.wrap m.mem, IntKind.u8.wrap (shrI .i64 m.mem 8), IntKind.u8.wrap m.data.length, IntKind.u8.wrap (shrI .i64 m.data.length 8)] ++ m.data ++ [IntKind.u8.wrap m.funcs.length] ++ m.funcs.flatMap encFn := rfl
    rw [hEnc]
    generalize encB m = fin at *
    obtain ⟨a, b, c⟩ := m
    simp only [rightM, Bool.and_eq_true, decide_eq_true_eq] at hr
    obtain ⟨⟨⟨⟨⟨r1, r2⟩, r3⟩, r4⟩, r5⟩, r6⟩ := hr
    simp only at hEB hfn
    have hb1 : b.length ≤ 1024 := by omega
    have hb2 : 8 + b.length ≤ 140737488355328 := by omega
    have hb3 : 8 + b.length + 1 ≤ 140737488355328 := by omega
    have hb4 : 8 + b.length = b.length + 1 + 1 + 1 + 1 + 1 + 1 + 1 + 1 := by omega
    have hle : ∀ N : Nat, 1024 ≤ N → b.length ≤ N := fun N h => by omega
    generalize kdirs sEncode0.modes _ = ak
    simp [mdV, sp24, sRight, hl, hR, row1, hb4, hle]
    obtain ⟨hd0, hhd⟩ : ∃ q, [67, 83, 77, 1, IntKind.u8.wrap a, IntKind.u8.wrap (shrI .i64 a 8), IntKind.u8.wrap b.length, IntKind.u8.wrap (shrI .i64 b.length 8)] ++ b ++ [IntKind.u8.wrap c.length] = q := ⟨_, rfl⟩
    have hhl : hd0.length ≤ 1033 := by rw [← hhd]; simp; omega
    rw [hhd] at hEB
    have hgr : ∀ G : Prop, G → G := fun _ h => h
    refine wpX_loopG (fun i : Nat => i ≤ c.length) (fun i => ⟨[(4, .ref (H.length + 2) [] 1 0 (encAt hd0 c i).length), (41, .fs 4 (c.map fnRow)), (42, .v (.int .i64 c.length)), (43, .v (.int .i64 i))], H ++ [some (3, [[.v (.int .i64 a), .fs 1 (b.map (row1 .u8)), .fs 4 (c.map fnRow)]]), some (1, []), some (1, (encAt hd0 c i).map (row1 .u8))]⟩) (fun i => c.length - i) 0 (Nat.zero_le _) ?_ ?_
    · simp [encAt, ← hhd, row1]
    · rintro i hi
      have hnext : ∀ h : i < c.length, encAt hd0 c (i + 1) = encAt hd0 c i ++ encFn c[i] := by
        intro h; rw [encAt, take_flat h, encAt, List.append_assoc]
      have hcb : (encAt hd0 c i).length ≤ 1033 + 5000 * 16 := by
        have h1 := flatMap_len2 (f := encFn) (n := 5000) (xs := c.take i) (fun x hx => ?_)
        · simp only [encAt, List.length_append, List.length_take] at h1 ⊢
          have : min i c.length ≤ 16 := by omega
          omega
        · obtain ⟨k, hk⟩ := List.mem_iff_getElem?.1 (List.mem_of_mem_take hx)
          have := hfn k x hk
          simp only [fnR, Bool.and_eq_true, decide_eq_true_eq] at this
          have h3 := flatMap_len encIns_len x.code
          have h4 : (encFn x).length = 5 + (x.code.flatMap encIns).length := by rw [encFn, List.length_append]; rfl
          omega
      have hend : i = c.length → encAt hd0 c i = fin := by
        rintro rfl; rw [hEB, encAt, List.take_length]
      generalize encAt hd0 c i = cur at *
      have hle2 : ∀ N : Nat, 100000 ≤ N → cur.length ≤ N := fun N h => by omega
      simp
      refine IteP.dec (fun h0 => ?_) (fun h0 => ?_)
      · obtain ⟨⟨pa, re, lo, code⟩, hfe⟩ : ∃ q, c[i] = q := ⟨_, rfl⟩
        have hff := hfn i c[i] (List.getElem?_eq_getElem h0)
        rw [hfe] at hff
        simp only [fnR, Bool.and_eq_true, decide_eq_true_eq] at hff
        have hcl : code.length ≤ 400 := by omega
        have hwi : IntKind.i64.wrap ((i : Int) + 1) = (i : Int) + 1 := w64 (by omega) (by omega)
        have hnx := hnext h0
        rw [hfe] at hnx
        simp [h0, hfe, fnRow, hle2, row1]
        refine wpX_loopG (fun j : Nat => j ≤ code.length) (fun j => ⟨[(4, .ref (H.length + 2) [] 1 0 (encAt2 (cur ++ encHd ⟨pa, re, lo, code⟩) code j).length), (41, .fs 4 (c.map fnRow)), (42, .v (.int .i64 c.length)), (43, .v (.int .i64 i)), (69, .fs 2 (code.map insRow)), (70, .v (.int .i64 code.length)), (71, .v (.int .i64 j))], H ++ [some (3, [[.v (.int .i64 a), .fs 1 (b.map (row1 .u8)), .fs 4 (c.map fnRow)]]), some (1, []), some (1, (encAt2 (cur ++ encHd ⟨pa, re, lo, code⟩) code j).map (row1 .u8))]⟩) (fun j => code.length - j) 0 (Nat.zero_le _) ?_ ?_
        · simp [encAt2, encHd, row1]
        · rintro j hj
          have hnext2 : ∀ h : j < code.length, encAt2 (cur ++ encHd ⟨pa, re, lo, code⟩) code (j + 1) = encAt2 (cur ++ encHd ⟨pa, re, lo, code⟩) code j ++ encIns code[j] := by
            intro h; rw [encAt2, take_flat h, encAt2, ← List.append_assoc]
          have hcb2 : (encAt2 (cur ++ encHd ⟨pa, re, lo, code⟩) code j).length ≤ 100000 := by
            have h3 := flatMap_len encIns_len (code.take j)
            simp only [encAt2, List.length_append, List.length_take] at h3 ⊢
            have : (encHd ⟨pa, re, lo, code⟩).length = 5 := rfl
            omega
          have hend : j = code.length → encAt2 (cur ++ encHd ⟨pa, re, lo, code⟩) code j = encAt hd0 c (i + 1) := by
            rintro rfl; rw [hnx, encAt2, List.take_length, encFn, List.append_assoc]
          generalize encAt2 (cur ++ encHd ⟨pa, re, lo, code⟩) code j = cur2 at *
          simp
          refine IteP.dec (fun h02 => ?_) (fun h02 => ?_)
          · obtain ⟨⟨op, n⟩, hins⟩ : ∃ q, code[j] = q := ⟨_, rfl⟩
            have hwj : IntKind.i64.wrap ((j : Int) + 1) = (j : Int) + 1 := w64 (by omega) (by omega)
            have hn2 := hnext2 h02
            rw [hins] at hn2
            have hle3 : ∀ N : Nat, 100000 ≤ N → cur2.length ≤ N := fun N h => by omega
            simp [h02, hins, insRow, hle3, row1, sp24, sHas]
            refine IteP.intro (fun hb => ?_) (fun hb => ?_)
            · have hn3 : encIns ⟨op, n⟩ = [IntKind.u8.wrap op] ++ numM n := by simp only [encIns]; rw [if_pos hb]; rfl
              have hnl : (numM n).length ≤ 10 := numF_len 9 (zigM n)
              have hro : ∀ G : Hp, rootI .u8 (H ++ some (3, [[.v (.int .i64 a), .fs 1 (b.map (row1 .u8)), .fs 4 (c.map fnRow)]]) :: some (1, []) :: some (1, cur2.map (row1 .u8) ++ [[.v (.int .u8 (IntKind.u8.wrap op))]]) :: G) (H.length + 2) = some (cur2 ++ [IntKind.u8.wrap op]) := fun G => rootI_of (by simp [row1])
              simp [sAppNum, sp24, hro, hle3]
              rw [hn3] at hn2
              refine ⟨j + 1, h02, ⟨?_, ?_, by rw [hwj]; simp⟩, by omega⟩
              · rw [hn2]; simp
              · rw [hn2]; simp; omega
            · have hn3 : encIns ⟨op, n⟩ = [IntKind.u8.wrap op] := by simp only [encIns]; rw [if_neg (by simp [hb])]
              rw [hn3] at hn2
              simp [hwj]
              refine ⟨j + 1, h02, ⟨?_, ?_, rfl⟩, by omega⟩
              · rw [hn2]; simp [row1]
              · rw [hn2]; simp
          · have hj2 : j = code.length := by omega
            rw [hend hj2]
            simp [hwi]
            exact ⟨i + 1, h0, ⟨rfl, rfl, rfl⟩, by omega⟩
      · have hi2 : i = c.length := by omega
        rw [hend hi2]
        simp
        refine IteP.dec (fun h4 => ?_) (fun h4 => ?_)
        · have h4' : 4096 < fin.length := by omega
          simp [h4']
        · have h4' : ¬ 4096 < fin.length := by omega
          simp [h4']
  · have hf : rightM m = false := by simpa using hr
    have hEnc : encM m = ([], 1) := by unfold encM; rw [if_pos hf]
    rw [hEnc]
    obtain ⟨a, b, c⟩ := m
    simp [mdV, sp24, sRight, hl, hf]
noncomputable def sEncode : Spec where
  modes := []
  f := fun args H => match args with
    | [x] => match unMd x with
      | some m => if mdSm m = true then some (.tup [.fs 1 ((encM m).1.map (row1 .u8)), .v (.int .i64 (encM m).2)], H) else none
      | none => none
    | _ => none
theorem mEncode : Meets PP 24 sEncode := by
  refine mEncode0.weak rfl ?_
  intro args H z H' h
  simp only [sEncode] at h
  repeat (split at h <;> try cases h)
  rename_i x _ m hm hl
  refine ⟨_, _, by simp only [sEncode0, hm]; rw [if_pos hl], ?_⟩
  simpa using Weak.fresh2 (H := H) (y := .int .i64 (encM m).2) (Frz.rows1 .u8 (encM m).1)
end Go.Eng.M
