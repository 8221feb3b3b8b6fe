/- A part of the proof: contracts of functions, each proved once. -/
import Derived.Test.YtkbmagloekociaaM4
namespace Go.Eng.M
open Go Go.Eng Go.Proofs
set_option maxRecDepth 100000
set_option linter.unusedSimpArgs false
set_option linter.unusedSectionVars false
set_option linter.unusedVariables false
variable [Globs]
/-- The places behind an instruction get their height. -/
def hIn (len : Nat) (v : Int) : List Int → List Int → List Int → Option (List Int × List Int)
  | [], out, todo => some (out, todo)
  | to :: r, out, todo =>
    if to = len ∨ (0 ≤ out.getD to.toNat 0 ∧ out.getD to.toNat 0 ≠ v) then none
    else if out.getD to.toNat 0 < 0 then hIn len v r (out.set to.toNat v) (todo ++ [to])
    else hIn len v r out todo
def hBad (h pt op : Int) : Bool := decide (h < 0) || decide (64 < h + pt) || (decide (op = 27) && !decide (h = 0))
def hF (m : Md) (f : Int) (code : List Ins) : Nat → List Int → List Int → Option (List Int)
  | 0, _, _ => none
  | n + 1, out, todo => match todo.getLast? with
    | none => some out
    | some a => match code[a.toNat]? with
      | none => none
      | some i =>
        if hBad (out.getD a.toNat 0 - (effM m f i).1) (effM m f i).2.1 i.op = true then none
        else match hIn code.length (out.getD a.toNat 0 - (effM m f i).1 + (effM m f i).2.1) (nextM a i) out todo.dropLast with
          | none => none
          | some (out', todo') => hF m f code n out' todo'
def heightsM (m : Md) (f : Int) (code : List Ins) : Option (List Int) := hF m f code (code.length + 1) ((List.replicate code.length (-1)).set 0 0) [0]
def hRes (r : Option (List Int)) (H : Hp) : V := .tup [.ref H.length [] 1 0 (r.getD []).length, .v (.bool r.isSome)]
def hHp (r : Option (List Int)) (H : Hp) : Hp := H ++ [some (1, (r.getD []).map (row1 .i64))]
noncomputable def sHeights0 : Spec where
  modes := []
  f := fun args H => match args with
    | [x, .v (.int .i64 f)] => match unMd x with
      | some m => match m.funcs[f.toNat]? with
        | some fn => if 0 ≤ f ∧ rightM m = true ∧ staticF m f fn = -1 then some (hRes (heightsM m f fn.code) H, hHp (heightsM m f fn.code) H) else none
        | none => none
      | none => none
    | _ => none
theorem rightM_fn {m : Md} (h : rightM m = true) {i : Nat} {fn : Fn} (hf : m.funcs[i]? = some fn) : fnR fn = true := by
  simp only [rightM, Bool.and_eq_true] at h
  exact List.all_eq_true.1 h.2 _ (List.mem_of_getElem? hf)
def effQ (r : Int × Int × Bool) : Prop := 0 ≤ r.1 ∧ r.1 ≤ 8 ∧ 0 ≤ r.2.1 ∧ r.2.1 ≤ 2
theorem effQ_ite {c : Prop} [Decidable c] {x y : Int × Int × Bool} (h1 : c → effQ x) (h2 : ¬ c → effQ y) : effQ (if c then x else y) := by
  by_cases h : c
  · rw [if_pos h]; exact h1 h
  · rw [if_neg h]; exact h2 h
theorem effM_range {m : Md} (h : rightM m = true) (f : Int) (i : Ins) : 0 ≤ (effM m f i).1 ∧ (effM m f i).1 ≤ 8 ∧ 0 ≤ (effM m f i).2.1 ∧ (effM m f i).2.1 ≤ 2 := by
  have hfn : ∀ k : Nat, 0 ≤ (m.funcs[k]?).elim 0 (·.results) ∧ (m.funcs[k]?).elim 0 (·.results) ≤ 1 ∧ 0 ≤ (m.funcs[k]?).elim 0 (·.params) ∧ (m.funcs[k]?).elim 0 (·.params) ≤ 8 := by
    intro k
    cases hk : m.funcs[k]? with
    | none => simp
    | some fn =>
      have := rightM_fn h hk
      simp only [fnR, Bool.and_eq_true, decide_eq_true_eq] at this
      show 0 ≤ fn.results ∧ fn.results ≤ 1 ∧ 0 ≤ fn.params ∧ fn.params ≤ 8
      omega
  have hh : hostM i.n ≤ 3 := by
    unfold hostM
    split
    · omega
    · have : i.n.toNat < 12 := by omega
      have h2 : ∀ j, j < 12 → hostT.getD j 0 ≤ 3 := by decide
      exact h2 _ this
  have h1 := hfn f.toNat
  have h2 := hfn i.n.toNat
  show effQ (effM m f i)
  unfold effM
  have q0 : effQ (0, 0, false) := ⟨by decide, by decide, by decide, by decide⟩
  have q00 : effQ (0, 0, true) := ⟨by decide, by decide, by decide, by decide⟩
  have q01 : effQ (0, 1, true) := ⟨by decide, by decide, by decide, by decide⟩
  have q10 : effQ (1, 0, true) := ⟨by decide, by decide, by decide, by decide⟩
  have q12 : effQ (1, 2, true) := ⟨by decide, by decide, by decide, by decide⟩
  have q22 : effQ (2, 2, true) := ⟨by decide, by decide, by decide, by decide⟩
  have q11 : effQ (1, 1, true) := ⟨by decide, by decide, by decide, by decide⟩
  have q20 : effQ (2, 0, true) := ⟨by decide, by decide, by decide, by decide⟩
  have q21 : effQ (2, 1, true) := ⟨by decide, by decide, by decide, by decide⟩
  refine effQ_ite (fun _ => q0) (fun _ => ?_)
  refine effQ_ite (fun _ => q00) (fun _ => ?_)
  refine effQ_ite (fun _ => q01) (fun _ => ?_)
  refine effQ_ite (fun _ => q10) (fun _ => ?_)
  refine effQ_ite (fun _ => q12) (fun _ => ?_)
  refine effQ_ite (fun _ => q22) (fun _ => ?_)
  refine effQ_ite (fun _ => q11) (fun _ => ?_)
  refine effQ_ite (fun _ => q20) (fun _ => ?_)
  refine effQ_ite (fun _ => ⟨h1.1, by have := h1.2.1; dsimp only; omega, by dsimp only; omega, by dsimp only; omega⟩) (fun _ => ?_)
  refine effQ_ite (fun _ => effQ_ite (fun _ => ⟨h2.2.2.1, h2.2.2.2, h2.1, by have := h2.2.1; dsimp only; omega⟩) (fun _ => q0)) (fun _ => ?_)
  refine effQ_ite (fun _ => effQ_ite (fun h => ⟨h, by dsimp only; omega, by dsimp only; omega, by dsimp only; omega⟩) (fun _ => q0)) (fun _ => ?_)
  exact effQ_ite (fun _ => q21) (fun _ => q0)
/-- What jumps is within the code. -/
theorem nextM_range {m : Md} {f : Int} {fn : Fn} (h : staticF m f fn = -1) {a : Nat} (ha : a < fn.code.length) {i : Ins} (hi : fn.code[a]? = some i) : ∀ to ∈ nextM a i, 0 ≤ to ∧ to ≤ fn.code.length := by
  have hok : insOk m f fn i = true := by
    unfold staticF at h
    split at h
    · omega
    · rename_i hn
      rw [List.findIdx?_eq_none_iff] at hn
      have := hn i (List.mem_of_getElem? hi)
      simpa using this
  intro to hto
  unfold nextM at hto
  unfold insOk at hok
  split at hto
  · cases hto
  split at hto
  · rename_i h24
    rw [if_neg (by omega), if_pos (by omega)] at hok
    simp at hok hto
    omega
  split at hto
  · rename_i h24 h25
    rw [if_neg (by omega), if_pos (by omega)] at hok
    simp at hok hto
    omega
  · simp at hto
    omega
/-- How many have no height yet. -/
def negs (out : List Int) : Nat := out.countP (fun h => decide (h < 0))
theorem rep_set {α : Type} {i n : Nat} (h : i < n) (x y : α) : List.replicate (i + 1) x ++ List.replicate (n - (i + 1)) y = List.replicate i x ++ (List.replicate (n - i) y).set 0 x := by
  obtain ⟨m, hm⟩ : ∃ m, n - i = m + 1 := ⟨n - i - 1, by omega⟩
  rw [show n - (i + 1) = m by omega, hm, List.replicate_succ (n := m), List.set_cons_zero, List.replicate_succ' (n := i)]
  simp
structure HInv (m : Md) (f : Int) (code : List Ins) (n : Nat) (out todo : List Int) : Prop where
  len : out.length = code.length
  td : ∀ t ∈ todo, 0 ≤ t ∧ t < code.length
  rng : ∀ o ∈ out, -1 ≤ o ∧ o ≤ 64
  fuel : negs out + todo.length < n
  nle : n ≤ code.length + 1
  eq : hF m f code n out todo = heightsM m f code
theorem heights_init {m : Md} {f : Int} {code : List Ins} (h : 0 < code.length) : HInv m f code (code.length + 1) ((List.replicate code.length (-1)).set 0 0) [0] := by
  obtain ⟨k, hk⟩ : ∃ k, code.length = k + 1 := ⟨code.length - 1, by omega⟩
  refine ⟨by simp, by simp; omega, fun o ho => ?_, ?_, Nat.le_refl _, rfl⟩
  · rcases List.mem_or_eq_of_mem_set ho with h1 | h1
    · rw [List.mem_replicate] at h1; omega
    · omega
  · rw [hk, List.replicate_succ, List.set_cons_zero]
    have : negs (0 :: List.replicate k (-1)) ≤ k := by
      unfold negs
      rw [List.countP_cons]
      have := List.countP_le_length (p := fun h : Int => decide (h < 0)) (l := List.replicate k (-1))
      simp at this ⊢
      exact this
    simp
    omega
/-- Behind the places that come next. -/
def hK (m : Md) (f : Int) (code : List Ins) (n : Nat) : Option (List Int × List Int) → Option (List Int)
  | none => none
  | some (o, t) => hF m f code n o t
structure HIn (m : Md) (f : Int) (code : List Ins) (n : Nat) (v : Int) (r out todo : List Int) : Prop where
  len : out.length = code.length
  td : ∀ t ∈ todo, 0 ≤ t ∧ t < code.length
  rng : ∀ o ∈ out, -1 ≤ o ∧ o ≤ 64
  fuel : negs out + todo.length < n
  nle : n ≤ code.length
  eq : hK m f code n (hIn code.length v r out todo) = heightsM m f code
theorem negs_set {out : List Int} {i : Nat} (hi : i < out.length) (h : out[i] < 0) {v : Int} (hv : 0 ≤ v) : negs (out.set i v) + 1 = negs out := by
  unfold negs
  rw [List.countP_set hi]
  have : 0 < List.countP (fun h => decide (h < 0)) out := List.countP_pos_iff.2 ⟨out[i], List.getElem_mem hi, by simpa using h⟩
  have hv' : ¬ v < 0 := by omega
  simp [hi, hv', h]
  omega
noncomputable def sp48 : Nat → Option Spec
  | 26 => some (sEffect)
  | 63 => some (sNext)
  | _ => none
theorem sp48_ok : ∀ f s, sp48 f = some s → Meets PP f s := by
  intro f s h
  unfold sp48 at h
  split at h
  · injection h with h; subst h; exact mEffect
  · injection h with h; subst h; exact mNext
  · cases h
set_option maxHeartbeats 40000000 in
theorem mHeights0 : Meets PP 48 (sHeights0) := by
  refine meets (dr := drF tab48 PP sp48) (live := live48) fn48 rfl rfl rfl sp48_ok (fun base ak => drF_ok mixed sp48_ok _ base ak) ?_
  intro args H z H' h
  simp only [sHeights0] at h
  repeat (split at h <;> try cases h)
  rename_i x f _ m hm _ fn hfn hr
  refine ⟨(by decide : 2 ≤ 140), ?_⟩
  rw [unMd_eq hm]
  obtain ⟨hf0, hR, hst⟩ := hr
  have hfr := rightM_fn hR hfn
  have heff := effM_range hR f
  obtain ⟨a, b, c⟩ := m
  have hnx := fun (k : Nat) (hk : k < fn.code.length) (i : Ins) (hi : fn.code[k]? = some i) => nextM_range hst hk hi
  obtain ⟨pa, re, lo, code⟩ := fn
  simp only [fnR, Bool.and_eq_true, decide_eq_true_eq] at hfr
  obtain ⟨⟨⟨⟨⟨⟨⟨⟨r1, r2⟩, r3⟩, r4⟩, r5⟩, r6⟩, r7⟩, r8⟩, r9⟩ := hfr
  simp only at hfn hnx
  have hfl : f.toNat < c.length := lt_of_get hfn
  have hfl2 : f < (c.length : Int) := by omega
  have hg : c[f.toNat] = ⟨pa, re, lo, code⟩ := by rw [List.getElem?_eq_getElem hfl] at hfn; exact Option.some.inj hfn
  have hcl : 8 * (code.length : Int) ≤ 281474976710656 := by omega
  have hcl2 : (code.length : Int) ≤ 9223372036854775807 := by omega
  simp [mdV, hf0, hfl, hfl2, hg, fnRow, hcl, hcl2]
  generalize kdirs sHeights0.modes _ = ak
  refine wpX_loopG (fun i : Nat => i ≤ code.length) (fun i => ⟨[(1, .v (.int .i64 f)), (2, .ptr H.length [] 0 0), (6, .fs 2 (code.map insRow)), (7, .ref (H.length + 2) [] 1 0 code.length), (27, .v (.int .i64 code.length)), (28, .v (.int .i64 i))], H ++ [some (3, [[.v (.int .i64 a), .fs 1 (b.map (row1 .u8)), .fs 4 (c.map fnRow)]]), some (1, []), some (1, (List.replicate i (-1) ++ List.replicate (code.length - i) 0).map (row1 .i64))]⟩) (fun i => code.length - i) 0 (Nat.zero_le _) ?_ ?_
  · simp [row1]
  · intro i hi
    have hw1 : i < code.length → IntKind.i64.wrap ((i : Int) + 1) = (i : Int) + 1 := fun h => w64 (by omega) (by omega)
    have hlen : i + (code.length - i) = code.length := by omega
    simp
    refine IteP.dec (fun hlt => ?_) (fun hlt => ?_)
    · simp [hlt, hw1 hlt, hlen, row1]
      exact ⟨i + 1, by omega, ⟨rep_set hlt _ _, by simp⟩, by omega⟩
    · obtain rfl : i = code.length := by omega
      have r7' : 0 < code.length := by omega
      have e0 : (List.replicate code.length (row1 .i64 (-1))).set 0 (row1 .i64 0) = ((List.replicate code.length (-1 : Int)).set 0 0).map (row1 .i64) := by rw [List.map_set, List.map_replicate]
      have e1 : (List.replicate code.length [V.v (.int .i64 (-1))]).set 0 [V.v (.int .i64 0)] = ((List.replicate code.length (-1 : Int)).set 0 0).map (row1 .i64) := e0
      simp [r7', row1]
      rw [e1]
      have hI0 := heights_init (m := ⟨a, b, c⟩) (f := f) r7'
      generalize (List.replicate code.length (-1 : Int)).set 0 0 = out0 at *
      clear e0 e1
      refine wpX_loopG (fun q : Nat × List Int × List Int × List Int => HInv ⟨a, b, c⟩ f code q.1 q.2.1 q.2.2.1) (fun q => ⟨[(1, .v (.int .i64 f)), (2, .ptr H.length [] 0 0), (6, .fs 2 (code.map insRow)), (7, .ref (H.length + 2) [] 1 0 code.length), (9, .ref (H.length + 3) [] 1 0 q.2.2.1.length)], H ++ [some (3, [[.v (.int .i64 a), .fs 1 (b.map (row1 .u8)), .fs 4 (c.map fnRow)]]), some (1, []), some (1, q.2.1.map (row1 .i64)), some (1, (q.2.2.1 ++ q.2.2.2).map (row1 .i64))]⟩) (fun q => q.1) (code.length + 1, out0, [0], []) hI0 ?_ ?_
      · simp [row1]
      · rintro ⟨n, out, todo, junk⟩ hinv
        have hinv : HInv ⟨a, b, c⟩ f code n out todo := hinv
        simp
        refine IteP.dec (fun h0 => ?_) (fun h0 => ?_)
        · obtain ⟨k, hk⟩ : ∃ k, todo.length = k + 1 := ⟨todo.length - 1, by omega⟩
          obtain ⟨at_, td, rfl⟩ : ∃ at_ td, todo = td ++ [at_] := ⟨todo.getLast (by intro e; simp [e] at h0), todo.dropLast, (List.dropLast_concat_getLast _).symm⟩
          have hat := hinv.td at_ (by simp)
          have hkl : td.length = k := by simpa using hk
          obtain ⟨n', rfl⟩ : ∃ n', n = n' + 1 := ⟨n - 1, by have := hinv.fuel; omega⟩
          have hkb : k ≤ 400 := by have h1 := hinv.fuel; have h2 := hinv.nle; rw [hk] at h1; omega
          obtain ⟨p, rfl⟩ : ∃ p : Nat, at_ = (p : Int) := ⟨at_.toNat, by omega⟩
          have hp : p < code.length := by omega
          have hpo : p < out.length := by rw [hinv.len]; exact hp
          have hw1 : IntKind.i64.wrap (k : Int) = (k : Int) := w64 (by omega) (by omega)
          have hef := heff code[p]
          have hov := hinv.rng out[p] (List.getElem_mem hpo)
          obtain ⟨⟨op, nn⟩, hins⟩ : ∃ q, code[p] = q := ⟨_, rfl⟩
          rw [hins] at hef
          have hlo := hinv.len
          obtain ⟨tk, htk⟩ : ∃ q, (effM ⟨a, b, c⟩ f ⟨op, nn⟩).1 = q := ⟨_, rfl⟩
          obtain ⟨pt, hpt⟩ : ∃ q, (effM ⟨a, b, c⟩ f ⟨op, nn⟩).2.1 = q := ⟨_, rfl⟩
          obtain ⟨ov, hov2⟩ : ∃ q, out[p] = q := ⟨_, rfl⟩
          rw [htk, hpt] at hef
          rw [hov2] at hov
          have hw2 : IntKind.i64.wrap (ov - tk) = ov - tk := w64 (by omega) (by omega)
          have hw3 : IntKind.i64.wrap (ov - tk + pt) = ov - tk + pt := w64 (by omega) (by omega)
          have hk1 : (k : Int) < (k : Int) + 1 := by omega
          simp [hkl, hk1, hw1, hw2, hw3, hp, hpo, hlo, hins, insRow, htk, hpt, hov2, row1]
          refine DrP.intro (by decide) ?_
          simp [hkl, hw1, hw2, hw3, hp, hpo, hlo, hins, insRow, htk, hpt, hov2, row1, sp48, sEffect]
          have hF1 : hF ⟨a, b, c⟩ f code (n' + 1) out (td ++ [(p : Int)]) = if hBad (ov - tk) pt op = true then none else hK ⟨a, b, c⟩ f code n' (hIn code.length (ov - tk + pt) (nextM p ⟨op, nn⟩) out td) := by
            simp [hF, hins, hp, hpo, htk, hpt, hov2, List.getLast?_concat]
            rfl
          have heq := hinv.eq
          rw [hF1] at heq
          show IteP (hBad (ov - tk) pt op) _ _ _
          refine IteP.intro (fun hb => ?_) (fun hb => ?_)
          · rw [if_pos hb] at heq
            simp [← heq, hRes, hHp]
          · rw [if_neg (by simp [hb])] at heq
            have hb2 : 0 ≤ ov - tk ∧ ov - tk + pt ≤ 64 := by
              simp [hBad] at hb; omega
            have hpb : (p : Int) ≤ 2^40 := by have : (p : Int) ≤ 400 := by omega
                                              omega
            have hpb' : (p : Int) ≤ 1099511627776 := hpb
            have htos := hnx p hp ⟨op, nn⟩ (by rw [List.getElem?_eq_getElem hp, hins])
            simp [hp, hins, insRow, sp48, sNext, hpb']
            generalize hts : nextM p ⟨op, nn⟩ = tos at *
            have hI1 : HIn ⟨a, b, c⟩ f code n' (ov - tk + pt) tos out td := ⟨hinv.len, fun t ht => hinv.td t (by simp [ht]), hinv.rng, by have := hinv.fuel; simp at this; omega, by have := hinv.nle; omega, heq⟩
            refine wpX_loopG (fun q : Nat × List Int × List Int × List Int => q.1 ≤ tos.length ∧ HIn ⟨a, b, c⟩ f code n' (ov - tk + pt) (tos.drop q.1) q.2.1 q.2.2.1) (fun q => ⟨[(1, .v (.int .i64 f)), (2, .ptr H.length [] 0 0), (6, .fs 2 (code.map insRow)), (7, .ref (H.length + 2) [] 1 0 code.length), (9, .ref (H.length + 3) [] 1 0 q.2.2.1.length), (12, .v (.int .i64 pt)), (14, .v (.int .i64 (ov - tk))), (94, .fs 1 (tos.map (row1 .i64))), (95, .v (.int .i64 tos.length)), (96, .v (.int .i64 q.1))], H ++ [some (3, [[.v (.int .i64 a), .fs 1 (b.map (row1 .u8)), .fs 4 (c.map fnRow)]]), some (1, []), some (1, q.2.1.map (row1 .i64)), some (1, (q.2.2.1 ++ q.2.2.2).map (row1 .i64))]⟩) (fun q => tos.length - q.1) (0, out, td, p :: junk) ⟨Nat.zero_le _, hI1⟩ ?_ ?_
            · simp [row1, hkl]
            · rintro ⟨j, out, todo, junk⟩ ⟨hj, hinv⟩
              have hinv : HIn ⟨a, b, c⟩ f code n' (ov - tk + pt) (tos.drop j) out todo := hinv
              simp
              refine IteP.dec (fun h0 => ?_) (fun h0 => ?_)
              · have hmem : tos[j] ∈ tos := List.getElem_mem h0
                obtain ⟨q, hq, hql⟩ : ∃ q : Nat, tos[j] = (q : Int) ∧ q ≤ code.length := ⟨tos[j].toNat, by have := htos _ hmem; omega, by have := htos _ hmem; omega⟩
                have hdrop : tos.drop j = (q : Int) :: tos.drop (j + 1) := by rw [List.drop_eq_getElem_cons h0, hq]
                have heq2 := hinv.eq
                rw [hdrop] at heq2
                simp only [hIn, Int.toNat_natCast, Int.natCast_inj] at heq2
                have hlo := hinv.len
                have htl : tos.length ≤ 2 := by rw [← hts]; unfold nextM; repeat' split
                                                all_goals simp
                have hwj : IntKind.i64.wrap ((j : Int) + 1) = (j : Int) + 1 := w64 (by omega) (by omega)
                by_cases hqc : q = code.length
                · rw [if_pos (.inl hqc)] at heq2
                  simp only [hK] at heq2
                  simp [h0, hq, hqc, ← heq2, hRes, hHp, row1]
                · have hqlt : q < code.length := by omega
                  have hqo : q < out.length := by omega
                  have hqI : ¬ (q : Int) = (code.length : Int) := by omega
                  obtain ⟨o, ho⟩ : ∃ o, out[q] = o := ⟨_, rfl⟩
                  have hor := hinv.rng out[q] (List.getElem_mem hqo)
                  rw [ho] at hor
                  have hgd : out.getD q 0 = o := by rw [getD_lt _ _ hqo, ho]
                  rw [hgd] at heq2
                  by_cases hneg : o < 0
                  · have hng : ¬ 0 ≤ o := by omega
                    rw [if_neg (by omega), if_pos hneg] at heq2
                    have hap : (todo.length + 1) * 8 ≤ 140737488355328 := by have := hinv.fuel; have := hinv.nle; omega
                    simp [h0, hq, hqc, hqI, hlo, hqlt, hqo, ho, hneg, hng, hw3, hwj, hap, row1]
                    have hset : (List.map (row1 .i64) out).set q (row1 .i64 (ov - tk + pt)) = List.map (row1 .i64) (out.set q (ov - tk + pt)) := by rw [List.map_set]
                    have hset' : (List.map (row1 .i64) out).set q [V.v (.int .i64 (ov - tk + pt))] = List.map (row1 .i64) (out.set q (ov - tk + pt)) := hset
                    have hI2 : HIn ⟨a, b, c⟩ f code n' (ov - tk + pt) (tos.drop (j + 1)) (out.set q (ov - tk + pt)) (todo ++ [(q : Int)]) := by
                      refine ⟨by simpa using hlo, fun t ht => ?_, fun o' ho' => ?_, ?_, hinv.nle, heq2⟩
                      · rcases List.mem_append.1 ht with h1 | h1
                        · exact hinv.td t h1
                        · simp at h1; omega
                      · rcases List.mem_or_eq_of_mem_set ho' with h1 | h1
                        · exact hinv.rng _ h1
                        · omega
                      · have h1 := negs_set hqo (by rw [ho]; exact hneg) (v := ov - tk + pt) (by omega)
                        have := hinv.fuel
                        simp
                        omega
                    rw [hset']
                    by_cases hjk : junk = []
                    · subst hjk
                      simp [hap]
                      exact ⟨j + 1, out.set q (ov - tk + pt), todo ++ [(q : Int)], ⟨by omega, hI2⟩, ⟨⟨hset.symm, [], by simp [row1]⟩, by simp, by rw [hwj]; simp⟩, by omega⟩
                    · simp [hap, hjk, List.take_append_of_le_length]
                      exact ⟨j + 1, out.set q (ov - tk + pt), todo ++ [(q : Int)], ⟨by omega, hI2⟩, ⟨⟨hset.symm, [], by simp [row1]⟩, by simp, by rw [hwj]; simp⟩, by omega⟩
                  · have hng : 0 ≤ o := by omega
                    by_cases hne : o = ov - tk + pt
                    · rw [if_neg (by omega), if_neg (by omega)] at heq2
                      have hvn : ¬ ov - tk + pt < 0 := by omega
                      have hvn2 : 0 ≤ ov - tk + pt := by omega
                      simp [h0, hq, hqc, hqI, hlo, hqlt, hqo, ho, hneg, hng, hne, hw3, hwj, hvn, hvn2, row1]
                      refine ⟨j + 1, out, todo, ⟨by omega, hinv.len, hinv.td, hinv.rng, hinv.fuel, hinv.nle, heq2⟩, ⟨⟨rfl, junk, rfl⟩, rfl, ?_⟩, by omega⟩
                      simp [hwj]
                    · rw [if_pos (by omega)] at heq2
                      simp only [hK] at heq2
                      simp [h0, hq, hqc, hqI, hlo, hqlt, hqo, ho, hneg, hng, hne, hw3, hwj, row1, ← heq2, hRes, hHp]
              · simp
                have hjl : j = tos.length := by omega
                have heq2 := hinv.eq
                rw [hjl, List.drop_length] at heq2
                exact ⟨n', out, todo, ⟨hinv.len, hinv.td, hinv.rng, hinv.fuel, by have := hinv.nle; omega, heq2⟩, ⟨⟨rfl, junk, rfl⟩, rfl⟩, by omega⟩
        · have htd : todo = [] := List.length_eq_zero_iff.1 (by omega)
          subst htd
          obtain ⟨n', rfl⟩ : ∃ n', n = n' + 1 := ⟨n - 1, by have := hinv.fuel; omega⟩
          have heq := hinv.eq
          simp [hF] at heq
          simp [← heq, hRes, hHp, hinv.len]
end Go.Eng.M
