/- A part of the proof: contracts of functions, each proved once. -/
import Derived.Test.YtgbgmkacpjbilaaDoorT33
namespace Go.Eng.G
open Go Go.Eng Go.Proofs
set_option maxRecDepth 100000
set_option linter.unusedSimpArgs false
set_option linter.unusedSectionVars false
set_option linter.unusedVariables false
variable [GV]
def sp5 : Nat → Option Spec
  | 6 => some sAlive
  | 15 => some (sR isRuneG)
  | 16 => some sWidth
  | 17 => some sBytes
  | 18 => some sRunes
  | _ => none
theorem sp5_ok : ∀ f s, sp5 f = some s → Meets PP f s := by
  intro f s h
  unfold sp5 at h
  split at h <;> cases h
  · exact mAlive
  · exact mIsRune
  · exact mWidth
  · exact mBytes
  · exact mRunes
def sOnes : Spec where
  modes := []
  f := fun args H => match args with
    | [.v (.int .i32 r), .v (.int .i32 s), .v (.int .i64 n)] => if -2147483648 ≤ r ∧ r ≤ 2147483647 then some (.v (.bool true), H) else none
    | _ => none
theorem wd800 : widthG 55296 = 0 := by decide
theorem width_no {r : Int} (h1 : -2147483648 ≤ r) (h2 : r ≤ 2147483647) (h : isRuneG r = false) : widthG r = 0 := by
  rw [width_eq r h1 h2]; simp [refWidthG, h]
theorem and3 (n : Int) : 0 ≤ andI .i64 n 3 ∧ andI .i64 n 3 ≤ 3 := by
  unfold andI
  have h : (BitVec.ofInt IntKind.i64.bits n &&& BitVec.ofInt IntKind.i64.bits 3).toNat ≤ 3 := by
    rw [BitVec.toNat_and]
    exact Nat.le_trans Nat.and_le_right (by decide)
  rw [w64 (by omega) (by omega)]
  omega
theorem aC_take (k : IntKind) (m : Nat) (xs : List Int) : allCopies (List.take m (List.map (row1 k) xs)) = true := by
  rw [← List.map_take]; exact allCopies_map k _
set_option maxHeartbeats 8000000 in
theorem mOnes : Meets PP 5 sOnes := by
  refine meets (dr := drF tab5 PP sp5) (live := live5) fn5 rfl rfl rfl sp5_ok (fun base ak => drF_ok mixed sp5_ok _ base ak) ?_
  intro args H z H' h
  simp only [sOnes] at h
  split at h <;> try cases h
  rename_i r s n
  split at h <;> cases h
  rename_i hc
  obtain ⟨h1, h2⟩ := hc
  refine ⟨(by decide : 3 ≤ 99), ?_⟩
  generalize kdirs sOnes.modes _ = ak
  simp [sp5, sAlive, sR]
  cases hr : isRuneG r with
  | false =>
    have hw := width_no h1 h2 hr
    simp [sp5, sWidth, wd800, hr, sR, hw]
  | true =>
    cases hs : isRuneG s with
    | false => simp [sp5, sWidth, wd800, hr, hs, sR]
    | true =>
      have er : encAll [r] = encN r := by simp [encAll, encG_eq hr]
      have es : encAll [s] = encN s := by simp [encAll, encG_eq hs]
      obtain ⟨b1, b2, b3⟩ := encN_bytes hr
      obtain ⟨c1, c2, c3⟩ := encN_bytes hs
      have hdr := decAll_enc hr
      have hdp := dec_prefix hr hs
      have hl1 : (encN r).length ≤ 35184372088832 := by omega
      have hl2 : (encN s).length ≤ 35184372088832 := by omega
      have hz1 : ¬ ((encN r).length : Int) < 1 := by omega
      have hz2 : ¬ (4 : Int) < ((encN r).length : Int) := by omega
      have hz3 : ((encN s).length : Int) ≠ 0 := by omega
      have ha3 := and3 n
      simp [sp5, sWidth, wd800, hr, hs, sR, sBytes, slcI_lit, er, es, fresh, slcI_root, sRunes, b1, hdr, hl1, hl2, hz1, hz2, hz3, encN_ne, unI_take, unI_nil, unI_cons, row1]
      generalize hmm : (andI .i64 n 3).tmod ((encN s).length : Int) = m
      have hm0 : 0 ≤ m := by rw [← hmm]; exact Int.tmod_nonneg _ ha3.1
      have hm1 : m < ((encN s).length : Int) := by rw [← hmm]; exact Int.tmod_lt_of_pos _ (by omega)
      obtain ⟨m, rfl⟩ : ∃ q : Nat, m = q := ⟨m.toNat, by omega⟩
      have hm2 : m < (encN s).length := by omega
      have hmin : min m (encN s).length = m := by omega
      have hdm := hdp m hm2
      have hB : isBytes ((encN s).take m) = true := by
        unfold isBytes at *
        rw [List.all_eq_true] at *
        exact fun x hx => c1 x (List.mem_of_mem_take hx)
      have hq1 : m ≤ (encN s).length := by omega
      have hq2 : m ≤ 140737488355328 := by omega
      have hq3 : m + (encN r).length ≤ 140737488355328 := by omega
      have hq4 : m + (encN r).length ≤ 35184372088832 := by omega
      have hq5 : IntKind.i64.wrap ((m : Int) + 1) = (m : Int) + 1 := w64 (by omega) (by omega)
      have hX : unI .u8 (List.take (m + (encN r).length) (List.take m (List.map (row1 .u8) (encN s)) ++ List.take (encN r).length (List.map (row1 .u8) (encN r)))) = some ((encN s).take m ++ encN r) := by
        rw [List.take_of_length_le (by simp; omega), unI_append, unI_take, unI_take, List.take_length]
      have hq6 : (m : Int) < (m : Int) + 1 := by omega
      simp [hX, hq6, sp5, hm0, hm1, hq1, hq2, hq3, hmin, slcI_root, sRunes, unI_append, unI_take, isBytes_append, hB, b1, hdm, hq4, hq5, fresh, row1, aC_take]
      obtain ⟨X, hXX⟩ : ∃ X : Hp, X = H ++ [some (1, (encN r).map (row1 .u8)), some (1, (encN s).map (row1 .u8)), some (1, [[.v (.int .i32 r)]]),
        some (1, List.take m (List.map (row1 .u8) (encN s)) ++ List.take (encN r).length (List.map (row1 .u8) (encN r))), some (1, List.replicate m [.v (.int .i32 65533)] ++ [[.v (.int .i32 r)]])] := ⟨_, rfl⟩
      have hx1 : X[H.length + 4]? = some (some (1, List.replicate m [.v (.int .i32 65533)] ++ [[.v (.int .i32 r)]])) := by rw [hXX]; simp
      obtain ⟨hx2, hx3⟩ := get_of hx1
      have hx4 : X.take H.length = H := by rw [hXX]; simp
      rw [← hXX]
      refine wpX_loop (fun i : Nat => i ≤ m) (fun i => ⟨[(90, .ref (H.length + 4) [] 1 0 m), (91, .v (.int .i64 m)), (92, .v (.int .i64 i))], X⟩) (fun i => m - i) 0 (by simp) (by simp) ?_
      rintro i hi
      simp
      refine IteP.dec (fun hlt => ?_) (fun hlt => ?_)
      · have hlt2 : i < m + 1 := by omega
        simp [hlt, hlt2, hx2, hx3]
        refine ⟨i + 1, by omega, ?_, by omega⟩
        rw [w64 (by omega) (by omega)]; simp
      · have hx5 : H.length ≤ X.length := by omega
        simp [hx4, hx5]
end Go.Eng.G
