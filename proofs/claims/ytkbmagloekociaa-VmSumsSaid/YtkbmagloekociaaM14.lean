/- A part of the proof: contracts of functions, each proved once. -/
import Derived.Test.YtkbmagloekociaaM13
namespace Go.Eng.M
open Go Go.Eng Go.Proofs
set_option maxRecDepth 100000
set_option linter.unusedSimpArgs false
set_option linter.unusedSectionVars false
set_option linter.unusedVariables false
variable [Globs]
@[simp] theorem allCopies_rep (n : Nat) (k : IntKind) (i : Int) : allCopies (List.replicate n [V.v (.int k i)]) = true := by
  have : List.replicate n [V.v (.int k i)] = (List.replicate n i).map (row1 k) := by rw [List.map_replicate]; rfl
  rw [this]; exact allCopies_map k _
attribute [simp] List.filterMap_cons noDupB
def locM (n : Nat) (args : List Int) : List Int := args.take n ++ List.replicate (n - args.length) 0
def sEnter : Spec where
  modes := [1]
  f := fun args H => match args with
    | [.ptr id [] 0 0, .v (.int .i64 f), x] => match mc H id with
      | some ⟨c0, c1, .fs 4 fr, mem, rows, asks, call, ag, trap⟩ => match fr[f.toNat]?, slcI .i64 H x with
        | some [.v (.int .i64 pa), .v (.int .i64 re), .v (.int .i64 lo), .fs 2 co], some xs => if 0 ≤ f ∧ 0 ≤ pa ∧ pa ≤ 100 ∧ 0 ≤ lo ∧ lo ≤ 100 ∧ xs.length ≤ 2^20 ∧ rows.length ≤ 2^20 then
            some (.tup [], H.set id (some (9, [(⟨c0, c1, .fs 4 fr, mem, rows ++ [frC (.v (.int .i64 f)) (.v (.int .i64 0)) ((locM (pa + lo).toNat xs).map (row1 .i64)) []], asks, call, ag, trap⟩ : Mc).cells]))) else none
        | _, _ => none
      | _ => none
    | _ => none
noncomputable def sp35 : Nat → Option Spec
  | _ => none
theorem sp35_ok : ∀ f s, sp35 f = some s → Meets PP f s := by
  intro f s h
  unfold sp35 at h
  cases h
set_option maxHeartbeats 20000000 in
theorem mEnter : Meets PP 35 (sEnter) := by
  refine meets (dr := drF tab35 PP sp35) (live := live35) fn35 rfl rfl rfl sp35_ok (fun base ak => drF_ok mixed sp35_ok _ base ak) ?_
  intro args H z H' h
  simp only [sEnter] at h
  repeat (split at h <;> try cases h)
  rename_i id f x _ c0 c1 fr mem rows asks call ag trap h1 _ _ pa re lo co xs hfr hx h3
  refine ⟨(by decide : 3 ≤ 37), ?_⟩
  obtain ⟨f0, p0, p1, l0, l1, hxl, hrl⟩ := h3
  have hxl' : xs.length ≤ 1048576 := hxl
  have hrl' : rows.length ≤ 1048576 := hrl
  have hfl : f.toNat < fr.length := lt_of_get hfr
  have hfg : fr[f.toNat] = [.v (.int .i64 pa), .v (.int .i64 re), .v (.int .i64 lo), .fs 2 co] := by rw [List.getElem?_eq_getElem hfl] at hfr; exact Option.some.inj hfr
  obtain ⟨hlt, h1, h1'⟩ := mc_eq h1
  have hne3 : ∀ j, ¬ id = H.length + j := by omega
  have hne4 : ∀ j, ¬ H.length + j = id := by omega
  have hne5 : ¬ id = H.length := by omega
  have hne6 : ¬ H.length = id := by omega
  have hf2 : f < (fr.length : Int) := by omega
  obtain ⟨n, hn⟩ : ∃ n : Nat, pa + lo = (n : Int) := ⟨(pa + lo).toNat, by omega⟩
  have hw : IntKind.i64.wrap (n : Int) = (n : Int) := w64 (by omega) (by omega)
  have hn8 : 8 * (n : Int) ≤ 281474976710656 := by omega
  have hn9 : (n : Int) ≤ 9223372036854775807 := by omega
  have e1 : n ≤ min n xs.length + (n - min n xs.length) := by omega
  have e2 : List.take n (List.take n (List.map (row1 .i64) xs) ++ List.replicate (n - min n xs.length) [V.v (.int .i64 0)]) = (locM n xs).map (row1 .i64) := by
    rw [List.take_of_length_le (by simp; omega)]
    simp only [locM, List.map_append, List.map_take, List.map_replicate, row1]
    congr 2
    omega
  have hr64 : (rows.length + 1) * 64 ≤ 140737488355328 := by omega
  simp [e1, e2, hr64, frC, sEnter, h1, h1', hlt, Mc.cells, f0, hf2, hfl, hfg, hn, hw, hn8, hn9, slcI_all hx, slcI_gall hx, hne3, hne4, hne5, hne6]
  rw [List.take_of_length_le (by simp)]
end Go.Eng.M
