/- A part of the proof: contracts of functions, each proved once. -/
import Derived.Test.YtkbmagloekociaaM10
namespace Go.Eng.M
open Go Go.Eng Go.Proofs
set_option maxRecDepth 100000
set_option linter.unusedSimpArgs false
set_option linter.unusedSectionVars false
set_option linter.unusedVariables false
variable [Globs]
/-- A machine's cells. -/
structure Mc where
  c0 : V
  c1 : V
  c2 : V
  mem : Rows
  rows : Rows
  asks : V
  call : V
  args : Rows
  trap : V
def Mc.cells (m : Mc) : List V := [m.c0, m.c1, m.c2, .own 1 m.mem, .own 4 m.rows, m.asks, m.call, .own 1 m.args, m.trap]
def mc (H : Hp) (id : Nat) : Option Mc :=
  match H[id]? with
  | some (some (9, [[c0, c1, c2, .own 1 c3, .own 4 rows, c5, c6, .own 1 c7, c8]])) => some ⟨c0, c1, c2, c3, rows, c5, c6, c7, c8⟩
  | _ => none
theorem mc_eq {H : Hp} {id : Nat} {m : Mc} (h : mc H id = some m) : ∃ hl : id < H.length, H[id]? = some (some (9, [m.cells])) ∧ H[id] = some (9, [m.cells]) := by
  unfold mc at h
  split at h
  · rename_i c0 c1 c2 c3 rows c5 c6 c7 c8 h1
    injection h with h
    subst h
    exact ⟨lt_of_get h1, h1, by rw [List.getElem?_eq_getElem (lt_of_get h1)] at h1; exact Option.some.inj h1⟩
  · cases h
theorem mc_of {H : Hp} {id : Nat} {m : Mc} (h : H[id]? = some (some (9, [m.cells]))) : mc H id = some m := by simp [mc, h, Mc.cells]
/-- The last frame. -/
def lastF (rows : Rows) : Option (Rows × V × V × Rows × Rows) :=
  match rows.getLast? with
  | some [a, b, .own 1 c, .own 1 st] => some (rows.dropLast, a, b, c, st)
  | _ => none
theorem lastF_eq {rows R : Rows} {a b : V} {c st : Rows} (h : lastF rows = some (R, a, b, c, st)) : rows = R ++ [[a, b, .own 1 c, .own 1 st]] := by
  unfold lastF at h
  split at h
  · rename_i a' b' c' st' h1
    simp only [Option.some.injEq, Prod.mk.injEq] at h
    obtain ⟨rfl, rfl, rfl, rfl, rfl⟩ := h
    rw [List.getLast?_eq_some_iff] at h1
    obtain ⟨ys, rfl⟩ := h1
    simp
  · cases h
@[simp] theorem lastF_concat (R : Rows) (a b : V) (c st : Rows) : lastF (R ++ [[a, b, .own 1 c, .own 1 st]]) = some (R, a, b, c, st) := by simp [lastF]
def frC (a b : V) (c st : Rows) : List V := [a, b, .own 1 c, .own 1 st]
/-- push onto the stack of a machine's last frame. -/
def sPush : Spec where
  modes := [1]
  f := fun args H => match args with
    | [.ptr id [(0, 4)] i 0, .v (.int .i64 x)] => match mc H id with
      | some m => match lastF m.rows with
        | some (R, a, b, c, st) => if i = R.length ∧ st.length ≤ 2^20 then some (.tup [], H.set id (some (9, [{ m with rows := R ++ [frC a b c (st ++ [row1 .i64 x])] }.cells]))) else none
        | none => none
      | none => none
    | _ => none
noncomputable def sp38 : Nat → Option Spec
  | _ => none
theorem sp38_ok : ∀ f s, sp38 f = some s → Meets PP f s := by
  intro f s h
  unfold sp38 at h
  cases h
set_option maxHeartbeats 4000000 in
theorem mPush : Meets PP 38 (sPush) := by
  refine meets (dr := drF tab38 PP sp38) (live := live38) fn38 rfl rfl rfl sp38_ok (fun base ak => drF_ok mixed sp38_ok _ base ak) ?_
  intro args H z H' h
  simp only [sPush] at h
  repeat (split at h <;> try cases h)
  rename_i id i x _ m h1 _ R a b c st h2 h3
  refine ⟨(by decide : 2 ≤ 14), ?_⟩
  obtain ⟨rfl, h3⟩ := h3
  obtain ⟨c0, c1, c2, mem, rows, asks, call, args, trap⟩ := m
  have h2 := lastF_eq h2
  simp only at h2
  subst h2
  obtain ⟨hlt, h1, h1'⟩ := mc_eq h1
  have h3' : (st.length + 1) * 8 ≤ 140737488355328 := by have : st.length ≤ 1048576 := h3; omega
  have hne : ¬ H.length = id := by omega
  have hne2 : ¬ id = H.length := by omega
  simp [sPush, hne, hne2, h1, h1', hlt, Mc.cells, h3', List.take_of_length_le, row1, frC]
def sTop : Spec where
  modes := []
  f := fun args H => match args with
    | [.ptr id [] 0 0] => match mc H id with
      | some m => if 0 < m.rows.length ∧ m.rows.length ≤ 2^20 then some (.ptr id [(0, 4)] (m.rows.length - 1) 0, H) else none
      | none => none
    | _ => none
noncomputable def sp37 : Nat → Option Spec
  | _ => none
theorem sp37_ok : ∀ f s, sp37 f = some s → Meets PP f s := by
  intro f s h
  unfold sp37 at h
  cases h
set_option maxHeartbeats 4000000 in
theorem mTop : Meets PP 37 (sTop) := by
  refine meets (dr := drF tab37 PP sp37) (live := live37) fn37 rfl rfl rfl sp37_ok (fun base ak => drF_ok mixed sp37_ok _ base ak) ?_
  intro args H z H' h
  simp only [sTop] at h
  repeat (split at h <;> try cases h)
  rename_i id _ m h1 h3
  refine ⟨(by decide : 1 ≤ 14), ?_⟩
  obtain ⟨c0, c1, c2, mem, rows, asks, call, args, trap⟩ := m
  obtain ⟨hlt, h1, h1'⟩ := mc_eq h1
  simp only at h3
  obtain ⟨h3, h4⟩ := h3
  have h4' : rows.length ≤ 1048576 := h4
  simp [sTop, h1, h1', hlt, Mc.cells]
  refine DrP.intro (by decide) ?_
  have hw : IntKind.i64.wrap ((rows.length : Int) - 1) = (rows.length : Int) - 1 := w64 (by omega) (by omega)
  have hz : (1 : Int) ≤ (rows.length : Int) := by omega
  have hz2 : (rows.length : Int) - 1 < (rows.length : Int) := by omega
  have ht : ((rows.length : Int) - 1).toNat = rows.length - 1 := by omega
  simp [sTop, h1, h1', hlt, Mc.cells, h3, h4, hw, hz, hz2, ht]
/-- take from the stack of a machine's last frame. -/
def sTake : Spec where
  modes := [1]
  f := fun args H => match args with
    | [.ptr id [(0, 4)] i 0, .v (.int .i64 n)] => match mc H id with
      | some m => match lastF m.rows with
        | some (R, a, b, c, st) => match unI .i64 st with
          | some xs => if i = R.length ∧ 0 ≤ n ∧ n ≤ (xs.length : Int) ∧ xs.length ≤ 2^20 then
              some (.ref H.length [] 1 0 n.toNat, H.set id (some (9, [{ m with rows := R ++ [frC a b c ((xs.take (xs.length - n.toNat)).map (row1 .i64))] }.cells])) ++ [some (1, (xs.drop (xs.length - n.toNat)).map (row1 .i64))]) else none
          | none => none
        | none => none
      | none => none
    | _ => none
noncomputable def sp56 : Nat → Option Spec
  | 40 => some (sCloneI .i64)
  | _ => none
theorem sp56_ok : ∀ f s, sp56 f = some s → Meets PP f s := by
  intro f s h
  unfold sp56 at h
  split at h
  · injection h with h; subst h; exact mClone40
  · cases h
set_option maxHeartbeats 4000000 in
theorem mTake : Meets PP 56 (sTake) := by
  refine meets (dr := drF tab56 PP sp56) (live := live56) fn56 rfl rfl rfl sp56_ok (fun base ak => drF_ok mixed sp56_ok _ base ak) ?_
  intro args H z H' h
  simp only [sTake] at h
  repeat (split at h <;> try cases h)
  rename_i id i n _ m h1 _ R a b c st h2 _ xs hu h3
  refine ⟨(by decide : 2 ≤ 31), ?_⟩
  obtain ⟨rfl, h3, h4, h5⟩ := h3
  obtain ⟨c0, c1, c2, mem, rows, asks, call, args, trap⟩ := m
  have h2 := lastF_eq h2
  simp only at h2
  subst h2
  have hu := unI_eq hu
  subst hu
  obtain ⟨hlt, h1, h1'⟩ := mc_eq h1
  have hne : ¬ H.length = id := by omega
  have hne2 : ¬ id = H.length := by omega
  obtain ⟨k, rfl⟩ : ∃ k : Nat, n = (k : Int) := ⟨n.toNat, by omega⟩
  have hk : k ≤ xs.length := by omega
  have h5' : xs.length ≤ 1048576 := h5
  have hw : IntKind.i64.wrap ((xs.length : Int) - (k : Int)) = (xs.length : Int) - (k : Int) := w64 (by omega) (by omega)
  have hz : (k : Int) ≤ (xs.length : Int) := by omega
  have ht : ((xs.length : Int) - (k : Int)).toNat = xs.length - k := by omega
  have hsl : ∀ G : Hp, slcI .i64 (H ++ G) (.ref id [(0, 4), (R.length, 3)] 1 (xs.length - k) (xs.length - (xs.length - k))) = some (xs.drop (xs.length - k)) := by
    intro G
    unfold slcI
    have : (xs.length - k) + (xs.length - (xs.length - k)) ≤ xs.length := by omega
    simp [h1', hlt, Mc.cells, this, part]
    rw [List.take_of_length_le (by simp), ← List.map_drop, unI_map]
  have hkk : xs.length - (xs.length - k) = k := by omega
  rw [hkk] at hsl
  have hne3 : ∀ j, ¬ id = H.length + j := by omega
  have hne4 : ∀ j, ¬ H.length + j = id := by omega
  have hk8 : k ≤ 8796093022208 := by omega
  simp [sTake, hne, hne2, h1, h1', hlt, Mc.cells, h3, List.take_of_length_le, frC, hw, hz, ht, sp56, sCloneI, hsl, hkk, hk8, fresh, hne3, hne4]
end Go.Eng.M
