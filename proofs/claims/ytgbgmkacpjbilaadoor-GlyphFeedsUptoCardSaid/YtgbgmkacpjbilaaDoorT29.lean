/- A part of the proof: contracts of functions, each proved once. -/
import Derived.Test.YtgbgmkacpjbilaaDoorT28
namespace Go.Eng.G
open Go Go.Eng Go.Proofs
set_option maxRecDepth 100000
set_option linter.unusedSimpArgs false
set_option linter.unusedSectionVars false
variable [GV]
theorem slcI_mk {k : IntKind} {H : Hp} {A : Nat} {all : List Int} {l n : Nat} (h : H[A]? = some (some (1, all.map (row1 k)))) (hn : l + n ≤ all.length) : slcI k H (.ref A [] 1 l n) = some ((all.drop l).take n) := by
  unfold slcI
  simp [h, hn, part]
  rw [← List.map_drop, ← List.map_take, unI_map]
def feedF : Nat → List Int → List Int × List Int
  | 0, b => ([], b)
  | n + 1, b => if fullG b = true then ((decG b).1 :: (feedF n (b.drop (decG b).2.toNat)).1, (feedF n (b.drop (decG b).2.toNat)).2) else ([], b)
theorem fullG_ne {b : List Int} (h : fullG b = true) : b ≠ [] := by
  rintro rfl
  simp [fullG] at h
theorem feedF_mono : ∀ (n m : Nat) (b : List Int), b.length ≤ n → b.length ≤ m → feedF n b = feedF m b
  | 0, m, b, h1, h2 => by
    have : b = [] := List.length_eq_zero_iff.1 (by omega)
    subst this
    cases m <;> simp [feedF, fullG]
  | n + 1, 0, b, h1, h2 => by
    have : b = [] := List.length_eq_zero_iff.1 (by omega)
    subst this
    simp [feedF, fullG]
  | n + 1, m + 1, b, h1, h2 => by
    simp only [feedF]
    split
    · rename_i hb
      have := decG_range (fullG_ne hb)
      rw [feedF_mono n m _ (by simp; omega) (by simp; omega)]
    · rfl
def feedG (b : List Int) : List Int × List Int := feedF b.length b
theorem feedG_stop {b : List Int} (h : fullG b = false) : feedG b = ([], b) := by
  unfold feedG
  cases hl : b.length with
  | zero => simp [feedF]
  | succ n => simp [feedF, h]
theorem feedG_cons {b : List Int} (h : fullG b = true) : feedG b = ((decG b).1 :: (feedG (b.drop (decG b).2.toNat)).1, (feedG (b.drop (decG b).2.toNat)).2) := by
  have hne := fullG_ne h
  have hr := decG_range hne
  have hl : b.length = (b.length - 1) + 1 := by
    have := List.length_pos_iff.2 hne; omega
  unfold feedG
  rw [hl]
  simp only [feedF]
  rw [if_pos h, feedF_mono (b.length - 1) (b.drop (decG b).2.toNat).length _ (by simp; omega) (by simp)]
theorem feedG_bytes : ∀ (n : Nat) (b : List Int), b.length ≤ n → isBytes b = true → isBytes (feedG b).2 = true ∧ (feedG b).2.length ≤ b.length
  | 0, b, h, hb => by
    have : b = [] := List.length_eq_zero_iff.1 (by omega)
    subst this
    exact ⟨rfl, Nat.le_refl _⟩
  | n + 1, b, h, hb => by
    cases hf : fullG b with
    | false => rw [feedG_stop hf]; exact ⟨hb, Nat.le_refl _⟩
    | true =>
      have hr := decG_range (fullG_ne hf)
      rw [feedG_cons hf]
      have := feedG_bytes n (b.drop (decG b).2.toNat) (by simp; omega) (isBytes_drop hb _)
      exact ⟨this.1, by have := this.2; simp at this ⊢; omega⟩
def sFeed : Spec where
  modes := [1]
  f := fun args H => match args with
    | [.ptr id [] 0 0, x] => match unR H[id]?, slcI .u8 H x with
      | some ws, some xs => if ws.length ≤ 3 ∧ xs.length ≤ 2^39 ∧ isBytes ws = true ∧ isBytes xs = true then
          some (.ref H.length [] 1 0 (feedG (ws ++ xs)).1.length, H.set id (rdr (feedG (ws ++ xs)).2) ++ [some (1, (feedG (ws ++ xs)).1.map (row1 .i32))]) else none
      | _, _ => none
    | _ => none
def sp8 : Nat → Option Spec
  | 21 => some (sCloneI .u8)
  | 22 => some sFull
  | 23 => some (sDecode 0)
  | _ => none
theorem sp8_ok : ∀ f s, sp8 f = some s → Meets PP f s := by
  intro f s h
  unfold sp8 at h
  split at h <;> cases h
  · exact mCloneB
  · exact mFull
  · exact mDecode
theorem isBytes_append {a b : List Int} : isBytes (a ++ b) = (isBytes a && isBytes b) := by simp [isBytes]
set_option maxHeartbeats 4000000 in
theorem mFeed : Meets PP 8 sFeed := by
  refine meets (dr := drF tab8 PP sp8) (live := live8) fn8 rfl rfl rfl sp8_ok (fun base ak => drF_ok mixed sp8_ok _ base ak) ?_
  intro args H z H' h
  simp only [sFeed] at h
  split at h <;> try cases h
  rename_i id x
  split at h <;> try cases h
  rename_i ws xs hws hx
  split at h <;> cases h
  rename_i hc
  obtain ⟨hl1, hl2, hb1, hb2⟩ := hc
  have hl2' : xs.length ≤ 549755813888 := hl2
  obtain ⟨hlt, hid⟩ := get_of (unR_eq hws)
  refine ⟨(by decide : 2 ≤ 36), ?_⟩
  have hcl : slcI .u8 (H ++ [some (1, []), some (1, [])]) (.ref id [(0, 0)] 1 0 ws.length) = some ws := by
    unfold slcI
    simp [hid, hlt, rdr, part]
    rw [List.take_of_length_le (by simp), unI_map]
  have hw2 : ws.length ≤ 35184372088832 := by omega
  have hw3 : ws.length + xs.length ≤ 140737488355328 := by omega
  simp [sFeed, hid, hlt, rdr, sp8, sCloneI, hcl, hw2, fresh, slcI_all hx, slcI_gall hx, hw3]
  have ne1 : ∀ k, ¬ H.length + k = id := by intro k; omega
  have ne2 : ∀ k, ¬ id = H.length + k := by intro k; omega
  have hall : ws.map (row1 .u8) ++ xs.map (row1 .u8) = (ws ++ xs).map (row1 .u8) := by simp
  have hbA : isBytes (ws ++ xs) = true := by rw [isBytes_append, hb1, hb2]; rfl
  have hlA : (ws ++ xs).length ≤ 549755813891 := by simp; omega
  rw [hall, show ws.length + xs.length = (ws ++ xs).length by simp]
  generalize ws ++ xs = al at *
  refine wpX_loop (fun q : Nat × List Int => q.1 ≤ al.length ∧ q.2.length ≤ q.1 ∧ feedG al = (q.2 ++ (feedG (al.drop q.1)).1, (feedG (al.drop q.1)).2)) (fun q => ⟨[(0, .ptr id [] 0 0), (5, .ref (H.length + 1) [] 1 0 q.2.length), (6, .ref (H.length + 2) [] 1 q.1 (al.length - q.1))], H ++ [some (1, []), some (1, q.2.map (row1 .i32)), some (1, al.map (row1 .u8))]⟩) (fun q => al.length - q.1) (0, []) (by simp) (by simp [ne1, ne2]) ?_
  rintro ⟨l, out⟩ ⟨h1, h2, h3⟩
  simp only at h1 h2 h3
  simp only
  have hy : ∀ out : List Int, slcI .u8 (H ++ [some (1, []), some (1, out.map (row1 .i32)), some (1, al.map (row1 .u8))]) (.ref (H.length + 2) [] 1 l (al.length - l)) = some (al.drop l) := fun out => by
    rw [slcI_mk (all := al) (by simp) (by omega), List.take_of_length_le (by simp)]
  have hyB := isBytes_drop hbA l
  simp [sp8, sFull, hy, hyB]
  refine IteP.intro (fun hf => ?_) (fun hf => ?_)
  · have hne := fullG_ne hf
    have hr := decG_range hne
    have h0 : l < al.length := by
      rcases Nat.lt_or_ge l al.length with h | h
      · exact h
      · exact absurd (List.drop_eq_nil_of_le h) hne
    have g0 : al[l]? = some al[l] := List.getElem?_eq_getElem h0
    have hb0 := (isBytes_get hbA h0).1
    obtain ⟨m, hm⟩ : ∃ m : Nat, (decG (al.drop l)).2 = m := ⟨(decG (al.drop l)).2.toNat, by omega⟩
    have hr2 : 1 ≤ m ∧ m ≤ al.length - l := by simp at hr; omega
    have ho2 : (out.length + 1) * 4 ≤ 140737488355328 := by omega
    have hc := feedG_cons hf
    simp [hm] at hc
    simp [sp8, sDecode, hy, hyB, g0, hb0, hm, hr2, row1, ho2]
    refine ⟨l + m, out ++ [(decG (al.drop l)).1], ⟨by omega, by simp; omega, ?_⟩, ?_, by omega⟩
    · rw [h3, hc]; simp
    · simp [row1, Nat.sub_sub, ne1, ne2]
  · have hs := feedG_stop hf
    have hlen : al.length - l ≤ 35184372088832 := by omega
    rw [hs] at h3
    simp at h3
    simp [hid, hlt, rdr, sp8, sCloneI, hy, fresh, hlen, ne1, ne2]
    rw [h3]
    refine ⟨rfl, ?_, rfl⟩
    rw [List.take_of_length_le (by simp), List.map_drop]
end Go.Eng.G
