/- A part of the proof: contracts of functions, each proved once. -/
import Derived.Test.YtgbgmkacpjbilaaDoorT22
import Derived.Test.YtgbgmkacpjbilaaDoorT24
namespace Go.Eng.G
open Go Go.Eng Go.Proofs
set_option maxRecDepth 100000
set_option linter.unusedSimpArgs false
set_option linter.unusedSectionVars false
variable [GV]
theorem subS_full {k : IntKind} {H : Hp} {x : V} {xs : List Int} (h : slcI k H x = some xs) : subS x 0 xs.length = x := by
  have hl := slcI_len h
  rcases slc_cases (slcI_eq h) with rfl | ⟨id, p, off, n, rows', rfl, hn, hc, hr⟩
  · simp [subS]
    exact List.take_of_length_le (by simp)
  · simp only [slen] at hl; subst hl; simp [subS]
theorem subS_subS {k : IntKind} {H : Hp} {x : V} {xs : List Int} (h : slcI k H x = some xs) {l n l' n' : Nat} (hn : l' + n' ≤ n) : subS (subS x l n) l' n' = subS x (l + l') n' := by
  rcases slc_cases (slcI_eq h) with rfl | ⟨id, p, off, m, rows', rfl, hnn, hc, hr⟩
  · simp only [subS]
    rw [List.drop_take, List.take_take, List.drop_drop, Nat.min_eq_left (by omega)]
  · simp only [subS]
    rw [Nat.add_assoc]
theorem slcI_rest {k : IntKind} {H : Hp} {x : V} {xs : List Int} (h : slcI k H x = some xs) {l : Nat} (hl : l ≤ xs.length) : slcI k H (subS x l (xs.length - l)) = some (xs.drop l) := by
  rw [slcI_sub h (by omega), List.take_of_length_le (by simp)]
theorem isBytes_drop {xs : List Int} (h : isBytes xs = true) (l : Nat) : isBytes (xs.drop l) = true := by
  unfold isBytes at *
  rw [List.all_eq_true] at *
  exact fun x hx => h x (List.mem_of_mem_drop hx)
theorem wholeC_range (b : List Int) (c : Int) (h : 0 < b.length) : 0 ≤ (wholeC b c).1 ∧ (wholeC b c).1 ≤ b.length ∧ (wholeC b c).1 ≤ 4 := by
  unfold wholeC
  by_cases a1 : c < 128
  · rw [if_pos a1]; simp; omega
  rw [if_neg a1]
  by_cases a2 : 194 ≤ c ∧ c ≤ 223 ∧ tailG b 1 128 191 = true
  · rw [if_pos a2]; have := tailG_lt a2.2.2; simp; omega
  rw [if_neg a2]
  by_cases a3 : 224 ≤ c ∧ c ≤ 239 ∧ tailG b 1 (if c = 224 then 160 else 128) (if c = 237 then 159 else 191) = true ∧ tailG b 2 128 191 = true
  · rw [if_pos a3]; have := tailG_lt a3.2.2.2; simp; omega
  rw [if_neg a3]
  by_cases a4 : 240 ≤ c ∧ c ≤ 244 ∧ tailG b 1 (if c = 240 then 144 else 128) (if c = 244 then 143 else 191) = true ∧ tailG b 2 128 191 = true ∧ tailG b 3 128 191 = true
  · rw [if_pos a4]; have := tailG_lt a4.2.2.2.2; simp; omega
  rw [if_neg a4]
  simp
theorem decG_range {b : List Int} (h : b ≠ []) : 1 ≤ (decG b).2 ∧ (decG b).2 ≤ b.length := by
  cases b with
  | nil => exact absurd rfl h
  | cons c r =>
    have hw := wholeC_range (c :: r) c (by simp)
    simp only [decG, List.getElem?_cons_zero, decC]
    split
    · simp; omega
    · simp only; omega
def decAllF : Nat → List Int → List Int
  | 0, _ => []
  | n + 1, b => if b = [] then [] else (decG b).1 :: decAllF n (b.drop (decG b).2.toNat)
theorem decAllF_mono : ∀ (n m : Nat) (b : List Int), b.length ≤ n → b.length ≤ m → decAllF n b = decAllF m b
  | 0, m, b, h1, h2 => by
    have : b = [] := List.length_eq_zero_iff.1 (by omega)
    subst this
    cases m <;> simp [decAllF]
  | n + 1, 0, b, h1, h2 => by
    have : b = [] := List.length_eq_zero_iff.1 (by omega)
    subst this
    simp [decAllF]
  | n + 1, m + 1, b, h1, h2 => by
    simp only [decAllF]
    split
    · rfl
    · rename_i hb
      have := decG_range hb
      rw [decAllF_mono n m _ (by simp; omega) (by simp; omega)]
def decAll (b : List Int) : List Int := decAllF b.length b
theorem decAll_nil : decAll [] = [] := rfl
theorem decAll_cons {b : List Int} (h : b ≠ []) : decAll b = (decG b).1 :: decAll (b.drop (decG b).2.toNat) := by
  have hr := decG_range h
  unfold decAll
  have hl : b.length = (b.length - 1) + 1 := by
    have := List.length_pos_iff.2 h; omega
  rw [hl]
  simp only [decAllF]
  rw [if_neg h, decAllF_mono (b.length - 1) (b.drop (decG b).2.toNat).length _ (by simp; omega) (by simp)]
def sRunes : Spec where
  modes := []
  f := fun args H => match args with
    | [x] => match slcI .u8 H x with
      | some xs => if xs.length ≤ 2^45 ∧ isBytes xs = true then some (fresh .i32 (decAll xs) H) else none
      | _ => none
    | _ => none
def sp18 : Nat → Option Spec
  | 23 => some (sDecode 0)
  | _ => none
theorem sp18_ok : ∀ f s, sp18 f = some s → Meets PP f s := by
  intro f s h
  unfold sp18 at h
  split at h <;> cases h
  exact mDecode
set_option maxHeartbeats 4000000 in
theorem mRunes : Meets PP 18 sRunes := by
  refine meets (dr := drF tab18 PP sp18) (live := live18) fn18 rfl rfl rfl sp18_ok (fun base ak => drF_ok mixed sp18_ok _ base ak) ?_
  intro args H z H' h
  simp only [sRunes] at h
  split at h <;> try cases h
  rename_i x
  split at h <;> try cases h
  rename_i xs hx
  split at h <;> cases h
  rename_i hc
  obtain ⟨hl, hB⟩ := hc
  refine ⟨(by decide : 1 ≤ 22), ?_⟩
  generalize kdirs sRunes.modes _ = ak
  have hl' : xs.length ≤ 35184372088832 := hl
  simp [slcI_all hx, slcI_gall hx]
  refine wpX_loop (fun q : Nat × List Int => q.1 ≤ xs.length ∧ q.2.length ≤ q.1 ∧ decAll xs = q.2 ++ decAll (xs.drop q.1)) (fun q => ⟨[(0, subS x q.1 (xs.length - q.1)), (3, .ref (H.length + 1) [] 1 0 q.2.length)], H ++ [some (1, []), some (1, q.2.map (row1 .i32))]⟩) (fun q => xs.length - q.1) (0, []) (by simp) (by simp [subS_full hx]) ?_
  rintro ⟨l, out⟩ ⟨h1, h2, h3⟩
  simp only at h1 h2 h3
  have hy := slcI_rest hx h1
  have hyB := isBytes_drop hB l
  simp only
  have hss : ∀ l' n', l' + n' ≤ xs.length - l → subS (subS x l (xs.length - l)) l' n' = subS x (l + l') n' := fun l' n' hh => subS_subS hx hh
  generalize hys : xs.drop l = ys at *
  generalize subS x l (xs.length - l) = y at *
  have hylen : ys.length = xs.length - l := by rw [← hys]; simp
  simp [slcI_all hy, slcI_gall hy]
  refine IteP.dec (fun h0 => ?_) (fun h0 => ?_)
  · have hne : ys ≠ [] := by intro e; rw [e] at h0; simp at h0
    have hr := decG_range hne
    have hd := decAll_cons hne
    have g0 : ys[0]? = some ys[0] := List.getElem?_eq_getElem h0
    have hb0 := (isBytes_get hyB h0).1
    have hy2 := slcI_grow hy [some (1, []), some (1, out.map (row1 .i32))]
    simp [slcI_all hy, slcI_gall hy, sp18, sDecode, hyB, g0, hb0]
    obtain ⟨m, hm⟩ : ∃ m : Nat, (decG ys).2 = m := ⟨(decG ys).2.toNat, by omega⟩
    have hr2 : 1 ≤ m ∧ m ≤ ys.length := by omega
    have ho : out.length + 1 ≤ 35184372088832 := by omega
    have ho2 : (out.length + 1) * 4 ≤ 140737488355328 := by omega
    simp [hm] at hd ⊢
    simp [slcI_all hy, slcI_gall hy, slcI_cut hy, hr2, row1, ho, ho2, slcI_all (slcI_rest hy hr2.2)]
    have e := hss m (ys.length - m) (by omega)
    have e2 : xs.length - (l + m) = ys.length - m := by omega
    have e3 : xs.drop (l + m) = ys.drop m := by rw [← hys, List.drop_drop]
    refine ⟨l + m, out ++ [(decG ys).1], ⟨by omega, by simp; omega, ?_⟩, ⟨?_, ?_, ?_⟩, by omega⟩
    · rw [h3, hd, e3]; simp
    · simp [row1]
    · rw [e, e2]
    · simp
  · simp [slcI_all hy, slcI_gall hy, fresh]
    have e : ys = [] := List.length_eq_zero_iff.1 (by omega)
    subst e
    simp [h3, decAll_nil]
end Go.Eng.G
