/- A part of the proof: contracts of functions, each proved once. -/
import Derived.Test.YtgbgmkacpjbilaaDoorT20
namespace Go.Eng.G
open Go Go.Eng Go.Proofs
set_option maxRecDepth 100000
set_option linter.unusedSimpArgs false
set_option linter.unusedSectionVars false
set_option linter.unusedVariables false
variable [Globs]
def fillsG : List (List Int) := [[128], [144], [160], [128, 128], [144, 128], [160, 128], [128, 128, 128], [144, 128, 128]]
def okG (b f : List Int) : Bool := decide ((wholeG (b ++ f)).1 = (b ++ f).length)
def anyF (b : List Int) : Bool := fillsG.any (okG b)
def beginsG (b : List Int) : Bool :=
  if b.length = 0 ∨ 3 < b.length then false
  else if 0 < (wholeG b).1 then false
  else anyF b
def sBegins : Spec where
  modes := []
  f := fun args H => match args with
    | [x] => match slcI .u8 H x with
      | some xs => if xs.length ≤ 2^45 then some (.v (.bool (beginsG xs)), H) else none
      | _ => none
    | _ => none
def sp19 : Nat → Option Spec
  | 20 => some sWhole
  | _ => none
theorem sp19_ok : ∀ f s, sp19 f = some s → Meets PP f s := by
  intro f s h
  unfold sp19 at h
  split at h <;> cases h
  exact mWhole
def fillsRows : Rows := fillsG.map fun f => [.fs 1 (f.map (row1 .u8))]
theorem get_of' {H : Hp} {id : Nat} {x : Nd} (h : H[id]? = some x) : ∃ hlt : id < H.length, H[id] = x := by
  rcases Nat.lt_or_ge id H.length with h1 | h1
  · exact ⟨h1, by rw [List.getElem?_eq_getElem h1] at h; exact Option.some.inj h⟩
  · rw [List.getElem?_eq_none h1] at h; cases h
theorem slcI_mk0 {k : IntKind} {H : Hp} {A : Nat} {all : List Int} {l n : Nat} (h : H[A]? = some (some (1, all.map (row1 k)))) (hn : l + n ≤ all.length) : slcI k H (.ref A [] 1 l n) = some ((all.drop l).take n) := by
  unfold slcI
  simp [h, hn, part]
  rw [← List.map_drop, ← List.map_take, unI_map]
set_option maxHeartbeats 8000000 in
theorem mBegins : Meets PP 19 sBegins := by
  refine meets (dr := drF tab19 PP sp19) (live := live19) fn19 rfl rfl rfl sp19_ok (fun base ak => drF_ok mixed sp19_ok _ base ak) ?_
  intro args H z H' h
  simp only [sBegins] at h
  split at h <;> try cases h
  rename_i x
  split at h <;> try cases h
  rename_i xs hx
  split at h <;> cases h
  rename_i hl
  refine ⟨(by decide : 1 ≤ 84), ?_⟩
  generalize kdirs sBegins.modes _ = ak
  simp [slcI_all hx]
  refine IteP.intro (fun h0 => ?_) (fun h0 => ?_)
  · have : xs.length = 0 ∨ 3 < xs.length := by
      rw [Bool.or_eq_true] at h0
      rcases h0 with h0 | h0
      · exact .inl (List.length_eq_zero_iff.2 (of_decide_eq_true h0))
      · have := of_decide_eq_true h0; omega
    have e : beginsG xs = false := by unfold beginsG; rw [if_pos this]
    simp [e]
  · rw [Bool.or_eq_false_iff] at h0
    obtain ⟨a1, a2⟩ := h0
    have a1 := of_decide_eq_false a1
    have a2 := of_decide_eq_false a2
    have a3 : xs.length ≠ 0 := fun e => a1 (List.length_eq_zero_iff.1 e)
    have hn : ¬ (xs.length = 0 ∨ 3 < xs.length) := by omega
    have hl3 : xs.length ≤ 3 := by omega
    simp [slcI_all hx, sp19, sWhole, hx]
    refine IteP.dec (fun h1 => ?_) (fun h1 => ?_)
    · have e : beginsG xs = false := by unfold beginsG; rw [if_neg hn, if_pos h1]
      simp [e]
    · have eB : beginsG xs = anyF xs := by unfold beginsG; rw [if_neg hn, if_neg h1]
      rw [eB]
      simp
      have hfl : fillsRows.length = 8 := rfl
      refine wpX_loop (fun q : Nat × Hp => q.1 ≤ 8 ∧ (∀ j, (hj : j < fillsG.length) → j < q.1 → okG xs fillsG[j] = false) ∧ q.2[H.length]? = some (some (1, fillsRows)) ∧ q.2.take H.length = H ∧ slcI .u8 q.2 x = some xs)
        (fun q => ⟨[(0, x), (5, .ref H.length [] 1 0 8), (6, .v (.int .i64 q.1))], q.2⟩) (fun q => 8 - q.1) (0, H ++ [some (1, fillsRows)]) ⟨by omega, by intro j hj h; simp at h, by simp, by simp, slcI_grow hx _⟩ (by simp [fillsRows, fillsG, row1]) ?_
      rintro ⟨i, H1⟩ ⟨hi, hno, hF, hT, hx1⟩
      simp only at hi hno hF hT hx1
      obtain ⟨hF1, hF2⟩ := get_of' hF
      have hne1 : ¬ H1.length = H.length := by omega
      have hne2 : ¬ H.length = H1.length := by omega
      have hle : H.length ≤ H1.length := by omega
      simp
      refine IteP.dec (fun hlt => ?_) (fun hlt => ?_)
      · have hif : i < fillsG.length := by have : fillsG.length = 8 := rfl; omega
        obtain ⟨f, hf⟩ : ∃ f, fillsG[i] = f := ⟨_, rfl⟩
        have hf3 : f.length ≤ 3 := by
          have : ∀ g ∈ fillsG, g.length ≤ 3 := by decide
          rw [← hf]; exact this _ (List.getElem_mem hif)
        have hr1 : fillsRows[i]? = some [.fs 1 (f.map (row1 .u8))] := by
          simp only [fillsRows, List.getElem?_map, List.getElem?_eq_getElem hif, hf, Option.map_some]
        have hr2 : ∀ h : i < fillsRows.length, fillsRows[i] = [.fs 1 (f.map (row1 .u8))] := fun h => by
          rw [List.getElem?_eq_getElem h] at hr1; exact Option.some.inj hr1
        simp
        refine wpX_loop (fun k : Nat => k ≤ xs.length) (fun k => ⟨[(0, x), (5, .ref H.length [] 1 0 8), (6, .v (.int .i64 i)), (7, .ref H1.length [] 1 0 k), (8, .v (.int .i64 k))], H1 ++ [some (1, (xs.take k).map (row1 .u8))]⟩) (fun k => xs.length - k) 0 (by simp) (by simp) ?_
        rintro k hk
        have hmink : min k xs.length = k := by omega
        simp [slcI_all hx1, slcI_gall hx1, hmink]
        refine IteP.dec (fun hkl => ?_) (fun hkl => ?_)
        · have hb1 : k + 1 ≤ 140737488355328 := by omega
          simp [slcI_all hx1, slcI_gall hx1, hkl, hmink, hb1, hne1, hne2, hle]
          refine ⟨k + 1, by omega, ⟨?_, ?_⟩, by omega⟩
          · rw [List.take_add_one]; simp [row1, hkl]
          · rw [w64 (by omega) (by omega)]; simp
        · have hkx : k = xs.length := by omega
          subst hkx
          simp
          have hmore : List.take xs.length (List.map (row1 .u8) xs) = List.map (row1 .u8) xs := List.take_of_length_le (by simp)
          refine wpX_loop (fun k : Nat => k ≤ f.length) (fun k => ⟨[(0, x), (5, .ref H.length [] 1 0 8), (6, .v (.int .i64 i)), (7, .ref H1.length [] 1 0 (xs.length + k)), (9, .v (.int .i64 k))], H1 ++ [some (1, (xs ++ f.take k).map (row1 .u8))]⟩) (fun k => f.length - k) 0 (by simp) (by simp [hmore]) ?_
          rintro k hk
          have hmink : min k f.length = k := by omega
          have hr3 := hr2 (by rw [hfl]; omega)
          have hi8 : i < fillsRows.length := by rw [hfl]; omega
          simp [hF1, hF2, hr1, hr3, hi8, hlt]
          refine IteP.dec (fun hkl => ?_) (fun hkl => ?_)
          · have hb1 : xs.length + (k + 1) ≤ 140737488355328 := by omega
            have hb2 : xs.length + k + 1 ≤ 140737488355328 := by omega
            simp [hF1, hF2, hr1, hr3, hi8, hlt, hkl, hmink, hb1, hb2, hne1, hne2, hle, slcI_all hx1, slcI_gall hx1, row1]
            refine ⟨k + 1, by omega, ⟨?_, by omega, ?_⟩, by omega⟩
            · rw [List.take_add_one]; simp [row1, hkl]
            · rw [w64 (by omega) (by omega)]; simp
          · have hkx : k = f.length := by omega
            subst hkx
            have hW : slcI .u8 (H1 ++ [some (1, xs.map (row1 .u8) ++ f.map (row1 .u8))]) (.ref H1.length [] 1 0 (xs.length + f.length)) = some (xs ++ f) := by
              rw [← List.map_append, slcI_mk0 (all := xs ++ f) (by simp) (by simp), List.drop_zero, List.take_of_length_le (by simp)]
            have hdec : decide ((wholeG (xs ++ f)).1 = (xs.length : Int) + (f.length : Int)) = okG xs f := by simp [okG]
            have hft : List.take f.length (List.map (row1 .u8) f) = List.map (row1 .u8) f := List.take_of_length_le (by simp)
            simp [hft, sp19, sWhole, hW, hdec]
            refine IteP.intro (fun hok => ?_) (fun hok => ?_)
            · have e : anyF xs = true := by
                unfold anyF
                rw [List.any_eq_true]
                exact ⟨f, by rw [← hf]; exact List.getElem_mem hif, hok⟩
              simp [e, hT, List.take_append_of_le_length hle]
              omega
            · simp
              refine ⟨i + 1, H1 ++ [some (1, xs.map (row1 .u8) ++ f.map (row1 .u8))], ⟨by omega, ?_, ?_, ?_, slcI_grow hx1 _⟩, ⟨?_, ?_⟩, by omega⟩
              · intro j hj hji
                by_cases e : j = i
                · subst e; rw [hf]; exact hok
                · exact hno j hj (by omega)
              · rw [List.getElem?_append_left hF1]; exact hF
              · rw [List.take_append_of_le_length hle]; exact hT
              · rfl
              · rw [w64 (by omega) (by omega)]; simp
      · simp
        have hi8 : i = 8 := by omega
        have e : anyF xs = false := by
          unfold anyF
          rw [List.any_eq_false]
          intro g hg
          obtain ⟨j, hj, rfl⟩ := List.getElem_of_mem hg
          simp [hno j hj (by have : fillsG.length = 8 := rfl; omega)]
        simp [hT, hle, e]
end Go.Eng.G
