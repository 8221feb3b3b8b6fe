/- A part of the proof: contracts of functions, each proved once. -/
import Derived.Test.YtgbgmkacpjbilaaDoorT18
import Derived.Test.YtgbgmkacpjbilaaDoorE3
namespace Go.Eng.G
open Go Go.Eng Go.Proofs
set_option maxRecDepth 100000
set_option linter.unusedSimpArgs false
set_option linter.unusedSectionVars false
variable [Globs]
set_option maxHeartbeats 2000000 in
theorem mCloneB : Meets PP 21 (sCloneI .u8) := by
  refine meets (dr := drF tab21 PP noSp) (live := live21) fn21 rfl rfl rfl noSp_ok (fun base ak => drF_ok mixed noSp_ok _ base ak) ?_
  intro args H z H' h
  simp only [sCloneI] at h
  split at h <;> try cases h
  rename_i x
  split at h <;> try cases h
  rename_i xs hx
  split at h <;> cases h
  rename_i hl
  refine ⟨(by decide : 1 ≤ 8), ?_⟩
  generalize kdirs (sCloneI .u8).modes _ = ak
  have hb : xs.length * 1 ≤ 140737488355328 := by have : xs.length ≤ 35184372088832 := hl; omega
  have hb' : xs.length ≤ 140737488355328 := by omega
  rcases Nat.eq_zero_or_pos xs.length with h0 | h0
  · obtain ⟨n1, n2⟩ := slcI_nil hx h0
    have hxs : xs = [] := List.length_eq_zero_iff.1 h0
    subst hxs
    simp [slcI_all hx, n1, n2, -isNil, -isSl]
    refine ⟨?_, ?_⟩
    · simp [fresh]
    · simp [slcI_all hx, slcI_gall hx, fresh]
  · have n1 := slcI_nonnil hx h0
    simp [slcI_all hx, n1, -isNil, -isSl, slcI_gall hx, fresh, hb, hb']
def ru (r : Int) : Int := IntKind.u32.wrap r
def encG (r : Int) : List Int :=
  if ru r ≤ 127 then [IntKind.u8.wrap r]
  else if ru r ≤ 2047 then [orI .u8 192 (IntKind.u8.wrap (shrI .i32 r 6)), orI .u8 128 (andI .u8 (IntKind.u8.wrap r) 63)]
  else if ru r < 55296 ∨ (57343 < ru r ∧ ru r ≤ 65535) then [orI .u8 224 (IntKind.u8.wrap (shrI .i32 r 12)), orI .u8 128 (andI .u8 (IntKind.u8.wrap (shrI .i32 r 6)) 63), orI .u8 128 (andI .u8 (IntKind.u8.wrap r) 63)]
  else if 65535 < ru r ∧ ru r ≤ 1114111 then [orI .u8 240 (IntKind.u8.wrap (shrI .i32 r 18)), orI .u8 128 (andI .u8 (IntKind.u8.wrap (shrI .i32 r 12)) 63), orI .u8 128 (andI .u8 (IntKind.u8.wrap (shrI .i32 r 6)) 63), orI .u8 128 (andI .u8 (IntKind.u8.wrap r) 63)]
  else [239, 191, 189]
theorem encG_len (r : Int) : (encG r).length ≤ 4 := by
  unfold encG; repeat' split
  all_goals simp
def sEnc : Spec where
  modes := [2]
  f := fun args H => match args with
    | [.ref id [] 1 0 n, .v (.int .i32 r)] => match H[id]? with
      | some (some (1, rows)) => if n = rows.length ∧ rows.length ≤ 2^46 then some (.ref id [] 1 0 (n + (encG r).length), H.set id (some (1, rows ++ (encG r).map (row1 .u8)))) else none
      | _ => none
    | _ => none
set_option maxHeartbeats 4000000 in
theorem mEnc34 : Meets PP 34 { sEnc with f := fun args H => match args with | [_, .v (.int .i32 r)] => if ru r ≤ 127 then none else sEnc.f args H | _ => none } := by
  refine meets (dr := drF tab34 PP noSp) (live := live34) fn34 rfl rfl rfl noSp_ok (fun base ak => drF_ok mixed noSp_ok _ base ak) ?_
  intro args H z H' h
  simp only [sEnc] at h
  split at h <;> try cases h
  rename_i y r
  split at h <;> try cases h
  rename_i hr
  split at h <;> try cases h
  rename_i id n r' e
  simp only [List.cons.injEq, V.v.injEq, Value.int.injEq, true_and, and_true] at e
  obtain ⟨rfl, rfl⟩ := e
  split at h <;> try cases h
  rename_i rows hH
  split at h <;> cases h
  rename_i hc
  obtain ⟨rfl, hlen⟩ := hc
  refine ⟨(by decide : 2 ≤ 78), ?_⟩
  have hlt : id < H.length := by
    rcases Nat.lt_or_ge id H.length with h | h
    · exact h
    · rw [List.getElem?_eq_none h] at hH; cases hH
  have hH2 : H[id] = some (1, rows) := by rw [List.getElem?_eq_getElem hlt] at hH; exact Option.some.inj hH
  have hl' : rows.length ≤ 70368744177664 := hlen
  have hr2 : ¬ IntKind.u32.wrap r ≤ 127 := hr
  have E : ∀ k : Nat, k ≤ 4 → rows.length + k ≤ 140737488355328 := fun k hk => by omega
  simp [sEnc]
  refine IteP.dec (fun h1 => ?_) (fun h1 => ?_)
  · simp [hH2, hlt, E, allCopies, V.copies, encG, ru, hr2, h1, row1]
  · simp
    refine IteP.dec (fun h2 => ?_) (fun h2 => ?_)
    · simp
      simp [hH2, hlt, E, allCopies, V.copies, encG, ru, hr2, h1, h2, row1]
    · simp
      refine IteP.intro (fun h3 => ?_) (fun h3 => ?_)
      · have h3' : 57343 < IntKind.u32.wrap r ∧ IntKind.u32.wrap r ≤ 65535 := by simpa using h3
        simp [hH2, hlt, E, allCopies, V.copies, encG, ru, hr2, h1, h2, h3', row1]
      · have h3' : ¬ (57343 < IntKind.u32.wrap r ∧ IntKind.u32.wrap r ≤ 65535) := by
          intro hh; rw [decide_eq_true hh.1, decide_eq_true hh.2] at h3; cases h3
        simp
        refine IteP.intro (fun h4 => ?_) (fun h4 => ?_)
        · have h4' : 65535 < IntKind.u32.wrap r ∧ IntKind.u32.wrap r ≤ 1114111 := by simpa using h4
          have h5 : ¬ IntKind.u32.wrap r ≤ 65535 := by omega
          simp [hH2, hlt, E, allCopies, V.copies, encG, ru, hr2, h1, h2, h3', h4', h5, row1]
        · have h4' : ¬ (65535 < IntKind.u32.wrap r ∧ IntKind.u32.wrap r ≤ 1114111) := by
            intro hh; rw [decide_eq_true hh.1, decide_eq_true hh.2] at h4; cases h4
          simp [hH2, hlt, E, allCopies, V.copies, encG, ru, hr2, h1, h2, h3', h4', row1]
end Go.Eng.G
