/- A part of the proof: contracts of functions, each proved once. -/
import Derived.Test.YtkbmagloekociaaGFacts
import Derived.Test.YtkbmagloekociaaGTabs
import Derived.Test.YtkbmagloekociaaE5
namespace Go.Eng.M
open Go Go.Eng Go.Proofs
set_option maxRecDepth 100000
set_option linter.unusedSimpArgs false
set_option linter.unusedSectionVars false
set_option linter.unusedVariables false
variable [Globs]
/-- What is coded. -/
noncomputable def un {α β : Type} (enc : α → β) (y : β) : Option α := open Classical in if h : ∃ x, enc x = y then some h.choose else none
theorem un_enc {α β : Type} {enc : α → β} (hi : ∀ a b, enc a = enc b → a = b) (x : α) : un enc (enc x) = some x := by
  unfold un
  have h : ∃ y, enc y = enc x := ⟨x, rfl⟩
  rw [dif_pos h]
  exact congrArg some (hi _ _ h.choose_spec)
theorem un_eq {α β : Type} {enc : α → β} {y : β} {x : α} (h : un enc y = some x) : y = enc x := by
  unfold un at h
  split at h
  · rename_i h1; injection h with h; rw [← h]; exact h1.choose_spec.symm
  · cases h
theorem map_inj {α β : Type} {f : α → β} (hi : ∀ a b, f a = f b → a = b) : ∀ a b : List α, a.map f = b.map f → a = b
  | [], [], _ => rfl
  | [], _ :: _, h => by simp at h
  | _ :: _, [], h => by simp at h
  | a :: l, b :: r, h => by
    simp only [List.map_cons, List.cons.injEq] at h
    rw [hi a b h.1, map_inj hi l r h.2]
structure Ins where
  op : Int
  n : Int
  deriving DecidableEq
structure Fn where
  params : Int
  results : Int
  locals : Int
  code : List Ins
  deriving DecidableEq
structure Md where
  mem : Int
  data : List Int
  funcs : List Fn
  deriving DecidableEq
structure Fr where
  f : Int
  at_ : Int
  loc : List Int
  st : List Int
  deriving DecidableEq
/-- A machine; the innermost frame is the first. -/
structure MS where
  mem : List Int
  fs : List Fr
  asks : Bool
  call : Int
  args : List Int
  trap : Int
  deriving DecidableEq
def insRow (x : Ins) : List V := [.v (.int .i64 x.op), .v (.int .i64 x.n)]
def fnRow (x : Fn) : List V := [.v (.int .i64 x.params), .v (.int .i64 x.results), .v (.int .i64 x.locals), .fs 2 (x.code.map insRow)]
def mdV (m : Md) : V := .agg [.v (.int .i64 m.mem), .fs 1 (m.data.map (row1 .u8)), .fs 4 (m.funcs.map fnRow)]
def frRow (x : Fr) : List V := [.v (.int .i64 x.f), .v (.int .i64 x.at_), .own 1 (x.loc.map (row1 .i64)), .own 1 (x.st.map (row1 .i64))]
def mRow (p : Md × MS) : List V := [.v (.int .i64 p.1.mem), .fs 1 (p.1.data.map (row1 .u8)), .fs 4 (p.1.funcs.map fnRow), .own 1 (p.2.mem.map (row1 .u8)), .own 4 (p.2.fs.reverse.map frRow), .v (.bool p.2.asks), .v (.int .i64 p.2.call), .own 1 (p.2.args.map (row1 .i64)), .v (.int .i64 p.2.trap)]
def mObj (p : Md × MS) : Nd := some (9, [mRow p])
theorem row1_inj (k : IntKind) : ∀ a b, row1 k a = row1 k b → a = b := by intro a b h; simpa [row1] using h
theorem insRow_inj : ∀ a b, insRow a = insRow b → a = b := by
  rintro ⟨a, b⟩ ⟨c, d⟩ h
  simp [insRow] at h
  simp [h]
theorem fnRow_inj : ∀ a b, fnRow a = fnRow b → a = b := by
  rintro ⟨a, b, c, d⟩ ⟨a', b', c', d'⟩ h
  simp only [fnRow, List.cons.injEq, V.v.injEq, Value.int.injEq, true_and, V.fs.injEq, and_true] at h
  obtain ⟨rfl, rfl, rfl, h⟩ := h
  rw [map_inj insRow_inj _ _ h]
theorem mdV_inj : ∀ a b, mdV a = mdV b → a = b := by
  rintro ⟨a, b, c⟩ ⟨a', b', c'⟩ h
  simp only [mdV, V.agg.injEq, List.cons.injEq, V.v.injEq, Value.int.injEq, true_and, V.fs.injEq, and_true] at h
  obtain ⟨rfl, h1, h2⟩ := h
  rw [map_inj (row1_inj _) _ _ h1, map_inj fnRow_inj _ _ h2]
theorem frRow_inj : ∀ a b, frRow a = frRow b → a = b := by
  rintro ⟨a, b, c, d⟩ ⟨a', b', c', d'⟩ h
  simp only [frRow, List.cons.injEq, V.v.injEq, Value.int.injEq, true_and, V.own.injEq, and_true] at h
  obtain ⟨rfl, rfl, h1, h2⟩ := h
  rw [map_inj (row1_inj _) _ _ h1, map_inj (row1_inj _) _ _ h2]
theorem mObj_inj : ∀ a b, mObj a = mObj b → a = b := by
  rintro ⟨⟨a, b, c⟩, ⟨d, e, f, g, h, i⟩⟩ ⟨⟨a', b', c'⟩, ⟨d', e', f', g', h', i'⟩⟩ hh
  simp only [mObj, mRow, Option.some.injEq, Prod.mk.injEq, List.cons.injEq, V.v.injEq, Value.int.injEq, Value.bool.injEq, true_and, V.fs.injEq, V.own.injEq, and_true] at hh
  obtain ⟨rfl, h1, h2, h3, h4, rfl, rfl, h5, rfl⟩ := hh
  have h4 := map_inj frRow_inj _ _ h4
  rw [map_inj (row1_inj _) _ _ h1, map_inj fnRow_inj _ _ h2, map_inj (row1_inj _) _ _ h3, map_inj (row1_inj _) _ _ h5, List.reverse_inj.1 h4]
/-- A module's value. -/
noncomputable def unMd (x : V) : Option Md := un mdV x
@[simp] theorem unMd_mdV (m : Md) : unMd (mdV m) = some m := un_enc mdV_inj m
theorem unMd_eq {x : V} {m : Md} (h : unMd x = some m) : x = mdV m := un_eq h
/-- A machine's object. -/
noncomputable def isM (H : Hp) (id : Nat) : Option (Md × MS) := match H[id]? with
  | some nd => un mObj nd
  | none => none
theorem isM_of {H : Hp} {id : Nat} {p : Md × MS} (h : H[id]? = some (mObj p)) : isM H id = some p := by simp [isM, h, un_enc mObj_inj]
theorem isM_eq {H : Hp} {id : Nat} {p : Md × MS} (h : isM H id = some p) : H[id]? = some (mObj p) := by
  unfold isM at h
  split at h
  · rename_i nd h1; rw [h1, un_eq h]
  · cases h
/-- A module within its bounds. -/
def i64r (n : Int) : Bool := decide (-9223372036854775808 ≤ n) && decide (n ≤ 9223372036854775807)
/-- A module as it comes: what a number is, and no more than 2^40 of each. -/
def mdIn (m : Md) : Bool := i64r m.mem && decide (m.data.length ≤ 2^40) && decide (m.funcs.length ≤ 2^40) && m.funcs.all fun f => i64r f.params && i64r f.results && i64r f.locals && decide (f.code.length ≤ 2^40) && f.code.all fun i => i64r i.op && i64r i.n
def fresh (k : IntKind) (xs : List Int) (H : Hp) : V × Hp := (.ref H.length [] 1 0 xs.length, H ++ [some (1, xs.map (row1 k))])
end Go.Eng.M
