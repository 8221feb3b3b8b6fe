/- A part of the proof: contracts of functions, each proved once. -/
import Derived.Test.YtgbgmkacpjbilaaDoorT31
import Derived.Test.YtgbgmkacpjbilaaDoorT34
import Derived.Test.YtgbgmkacpjbilaaDoorE3
import Derived.Test.YtgbgmkacpjbilaaDoorCards
import Derived.Test.YtgbgmkacpjbilaaDoorTie
import Derived.Lib.LaidU8
import Derived.Lay
import Derived.LaidOnce
import Derived.SevenTiedAt
namespace Go.Eng.G
open Go Go.Eng Go.Proofs Go.Proofs.YtgbgmkacpjbilaaDoor
open Go.RowKit Go.ChangeShapes Go.WideShapes Go.ChangeAt
set_option maxRecDepth 100000
set_option linter.unusedSimpArgs false
set_option linter.unusedSectionVars false
set_option linter.unusedVariables false
theorem own : ownKnob Tryd.prog.godebug = none := by kernel_rfl
theorem laidOut : laidOutB Tryd.prog = true := by kernel_rfl
def LL : List (String × DataW Unit) := [("unicode/utf8.acceptRanges", Rows.laid_unicode_utf8_acceptRanges), ("unicode/utf8.first", Rows.laid_unicode_utf8_first)]
theorem pinEq : Rows.laid_unicode_utf8_first = Lib.firstData := by kernel_rfl
theorem accEq : (Rows.laid_unicode_utf8_acceptRanges : DataW Unit) = Lib.acceptData := by kernel_rfl
theorem tabs {W : World} (h : laidMetH Tryd.prog LL W) : Lib.Utf8Tabs 0 1 W := by
  rw [MakeChecks.laidMetH_plain _ _ _ (by kernel_rfl)] at h
  have h3 : Lib.VarReads Tryd.prog W "unicode/utf8.first" Lib.firstData := pinEq ▸ Lib.laidMet.reads h (.tail _ (.head _))
  have h4 : Lib.VarReads Tryd.prog W "unicode/utf8.acceptRanges" Lib.acceptData := accEq ▸ Lib.laidMet.reads h (.head _)
  have n0 : Tryd.prog.globalNamed "unicode/utf8.first" = some 0 := by kernel_rfl
  have n1 : Tryd.prog.globalNamed "unicode/utf8.acceptRanges" = some 1 := by kernel_rfl
  have y0 : (Tryd.prog.globals[0]?).map (·.type) = some 55 := by kernel_rfl
  have y1 : (Tryd.prog.globals[1]?).map (·.type) = some 58 := by kernel_rfl
  have c5 : Tryd.prog.cellsOf 5 = 1 := by kernel_rfl
  have c55 : Tryd.prog.cellsOf 55 = 256 := by kernel_rfl
  have c57 : Tryd.prog.cellsOf 57 = 2 := by kernel_rfl
  refine ⟨fun c hc => ?_, fun i hi => ?_⟩
  · obtain ⟨g, t, cs, fuel, p, hg, hty, hvar, hd⟩ := h3
    obtain rfl := Option.some.inj (n0.symm.trans hg)
    obtain rfl := Option.some.inj (y0.symm.trans hty)
    have hcs := Lib.cells_of_tab Tryd.underlying55 Tryd.underlying5 c5 c55 hd
    have := World.var?_cell hg hvar c
    rw [this, ← Array.getElem?_toList, hcs]
    simp [Lib.firstTab, hc]
  · obtain ⟨g, t, cs, fuel, p, hg, hty, hvar, hd⟩ := h4
    obtain rfl := Option.some.inj (n1.symm.trans hg)
    obtain rfl := Option.some.inj (y1.symm.trans hty)
    obtain ⟨fuel', d, q, hdi, he⟩ := Lib.array_elem Tryd.underlying58 hd i hi
    simp only [List.getElem?_map, List.getElem?_range hi, Option.map_some, Option.some.injEq] at hdi
    subst hdi
    rw [c57] at he
    have hcs := Lib.ints_of_struct Tryd.underlying57 (fun j f hj => by
      match j, hj with
      | 0, hj => simp at hj; subst hj; exact ⟨Tryd.underlying5, rfl, c5⟩
      | 1, hj => simp at hj; subst hj; exact ⟨Tryd.underlying5, rfl, c5⟩
      | j + 2, hj => simp at hj) (by rw [c57]; rfl) he
    have e0 := congrArg (·[0]?) hcs
    have e1 := congrArg (·[1]?) hcs
    simp only [List.getElem?_take, List.getElem?_drop] at e0 e1
    constructor
    · rw [World.var?_cell hg hvar (2 * i), ← Array.getElem?_toList]
      simpa [Nat.mul_comm] using e0
    · rw [World.var?_cell hg hvar (2 * i + 1), ← Array.getElem?_toList]
      simpa [Nat.mul_comm] using e1
def view (g : Nat) : Option (Nat × Rows) := match g with | 0 => some (256, [firstRow]) | 1 => some (32, [accRow]) | _ => none
def firstZ : List Int := (List.range 256).map fun c => (Lib.firstT c : Int)
def accZ : List Int := (List.range 32).map fun i => (if i % 2 = 0 then (Lib.accLo (i / 2) : Int) else (Lib.accHi (i / 2) : Int))
theorem firstRow_eq : firstRow = firstZ.map fun z => .v (.int .u8 z) := by simp [firstRow, firstZ]
theorem accRow_eq : accRow = accZ.map fun z => .v (.int .u8 z) := by simp [accRow, accZ]
theorem tab_lt {W : World} (h : Lib.Utf8Tabs 0 1 W) : ∀ g ∈ [0, 1], g < W.heap.size := by
  intro g hg
  simp at hg
  rcases hg with rfl | rfl
  · exact (cell?_spot (h.1 0 (by omega))).2
  · exact (cell?_spot (h.2 0 (by omega)).1).2
theorem tab_rep {W : World} (h : Lib.Utf8Tabs 0 1 W) : ∀ g sz rows, view g = some (sz, rows) → RepF W (fun b => b ∈ [0, 1]) (.fp sz rows 0 0) (.pointer (some ⟨g, 0, none⟩)) := by
  intro g sz rows hv
  unfold view at hv
  split at hv
  · injection hv with hv; injection hv with h1 h2; subst h1; subst h2
    rw [firstRow_eq]
    have := table_RepF W (F := fun b => b ∈ [0, 1]) (g := 0) .u8 firstZ (by simp) (fun i hi => by
      have hi' : i < 256 := by simpa [firstZ] using hi
      rw [h.1 i hi']
      simp [firstZ, hi'])
    simpa [firstZ] using this
  · injection hv with hv; injection hv with h1 h2; subst h1; subst h2
    rw [accRow_eq]
    have := table_RepF W (F := fun b => b ∈ [0, 1]) (g := 1) .u8 accZ (by simp) (fun i hi => by
      have hi' : i < 32 := by simpa [accZ] using hi
      have := h.2 (i / 2) (by omega)
      by_cases hm : i % 2 = 0
      · have e : 2 * (i / 2) = i := by omega
        rw [e] at this
        rw [this.1]
        simp [accZ, hi', hm]
      · have e : 2 * (i / 2) + 1 = i := by omega
        rw [e] at this
        rw [this.2]
        simp [accZ, hi', hm])
    simpa [accZ] using this
  · cases hv
@[reducible] def gv {W : World} (h : Lib.Utf8Tabs 0 1 W) : GV where
  toGlobs := globsOf W view [0, 1] (tab_lt h) (tab_rep h)
  v0 := rfl
  v1 := rfl
theorem gv_ok {W : World} (h : Lib.Utf8Tabs 0 1 W) : @GlobOk (gv h).toGlobs W (Old W) := globsOf_ok W view [0, 1] (tab_lt h) (tab_rep h)

end Go.Eng.G
