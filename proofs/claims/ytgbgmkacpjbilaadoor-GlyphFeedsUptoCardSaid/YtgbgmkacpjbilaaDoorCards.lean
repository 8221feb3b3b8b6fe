/-
  DERIVED. GIVEN WITH THE SEED: THE CARDS: each row of YtgbgmkacpjbilaaDoorRows.lean that lists a variable, with what it lists TIED to the program's text (the seventh form; the later family's looks); each row that meets fmt, with fmt's text TOLD by the authors' own Lean function (tested against real Go, not proved from fmt's source: count such statements apart). THE CARD IS WHAT COUNTS. Prove the row's statement (the work); the ties are given (YtgbgmkacpjbilaaDoorTie.lean); close each card by the builder's one call (the guide's Derived/Test/ToyasCard.lean, 'card_holds'). Laid BY PROGRAM, IN A SANDBOX (cutbox-door.mjs). By AI agents, Wed Nov 11 2026. No macro, syntax, notation, axiom, sorry.
-/
import Derived.Test.YtgbgmkacpjbilaaDoorRows
import GoSem.ClaimSeven
namespace Go.Proofs.YtgbgmkacpjbilaaDoor
namespace Rows

/-- THE TIED CARD OF 'casementlaw01.GlyphFeeds'. -/
def glyphFeedsCard : Claim7 := { stood := { row := glyphFeedsRow, standIns := [], harness := (true, "11a90f0c1a5b414c8621f8f45657e0115564c5e270b300dc5d6126ba99d82bfb"), looks := false }, kinds := [], alts := [], laidByText := true, laidKinds := [.data, .pinned], laidTests := true, laidLooks := .later }
def GlyphFeedsCardSaid : Prop := Claim7.holds Tryd.pinned (.plain (OpenSpec.ofChange glyphFeedsSpec)) glyphFeedsCard

/-- THE TIED CARD OF 'casementlaw01.GlyphCuts'. -/
def glyphCutsCard : Claim7 := { stood := { row := glyphCutsRow, standIns := [], harness := (true, "11a90f0c1a5b414c8621f8f45657e0115564c5e270b300dc5d6126ba99d82bfb"), looks := false }, kinds := [], alts := [], laidByText := true, laidKinds := [.data, .pinned], laidTests := true, laidLooks := .later }
def GlyphCutsCardSaid : Prop := Claim7.holds Tryd.pinned (.plain (OpenSpec.ofChange glyphCutsSpec)) glyphCutsCard

/-- THE TIED CARD OF 'casementlaw01.GlyphOnes'. -/
def glyphOnesCard : Claim7 := { stood := { row := glyphOnesRow, standIns := [], harness := (true, "11a90f0c1a5b414c8621f8f45657e0115564c5e270b300dc5d6126ba99d82bfb"), looks := false }, kinds := [], alts := [], laidByText := true, laidKinds := [.data, .pinned], laidTests := true, laidLooks := .later }
def GlyphOnesCardSaid : Prop := Claim7.holds Tryd.pinned (.plain (OpenSpec.ofChange glyphOnesSpec)) glyphOnesCard

/-- THE SECOND FORM's CARD OF 'casementlaw01.GlyphFeeds'. -/
def glyphFeedsUptoCard : Claim7 := { stood := { row := glyphFeedsUptoRow, standIns := [], harness := (true, "11a90f0c1a5b414c8621f8f45657e0115564c5e270b300dc5d6126ba99d82bfb"), looks := false }, kinds := [], alts := [], laidByText := true, laidKinds := [.data, .pinned], laidTests := true, laidLooks := .later }
def GlyphFeedsUptoCardSaid : Prop := Claim7.holds Tryd.pinned (.plain (OpenSpec.upto glyphFeedsSpec)) glyphFeedsUptoCard

/-- THE SECOND FORM's CARD OF 'casementlaw01.GlyphCuts'. -/
def glyphCutsUptoCard : Claim7 := { stood := { row := glyphCutsUptoRow, standIns := [], harness := (true, "11a90f0c1a5b414c8621f8f45657e0115564c5e270b300dc5d6126ba99d82bfb"), looks := false }, kinds := [], alts := [], laidByText := true, laidKinds := [.data, .pinned], laidTests := true, laidLooks := .later }
def GlyphCutsUptoCardSaid : Prop := Claim7.holds Tryd.pinned (.plain (OpenSpec.upto glyphCutsSpec)) glyphCutsUptoCard

/-- THE SECOND FORM's CARD OF 'casementlaw01.GlyphOnes'. -/
def glyphOnesUptoCard : Claim7 := { stood := { row := glyphOnesUptoRow, standIns := [], harness := (true, "11a90f0c1a5b414c8621f8f45657e0115564c5e270b300dc5d6126ba99d82bfb"), looks := false }, kinds := [], alts := [], laidByText := true, laidKinds := [.data, .pinned], laidTests := true, laidLooks := .later }
def GlyphOnesUptoCardSaid : Prop := Claim7.holds Tryd.pinned (.plain (OpenSpec.upto glyphOnesSpec)) glyphOnesUptoCard
end Rows
end Go.Proofs.YtgbgmkacpjbilaaDoor
