/-
  DERIVED. GIVEN WITH THE SEED: THE CARDS: each row of YtklhfbgmadblcaaDoorRows.lean that lists a variable, with what it lists TIED to the program's text (the seventh form; the later family's looks); each row that meets fmt, with fmt's text TOLD by the authors' own Lean function (tested against real Go, not proved from fmt's source: count such statements apart). THE CARD IS WHAT COUNTS. Prove the row's statement (the work); the ties are given (YtklhfbgmadblcaaDoorTie.lean); close each card by the builder's one call (the guide's Derived/Test/ToyasCard.lean, 'card_holds'). Laid BY PROGRAM, IN A SANDBOX (cutbox-door.mjs). By AI agents, Wed Nov 11 2026. No macro, syntax, notation, axiom, sorry.
-/
import Derived.Test.YtklhfbgmadblcaaDoorRows
import GoSem.ClaimSeven
namespace Go.Proofs.YtklhfbgmadblcaaDoor
namespace Rows

/-- THE TIED CARD OF 'rafterlaw04.GlyphClasses'. -/
def glyphClassesCard : Claim7 := { stood := { row := glyphClassesRow, standIns := [], harness := (true, "155c5334bc8112b2a4c17dd04637ab12c83c24cc2ea30a2662eb25e66e72cbcd"), looks := false }, kinds := [], alts := [], laidByText := true, laidKinds := [.data, .pinned], laidTests := true, laidLooks := .later }
def GlyphClassesCardSaid : Prop := Claim7.holds Tryd.pinned (.plain (OpenSpec.ofChange glyphClassesSpec)) glyphClassesCard

/-- THE TIED CARD OF 'rafterlaw04.GlyphScans'. -/
def glyphScansCard : Claim7 := { stood := { row := glyphScansRow, standIns := [], harness := (true, "155c5334bc8112b2a4c17dd04637ab12c83c24cc2ea30a2662eb25e66e72cbcd"), looks := false }, kinds := [], alts := [], laidByText := true, laidKinds := [.data, .pinned], laidTests := true, laidLooks := .later }
def GlyphScansCardSaid : Prop := Claim7.holds Tryd.pinned (.plain (OpenSpec.ofChange glyphScansSpec)) glyphScansCard

/-- THE TIED CARD OF 'rafterlaw04.GlyphSigns'. -/
def glyphSignsCard : Claim7 := { stood := { row := glyphSignsRow, standIns := [], harness := (true, "155c5334bc8112b2a4c17dd04637ab12c83c24cc2ea30a2662eb25e66e72cbcd"), looks := false }, kinds := [], alts := [], laidByText := true, laidKinds := [.data, .pinned], laidTests := true, laidLooks := .later }
def GlyphSignsCardSaid : Prop := Claim7.holds Tryd.pinned (.plain (OpenSpec.ofChange glyphSignsSpec)) glyphSignsCard

/-- THE TIED CARD OF 'rafterlaw04.GlyphReads'. -/
def glyphReadsCard : Claim7 := { stood := { row := glyphReadsRow, standIns := [], harness := (true, "155c5334bc8112b2a4c17dd04637ab12c83c24cc2ea30a2662eb25e66e72cbcd"), looks := false }, kinds := [], alts := [], laidByText := true, laidKinds := [.data, .pinned], laidTests := true, laidLooks := .later }
def GlyphReadsCardSaid : Prop := Claim7.holds Tryd.pinned (.plain (OpenSpec.ofChange glyphReadsSpec)) glyphReadsCard

/-- THE TIED CARD OF 'rafterlaw04.GlyphBack'. -/
def glyphBackCard : Claim7 := { stood := { row := glyphBackRow, standIns := [], harness := (true, "155c5334bc8112b2a4c17dd04637ab12c83c24cc2ea30a2662eb25e66e72cbcd"), looks := false }, kinds := [], alts := [], laidByText := true, laidKinds := [.data, .pinned], laidTests := true, laidLooks := .later }
def GlyphBackCardSaid : Prop := Claim7.holds Tryd.pinned (.plain (OpenSpec.ofChange glyphBackSpec)) glyphBackCard

/-- THE TIED CARD OF 'rafterlaw04.GlyphCodes'. -/
def glyphCodesCard : Claim7 := { stood := { row := glyphCodesRow, standIns := [], harness := (true, "155c5334bc8112b2a4c17dd04637ab12c83c24cc2ea30a2662eb25e66e72cbcd"), looks := false }, kinds := [], alts := [], laidByText := true, laidKinds := [.data, .pinned], laidTests := true, laidLooks := .later }
def GlyphCodesCardSaid : Prop := Claim7.holds Tryd.pinned (.plain (OpenSpec.ofChange glyphCodesSpec)) glyphCodesCard

/-- THE TIED CARD OF 'rafterlaw04.GlyphFirst'. -/
def glyphFirstCard : Claim7 := { stood := { row := glyphFirstRow, standIns := [], harness := (true, "155c5334bc8112b2a4c17dd04637ab12c83c24cc2ea30a2662eb25e66e72cbcd"), looks := false }, kinds := [], alts := [], laidByText := true, laidKinds := [.data, .pinned], laidTests := true, laidLooks := .later }
def GlyphFirstCardSaid : Prop := Claim7.holds Tryd.pinned (.plain (OpenSpec.ofChange glyphFirstSpec)) glyphFirstCard

/-- THE TIED CARD OF 'rafterlaw04.GlyphLimits'. -/
def glyphLimitsCard : Claim7 := { stood := { row := glyphLimitsRow, standIns := [], harness := (true, "155c5334bc8112b2a4c17dd04637ab12c83c24cc2ea30a2662eb25e66e72cbcd"), looks := false }, kinds := [], alts := [], laidByText := true, laidKinds := [.data, .pinned], laidTests := true, laidLooks := .later }
def GlyphLimitsCardSaid : Prop := Claim7.holds Tryd.pinned (.plain (OpenSpec.ofChange glyphLimitsSpec)) glyphLimitsCard

/-- THE TIED CARD OF 'rafterlaw04.GlyphAgain'. -/
def glyphAgainCard : Claim7 := { stood := { row := glyphAgainRow, standIns := [], harness := (true, "155c5334bc8112b2a4c17dd04637ab12c83c24cc2ea30a2662eb25e66e72cbcd"), looks := false }, kinds := [], alts := [], laidByText := true, laidKinds := [.data, .pinned], laidTests := true, laidLooks := .later }
def GlyphAgainCardSaid : Prop := Claim7.holds Tryd.pinned (.plain (OpenSpec.ofChange glyphAgainSpec)) glyphAgainCard

/-- THE TIED CARD OF 'rafterlaw04.GlyphNames'. -/
def glyphNamesCard : Claim7 := { stood := { row := glyphNamesRow, standIns := [], harness := (true, "155c5334bc8112b2a4c17dd04637ab12c83c24cc2ea30a2662eb25e66e72cbcd"), looks := false }, kinds := [], alts := [], laidByText := true, laidKinds := [.data, .pinned], laidTests := true, laidLooks := .later }
def GlyphNamesCardSaid : Prop := Claim7.holds Tryd.pinned (.plain (OpenSpec.ofChange glyphNamesSpec)) glyphNamesCard

/-- THE SECOND FORM's CARD OF 'rafterlaw04.GlyphClasses'. -/
def glyphClassesUptoCard : Claim7 := { stood := { row := glyphClassesUptoRow, standIns := [], harness := (true, "155c5334bc8112b2a4c17dd04637ab12c83c24cc2ea30a2662eb25e66e72cbcd"), looks := false }, kinds := [], alts := [], laidByText := true, laidKinds := [.data, .pinned], laidTests := true, laidLooks := .later }
def GlyphClassesUptoCardSaid : Prop := Claim7.holds Tryd.pinned (.plain (OpenSpec.upto glyphClassesSpec)) glyphClassesUptoCard

/-- THE SECOND FORM's CARD OF 'rafterlaw04.GlyphScans'. -/
def glyphScansUptoCard : Claim7 := { stood := { row := glyphScansUptoRow, standIns := [], harness := (true, "155c5334bc8112b2a4c17dd04637ab12c83c24cc2ea30a2662eb25e66e72cbcd"), looks := false }, kinds := [], alts := [], laidByText := true, laidKinds := [.data, .pinned], laidTests := true, laidLooks := .later }
def GlyphScansUptoCardSaid : Prop := Claim7.holds Tryd.pinned (.plain (OpenSpec.upto glyphScansSpec)) glyphScansUptoCard

/-- THE SECOND FORM's CARD OF 'rafterlaw04.GlyphSigns'. -/
def glyphSignsUptoCard : Claim7 := { stood := { row := glyphSignsUptoRow, standIns := [], harness := (true, "155c5334bc8112b2a4c17dd04637ab12c83c24cc2ea30a2662eb25e66e72cbcd"), looks := false }, kinds := [], alts := [], laidByText := true, laidKinds := [.data, .pinned], laidTests := true, laidLooks := .later }
def GlyphSignsUptoCardSaid : Prop := Claim7.holds Tryd.pinned (.plain (OpenSpec.upto glyphSignsSpec)) glyphSignsUptoCard

/-- THE SECOND FORM's CARD OF 'rafterlaw04.GlyphReads'. -/
def glyphReadsUptoCard : Claim7 := { stood := { row := glyphReadsUptoRow, standIns := [], harness := (true, "155c5334bc8112b2a4c17dd04637ab12c83c24cc2ea30a2662eb25e66e72cbcd"), looks := false }, kinds := [], alts := [], laidByText := true, laidKinds := [.data, .pinned], laidTests := true, laidLooks := .later }
def GlyphReadsUptoCardSaid : Prop := Claim7.holds Tryd.pinned (.plain (OpenSpec.upto glyphReadsSpec)) glyphReadsUptoCard

/-- THE SECOND FORM's CARD OF 'rafterlaw04.GlyphBack'. -/
def glyphBackUptoCard : Claim7 := { stood := { row := glyphBackUptoRow, standIns := [], harness := (true, "155c5334bc8112b2a4c17dd04637ab12c83c24cc2ea30a2662eb25e66e72cbcd"), looks := false }, kinds := [], alts := [], laidByText := true, laidKinds := [.data, .pinned], laidTests := true, laidLooks := .later }
def GlyphBackUptoCardSaid : Prop := Claim7.holds Tryd.pinned (.plain (OpenSpec.upto glyphBackSpec)) glyphBackUptoCard

/-- THE SECOND FORM's CARD OF 'rafterlaw04.GlyphCodes'. -/
def glyphCodesUptoCard : Claim7 := { stood := { row := glyphCodesUptoRow, standIns := [], harness := (true, "155c5334bc8112b2a4c17dd04637ab12c83c24cc2ea30a2662eb25e66e72cbcd"), looks := false }, kinds := [], alts := [], laidByText := true, laidKinds := [.data, .pinned], laidTests := true, laidLooks := .later }
def GlyphCodesUptoCardSaid : Prop := Claim7.holds Tryd.pinned (.plain (OpenSpec.upto glyphCodesSpec)) glyphCodesUptoCard

/-- THE SECOND FORM's CARD OF 'rafterlaw04.GlyphFirst'. -/
def glyphFirstUptoCard : Claim7 := { stood := { row := glyphFirstUptoRow, standIns := [], harness := (true, "155c5334bc8112b2a4c17dd04637ab12c83c24cc2ea30a2662eb25e66e72cbcd"), looks := false }, kinds := [], alts := [], laidByText := true, laidKinds := [.data, .pinned], laidTests := true, laidLooks := .later }
def GlyphFirstUptoCardSaid : Prop := Claim7.holds Tryd.pinned (.plain (OpenSpec.upto glyphFirstSpec)) glyphFirstUptoCard

/-- THE SECOND FORM's CARD OF 'rafterlaw04.GlyphLimits'. -/
def glyphLimitsUptoCard : Claim7 := { stood := { row := glyphLimitsUptoRow, standIns := [], harness := (true, "155c5334bc8112b2a4c17dd04637ab12c83c24cc2ea30a2662eb25e66e72cbcd"), looks := false }, kinds := [], alts := [], laidByText := true, laidKinds := [.data, .pinned], laidTests := true, laidLooks := .later }
def GlyphLimitsUptoCardSaid : Prop := Claim7.holds Tryd.pinned (.plain (OpenSpec.upto glyphLimitsSpec)) glyphLimitsUptoCard

/-- THE SECOND FORM's CARD OF 'rafterlaw04.GlyphAgain'. -/
def glyphAgainUptoCard : Claim7 := { stood := { row := glyphAgainUptoRow, standIns := [], harness := (true, "155c5334bc8112b2a4c17dd04637ab12c83c24cc2ea30a2662eb25e66e72cbcd"), looks := false }, kinds := [], alts := [], laidByText := true, laidKinds := [.data, .pinned], laidTests := true, laidLooks := .later }
def GlyphAgainUptoCardSaid : Prop := Claim7.holds Tryd.pinned (.plain (OpenSpec.upto glyphAgainSpec)) glyphAgainUptoCard

/-- THE SECOND FORM's CARD OF 'rafterlaw04.GlyphNames'. -/
def glyphNamesUptoCard : Claim7 := { stood := { row := glyphNamesUptoRow, standIns := [], harness := (true, "155c5334bc8112b2a4c17dd04637ab12c83c24cc2ea30a2662eb25e66e72cbcd"), looks := false }, kinds := [], alts := [], laidByText := true, laidKinds := [.data, .pinned], laidTests := true, laidLooks := .later }
def GlyphNamesUptoCardSaid : Prop := Claim7.holds Tryd.pinned (.plain (OpenSpec.upto glyphNamesSpec)) glyphNamesUptoCard
end Rows
end Go.Proofs.YtklhfbgmadblcaaDoor
