/-
  DERIVED. GIVEN WITH THE SEED: THE CARDS: each row of YtlklijpjacmgpaaGreatDoorRows.lean that lists a variable, with what it lists TIED to the program's text (the seventh form; the later family's looks); each row that meets fmt, with fmt's text TOLD by the authors' own Lean function (tested against real Go, not proved from fmt's source: count such statements apart). THE CARD IS WHAT COUNTS. Prove the row's statement (the work); the ties are given (YtlklijpjacmgpaaGreatDoorTie.lean); close each card by the builder's one call (the guide's Derived/Test/ToyasCard.lean, 'card_holds'). Laid BY PROGRAM, IN A SANDBOX (cutbox-door.mjs). By AI agents, Wed Nov 11 2026. No macro, syntax, notation, axiom, sorry.
-/
import Derived.Test.YtlklijpjacmgpaaGreatDoorRows
import GoSem.ClaimSeven
namespace Go.Proofs.YtlklijpjacmgpaaGreatDoor
namespace Rows

/-- THE TIED CARD OF 'rafterlaw08.LangExprs'. -/
def langExprsCard : Claim7 := { stood := { row := langExprsRow, standIns := [], harness := (true, "75ea517c4b404fe8ad841e446b940c7c9bf9eb766a1ba03fc0b295314ea9ae58"), looks := true }, kinds := [], alts := [], laidByText := true, laidKinds := [.data, .pinned], laidTests := true, laidLooks := .later }
def LangExprsCardSaid : Prop := Claim7.holds Tryz.pinned (.plain (OpenSpec.ofChange langExprsSpec)) langExprsCard

/-- THE TIED CARD OF 'rafterlaw08.LangReads'. -/
def langReadsCard : Claim7 := { stood := { row := langReadsRow, standIns := [], harness := (true, "75ea517c4b404fe8ad841e446b940c7c9bf9eb766a1ba03fc0b295314ea9ae58"), looks := true }, kinds := [], alts := [], laidByText := true, laidKinds := [.data, .pinned], laidTests := true, laidLooks := .later }
def LangReadsCardSaid : Prop := Claim7.holds Tryz.pinned (.plain (OpenSpec.ofChange langReadsSpec)) langReadsCard

/-- THE SECOND FORM's CARD OF 'rafterlaw08.LangExprs'. -/
def langExprsUptoCard : Claim7 := { stood := { row := langExprsUptoRow, standIns := [], harness := (true, "75ea517c4b404fe8ad841e446b940c7c9bf9eb766a1ba03fc0b295314ea9ae58"), looks := true }, kinds := [], alts := [], laidByText := true, laidKinds := [.data, .pinned], laidTests := true, laidLooks := .later }
def LangExprsUptoCardSaid : Prop := Claim7.holds Tryz.pinned (.plain (OpenSpec.upto langExprsSpec)) langExprsUptoCard

/-- THE SECOND FORM's CARD OF 'rafterlaw08.LangReads'. -/
def langReadsUptoCard : Claim7 := { stood := { row := langReadsUptoRow, standIns := [], harness := (true, "75ea517c4b404fe8ad841e446b940c7c9bf9eb766a1ba03fc0b295314ea9ae58"), looks := true }, kinds := [], alts := [], laidByText := true, laidKinds := [.data, .pinned], laidTests := true, laidLooks := .later }
def LangReadsUptoCardSaid : Prop := Claim7.holds Tryz.pinned (.plain (OpenSpec.upto langReadsSpec)) langReadsUptoCard
end Rows
end Go.Proofs.YtlklijpjacmgpaaGreatDoor
