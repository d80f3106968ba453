/-
  DERIVED. GIVEN WITH THE SEED: THE CARDS: each row of YtjmjdmmojgmcdaaDoorRows.lean that lists a variable, with what it lists TIED to the program's text (the seventh form; the later family's looks); each row that meets fmt, with fmt's text TOLD by the authors' own Lean function (tested against real Go, not proved from fmt's source: count such statements apart). THE CARD IS WHAT COUNTS. Prove the row's statement (the work); the ties are given (YtjmjdmmojgmcdaaDoorTie.lean); close each card by the builder's one call (the guide's Derived/Test/ToyasCard.lean, 'card_holds'). Laid BY PROGRAM, IN A SANDBOX (cutbox-door.mjs). By AI agents, Wed Nov 11 2026. No macro, syntax, notation, axiom, sorry.
-/
import Derived.Test.YtjmjdmmojgmcdaaDoorRows
import GoSem.ClaimSeven
namespace Go.Proofs.YtjmjdmmojgmcdaaDoor
namespace Rows

/-- THE TIED CARD OF 'rafterlaw08.LangLimits'. -/
def langLimitsCard : Claim7 := { stood := { row := langLimitsRow, standIns := [], harness := (true, "5d9d372ce50e024e390f077a5251a038f2990fbc7631210bec753ec051ba0955"), looks := true }, kinds := [], alts := [], laidByText := true, laidKinds := [.data, .pinned], laidTests := true, laidLooks := .later }
def LangLimitsCardSaid : Prop := Claim7.holds Tryd.pinned (.plain (OpenSpec.ofChange langLimitsSpec)) langLimitsCard

/-- THE TIED CARD OF 'rafterlaw08.LangBad'. -/
def langBadCard : Claim7 := { stood := { row := langBadRow, standIns := [], harness := (true, "5d9d372ce50e024e390f077a5251a038f2990fbc7631210bec753ec051ba0955"), looks := true }, kinds := [], alts := [], laidByText := true, laidKinds := [.data, .pinned], laidTests := true, laidLooks := .later }
def LangBadCardSaid : Prop := Claim7.holds Tryd.pinned (.plain (OpenSpec.ofChange langBadSpec)) langBadCard

/-- THE TIED CARD OF 'rafterlaw08.LangSigns'. -/
def langSignsCard : Claim7 := { stood := { row := langSignsRow, standIns := [], harness := (true, "5d9d372ce50e024e390f077a5251a038f2990fbc7631210bec753ec051ba0955"), looks := true }, kinds := [], alts := [], laidByText := true, laidKinds := [.data, .pinned], laidTests := true, laidLooks := .later }
def LangSignsCardSaid : Prop := Claim7.holds Tryd.pinned (.plain (OpenSpec.ofChange langSignsSpec)) langSignsCard

/-- THE TIED CARD OF 'rafterlaw08.LangBack'. -/
def langBackCard : Claim7 := { stood := { row := langBackRow, standIns := [], harness := (true, "5d9d372ce50e024e390f077a5251a038f2990fbc7631210bec753ec051ba0955"), looks := true }, kinds := [], alts := [], laidByText := true, laidKinds := [.data, .pinned], laidTests := true, laidLooks := .later }
def LangBackCardSaid : Prop := Claim7.holds Tryd.pinned (.plain (OpenSpec.ofChange langBackSpec)) langBackCard

/-- THE SECOND FORM's CARD OF 'rafterlaw08.LangLimits'. -/
def langLimitsUptoCard : Claim7 := { stood := { row := langLimitsUptoRow, standIns := [], harness := (true, "5d9d372ce50e024e390f077a5251a038f2990fbc7631210bec753ec051ba0955"), looks := true }, kinds := [], alts := [], laidByText := true, laidKinds := [.data, .pinned], laidTests := true, laidLooks := .later }
def LangLimitsUptoCardSaid : Prop := Claim7.holds Tryd.pinned (.plain (OpenSpec.upto langLimitsSpec)) langLimitsUptoCard

/-- THE SECOND FORM's CARD OF 'rafterlaw08.LangBad'. -/
def langBadUptoCard : Claim7 := { stood := { row := langBadUptoRow, standIns := [], harness := (true, "5d9d372ce50e024e390f077a5251a038f2990fbc7631210bec753ec051ba0955"), looks := true }, kinds := [], alts := [], laidByText := true, laidKinds := [.data, .pinned], laidTests := true, laidLooks := .later }
def LangBadUptoCardSaid : Prop := Claim7.holds Tryd.pinned (.plain (OpenSpec.upto langBadSpec)) langBadUptoCard

/-- THE SECOND FORM's CARD OF 'rafterlaw08.LangSigns'. -/
def langSignsUptoCard : Claim7 := { stood := { row := langSignsUptoRow, standIns := [], harness := (true, "5d9d372ce50e024e390f077a5251a038f2990fbc7631210bec753ec051ba0955"), looks := true }, kinds := [], alts := [], laidByText := true, laidKinds := [.data, .pinned], laidTests := true, laidLooks := .later }
def LangSignsUptoCardSaid : Prop := Claim7.holds Tryd.pinned (.plain (OpenSpec.upto langSignsSpec)) langSignsUptoCard

/-- THE SECOND FORM's CARD OF 'rafterlaw08.LangBack'. -/
def langBackUptoCard : Claim7 := { stood := { row := langBackUptoRow, standIns := [], harness := (true, "5d9d372ce50e024e390f077a5251a038f2990fbc7631210bec753ec051ba0955"), looks := true }, kinds := [], alts := [], laidByText := true, laidKinds := [.data, .pinned], laidTests := true, laidLooks := .later }
def LangBackUptoCardSaid : Prop := Claim7.holds Tryd.pinned (.plain (OpenSpec.upto langBackSpec)) langBackUptoCard
end Rows
end Go.Proofs.YtjmjdmmojgmcdaaDoor
