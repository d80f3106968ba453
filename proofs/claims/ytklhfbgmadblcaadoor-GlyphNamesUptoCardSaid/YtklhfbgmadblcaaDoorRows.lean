/-
  NARROWER THAN 'FOR EVERY INPUT', by the rows' own cells (each row's printed sentence says how): GlyphClasses: laid · GlyphScans: laid · GlyphSigns: laid · GlyphReads: laid · GlyphBack: laid · GlyphCodes: laid · GlyphFirst: laid · GlyphLimits: laid · GlyphAgain: laid · GlyphNames: laid.
  DERIVED. THE GIVEN ROWS OF THIS SEAT. 10 by the template 'for every input the law returns true; each argument reads behind the call as it read before'; 0 by the template 'total and deterministic' (their statements: YtklhfbgmadblcaaDoorTotals.lean).
  GIVEN WITH THE SEED: the statements are not yours to turn. If you find one false, say at which input.
  Laid BY PROGRAM, IN A SANDBOX (cutbox-rows.mjs): the forced cells as the released guide's own fill.sh prints them over the translation a0a543ac7cf57995… (all of the seat's roots in one cut). By AI agents, Wed Nov 11 2026. No macro, syntax, notation, axiom, sorry.
-/
import Derived.Test.YtklhfbgmadblcaaDoorChecked
import GoSem.PinnedTables
import GoSem.Claim
import GoSem.ClaimJoined
import GoSem.ClaimMapViews
import Derived.JoinedTies
import Derived.KernelRfl
namespace Go.Proofs.YtklhfbgmadblcaaDoor
/- THE CELL 'sum', in the pinned program and in every row, IS THE sha256 OF THE DUMP (.gsa) THAT YtklhfbgmadblcaaDoorProg.lean LOADS. Nothing in Lean hashes anything: it is a label: what it is worth is what the hold of that sum in a sandbox is worth. -/
noncomputable def Tryd.pinned : Pinned := { name := "ytklhfbgmadblcaadoor", sum := "a0a543ac7cf579957a108c809ab927449601215e236beaee665a877333a26427", checked := Tryd.checked }
namespace Rows
def none {H : Type} : Left H := { results := [], args := [] }

/- WHAT THE LISTED PACKAGE-LEVEL VARIABLES READ AS WHEN THE CALL BEGINS. Each datum BY PROGRAM (the guide's laid-datum.mjs) off the statement by which the dump's own 'gosem.cut.vars' lays the variable. In a bare row this is a premise. The card (YtklhfbgmadblcaaDoorCards.lean) ties it to the program's text. -/
def laid_unicode_utf8_acceptRanges {H : Type} : DataW H := .agg [.agg [.lit (.int .u8 128), .lit (.int .u8 191)], .agg [.lit (.int .u8 160), .lit (.int .u8 191)], .agg [.lit (.int .u8 128), .lit (.int .u8 159)], .agg [.lit (.int .u8 144), .lit (.int .u8 191)], .agg [.lit (.int .u8 128), .lit (.int .u8 143)], .agg [.lit (.int .u8 0), .lit (.int .u8 0)], .agg [.lit (.int .u8 0), .lit (.int .u8 0)], .agg [.lit (.int .u8 0), .lit (.int .u8 0)], .agg [.lit (.int .u8 0), .lit (.int .u8 0)], .agg [.lit (.int .u8 0), .lit (.int .u8 0)], .agg [.lit (.int .u8 0), .lit (.int .u8 0)], .agg [.lit (.int .u8 0), .lit (.int .u8 0)], .agg [.lit (.int .u8 0), .lit (.int .u8 0)], .agg [.lit (.int .u8 0), .lit (.int .u8 0)], .agg [.lit (.int .u8 0), .lit (.int .u8 0)], .agg [.lit (.int .u8 0), .lit (.int .u8 0)]]
/-- One of Go's own tables, pinned by name: the form's constant. -/
def laid_unicode_utf8_first : DataW Unit := Go.Pinned.utf8First

/-- 'rafterlaw04.GlyphClasses': WHATEVER THE INPUT: true; the input reads as it did. -/
def glyphClassesSpec : ChangeSpec := { name := "glyphClasses", fn := fun _ => fun
  | [d] => { results := [.lit (.bool true)], args := [d] }
  | _ => none }
def glyphClassesRow : OpenClaim := { program := "ytklhfbgmadblcaadoor", sum := "a0a543ac7cf579957a108c809ab927449601215e236beaee665a877333a26427", func := "rafter/rafterlaw04.GlyphClasses", spec := "glyphClasses", unfollowed := true, recurses := true, named := ["unicode/utf8.first", "unicode/utf8.acceptRanges"], apart := false, laid := [("unicode/utf8.acceptRanges", laid_unicode_utf8_acceptRanges), ("unicode/utf8.first", laid_unicode_utf8_first)] }
def GlyphClassesSaid : Prop := glyphClassesRow.holds Tryd.pinned (OpenSpec.ofChange glyphClassesSpec)

/-- ITS FALSE NEIGHBOUR: 'it returns false'. Refute it at one input. -/
def glyphClassesWrong : ChangeSpec := { name := "glyphClasses", fn := fun _ => fun
  | [d] => { results := [.lit (.bool false)], args := [d] }
  | _ => none }
def GlyphClassesWrongFalsely : Prop := glyphClassesRow.holds Tryd.pinned (OpenSpec.ofChange glyphClassesWrong)

/-- 'rafterlaw04.GlyphScans': WHATEVER THE INPUT: true; the input reads as it did. -/
def glyphScansSpec : ChangeSpec := { name := "glyphScans", fn := fun _ => fun
  | [d] => { results := [.lit (.bool true)], args := [d] }
  | _ => none }
def glyphScansRow : OpenClaim := { program := "ytklhfbgmadblcaadoor", sum := "a0a543ac7cf579957a108c809ab927449601215e236beaee665a877333a26427", func := "rafter/rafterlaw04.GlyphScans", spec := "glyphScans", unfollowed := true, recurses := true, named := ["unicode/utf8.first", "unicode/utf8.acceptRanges"], apart := false, laid := [("unicode/utf8.acceptRanges", laid_unicode_utf8_acceptRanges), ("unicode/utf8.first", laid_unicode_utf8_first)] }
def GlyphScansSaid : Prop := glyphScansRow.holds Tryd.pinned (OpenSpec.ofChange glyphScansSpec)

/-- ITS FALSE NEIGHBOUR: 'it returns false'. Refute it at one input. -/
def glyphScansWrong : ChangeSpec := { name := "glyphScans", fn := fun _ => fun
  | [d] => { results := [.lit (.bool false)], args := [d] }
  | _ => none }
def GlyphScansWrongFalsely : Prop := glyphScansRow.holds Tryd.pinned (OpenSpec.ofChange glyphScansWrong)

/-- 'rafterlaw04.GlyphSigns': WHATEVER THE INPUT: true; the input reads as it did. -/
def glyphSignsSpec : ChangeSpec := { name := "glyphSigns", fn := fun _ => fun
  | [d] => { results := [.lit (.bool true)], args := [d] }
  | _ => none }
def glyphSignsRow : OpenClaim := { program := "ytklhfbgmadblcaadoor", sum := "a0a543ac7cf579957a108c809ab927449601215e236beaee665a877333a26427", func := "rafter/rafterlaw04.GlyphSigns", spec := "glyphSigns", unfollowed := true, recurses := true, named := ["unicode/utf8.first", "unicode/utf8.acceptRanges"], apart := false, laid := [("unicode/utf8.acceptRanges", laid_unicode_utf8_acceptRanges), ("unicode/utf8.first", laid_unicode_utf8_first)] }
def GlyphSignsSaid : Prop := glyphSignsRow.holds Tryd.pinned (OpenSpec.ofChange glyphSignsSpec)

/-- ITS FALSE NEIGHBOUR: 'it returns false'. Refute it at one input. -/
def glyphSignsWrong : ChangeSpec := { name := "glyphSigns", fn := fun _ => fun
  | [d] => { results := [.lit (.bool false)], args := [d] }
  | _ => none }
def GlyphSignsWrongFalsely : Prop := glyphSignsRow.holds Tryd.pinned (OpenSpec.ofChange glyphSignsWrong)

/-- 'rafterlaw04.GlyphReads': WHATEVER THE INPUT: true; the input reads as it did. -/
def glyphReadsSpec : ChangeSpec := { name := "glyphReads", fn := fun _ => fun
  | [d] => { results := [.lit (.bool true)], args := [d] }
  | _ => none }
def glyphReadsRow : OpenClaim := { program := "ytklhfbgmadblcaadoor", sum := "a0a543ac7cf579957a108c809ab927449601215e236beaee665a877333a26427", func := "rafter/rafterlaw04.GlyphReads", spec := "glyphReads", unfollowed := true, recurses := true, named := ["unicode/utf8.first", "unicode/utf8.acceptRanges"], apart := false, laid := [("unicode/utf8.acceptRanges", laid_unicode_utf8_acceptRanges), ("unicode/utf8.first", laid_unicode_utf8_first)] }
def GlyphReadsSaid : Prop := glyphReadsRow.holds Tryd.pinned (OpenSpec.ofChange glyphReadsSpec)

/-- ITS FALSE NEIGHBOUR: 'it returns false'. Refute it at one input. -/
def glyphReadsWrong : ChangeSpec := { name := "glyphReads", fn := fun _ => fun
  | [d] => { results := [.lit (.bool false)], args := [d] }
  | _ => none }
def GlyphReadsWrongFalsely : Prop := glyphReadsRow.holds Tryd.pinned (OpenSpec.ofChange glyphReadsWrong)

/-- 'rafterlaw04.GlyphBack': WHATEVER THE INPUT: true; the input reads as it did. -/
def glyphBackSpec : ChangeSpec := { name := "glyphBack", fn := fun _ => fun
  | [d] => { results := [.lit (.bool true)], args := [d] }
  | _ => none }
def glyphBackRow : OpenClaim := { program := "ytklhfbgmadblcaadoor", sum := "a0a543ac7cf579957a108c809ab927449601215e236beaee665a877333a26427", func := "rafter/rafterlaw04.GlyphBack", spec := "glyphBack", unfollowed := true, recurses := true, named := ["unicode/utf8.first", "unicode/utf8.acceptRanges"], apart := false, laid := [("unicode/utf8.acceptRanges", laid_unicode_utf8_acceptRanges), ("unicode/utf8.first", laid_unicode_utf8_first)] }
def GlyphBackSaid : Prop := glyphBackRow.holds Tryd.pinned (OpenSpec.ofChange glyphBackSpec)

/-- ITS FALSE NEIGHBOUR: 'it returns false'. Refute it at one input. -/
def glyphBackWrong : ChangeSpec := { name := "glyphBack", fn := fun _ => fun
  | [d] => { results := [.lit (.bool false)], args := [d] }
  | _ => none }
def GlyphBackWrongFalsely : Prop := glyphBackRow.holds Tryd.pinned (OpenSpec.ofChange glyphBackWrong)

/-- 'rafterlaw04.GlyphCodes': WHATEVER THE INPUT: true; the input reads as it did. -/
def glyphCodesSpec : ChangeSpec := { name := "glyphCodes", fn := fun _ => fun
  | [d1, d2] => { results := [.lit (.bool true)], args := [d1, d2] }
  | _ => none }
def glyphCodesRow : OpenClaim := { program := "ytklhfbgmadblcaadoor", sum := "a0a543ac7cf579957a108c809ab927449601215e236beaee665a877333a26427", func := "rafter/rafterlaw04.GlyphCodes", spec := "glyphCodes", unfollowed := true, recurses := true, named := ["unicode/utf8.first", "unicode/utf8.acceptRanges"], apart := false, laid := [("unicode/utf8.acceptRanges", laid_unicode_utf8_acceptRanges), ("unicode/utf8.first", laid_unicode_utf8_first)] }
def GlyphCodesSaid : Prop := glyphCodesRow.holds Tryd.pinned (OpenSpec.ofChange glyphCodesSpec)

/-- ITS FALSE NEIGHBOUR: 'it returns false'. Refute it at one input. -/
def glyphCodesWrong : ChangeSpec := { name := "glyphCodes", fn := fun _ => fun
  | [d1, d2] => { results := [.lit (.bool false)], args := [d1, d2] }
  | _ => none }
def GlyphCodesWrongFalsely : Prop := glyphCodesRow.holds Tryd.pinned (OpenSpec.ofChange glyphCodesWrong)

/-- 'rafterlaw04.GlyphFirst': WHATEVER THE INPUT: true; the input reads as it did. -/
def glyphFirstSpec : ChangeSpec := { name := "glyphFirst", fn := fun _ => fun
  | [d1, d2] => { results := [.lit (.bool true)], args := [d1, d2] }
  | _ => none }
def glyphFirstRow : OpenClaim := { program := "ytklhfbgmadblcaadoor", sum := "a0a543ac7cf579957a108c809ab927449601215e236beaee665a877333a26427", func := "rafter/rafterlaw04.GlyphFirst", spec := "glyphFirst", unfollowed := true, recurses := true, named := ["unicode/utf8.first", "unicode/utf8.acceptRanges"], apart := false, laid := [("unicode/utf8.acceptRanges", laid_unicode_utf8_acceptRanges), ("unicode/utf8.first", laid_unicode_utf8_first)] }
def GlyphFirstSaid : Prop := glyphFirstRow.holds Tryd.pinned (OpenSpec.ofChange glyphFirstSpec)

/-- ITS FALSE NEIGHBOUR: 'it returns false'. Refute it at one input. -/
def glyphFirstWrong : ChangeSpec := { name := "glyphFirst", fn := fun _ => fun
  | [d1, d2] => { results := [.lit (.bool false)], args := [d1, d2] }
  | _ => none }
def GlyphFirstWrongFalsely : Prop := glyphFirstRow.holds Tryd.pinned (OpenSpec.ofChange glyphFirstWrong)

/-- 'rafterlaw04.GlyphLimits': WHATEVER THE INPUT: true; the input reads as it did. -/
def glyphLimitsSpec : ChangeSpec := { name := "glyphLimits", fn := fun _ => fun
  | [d1, d2] => { results := [.lit (.bool true)], args := [d1, d2] }
  | _ => none }
def glyphLimitsRow : OpenClaim := { program := "ytklhfbgmadblcaadoor", sum := "a0a543ac7cf579957a108c809ab927449601215e236beaee665a877333a26427", func := "rafter/rafterlaw04.GlyphLimits", spec := "glyphLimits", unfollowed := true, recurses := true, named := ["unicode/utf8.first", "unicode/utf8.acceptRanges"], apart := false, laid := [("unicode/utf8.acceptRanges", laid_unicode_utf8_acceptRanges), ("unicode/utf8.first", laid_unicode_utf8_first)] }
def GlyphLimitsSaid : Prop := glyphLimitsRow.holds Tryd.pinned (OpenSpec.ofChange glyphLimitsSpec)

/-- ITS FALSE NEIGHBOUR: 'it returns false'. Refute it at one input. -/
def glyphLimitsWrong : ChangeSpec := { name := "glyphLimits", fn := fun _ => fun
  | [d1, d2] => { results := [.lit (.bool false)], args := [d1, d2] }
  | _ => none }
def GlyphLimitsWrongFalsely : Prop := glyphLimitsRow.holds Tryd.pinned (OpenSpec.ofChange glyphLimitsWrong)

/-- 'rafterlaw04.GlyphAgain': WHATEVER THE INPUT: true; the input reads as it did. -/
def glyphAgainSpec : ChangeSpec := { name := "glyphAgain", fn := fun _ => fun
  | [d1, d2, d3] => { results := [.lit (.bool true)], args := [d1, d2, d3] }
  | _ => none }
def glyphAgainRow : OpenClaim := { program := "ytklhfbgmadblcaadoor", sum := "a0a543ac7cf579957a108c809ab927449601215e236beaee665a877333a26427", func := "rafter/rafterlaw04.GlyphAgain", spec := "glyphAgain", inPlace := ["internal/abi.NoEscape"], unfollowed := true, recurses := true, named := ["unicode/utf8.first", "unicode/utf8.acceptRanges"], apart := false, laid := [("unicode/utf8.acceptRanges", laid_unicode_utf8_acceptRanges), ("unicode/utf8.first", laid_unicode_utf8_first)] }
def GlyphAgainSaid : Prop := glyphAgainRow.holds Tryd.pinned (OpenSpec.ofChange glyphAgainSpec)

/-- ITS FALSE NEIGHBOUR: 'it returns false'. Refute it at one input. -/
def glyphAgainWrong : ChangeSpec := { name := "glyphAgain", fn := fun _ => fun
  | [d1, d2, d3] => { results := [.lit (.bool false)], args := [d1, d2, d3] }
  | _ => none }
def GlyphAgainWrongFalsely : Prop := glyphAgainRow.holds Tryd.pinned (OpenSpec.ofChange glyphAgainWrong)

/-- 'rafterlaw04.GlyphNames': WHATEVER THE INPUT: true; the input reads as it did. -/
def glyphNamesSpec : ChangeSpec := { name := "glyphNames", fn := fun _ => fun
  | [d1, d2] => { results := [.lit (.bool true)], args := [d1, d2] }
  | _ => none }
def glyphNamesRow : OpenClaim := { program := "ytklhfbgmadblcaadoor", sum := "a0a543ac7cf579957a108c809ab927449601215e236beaee665a877333a26427", func := "rafter/rafterlaw04.GlyphNames", spec := "glyphNames", inPlace := ["internal/abi.NoEscape"], unfollowed := true, recurses := true, named := ["unicode/utf8.first", "unicode/utf8.acceptRanges"], apart := false, laid := [("unicode/utf8.acceptRanges", laid_unicode_utf8_acceptRanges), ("unicode/utf8.first", laid_unicode_utf8_first)] }
def GlyphNamesSaid : Prop := glyphNamesRow.holds Tryd.pinned (OpenSpec.ofChange glyphNamesSpec)

/-- ITS FALSE NEIGHBOUR: 'it returns false'. Refute it at one input. -/
def glyphNamesWrong : ChangeSpec := { name := "glyphNames", fn := fun _ => fun
  | [d1, d2] => { results := [.lit (.bool false)], args := [d1, d2] }
  | _ => none }
def GlyphNamesWrongFalsely : Prop := glyphNamesRow.holds Tryd.pinned (OpenSpec.ofChange glyphNamesWrong)

/- THE SECOND FORM. 'bulk': how many values and letters a reading holds, each counted each time it is reached (what is shared counts as often as it is met; a slice's spare places count too). A statement '..UptoSaid' is the law's where the arguments, and the package variables that the reading takes, are together of bulk at most 1048576: NARROWER than '..Said'. Prove '..Said' where nothing that the law and all that it calls make is longer than what came in: it says more and counts as full. Else prove '..UptoSaid'. A law counts once. -/
mutual
def uptoBulk {H : Type} : DataW H → Nat
  | .lit (.string bytes) => bytes.length + 1
  | .lit _ => 1
  | .nil => 1
  | .ptr d => uptoBulk d + 1
  | .slice elems spare => uptoBulkAll elems + uptoBulkAll spare + 1
  | .agg parts => uptoBulkAll parts + 1
  | .iface _ d => uptoBulk d + 1
  | .map entries => uptoBulkEntries entries + 1
  | .held _ => 1
def uptoBulkAll {H : Type} : List (DataW H) → Nat
  | [] => 0
  | d :: r => uptoBulk d + uptoBulkAll r
def uptoBulkEntries {H : Type} : List (Lit × DataW H) → Nat
  | [] => 0
  | x :: r => uptoBulkEntry x + uptoBulkEntries r
def uptoBulkEntry {H : Type} : Lit × DataW H → Nat
  | (.string bytes, d) => bytes.length + uptoBulk d + 1
  | (_, d) => uptoBulk d + 1
 end
def uptoSmall : (H : Type) → List (DataW H) → Bool := fun _ ds => decide (uptoBulkAll ds ≤ 1048576)
def OpenSpec.upto (s : _root_.Go.ChangeSpec) : _root_.Go.OpenSpec := { _root_.Go.OpenSpec.ofChange s with cond := some uptoSmall }

/-- 'rafterlaw04.GlyphClasses', WHERE WHAT IT READS IS OF BULK AT MOST 1048576: true; the input reads as it did. -/
def glyphClassesUptoRow : OpenClaim := { program := "ytklhfbgmadblcaadoor", sum := "a0a543ac7cf579957a108c809ab927449601215e236beaee665a877333a26427", func := "rafter/rafterlaw04.GlyphClasses", spec := "glyphClasses", unfollowed := true, recurses := true, named := ["unicode/utf8.first", "unicode/utf8.acceptRanges"], apart := false, laid := [("unicode/utf8.acceptRanges", laid_unicode_utf8_acceptRanges), ("unicode/utf8.first", laid_unicode_utf8_first)], narrowed := true }
def GlyphClassesUptoSaid : Prop := glyphClassesUptoRow.holds Tryd.pinned (OpenSpec.upto glyphClassesSpec)

/-- 'rafterlaw04.GlyphScans', WHERE WHAT IT READS IS OF BULK AT MOST 1048576: true; the input reads as it did. -/
def glyphScansUptoRow : OpenClaim := { program := "ytklhfbgmadblcaadoor", sum := "a0a543ac7cf579957a108c809ab927449601215e236beaee665a877333a26427", func := "rafter/rafterlaw04.GlyphScans", spec := "glyphScans", unfollowed := true, recurses := true, named := ["unicode/utf8.first", "unicode/utf8.acceptRanges"], apart := false, laid := [("unicode/utf8.acceptRanges", laid_unicode_utf8_acceptRanges), ("unicode/utf8.first", laid_unicode_utf8_first)], narrowed := true }
def GlyphScansUptoSaid : Prop := glyphScansUptoRow.holds Tryd.pinned (OpenSpec.upto glyphScansSpec)

/-- 'rafterlaw04.GlyphSigns', WHERE WHAT IT READS IS OF BULK AT MOST 1048576: true; the input reads as it did. -/
def glyphSignsUptoRow : OpenClaim := { program := "ytklhfbgmadblcaadoor", sum := "a0a543ac7cf579957a108c809ab927449601215e236beaee665a877333a26427", func := "rafter/rafterlaw04.GlyphSigns", spec := "glyphSigns", unfollowed := true, recurses := true, named := ["unicode/utf8.first", "unicode/utf8.acceptRanges"], apart := false, laid := [("unicode/utf8.acceptRanges", laid_unicode_utf8_acceptRanges), ("unicode/utf8.first", laid_unicode_utf8_first)], narrowed := true }
def GlyphSignsUptoSaid : Prop := glyphSignsUptoRow.holds Tryd.pinned (OpenSpec.upto glyphSignsSpec)

/-- 'rafterlaw04.GlyphReads', WHERE WHAT IT READS IS OF BULK AT MOST 1048576: true; the input reads as it did. -/
def glyphReadsUptoRow : OpenClaim := { program := "ytklhfbgmadblcaadoor", sum := "a0a543ac7cf579957a108c809ab927449601215e236beaee665a877333a26427", func := "rafter/rafterlaw04.GlyphReads", spec := "glyphReads", unfollowed := true, recurses := true, named := ["unicode/utf8.first", "unicode/utf8.acceptRanges"], apart := false, laid := [("unicode/utf8.acceptRanges", laid_unicode_utf8_acceptRanges), ("unicode/utf8.first", laid_unicode_utf8_first)], narrowed := true }
def GlyphReadsUptoSaid : Prop := glyphReadsUptoRow.holds Tryd.pinned (OpenSpec.upto glyphReadsSpec)

/-- 'rafterlaw04.GlyphBack', WHERE WHAT IT READS IS OF BULK AT MOST 1048576: true; the input reads as it did. -/
def glyphBackUptoRow : OpenClaim := { program := "ytklhfbgmadblcaadoor", sum := "a0a543ac7cf579957a108c809ab927449601215e236beaee665a877333a26427", func := "rafter/rafterlaw04.GlyphBack", spec := "glyphBack", unfollowed := true, recurses := true, named := ["unicode/utf8.first", "unicode/utf8.acceptRanges"], apart := false, laid := [("unicode/utf8.acceptRanges", laid_unicode_utf8_acceptRanges), ("unicode/utf8.first", laid_unicode_utf8_first)], narrowed := true }
def GlyphBackUptoSaid : Prop := glyphBackUptoRow.holds Tryd.pinned (OpenSpec.upto glyphBackSpec)

/-- 'rafterlaw04.GlyphCodes', WHERE WHAT IT READS IS OF BULK AT MOST 1048576: true; the input reads as it did. -/
def glyphCodesUptoRow : OpenClaim := { program := "ytklhfbgmadblcaadoor", sum := "a0a543ac7cf579957a108c809ab927449601215e236beaee665a877333a26427", func := "rafter/rafterlaw04.GlyphCodes", spec := "glyphCodes", unfollowed := true, recurses := true, named := ["unicode/utf8.first", "unicode/utf8.acceptRanges"], apart := false, laid := [("unicode/utf8.acceptRanges", laid_unicode_utf8_acceptRanges), ("unicode/utf8.first", laid_unicode_utf8_first)], narrowed := true }
def GlyphCodesUptoSaid : Prop := glyphCodesUptoRow.holds Tryd.pinned (OpenSpec.upto glyphCodesSpec)

/-- 'rafterlaw04.GlyphFirst', WHERE WHAT IT READS IS OF BULK AT MOST 1048576: true; the input reads as it did. -/
def glyphFirstUptoRow : OpenClaim := { program := "ytklhfbgmadblcaadoor", sum := "a0a543ac7cf579957a108c809ab927449601215e236beaee665a877333a26427", func := "rafter/rafterlaw04.GlyphFirst", spec := "glyphFirst", unfollowed := true, recurses := true, named := ["unicode/utf8.first", "unicode/utf8.acceptRanges"], apart := false, laid := [("unicode/utf8.acceptRanges", laid_unicode_utf8_acceptRanges), ("unicode/utf8.first", laid_unicode_utf8_first)], narrowed := true }
def GlyphFirstUptoSaid : Prop := glyphFirstUptoRow.holds Tryd.pinned (OpenSpec.upto glyphFirstSpec)

/-- 'rafterlaw04.GlyphLimits', WHERE WHAT IT READS IS OF BULK AT MOST 1048576: true; the input reads as it did. -/
def glyphLimitsUptoRow : OpenClaim := { program := "ytklhfbgmadblcaadoor", sum := "a0a543ac7cf579957a108c809ab927449601215e236beaee665a877333a26427", func := "rafter/rafterlaw04.GlyphLimits", spec := "glyphLimits", unfollowed := true, recurses := true, named := ["unicode/utf8.first", "unicode/utf8.acceptRanges"], apart := false, laid := [("unicode/utf8.acceptRanges", laid_unicode_utf8_acceptRanges), ("unicode/utf8.first", laid_unicode_utf8_first)], narrowed := true }
def GlyphLimitsUptoSaid : Prop := glyphLimitsUptoRow.holds Tryd.pinned (OpenSpec.upto glyphLimitsSpec)

/-- 'rafterlaw04.GlyphAgain', WHERE WHAT IT READS IS OF BULK AT MOST 1048576: true; the input reads as it did. -/
def glyphAgainUptoRow : OpenClaim := { program := "ytklhfbgmadblcaadoor", sum := "a0a543ac7cf579957a108c809ab927449601215e236beaee665a877333a26427", func := "rafter/rafterlaw04.GlyphAgain", spec := "glyphAgain", inPlace := ["internal/abi.NoEscape"], unfollowed := true, recurses := true, named := ["unicode/utf8.first", "unicode/utf8.acceptRanges"], apart := false, laid := [("unicode/utf8.acceptRanges", laid_unicode_utf8_acceptRanges), ("unicode/utf8.first", laid_unicode_utf8_first)], narrowed := true }
def GlyphAgainUptoSaid : Prop := glyphAgainUptoRow.holds Tryd.pinned (OpenSpec.upto glyphAgainSpec)

/-- 'rafterlaw04.GlyphNames', WHERE WHAT IT READS IS OF BULK AT MOST 1048576: true; the input reads as it did. -/
def glyphNamesUptoRow : OpenClaim := { program := "ytklhfbgmadblcaadoor", sum := "a0a543ac7cf579957a108c809ab927449601215e236beaee665a877333a26427", func := "rafter/rafterlaw04.GlyphNames", spec := "glyphNames", inPlace := ["internal/abi.NoEscape"], unfollowed := true, recurses := true, named := ["unicode/utf8.first", "unicode/utf8.acceptRanges"], apart := false, laid := [("unicode/utf8.acceptRanges", laid_unicode_utf8_acceptRanges), ("unicode/utf8.first", laid_unicode_utf8_first)], narrowed := true }
def GlyphNamesUptoSaid : Prop := glyphNamesUptoRow.holds Tryd.pinned (OpenSpec.upto glyphNamesSpec)

end Rows
end Go.Proofs.YtklhfbgmadblcaaDoor
