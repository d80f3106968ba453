/-
  NARROWER THAN 'FOR EVERY INPUT', by the rows' own cells (each row's printed sentence says how): LangLimits: laid · LangBad: laid · LangSigns: laid · LangBack: laid.
  DERIVED. THE GIVEN ROWS OF THIS SEAT. 4 by the template 'for every input the law returns true; each argument reads behind the call as it read before'; 0 by the template 'total and deterministic' (their statements: YtjmjdmmojgmcdaaDoorTotals.lean).
  GIVEN WITH THE SEED: the statements are not yours to turn. If you find one false, say at which input.
  Laid BY PROGRAM, IN A SANDBOX (cutbox-rows.mjs): the forced cells as the released guide's own fill.sh prints them over the translation b4782610977fd2c2… (all of the seat's roots in one cut). By AI agents, Wed Nov 11 2026. No macro, syntax, notation, axiom, sorry.
-/
import Derived.Test.YtjmjdmmojgmcdaaDoorChecked
import GoSem.PinnedTables
import GoSem.Claim
import GoSem.ClaimJoined
import GoSem.ClaimMapViews
import Derived.JoinedTies
import Derived.KernelRfl
namespace Go.Proofs.YtjmjdmmojgmcdaaDoor
/- THE CELL 'sum', in the pinned program and in every row, IS THE sha256 OF THE DUMP (.gsa) THAT YtjmjdmmojgmcdaaDoorProg.lean LOADS. Nothing in Lean hashes anything: it is a label: what it is worth is what the hold of that sum in a sandbox is worth. -/
noncomputable def Tryd.pinned : Pinned := { name := "ytjmjdmmojgmcdaadoor", sum := "b4782610977fd2c2d86d0e320a3d7921b88adabbdeb6e18ca04576b3b93cc52e", checked := Tryd.checked }
namespace Rows
def none {H : Type} : Left H := { results := [], args := [] }

/- WHAT THE LISTED PACKAGE-LEVEL VARIABLES READ AS WHEN THE CALL BEGINS. Each datum BY PROGRAM (the guide's laid-datum.mjs) off the statement by which the dump's own 'gosem.cut.vars' lays the variable. In a bare row this is a premise. The card (YtjmjdmmojgmcdaaDoorCards.lean) ties it to the program's text. -/
def laid_unicode_utf8_acceptRanges {H : Type} : DataW H := .agg [.agg [.lit (.int .u8 128), .lit (.int .u8 191)], .agg [.lit (.int .u8 160), .lit (.int .u8 191)], .agg [.lit (.int .u8 128), .lit (.int .u8 159)], .agg [.lit (.int .u8 144), .lit (.int .u8 191)], .agg [.lit (.int .u8 128), .lit (.int .u8 143)], .agg [.lit (.int .u8 0), .lit (.int .u8 0)], .agg [.lit (.int .u8 0), .lit (.int .u8 0)], .agg [.lit (.int .u8 0), .lit (.int .u8 0)], .agg [.lit (.int .u8 0), .lit (.int .u8 0)], .agg [.lit (.int .u8 0), .lit (.int .u8 0)], .agg [.lit (.int .u8 0), .lit (.int .u8 0)], .agg [.lit (.int .u8 0), .lit (.int .u8 0)], .agg [.lit (.int .u8 0), .lit (.int .u8 0)], .agg [.lit (.int .u8 0), .lit (.int .u8 0)], .agg [.lit (.int .u8 0), .lit (.int .u8 0)], .agg [.lit (.int .u8 0), .lit (.int .u8 0)]]
/-- One of Go's own tables, pinned by name: the form's constant. -/
def laid_unicode_utf8_first : DataW Unit := Go.Pinned.utf8First

/-- 'rafterlaw08.LangLimits': WHATEVER THE INPUT: true; the input reads as it did. -/
def langLimitsSpec : ChangeSpec := { name := "langLimits", fn := fun _ => fun
  | [d] => { results := [.lit (.bool true)], args := [d] }
  | _ => none }
def langLimitsRow : OpenClaim := { program := "ytjmjdmmojgmcdaadoor", sum := "b4782610977fd2c2d86d0e320a3d7921b88adabbdeb6e18ca04576b3b93cc52e", func := "rafter/rafterlaw08.LangLimits", spec := "langLimits", inPlace := ["internal/abi.NoEscape"], unfollowed := true, recurses := true, named := ["unicode/utf8.first", "unicode/utf8.acceptRanges"], apart := false, laid := [("unicode/utf8.acceptRanges", laid_unicode_utf8_acceptRanges), ("unicode/utf8.first", laid_unicode_utf8_first)] }
def LangLimitsSaid : Prop := langLimitsRow.holds Tryd.pinned (OpenSpec.ofChange langLimitsSpec)

/-- ITS FALSE NEIGHBOUR: 'it returns false'. Refute it at one input. -/
def langLimitsWrong : ChangeSpec := { name := "langLimits", fn := fun _ => fun
  | [d] => { results := [.lit (.bool false)], args := [d] }
  | _ => none }
def LangLimitsWrongFalsely : Prop := langLimitsRow.holds Tryd.pinned (OpenSpec.ofChange langLimitsWrong)

/-- 'rafterlaw08.LangBad': WHATEVER THE INPUT: true; the input reads as it did. -/
def langBadSpec : ChangeSpec := { name := "langBad", fn := fun _ => fun
  | [d1, d2] => { results := [.lit (.bool true)], args := [d1, d2] }
  | _ => none }
def langBadRow : OpenClaim := { program := "ytjmjdmmojgmcdaadoor", sum := "b4782610977fd2c2d86d0e320a3d7921b88adabbdeb6e18ca04576b3b93cc52e", func := "rafter/rafterlaw08.LangBad", spec := "langBad", inPlace := ["internal/abi.NoEscape"], unfollowed := true, recurses := true, named := ["unicode/utf8.first", "unicode/utf8.acceptRanges"], apart := false, laid := [("unicode/utf8.acceptRanges", laid_unicode_utf8_acceptRanges), ("unicode/utf8.first", laid_unicode_utf8_first)] }
def LangBadSaid : Prop := langBadRow.holds Tryd.pinned (OpenSpec.ofChange langBadSpec)

/-- ITS FALSE NEIGHBOUR: 'it returns false'. Refute it at one input. -/
def langBadWrong : ChangeSpec := { name := "langBad", fn := fun _ => fun
  | [d1, d2] => { results := [.lit (.bool false)], args := [d1, d2] }
  | _ => none }
def LangBadWrongFalsely : Prop := langBadRow.holds Tryd.pinned (OpenSpec.ofChange langBadWrong)

/-- 'rafterlaw08.LangSigns': WHATEVER THE INPUT: true; the input reads as it did. -/
def langSignsSpec : ChangeSpec := { name := "langSigns", fn := fun _ => fun
  | [d1, d2] => { results := [.lit (.bool true)], args := [d1, d2] }
  | _ => none }
def langSignsRow : OpenClaim := { program := "ytjmjdmmojgmcdaadoor", sum := "b4782610977fd2c2d86d0e320a3d7921b88adabbdeb6e18ca04576b3b93cc52e", func := "rafter/rafterlaw08.LangSigns", spec := "langSigns", inPlace := ["internal/abi.NoEscape"], unfollowed := true, recurses := true, named := ["unicode/utf8.first", "unicode/utf8.acceptRanges"], apart := false, laid := [("unicode/utf8.acceptRanges", laid_unicode_utf8_acceptRanges), ("unicode/utf8.first", laid_unicode_utf8_first)] }
def LangSignsSaid : Prop := langSignsRow.holds Tryd.pinned (OpenSpec.ofChange langSignsSpec)

/-- ITS FALSE NEIGHBOUR: 'it returns false'. Refute it at one input. -/
def langSignsWrong : ChangeSpec := { name := "langSigns", fn := fun _ => fun
  | [d1, d2] => { results := [.lit (.bool false)], args := [d1, d2] }
  | _ => none }
def LangSignsWrongFalsely : Prop := langSignsRow.holds Tryd.pinned (OpenSpec.ofChange langSignsWrong)

/-- 'rafterlaw08.LangBack': WHATEVER THE INPUT: true; the input reads as it did. -/
def langBackSpec : ChangeSpec := { name := "langBack", fn := fun _ => fun
  | [d] => { results := [.lit (.bool true)], args := [d] }
  | _ => none }
def langBackRow : OpenClaim := { program := "ytjmjdmmojgmcdaadoor", sum := "b4782610977fd2c2d86d0e320a3d7921b88adabbdeb6e18ca04576b3b93cc52e", func := "rafter/rafterlaw08.LangBack", spec := "langBack", inPlace := ["internal/abi.NoEscape"], unfollowed := true, recurses := true, named := ["unicode/utf8.first", "unicode/utf8.acceptRanges"], apart := false, laid := [("unicode/utf8.acceptRanges", laid_unicode_utf8_acceptRanges), ("unicode/utf8.first", laid_unicode_utf8_first)] }
def LangBackSaid : Prop := langBackRow.holds Tryd.pinned (OpenSpec.ofChange langBackSpec)

/-- ITS FALSE NEIGHBOUR: 'it returns false'. Refute it at one input. -/
def langBackWrong : ChangeSpec := { name := "langBack", fn := fun _ => fun
  | [d] => { results := [.lit (.bool false)], args := [d] }
  | _ => none }
def LangBackWrongFalsely : Prop := langBackRow.holds Tryd.pinned (OpenSpec.ofChange langBackWrong)

/- THE SECOND FORM. 'bulk': how many values and letters a reading holds, each counted each time it is reached (what is shared counts as often as it is met; a slice's spare places count too). A statement '..UptoSaid' is the law's where the arguments, and the package variables that the reading takes, are together of bulk at most 1048576: NARROWER than '..Said'. Prove '..Said' where nothing that the law and all that it calls make is longer than what came in: it says more and counts as full. Else prove '..UptoSaid'. A law counts once. -/
mutual
def uptoBulk {H : Type} : DataW H → Nat
  | .lit (.string bytes) => bytes.length + 1
  | .lit _ => 1
  | .nil => 1
  | .ptr d => uptoBulk d + 1
  | .slice elems spare => uptoBulkAll elems + uptoBulkAll spare + 1
  | .agg parts => uptoBulkAll parts + 1
  | .iface _ d => uptoBulk d + 1
  | .map entries => uptoBulkEntries entries + 1
  | .held _ => 1
def uptoBulkAll {H : Type} : List (DataW H) → Nat
  | [] => 0
  | d :: r => uptoBulk d + uptoBulkAll r
def uptoBulkEntries {H : Type} : List (Lit × DataW H) → Nat
  | [] => 0
  | x :: r => uptoBulkEntry x + uptoBulkEntries r
def uptoBulkEntry {H : Type} : Lit × DataW H → Nat
  | (.string bytes, d) => bytes.length + uptoBulk d + 1
  | (_, d) => uptoBulk d + 1
 end
def uptoSmall : (H : Type) → List (DataW H) → Bool := fun _ ds => decide (uptoBulkAll ds ≤ 1048576)
def OpenSpec.upto (s : _root_.Go.ChangeSpec) : _root_.Go.OpenSpec := { _root_.Go.OpenSpec.ofChange s with cond := some uptoSmall }

/-- 'rafterlaw08.LangLimits', WHERE WHAT IT READS IS OF BULK AT MOST 1048576: true; the input reads as it did. -/
def langLimitsUptoRow : OpenClaim := { program := "ytjmjdmmojgmcdaadoor", sum := "b4782610977fd2c2d86d0e320a3d7921b88adabbdeb6e18ca04576b3b93cc52e", func := "rafter/rafterlaw08.LangLimits", spec := "langLimits", inPlace := ["internal/abi.NoEscape"], unfollowed := true, recurses := true, named := ["unicode/utf8.first", "unicode/utf8.acceptRanges"], apart := false, laid := [("unicode/utf8.acceptRanges", laid_unicode_utf8_acceptRanges), ("unicode/utf8.first", laid_unicode_utf8_first)], narrowed := true }
def LangLimitsUptoSaid : Prop := langLimitsUptoRow.holds Tryd.pinned (OpenSpec.upto langLimitsSpec)

/-- 'rafterlaw08.LangBad', WHERE WHAT IT READS IS OF BULK AT MOST 1048576: true; the input reads as it did. -/
def langBadUptoRow : OpenClaim := { program := "ytjmjdmmojgmcdaadoor", sum := "b4782610977fd2c2d86d0e320a3d7921b88adabbdeb6e18ca04576b3b93cc52e", func := "rafter/rafterlaw08.LangBad", spec := "langBad", inPlace := ["internal/abi.NoEscape"], unfollowed := true, recurses := true, named := ["unicode/utf8.first", "unicode/utf8.acceptRanges"], apart := false, laid := [("unicode/utf8.acceptRanges", laid_unicode_utf8_acceptRanges), ("unicode/utf8.first", laid_unicode_utf8_first)], narrowed := true }
def LangBadUptoSaid : Prop := langBadUptoRow.holds Tryd.pinned (OpenSpec.upto langBadSpec)

/-- 'rafterlaw08.LangSigns', WHERE WHAT IT READS IS OF BULK AT MOST 1048576: true; the input reads as it did. -/
def langSignsUptoRow : OpenClaim := { program := "ytjmjdmmojgmcdaadoor", sum := "b4782610977fd2c2d86d0e320a3d7921b88adabbdeb6e18ca04576b3b93cc52e", func := "rafter/rafterlaw08.LangSigns", spec := "langSigns", inPlace := ["internal/abi.NoEscape"], unfollowed := true, recurses := true, named := ["unicode/utf8.first", "unicode/utf8.acceptRanges"], apart := false, laid := [("unicode/utf8.acceptRanges", laid_unicode_utf8_acceptRanges), ("unicode/utf8.first", laid_unicode_utf8_first)], narrowed := true }
def LangSignsUptoSaid : Prop := langSignsUptoRow.holds Tryd.pinned (OpenSpec.upto langSignsSpec)

/-- 'rafterlaw08.LangBack', WHERE WHAT IT READS IS OF BULK AT MOST 1048576: true; the input reads as it did. -/
def langBackUptoRow : OpenClaim := { program := "ytjmjdmmojgmcdaadoor", sum := "b4782610977fd2c2d86d0e320a3d7921b88adabbdeb6e18ca04576b3b93cc52e", func := "rafter/rafterlaw08.LangBack", spec := "langBack", inPlace := ["internal/abi.NoEscape"], unfollowed := true, recurses := true, named := ["unicode/utf8.first", "unicode/utf8.acceptRanges"], apart := false, laid := [("unicode/utf8.acceptRanges", laid_unicode_utf8_acceptRanges), ("unicode/utf8.first", laid_unicode_utf8_first)], narrowed := true }
def LangBackUptoSaid : Prop := langBackUptoRow.holds Tryd.pinned (OpenSpec.upto langBackSpec)

end Rows
end Go.Proofs.YtjmjdmmojgmcdaaDoor
