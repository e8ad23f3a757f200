/-
  NARROWER THAN 'FOR EVERY INPUT', by the rows' own cells (each row's printed sentence says how): LexerWords: laid · LexerScan: laid · LexerErrors: laid · LexerSeparators: laid · LexerPrint: laid · LexerRoundTrip: laid · LexerOffsets: laid.
  DERIVED. THE GIVEN ROWS OF THIS SEAT. 7 by the template 'for every input the law returns true; each argument reads behind the call as it read before'; 0 by the template 'total and deterministic' (their statements: YtckkfenchjgfhaaDoorTotals.lean).
  GIVEN WITH THE SEED: the statements are not yours to turn. If you find one false, say at which input.
  Laid BY PROGRAM, IN A SANDBOX (cutbox-rows.mjs): the forced cells as the released guide's own fill.sh prints them over the translation c0bc6196673efecb… (all of the seat's roots in one cut). By AI agents, Wed Nov 11 2026. No macro, syntax, notation, axiom, sorry.
-/
import Derived.Test.YtckkfenchjgfhaaDoorChecked
import GoSem.PinnedTables
import GoSem.Claim
import GoSem.ClaimJoined
import GoSem.ClaimMapViews
import Derived.JoinedTies
import Derived.KernelRfl
namespace Go.Proofs.YtckkfenchjgfhaaDoor
/- THE CELL 'sum', in the pinned program and in every row, IS THE sha256 OF THE DUMP (.gsa) THAT YtckkfenchjgfhaaDoorProg.lean LOADS. Nothing in Lean hashes anything: it is a label: what it is worth is what the hold of that sum in a sandbox is worth. -/
noncomputable def Tryd.pinned : Pinned := { name := "ytckkfenchjgfhaadoor", sum := "c0bc6196673efecb7bb76fe869147c3d1b047242b7270b0ec6914f155687ab01", checked := Tryd.checked }
namespace Rows
def none {H : Type} : Left H := { results := [], args := [] }

/- WHAT THE LISTED PACKAGE-LEVEL VARIABLES READ AS WHEN THE CALL BEGINS. Each datum BY PROGRAM (the guide's laid-datum.mjs) off the statement by which the dump's own 'gosem.cut.vars' lays the variable. In a bare row this is a premise. The card (YtckkfenchjgfhaaDoorCards.lean) ties it to the program's text. -/
def laid_unicode_utf8_acceptRanges {H : Type} : DataW H := .agg [.agg [.lit (.int .u8 128), .lit (.int .u8 191)], .agg [.lit (.int .u8 160), .lit (.int .u8 191)], .agg [.lit (.int .u8 128), .lit (.int .u8 159)], .agg [.lit (.int .u8 144), .lit (.int .u8 191)], .agg [.lit (.int .u8 128), .lit (.int .u8 143)], .agg [.lit (.int .u8 0), .lit (.int .u8 0)], .agg [.lit (.int .u8 0), .lit (.int .u8 0)], .agg [.lit (.int .u8 0), .lit (.int .u8 0)], .agg [.lit (.int .u8 0), .lit (.int .u8 0)], .agg [.lit (.int .u8 0), .lit (.int .u8 0)], .agg [.lit (.int .u8 0), .lit (.int .u8 0)], .agg [.lit (.int .u8 0), .lit (.int .u8 0)], .agg [.lit (.int .u8 0), .lit (.int .u8 0)], .agg [.lit (.int .u8 0), .lit (.int .u8 0)], .agg [.lit (.int .u8 0), .lit (.int .u8 0)], .agg [.lit (.int .u8 0), .lit (.int .u8 0)]]
/-- One of Go's own tables, pinned by name: the form's constant. -/
def laid_unicode_utf8_first : DataW Unit := Go.Pinned.utf8First

/-- 'cordwoodlaw20.LexerWords': WHATEVER THE INPUT: true; the input reads as it did. -/
def lexerWordsSpec : ChangeSpec := { name := "lexerWords", fn := fun _ => fun
  | [d] => { results := [.lit (.bool true)], args := [d] }
  | _ => none }
def lexerWordsRow : OpenClaim := { program := "ytckkfenchjgfhaadoor", sum := "c0bc6196673efecb7bb76fe869147c3d1b047242b7270b0ec6914f155687ab01", func := "cordwood/cordwoodlaw20.LexerWords", spec := "lexerWords", inPlace := ["internal/bytealg.IndexByteString", "internal/bytealg.IndexString"], unfollowed := true, recurses := true, named := ["internal/bytealg.MaxLen", "unicode/utf8.first", "unicode/utf8.acceptRanges"], apart := false, laid := [("unicode/utf8.acceptRanges", laid_unicode_utf8_acceptRanges), ("unicode/utf8.first", laid_unicode_utf8_first)] }
def LexerWordsSaid : Prop := lexerWordsRow.holds Tryd.pinned (OpenSpec.ofChange lexerWordsSpec)

/-- ITS FALSE NEIGHBOUR: 'it returns false'. Refute it at one input. -/
def lexerWordsWrong : ChangeSpec := { name := "lexerWords", fn := fun _ => fun
  | [d] => { results := [.lit (.bool false)], args := [d] }
  | _ => none }
def LexerWordsWrongFalsely : Prop := lexerWordsRow.holds Tryd.pinned (OpenSpec.ofChange lexerWordsWrong)

/-- 'cordwoodlaw20.LexerScan': WHATEVER THE INPUT: true; the input reads as it did. -/
def lexerScanSpec : ChangeSpec := { name := "lexerScan", fn := fun _ => fun
  | [d] => { results := [.lit (.bool true)], args := [d] }
  | _ => none }
def lexerScanRow : OpenClaim := { program := "ytckkfenchjgfhaadoor", sum := "c0bc6196673efecb7bb76fe869147c3d1b047242b7270b0ec6914f155687ab01", func := "cordwood/cordwoodlaw20.LexerScan", spec := "lexerScan", inPlace := ["internal/bytealg.IndexByteString", "internal/bytealg.IndexString"], unfollowed := true, recurses := true, named := ["internal/bytealg.MaxLen", "unicode/utf8.first", "unicode/utf8.acceptRanges"], apart := false, laid := [("unicode/utf8.acceptRanges", laid_unicode_utf8_acceptRanges), ("unicode/utf8.first", laid_unicode_utf8_first)] }
def LexerScanSaid : Prop := lexerScanRow.holds Tryd.pinned (OpenSpec.ofChange lexerScanSpec)

/-- ITS FALSE NEIGHBOUR: 'it returns false'. Refute it at one input. -/
def lexerScanWrong : ChangeSpec := { name := "lexerScan", fn := fun _ => fun
  | [d] => { results := [.lit (.bool false)], args := [d] }
  | _ => none }
def LexerScanWrongFalsely : Prop := lexerScanRow.holds Tryd.pinned (OpenSpec.ofChange lexerScanWrong)

/-- 'cordwoodlaw20.LexerErrors': WHATEVER THE INPUT: true; the input reads as it did. -/
def lexerErrorsSpec : ChangeSpec := { name := "lexerErrors", fn := fun _ => fun
  | [d] => { results := [.lit (.bool true)], args := [d] }
  | _ => none }
def lexerErrorsRow : OpenClaim := { program := "ytckkfenchjgfhaadoor", sum := "c0bc6196673efecb7bb76fe869147c3d1b047242b7270b0ec6914f155687ab01", func := "cordwood/cordwoodlaw20.LexerErrors", spec := "lexerErrors", inPlace := ["internal/bytealg.IndexByteString", "internal/bytealg.IndexString"], unfollowed := true, recurses := true, named := ["internal/bytealg.MaxLen", "unicode/utf8.first", "unicode/utf8.acceptRanges"], apart := false, laid := [("unicode/utf8.acceptRanges", laid_unicode_utf8_acceptRanges), ("unicode/utf8.first", laid_unicode_utf8_first)] }
def LexerErrorsSaid : Prop := lexerErrorsRow.holds Tryd.pinned (OpenSpec.ofChange lexerErrorsSpec)

/-- ITS FALSE NEIGHBOUR: 'it returns false'. Refute it at one input. -/
def lexerErrorsWrong : ChangeSpec := { name := "lexerErrors", fn := fun _ => fun
  | [d] => { results := [.lit (.bool false)], args := [d] }
  | _ => none }
def LexerErrorsWrongFalsely : Prop := lexerErrorsRow.holds Tryd.pinned (OpenSpec.ofChange lexerErrorsWrong)

/-- 'cordwoodlaw20.LexerSeparators': WHATEVER THE INPUT: true; the input reads as it did. -/
def lexerSeparatorsSpec : ChangeSpec := { name := "lexerSeparators", fn := fun _ => fun
  | [d1, d2, d3] => { results := [.lit (.bool true)], args := [d1, d2, d3] }
  | _ => none }
def lexerSeparatorsRow : OpenClaim := { program := "ytckkfenchjgfhaadoor", sum := "c0bc6196673efecb7bb76fe869147c3d1b047242b7270b0ec6914f155687ab01", func := "cordwood/cordwoodlaw20.LexerSeparators", spec := "lexerSeparators", inPlace := ["internal/bytealg.IndexByteString", "internal/bytealg.IndexString", "internal/abi.NoEscape"], unfollowed := true, recurses := true, named := ["internal/bytealg.MaxLen", "unicode/utf8.first", "unicode/utf8.acceptRanges"], apart := false, laid := [("unicode/utf8.acceptRanges", laid_unicode_utf8_acceptRanges), ("unicode/utf8.first", laid_unicode_utf8_first)] }
def LexerSeparatorsSaid : Prop := lexerSeparatorsRow.holds Tryd.pinned (OpenSpec.ofChange lexerSeparatorsSpec)

/-- ITS FALSE NEIGHBOUR: 'it returns false'. Refute it at one input. -/
def lexerSeparatorsWrong : ChangeSpec := { name := "lexerSeparators", fn := fun _ => fun
  | [d1, d2, d3] => { results := [.lit (.bool false)], args := [d1, d2, d3] }
  | _ => none }
def LexerSeparatorsWrongFalsely : Prop := lexerSeparatorsRow.holds Tryd.pinned (OpenSpec.ofChange lexerSeparatorsWrong)

/-- 'cordwoodlaw20.LexerPrint': WHATEVER THE INPUT: true; the input reads as it did. -/
def lexerPrintSpec : ChangeSpec := { name := "lexerPrint", fn := fun _ => fun
  | [d] => { results := [.lit (.bool true)], args := [d] }
  | _ => none }
def lexerPrintRow : OpenClaim := { program := "ytckkfenchjgfhaadoor", sum := "c0bc6196673efecb7bb76fe869147c3d1b047242b7270b0ec6914f155687ab01", func := "cordwood/cordwoodlaw20.LexerPrint", spec := "lexerPrint", inPlace := ["internal/bytealg.IndexByteString", "internal/bytealg.IndexString", "internal/abi.NoEscape"], unfollowed := true, recurses := true, named := ["internal/bytealg.MaxLen", "unicode/utf8.first", "unicode/utf8.acceptRanges"], apart := false, laid := [("unicode/utf8.acceptRanges", laid_unicode_utf8_acceptRanges), ("unicode/utf8.first", laid_unicode_utf8_first)] }
def LexerPrintSaid : Prop := lexerPrintRow.holds Tryd.pinned (OpenSpec.ofChange lexerPrintSpec)

/-- ITS FALSE NEIGHBOUR: 'it returns false'. Refute it at one input. -/
def lexerPrintWrong : ChangeSpec := { name := "lexerPrint", fn := fun _ => fun
  | [d] => { results := [.lit (.bool false)], args := [d] }
  | _ => none }
def LexerPrintWrongFalsely : Prop := lexerPrintRow.holds Tryd.pinned (OpenSpec.ofChange lexerPrintWrong)

/-- 'cordwoodlaw20.LexerRoundTrip': WHATEVER THE INPUT: true; the input reads as it did. -/
def lexerRoundTripSpec : ChangeSpec := { name := "lexerRoundTrip", fn := fun _ => fun
  | [d] => { results := [.lit (.bool true)], args := [d] }
  | _ => none }
def lexerRoundTripRow : OpenClaim := { program := "ytckkfenchjgfhaadoor", sum := "c0bc6196673efecb7bb76fe869147c3d1b047242b7270b0ec6914f155687ab01", func := "cordwood/cordwoodlaw20.LexerRoundTrip", spec := "lexerRoundTrip", inPlace := ["internal/bytealg.IndexByteString", "internal/bytealg.IndexString", "internal/abi.NoEscape"], unfollowed := true, recurses := true, named := ["internal/bytealg.MaxLen", "unicode/utf8.first", "unicode/utf8.acceptRanges"], apart := false, laid := [("unicode/utf8.acceptRanges", laid_unicode_utf8_acceptRanges), ("unicode/utf8.first", laid_unicode_utf8_first)] }
def LexerRoundTripSaid : Prop := lexerRoundTripRow.holds Tryd.pinned (OpenSpec.ofChange lexerRoundTripSpec)

/-- ITS FALSE NEIGHBOUR: 'it returns false'. Refute it at one input. -/
def lexerRoundTripWrong : ChangeSpec := { name := "lexerRoundTrip", fn := fun _ => fun
  | [d] => { results := [.lit (.bool false)], args := [d] }
  | _ => none }
def LexerRoundTripWrongFalsely : Prop := lexerRoundTripRow.holds Tryd.pinned (OpenSpec.ofChange lexerRoundTripWrong)

/-- 'cordwoodlaw20.LexerOffsets': WHATEVER THE INPUT: true; the input reads as it did. -/
def lexerOffsetsSpec : ChangeSpec := { name := "lexerOffsets", fn := fun _ => fun
  | [d] => { results := [.lit (.bool true)], args := [d] }
  | _ => none }
def lexerOffsetsRow : OpenClaim := { program := "ytckkfenchjgfhaadoor", sum := "c0bc6196673efecb7bb76fe869147c3d1b047242b7270b0ec6914f155687ab01", func := "cordwood/cordwoodlaw20.LexerOffsets", spec := "lexerOffsets", inPlace := ["internal/bytealg.IndexByteString", "internal/bytealg.IndexString", "internal/bytealg.CountString"], unfollowed := true, recurses := true, named := ["internal/bytealg.MaxLen", "unicode/utf8.first", "unicode/utf8.acceptRanges"], apart := false, laid := [("unicode/utf8.acceptRanges", laid_unicode_utf8_acceptRanges), ("unicode/utf8.first", laid_unicode_utf8_first)] }
def LexerOffsetsSaid : Prop := lexerOffsetsRow.holds Tryd.pinned (OpenSpec.ofChange lexerOffsetsSpec)

/-- ITS FALSE NEIGHBOUR: 'it returns false'. Refute it at one input. -/
def lexerOffsetsWrong : ChangeSpec := { name := "lexerOffsets", fn := fun _ => fun
  | [d] => { results := [.lit (.bool false)], args := [d] }
  | _ => none }
def LexerOffsetsWrongFalsely : Prop := lexerOffsetsRow.holds Tryd.pinned (OpenSpec.ofChange lexerOffsetsWrong)

/- THE SECOND FORM. 'bulk': how many values and letters a reading holds, each counted each time it is reached (what is shared counts as often as it is met; a slice's spare places count too). A statement '..UptoSaid' is the law's where the arguments, and the package variables that the reading takes, are together of bulk at most 1048576: NARROWER than '..Said'. Prove '..Said' where nothing that the law and all that it calls make is longer than what came in: it says more and counts as full. Else prove '..UptoSaid'. A law counts once. -/
mutual
def uptoBulk {H : Type} : DataW H → Nat
  | .lit (.string bytes) => bytes.length + 1
  | .lit _ => 1
  | .nil => 1
  | .ptr d => uptoBulk d + 1
  | .slice elems spare => uptoBulkAll elems + uptoBulkAll spare + 1
  | .agg parts => uptoBulkAll parts + 1
  | .iface _ d => uptoBulk d + 1
  | .map entries => uptoBulkEntries entries + 1
  | .held _ => 1
def uptoBulkAll {H : Type} : List (DataW H) → Nat
  | [] => 0
  | d :: r => uptoBulk d + uptoBulkAll r
def uptoBulkEntries {H : Type} : List (Lit × DataW H) → Nat
  | [] => 0
  | x :: r => uptoBulkEntry x + uptoBulkEntries r
def uptoBulkEntry {H : Type} : Lit × DataW H → Nat
  | (.string bytes, d) => bytes.length + uptoBulk d + 1
  | (_, d) => uptoBulk d + 1
 end
def uptoSmall : (H : Type) → List (DataW H) → Bool := fun _ ds => decide (uptoBulkAll ds ≤ 1048576)
def OpenSpec.upto (s : _root_.Go.ChangeSpec) : _root_.Go.OpenSpec := { _root_.Go.OpenSpec.ofChange s with cond := some uptoSmall }

/-- 'cordwoodlaw20.LexerWords', WHERE WHAT IT READS IS OF BULK AT MOST 1048576: true; the input reads as it did. -/
def lexerWordsUptoRow : OpenClaim := { program := "ytckkfenchjgfhaadoor", sum := "c0bc6196673efecb7bb76fe869147c3d1b047242b7270b0ec6914f155687ab01", func := "cordwood/cordwoodlaw20.LexerWords", spec := "lexerWords", inPlace := ["internal/bytealg.IndexByteString", "internal/bytealg.IndexString"], unfollowed := true, recurses := true, named := ["internal/bytealg.MaxLen", "unicode/utf8.first", "unicode/utf8.acceptRanges"], apart := false, laid := [("unicode/utf8.acceptRanges", laid_unicode_utf8_acceptRanges), ("unicode/utf8.first", laid_unicode_utf8_first)], narrowed := true }
def LexerWordsUptoSaid : Prop := lexerWordsUptoRow.holds Tryd.pinned (OpenSpec.upto lexerWordsSpec)

/-- 'cordwoodlaw20.LexerScan', WHERE WHAT IT READS IS OF BULK AT MOST 1048576: true; the input reads as it did. -/
def lexerScanUptoRow : OpenClaim := { program := "ytckkfenchjgfhaadoor", sum := "c0bc6196673efecb7bb76fe869147c3d1b047242b7270b0ec6914f155687ab01", func := "cordwood/cordwoodlaw20.LexerScan", spec := "lexerScan", inPlace := ["internal/bytealg.IndexByteString", "internal/bytealg.IndexString"], unfollowed := true, recurses := true, named := ["internal/bytealg.MaxLen", "unicode/utf8.first", "unicode/utf8.acceptRanges"], apart := false, laid := [("unicode/utf8.acceptRanges", laid_unicode_utf8_acceptRanges), ("unicode/utf8.first", laid_unicode_utf8_first)], narrowed := true }
def LexerScanUptoSaid : Prop := lexerScanUptoRow.holds Tryd.pinned (OpenSpec.upto lexerScanSpec)

/-- 'cordwoodlaw20.LexerErrors', WHERE WHAT IT READS IS OF BULK AT MOST 1048576: true; the input reads as it did. -/
def lexerErrorsUptoRow : OpenClaim := { program := "ytckkfenchjgfhaadoor", sum := "c0bc6196673efecb7bb76fe869147c3d1b047242b7270b0ec6914f155687ab01", func := "cordwood/cordwoodlaw20.LexerErrors", spec := "lexerErrors", inPlace := ["internal/bytealg.IndexByteString", "internal/bytealg.IndexString"], unfollowed := true, recurses := true, named := ["internal/bytealg.MaxLen", "unicode/utf8.first", "unicode/utf8.acceptRanges"], apart := false, laid := [("unicode/utf8.acceptRanges", laid_unicode_utf8_acceptRanges), ("unicode/utf8.first", laid_unicode_utf8_first)], narrowed := true }
def LexerErrorsUptoSaid : Prop := lexerErrorsUptoRow.holds Tryd.pinned (OpenSpec.upto lexerErrorsSpec)

/-- 'cordwoodlaw20.LexerSeparators', WHERE WHAT IT READS IS OF BULK AT MOST 1048576: true; the input reads as it did. -/
def lexerSeparatorsUptoRow : OpenClaim := { program := "ytckkfenchjgfhaadoor", sum := "c0bc6196673efecb7bb76fe869147c3d1b047242b7270b0ec6914f155687ab01", func := "cordwood/cordwoodlaw20.LexerSeparators", spec := "lexerSeparators", inPlace := ["internal/bytealg.IndexByteString", "internal/bytealg.IndexString", "internal/abi.NoEscape"], unfollowed := true, recurses := true, named := ["internal/bytealg.MaxLen", "unicode/utf8.first", "unicode/utf8.acceptRanges"], apart := false, laid := [("unicode/utf8.acceptRanges", laid_unicode_utf8_acceptRanges), ("unicode/utf8.first", laid_unicode_utf8_first)], narrowed := true }
def LexerSeparatorsUptoSaid : Prop := lexerSeparatorsUptoRow.holds Tryd.pinned (OpenSpec.upto lexerSeparatorsSpec)

/-- 'cordwoodlaw20.LexerPrint', WHERE WHAT IT READS IS OF BULK AT MOST 1048576: true; the input reads as it did. -/
def lexerPrintUptoRow : OpenClaim := { program := "ytckkfenchjgfhaadoor", sum := "c0bc6196673efecb7bb76fe869147c3d1b047242b7270b0ec6914f155687ab01", func := "cordwood/cordwoodlaw20.LexerPrint", spec := "lexerPrint", inPlace := ["internal/bytealg.IndexByteString", "internal/bytealg.IndexString", "internal/abi.NoEscape"], unfollowed := true, recurses := true, named := ["internal/bytealg.MaxLen", "unicode/utf8.first", "unicode/utf8.acceptRanges"], apart := false, laid := [("unicode/utf8.acceptRanges", laid_unicode_utf8_acceptRanges), ("unicode/utf8.first", laid_unicode_utf8_first)], narrowed := true }
def LexerPrintUptoSaid : Prop := lexerPrintUptoRow.holds Tryd.pinned (OpenSpec.upto lexerPrintSpec)

/-- 'cordwoodlaw20.LexerRoundTrip', WHERE WHAT IT READS IS OF BULK AT MOST 1048576: true; the input reads as it did. -/
def lexerRoundTripUptoRow : OpenClaim := { program := "ytckkfenchjgfhaadoor", sum := "c0bc6196673efecb7bb76fe869147c3d1b047242b7270b0ec6914f155687ab01", func := "cordwood/cordwoodlaw20.LexerRoundTrip", spec := "lexerRoundTrip", inPlace := ["internal/bytealg.IndexByteString", "internal/bytealg.IndexString", "internal/abi.NoEscape"], unfollowed := true, recurses := true, named := ["internal/bytealg.MaxLen", "unicode/utf8.first", "unicode/utf8.acceptRanges"], apart := false, laid := [("unicode/utf8.acceptRanges", laid_unicode_utf8_acceptRanges), ("unicode/utf8.first", laid_unicode_utf8_first)], narrowed := true }
def LexerRoundTripUptoSaid : Prop := lexerRoundTripUptoRow.holds Tryd.pinned (OpenSpec.upto lexerRoundTripSpec)

/-- 'cordwoodlaw20.LexerOffsets', WHERE WHAT IT READS IS OF BULK AT MOST 1048576: true; the input reads as it did. -/
def lexerOffsetsUptoRow : OpenClaim := { program := "ytckkfenchjgfhaadoor", sum := "c0bc6196673efecb7bb76fe869147c3d1b047242b7270b0ec6914f155687ab01", func := "cordwood/cordwoodlaw20.LexerOffsets", spec := "lexerOffsets", inPlace := ["internal/bytealg.IndexByteString", "internal/bytealg.IndexString", "internal/bytealg.CountString"], unfollowed := true, recurses := true, named := ["internal/bytealg.MaxLen", "unicode/utf8.first", "unicode/utf8.acceptRanges"], apart := false, laid := [("unicode/utf8.acceptRanges", laid_unicode_utf8_acceptRanges), ("unicode/utf8.first", laid_unicode_utf8_first)], narrowed := true }
def LexerOffsetsUptoSaid : Prop := lexerOffsetsUptoRow.holds Tryd.pinned (OpenSpec.upto lexerOffsetsSpec)

end Rows
end Go.Proofs.YtckkfenchjgfhaaDoor
