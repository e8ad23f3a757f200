/-
  NARROWER THAN 'FOR EVERY INPUT', by the rows' own cells (each row's printed sentence says how): ExprmergeMerge: loops, laid · ExprmergeUnchanged: loops, laid · ExprmergeSymmetric: loops, laid · ExprmergeParts: loops, laid · ExprmergeAgain: loops, laid · ExprmergeSettles: loops, laid · ExprmergeOrder: loops, laid.
  DERIVED. THE GIVEN ROWS OF THIS SEAT. 7 by the template 'for every input the law returns true; each argument reads behind the call as it read before'; 0 by the template 'total and deterministic' (their statements: YtiagjpiclnmpkaaDoorTotals.lean).
  GIVEN WITH THE SEED: the statements are not yours to turn. If you find one false, say at which input.
  Laid BY PROGRAM, IN A SANDBOX (cutbox-rows.mjs): the forced cells as the released guide's own fill.sh prints them over the translation b8bd02e71e313b9f… (all of the seat's roots in one cut). By AI agents, Wed Nov 11 2026. No macro, syntax, notation, axiom, sorry.
-/
import Derived.Test.YtiagjpiclnmpkaaDoorChecked
import GoSem.PinnedTables
import GoSem.Claim
import GoSem.ClaimJoined
import GoSem.ClaimMapViews
import Derived.JoinedTies
import Derived.KernelRfl
namespace Go.Proofs.YtiagjpiclnmpkaaDoor
/- THE CELL 'sum', in the pinned program and in every row, IS THE sha256 OF THE DUMP (.gsa) THAT YtiagjpiclnmpkaaDoorProg.lean LOADS. Nothing in Lean hashes anything: it is a label: what it is worth is what the hold of that sum in a sandbox is worth. -/
noncomputable def Tryd.pinned : Pinned := { name := "ytiagjpiclnmpkaadoor", sum := "b8bd02e71e313b9f0d2f5990a3984b724a13537d108e74392b43417854746ffb", checked := Tryd.checked }
namespace Rows
def none {H : Type} : Left H := { results := [], args := [] }

/- WHAT THE LISTED PACKAGE-LEVEL VARIABLES READ AS WHEN THE CALL BEGINS. Each datum BY PROGRAM (the guide's laid-datum.mjs) off the statement by which the dump's own 'gosem.cut.vars' lays the variable. In a bare row this is a premise. The card (YtiagjpiclnmpkaaDoorCards.lean) ties it to the program's text. -/
def laid_unicode_utf8_acceptRanges {H : Type} : DataW H := .agg [.agg [.lit (.int .u8 128), .lit (.int .u8 191)], .agg [.lit (.int .u8 160), .lit (.int .u8 191)], .agg [.lit (.int .u8 128), .lit (.int .u8 159)], .agg [.lit (.int .u8 144), .lit (.int .u8 191)], .agg [.lit (.int .u8 128), .lit (.int .u8 143)], .agg [.lit (.int .u8 0), .lit (.int .u8 0)], .agg [.lit (.int .u8 0), .lit (.int .u8 0)], .agg [.lit (.int .u8 0), .lit (.int .u8 0)], .agg [.lit (.int .u8 0), .lit (.int .u8 0)], .agg [.lit (.int .u8 0), .lit (.int .u8 0)], .agg [.lit (.int .u8 0), .lit (.int .u8 0)], .agg [.lit (.int .u8 0), .lit (.int .u8 0)], .agg [.lit (.int .u8 0), .lit (.int .u8 0)], .agg [.lit (.int .u8 0), .lit (.int .u8 0)], .agg [.lit (.int .u8 0), .lit (.int .u8 0)], .agg [.lit (.int .u8 0), .lit (.int .u8 0)]]
/-- One of Go's own tables, pinned by name: the form's constant. -/
def laid_unicode_utf8_first : DataW Unit := Go.Pinned.utf8First

/-- 'cordwoodlaw32.ExprmergeMerge': WHATEVER THE INPUT: true; the input reads as it did. -/
def exprmergeMergeSpec : ChangeSpec := { name := "exprmergeMerge", fn := fun _ => fun
  | [d1, d2, d3] => { results := [.lit (.bool true)], args := [d1, d2, d3] }
  | _ => none }
def exprmergeMergeRow : OpenClaim := { program := "ytiagjpiclnmpkaadoor", sum := "b8bd02e71e313b9f0d2f5990a3984b724a13537d108e74392b43417854746ffb", func := "cordwood/cordwoodlaw32.ExprmergeMerge", spec := "exprmergeMerge", inPlace := ["internal/bytealg.IndexByteString", "internal/bytealg.IndexString"], unfollowed := true, recurses := true, named := ["unicode/utf8.first", "unicode/utf8.acceptRanges", "internal/bytealg.MaxLen"], loops := true, apart := false, laid := [("unicode/utf8.acceptRanges", laid_unicode_utf8_acceptRanges), ("unicode/utf8.first", laid_unicode_utf8_first)] }
def ExprmergeMergeSaid : Prop := exprmergeMergeRow.holds Tryd.pinned (OpenSpec.ofChange exprmergeMergeSpec)

/-- ITS FALSE NEIGHBOUR: 'it returns false'. Refute it at one input. -/
def exprmergeMergeWrong : ChangeSpec := { name := "exprmergeMerge", fn := fun _ => fun
  | [d1, d2, d3] => { results := [.lit (.bool false)], args := [d1, d2, d3] }
  | _ => none }
def ExprmergeMergeWrongFalsely : Prop := exprmergeMergeRow.holds Tryd.pinned (OpenSpec.ofChange exprmergeMergeWrong)

/-- 'cordwoodlaw32.ExprmergeUnchanged': WHATEVER THE INPUT: true; the input reads as it did. -/
def exprmergeUnchangedSpec : ChangeSpec := { name := "exprmergeUnchanged", fn := fun _ => fun
  | [d1, d2] => { results := [.lit (.bool true)], args := [d1, d2] }
  | _ => none }
def exprmergeUnchangedRow : OpenClaim := { program := "ytiagjpiclnmpkaadoor", sum := "b8bd02e71e313b9f0d2f5990a3984b724a13537d108e74392b43417854746ffb", func := "cordwood/cordwoodlaw32.ExprmergeUnchanged", spec := "exprmergeUnchanged", inPlace := ["internal/bytealg.IndexByteString", "internal/bytealg.IndexString"], unfollowed := true, recurses := true, named := ["unicode/utf8.first", "unicode/utf8.acceptRanges", "internal/bytealg.MaxLen"], loops := true, apart := false, laid := [("unicode/utf8.acceptRanges", laid_unicode_utf8_acceptRanges), ("unicode/utf8.first", laid_unicode_utf8_first)] }
def ExprmergeUnchangedSaid : Prop := exprmergeUnchangedRow.holds Tryd.pinned (OpenSpec.ofChange exprmergeUnchangedSpec)

/-- ITS FALSE NEIGHBOUR: 'it returns false'. Refute it at one input. -/
def exprmergeUnchangedWrong : ChangeSpec := { name := "exprmergeUnchanged", fn := fun _ => fun
  | [d1, d2] => { results := [.lit (.bool false)], args := [d1, d2] }
  | _ => none }
def ExprmergeUnchangedWrongFalsely : Prop := exprmergeUnchangedRow.holds Tryd.pinned (OpenSpec.ofChange exprmergeUnchangedWrong)

/-- 'cordwoodlaw32.ExprmergeSymmetric': WHATEVER THE INPUT: true; the input reads as it did. -/
def exprmergeSymmetricSpec : ChangeSpec := { name := "exprmergeSymmetric", fn := fun _ => fun
  | [d1, d2, d3] => { results := [.lit (.bool true)], args := [d1, d2, d3] }
  | _ => none }
def exprmergeSymmetricRow : OpenClaim := { program := "ytiagjpiclnmpkaadoor", sum := "b8bd02e71e313b9f0d2f5990a3984b724a13537d108e74392b43417854746ffb", func := "cordwood/cordwoodlaw32.ExprmergeSymmetric", spec := "exprmergeSymmetric", inPlace := ["internal/bytealg.IndexByteString", "internal/bytealg.IndexString"], unfollowed := true, recurses := true, named := ["unicode/utf8.first", "unicode/utf8.acceptRanges", "internal/bytealg.MaxLen"], loops := true, apart := false, laid := [("unicode/utf8.acceptRanges", laid_unicode_utf8_acceptRanges), ("unicode/utf8.first", laid_unicode_utf8_first)] }
def ExprmergeSymmetricSaid : Prop := exprmergeSymmetricRow.holds Tryd.pinned (OpenSpec.ofChange exprmergeSymmetricSpec)

/-- ITS FALSE NEIGHBOUR: 'it returns false'. Refute it at one input. -/
def exprmergeSymmetricWrong : ChangeSpec := { name := "exprmergeSymmetric", fn := fun _ => fun
  | [d1, d2, d3] => { results := [.lit (.bool false)], args := [d1, d2, d3] }
  | _ => none }
def ExprmergeSymmetricWrongFalsely : Prop := exprmergeSymmetricRow.holds Tryd.pinned (OpenSpec.ofChange exprmergeSymmetricWrong)

/-- 'cordwoodlaw32.ExprmergeParts': WHATEVER THE INPUT: true; the input reads as it did. -/
def exprmergePartsSpec : ChangeSpec := { name := "exprmergeParts", fn := fun _ => fun
  | [d1, d2, d3] => { results := [.lit (.bool true)], args := [d1, d2, d3] }
  | _ => none }
def exprmergePartsRow : OpenClaim := { program := "ytiagjpiclnmpkaadoor", sum := "b8bd02e71e313b9f0d2f5990a3984b724a13537d108e74392b43417854746ffb", func := "cordwood/cordwoodlaw32.ExprmergeParts", spec := "exprmergeParts", inPlace := ["internal/bytealg.IndexByteString", "internal/bytealg.IndexString"], unfollowed := true, recurses := true, named := ["unicode/utf8.first", "unicode/utf8.acceptRanges", "internal/bytealg.MaxLen"], loops := true, apart := false, laid := [("unicode/utf8.acceptRanges", laid_unicode_utf8_acceptRanges), ("unicode/utf8.first", laid_unicode_utf8_first)] }
def ExprmergePartsSaid : Prop := exprmergePartsRow.holds Tryd.pinned (OpenSpec.ofChange exprmergePartsSpec)

/-- ITS FALSE NEIGHBOUR: 'it returns false'. Refute it at one input. -/
def exprmergePartsWrong : ChangeSpec := { name := "exprmergeParts", fn := fun _ => fun
  | [d1, d2, d3] => { results := [.lit (.bool false)], args := [d1, d2, d3] }
  | _ => none }
def ExprmergePartsWrongFalsely : Prop := exprmergePartsRow.holds Tryd.pinned (OpenSpec.ofChange exprmergePartsWrong)

/-- 'cordwoodlaw32.ExprmergeAgain': WHATEVER THE INPUT: true; the input reads as it did. -/
def exprmergeAgainSpec : ChangeSpec := { name := "exprmergeAgain", fn := fun _ => fun
  | [d1, d2, d3] => { results := [.lit (.bool true)], args := [d1, d2, d3] }
  | _ => none }
def exprmergeAgainRow : OpenClaim := { program := "ytiagjpiclnmpkaadoor", sum := "b8bd02e71e313b9f0d2f5990a3984b724a13537d108e74392b43417854746ffb", func := "cordwood/cordwoodlaw32.ExprmergeAgain", spec := "exprmergeAgain", inPlace := ["internal/bytealg.IndexByteString", "internal/bytealg.IndexString"], unfollowed := true, recurses := true, named := ["unicode/utf8.first", "unicode/utf8.acceptRanges", "internal/bytealg.MaxLen"], loops := true, apart := false, laid := [("unicode/utf8.acceptRanges", laid_unicode_utf8_acceptRanges), ("unicode/utf8.first", laid_unicode_utf8_first)] }
def ExprmergeAgainSaid : Prop := exprmergeAgainRow.holds Tryd.pinned (OpenSpec.ofChange exprmergeAgainSpec)

/-- ITS FALSE NEIGHBOUR: 'it returns false'. Refute it at one input. -/
def exprmergeAgainWrong : ChangeSpec := { name := "exprmergeAgain", fn := fun _ => fun
  | [d1, d2, d3] => { results := [.lit (.bool false)], args := [d1, d2, d3] }
  | _ => none }
def ExprmergeAgainWrongFalsely : Prop := exprmergeAgainRow.holds Tryd.pinned (OpenSpec.ofChange exprmergeAgainWrong)

/-- 'cordwoodlaw32.ExprmergeSettles': WHATEVER THE INPUT: true; the input reads as it did. -/
def exprmergeSettlesSpec : ChangeSpec := { name := "exprmergeSettles", fn := fun _ => fun
  | [d1, d2, d3] => { results := [.lit (.bool true)], args := [d1, d2, d3] }
  | _ => none }
def exprmergeSettlesRow : OpenClaim := { program := "ytiagjpiclnmpkaadoor", sum := "b8bd02e71e313b9f0d2f5990a3984b724a13537d108e74392b43417854746ffb", func := "cordwood/cordwoodlaw32.ExprmergeSettles", spec := "exprmergeSettles", inPlace := ["internal/bytealg.IndexByteString", "internal/bytealg.IndexString"], unfollowed := true, recurses := true, named := ["unicode/utf8.first", "unicode/utf8.acceptRanges", "internal/bytealg.MaxLen"], loops := true, apart := false, laid := [("unicode/utf8.acceptRanges", laid_unicode_utf8_acceptRanges), ("unicode/utf8.first", laid_unicode_utf8_first)] }
def ExprmergeSettlesSaid : Prop := exprmergeSettlesRow.holds Tryd.pinned (OpenSpec.ofChange exprmergeSettlesSpec)

/-- ITS FALSE NEIGHBOUR: 'it returns false'. Refute it at one input. -/
def exprmergeSettlesWrong : ChangeSpec := { name := "exprmergeSettles", fn := fun _ => fun
  | [d1, d2, d3] => { results := [.lit (.bool false)], args := [d1, d2, d3] }
  | _ => none }
def ExprmergeSettlesWrongFalsely : Prop := exprmergeSettlesRow.holds Tryd.pinned (OpenSpec.ofChange exprmergeSettlesWrong)

/-- 'cordwoodlaw32.ExprmergeOrder': WHATEVER THE INPUT: true; the input reads as it did. -/
def exprmergeOrderSpec : ChangeSpec := { name := "exprmergeOrder", fn := fun _ => fun
  | [d1, d2, d3] => { results := [.lit (.bool true)], args := [d1, d2, d3] }
  | _ => none }
def exprmergeOrderRow : OpenClaim := { program := "ytiagjpiclnmpkaadoor", sum := "b8bd02e71e313b9f0d2f5990a3984b724a13537d108e74392b43417854746ffb", func := "cordwood/cordwoodlaw32.ExprmergeOrder", spec := "exprmergeOrder", inPlace := ["internal/bytealg.IndexByteString", "internal/bytealg.IndexString"], unfollowed := true, recurses := true, named := ["unicode/utf8.first", "unicode/utf8.acceptRanges", "internal/bytealg.MaxLen"], loops := true, apart := false, laid := [("unicode/utf8.acceptRanges", laid_unicode_utf8_acceptRanges), ("unicode/utf8.first", laid_unicode_utf8_first)] }
def ExprmergeOrderSaid : Prop := exprmergeOrderRow.holds Tryd.pinned (OpenSpec.ofChange exprmergeOrderSpec)

/-- ITS FALSE NEIGHBOUR: 'it returns false'. Refute it at one input. -/
def exprmergeOrderWrong : ChangeSpec := { name := "exprmergeOrder", fn := fun _ => fun
  | [d1, d2, d3] => { results := [.lit (.bool false)], args := [d1, d2, d3] }
  | _ => none }
def ExprmergeOrderWrongFalsely : Prop := exprmergeOrderRow.holds Tryd.pinned (OpenSpec.ofChange exprmergeOrderWrong)

/- THE SECOND FORM. 'bulk': how many values and letters a reading holds, each counted each time it is reached (what is shared counts as often as it is met; a slice's spare places count too). A statement '..UptoSaid' is the law's where the arguments, and the package variables that the reading takes, are together of bulk at most 1048576: NARROWER than '..Said'. Prove '..Said' where nothing that the law and all that it calls make is longer than what came in: it says more and counts as full. Else prove '..UptoSaid'. A law counts once. -/
mutual
def uptoBulk {H : Type} : DataW H → Nat
  | .lit (.string bytes) => bytes.length + 1
  | .lit _ => 1
  | .nil => 1
  | .ptr d => uptoBulk d + 1
  | .slice elems spare => uptoBulkAll elems + uptoBulkAll spare + 1
  | .agg parts => uptoBulkAll parts + 1
  | .iface _ d => uptoBulk d + 1
  | .map entries => uptoBulkEntries entries + 1
  | .held _ => 1
def uptoBulkAll {H : Type} : List (DataW H) → Nat
  | [] => 0
  | d :: r => uptoBulk d + uptoBulkAll r
def uptoBulkEntries {H : Type} : List (Lit × DataW H) → Nat
  | [] => 0
  | x :: r => uptoBulkEntry x + uptoBulkEntries r
def uptoBulkEntry {H : Type} : Lit × DataW H → Nat
  | (.string bytes, d) => bytes.length + uptoBulk d + 1
  | (_, d) => uptoBulk d + 1
 end
def uptoSmall : (H : Type) → List (DataW H) → Bool := fun _ ds => decide (uptoBulkAll ds ≤ 1048576)
def OpenSpec.upto (s : _root_.Go.ChangeSpec) : _root_.Go.OpenSpec := { _root_.Go.OpenSpec.ofChange s with cond := some uptoSmall }

/-- 'cordwoodlaw32.ExprmergeMerge', WHERE WHAT IT READS IS OF BULK AT MOST 1048576: true; the input reads as it did. -/
def exprmergeMergeUptoRow : OpenClaim := { program := "ytiagjpiclnmpkaadoor", sum := "b8bd02e71e313b9f0d2f5990a3984b724a13537d108e74392b43417854746ffb", func := "cordwood/cordwoodlaw32.ExprmergeMerge", spec := "exprmergeMerge", inPlace := ["internal/bytealg.IndexByteString", "internal/bytealg.IndexString"], unfollowed := true, recurses := true, named := ["unicode/utf8.first", "unicode/utf8.acceptRanges", "internal/bytealg.MaxLen"], loops := true, apart := false, laid := [("unicode/utf8.acceptRanges", laid_unicode_utf8_acceptRanges), ("unicode/utf8.first", laid_unicode_utf8_first)], narrowed := true }
def ExprmergeMergeUptoSaid : Prop := exprmergeMergeUptoRow.holds Tryd.pinned (OpenSpec.upto exprmergeMergeSpec)

/-- 'cordwoodlaw32.ExprmergeUnchanged', WHERE WHAT IT READS IS OF BULK AT MOST 1048576: true; the input reads as it did. -/
def exprmergeUnchangedUptoRow : OpenClaim := { program := "ytiagjpiclnmpkaadoor", sum := "b8bd02e71e313b9f0d2f5990a3984b724a13537d108e74392b43417854746ffb", func := "cordwood/cordwoodlaw32.ExprmergeUnchanged", spec := "exprmergeUnchanged", inPlace := ["internal/bytealg.IndexByteString", "internal/bytealg.IndexString"], unfollowed := true, recurses := true, named := ["unicode/utf8.first", "unicode/utf8.acceptRanges", "internal/bytealg.MaxLen"], loops := true, apart := false, laid := [("unicode/utf8.acceptRanges", laid_unicode_utf8_acceptRanges), ("unicode/utf8.first", laid_unicode_utf8_first)], narrowed := true }
def ExprmergeUnchangedUptoSaid : Prop := exprmergeUnchangedUptoRow.holds Tryd.pinned (OpenSpec.upto exprmergeUnchangedSpec)

/-- 'cordwoodlaw32.ExprmergeSymmetric', WHERE WHAT IT READS IS OF BULK AT MOST 1048576: true; the input reads as it did. -/
def exprmergeSymmetricUptoRow : OpenClaim := { program := "ytiagjpiclnmpkaadoor", sum := "b8bd02e71e313b9f0d2f5990a3984b724a13537d108e74392b43417854746ffb", func := "cordwood/cordwoodlaw32.ExprmergeSymmetric", spec := "exprmergeSymmetric", inPlace := ["internal/bytealg.IndexByteString", "internal/bytealg.IndexString"], unfollowed := true, recurses := true, named := ["unicode/utf8.first", "unicode/utf8.acceptRanges", "internal/bytealg.MaxLen"], loops := true, apart := false, laid := [("unicode/utf8.acceptRanges", laid_unicode_utf8_acceptRanges), ("unicode/utf8.first", laid_unicode_utf8_first)], narrowed := true }
def ExprmergeSymmetricUptoSaid : Prop := exprmergeSymmetricUptoRow.holds Tryd.pinned (OpenSpec.upto exprmergeSymmetricSpec)

/-- 'cordwoodlaw32.ExprmergeParts', WHERE WHAT IT READS IS OF BULK AT MOST 1048576: true; the input reads as it did. -/
def exprmergePartsUptoRow : OpenClaim := { program := "ytiagjpiclnmpkaadoor", sum := "b8bd02e71e313b9f0d2f5990a3984b724a13537d108e74392b43417854746ffb", func := "cordwood/cordwoodlaw32.ExprmergeParts", spec := "exprmergeParts", inPlace := ["internal/bytealg.IndexByteString", "internal/bytealg.IndexString"], unfollowed := true, recurses := true, named := ["unicode/utf8.first", "unicode/utf8.acceptRanges", "internal/bytealg.MaxLen"], loops := true, apart := false, laid := [("unicode/utf8.acceptRanges", laid_unicode_utf8_acceptRanges), ("unicode/utf8.first", laid_unicode_utf8_first)], narrowed := true }
def ExprmergePartsUptoSaid : Prop := exprmergePartsUptoRow.holds Tryd.pinned (OpenSpec.upto exprmergePartsSpec)

/-- 'cordwoodlaw32.ExprmergeAgain', WHERE WHAT IT READS IS OF BULK AT MOST 1048576: true; the input reads as it did. -/
def exprmergeAgainUptoRow : OpenClaim := { program := "ytiagjpiclnmpkaadoor", sum := "b8bd02e71e313b9f0d2f5990a3984b724a13537d108e74392b43417854746ffb", func := "cordwood/cordwoodlaw32.ExprmergeAgain", spec := "exprmergeAgain", inPlace := ["internal/bytealg.IndexByteString", "internal/bytealg.IndexString"], unfollowed := true, recurses := true, named := ["unicode/utf8.first", "unicode/utf8.acceptRanges", "internal/bytealg.MaxLen"], loops := true, apart := false, laid := [("unicode/utf8.acceptRanges", laid_unicode_utf8_acceptRanges), ("unicode/utf8.first", laid_unicode_utf8_first)], narrowed := true }
def ExprmergeAgainUptoSaid : Prop := exprmergeAgainUptoRow.holds Tryd.pinned (OpenSpec.upto exprmergeAgainSpec)

/-- 'cordwoodlaw32.ExprmergeSettles', WHERE WHAT IT READS IS OF BULK AT MOST 1048576: true; the input reads as it did. -/
def exprmergeSettlesUptoRow : OpenClaim := { program := "ytiagjpiclnmpkaadoor", sum := "b8bd02e71e313b9f0d2f5990a3984b724a13537d108e74392b43417854746ffb", func := "cordwood/cordwoodlaw32.ExprmergeSettles", spec := "exprmergeSettles", inPlace := ["internal/bytealg.IndexByteString", "internal/bytealg.IndexString"], unfollowed := true, recurses := true, named := ["unicode/utf8.first", "unicode/utf8.acceptRanges", "internal/bytealg.MaxLen"], loops := true, apart := false, laid := [("unicode/utf8.acceptRanges", laid_unicode_utf8_acceptRanges), ("unicode/utf8.first", laid_unicode_utf8_first)], narrowed := true }
def ExprmergeSettlesUptoSaid : Prop := exprmergeSettlesUptoRow.holds Tryd.pinned (OpenSpec.upto exprmergeSettlesSpec)

/-- 'cordwoodlaw32.ExprmergeOrder', WHERE WHAT IT READS IS OF BULK AT MOST 1048576: true; the input reads as it did. -/
def exprmergeOrderUptoRow : OpenClaim := { program := "ytiagjpiclnmpkaadoor", sum := "b8bd02e71e313b9f0d2f5990a3984b724a13537d108e74392b43417854746ffb", func := "cordwood/cordwoodlaw32.ExprmergeOrder", spec := "exprmergeOrder", inPlace := ["internal/bytealg.IndexByteString", "internal/bytealg.IndexString"], unfollowed := true, recurses := true, named := ["unicode/utf8.first", "unicode/utf8.acceptRanges", "internal/bytealg.MaxLen"], loops := true, apart := false, laid := [("unicode/utf8.acceptRanges", laid_unicode_utf8_acceptRanges), ("unicode/utf8.first", laid_unicode_utf8_first)], narrowed := true }
def ExprmergeOrderUptoSaid : Prop := exprmergeOrderUptoRow.holds Tryd.pinned (OpenSpec.upto exprmergeOrderSpec)

end Rows
end Go.Proofs.YtiagjpiclnmpkaaDoor
