/-
  NARROWER THAN 'FOR EVERY INPUT', by the rows' own cells (each row's printed sentence says how): MeaningFits: loops, laid · MeaningAggregates: loops, laid.
  DERIVED. THE GIVEN ROWS OF THIS SEAT. 2 by the template 'for every input the law returns true; each argument reads behind the call as it read before'; 0 by the template 'total and deterministic' (their statements: YtkccdfaelbepeaaDoorTotals.lean).
  GIVEN WITH THE SEED: the statements are not yours to turn. If you find one false, say at which input.
  Laid BY PROGRAM, IN A SANDBOX (cutbox-rows.mjs): the forced cells as the released guide's own fill.sh prints them over the translation 9260cd242115b49d… (all of the seat's roots in one cut). By AI agents, Wed Nov 11 2026. No macro, syntax, notation, axiom, sorry.
-/
import Derived.Test.YtkccdfaelbepeaaDoorChecked
import GoSem.Claim
import GoSem.ClaimJoined
import GoSem.ClaimMapViews
import Derived.JoinedTies
import Derived.KernelRfl
namespace Go.Proofs.YtkccdfaelbepeaaDoor
/- THE CELL 'sum', in the pinned program and in every row, IS THE sha256 OF THE DUMP (.gsa) THAT YtkccdfaelbepeaaDoorProg.lean LOADS. Nothing in Lean hashes anything: it is a label: what it is worth is what the hold of that sum in a sandbox is worth. -/
noncomputable def Tryd.pinned : Pinned := { name := "ytkccdfaelbepeaadoor", sum := "9260cd242115b49d080c50398316035d2783852bd91dc5c244d6d162c95d30d5", checked := Tryd.checked }
namespace Rows
def none {H : Type} : Left H := { results := [], args := [] }

/- WHAT THE LISTED PACKAGE-LEVEL VARIABLES READ AS WHEN THE CALL BEGINS. Each datum BY PROGRAM (the guide's laid-datum.mjs) off the statement by which the dump's own 'gosem.cut.vars' lays the variable. In a bare row this is a premise. The card (YtkccdfaelbepeaaDoorCards.lean) ties it to the program's text. -/
def laid_querylab_expression_operations {H : Type} : DataW H := .agg [.agg [.lit (.string []), .lit (.int .i64 0), .lit (.int .i64 0), .lit (.int .i64 0)], .agg [.lit (.string [110, 117, 108, 108]), .lit (.int .i64 0), .lit (.int .i64 0), .lit (.int .i64 0)], .agg [.lit (.string [105, 110, 116]), .lit (.int .i64 0), .lit (.int .i64 0), .lit (.int .i64 1)], .agg [.lit (.string [98, 111, 111, 108]), .lit (.int .i64 0), .lit (.int .i64 0), .lit (.int .i64 2)], .agg [.lit (.string [116, 101, 120, 116]), .lit (.int .i64 0), .lit (.int .i64 0), .lit (.int .i64 3)], .agg [.lit (.string [99, 111, 108, 117, 109, 110]), .lit (.int .i64 0), .lit (.int .i64 0), .lit (.int .i64 0)], .agg [.lit (.string [97, 100, 100]), .lit (.int .i64 2), .lit (.int .i64 1), .lit (.int .i64 1)], .agg [.lit (.string [115, 117, 98]), .lit (.int .i64 2), .lit (.int .i64 1), .lit (.int .i64 1)], .agg [.lit (.string [109, 117, 108]), .lit (.int .i64 2), .lit (.int .i64 1), .lit (.int .i64 1)], .agg [.lit (.string [100, 105, 118]), .lit (.int .i64 2), .lit (.int .i64 1), .lit (.int .i64 1)], .agg [.lit (.string [109, 111, 100]), .lit (.int .i64 2), .lit (.int .i64 1), .lit (.int .i64 1)], .agg [.lit (.string [110, 101, 103]), .lit (.int .i64 1), .lit (.int .i64 1), .lit (.int .i64 1)], .agg [.lit (.string [99, 111, 110, 99, 97, 116]), .lit (.int .i64 2), .lit (.int .i64 2), .lit (.int .i64 3)], .agg [.lit (.string [108, 101, 110, 103, 116, 104]), .lit (.int .i64 1), .lit (.int .i64 2), .lit (.int .i64 1)], .agg [.lit (.string [101, 113]), .lit (.int .i64 2), .lit (.int .i64 4), .lit (.int .i64 2)], .agg [.lit (.string [110, 101]), .lit (.int .i64 2), .lit (.int .i64 4), .lit (.int .i64 2)], .agg [.lit (.string [108, 116]), .lit (.int .i64 2), .lit (.int .i64 4), .lit (.int .i64 2)], .agg [.lit (.string [108, 101]), .lit (.int .i64 2), .lit (.int .i64 4), .lit (.int .i64 2)], .agg [.lit (.string [103, 116]), .lit (.int .i64 2), .lit (.int .i64 4), .lit (.int .i64 2)], .agg [.lit (.string [103, 101]), .lit (.int .i64 2), .lit (.int .i64 4), .lit (.int .i64 2)], .agg [.lit (.string [115, 97, 109, 101]), .lit (.int .i64 2), .lit (.int .i64 4), .lit (.int .i64 2)], .agg [.lit (.string [105, 115, 110, 117, 108, 108]), .lit (.int .i64 1), .lit (.int .i64 5), .lit (.int .i64 2)], .agg [.lit (.string [97, 110, 100]), .lit (.int .i64 2), .lit (.int .i64 3), .lit (.int .i64 2)], .agg [.lit (.string [111, 114]), .lit (.int .i64 2), .lit (.int .i64 3), .lit (.int .i64 2)], .agg [.lit (.string [110, 111, 116]), .lit (.int .i64 1), .lit (.int .i64 3), .lit (.int .i64 2)], .agg [.lit (.string [105, 115, 116, 114, 117, 101]), .lit (.int .i64 1), .lit (.int .i64 3), .lit (.int .i64 2)], .agg [.lit (.string [99, 97, 115, 101]), .lit (.int .i64 3), .lit (.int .i64 6), .lit (.int .i64 0)], .agg [.lit (.string [99, 111, 97, 108, 101, 115, 99, 101]), .lit (.int .i64 2), .lit (.int .i64 4), .lit (.int .i64 0)], .agg [.lit (.string [105, 110]), .lit (.int .i64 2), .lit (.int .i64 4), .lit (.int .i64 2)]]
def laid_querylab_value_null {H : Type} : DataW H := .agg [.lit (.int .i64 0), .lit (.int .i64 0), .lit (.string [])]

/-- 'querylablaw08.MeaningFits': WHATEVER THE INPUT: true; the input reads as it did. -/
def meaningFitsSpec : ChangeSpec := { name := "meaningFits", fn := fun _ => fun
  | [d1, d2] => { results := [.lit (.bool true)], args := [d1, d2] }
  | _ => none }
def meaningFitsRow : OpenClaim := { program := "ytkccdfaelbepeaadoor", sum := "9260cd242115b49d080c50398316035d2783852bd91dc5c244d6d162c95d30d5", func := "querylab/querylablaw08.MeaningFits", spec := "meaningFits", inPlace := ["internal/bytealg.IndexByteString", "internal/bytealg.IndexString"], unfollowed := true, recurses := true, named := ["internal/bytealg.MaxLen", "querylab/expression.operations"], loops := true, apart := false, laid := [("querylab/expression.operations", laid_querylab_expression_operations)] }
def MeaningFitsSaid : Prop := meaningFitsRow.holds Tryd.pinned (OpenSpec.ofChange meaningFitsSpec)

/-- ITS FALSE NEIGHBOUR: 'it returns false'. Refute it at one input. -/
def meaningFitsWrong : ChangeSpec := { name := "meaningFits", fn := fun _ => fun
  | [d1, d2] => { results := [.lit (.bool false)], args := [d1, d2] }
  | _ => none }
def MeaningFitsWrongFalsely : Prop := meaningFitsRow.holds Tryd.pinned (OpenSpec.ofChange meaningFitsWrong)

/-- 'querylablaw08.MeaningAggregates': WHATEVER THE INPUT: true; the input reads as it did. -/
def meaningAggregatesSpec : ChangeSpec := { name := "meaningAggregates", fn := fun _ => fun
  | [d1, d2, d3] => { results := [.lit (.bool true)], args := [d1, d2, d3] }
  | _ => none }
def meaningAggregatesRow : OpenClaim := { program := "ytkccdfaelbepeaadoor", sum := "9260cd242115b49d080c50398316035d2783852bd91dc5c244d6d162c95d30d5", func := "querylab/querylablaw08.MeaningAggregates", spec := "meaningAggregates", unfollowed := true, recurses := true, named := ["querylab/expression.operations", "querylab/value.null"], loops := true, apart := false, laid := [("querylab/value.null", laid_querylab_value_null), ("querylab/expression.operations", laid_querylab_expression_operations)] }
def MeaningAggregatesSaid : Prop := meaningAggregatesRow.holds Tryd.pinned (OpenSpec.ofChange meaningAggregatesSpec)

/-- ITS FALSE NEIGHBOUR: 'it returns false'. Refute it at one input. -/
def meaningAggregatesWrong : ChangeSpec := { name := "meaningAggregates", fn := fun _ => fun
  | [d1, d2, d3] => { results := [.lit (.bool false)], args := [d1, d2, d3] }
  | _ => none }
def MeaningAggregatesWrongFalsely : Prop := meaningAggregatesRow.holds Tryd.pinned (OpenSpec.ofChange meaningAggregatesWrong)

/- THE SECOND FORM. 'bulk': how many values and letters a reading holds, each counted each time it is reached (what is shared counts as often as it is met; a slice's spare places count too). A statement '..UptoSaid' is the law's where the arguments, and the package variables that the reading takes, are together of bulk at most 1048576: NARROWER than '..Said'. Prove '..Said' where nothing that the law and all that it calls make is longer than what came in: it says more and counts as full. Else prove '..UptoSaid'. A law counts once. -/
mutual
def uptoBulk {H : Type} : DataW H → Nat
  | .lit (.string bytes) => bytes.length + 1
  | .lit _ => 1
  | .nil => 1
  | .ptr d => uptoBulk d + 1
  | .slice elems spare => uptoBulkAll elems + uptoBulkAll spare + 1
  | .agg parts => uptoBulkAll parts + 1
  | .iface _ d => uptoBulk d + 1
  | .map entries => uptoBulkEntries entries + 1
  | .held _ => 1
def uptoBulkAll {H : Type} : List (DataW H) → Nat
  | [] => 0
  | d :: r => uptoBulk d + uptoBulkAll r
def uptoBulkEntries {H : Type} : List (Lit × DataW H) → Nat
  | [] => 0
  | x :: r => uptoBulkEntry x + uptoBulkEntries r
def uptoBulkEntry {H : Type} : Lit × DataW H → Nat
  | (.string bytes, d) => bytes.length + uptoBulk d + 1
  | (_, d) => uptoBulk d + 1
 end
def uptoSmall : (H : Type) → List (DataW H) → Bool := fun _ ds => decide (uptoBulkAll ds ≤ 1048576)
def OpenSpec.upto (s : _root_.Go.ChangeSpec) : _root_.Go.OpenSpec := { _root_.Go.OpenSpec.ofChange s with cond := some uptoSmall }

/-- 'querylablaw08.MeaningFits', WHERE WHAT IT READS IS OF BULK AT MOST 1048576: true; the input reads as it did. -/
def meaningFitsUptoRow : OpenClaim := { program := "ytkccdfaelbepeaadoor", sum := "9260cd242115b49d080c50398316035d2783852bd91dc5c244d6d162c95d30d5", func := "querylab/querylablaw08.MeaningFits", spec := "meaningFits", inPlace := ["internal/bytealg.IndexByteString", "internal/bytealg.IndexString"], unfollowed := true, recurses := true, named := ["internal/bytealg.MaxLen", "querylab/expression.operations"], loops := true, apart := false, laid := [("querylab/expression.operations", laid_querylab_expression_operations)], narrowed := true }
def MeaningFitsUptoSaid : Prop := meaningFitsUptoRow.holds Tryd.pinned (OpenSpec.upto meaningFitsSpec)

/-- 'querylablaw08.MeaningAggregates', WHERE WHAT IT READS IS OF BULK AT MOST 1048576: true; the input reads as it did. -/
def meaningAggregatesUptoRow : OpenClaim := { program := "ytkccdfaelbepeaadoor", sum := "9260cd242115b49d080c50398316035d2783852bd91dc5c244d6d162c95d30d5", func := "querylab/querylablaw08.MeaningAggregates", spec := "meaningAggregates", unfollowed := true, recurses := true, named := ["querylab/expression.operations", "querylab/value.null"], loops := true, apart := false, laid := [("querylab/value.null", laid_querylab_value_null), ("querylab/expression.operations", laid_querylab_expression_operations)], narrowed := true }
def MeaningAggregatesUptoSaid : Prop := meaningAggregatesUptoRow.holds Tryd.pinned (OpenSpec.upto meaningAggregatesSpec)

end Rows
end Go.Proofs.YtkccdfaelbepeaaDoor
