/-
  NARROWER THAN 'FOR EVERY INPUT', by the rows' own cells (each row's printed sentence says how): MeaningEvaluates: laid · MeaningRaw: loops, laid · MeaningOrder: laid · MeaningPartitions: laid · MeaningJoins: laid · MeaningGroups: laid.
  DERIVED. THE GIVEN ROWS OF THIS SEAT. 6 by the template 'for every input the law returns true; each argument reads behind the call as it read before'; 0 by the template 'total and deterministic' (their statements: YtnmibokjpedkiaaGreatDoorTotals.lean).
  GIVEN WITH THE SEED: the statements are not yours to turn. If you find one false, say at which input.
  Laid BY PROGRAM, IN A SANDBOX (cutbox-rows.mjs): the forced cells as the released guide's own fill.sh prints them over the translation 7668fd9519ee2e1d… (all of the seat's roots in one cut). By AI agents, Wed Nov 11 2026. No macro, syntax, notation, axiom, sorry.
-/
import Derived.Test.YtnmibokjpedkiaaGreatDoorChecked
import GoSem.Claim
import GoSem.ClaimJoined
import GoSem.ClaimMapViews
import Derived.JoinedTies
import Derived.KernelRfl
namespace Go.Proofs.YtnmibokjpedkiaaGreatDoor
/- THE CELL 'sum', in the pinned program and in every row, IS THE sha256 OF THE DUMP (.gsa) THAT YtnmibokjpedkiaaGreatDoorProg.lean LOADS. Nothing in Lean hashes anything: it is a label: what it is worth is what the hold of that sum in a sandbox is worth. -/
noncomputable def Tryz.pinned : Pinned := { name := "ytnmibokjpedkiaagreatdoor", sum := "7668fd9519ee2e1d95030baad6f46d1fca30bbffb6c1a7653b551b61608bffff", checked := Tryz.checked }
namespace Rows
def none {H : Type} : Left H := { results := [], args := [] }

/- WHAT THE LISTED PACKAGE-LEVEL VARIABLES READ AS WHEN THE CALL BEGINS. Each datum BY PROGRAM (the guide's laid-datum.mjs) off the statement by which the dump's own 'gosem.cut.vars' lays the variable. In a bare row this is a premise. The card (YtnmibokjpedkiaaGreatDoorCards.lean) ties it to the program's text. -/
def laid_querylab_value_null {H : Type} : DataW H := .agg [.lit (.int .i64 0), .lit (.int .i64 0), .lit (.string [])]
def laid_querylab_expression_operations {H : Type} : DataW H := .agg [.agg [.lit (.string []), .lit (.int .i64 0), .lit (.int .i64 0), .lit (.int .i64 0)], .agg [.lit (.string [110, 117, 108, 108]), .lit (.int .i64 0), .lit (.int .i64 0), .lit (.int .i64 0)], .agg [.lit (.string [105, 110, 116]), .lit (.int .i64 0), .lit (.int .i64 0), .lit (.int .i64 1)], .agg [.lit (.string [98, 111, 111, 108]), .lit (.int .i64 0), .lit (.int .i64 0), .lit (.int .i64 2)], .agg [.lit (.string [116, 101, 120, 116]), .lit (.int .i64 0), .lit (.int .i64 0), .lit (.int .i64 3)], .agg [.lit (.string [99, 111, 108, 117, 109, 110]), .lit (.int .i64 0), .lit (.int .i64 0), .lit (.int .i64 0)], .agg [.lit (.string [97, 100, 100]), .lit (.int .i64 2), .lit (.int .i64 1), .lit (.int .i64 1)], .agg [.lit (.string [115, 117, 98]), .lit (.int .i64 2), .lit (.int .i64 1), .lit (.int .i64 1)], .agg [.lit (.string [109, 117, 108]), .lit (.int .i64 2), .lit (.int .i64 1), .lit (.int .i64 1)], .agg [.lit (.string [100, 105, 118]), .lit (.int .i64 2), .lit (.int .i64 1), .lit (.int .i64 1)], .agg [.lit (.string [109, 111, 100]), .lit (.int .i64 2), .lit (.int .i64 1), .lit (.int .i64 1)], .agg [.lit (.string [110, 101, 103]), .lit (.int .i64 1), .lit (.int .i64 1), .lit (.int .i64 1)], .agg [.lit (.string [99, 111, 110, 99, 97, 116]), .lit (.int .i64 2), .lit (.int .i64 2), .lit (.int .i64 3)], .agg [.lit (.string [108, 101, 110, 103, 116, 104]), .lit (.int .i64 1), .lit (.int .i64 2), .lit (.int .i64 1)], .agg [.lit (.string [101, 113]), .lit (.int .i64 2), .lit (.int .i64 4), .lit (.int .i64 2)], .agg [.lit (.string [110, 101]), .lit (.int .i64 2), .lit (.int .i64 4), .lit (.int .i64 2)], .agg [.lit (.string [108, 116]), .lit (.int .i64 2), .lit (.int .i64 4), .lit (.int .i64 2)], .agg [.lit (.string [108, 101]), .lit (.int .i64 2), .lit (.int .i64 4), .lit (.int .i64 2)], .agg [.lit (.string [103, 116]), .lit (.int .i64 2), .lit (.int .i64 4), .lit (.int .i64 2)], .agg [.lit (.string [103, 101]), .lit (.int .i64 2), .lit (.int .i64 4), .lit (.int .i64 2)], .agg [.lit (.string [115, 97, 109, 101]), .lit (.int .i64 2), .lit (.int .i64 4), .lit (.int .i64 2)], .agg [.lit (.string [105, 115, 110, 117, 108, 108]), .lit (.int .i64 1), .lit (.int .i64 5), .lit (.int .i64 2)], .agg [.lit (.string [97, 110, 100]), .lit (.int .i64 2), .lit (.int .i64 3), .lit (.int .i64 2)], .agg [.lit (.string [111, 114]), .lit (.int .i64 2), .lit (.int .i64 3), .lit (.int .i64 2)], .agg [.lit (.string [110, 111, 116]), .lit (.int .i64 1), .lit (.int .i64 3), .lit (.int .i64 2)], .agg [.lit (.string [105, 115, 116, 114, 117, 101]), .lit (.int .i64 1), .lit (.int .i64 3), .lit (.int .i64 2)], .agg [.lit (.string [99, 97, 115, 101]), .lit (.int .i64 3), .lit (.int .i64 6), .lit (.int .i64 0)], .agg [.lit (.string [99, 111, 97, 108, 101, 115, 99, 101]), .lit (.int .i64 2), .lit (.int .i64 4), .lit (.int .i64 0)], .agg [.lit (.string [105, 110]), .lit (.int .i64 2), .lit (.int .i64 4), .lit (.int .i64 2)]]
def laid_querylab_algebra_forms {H : Type} : DataW H := .agg [.agg [.lit (.string []), .lit (.int .i64 0), .lit (.string [])], .agg [.lit (.string [115, 99, 97, 110]), .lit (.int .i64 0), .lit (.string [116, 97, 98, 108, 101])], .agg [.lit (.string [118, 97, 108, 117, 101, 115]), .lit (.int .i64 0), .lit (.string [116, 121, 112, 101, 115, 32, 114, 111, 119, 115])], .agg [.lit (.string [115, 101, 108, 101, 99, 116]), .lit (.int .i64 1), .lit (.string [99, 111, 110, 100])], .agg [.lit (.string [112, 114, 111, 106, 101, 99, 116]), .lit (.int .i64 1), .lit (.string [101, 120, 112, 114, 115])], .agg [.lit (.string [106, 111, 105, 110]), .lit (.int .i64 2), .lit (.string [107, 105, 110, 100, 32, 99, 111, 110, 100])], .agg [.lit (.string [117, 110, 105, 111, 110]), .lit (.int .i64 2), .lit (.string [97, 108, 108])], .agg [.lit (.string [101, 120, 99, 101, 112, 116]), .lit (.int .i64 2), .lit (.string [97, 108, 108])], .agg [.lit (.string [105, 110, 116, 101, 114, 115, 101, 99, 116]), .lit (.int .i64 2), .lit (.string [97, 108, 108])], .agg [.lit (.string [100, 105, 115, 116, 105, 110, 99, 116]), .lit (.int .i64 1), .lit (.string [])], .agg [.lit (.string [103, 114, 111, 117, 112]), .lit (.int .i64 1), .lit (.string [101, 120, 112, 114, 115, 32, 97, 103, 103, 115])]]

/-- 'querylablaw08.MeaningEvaluates': WHATEVER THE INPUT: true; the input reads as it did. -/
def meaningEvaluatesSpec : ChangeSpec := { name := "meaningEvaluates", fn := fun _ => fun
  | [d] => { results := [.lit (.bool true)], args := [d] }
  | _ => none }
def meaningEvaluatesRow : OpenClaim := { program := "ytnmibokjpedkiaagreatdoor", sum := "7668fd9519ee2e1d95030baad6f46d1fca30bbffb6c1a7653b551b61608bffff", func := "querylab/querylablaw08.MeaningEvaluates", spec := "meaningEvaluates", inPlace := ["internal/bytealg.IndexByteString", "internal/bytealg.IndexString"], unfollowed := true, recurses := true, named := ["internal/bytealg.MaxLen", "querylab/expression.operations", "querylab/algebra.forms", "querylab/value.null"], apart := false, laid := [("querylab/value.null", laid_querylab_value_null), ("querylab/expression.operations", laid_querylab_expression_operations), ("querylab/algebra.forms", laid_querylab_algebra_forms)] }
def MeaningEvaluatesSaid : Prop := meaningEvaluatesRow.holds Tryz.pinned (OpenSpec.ofChange meaningEvaluatesSpec)

/-- ITS FALSE NEIGHBOUR: 'it returns false'. Refute it at one input. -/
def meaningEvaluatesWrong : ChangeSpec := { name := "meaningEvaluates", fn := fun _ => fun
  | [d] => { results := [.lit (.bool false)], args := [d] }
  | _ => none }
def MeaningEvaluatesWrongFalsely : Prop := meaningEvaluatesRow.holds Tryz.pinned (OpenSpec.ofChange meaningEvaluatesWrong)

/-- 'querylablaw08.MeaningRaw': WHATEVER THE INPUT: true; the input reads as it did. -/
def meaningRawSpec : ChangeSpec := { name := "meaningRaw", fn := fun _ => fun
  | [d1, d2, d3] => { results := [.lit (.bool true)], args := [d1, d2, d3] }
  | _ => none }
def meaningRawRow : OpenClaim := { program := "ytnmibokjpedkiaagreatdoor", sum := "7668fd9519ee2e1d95030baad6f46d1fca30bbffb6c1a7653b551b61608bffff", func := "querylab/querylablaw08.MeaningRaw", spec := "meaningRaw", inPlace := ["internal/bytealg.IndexByteString", "internal/bytealg.IndexString"], unfollowed := true, recurses := true, named := ["internal/bytealg.MaxLen", "querylab/expression.operations", "querylab/algebra.forms", "querylab/value.null"], loops := true, apart := false, laid := [("querylab/value.null", laid_querylab_value_null), ("querylab/expression.operations", laid_querylab_expression_operations), ("querylab/algebra.forms", laid_querylab_algebra_forms)] }
def MeaningRawSaid : Prop := meaningRawRow.holds Tryz.pinned (OpenSpec.ofChange meaningRawSpec)

/-- ITS FALSE NEIGHBOUR: 'it returns false'. Refute it at one input. -/
def meaningRawWrong : ChangeSpec := { name := "meaningRaw", fn := fun _ => fun
  | [d1, d2, d3] => { results := [.lit (.bool false)], args := [d1, d2, d3] }
  | _ => none }
def MeaningRawWrongFalsely : Prop := meaningRawRow.holds Tryz.pinned (OpenSpec.ofChange meaningRawWrong)

/-- 'querylablaw08.MeaningOrder': WHATEVER THE INPUT: true; the input reads as it did. -/
def meaningOrderSpec : ChangeSpec := { name := "meaningOrder", fn := fun _ => fun
  | [d] => { results := [.lit (.bool true)], args := [d] }
  | _ => none }
def meaningOrderRow : OpenClaim := { program := "ytnmibokjpedkiaagreatdoor", sum := "7668fd9519ee2e1d95030baad6f46d1fca30bbffb6c1a7653b551b61608bffff", func := "querylab/querylablaw08.MeaningOrder", spec := "meaningOrder", inPlace := ["internal/bytealg.IndexByteString", "internal/bytealg.IndexString"], unfollowed := true, recurses := true, named := ["internal/bytealg.MaxLen", "querylab/expression.operations", "querylab/algebra.forms", "querylab/value.null"], apart := false, laid := [("querylab/value.null", laid_querylab_value_null), ("querylab/expression.operations", laid_querylab_expression_operations), ("querylab/algebra.forms", laid_querylab_algebra_forms)] }
def MeaningOrderSaid : Prop := meaningOrderRow.holds Tryz.pinned (OpenSpec.ofChange meaningOrderSpec)

/-- ITS FALSE NEIGHBOUR: 'it returns false'. Refute it at one input. -/
def meaningOrderWrong : ChangeSpec := { name := "meaningOrder", fn := fun _ => fun
  | [d] => { results := [.lit (.bool false)], args := [d] }
  | _ => none }
def MeaningOrderWrongFalsely : Prop := meaningOrderRow.holds Tryz.pinned (OpenSpec.ofChange meaningOrderWrong)

/-- 'querylablaw08.MeaningPartitions': WHATEVER THE INPUT: true; the input reads as it did. -/
def meaningPartitionsSpec : ChangeSpec := { name := "meaningPartitions", fn := fun _ => fun
  | [d] => { results := [.lit (.bool true)], args := [d] }
  | _ => none }
def meaningPartitionsRow : OpenClaim := { program := "ytnmibokjpedkiaagreatdoor", sum := "7668fd9519ee2e1d95030baad6f46d1fca30bbffb6c1a7653b551b61608bffff", func := "querylab/querylablaw08.MeaningPartitions", spec := "meaningPartitions", inPlace := ["internal/bytealg.IndexByteString", "internal/bytealg.IndexString"], unfollowed := true, recurses := true, named := ["internal/bytealg.MaxLen", "querylab/expression.operations", "querylab/algebra.forms", "querylab/value.null"], apart := false, laid := [("querylab/value.null", laid_querylab_value_null), ("querylab/expression.operations", laid_querylab_expression_operations), ("querylab/algebra.forms", laid_querylab_algebra_forms)] }
def MeaningPartitionsSaid : Prop := meaningPartitionsRow.holds Tryz.pinned (OpenSpec.ofChange meaningPartitionsSpec)

/-- ITS FALSE NEIGHBOUR: 'it returns false'. Refute it at one input. -/
def meaningPartitionsWrong : ChangeSpec := { name := "meaningPartitions", fn := fun _ => fun
  | [d] => { results := [.lit (.bool false)], args := [d] }
  | _ => none }
def MeaningPartitionsWrongFalsely : Prop := meaningPartitionsRow.holds Tryz.pinned (OpenSpec.ofChange meaningPartitionsWrong)

/-- 'querylablaw08.MeaningJoins': WHATEVER THE INPUT: true; the input reads as it did. -/
def meaningJoinsSpec : ChangeSpec := { name := "meaningJoins", fn := fun _ => fun
  | [d] => { results := [.lit (.bool true)], args := [d] }
  | _ => none }
def meaningJoinsRow : OpenClaim := { program := "ytnmibokjpedkiaagreatdoor", sum := "7668fd9519ee2e1d95030baad6f46d1fca30bbffb6c1a7653b551b61608bffff", func := "querylab/querylablaw08.MeaningJoins", spec := "meaningJoins", inPlace := ["internal/bytealg.IndexByteString", "internal/bytealg.IndexString"], unfollowed := true, recurses := true, named := ["internal/bytealg.MaxLen", "querylab/expression.operations", "querylab/algebra.forms", "querylab/value.null"], apart := false, laid := [("querylab/value.null", laid_querylab_value_null), ("querylab/expression.operations", laid_querylab_expression_operations), ("querylab/algebra.forms", laid_querylab_algebra_forms)] }
def MeaningJoinsSaid : Prop := meaningJoinsRow.holds Tryz.pinned (OpenSpec.ofChange meaningJoinsSpec)

/-- ITS FALSE NEIGHBOUR: 'it returns false'. Refute it at one input. -/
def meaningJoinsWrong : ChangeSpec := { name := "meaningJoins", fn := fun _ => fun
  | [d] => { results := [.lit (.bool false)], args := [d] }
  | _ => none }
def MeaningJoinsWrongFalsely : Prop := meaningJoinsRow.holds Tryz.pinned (OpenSpec.ofChange meaningJoinsWrong)

/-- 'querylablaw08.MeaningGroups': WHATEVER THE INPUT: true; the input reads as it did. -/
def meaningGroupsSpec : ChangeSpec := { name := "meaningGroups", fn := fun _ => fun
  | [d] => { results := [.lit (.bool true)], args := [d] }
  | _ => none }
def meaningGroupsRow : OpenClaim := { program := "ytnmibokjpedkiaagreatdoor", sum := "7668fd9519ee2e1d95030baad6f46d1fca30bbffb6c1a7653b551b61608bffff", func := "querylab/querylablaw08.MeaningGroups", spec := "meaningGroups", inPlace := ["internal/bytealg.IndexByteString", "internal/bytealg.IndexString"], unfollowed := true, recurses := true, named := ["internal/bytealg.MaxLen", "querylab/expression.operations", "querylab/algebra.forms", "querylab/value.null"], apart := false, laid := [("querylab/value.null", laid_querylab_value_null), ("querylab/expression.operations", laid_querylab_expression_operations), ("querylab/algebra.forms", laid_querylab_algebra_forms)] }
def MeaningGroupsSaid : Prop := meaningGroupsRow.holds Tryz.pinned (OpenSpec.ofChange meaningGroupsSpec)

/-- ITS FALSE NEIGHBOUR: 'it returns false'. Refute it at one input. -/
def meaningGroupsWrong : ChangeSpec := { name := "meaningGroups", fn := fun _ => fun
  | [d] => { results := [.lit (.bool false)], args := [d] }
  | _ => none }
def MeaningGroupsWrongFalsely : Prop := meaningGroupsRow.holds Tryz.pinned (OpenSpec.ofChange meaningGroupsWrong)

/- THE SECOND FORM. 'bulk': how many values and letters a reading holds, each counted each time it is reached (what is shared counts as often as it is met; a slice's spare places count too). A statement '..UptoSaid' is the law's where the arguments, and the package variables that the reading takes, are together of bulk at most 1048576: NARROWER than '..Said'. Prove '..Said' where nothing that the law and all that it calls make is longer than what came in: it says more and counts as full. Else prove '..UptoSaid'. A law counts once. -/
mutual
def uptoBulk {H : Type} : DataW H → Nat
  | .lit (.string bytes) => bytes.length + 1
  | .lit _ => 1
  | .nil => 1
  | .ptr d => uptoBulk d + 1
  | .slice elems spare => uptoBulkAll elems + uptoBulkAll spare + 1
  | .agg parts => uptoBulkAll parts + 1
  | .iface _ d => uptoBulk d + 1
  | .map entries => uptoBulkEntries entries + 1
  | .held _ => 1
def uptoBulkAll {H : Type} : List (DataW H) → Nat
  | [] => 0
  | d :: r => uptoBulk d + uptoBulkAll r
def uptoBulkEntries {H : Type} : List (Lit × DataW H) → Nat
  | [] => 0
  | x :: r => uptoBulkEntry x + uptoBulkEntries r
def uptoBulkEntry {H : Type} : Lit × DataW H → Nat
  | (.string bytes, d) => bytes.length + uptoBulk d + 1
  | (_, d) => uptoBulk d + 1
 end
def uptoSmall : (H : Type) → List (DataW H) → Bool := fun _ ds => decide (uptoBulkAll ds ≤ 1048576)
def OpenSpec.upto (s : _root_.Go.ChangeSpec) : _root_.Go.OpenSpec := { _root_.Go.OpenSpec.ofChange s with cond := some uptoSmall }

/-- 'querylablaw08.MeaningEvaluates', WHERE WHAT IT READS IS OF BULK AT MOST 1048576: true; the input reads as it did. -/
def meaningEvaluatesUptoRow : OpenClaim := { program := "ytnmibokjpedkiaagreatdoor", sum := "7668fd9519ee2e1d95030baad6f46d1fca30bbffb6c1a7653b551b61608bffff", func := "querylab/querylablaw08.MeaningEvaluates", spec := "meaningEvaluates", inPlace := ["internal/bytealg.IndexByteString", "internal/bytealg.IndexString"], unfollowed := true, recurses := true, named := ["internal/bytealg.MaxLen", "querylab/expression.operations", "querylab/algebra.forms", "querylab/value.null"], apart := false, laid := [("querylab/value.null", laid_querylab_value_null), ("querylab/expression.operations", laid_querylab_expression_operations), ("querylab/algebra.forms", laid_querylab_algebra_forms)], narrowed := true }
def MeaningEvaluatesUptoSaid : Prop := meaningEvaluatesUptoRow.holds Tryz.pinned (OpenSpec.upto meaningEvaluatesSpec)

/-- 'querylablaw08.MeaningRaw', WHERE WHAT IT READS IS OF BULK AT MOST 1048576: true; the input reads as it did. -/
def meaningRawUptoRow : OpenClaim := { program := "ytnmibokjpedkiaagreatdoor", sum := "7668fd9519ee2e1d95030baad6f46d1fca30bbffb6c1a7653b551b61608bffff", func := "querylab/querylablaw08.MeaningRaw", spec := "meaningRaw", inPlace := ["internal/bytealg.IndexByteString", "internal/bytealg.IndexString"], unfollowed := true, recurses := true, named := ["internal/bytealg.MaxLen", "querylab/expression.operations", "querylab/algebra.forms", "querylab/value.null"], loops := true, apart := false, laid := [("querylab/value.null", laid_querylab_value_null), ("querylab/expression.operations", laid_querylab_expression_operations), ("querylab/algebra.forms", laid_querylab_algebra_forms)], narrowed := true }
def MeaningRawUptoSaid : Prop := meaningRawUptoRow.holds Tryz.pinned (OpenSpec.upto meaningRawSpec)

/-- 'querylablaw08.MeaningOrder', WHERE WHAT IT READS IS OF BULK AT MOST 1048576: true; the input reads as it did. -/
def meaningOrderUptoRow : OpenClaim := { program := "ytnmibokjpedkiaagreatdoor", sum := "7668fd9519ee2e1d95030baad6f46d1fca30bbffb6c1a7653b551b61608bffff", func := "querylab/querylablaw08.MeaningOrder", spec := "meaningOrder", inPlace := ["internal/bytealg.IndexByteString", "internal/bytealg.IndexString"], unfollowed := true, recurses := true, named := ["internal/bytealg.MaxLen", "querylab/expression.operations", "querylab/algebra.forms", "querylab/value.null"], apart := false, laid := [("querylab/value.null", laid_querylab_value_null), ("querylab/expression.operations", laid_querylab_expression_operations), ("querylab/algebra.forms", laid_querylab_algebra_forms)], narrowed := true }
def MeaningOrderUptoSaid : Prop := meaningOrderUptoRow.holds Tryz.pinned (OpenSpec.upto meaningOrderSpec)

/-- 'querylablaw08.MeaningPartitions', WHERE WHAT IT READS IS OF BULK AT MOST 1048576: true; the input reads as it did. -/
def meaningPartitionsUptoRow : OpenClaim := { program := "ytnmibokjpedkiaagreatdoor", sum := "7668fd9519ee2e1d95030baad6f46d1fca30bbffb6c1a7653b551b61608bffff", func := "querylab/querylablaw08.MeaningPartitions", spec := "meaningPartitions", inPlace := ["internal/bytealg.IndexByteString", "internal/bytealg.IndexString"], unfollowed := true, recurses := true, named := ["internal/bytealg.MaxLen", "querylab/expression.operations", "querylab/algebra.forms", "querylab/value.null"], apart := false, laid := [("querylab/value.null", laid_querylab_value_null), ("querylab/expression.operations", laid_querylab_expression_operations), ("querylab/algebra.forms", laid_querylab_algebra_forms)], narrowed := true }
def MeaningPartitionsUptoSaid : Prop := meaningPartitionsUptoRow.holds Tryz.pinned (OpenSpec.upto meaningPartitionsSpec)

/-- 'querylablaw08.MeaningJoins', WHERE WHAT IT READS IS OF BULK AT MOST 1048576: true; the input reads as it did. -/
def meaningJoinsUptoRow : OpenClaim := { program := "ytnmibokjpedkiaagreatdoor", sum := "7668fd9519ee2e1d95030baad6f46d1fca30bbffb6c1a7653b551b61608bffff", func := "querylab/querylablaw08.MeaningJoins", spec := "meaningJoins", inPlace := ["internal/bytealg.IndexByteString", "internal/bytealg.IndexString"], unfollowed := true, recurses := true, named := ["internal/bytealg.MaxLen", "querylab/expression.operations", "querylab/algebra.forms", "querylab/value.null"], apart := false, laid := [("querylab/value.null", laid_querylab_value_null), ("querylab/expression.operations", laid_querylab_expression_operations), ("querylab/algebra.forms", laid_querylab_algebra_forms)], narrowed := true }
def MeaningJoinsUptoSaid : Prop := meaningJoinsUptoRow.holds Tryz.pinned (OpenSpec.upto meaningJoinsSpec)

/-- 'querylablaw08.MeaningGroups', WHERE WHAT IT READS IS OF BULK AT MOST 1048576: true; the input reads as it did. -/
def meaningGroupsUptoRow : OpenClaim := { program := "ytnmibokjpedkiaagreatdoor", sum := "7668fd9519ee2e1d95030baad6f46d1fca30bbffb6c1a7653b551b61608bffff", func := "querylab/querylablaw08.MeaningGroups", spec := "meaningGroups", inPlace := ["internal/bytealg.IndexByteString", "internal/bytealg.IndexString"], unfollowed := true, recurses := true, named := ["internal/bytealg.MaxLen", "querylab/expression.operations", "querylab/algebra.forms", "querylab/value.null"], apart := false, laid := [("querylab/value.null", laid_querylab_value_null), ("querylab/expression.operations", laid_querylab_expression_operations), ("querylab/algebra.forms", laid_querylab_algebra_forms)], narrowed := true }
def MeaningGroupsUptoSaid : Prop := meaningGroupsUptoRow.holds Tryz.pinned (OpenSpec.upto meaningGroupsSpec)

end Rows
end Go.Proofs.YtnmibokjpedkiaaGreatDoor
