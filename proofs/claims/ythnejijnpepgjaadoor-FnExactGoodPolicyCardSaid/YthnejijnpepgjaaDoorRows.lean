/-
  NARROWER THAN 'FOR EVERY INPUT', by the rows' own cells (each row's printed sentence says how): FnExactFitsKind: maps, laid · FnExactGoodPolSchema: maps, laid · FnExactGoodPolicy: laid.
  DERIVED. THE GIVEN ROWS OF THIS SEAT. 3 by the template 'for every input the law returns true; each argument reads behind the call as it read before'; 0 by the template 'total and deterministic' (their statements: YthnejijnpepgjaaDoorTotals.lean).
  GIVEN WITH THE SEED: the statements are not yours to turn. If you find one false, say at which input.
  Laid BY PROGRAM, IN A SANDBOX (cutbox-rows.mjs): the forced cells as the released guide's own fill.sh prints them over the translation f4734f117705b256… (all of the seat's roots in one cut). By AI agents, Wed Nov 11 2026. No macro, syntax, notation, axiom, sorry.
-/
import Derived.Test.YthnejijnpepgjaaDoorChecked
import GoSem.Claim
import GoSem.ClaimJoined
import GoSem.ClaimMapViews
import Derived.JoinedTies
import Derived.KernelRfl
namespace Go.Proofs.YthnejijnpepgjaaDoor
/- THE CELL 'sum', in the pinned program and in every row, IS THE sha256 OF THE DUMP (.gsa) THAT YthnejijnpepgjaaDoorProg.lean LOADS. Nothing in Lean hashes anything: it is a label: what it is worth is what the hold of that sum in a sandbox is worth. -/
noncomputable def Tryd.pinned : Pinned := { name := "ythnejijnpepgjaadoor", sum := "f4734f117705b2563b49a209f49b65464aaf470e01368d009c22e91b4e8124a9", checked := Tryd.checked }
namespace Rows
def none {H : Type} : Left H := { results := [], args := [] }

/- WHAT THE LISTED PACKAGE-LEVEL VARIABLES READ AS WHEN THE CALL BEGINS. Each datum BY PROGRAM (the guide's laid-datum.mjs) off the statement by which the dump's own 'gosem.cut.vars' lays the variable. In a bare row this is a premise. The card (YthnejijnpepgjaaDoorCards.lean) ties it to the program's text. -/
def laid_loop_example_g00036_impl_yplainKinds {H : Type} : DataW H := .map [(.string [97, 100, 100, 114], .lit (.int .i64 6)), (.string [98, 111, 111, 108], .lit (.int .i64 1)), (.string [100, 101, 99], .lit (.int .i64 5)), (.string [110, 117, 109], .lit (.int .i64 2)), (.string [116, 101, 120, 116], .lit (.int .i64 3)), (.string [116, 105, 109, 101], .lit (.int .i64 7))]
def laid_loop_example_g00036_impl_yvars {H : Type} : DataW H := .slice [.lit (.string [112, 114, 105, 110, 99, 105, 112, 97, 108]), .lit (.string [97, 99, 116, 105, 111, 110]), .lit (.string [114, 101, 115, 111, 117, 114, 99, 101]), .lit (.string [99, 111, 110, 116, 101, 120, 116])] []

/-- 'laws.FnExactFitsKind': WHATEVER THE INPUT: true; the input reads as it did. -/
def fnExactFitsKindSpec : ChangeSpec := { name := "fnExactFitsKind", vars := ["loop.example/g00036/impl.yplainKinds"], fn := fun _ => fun
  | [d1, d2, g1] => { results := [.lit (.bool true)], args := [d1, d2], vars := [g1] }
  | _ => none }
def fnExactFitsKindRow : OpenClaim := { program := "ythnejijnpepgjaadoor", sum := "f4734f117705b2563b49a209f49b65464aaf470e01368d009c22e91b4e8124a9", func := "loop.example/g00036/laws.FnExactFitsKind", spec := "fnExactFitsKind", unfollowed := true, recurses := true, named := ["loop.example/g00036/impl.yplainKinds"], maps := true, apart := false, laid := [("loop.example/g00036/impl.yplainKinds", laid_loop_example_g00036_impl_yplainKinds)] }
def FnExactFitsKindSaid : Prop := fnExactFitsKindRow.holds Tryd.pinned (OpenSpec.ofChange fnExactFitsKindSpec)

/-- ITS FALSE NEIGHBOUR: 'it returns false'. Refute it at one input. -/
def fnExactFitsKindWrong : ChangeSpec := { name := "fnExactFitsKind", vars := ["loop.example/g00036/impl.yplainKinds"], fn := fun _ => fun
  | [d1, d2, g1] => { results := [.lit (.bool false)], args := [d1, d2], vars := [g1] }
  | _ => none }
def FnExactFitsKindWrongFalsely : Prop := fnExactFitsKindRow.holds Tryd.pinned (OpenSpec.ofChange fnExactFitsKindWrong)

/-- 'laws.FnExactGoodPolSchema': WHATEVER THE INPUT: true; the input reads as it did. -/
def fnExactGoodPolSchemaSpec : ChangeSpec := { name := "fnExactGoodPolSchema", vars := ["loop.example/g00036/impl.yplainKinds"], fn := fun _ => fun
  | [d, g1] => { results := [.lit (.bool true)], args := [d], vars := [g1] }
  | _ => none }
def fnExactGoodPolSchemaRow : OpenClaim := { program := "ythnejijnpepgjaadoor", sum := "f4734f117705b2563b49a209f49b65464aaf470e01368d009c22e91b4e8124a9", func := "loop.example/g00036/laws.FnExactGoodPolSchema", spec := "fnExactGoodPolSchema", unfollowed := true, recurses := true, named := ["loop.example/g00036/impl.yplainKinds"], maps := true, apart := false, laid := [("loop.example/g00036/impl.yplainKinds", laid_loop_example_g00036_impl_yplainKinds)] }
def FnExactGoodPolSchemaSaid : Prop := fnExactGoodPolSchemaRow.holds Tryd.pinned (OpenSpec.ofChange fnExactGoodPolSchemaSpec)

/-- ITS FALSE NEIGHBOUR: 'it returns false'. Refute it at one input. -/
def fnExactGoodPolSchemaWrong : ChangeSpec := { name := "fnExactGoodPolSchema", vars := ["loop.example/g00036/impl.yplainKinds"], fn := fun _ => fun
  | [d, g1] => { results := [.lit (.bool false)], args := [d], vars := [g1] }
  | _ => none }
def FnExactGoodPolSchemaWrongFalsely : Prop := fnExactGoodPolSchemaRow.holds Tryd.pinned (OpenSpec.ofChange fnExactGoodPolSchemaWrong)

/-- 'laws.FnExactGoodPolicy': WHATEVER THE INPUT: true; the input reads as it did. -/
def fnExactGoodPolicySpec : ChangeSpec := { name := "fnExactGoodPolicy", vars := ["loop.example/g00036/impl.yvars"], fn := fun _ => fun
  | [d, g1] => { results := [.lit (.bool true)], args := [d], vars := [g1] }
  | _ => none }
def fnExactGoodPolicyRow : OpenClaim := { program := "ythnejijnpepgjaadoor", sum := "f4734f117705b2563b49a209f49b65464aaf470e01368d009c22e91b4e8124a9", func := "loop.example/g00036/laws.FnExactGoodPolicy", spec := "fnExactGoodPolicy", unfollowed := true, recurses := true, named := ["loop.example/g00036/impl.yvars"], apart := false, laid := [("loop.example/g00036/impl.yvars", laid_loop_example_g00036_impl_yvars)] }
def FnExactGoodPolicySaid : Prop := fnExactGoodPolicyRow.holds Tryd.pinned (OpenSpec.ofChange fnExactGoodPolicySpec)

/-- ITS FALSE NEIGHBOUR: 'it returns false'. Refute it at one input. -/
def fnExactGoodPolicyWrong : ChangeSpec := { name := "fnExactGoodPolicy", vars := ["loop.example/g00036/impl.yvars"], fn := fun _ => fun
  | [d, g1] => { results := [.lit (.bool false)], args := [d], vars := [g1] }
  | _ => none }
def FnExactGoodPolicyWrongFalsely : Prop := fnExactGoodPolicyRow.holds Tryd.pinned (OpenSpec.ofChange fnExactGoodPolicyWrong)

/- THE SECOND FORM. 'bulk': how many values and letters a reading holds, each counted each time it is reached (what is shared counts as often as it is met; a slice's spare places count too). A statement '..UptoSaid' is the law's where the arguments, and the package variables that the reading takes, are together of bulk at most 1048576: NARROWER than '..Said'. Prove '..Said' where nothing that the law and all that it calls make is longer than what came in: it says more and counts as full. Else prove '..UptoSaid'. A law counts once. -/
mutual
def uptoBulk {H : Type} : DataW H → Nat
  | .lit (.string bytes) => bytes.length + 1
  | .lit _ => 1
  | .nil => 1
  | .ptr d => uptoBulk d + 1
  | .slice elems spare => uptoBulkAll elems + uptoBulkAll spare + 1
  | .agg parts => uptoBulkAll parts + 1
  | .iface _ d => uptoBulk d + 1
  | .map entries => uptoBulkEntries entries + 1
  | .held _ => 1
def uptoBulkAll {H : Type} : List (DataW H) → Nat
  | [] => 0
  | d :: r => uptoBulk d + uptoBulkAll r
def uptoBulkEntries {H : Type} : List (Lit × DataW H) → Nat
  | [] => 0
  | x :: r => uptoBulkEntry x + uptoBulkEntries r
def uptoBulkEntry {H : Type} : Lit × DataW H → Nat
  | (.string bytes, d) => bytes.length + uptoBulk d + 1
  | (_, d) => uptoBulk d + 1
 end
def uptoSmall : (H : Type) → List (DataW H) → Bool := fun _ ds => decide (uptoBulkAll ds ≤ 1048576)
def OpenSpec.upto (s : _root_.Go.ChangeSpec) : _root_.Go.OpenSpec := { _root_.Go.OpenSpec.ofChange s with cond := some uptoSmall }

/-- 'laws.FnExactFitsKind', WHERE WHAT IT READS IS OF BULK AT MOST 1048576: true; the input reads as it did. -/
def fnExactFitsKindUptoRow : OpenClaim := { program := "ythnejijnpepgjaadoor", sum := "f4734f117705b2563b49a209f49b65464aaf470e01368d009c22e91b4e8124a9", func := "loop.example/g00036/laws.FnExactFitsKind", spec := "fnExactFitsKind", unfollowed := true, recurses := true, named := ["loop.example/g00036/impl.yplainKinds"], maps := true, apart := false, laid := [("loop.example/g00036/impl.yplainKinds", laid_loop_example_g00036_impl_yplainKinds)], narrowed := true }
def FnExactFitsKindUptoSaid : Prop := fnExactFitsKindUptoRow.holds Tryd.pinned (OpenSpec.upto fnExactFitsKindSpec)

/-- 'laws.FnExactGoodPolSchema', WHERE WHAT IT READS IS OF BULK AT MOST 1048576: true; the input reads as it did. -/
def fnExactGoodPolSchemaUptoRow : OpenClaim := { program := "ythnejijnpepgjaadoor", sum := "f4734f117705b2563b49a209f49b65464aaf470e01368d009c22e91b4e8124a9", func := "loop.example/g00036/laws.FnExactGoodPolSchema", spec := "fnExactGoodPolSchema", unfollowed := true, recurses := true, named := ["loop.example/g00036/impl.yplainKinds"], maps := true, apart := false, laid := [("loop.example/g00036/impl.yplainKinds", laid_loop_example_g00036_impl_yplainKinds)], narrowed := true }
def FnExactGoodPolSchemaUptoSaid : Prop := fnExactGoodPolSchemaUptoRow.holds Tryd.pinned (OpenSpec.upto fnExactGoodPolSchemaSpec)

/-- 'laws.FnExactGoodPolicy', WHERE WHAT IT READS IS OF BULK AT MOST 1048576: true; the input reads as it did. -/
def fnExactGoodPolicyUptoRow : OpenClaim := { program := "ythnejijnpepgjaadoor", sum := "f4734f117705b2563b49a209f49b65464aaf470e01368d009c22e91b4e8124a9", func := "loop.example/g00036/laws.FnExactGoodPolicy", spec := "fnExactGoodPolicy", unfollowed := true, recurses := true, named := ["loop.example/g00036/impl.yvars"], apart := false, laid := [("loop.example/g00036/impl.yvars", laid_loop_example_g00036_impl_yvars)], narrowed := true }
def FnExactGoodPolicyUptoSaid : Prop := fnExactGoodPolicyUptoRow.holds Tryd.pinned (OpenSpec.upto fnExactGoodPolicySpec)

end Rows
end Go.Proofs.YthnejijnpepgjaaDoor
