/-
  NARROWER THAN 'FOR EVERY INPUT', by the rows' own cells (each row's printed sentence says how): FnExactSliceThings: laid · FnExactSlicePolicies: laid.
  DERIVED. THE GIVEN ROWS OF THIS SEAT. 2 by the template 'for every input the law returns true; each argument reads behind the call as it read before'; 0 by the template 'total and deterministic' (their statements: YtgmdnickgijkoaaGreatDoorTotals.lean).
  GIVEN WITH THE SEED: the statements are not yours to turn. If you find one false, say at which input.
  Laid BY PROGRAM, IN A SANDBOX (cutbox-rows.mjs): the forced cells as the released guide's own fill.sh prints them over the translation d1ec2cc1425a974c… (all of the seat's roots in one cut). By AI agents, Wed Nov 11 2026. No macro, syntax, notation, axiom, sorry.
-/
import Derived.Test.YtgmdnickgijkoaaGreatDoorChecked
import GoSem.Claim
import GoSem.ClaimJoined
import GoSem.ClaimMapViews
import Derived.JoinedTies
import Derived.KernelRfl
namespace Go.Proofs.YtgmdnickgijkoaaGreatDoor
/- THE CELL 'sum', in the pinned program and in every row, IS THE sha256 OF THE DUMP (.gsa) THAT YtgmdnickgijkoaaGreatDoorProg.lean LOADS. Nothing in Lean hashes anything: it is a label: what it is worth is what the hold of that sum in a sandbox is worth. -/
noncomputable def Tryz.pinned : Pinned := { name := "ytgmdnickgijkoaagreatdoor", sum := "d1ec2cc1425a974c00a0ff360bc8a11897ec8ae4439cc6fe0074e42d24c33fba", checked := Tryz.checked }
namespace Rows
def none {H : Type} : Left H := { results := [], args := [] }

/- WHAT THE LISTED PACKAGE-LEVEL VARIABLES READ AS WHEN THE CALL BEGINS. Each datum BY PROGRAM (the guide's laid-datum.mjs) off the statement by which the dump's own 'gosem.cut.vars' lays the variable. In a bare row this is a premise. The card (YtgmdnickgijkoaaGreatDoorCards.lean) ties it to the program's text. -/
def laid_loop_example_g00036_impl_yvars {H : Type} : DataW H := .slice [.lit (.string [112, 114, 105, 110, 99, 105, 112, 97, 108]), .lit (.string [97, 99, 116, 105, 111, 110]), .lit (.string [114, 101, 115, 111, 117, 114, 99, 101]), .lit (.string [99, 111, 110, 116, 101, 120, 116])] []

/-- 'laws.FnExactSliceThings': WHATEVER THE INPUT: true; the input reads as it did. -/
def fnExactSliceThingsSpec : ChangeSpec := { name := "fnExactSliceThings", vars := ["loop.example/g00036/impl.yvars"], fn := fun _ => fun
  | [d1, d2, d3, g1] => { results := [.lit (.bool true)], args := [d1, d2, d3], vars := [g1] }
  | _ => none }
def fnExactSliceThingsRow : OpenClaim := { program := "ytgmdnickgijkoaagreatdoor", sum := "d1ec2cc1425a974c00a0ff360bc8a11897ec8ae4439cc6fe0074e42d24c33fba", func := "loop.example/g00036/laws.FnExactSliceThings", spec := "fnExactSliceThings", unfollowed := true, recurses := true, named := ["loop.example/g00036/impl.yvars"], plainKeys := false, apart := false, laid := [("loop.example/g00036/impl.yvars", laid_loop_example_g00036_impl_yvars)] }
def FnExactSliceThingsSaid : Prop := fnExactSliceThingsRow.holds Tryz.pinned (OpenSpec.ofChange fnExactSliceThingsSpec)

/-- ITS FALSE NEIGHBOUR: 'it returns false'. Refute it at one input. -/
def fnExactSliceThingsWrong : ChangeSpec := { name := "fnExactSliceThings", vars := ["loop.example/g00036/impl.yvars"], fn := fun _ => fun
  | [d1, d2, d3, g1] => { results := [.lit (.bool false)], args := [d1, d2, d3], vars := [g1] }
  | _ => none }
def FnExactSliceThingsWrongFalsely : Prop := fnExactSliceThingsRow.holds Tryz.pinned (OpenSpec.ofChange fnExactSliceThingsWrong)

/-- 'laws.FnExactSlicePolicies': WHATEVER THE INPUT: true; the input reads as it did. -/
def fnExactSlicePoliciesSpec : ChangeSpec := { name := "fnExactSlicePolicies", vars := ["loop.example/g00036/impl.yvars"], fn := fun _ => fun
  | [d1, d2, d3, g1] => { results := [.lit (.bool true)], args := [d1, d2, d3], vars := [g1] }
  | _ => none }
def fnExactSlicePoliciesRow : OpenClaim := { program := "ytgmdnickgijkoaagreatdoor", sum := "d1ec2cc1425a974c00a0ff360bc8a11897ec8ae4439cc6fe0074e42d24c33fba", func := "loop.example/g00036/laws.FnExactSlicePolicies", spec := "fnExactSlicePolicies", unfollowed := true, recurses := true, named := ["loop.example/g00036/impl.yvars"], plainKeys := false, apart := false, laid := [("loop.example/g00036/impl.yvars", laid_loop_example_g00036_impl_yvars)] }
def FnExactSlicePoliciesSaid : Prop := fnExactSlicePoliciesRow.holds Tryz.pinned (OpenSpec.ofChange fnExactSlicePoliciesSpec)

/-- ITS FALSE NEIGHBOUR: 'it returns false'. Refute it at one input. -/
def fnExactSlicePoliciesWrong : ChangeSpec := { name := "fnExactSlicePolicies", vars := ["loop.example/g00036/impl.yvars"], fn := fun _ => fun
  | [d1, d2, d3, g1] => { results := [.lit (.bool false)], args := [d1, d2, d3], vars := [g1] }
  | _ => none }
def FnExactSlicePoliciesWrongFalsely : Prop := fnExactSlicePoliciesRow.holds Tryz.pinned (OpenSpec.ofChange fnExactSlicePoliciesWrong)

/- THE SECOND FORM. 'bulk': how many values and letters a reading holds, each counted each time it is reached (what is shared counts as often as it is met; a slice's spare places count too). A statement '..UptoSaid' is the law's where the arguments, and the package variables that the reading takes, are together of bulk at most 1048576: NARROWER than '..Said'. Prove '..Said' where nothing that the law and all that it calls make is longer than what came in: it says more and counts as full. Else prove '..UptoSaid'. A law counts once. -/
mutual
def uptoBulk {H : Type} : DataW H → Nat
  | .lit (.string bytes) => bytes.length + 1
  | .lit _ => 1
  | .nil => 1
  | .ptr d => uptoBulk d + 1
  | .slice elems spare => uptoBulkAll elems + uptoBulkAll spare + 1
  | .agg parts => uptoBulkAll parts + 1
  | .iface _ d => uptoBulk d + 1
  | .map entries => uptoBulkEntries entries + 1
  | .held _ => 1
def uptoBulkAll {H : Type} : List (DataW H) → Nat
  | [] => 0
  | d :: r => uptoBulk d + uptoBulkAll r
def uptoBulkEntries {H : Type} : List (Lit × DataW H) → Nat
  | [] => 0
  | x :: r => uptoBulkEntry x + uptoBulkEntries r
def uptoBulkEntry {H : Type} : Lit × DataW H → Nat
  | (.string bytes, d) => bytes.length + uptoBulk d + 1
  | (_, d) => uptoBulk d + 1
 end
def uptoSmall : (H : Type) → List (DataW H) → Bool := fun _ ds => decide (uptoBulkAll ds ≤ 1048576)
def OpenSpec.upto (s : _root_.Go.ChangeSpec) : _root_.Go.OpenSpec := { _root_.Go.OpenSpec.ofChange s with cond := some uptoSmall }

/-- 'laws.FnExactSliceThings', WHERE WHAT IT READS IS OF BULK AT MOST 1048576: true; the input reads as it did. -/
def fnExactSliceThingsUptoRow : OpenClaim := { program := "ytgmdnickgijkoaagreatdoor", sum := "d1ec2cc1425a974c00a0ff360bc8a11897ec8ae4439cc6fe0074e42d24c33fba", func := "loop.example/g00036/laws.FnExactSliceThings", spec := "fnExactSliceThings", unfollowed := true, recurses := true, named := ["loop.example/g00036/impl.yvars"], plainKeys := false, apart := false, laid := [("loop.example/g00036/impl.yvars", laid_loop_example_g00036_impl_yvars)], narrowed := true }
def FnExactSliceThingsUptoSaid : Prop := fnExactSliceThingsUptoRow.holds Tryz.pinned (OpenSpec.upto fnExactSliceThingsSpec)

/-- 'laws.FnExactSlicePolicies', WHERE WHAT IT READS IS OF BULK AT MOST 1048576: true; the input reads as it did. -/
def fnExactSlicePoliciesUptoRow : OpenClaim := { program := "ytgmdnickgijkoaagreatdoor", sum := "d1ec2cc1425a974c00a0ff360bc8a11897ec8ae4439cc6fe0074e42d24c33fba", func := "loop.example/g00036/laws.FnExactSlicePolicies", spec := "fnExactSlicePolicies", unfollowed := true, recurses := true, named := ["loop.example/g00036/impl.yvars"], plainKeys := false, apart := false, laid := [("loop.example/g00036/impl.yvars", laid_loop_example_g00036_impl_yvars)], narrowed := true }
def FnExactSlicePoliciesUptoSaid : Prop := fnExactSlicePoliciesUptoRow.holds Tryz.pinned (OpenSpec.upto fnExactSlicePoliciesSpec)

end Rows
end Go.Proofs.YtgmdnickgijkoaaGreatDoor
