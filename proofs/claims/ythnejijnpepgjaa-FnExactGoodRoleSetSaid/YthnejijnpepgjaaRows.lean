/-
  No cell of these rows narrows 'for every input' (looked for: loops, veiled, ifaces, maps, wideKeys, modest, calm, conditions, laid).
  DERIVED. THE GIVEN ROWS OF THIS SEAT. 3 by the template 'for every input the law returns true; each argument reads behind the call as it read before'; 0 by the template 'total and deterministic' (their statements: YthnejijnpepgjaaTotals.lean).
  GIVEN WITH THE SEED: the statements are not yours to turn. If you find one false, say at which input.
  Laid BY PROGRAM, IN A SANDBOX (cutbox-rows.mjs): the forced cells as the released guide's own fill.sh prints them over the translation d9993ee5f87e2599… (all of the seat's roots in one cut). By AI agents, Wed Nov 11 2026. No macro, syntax, notation, axiom, sorry.
-/
import Derived.Test.YthnejijnpepgjaaChecked
import GoSem.Claim
import GoSem.ClaimJoined
import GoSem.ClaimMapViews
import Derived.JoinedTies
import Derived.KernelRfl
namespace Go.Proofs.Ythnejijnpepgjaa
/- THE CELL 'sum', in the pinned program and in every row, IS THE sha256 OF THE DUMP (.gsa) THAT YthnejijnpepgjaaProg.lean LOADS. Nothing in Lean hashes anything: it is a label: what it is worth is what the hold of that sum in a sandbox is worth. -/
noncomputable def Try.pinned : Pinned := { name := "ythnejijnpepgjaa", sum := "d9993ee5f87e2599fee9deff3964f86bbeaf99253b194cf18ddc4c74357d0bf7", checked := Try.checked }
namespace Rows
def none {H : Type} : Left H := { results := [], args := [] }

/-- 'laws.FnExactGoodRoleSet': WHATEVER THE INPUT: true; the input reads as it did. -/
def fnExactGoodRoleSetSpec : ChangeSpec := { name := "fnExactGoodRoleSet", fn := fun _ => fun
  | [d] => { results := [.lit (.bool true)], args := [d] }
  | _ => none }
def fnExactGoodRoleSetRow : OpenClaim := { program := "ythnejijnpepgjaa", sum := "d9993ee5f87e2599fee9deff3964f86bbeaf99253b194cf18ddc4c74357d0bf7", func := "loop.example/g00036/laws.FnExactGoodRoleSet", spec := "fnExactGoodRoleSet", unfollowed := true, recurses := true, apart := false }
def FnExactGoodRoleSetSaid : Prop := fnExactGoodRoleSetRow.holds Try.pinned (OpenSpec.ofChange fnExactGoodRoleSetSpec)

/-- ITS FALSE NEIGHBOUR: 'it returns false'. Refute it at one input. -/
def fnExactGoodRoleSetWrong : ChangeSpec := { name := "fnExactGoodRoleSet", fn := fun _ => fun
  | [d] => { results := [.lit (.bool false)], args := [d] }
  | _ => none }
def FnExactGoodRoleSetWrongFalsely : Prop := fnExactGoodRoleSetRow.holds Try.pinned (OpenSpec.ofChange fnExactGoodRoleSetWrong)

/-- 'laws.FnExactGoodRequest': WHATEVER THE INPUT: true; the input reads as it did. -/
def fnExactGoodRequestSpec : ChangeSpec := { name := "fnExactGoodRequest", fn := fun _ => fun
  | [d] => { results := [.lit (.bool true)], args := [d] }
  | _ => none }
def fnExactGoodRequestRow : OpenClaim := { program := "ythnejijnpepgjaa", sum := "d9993ee5f87e2599fee9deff3964f86bbeaf99253b194cf18ddc4c74357d0bf7", func := "loop.example/g00036/laws.FnExactGoodRequest", spec := "fnExactGoodRequest", unfollowed := true, recurses := true, apart := false }
def FnExactGoodRequestSaid : Prop := fnExactGoodRequestRow.holds Try.pinned (OpenSpec.ofChange fnExactGoodRequestSpec)

/-- ITS FALSE NEIGHBOUR: 'it returns false'. Refute it at one input. -/
def fnExactGoodRequestWrong : ChangeSpec := { name := "fnExactGoodRequest", fn := fun _ => fun
  | [d] => { results := [.lit (.bool false)], args := [d] }
  | _ => none }
def FnExactGoodRequestWrongFalsely : Prop := fnExactGoodRequestRow.holds Try.pinned (OpenSpec.ofChange fnExactGoodRequestWrong)

/-- 'laws.FnExactGoodThings': WHATEVER THE INPUT: true; the input reads as it did. -/
def fnExactGoodThingsSpec : ChangeSpec := { name := "fnExactGoodThings", fn := fun _ => fun
  | [d] => { results := [.lit (.bool true)], args := [d] }
  | _ => none }
def fnExactGoodThingsRow : OpenClaim := { program := "ythnejijnpepgjaa", sum := "d9993ee5f87e2599fee9deff3964f86bbeaf99253b194cf18ddc4c74357d0bf7", func := "loop.example/g00036/laws.FnExactGoodThings", spec := "fnExactGoodThings", unfollowed := true, recurses := true, apart := false }
def FnExactGoodThingsSaid : Prop := fnExactGoodThingsRow.holds Try.pinned (OpenSpec.ofChange fnExactGoodThingsSpec)

/-- ITS FALSE NEIGHBOUR: 'it returns false'. Refute it at one input. -/
def fnExactGoodThingsWrong : ChangeSpec := { name := "fnExactGoodThings", fn := fun _ => fun
  | [d] => { results := [.lit (.bool false)], args := [d] }
  | _ => none }
def FnExactGoodThingsWrongFalsely : Prop := fnExactGoodThingsRow.holds Try.pinned (OpenSpec.ofChange fnExactGoodThingsWrong)

/- THE SECOND FORM. 'bulk': how many values and letters a reading holds, each counted each time it is reached (what is shared counts as often as it is met; a slice's spare places count too). A statement '..UptoSaid' is the law's where the arguments, and the package variables that the reading takes, are together of bulk at most 1048576: NARROWER than '..Said'. Prove '..Said' where nothing that the law and all that it calls make is longer than what came in: it says more and counts as full. Else prove '..UptoSaid'. A law counts once. -/
mutual
def uptoBulk {H : Type} : DataW H → Nat
  | .lit (.string bytes) => bytes.length + 1
  | .lit _ => 1
  | .nil => 1
  | .ptr d => uptoBulk d + 1
  | .slice elems spare => uptoBulkAll elems + uptoBulkAll spare + 1
  | .agg parts => uptoBulkAll parts + 1
  | .iface _ d => uptoBulk d + 1
  | .map entries => uptoBulkEntries entries + 1
  | .held _ => 1
def uptoBulkAll {H : Type} : List (DataW H) → Nat
  | [] => 0
  | d :: r => uptoBulk d + uptoBulkAll r
def uptoBulkEntries {H : Type} : List (Lit × DataW H) → Nat
  | [] => 0
  | x :: r => uptoBulkEntry x + uptoBulkEntries r
def uptoBulkEntry {H : Type} : Lit × DataW H → Nat
  | (.string bytes, d) => bytes.length + uptoBulk d + 1
  | (_, d) => uptoBulk d + 1
 end
def uptoSmall : (H : Type) → List (DataW H) → Bool := fun _ ds => decide (uptoBulkAll ds ≤ 1048576)
def OpenSpec.upto (s : _root_.Go.ChangeSpec) : _root_.Go.OpenSpec := { _root_.Go.OpenSpec.ofChange s with cond := some uptoSmall }

/-- 'laws.FnExactGoodRoleSet', WHERE WHAT IT READS IS OF BULK AT MOST 1048576: true; the input reads as it did. -/
def fnExactGoodRoleSetUptoRow : OpenClaim := { program := "ythnejijnpepgjaa", sum := "d9993ee5f87e2599fee9deff3964f86bbeaf99253b194cf18ddc4c74357d0bf7", func := "loop.example/g00036/laws.FnExactGoodRoleSet", spec := "fnExactGoodRoleSet", unfollowed := true, recurses := true, apart := false, narrowed := true }
def FnExactGoodRoleSetUptoSaid : Prop := fnExactGoodRoleSetUptoRow.holds Try.pinned (OpenSpec.upto fnExactGoodRoleSetSpec)

/-- 'laws.FnExactGoodRequest', WHERE WHAT IT READS IS OF BULK AT MOST 1048576: true; the input reads as it did. -/
def fnExactGoodRequestUptoRow : OpenClaim := { program := "ythnejijnpepgjaa", sum := "d9993ee5f87e2599fee9deff3964f86bbeaf99253b194cf18ddc4c74357d0bf7", func := "loop.example/g00036/laws.FnExactGoodRequest", spec := "fnExactGoodRequest", unfollowed := true, recurses := true, apart := false, narrowed := true }
def FnExactGoodRequestUptoSaid : Prop := fnExactGoodRequestUptoRow.holds Try.pinned (OpenSpec.upto fnExactGoodRequestSpec)

/-- 'laws.FnExactGoodThings', WHERE WHAT IT READS IS OF BULK AT MOST 1048576: true; the input reads as it did. -/
def fnExactGoodThingsUptoRow : OpenClaim := { program := "ythnejijnpepgjaa", sum := "d9993ee5f87e2599fee9deff3964f86bbeaf99253b194cf18ddc4c74357d0bf7", func := "loop.example/g00036/laws.FnExactGoodThings", spec := "fnExactGoodThings", unfollowed := true, recurses := true, apart := false, narrowed := true }
def FnExactGoodThingsUptoSaid : Prop := fnExactGoodThingsUptoRow.holds Try.pinned (OpenSpec.upto fnExactGoodThingsSpec)

end Rows
end Go.Proofs.Ythnejijnpepgjaa
