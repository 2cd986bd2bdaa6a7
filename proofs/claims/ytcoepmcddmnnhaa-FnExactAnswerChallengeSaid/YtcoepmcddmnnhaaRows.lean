/-
  No cell of these rows narrows 'for every input' (looked for: loops, veiled, ifaces, maps, wideKeys, modest, calm, conditions, laid).
  DERIVED. THE GIVEN ROWS OF THIS SEAT. 3 by the template 'for every input the law returns true; each argument reads behind the call as it read before'; 0 by the template 'total and deterministic' (their statements: YtcoepmcddmnnhaaTotals.lean).
  GIVEN WITH THE SEED: the statements are not yours to turn. If you find one false, say at which input.
  Laid BY PROGRAM, IN A SANDBOX (cutbox-rows.mjs): the forced cells as the released guide's own fill.sh prints them over the translation d1f8c034b5dffa33… (all of the seat's roots in one cut). By AI agents, Wed Nov 11 2026. No macro, syntax, notation, axiom, sorry.
-/
import Derived.Test.YtcoepmcddmnnhaaChecked
import GoSem.Claim
import GoSem.ClaimJoined
import GoSem.ClaimMapViews
import Derived.JoinedTies
import Derived.KernelRfl
namespace Go.Proofs.Ytcoepmcddmnnhaa
/- THE CELL 'sum', in the pinned program and in every row, IS THE sha256 OF THE DUMP (.gsa) THAT YtcoepmcddmnnhaaProg.lean LOADS. Nothing in Lean hashes anything: it is a label: what it is worth is what the hold of that sum in a sandbox is worth. -/
noncomputable def Try.pinned : Pinned := { name := "ytcoepmcddmnnhaa", sum := "d1f8c034b5dffa3317eefc6b82b12f9207367a62ba46491471ac646ab12a0ca8", checked := Try.checked }
namespace Rows
def none {H : Type} : Left H := { results := [], args := [] }

/-- 'laws.FnExactPassHash': WHATEVER THE INPUT: true; the input reads as it did. -/
def fnExactPassHashSpec : ChangeSpec := { name := "fnExactPassHash", fn := fun _ => fun
  | [d1, d2, d3] => { results := [.lit (.bool true)], args := [d1, d2, d3] }
  | _ => none }
def fnExactPassHashRow : OpenClaim := { program := "ytcoepmcddmnnhaa", sum := "d1f8c034b5dffa3317eefc6b82b12f9207367a62ba46491471ac646ab12a0ca8", func := "loop.example/g00036/laws.FnExactPassHash", spec := "fnExactPassHash", unfollowed := true, recurses := true, apart := false }
def FnExactPassHashSaid : Prop := fnExactPassHashRow.holds Try.pinned (OpenSpec.ofChange fnExactPassHashSpec)

/-- ITS FALSE NEIGHBOUR: 'it returns false'. Refute it at one input. -/
def fnExactPassHashWrong : ChangeSpec := { name := "fnExactPassHash", fn := fun _ => fun
  | [d1, d2, d3] => { results := [.lit (.bool false)], args := [d1, d2, d3] }
  | _ => none }
def FnExactPassHashWrongFalsely : Prop := fnExactPassHashRow.holds Try.pinned (OpenSpec.ofChange fnExactPassHashWrong)

/-- 'laws.FnExactPassCheck': WHATEVER THE INPUT: true; the input reads as it did. -/
def fnExactPassCheckSpec : ChangeSpec := { name := "fnExactPassCheck", fn := fun _ => fun
  | [d1, d2] => { results := [.lit (.bool true)], args := [d1, d2] }
  | _ => none }
def fnExactPassCheckRow : OpenClaim := { program := "ytcoepmcddmnnhaa", sum := "d1f8c034b5dffa3317eefc6b82b12f9207367a62ba46491471ac646ab12a0ca8", func := "loop.example/g00036/laws.FnExactPassCheck", spec := "fnExactPassCheck", unfollowed := true, recurses := true, apart := false }
def FnExactPassCheckSaid : Prop := fnExactPassCheckRow.holds Try.pinned (OpenSpec.ofChange fnExactPassCheckSpec)

/-- ITS FALSE NEIGHBOUR: 'it returns false'. Refute it at one input. -/
def fnExactPassCheckWrong : ChangeSpec := { name := "fnExactPassCheck", fn := fun _ => fun
  | [d1, d2] => { results := [.lit (.bool false)], args := [d1, d2] }
  | _ => none }
def FnExactPassCheckWrongFalsely : Prop := fnExactPassCheckRow.holds Try.pinned (OpenSpec.ofChange fnExactPassCheckWrong)

/-- 'laws.FnExactAnswerChallenge': WHATEVER THE INPUT: true; the input reads as it did. -/
def fnExactAnswerChallengeSpec : ChangeSpec := { name := "fnExactAnswerChallenge", fn := fun _ => fun
  | [d1, d2, d3, d4] => { results := [.lit (.bool true)], args := [d1, d2, d3, d4] }
  | _ => none }
def fnExactAnswerChallengeRow : OpenClaim := { program := "ytcoepmcddmnnhaa", sum := "d1f8c034b5dffa3317eefc6b82b12f9207367a62ba46491471ac646ab12a0ca8", func := "loop.example/g00036/laws.FnExactAnswerChallenge", spec := "fnExactAnswerChallenge", unfollowed := true, recurses := true, apart := false }
def FnExactAnswerChallengeSaid : Prop := fnExactAnswerChallengeRow.holds Try.pinned (OpenSpec.ofChange fnExactAnswerChallengeSpec)

/-- ITS FALSE NEIGHBOUR: 'it returns false'. Refute it at one input. -/
def fnExactAnswerChallengeWrong : ChangeSpec := { name := "fnExactAnswerChallenge", fn := fun _ => fun
  | [d1, d2, d3, d4] => { results := [.lit (.bool false)], args := [d1, d2, d3, d4] }
  | _ => none }
def FnExactAnswerChallengeWrongFalsely : Prop := fnExactAnswerChallengeRow.holds Try.pinned (OpenSpec.ofChange fnExactAnswerChallengeWrong)

/- THE SECOND FORM. 'bulk': how many values and letters a reading holds, each counted each time it is reached (what is shared counts as often as it is met; a slice's spare places count too). A statement '..UptoSaid' is the law's where the arguments, and the package variables that the reading takes, are together of bulk at most 1048576: NARROWER than '..Said'. Prove '..Said' where nothing that the law and all that it calls make is longer than what came in: it says more and counts as full. Else prove '..UptoSaid'. A law counts once. -/
mutual
def uptoBulk {H : Type} : DataW H → Nat
  | .lit (.string bytes) => bytes.length + 1
  | .lit _ => 1
  | .nil => 1
  | .ptr d => uptoBulk d + 1
  | .slice elems spare => uptoBulkAll elems + uptoBulkAll spare + 1
  | .agg parts => uptoBulkAll parts + 1
  | .iface _ d => uptoBulk d + 1
  | .map entries => uptoBulkEntries entries + 1
  | .held _ => 1
def uptoBulkAll {H : Type} : List (DataW H) → Nat
  | [] => 0
  | d :: r => uptoBulk d + uptoBulkAll r
def uptoBulkEntries {H : Type} : List (Lit × DataW H) → Nat
  | [] => 0
  | x :: r => uptoBulkEntry x + uptoBulkEntries r
def uptoBulkEntry {H : Type} : Lit × DataW H → Nat
  | (.string bytes, d) => bytes.length + uptoBulk d + 1
  | (_, d) => uptoBulk d + 1
 end
def uptoSmall : (H : Type) → List (DataW H) → Bool := fun _ ds => decide (uptoBulkAll ds ≤ 1048576)
def OpenSpec.upto (s : _root_.Go.ChangeSpec) : _root_.Go.OpenSpec := { _root_.Go.OpenSpec.ofChange s with cond := some uptoSmall }

/-- 'laws.FnExactPassHash', WHERE WHAT IT READS IS OF BULK AT MOST 1048576: true; the input reads as it did. -/
def fnExactPassHashUptoRow : OpenClaim := { program := "ytcoepmcddmnnhaa", sum := "d1f8c034b5dffa3317eefc6b82b12f9207367a62ba46491471ac646ab12a0ca8", func := "loop.example/g00036/laws.FnExactPassHash", spec := "fnExactPassHash", unfollowed := true, recurses := true, apart := false, narrowed := true }
def FnExactPassHashUptoSaid : Prop := fnExactPassHashUptoRow.holds Try.pinned (OpenSpec.upto fnExactPassHashSpec)

/-- 'laws.FnExactPassCheck', WHERE WHAT IT READS IS OF BULK AT MOST 1048576: true; the input reads as it did. -/
def fnExactPassCheckUptoRow : OpenClaim := { program := "ytcoepmcddmnnhaa", sum := "d1f8c034b5dffa3317eefc6b82b12f9207367a62ba46491471ac646ab12a0ca8", func := "loop.example/g00036/laws.FnExactPassCheck", spec := "fnExactPassCheck", unfollowed := true, recurses := true, apart := false, narrowed := true }
def FnExactPassCheckUptoSaid : Prop := fnExactPassCheckUptoRow.holds Try.pinned (OpenSpec.upto fnExactPassCheckSpec)

/-- 'laws.FnExactAnswerChallenge', WHERE WHAT IT READS IS OF BULK AT MOST 1048576: true; the input reads as it did. -/
def fnExactAnswerChallengeUptoRow : OpenClaim := { program := "ytcoepmcddmnnhaa", sum := "d1f8c034b5dffa3317eefc6b82b12f9207367a62ba46491471ac646ab12a0ca8", func := "loop.example/g00036/laws.FnExactAnswerChallenge", spec := "fnExactAnswerChallenge", unfollowed := true, recurses := true, apart := false, narrowed := true }
def FnExactAnswerChallengeUptoSaid : Prop := fnExactAnswerChallengeUptoRow.holds Try.pinned (OpenSpec.upto fnExactAnswerChallengeSpec)

end Rows
end Go.Proofs.Ytcoepmcddmnnhaa
