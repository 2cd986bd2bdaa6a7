/-
  No cell of these rows narrows 'for every input' (looked for: loops, veiled, ifaces, maps, wideKeys, modest, calm, conditions, laid).
  DERIVED. THE GIVEN ROWS OF THIS SEAT. 6 by the template 'for every input the law returns true; each argument reads behind the call as it read before'; 0 by the template 'total and deterministic' (their statements: YtokoopabnhcheaaTotals.lean).
  GIVEN WITH THE SEED: the statements are not yours to turn. If you find one false, say at which input.
  Laid BY PROGRAM, IN A SANDBOX (cutbox-rows.mjs): the forced cells as the released guide's own fill.sh prints them over the translation 80ce87bb6aceb987… (all of the seat's roots in one cut). By AI agents, Wed Nov 11 2026. No macro, syntax, notation, axiom, sorry.
-/
import Derived.Test.YtokoopabnhcheaaChecked
import GoSem.Claim
import GoSem.ClaimJoined
import GoSem.ClaimMapViews
import Derived.JoinedTies
import Derived.KernelRfl
namespace Go.Proofs.Ytokoopabnhcheaa
/- THE CELL 'sum', in the pinned program and in every row, IS THE sha256 OF THE DUMP (.gsa) THAT YtokoopabnhcheaaProg.lean LOADS. Nothing in Lean hashes anything: it is a label: what it is worth is what the hold of that sum in a sandbox is worth. -/
noncomputable def Try.pinned : Pinned := { name := "ytokoopabnhcheaa", sum := "80ce87bb6aceb9877ac5bd1a34fb00b3723a22e7642716d761b527393b7289c5", checked := Try.checked }
namespace Rows
def none {H : Type} : Left H := { results := [], args := [] }

/-- 'laws.FnExactTryOnce': WHATEVER THE INPUT: true; the input reads as it did. -/
def fnExactTryOnceSpec : ChangeSpec := { name := "fnExactTryOnce", fn := fun _ => fun
  | [d1, d2, d3] => { results := [.lit (.bool true)], args := [d1, d2, d3] }
  | _ => none }
def fnExactTryOnceRow : OpenClaim := { program := "ytokoopabnhcheaa", sum := "80ce87bb6aceb9877ac5bd1a34fb00b3723a22e7642716d761b527393b7289c5", func := "loop.example/g00036/laws.FnExactTryOnce", spec := "fnExactTryOnce", apart := false }
def FnExactTryOnceSaid : Prop := fnExactTryOnceRow.holds Try.pinned (OpenSpec.ofChange fnExactTryOnceSpec)

/-- ITS FALSE NEIGHBOUR: 'it returns false'. Refute it at one input. -/
def fnExactTryOnceWrong : ChangeSpec := { name := "fnExactTryOnce", fn := fun _ => fun
  | [d1, d2, d3] => { results := [.lit (.bool false)], args := [d1, d2, d3] }
  | _ => none }
def FnExactTryOnceWrongFalsely : Prop := fnExactTryOnceRow.holds Try.pinned (OpenSpec.ofChange fnExactTryOnceWrong)

/-- 'laws.FnExactPassHash': WHATEVER THE INPUT: true; the input reads as it did. -/
def fnExactPassHashSpec : ChangeSpec := { name := "fnExactPassHash", fn := fun _ => fun
  | [d1, d2, d3] => { results := [.lit (.bool true)], args := [d1, d2, d3] }
  | _ => none }
def fnExactPassHashRow : OpenClaim := { program := "ytokoopabnhcheaa", sum := "80ce87bb6aceb9877ac5bd1a34fb00b3723a22e7642716d761b527393b7289c5", func := "loop.example/g00036/laws.FnExactPassHash", spec := "fnExactPassHash", unfollowed := true, recurses := true, apart := false }
def FnExactPassHashSaid : Prop := fnExactPassHashRow.holds Try.pinned (OpenSpec.ofChange fnExactPassHashSpec)

/-- ITS FALSE NEIGHBOUR: 'it returns false'. Refute it at one input. -/
def fnExactPassHashWrong : ChangeSpec := { name := "fnExactPassHash", fn := fun _ => fun
  | [d1, d2, d3] => { results := [.lit (.bool false)], args := [d1, d2, d3] }
  | _ => none }
def FnExactPassHashWrongFalsely : Prop := fnExactPassHashRow.holds Try.pinned (OpenSpec.ofChange fnExactPassHashWrong)

/-- 'laws.FnExactRunTries': WHATEVER THE INPUT: true; the input reads as it did. -/
def fnExactRunTriesSpec : ChangeSpec := { name := "fnExactRunTries", fn := fun _ => fun
  | [d] => { results := [.lit (.bool true)], args := [d] }
  | _ => none }
def fnExactRunTriesRow : OpenClaim := { program := "ytokoopabnhcheaa", sum := "80ce87bb6aceb9877ac5bd1a34fb00b3723a22e7642716d761b527393b7289c5", func := "loop.example/g00036/laws.FnExactRunTries", spec := "fnExactRunTries", apart := false }
def FnExactRunTriesSaid : Prop := fnExactRunTriesRow.holds Try.pinned (OpenSpec.ofChange fnExactRunTriesSpec)

/-- ITS FALSE NEIGHBOUR: 'it returns false'. Refute it at one input. -/
def fnExactRunTriesWrong : ChangeSpec := { name := "fnExactRunTries", fn := fun _ => fun
  | [d] => { results := [.lit (.bool false)], args := [d] }
  | _ => none }
def FnExactRunTriesWrongFalsely : Prop := fnExactRunTriesRow.holds Try.pinned (OpenSpec.ofChange fnExactRunTriesWrong)

/-- 'laws.FnExactPassCheck': WHATEVER THE INPUT: true; the input reads as it did. -/
def fnExactPassCheckSpec : ChangeSpec := { name := "fnExactPassCheck", fn := fun _ => fun
  | [d1, d2] => { results := [.lit (.bool true)], args := [d1, d2] }
  | _ => none }
def fnExactPassCheckRow : OpenClaim := { program := "ytokoopabnhcheaa", sum := "80ce87bb6aceb9877ac5bd1a34fb00b3723a22e7642716d761b527393b7289c5", func := "loop.example/g00036/laws.FnExactPassCheck", spec := "fnExactPassCheck", unfollowed := true, recurses := true, apart := false }
def FnExactPassCheckSaid : Prop := fnExactPassCheckRow.holds Try.pinned (OpenSpec.ofChange fnExactPassCheckSpec)

/-- ITS FALSE NEIGHBOUR: 'it returns false'. Refute it at one input. -/
def fnExactPassCheckWrong : ChangeSpec := { name := "fnExactPassCheck", fn := fun _ => fun
  | [d1, d2] => { results := [.lit (.bool false)], args := [d1, d2] }
  | _ => none }
def FnExactPassCheckWrongFalsely : Prop := fnExactPassCheckRow.holds Try.pinned (OpenSpec.ofChange fnExactPassCheckWrong)

/-- 'laws.FnExactAnswerChallenge': WHATEVER THE INPUT: true; the input reads as it did. -/
def fnExactAnswerChallengeSpec : ChangeSpec := { name := "fnExactAnswerChallenge", fn := fun _ => fun
  | [d1, d2, d3, d4] => { results := [.lit (.bool true)], args := [d1, d2, d3, d4] }
  | _ => none }
def fnExactAnswerChallengeRow : OpenClaim := { program := "ytokoopabnhcheaa", sum := "80ce87bb6aceb9877ac5bd1a34fb00b3723a22e7642716d761b527393b7289c5", func := "loop.example/g00036/laws.FnExactAnswerChallenge", spec := "fnExactAnswerChallenge", unfollowed := true, recurses := true, apart := false }
def FnExactAnswerChallengeSaid : Prop := fnExactAnswerChallengeRow.holds Try.pinned (OpenSpec.ofChange fnExactAnswerChallengeSpec)

/-- ITS FALSE NEIGHBOUR: 'it returns false'. Refute it at one input. -/
def fnExactAnswerChallengeWrong : ChangeSpec := { name := "fnExactAnswerChallenge", fn := fun _ => fun
  | [d1, d2, d3, d4] => { results := [.lit (.bool false)], args := [d1, d2, d3, d4] }
  | _ => none }
def FnExactAnswerChallengeWrongFalsely : Prop := fnExactAnswerChallengeRow.holds Try.pinned (OpenSpec.ofChange fnExactAnswerChallengeWrong)

/-- 'laws.FnExactGoodEntry': WHATEVER THE INPUT: true; the input reads as it did. -/
def fnExactGoodEntrySpec : ChangeSpec := { name := "fnExactGoodEntry", fn := fun _ => fun
  | [d] => { results := [.lit (.bool true)], args := [d] }
  | _ => none }
def fnExactGoodEntryRow : OpenClaim := { program := "ytokoopabnhcheaa", sum := "80ce87bb6aceb9877ac5bd1a34fb00b3723a22e7642716d761b527393b7289c5", func := "loop.example/g00036/laws.FnExactGoodEntry", spec := "fnExactGoodEntry", unfollowed := true, recurses := true, apart := false }
def FnExactGoodEntrySaid : Prop := fnExactGoodEntryRow.holds Try.pinned (OpenSpec.ofChange fnExactGoodEntrySpec)

/-- ITS FALSE NEIGHBOUR: 'it returns false'. Refute it at one input. -/
def fnExactGoodEntryWrong : ChangeSpec := { name := "fnExactGoodEntry", fn := fun _ => fun
  | [d] => { results := [.lit (.bool false)], args := [d] }
  | _ => none }
def FnExactGoodEntryWrongFalsely : Prop := fnExactGoodEntryRow.holds Try.pinned (OpenSpec.ofChange fnExactGoodEntryWrong)

/- THE SECOND FORM. 'bulk': how many values and letters a reading holds, each counted each time it is reached (what is shared counts as often as it is met; a slice's spare places count too). A statement '..UptoSaid' is the law's where the arguments, and the package variables that the reading takes, are together of bulk at most 1048576: NARROWER than '..Said'. Prove '..Said' where nothing that the law and all that it calls make is longer than what came in: it says more and counts as full. Else prove '..UptoSaid'. A law counts once. -/
mutual
def uptoBulk {H : Type} : DataW H → Nat
  | .lit (.string bytes) => bytes.length + 1
  | .lit _ => 1
  | .nil => 1
  | .ptr d => uptoBulk d + 1
  | .slice elems spare => uptoBulkAll elems + uptoBulkAll spare + 1
  | .agg parts => uptoBulkAll parts + 1
  | .iface _ d => uptoBulk d + 1
  | .map entries => uptoBulkEntries entries + 1
  | .held _ => 1
def uptoBulkAll {H : Type} : List (DataW H) → Nat
  | [] => 0
  | d :: r => uptoBulk d + uptoBulkAll r
def uptoBulkEntries {H : Type} : List (Lit × DataW H) → Nat
  | [] => 0
  | x :: r => uptoBulkEntry x + uptoBulkEntries r
def uptoBulkEntry {H : Type} : Lit × DataW H → Nat
  | (.string bytes, d) => bytes.length + uptoBulk d + 1
  | (_, d) => uptoBulk d + 1
 end
def uptoSmall : (H : Type) → List (DataW H) → Bool := fun _ ds => decide (uptoBulkAll ds ≤ 1048576)
def OpenSpec.upto (s : _root_.Go.ChangeSpec) : _root_.Go.OpenSpec := { _root_.Go.OpenSpec.ofChange s with cond := some uptoSmall }

/-- 'laws.FnExactTryOnce', WHERE WHAT IT READS IS OF BULK AT MOST 1048576: true; the input reads as it did. -/
def fnExactTryOnceUptoRow : OpenClaim := { program := "ytokoopabnhcheaa", sum := "80ce87bb6aceb9877ac5bd1a34fb00b3723a22e7642716d761b527393b7289c5", func := "loop.example/g00036/laws.FnExactTryOnce", spec := "fnExactTryOnce", apart := false, narrowed := true }
def FnExactTryOnceUptoSaid : Prop := fnExactTryOnceUptoRow.holds Try.pinned (OpenSpec.upto fnExactTryOnceSpec)

/-- 'laws.FnExactPassHash', WHERE WHAT IT READS IS OF BULK AT MOST 1048576: true; the input reads as it did. -/
def fnExactPassHashUptoRow : OpenClaim := { program := "ytokoopabnhcheaa", sum := "80ce87bb6aceb9877ac5bd1a34fb00b3723a22e7642716d761b527393b7289c5", func := "loop.example/g00036/laws.FnExactPassHash", spec := "fnExactPassHash", unfollowed := true, recurses := true, apart := false, narrowed := true }
def FnExactPassHashUptoSaid : Prop := fnExactPassHashUptoRow.holds Try.pinned (OpenSpec.upto fnExactPassHashSpec)

/-- 'laws.FnExactRunTries', WHERE WHAT IT READS IS OF BULK AT MOST 1048576: true; the input reads as it did. -/
def fnExactRunTriesUptoRow : OpenClaim := { program := "ytokoopabnhcheaa", sum := "80ce87bb6aceb9877ac5bd1a34fb00b3723a22e7642716d761b527393b7289c5", func := "loop.example/g00036/laws.FnExactRunTries", spec := "fnExactRunTries", apart := false, narrowed := true }
def FnExactRunTriesUptoSaid : Prop := fnExactRunTriesUptoRow.holds Try.pinned (OpenSpec.upto fnExactRunTriesSpec)

/-- 'laws.FnExactPassCheck', WHERE WHAT IT READS IS OF BULK AT MOST 1048576: true; the input reads as it did. -/
def fnExactPassCheckUptoRow : OpenClaim := { program := "ytokoopabnhcheaa", sum := "80ce87bb6aceb9877ac5bd1a34fb00b3723a22e7642716d761b527393b7289c5", func := "loop.example/g00036/laws.FnExactPassCheck", spec := "fnExactPassCheck", unfollowed := true, recurses := true, apart := false, narrowed := true }
def FnExactPassCheckUptoSaid : Prop := fnExactPassCheckUptoRow.holds Try.pinned (OpenSpec.upto fnExactPassCheckSpec)

/-- 'laws.FnExactAnswerChallenge', WHERE WHAT IT READS IS OF BULK AT MOST 1048576: true; the input reads as it did. -/
def fnExactAnswerChallengeUptoRow : OpenClaim := { program := "ytokoopabnhcheaa", sum := "80ce87bb6aceb9877ac5bd1a34fb00b3723a22e7642716d761b527393b7289c5", func := "loop.example/g00036/laws.FnExactAnswerChallenge", spec := "fnExactAnswerChallenge", unfollowed := true, recurses := true, apart := false, narrowed := true }
def FnExactAnswerChallengeUptoSaid : Prop := fnExactAnswerChallengeUptoRow.holds Try.pinned (OpenSpec.upto fnExactAnswerChallengeSpec)

/-- 'laws.FnExactGoodEntry', WHERE WHAT IT READS IS OF BULK AT MOST 1048576: true; the input reads as it did. -/
def fnExactGoodEntryUptoRow : OpenClaim := { program := "ytokoopabnhcheaa", sum := "80ce87bb6aceb9877ac5bd1a34fb00b3723a22e7642716d761b527393b7289c5", func := "loop.example/g00036/laws.FnExactGoodEntry", spec := "fnExactGoodEntry", unfollowed := true, recurses := true, apart := false, narrowed := true }
def FnExactGoodEntryUptoSaid : Prop := fnExactGoodEntryUptoRow.holds Try.pinned (OpenSpec.upto fnExactGoodEntrySpec)

end Rows
end Go.Proofs.Ytokoopabnhcheaa
