/-
  NARROWER THAN 'FOR EVERY INPUT', by the rows' own cells (each row's printed sentence says how): FnExactGoodWorld: maps, laid · FnExactExprText: maps, laid · FnExactPolicyText: maps, laid · FnExactKindOf: maps, laid.
  DERIVED. THE GIVEN ROWS OF THIS SEAT. 4 by the template 'for every input the law returns true; each argument reads behind the call as it read before'; 0 by the template 'total and deterministic' (their statements: YtpnloaokfmcpcaaGreatDoorTotals.lean).
  GIVEN WITH THE SEED: the statements are not yours to turn. If you find one false, say at which input.
  Laid BY PROGRAM, IN A SANDBOX (cutbox-rows.mjs): the forced cells as the released guide's own fill.sh prints them over the translation 2f76222d880d0244… (all of the seat's roots in one cut). By AI agents, Wed Nov 11 2026. No macro, syntax, notation, axiom, sorry.
-/
import Derived.Test.YtpnloaokfmcpcaaGreatDoorChecked
import GoSem.Claim
import GoSem.ClaimJoined
import GoSem.ClaimMapViews
import Derived.JoinedTies
import Derived.KernelRfl
namespace Go.Proofs.YtpnloaokfmcpcaaGreatDoor
/- THE CELL 'sum', in the pinned program and in every row, IS THE sha256 OF THE DUMP (.gsa) THAT YtpnloaokfmcpcaaGreatDoorProg.lean LOADS. Nothing in Lean hashes anything: it is a label: what it is worth is what the hold of that sum in a sandbox is worth. -/
noncomputable def Tryz.pinned : Pinned := { name := "ytpnloaokfmcpcaagreatdoor", sum := "2f76222d880d02446da951d2712c5c203a7002af0a17b7e80b1607aba978d858", checked := Tryz.checked }
namespace Rows
def none {H : Type} : Left H := { results := [], args := [] }

/- WHAT THE LISTED PACKAGE-LEVEL VARIABLES READ AS WHEN THE CALL BEGINS. Each datum BY PROGRAM (the guide's laid-datum.mjs) off the statement by which the dump's own 'gosem.cut.vars' lays the variable. In a bare row this is a premise. The card (YtpnloaokfmcpcaaGreatDoorCards.lean) ties it to the program's text. -/
def laid_loop_example_g00036_impl_yplainKinds {H : Type} : DataW H := .map [(.string [97, 100, 100, 114], .lit (.int .i64 6)), (.string [98, 111, 111, 108], .lit (.int .i64 1)), (.string [100, 101, 99], .lit (.int .i64 5)), (.string [110, 117, 109], .lit (.int .i64 2)), (.string [116, 101, 120, 116], .lit (.int .i64 3)), (.string [116, 105, 109, 101], .lit (.int .i64 7))]
def laid_math_bits_deBruijn32tab {H : Type} : DataW H := .agg [.lit (.int .u8 0), .lit (.int .u8 1), .lit (.int .u8 28), .lit (.int .u8 2), .lit (.int .u8 29), .lit (.int .u8 14), .lit (.int .u8 24), .lit (.int .u8 3), .lit (.int .u8 30), .lit (.int .u8 22), .lit (.int .u8 20), .lit (.int .u8 15), .lit (.int .u8 25), .lit (.int .u8 17), .lit (.int .u8 4), .lit (.int .u8 8), .lit (.int .u8 31), .lit (.int .u8 27), .lit (.int .u8 13), .lit (.int .u8 23), .lit (.int .u8 21), .lit (.int .u8 19), .lit (.int .u8 16), .lit (.int .u8 7), .lit (.int .u8 26), .lit (.int .u8 12), .lit (.int .u8 18), .lit (.int .u8 6), .lit (.int .u8 11), .lit (.int .u8 5), .lit (.int .u8 10), .lit (.int .u8 9)]
def laid_math_bits_deBruijn64tab {H : Type} : DataW H := .agg [.lit (.int .u8 0), .lit (.int .u8 1), .lit (.int .u8 56), .lit (.int .u8 2), .lit (.int .u8 57), .lit (.int .u8 49), .lit (.int .u8 28), .lit (.int .u8 3), .lit (.int .u8 61), .lit (.int .u8 58), .lit (.int .u8 42), .lit (.int .u8 50), .lit (.int .u8 38), .lit (.int .u8 29), .lit (.int .u8 17), .lit (.int .u8 4), .lit (.int .u8 62), .lit (.int .u8 47), .lit (.int .u8 59), .lit (.int .u8 36), .lit (.int .u8 45), .lit (.int .u8 43), .lit (.int .u8 51), .lit (.int .u8 22), .lit (.int .u8 53), .lit (.int .u8 39), .lit (.int .u8 33), .lit (.int .u8 30), .lit (.int .u8 24), .lit (.int .u8 18), .lit (.int .u8 12), .lit (.int .u8 5), .lit (.int .u8 63), .lit (.int .u8 55), .lit (.int .u8 48), .lit (.int .u8 27), .lit (.int .u8 60), .lit (.int .u8 41), .lit (.int .u8 37), .lit (.int .u8 16), .lit (.int .u8 46), .lit (.int .u8 35), .lit (.int .u8 44), .lit (.int .u8 21), .lit (.int .u8 52), .lit (.int .u8 32), .lit (.int .u8 23), .lit (.int .u8 11), .lit (.int .u8 54), .lit (.int .u8 26), .lit (.int .u8 40), .lit (.int .u8 15), .lit (.int .u8 34), .lit (.int .u8 20), .lit (.int .u8 31), .lit (.int .u8 10), .lit (.int .u8 25), .lit (.int .u8 14), .lit (.int .u8 19), .lit (.int .u8 9), .lit (.int .u8 13), .lit (.int .u8 8), .lit (.int .u8 7), .lit (.int .u8 6)]
def laid_internal_strconv_uint64pow10 {H : Type} : DataW H := .agg [.lit (.int .u64 1), .lit (.int .u64 10), .lit (.int .u64 100), .lit (.int .u64 1000), .lit (.int .u64 10000), .lit (.int .u64 100000), .lit (.int .u64 1000000), .lit (.int .u64 10000000), .lit (.int .u64 100000000), .lit (.int .u64 1000000000), .lit (.int .u64 10000000000), .lit (.int .u64 100000000000), .lit (.int .u64 1000000000000), .lit (.int .u64 10000000000000), .lit (.int .u64 100000000000000), .lit (.int .u64 1000000000000000), .lit (.int .u64 10000000000000000), .lit (.int .u64 100000000000000000), .lit (.int .u64 1000000000000000000), .lit (.int .u64 10000000000000000000)]
def laid_loop_example_g00036_impl_yvars {H : Type} : DataW H := .slice [.lit (.string [112, 114, 105, 110, 99, 105, 112, 97, 108]), .lit (.string [97, 99, 116, 105, 111, 110]), .lit (.string [114, 101, 115, 111, 117, 114, 99, 101]), .lit (.string [99, 111, 110, 116, 101, 120, 116])] []
def laid_loop_example_g00036_impl_yexprSign {H : Type} : DataW H := .map [(.int .i64 5, .lit (.string [104, 97, 115])), (.int .i64 8, .lit (.string [38, 38])), (.int .i64 9, .lit (.string [124, 124])), (.int .i64 11, .lit (.string [61, 61])), (.int .i64 12, .lit (.string [60])), (.int .i64 13, .lit (.string [60, 61])), (.int .i64 14, .lit (.string [43])), (.int .i64 15, .lit (.string [45])), (.int .i64 16, .lit (.string [42])), (.int .i64 17, .lit (.string [105, 110])), (.int .i64 18, .lit (.string [99, 111, 110, 116, 97, 105, 110, 115])), (.int .i64 19, .lit (.string [119, 105, 116, 104, 105, 110])), (.int .i64 20, .lit (.string [108, 105, 107, 101])), (.int .i64 21, .lit (.string [105, 115]))]

/-- 'laws.FnExactGoodWorld': WHATEVER THE INPUT: true; the input reads as it did. -/
def fnExactGoodWorldSpec : ChangeSpec := { name := "fnExactGoodWorld", vars := ["loop.example/g00036/impl.yplainKinds"], fn := fun _ => fun
  | [d1, d2, d3, g1] => { results := [.lit (.bool true)], args := [d1, d2, d3], vars := [g1] }
  | _ => none }
def fnExactGoodWorldRow : OpenClaim := { program := "ytpnloaokfmcpcaagreatdoor", sum := "2f76222d880d02446da951d2712c5c203a7002af0a17b7e80b1607aba978d858", func := "loop.example/g00036/laws.FnExactGoodWorld", spec := "fnExactGoodWorld", unfollowed := true, recurses := true, named := ["loop.example/g00036/impl.yplainKinds"], maps := true, apart := false, laid := [("loop.example/g00036/impl.yplainKinds", laid_loop_example_g00036_impl_yplainKinds)] }
def FnExactGoodWorldSaid : Prop := fnExactGoodWorldRow.holds Tryz.pinned (OpenSpec.ofChange fnExactGoodWorldSpec)

/-- ITS FALSE NEIGHBOUR: 'it returns false'. Refute it at one input. -/
def fnExactGoodWorldWrong : ChangeSpec := { name := "fnExactGoodWorld", vars := ["loop.example/g00036/impl.yplainKinds"], fn := fun _ => fun
  | [d1, d2, d3, g1] => { results := [.lit (.bool false)], args := [d1, d2, d3], vars := [g1] }
  | _ => none }
def FnExactGoodWorldWrongFalsely : Prop := fnExactGoodWorldRow.holds Tryz.pinned (OpenSpec.ofChange fnExactGoodWorldWrong)

/-- 'laws.FnExactExprText': WHATEVER THE INPUT: true; the input reads as it did. -/
def fnExactExprTextSpec : ChangeSpec := { name := "fnExactExprText", vars := ["loop.example/g00036/impl.yvars", "loop.example/g00036/impl.yexprSign"], fn := fun _ => fun
  | [d, g1, g2] => { results := [.lit (.bool true)], args := [d], vars := [g1, g2] }
  | _ => none }
def fnExactExprTextRow : OpenClaim := { program := "ytpnloaokfmcpcaagreatdoor", sum := "2f76222d880d02446da951d2712c5c203a7002af0a17b7e80b1607aba978d858", func := "loop.example/g00036/laws.FnExactExprText", spec := "fnExactExprText", inPlace := ["sync/atomic.LoadUint32", "(*internal/sync.Mutex).Lock", "internal/race.Disable", "sync/atomic.CompareAndSwapInt32", "internal/race.Enable", "internal/race.Acquire", "(*internal/sync.Mutex).lockSlow", "internal/sync.runtime_canSpin", "internal/sync.runtime_doSpin", "internal/sync.throw", "internal/sync.runtime_nanotime", "internal/sync.runtime_SemacquireMutex", "sync/atomic.AddInt32", "(*internal/sync.Mutex).Unlock", "internal/race.ReleaseMerge", "(*internal/sync.Mutex).unlockSlow", "internal/sync.fatal", "internal/sync.runtime_Semrelease", "sync/atomic.StoreUint32", "internal/abi.NoEscape", "internal/bytealg.MakeNoZero"], unfollowed := true, recurses := true, named := ["loop.example/g00036/impl.yvars", "loop.example/g00036/impl.yexprSign", "internal/strconv.uint64pow10", "math/bits.deBruijn32tab", "math/bits.deBruijn64tab"], maps := true, apart := false, laid := [("math/bits.deBruijn32tab", laid_math_bits_deBruijn32tab), ("math/bits.deBruijn64tab", laid_math_bits_deBruijn64tab), ("internal/strconv.uint64pow10", laid_internal_strconv_uint64pow10), ("loop.example/g00036/impl.yvars", laid_loop_example_g00036_impl_yvars), ("loop.example/g00036/impl.yexprSign", laid_loop_example_g00036_impl_yexprSign)] }
def FnExactExprTextSaid : Prop := fnExactExprTextRow.holds Tryz.pinned (OpenSpec.ofChange fnExactExprTextSpec)

/-- ITS FALSE NEIGHBOUR: 'it returns false'. Refute it at one input. -/
def fnExactExprTextWrong : ChangeSpec := { name := "fnExactExprText", vars := ["loop.example/g00036/impl.yvars", "loop.example/g00036/impl.yexprSign"], fn := fun _ => fun
  | [d, g1, g2] => { results := [.lit (.bool false)], args := [d], vars := [g1, g2] }
  | _ => none }
def FnExactExprTextWrongFalsely : Prop := fnExactExprTextRow.holds Tryz.pinned (OpenSpec.ofChange fnExactExprTextWrong)

/-- 'laws.FnExactPolicyText': WHATEVER THE INPUT: true; the input reads as it did. -/
def fnExactPolicyTextSpec : ChangeSpec := { name := "fnExactPolicyText", vars := ["loop.example/g00036/impl.yvars", "loop.example/g00036/impl.yexprSign"], fn := fun _ => fun
  | [d, g1, g2] => { results := [.lit (.bool true)], args := [d], vars := [g1, g2] }
  | _ => none }
def fnExactPolicyTextRow : OpenClaim := { program := "ytpnloaokfmcpcaagreatdoor", sum := "2f76222d880d02446da951d2712c5c203a7002af0a17b7e80b1607aba978d858", func := "loop.example/g00036/laws.FnExactPolicyText", spec := "fnExactPolicyText", inPlace := ["sync/atomic.LoadUint32", "(*internal/sync.Mutex).Lock", "internal/race.Disable", "sync/atomic.CompareAndSwapInt32", "internal/race.Enable", "internal/race.Acquire", "(*internal/sync.Mutex).lockSlow", "internal/sync.runtime_canSpin", "internal/sync.runtime_doSpin", "internal/sync.throw", "internal/sync.runtime_nanotime", "internal/sync.runtime_SemacquireMutex", "sync/atomic.AddInt32", "(*internal/sync.Mutex).Unlock", "internal/race.ReleaseMerge", "(*internal/sync.Mutex).unlockSlow", "internal/sync.fatal", "internal/sync.runtime_Semrelease", "sync/atomic.StoreUint32", "internal/abi.NoEscape", "internal/bytealg.MakeNoZero"], unfollowed := true, recurses := true, named := ["loop.example/g00036/impl.yvars", "internal/strconv.uint64pow10", "math/bits.deBruijn32tab", "math/bits.deBruijn64tab", "loop.example/g00036/impl.yexprSign"], maps := true, apart := false, laid := [("math/bits.deBruijn32tab", laid_math_bits_deBruijn32tab), ("math/bits.deBruijn64tab", laid_math_bits_deBruijn64tab), ("internal/strconv.uint64pow10", laid_internal_strconv_uint64pow10), ("loop.example/g00036/impl.yvars", laid_loop_example_g00036_impl_yvars), ("loop.example/g00036/impl.yexprSign", laid_loop_example_g00036_impl_yexprSign)] }
def FnExactPolicyTextSaid : Prop := fnExactPolicyTextRow.holds Tryz.pinned (OpenSpec.ofChange fnExactPolicyTextSpec)

/-- ITS FALSE NEIGHBOUR: 'it returns false'. Refute it at one input. -/
def fnExactPolicyTextWrong : ChangeSpec := { name := "fnExactPolicyText", vars := ["loop.example/g00036/impl.yvars", "loop.example/g00036/impl.yexprSign"], fn := fun _ => fun
  | [d, g1, g2] => { results := [.lit (.bool false)], args := [d], vars := [g1, g2] }
  | _ => none }
def FnExactPolicyTextWrongFalsely : Prop := fnExactPolicyTextRow.holds Tryz.pinned (OpenSpec.ofChange fnExactPolicyTextWrong)

/-- 'laws.FnExactKindOf': WHATEVER THE INPUT: true; the input reads as it did. -/
def fnExactKindOfSpec : ChangeSpec := { name := "fnExactKindOf", vars := ["loop.example/g00036/impl.yplainKinds", "loop.example/g00036/impl.yvars", "loop.example/g00036/impl.yexprSign"], fn := fun _ => fun
  | [d1, d2, d3, d4, d5, g1, g2, g3] => { results := [.lit (.bool true)], args := [d1, d2, d3, d4, d5], vars := [g1, g2, g3] }
  | _ => none }
def fnExactKindOfRow : OpenClaim := { program := "ytpnloaokfmcpcaagreatdoor", sum := "2f76222d880d02446da951d2712c5c203a7002af0a17b7e80b1607aba978d858", func := "loop.example/g00036/laws.FnExactKindOf", spec := "fnExactKindOf", inPlace := ["sync/atomic.LoadUint32", "(*internal/sync.Mutex).Lock", "internal/race.Disable", "sync/atomic.CompareAndSwapInt32", "internal/race.Enable", "internal/race.Acquire", "(*internal/sync.Mutex).lockSlow", "internal/sync.runtime_canSpin", "internal/sync.runtime_doSpin", "internal/sync.throw", "internal/sync.runtime_nanotime", "internal/sync.runtime_SemacquireMutex", "sync/atomic.AddInt32", "(*internal/sync.Mutex).Unlock", "internal/race.ReleaseMerge", "(*internal/sync.Mutex).unlockSlow", "internal/sync.fatal", "internal/sync.runtime_Semrelease", "sync/atomic.StoreUint32", "internal/abi.NoEscape", "internal/bytealg.MakeNoZero"], unfollowed := true, recurses := true, named := ["loop.example/g00036/impl.yplainKinds", "loop.example/g00036/impl.yvars", "loop.example/g00036/impl.yexprSign", "internal/strconv.uint64pow10", "math/bits.deBruijn32tab", "math/bits.deBruijn64tab"], maps := true, apart := false, laid := [("math/bits.deBruijn32tab", laid_math_bits_deBruijn32tab), ("math/bits.deBruijn64tab", laid_math_bits_deBruijn64tab), ("internal/strconv.uint64pow10", laid_internal_strconv_uint64pow10), ("loop.example/g00036/impl.yvars", laid_loop_example_g00036_impl_yvars), ("loop.example/g00036/impl.yexprSign", laid_loop_example_g00036_impl_yexprSign), ("loop.example/g00036/impl.yplainKinds", laid_loop_example_g00036_impl_yplainKinds)] }
def FnExactKindOfSaid : Prop := fnExactKindOfRow.holds Tryz.pinned (OpenSpec.ofChange fnExactKindOfSpec)

/-- ITS FALSE NEIGHBOUR: 'it returns false'. Refute it at one input. -/
def fnExactKindOfWrong : ChangeSpec := { name := "fnExactKindOf", vars := ["loop.example/g00036/impl.yplainKinds", "loop.example/g00036/impl.yvars", "loop.example/g00036/impl.yexprSign"], fn := fun _ => fun
  | [d1, d2, d3, d4, d5, g1, g2, g3] => { results := [.lit (.bool false)], args := [d1, d2, d3, d4, d5], vars := [g1, g2, g3] }
  | _ => none }
def FnExactKindOfWrongFalsely : Prop := fnExactKindOfRow.holds Tryz.pinned (OpenSpec.ofChange fnExactKindOfWrong)

/- THE SECOND FORM. 'bulk': how many values and letters a reading holds, each counted each time it is reached (what is shared counts as often as it is met; a slice's spare places count too). A statement '..UptoSaid' is the law's where the arguments, and the package variables that the reading takes, are together of bulk at most 1048576: NARROWER than '..Said'. Prove '..Said' where nothing that the law and all that it calls make is longer than what came in: it says more and counts as full. Else prove '..UptoSaid'. A law counts once. -/
mutual
def uptoBulk {H : Type} : DataW H → Nat
  | .lit (.string bytes) => bytes.length + 1
  | .lit _ => 1
  | .nil => 1
  | .ptr d => uptoBulk d + 1
  | .slice elems spare => uptoBulkAll elems + uptoBulkAll spare + 1
  | .agg parts => uptoBulkAll parts + 1
  | .iface _ d => uptoBulk d + 1
  | .map entries => uptoBulkEntries entries + 1
  | .held _ => 1
def uptoBulkAll {H : Type} : List (DataW H) → Nat
  | [] => 0
  | d :: r => uptoBulk d + uptoBulkAll r
def uptoBulkEntries {H : Type} : List (Lit × DataW H) → Nat
  | [] => 0
  | x :: r => uptoBulkEntry x + uptoBulkEntries r
def uptoBulkEntry {H : Type} : Lit × DataW H → Nat
  | (.string bytes, d) => bytes.length + uptoBulk d + 1
  | (_, d) => uptoBulk d + 1
 end
def uptoSmall : (H : Type) → List (DataW H) → Bool := fun _ ds => decide (uptoBulkAll ds ≤ 1048576)
def OpenSpec.upto (s : _root_.Go.ChangeSpec) : _root_.Go.OpenSpec := { _root_.Go.OpenSpec.ofChange s with cond := some uptoSmall }

/-- 'laws.FnExactGoodWorld', WHERE WHAT IT READS IS OF BULK AT MOST 1048576: true; the input reads as it did. -/
def fnExactGoodWorldUptoRow : OpenClaim := { program := "ytpnloaokfmcpcaagreatdoor", sum := "2f76222d880d02446da951d2712c5c203a7002af0a17b7e80b1607aba978d858", func := "loop.example/g00036/laws.FnExactGoodWorld", spec := "fnExactGoodWorld", unfollowed := true, recurses := true, named := ["loop.example/g00036/impl.yplainKinds"], maps := true, apart := false, laid := [("loop.example/g00036/impl.yplainKinds", laid_loop_example_g00036_impl_yplainKinds)], narrowed := true }
def FnExactGoodWorldUptoSaid : Prop := fnExactGoodWorldUptoRow.holds Tryz.pinned (OpenSpec.upto fnExactGoodWorldSpec)

/-- 'laws.FnExactExprText', WHERE WHAT IT READS IS OF BULK AT MOST 1048576: true; the input reads as it did. -/
def fnExactExprTextUptoRow : OpenClaim := { program := "ytpnloaokfmcpcaagreatdoor", sum := "2f76222d880d02446da951d2712c5c203a7002af0a17b7e80b1607aba978d858", func := "loop.example/g00036/laws.FnExactExprText", spec := "fnExactExprText", inPlace := ["sync/atomic.LoadUint32", "(*internal/sync.Mutex).Lock", "internal/race.Disable", "sync/atomic.CompareAndSwapInt32", "internal/race.Enable", "internal/race.Acquire", "(*internal/sync.Mutex).lockSlow", "internal/sync.runtime_canSpin", "internal/sync.runtime_doSpin", "internal/sync.throw", "internal/sync.runtime_nanotime", "internal/sync.runtime_SemacquireMutex", "sync/atomic.AddInt32", "(*internal/sync.Mutex).Unlock", "internal/race.ReleaseMerge", "(*internal/sync.Mutex).unlockSlow", "internal/sync.fatal", "internal/sync.runtime_Semrelease", "sync/atomic.StoreUint32", "internal/abi.NoEscape", "internal/bytealg.MakeNoZero"], unfollowed := true, recurses := true, named := ["loop.example/g00036/impl.yvars", "loop.example/g00036/impl.yexprSign", "internal/strconv.uint64pow10", "math/bits.deBruijn32tab", "math/bits.deBruijn64tab"], maps := true, apart := false, laid := [("math/bits.deBruijn32tab", laid_math_bits_deBruijn32tab), ("math/bits.deBruijn64tab", laid_math_bits_deBruijn64tab), ("internal/strconv.uint64pow10", laid_internal_strconv_uint64pow10), ("loop.example/g00036/impl.yvars", laid_loop_example_g00036_impl_yvars), ("loop.example/g00036/impl.yexprSign", laid_loop_example_g00036_impl_yexprSign)], narrowed := true }
def FnExactExprTextUptoSaid : Prop := fnExactExprTextUptoRow.holds Tryz.pinned (OpenSpec.upto fnExactExprTextSpec)

/-- 'laws.FnExactPolicyText', WHERE WHAT IT READS IS OF BULK AT MOST 1048576: true; the input reads as it did. -/
def fnExactPolicyTextUptoRow : OpenClaim := { program := "ytpnloaokfmcpcaagreatdoor", sum := "2f76222d880d02446da951d2712c5c203a7002af0a17b7e80b1607aba978d858", func := "loop.example/g00036/laws.FnExactPolicyText", spec := "fnExactPolicyText", inPlace := ["sync/atomic.LoadUint32", "(*internal/sync.Mutex).Lock", "internal/race.Disable", "sync/atomic.CompareAndSwapInt32", "internal/race.Enable", "internal/race.Acquire", "(*internal/sync.Mutex).lockSlow", "internal/sync.runtime_canSpin", "internal/sync.runtime_doSpin", "internal/sync.throw", "internal/sync.runtime_nanotime", "internal/sync.runtime_SemacquireMutex", "sync/atomic.AddInt32", "(*internal/sync.Mutex).Unlock", "internal/race.ReleaseMerge", "(*internal/sync.Mutex).unlockSlow", "internal/sync.fatal", "internal/sync.runtime_Semrelease", "sync/atomic.StoreUint32", "internal/abi.NoEscape", "internal/bytealg.MakeNoZero"], unfollowed := true, recurses := true, named := ["loop.example/g00036/impl.yvars", "internal/strconv.uint64pow10", "math/bits.deBruijn32tab", "math/bits.deBruijn64tab", "loop.example/g00036/impl.yexprSign"], maps := true, apart := false, laid := [("math/bits.deBruijn32tab", laid_math_bits_deBruijn32tab), ("math/bits.deBruijn64tab", laid_math_bits_deBruijn64tab), ("internal/strconv.uint64pow10", laid_internal_strconv_uint64pow10), ("loop.example/g00036/impl.yvars", laid_loop_example_g00036_impl_yvars), ("loop.example/g00036/impl.yexprSign", laid_loop_example_g00036_impl_yexprSign)], narrowed := true }
def FnExactPolicyTextUptoSaid : Prop := fnExactPolicyTextUptoRow.holds Tryz.pinned (OpenSpec.upto fnExactPolicyTextSpec)

/-- 'laws.FnExactKindOf', WHERE WHAT IT READS IS OF BULK AT MOST 1048576: true; the input reads as it did. -/
def fnExactKindOfUptoRow : OpenClaim := { program := "ytpnloaokfmcpcaagreatdoor", sum := "2f76222d880d02446da951d2712c5c203a7002af0a17b7e80b1607aba978d858", func := "loop.example/g00036/laws.FnExactKindOf", spec := "fnExactKindOf", inPlace := ["sync/atomic.LoadUint32", "(*internal/sync.Mutex).Lock", "internal/race.Disable", "sync/atomic.CompareAndSwapInt32", "internal/race.Enable", "internal/race.Acquire", "(*internal/sync.Mutex).lockSlow", "internal/sync.runtime_canSpin", "internal/sync.runtime_doSpin", "internal/sync.throw", "internal/sync.runtime_nanotime", "internal/sync.runtime_SemacquireMutex", "sync/atomic.AddInt32", "(*internal/sync.Mutex).Unlock", "internal/race.ReleaseMerge", "(*internal/sync.Mutex).unlockSlow", "internal/sync.fatal", "internal/sync.runtime_Semrelease", "sync/atomic.StoreUint32", "internal/abi.NoEscape", "internal/bytealg.MakeNoZero"], unfollowed := true, recurses := true, named := ["loop.example/g00036/impl.yplainKinds", "loop.example/g00036/impl.yvars", "loop.example/g00036/impl.yexprSign", "internal/strconv.uint64pow10", "math/bits.deBruijn32tab", "math/bits.deBruijn64tab"], maps := true, apart := false, laid := [("math/bits.deBruijn32tab", laid_math_bits_deBruijn32tab), ("math/bits.deBruijn64tab", laid_math_bits_deBruijn64tab), ("internal/strconv.uint64pow10", laid_internal_strconv_uint64pow10), ("loop.example/g00036/impl.yvars", laid_loop_example_g00036_impl_yvars), ("loop.example/g00036/impl.yexprSign", laid_loop_example_g00036_impl_yexprSign), ("loop.example/g00036/impl.yplainKinds", laid_loop_example_g00036_impl_yplainKinds)], narrowed := true }
def FnExactKindOfUptoSaid : Prop := fnExactKindOfUptoRow.holds Tryz.pinned (OpenSpec.upto fnExactKindOfSpec)

end Rows
end Go.Proofs.YtpnloaokfmcpcaaGreatDoor
