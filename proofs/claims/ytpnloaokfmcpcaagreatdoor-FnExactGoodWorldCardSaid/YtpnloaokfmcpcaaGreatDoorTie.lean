/-
  DERIVED. GIVEN WITH THE SEED: THE PROGRAM's TIES (one call each: nine closed facts by the kernel) AND EACH ROW's TIE, after the 31st guide's Derived/Test/Toyas{Tie, Card}.lean. No idea stands in it: it is a product of the set-up. Laid BY PROGRAM, IN A SANDBOX (cutbox-door.mjs). By AI agents, Wed Nov 11 2026. No macro, syntax, notation, axiom, sorry.
-/
import Derived.Test.YtpnloaokfmcpcaaGreatDoorRows
import Derived.LaidByTextLater
import Derived.SevenTiedAt
import Derived.LaidSub
import Derived.LaidOnce
namespace Go.Proofs.YtpnloaokfmcpcaaGreatDoor
open Go
set_option maxRecDepth 100000
theorem seatTie1 : Tryz.prog.laidByTextLater [("math/bits.deBruijn32tab", Rows.laid_math_bits_deBruijn32tab), ("math/bits.deBruijn64tab", Rows.laid_math_bits_deBruijn64tab), ("internal/strconv.uint64pow10", Rows.laid_internal_strconv_uint64pow10), ("loop.example/g00036/impl.yvars", Rows.laid_loop_example_g00036_impl_yvars), ("loop.example/g00036/impl.yexprSign", Rows.laid_loop_example_g00036_impl_yexprSign), ("loop.example/g00036/impl.yplainKinds", Rows.laid_loop_example_g00036_impl_yplainKinds)] [.data, .data, .data, .widerDeep, .mapped, .mapped] true :=
  Program.laidByTextLater_by_one 139 8 65 (by kernel_rfl) (by kernel_rfl) (by kernel_rfl) (by kernel_rfl) (by kernel_rfl) (by kernel_rfl) (fun _ _ => by kernel_rfl)
theorem noOwnUnsafe : Tryz.pinned.checked.prog.headLifts.contains "ownunsafe" = false := by kernel_rfl
theorem tie : Tryz.prog.laidByTextLater [("loop.example/g00036/impl.yplainKinds", Rows.laid_loop_example_g00036_impl_yplainKinds)] [.mapped] true :=
  Program.laidByTextLater.sub seatTie1 ["loop.example/g00036/impl.yplainKinds"] (by kernel_rfl) (by kernel_rfl)
theorem fnExactGoodWorld_row_tie : Rows.fnExactGoodWorldRow.laidByTextAt .later Tryz.pinned [.mapped] true :=
  OpenClaim.laidByTextAt_later rfl rfl tie noOwnUnsafe
theorem tie2 : Tryz.prog.laidByTextLater [("math/bits.deBruijn32tab", Rows.laid_math_bits_deBruijn32tab), ("math/bits.deBruijn64tab", Rows.laid_math_bits_deBruijn64tab), ("internal/strconv.uint64pow10", Rows.laid_internal_strconv_uint64pow10), ("loop.example/g00036/impl.yvars", Rows.laid_loop_example_g00036_impl_yvars), ("loop.example/g00036/impl.yexprSign", Rows.laid_loop_example_g00036_impl_yexprSign)] [.data, .data, .data, .widerDeep, .mapped] true :=
  Program.laidByTextLater.sub seatTie1 ["math/bits.deBruijn32tab", "math/bits.deBruijn64tab", "internal/strconv.uint64pow10", "loop.example/g00036/impl.yvars", "loop.example/g00036/impl.yexprSign"] (by kernel_rfl) (by kernel_rfl)
theorem fnExactExprText_row_tie : Rows.fnExactExprTextRow.laidByTextAt .later Tryz.pinned [.data, .data, .data, .widerDeep, .mapped] true :=
  OpenClaim.laidByTextAt_later rfl rfl tie2 noOwnUnsafe
theorem fnExactPolicyText_row_tie : Rows.fnExactPolicyTextRow.laidByTextAt .later Tryz.pinned [.data, .data, .data, .widerDeep, .mapped] true :=
  OpenClaim.laidByTextAt_later rfl rfl tie2 noOwnUnsafe
theorem tie3 : Tryz.prog.laidByTextLater [("math/bits.deBruijn32tab", Rows.laid_math_bits_deBruijn32tab), ("math/bits.deBruijn64tab", Rows.laid_math_bits_deBruijn64tab), ("internal/strconv.uint64pow10", Rows.laid_internal_strconv_uint64pow10), ("loop.example/g00036/impl.yvars", Rows.laid_loop_example_g00036_impl_yvars), ("loop.example/g00036/impl.yexprSign", Rows.laid_loop_example_g00036_impl_yexprSign), ("loop.example/g00036/impl.yplainKinds", Rows.laid_loop_example_g00036_impl_yplainKinds)] [.data, .data, .data, .widerDeep, .mapped, .mapped] true :=
  Program.laidByTextLater.sub seatTie1 ["math/bits.deBruijn32tab", "math/bits.deBruijn64tab", "internal/strconv.uint64pow10", "loop.example/g00036/impl.yvars", "loop.example/g00036/impl.yexprSign", "loop.example/g00036/impl.yplainKinds"] (by kernel_rfl) (by kernel_rfl)
theorem fnExactKindOf_row_tie : Rows.fnExactKindOfRow.laidByTextAt .later Tryz.pinned [.data, .data, .data, .widerDeep, .mapped, .mapped] true :=
  OpenClaim.laidByTextAt_later rfl rfl tie3 noOwnUnsafe
theorem fnExactGoodWorldUpto_row_tie : Rows.fnExactGoodWorldUptoRow.laidByTextAt .later Tryz.pinned [.mapped] true :=
  OpenClaim.laidByTextAt_later rfl rfl tie noOwnUnsafe
theorem fnExactExprTextUpto_row_tie : Rows.fnExactExprTextUptoRow.laidByTextAt .later Tryz.pinned [.data, .data, .data, .widerDeep, .mapped] true :=
  OpenClaim.laidByTextAt_later rfl rfl tie2 noOwnUnsafe
theorem fnExactPolicyTextUpto_row_tie : Rows.fnExactPolicyTextUptoRow.laidByTextAt .later Tryz.pinned [.data, .data, .data, .widerDeep, .mapped] true :=
  OpenClaim.laidByTextAt_later rfl rfl tie2 noOwnUnsafe
theorem fnExactKindOfUpto_row_tie : Rows.fnExactKindOfUptoRow.laidByTextAt .later Tryz.pinned [.data, .data, .data, .widerDeep, .mapped, .mapped] true :=
  OpenClaim.laidByTextAt_later rfl rfl tie3 noOwnUnsafe
end Go.Proofs.YtpnloaokfmcpcaaGreatDoor
