/-
  DERIVED. GIVEN WITH THE SEED: THE PROGRAM's TIES (one call each: nine closed facts by the kernel) AND EACH ROW's TIE, after the 31st guide's Derived/Test/Toyas{Tie, Card}.lean. No idea stands in it: it is a product of the set-up. Laid BY PROGRAM, IN A SANDBOX (cutbox-door.mjs). By AI agents, Wed Nov 11 2026. No macro, syntax, notation, axiom, sorry.
-/
import Derived.Test.YthnejijnpepgjaaDoorRows
import Derived.LaidByTextLater
import Derived.SevenTiedAt
import Derived.LaidSub
import Derived.LaidOnce
namespace Go.Proofs.YthnejijnpepgjaaDoor
open Go
set_option maxRecDepth 100000
theorem seatTie1 : Tryd.prog.laidByTextLater [("loop.example/g00036/impl.yvars", Rows.laid_loop_example_g00036_impl_yvars), ("loop.example/g00036/impl.yplainKinds", Rows.laid_loop_example_g00036_impl_yplainKinds)] [.widerDeep, .mapped] true :=
  Program.laidByTextLater_by_one 49 8 5 (by kernel_rfl) (by kernel_rfl) (by kernel_rfl) (by kernel_rfl) (by kernel_rfl) (by kernel_rfl) (fun _ _ => by kernel_rfl)
theorem noOwnUnsafe : Tryd.pinned.checked.prog.headLifts.contains "ownunsafe" = false := by kernel_rfl
theorem tie : Tryd.prog.laidByTextLater [("loop.example/g00036/impl.yplainKinds", Rows.laid_loop_example_g00036_impl_yplainKinds)] [.mapped] true :=
  Program.laidByTextLater.sub seatTie1 ["loop.example/g00036/impl.yplainKinds"] (by kernel_rfl) (by kernel_rfl)
theorem fnExactFitsKind_row_tie : Rows.fnExactFitsKindRow.laidByTextAt .later Tryd.pinned [.mapped] true :=
  OpenClaim.laidByTextAt_later rfl rfl tie noOwnUnsafe
theorem fnExactGoodPolSchema_row_tie : Rows.fnExactGoodPolSchemaRow.laidByTextAt .later Tryd.pinned [.mapped] true :=
  OpenClaim.laidByTextAt_later rfl rfl tie noOwnUnsafe
theorem tie2 : Tryd.prog.laidByTextLater [("loop.example/g00036/impl.yvars", Rows.laid_loop_example_g00036_impl_yvars)] [.widerDeep] true :=
  Program.laidByTextLater.sub seatTie1 ["loop.example/g00036/impl.yvars"] (by kernel_rfl) (by kernel_rfl)
theorem fnExactGoodPolicy_row_tie : Rows.fnExactGoodPolicyRow.laidByTextAt .later Tryd.pinned [.widerDeep] true :=
  OpenClaim.laidByTextAt_later rfl rfl tie2 noOwnUnsafe
theorem fnExactFitsKindUpto_row_tie : Rows.fnExactFitsKindUptoRow.laidByTextAt .later Tryd.pinned [.mapped] true :=
  OpenClaim.laidByTextAt_later rfl rfl tie noOwnUnsafe
theorem fnExactGoodPolSchemaUpto_row_tie : Rows.fnExactGoodPolSchemaUptoRow.laidByTextAt .later Tryd.pinned [.mapped] true :=
  OpenClaim.laidByTextAt_later rfl rfl tie noOwnUnsafe
theorem fnExactGoodPolicyUpto_row_tie : Rows.fnExactGoodPolicyUptoRow.laidByTextAt .later Tryd.pinned [.widerDeep] true :=
  OpenClaim.laidByTextAt_later rfl rfl tie2 noOwnUnsafe
end Go.Proofs.YthnejijnpepgjaaDoor
