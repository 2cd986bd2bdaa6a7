/-
  DERIVED. GIVEN WITH THE SEED: THE CARDS: each row of YtgmdnickgijkoaaDoorRows.lean that lists a variable, with what it lists TIED to the program's text (the seventh form; the later family's looks); each row that meets fmt, with fmt's text TOLD by the authors' own Lean function (tested against real Go, not proved from fmt's source: count such statements apart). THE CARD IS WHAT COUNTS. Prove the row's statement (the work); the ties are given (YtgmdnickgijkoaaDoorTie.lean); close each card by the builder's one call (the guide's Derived/Test/ToyasCard.lean, 'card_holds'). Laid BY PROGRAM, IN A SANDBOX (cutbox-door.mjs). By AI agents, Wed Nov 11 2026. No macro, syntax, notation, axiom, sorry.
-/
import Derived.Test.YtgmdnickgijkoaaDoorRows
import GoSem.ClaimSeven
namespace Go.Proofs.YtgmdnickgijkoaaDoor
namespace Rows

/-- THE TIED CARD OF 'laws.FnExactLinkPolicy'. -/
def fnExactLinkPolicyCard : Claim7 := { stood := { row := fnExactLinkPolicyRow, standIns := [], harness := (true, "3c2d44d6ca4a6dd01e79ee01fc71041e7652b3919d7b17ad4c2d5d5c262bef35"), looks := false }, kinds := [], alts := [], laidByText := true, laidKinds := [.widerDeep], laidTests := true, laidLooks := .later }
def FnExactLinkPolicyCardSaid : Prop := Claim7.holds Tryd.pinned (.plain (OpenSpec.ofChange fnExactLinkPolicySpec)) fnExactLinkPolicyCard

/-- THE TIED CARD OF 'laws.FnExactMineRoles'. -/
def fnExactMineRolesCard : Claim7 := { stood := { row := fnExactMineRolesRow, standIns := [], harness := (true, "3c2d44d6ca4a6dd01e79ee01fc71041e7652b3919d7b17ad4c2d5d5c262bef35"), looks := false }, kinds := [], alts := [], laidByText := true, laidKinds := [.data, .data, .data], laidTests := true, laidLooks := .later }
def FnExactMineRolesCardSaid : Prop := Claim7.holds Tryd.pinned (.plain (OpenSpec.ofChange fnExactMineRolesSpec)) fnExactMineRolesCard

/-- THE SECOND FORM's CARD OF 'laws.FnExactLinkPolicy'. -/
def fnExactLinkPolicyUptoCard : Claim7 := { stood := { row := fnExactLinkPolicyUptoRow, standIns := [], harness := (true, "3c2d44d6ca4a6dd01e79ee01fc71041e7652b3919d7b17ad4c2d5d5c262bef35"), looks := false }, kinds := [], alts := [], laidByText := true, laidKinds := [.widerDeep], laidTests := true, laidLooks := .later }
def FnExactLinkPolicyUptoCardSaid : Prop := Claim7.holds Tryd.pinned (.plain (OpenSpec.upto fnExactLinkPolicySpec)) fnExactLinkPolicyUptoCard

/-- THE SECOND FORM's CARD OF 'laws.FnExactMineRoles'. -/
def fnExactMineRolesUptoCard : Claim7 := { stood := { row := fnExactMineRolesUptoRow, standIns := [], harness := (true, "3c2d44d6ca4a6dd01e79ee01fc71041e7652b3919d7b17ad4c2d5d5c262bef35"), looks := false }, kinds := [], alts := [], laidByText := true, laidKinds := [.data, .data, .data], laidTests := true, laidLooks := .later }
def FnExactMineRolesUptoCardSaid : Prop := Claim7.holds Tryd.pinned (.plain (OpenSpec.upto fnExactMineRolesSpec)) fnExactMineRolesUptoCard
end Rows
end Go.Proofs.YtgmdnickgijkoaaDoor
