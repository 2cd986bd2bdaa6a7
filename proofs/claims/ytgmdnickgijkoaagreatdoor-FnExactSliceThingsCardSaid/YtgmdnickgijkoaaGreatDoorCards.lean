/-
  DERIVED. GIVEN WITH THE SEED: THE CARDS: each row of YtgmdnickgijkoaaGreatDoorRows.lean that lists a variable, with what it lists TIED to the program's text (the seventh form; the later family's looks); each row that meets fmt, with fmt's text TOLD by the authors' own Lean function (tested against real Go, not proved from fmt's source: count such statements apart). THE CARD IS WHAT COUNTS. Prove the row's statement (the work); the ties are given (YtgmdnickgijkoaaGreatDoorTie.lean); close each card by the builder's one call (the guide's Derived/Test/ToyasCard.lean, 'card_holds'). Laid BY PROGRAM, IN A SANDBOX (cutbox-door.mjs). By AI agents, Wed Nov 11 2026. No macro, syntax, notation, axiom, sorry.
-/
import Derived.Test.YtgmdnickgijkoaaGreatDoorRows
import GoSem.ClaimSeven
namespace Go.Proofs.YtgmdnickgijkoaaGreatDoor
namespace Rows

/-- THE TIED CARD OF 'laws.FnExactSliceThings'. -/
def fnExactSliceThingsCard : Claim7 := { stood := { row := fnExactSliceThingsRow, standIns := [], harness := (true, "e16a0e38c4df1b98649ac34566928d1d3618b5f59b33e550d05d03c4081f4af3"), looks := false }, kinds := [], alts := [], laidByText := true, laidKinds := [.widerDeep], laidTests := true, laidLooks := .later }
def FnExactSliceThingsCardSaid : Prop := Claim7.holds Tryz.pinned (.plain (OpenSpec.ofChange fnExactSliceThingsSpec)) fnExactSliceThingsCard

/-- THE TIED CARD OF 'laws.FnExactSlicePolicies'. -/
def fnExactSlicePoliciesCard : Claim7 := { stood := { row := fnExactSlicePoliciesRow, standIns := [], harness := (true, "e16a0e38c4df1b98649ac34566928d1d3618b5f59b33e550d05d03c4081f4af3"), looks := false }, kinds := [], alts := [], laidByText := true, laidKinds := [.widerDeep], laidTests := true, laidLooks := .later }
def FnExactSlicePoliciesCardSaid : Prop := Claim7.holds Tryz.pinned (.plain (OpenSpec.ofChange fnExactSlicePoliciesSpec)) fnExactSlicePoliciesCard

/-- THE SECOND FORM's CARD OF 'laws.FnExactSliceThings'. -/
def fnExactSliceThingsUptoCard : Claim7 := { stood := { row := fnExactSliceThingsUptoRow, standIns := [], harness := (true, "e16a0e38c4df1b98649ac34566928d1d3618b5f59b33e550d05d03c4081f4af3"), looks := false }, kinds := [], alts := [], laidByText := true, laidKinds := [.widerDeep], laidTests := true, laidLooks := .later }
def FnExactSliceThingsUptoCardSaid : Prop := Claim7.holds Tryz.pinned (.plain (OpenSpec.upto fnExactSliceThingsSpec)) fnExactSliceThingsUptoCard

/-- THE SECOND FORM's CARD OF 'laws.FnExactSlicePolicies'. -/
def fnExactSlicePoliciesUptoCard : Claim7 := { stood := { row := fnExactSlicePoliciesUptoRow, standIns := [], harness := (true, "e16a0e38c4df1b98649ac34566928d1d3618b5f59b33e550d05d03c4081f4af3"), looks := false }, kinds := [], alts := [], laidByText := true, laidKinds := [.widerDeep], laidTests := true, laidLooks := .later }
def FnExactSlicePoliciesUptoCardSaid : Prop := Claim7.holds Tryz.pinned (.plain (OpenSpec.upto fnExactSlicePoliciesSpec)) fnExactSlicePoliciesUptoCard
end Rows
end Go.Proofs.YtgmdnickgijkoaaGreatDoor
