/-
  DERIVED. GIVEN WITH THE SEED: THE CARDS: each row of YthnejijnpepgjaaDoorRows.lean that lists a variable, with what it lists TIED to the program's text (the seventh form; the later family's looks); each row that meets fmt, with fmt's text TOLD by the authors' own Lean function (tested against real Go, not proved from fmt's source: count such statements apart). THE CARD IS WHAT COUNTS. Prove the row's statement (the work); the ties are given (YthnejijnpepgjaaDoorTie.lean); close each card by the builder's one call (the guide's Derived/Test/ToyasCard.lean, 'card_holds'). Laid BY PROGRAM, IN A SANDBOX (cutbox-door.mjs). By AI agents, Wed Nov 11 2026. No macro, syntax, notation, axiom, sorry.
-/
import Derived.Test.YthnejijnpepgjaaDoorRows
import GoSem.ClaimSeven
namespace Go.Proofs.YthnejijnpepgjaaDoor
namespace Rows

/-- THE TIED CARD OF 'laws.FnExactFitsKind'. -/
def fnExactFitsKindCard : Claim7 := { stood := { row := fnExactFitsKindRow, standIns := [], harness := (true, "50545f335bc3cc7383c1d81d687c1d5228b270a978d7998591113ecaa71cf5f8"), looks := false }, kinds := [], alts := [], laidByText := true, laidKinds := [.mapped], laidTests := true, laidLooks := .later }
def FnExactFitsKindCardSaid : Prop := Claim7.holds Tryd.pinned (.plain (OpenSpec.ofChange fnExactFitsKindSpec)) fnExactFitsKindCard

/-- THE TIED CARD OF 'laws.FnExactGoodPolSchema'. -/
def fnExactGoodPolSchemaCard : Claim7 := { stood := { row := fnExactGoodPolSchemaRow, standIns := [], harness := (true, "50545f335bc3cc7383c1d81d687c1d5228b270a978d7998591113ecaa71cf5f8"), looks := false }, kinds := [], alts := [], laidByText := true, laidKinds := [.mapped], laidTests := true, laidLooks := .later }
def FnExactGoodPolSchemaCardSaid : Prop := Claim7.holds Tryd.pinned (.plain (OpenSpec.ofChange fnExactGoodPolSchemaSpec)) fnExactGoodPolSchemaCard

/-- THE TIED CARD OF 'laws.FnExactGoodPolicy'. -/
def fnExactGoodPolicyCard : Claim7 := { stood := { row := fnExactGoodPolicyRow, standIns := [], harness := (true, "50545f335bc3cc7383c1d81d687c1d5228b270a978d7998591113ecaa71cf5f8"), looks := false }, kinds := [], alts := [], laidByText := true, laidKinds := [.widerDeep], laidTests := true, laidLooks := .later }
def FnExactGoodPolicyCardSaid : Prop := Claim7.holds Tryd.pinned (.plain (OpenSpec.ofChange fnExactGoodPolicySpec)) fnExactGoodPolicyCard

/-- THE SECOND FORM's CARD OF 'laws.FnExactFitsKind'. -/
def fnExactFitsKindUptoCard : Claim7 := { stood := { row := fnExactFitsKindUptoRow, standIns := [], harness := (true, "50545f335bc3cc7383c1d81d687c1d5228b270a978d7998591113ecaa71cf5f8"), looks := false }, kinds := [], alts := [], laidByText := true, laidKinds := [.mapped], laidTests := true, laidLooks := .later }
def FnExactFitsKindUptoCardSaid : Prop := Claim7.holds Tryd.pinned (.plain (OpenSpec.upto fnExactFitsKindSpec)) fnExactFitsKindUptoCard

/-- THE SECOND FORM's CARD OF 'laws.FnExactGoodPolSchema'. -/
def fnExactGoodPolSchemaUptoCard : Claim7 := { stood := { row := fnExactGoodPolSchemaUptoRow, standIns := [], harness := (true, "50545f335bc3cc7383c1d81d687c1d5228b270a978d7998591113ecaa71cf5f8"), looks := false }, kinds := [], alts := [], laidByText := true, laidKinds := [.mapped], laidTests := true, laidLooks := .later }
def FnExactGoodPolSchemaUptoCardSaid : Prop := Claim7.holds Tryd.pinned (.plain (OpenSpec.upto fnExactGoodPolSchemaSpec)) fnExactGoodPolSchemaUptoCard

/-- THE SECOND FORM's CARD OF 'laws.FnExactGoodPolicy'. -/
def fnExactGoodPolicyUptoCard : Claim7 := { stood := { row := fnExactGoodPolicyUptoRow, standIns := [], harness := (true, "50545f335bc3cc7383c1d81d687c1d5228b270a978d7998591113ecaa71cf5f8"), looks := false }, kinds := [], alts := [], laidByText := true, laidKinds := [.widerDeep], laidTests := true, laidLooks := .later }
def FnExactGoodPolicyUptoCardSaid : Prop := Claim7.holds Tryd.pinned (.plain (OpenSpec.upto fnExactGoodPolicySpec)) fnExactGoodPolicyUptoCard
end Rows
end Go.Proofs.YthnejijnpepgjaaDoor
