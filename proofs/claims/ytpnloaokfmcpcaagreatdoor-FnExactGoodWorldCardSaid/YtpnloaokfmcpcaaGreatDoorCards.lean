/-
  DERIVED. GIVEN WITH THE SEED: THE CARDS: each row of YtpnloaokfmcpcaaGreatDoorRows.lean that lists a variable, with what it lists TIED to the program's text (the seventh form; the later family's looks); each row that meets fmt, with fmt's text TOLD by the authors' own Lean function (tested against real Go, not proved from fmt's source: count such statements apart). THE CARD IS WHAT COUNTS. Prove the row's statement (the work); the ties are given (YtpnloaokfmcpcaaGreatDoorTie.lean); close each card by the builder's one call (the guide's Derived/Test/ToyasCard.lean, 'card_holds'). Laid BY PROGRAM, IN A SANDBOX (cutbox-door.mjs). By AI agents, Wed Nov 11 2026. No macro, syntax, notation, axiom, sorry.
-/
import Derived.Test.YtpnloaokfmcpcaaGreatDoorRows
import GoSem.ClaimSeven
namespace Go.Proofs.YtpnloaokfmcpcaaGreatDoor
namespace Rows

/-- THE TIED CARD OF 'laws.FnExactGoodWorld'. -/
def fnExactGoodWorldCard : Claim7 := { stood := { row := fnExactGoodWorldRow, standIns := [], harness := (true, "46663eba63a90106fe7ce59f7d7d29c1df27bcb937e5d8fe0d7f548777b8a437"), looks := true }, kinds := [], alts := [], laidByText := true, laidKinds := [.mapped], laidTests := true, laidLooks := .later }
def FnExactGoodWorldCardSaid : Prop := Claim7.holds Tryz.pinned (.plain (OpenSpec.ofChange fnExactGoodWorldSpec)) fnExactGoodWorldCard

/-- THE TIED CARD OF 'laws.FnExactExprText'. -/
def fnExactExprTextCard : Claim7 := { stood := { row := fnExactExprTextRow, standIns := [], harness := (true, "46663eba63a90106fe7ce59f7d7d29c1df27bcb937e5d8fe0d7f548777b8a437"), looks := true }, kinds := [], alts := [], laidByText := true, laidKinds := [.data, .data, .data, .widerDeep, .mapped], laidTests := true, laidLooks := .later }
def FnExactExprTextCardSaid : Prop := Claim7.holds Tryz.pinned (.plain (OpenSpec.ofChange fnExactExprTextSpec)) fnExactExprTextCard

/-- THE TIED CARD OF 'laws.FnExactPolicyText'. -/
def fnExactPolicyTextCard : Claim7 := { stood := { row := fnExactPolicyTextRow, standIns := [], harness := (true, "46663eba63a90106fe7ce59f7d7d29c1df27bcb937e5d8fe0d7f548777b8a437"), looks := true }, kinds := [], alts := [], laidByText := true, laidKinds := [.data, .data, .data, .widerDeep, .mapped], laidTests := true, laidLooks := .later }
def FnExactPolicyTextCardSaid : Prop := Claim7.holds Tryz.pinned (.plain (OpenSpec.ofChange fnExactPolicyTextSpec)) fnExactPolicyTextCard

/-- THE TIED CARD OF 'laws.FnExactKindOf'. -/
def fnExactKindOfCard : Claim7 := { stood := { row := fnExactKindOfRow, standIns := [], harness := (true, "46663eba63a90106fe7ce59f7d7d29c1df27bcb937e5d8fe0d7f548777b8a437"), looks := true }, kinds := [], alts := [], laidByText := true, laidKinds := [.data, .data, .data, .widerDeep, .mapped, .mapped], laidTests := true, laidLooks := .later }
def FnExactKindOfCardSaid : Prop := Claim7.holds Tryz.pinned (.plain (OpenSpec.ofChange fnExactKindOfSpec)) fnExactKindOfCard

/-- THE SECOND FORM's CARD OF 'laws.FnExactGoodWorld'. -/
def fnExactGoodWorldUptoCard : Claim7 := { stood := { row := fnExactGoodWorldUptoRow, standIns := [], harness := (true, "46663eba63a90106fe7ce59f7d7d29c1df27bcb937e5d8fe0d7f548777b8a437"), looks := true }, kinds := [], alts := [], laidByText := true, laidKinds := [.mapped], laidTests := true, laidLooks := .later }
def FnExactGoodWorldUptoCardSaid : Prop := Claim7.holds Tryz.pinned (.plain (OpenSpec.upto fnExactGoodWorldSpec)) fnExactGoodWorldUptoCard

/-- THE SECOND FORM's CARD OF 'laws.FnExactExprText'. -/
def fnExactExprTextUptoCard : Claim7 := { stood := { row := fnExactExprTextUptoRow, standIns := [], harness := (true, "46663eba63a90106fe7ce59f7d7d29c1df27bcb937e5d8fe0d7f548777b8a437"), looks := true }, kinds := [], alts := [], laidByText := true, laidKinds := [.data, .data, .data, .widerDeep, .mapped], laidTests := true, laidLooks := .later }
def FnExactExprTextUptoCardSaid : Prop := Claim7.holds Tryz.pinned (.plain (OpenSpec.upto fnExactExprTextSpec)) fnExactExprTextUptoCard

/-- THE SECOND FORM's CARD OF 'laws.FnExactPolicyText'. -/
def fnExactPolicyTextUptoCard : Claim7 := { stood := { row := fnExactPolicyTextUptoRow, standIns := [], harness := (true, "46663eba63a90106fe7ce59f7d7d29c1df27bcb937e5d8fe0d7f548777b8a437"), looks := true }, kinds := [], alts := [], laidByText := true, laidKinds := [.data, .data, .data, .widerDeep, .mapped], laidTests := true, laidLooks := .later }
def FnExactPolicyTextUptoCardSaid : Prop := Claim7.holds Tryz.pinned (.plain (OpenSpec.upto fnExactPolicyTextSpec)) fnExactPolicyTextUptoCard

/-- THE SECOND FORM's CARD OF 'laws.FnExactKindOf'. -/
def fnExactKindOfUptoCard : Claim7 := { stood := { row := fnExactKindOfUptoRow, standIns := [], harness := (true, "46663eba63a90106fe7ce59f7d7d29c1df27bcb937e5d8fe0d7f548777b8a437"), looks := true }, kinds := [], alts := [], laidByText := true, laidKinds := [.data, .data, .data, .widerDeep, .mapped, .mapped], laidTests := true, laidLooks := .later }
def FnExactKindOfUptoCardSaid : Prop := Claim7.holds Tryz.pinned (.plain (OpenSpec.upto fnExactKindOfSpec)) fnExactKindOfUptoCard
end Rows
end Go.Proofs.YtpnloaokfmcpcaaGreatDoor
