/-
  DERIVED. GIVEN WITH THE SEED: THE CARDS: each row of YtdkiijhmmmfciaaDoorRows.lean that lists a variable, with what it lists TIED to the program's text (the seventh form; the later family's looks); each row that meets fmt, with fmt's text TOLD by the authors' own Lean function (tested against real Go, not proved from fmt's source: count such statements apart). THE CARD IS WHAT COUNTS. Prove the row's statement (the work); the ties are given (YtdkiijhmmmfciaaDoorTie.lean); close each card by the builder's one call (the guide's Derived/Test/ToyasCard.lean, 'card_holds'). Laid BY PROGRAM, IN A SANDBOX (cutbox-door.mjs). By AI agents, Wed Nov 11 2026. No macro, syntax, notation, axiom, sorry.
-/
import Derived.Test.YtdkiijhmmmfciaaDoorRows
import GoSem.ClaimSeven
namespace Go.Proofs.YtdkiijhmmmfciaaDoor
namespace Rows

/-- THE TIED CARD OF 'gatewardenlaw11.TreeUnlike'. -/
def treeUnlikeCard : Claim7 := { stood := { row := treeUnlikeRow, standIns := [], harness := (true, "e5ca988d5b828907b3d95a0a4e47893e5dab3e6a8fd00f5e90a82afbed329cc6"), looks := false }, kinds := [], alts := [], laidByText := true, laidKinds := [.data, .data, .data], laidTests := true, laidLooks := .later }
def TreeUnlikeCardSaid : Prop := Claim7.holds Tryd.pinned (.plain (OpenSpec.ofChange treeUnlikeSpec)) treeUnlikeCard

/-- THE TIED CARD OF 'gatewardenlaw11.TreeCounts'. -/
def treeCountsCard : Claim7 := { stood := { row := treeCountsRow, standIns := [], harness := (true, "e5ca988d5b828907b3d95a0a4e47893e5dab3e6a8fd00f5e90a82afbed329cc6"), looks := false }, kinds := [], alts := [], laidByText := true, laidKinds := [.data, .data, .data], laidTests := true, laidLooks := .later }
def TreeCountsCardSaid : Prop := Claim7.holds Tryd.pinned (.plain (OpenSpec.ofChange treeCountsSpec)) treeCountsCard

/-- THE TIED CARD OF 'gatewardenlaw11.TreeTexts'. -/
def treeTextsCard : Claim7 := { stood := { row := treeTextsRow, standIns := [], harness := (true, "e5ca988d5b828907b3d95a0a4e47893e5dab3e6a8fd00f5e90a82afbed329cc6"), looks := false }, kinds := [], alts := [], laidByText := true, laidKinds := [.data, .data, .data], laidTests := true, laidLooks := .later }
def TreeTextsCardSaid : Prop := Claim7.holds Tryd.pinned (.plain (OpenSpec.ofChange treeTextsSpec)) treeTextsCard

/-- THE SECOND FORM's CARD OF 'gatewardenlaw11.TreeUnlike'. -/
def treeUnlikeUptoCard : Claim7 := { stood := { row := treeUnlikeUptoRow, standIns := [], harness := (true, "e5ca988d5b828907b3d95a0a4e47893e5dab3e6a8fd00f5e90a82afbed329cc6"), looks := false }, kinds := [], alts := [], laidByText := true, laidKinds := [.data, .data, .data], laidTests := true, laidLooks := .later }
def TreeUnlikeUptoCardSaid : Prop := Claim7.holds Tryd.pinned (.plain (OpenSpec.upto treeUnlikeSpec)) treeUnlikeUptoCard

/-- THE SECOND FORM's CARD OF 'gatewardenlaw11.TreeCounts'. -/
def treeCountsUptoCard : Claim7 := { stood := { row := treeCountsUptoRow, standIns := [], harness := (true, "e5ca988d5b828907b3d95a0a4e47893e5dab3e6a8fd00f5e90a82afbed329cc6"), looks := false }, kinds := [], alts := [], laidByText := true, laidKinds := [.data, .data, .data], laidTests := true, laidLooks := .later }
def TreeCountsUptoCardSaid : Prop := Claim7.holds Tryd.pinned (.plain (OpenSpec.upto treeCountsSpec)) treeCountsUptoCard

/-- THE SECOND FORM's CARD OF 'gatewardenlaw11.TreeTexts'. -/
def treeTextsUptoCard : Claim7 := { stood := { row := treeTextsUptoRow, standIns := [], harness := (true, "e5ca988d5b828907b3d95a0a4e47893e5dab3e6a8fd00f5e90a82afbed329cc6"), looks := false }, kinds := [], alts := [], laidByText := true, laidKinds := [.data, .data, .data], laidTests := true, laidLooks := .later }
def TreeTextsUptoCardSaid : Prop := Claim7.holds Tryd.pinned (.plain (OpenSpec.upto treeTextsSpec)) treeTextsUptoCard
end Rows
end Go.Proofs.YtdkiijhmmmfciaaDoor
