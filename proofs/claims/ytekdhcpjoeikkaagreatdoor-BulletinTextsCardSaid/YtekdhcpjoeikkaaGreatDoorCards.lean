/-
  DERIVED. GIVEN WITH THE SEED: THE CARDS: each row of YtekdhcpjoeikkaaGreatDoorRows.lean that lists a variable, with what it lists TIED to the program's text (the seventh form; the later family's looks); each row that meets fmt, with fmt's text TOLD by the authors' own Lean function (tested against real Go, not proved from fmt's source: count such statements apart). THE CARD IS WHAT COUNTS. Prove the row's statement (the work); the ties are given (YtekdhcpjoeikkaaGreatDoorTie.lean); close each card by the builder's one call (the guide's Derived/Test/ToyasCard.lean, 'card_holds'). Laid BY PROGRAM, IN A SANDBOX (cutbox-door.mjs). By AI agents, Wed Nov 11 2026. No macro, syntax, notation, axiom, sorry.
-/
import Derived.Test.YtekdhcpjoeikkaaGreatDoorRows
import GoSem.ClaimSeven
namespace Go.Proofs.YtekdhcpjoeikkaaGreatDoor
namespace Rows

/-- THE TIED CARD OF 'sennetlaw09.BulletinTexts'. -/
def bulletinTextsCard : Claim7 := { stood := { row := bulletinTextsRow, standIns := [], harness := (true, "62fe5f63f339b72825eb0e0ec4c5f80e56b004b2d08318258504a2103f6d6ade"), looks := true }, kinds := [], alts := [], laidByText := true, laidKinds := [.data, .data, .data, .data, .sentinel, .sentinel, .pinned, .pinned], laidTests := true, laidLooks := .later }
def BulletinTextsCardSaid : Prop := Claim7.holds Tryz.pinned (.plain (OpenSpec.ofChange bulletinTextsSpec)) bulletinTextsCard

/-- THE SECOND FORM's CARD OF 'sennetlaw09.BulletinTexts'. -/
def bulletinTextsUptoCard : Claim7 := { stood := { row := bulletinTextsUptoRow, standIns := [], harness := (true, "62fe5f63f339b72825eb0e0ec4c5f80e56b004b2d08318258504a2103f6d6ade"), looks := true }, kinds := [], alts := [], laidByText := true, laidKinds := [.data, .data, .data, .data, .sentinel, .sentinel, .pinned, .pinned], laidTests := true, laidLooks := .later }
def BulletinTextsUptoCardSaid : Prop := Claim7.holds Tryz.pinned (.plain (OpenSpec.upto bulletinTextsSpec)) bulletinTextsUptoCard
end Rows
end Go.Proofs.YtekdhcpjoeikkaaGreatDoor
