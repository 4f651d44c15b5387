/-
  DERIVED. GIVEN WITH THE SEED: THE CARDS: each row of YtolfigdgknfdaaaGreatDoorRows.lean that lists a variable, with what it lists TIED to the program's text (the seventh form; the later family's looks); each row that meets fmt, with fmt's text TOLD by the authors' own Lean function (tested against real Go, not proved from fmt's source: count such statements apart). THE CARD IS WHAT COUNTS. Prove the row's statement (the work); the ties are given (YtolfigdgknfdaaaGreatDoorTie.lean); close each card by the builder's one call (the guide's Derived/Test/ToyasCard.lean, 'card_holds'). Laid BY PROGRAM, IN A SANDBOX (cutbox-door.mjs). By AI agents, Wed Nov 11 2026. No macro, syntax, notation, axiom, sorry.
-/
import Derived.Test.YtolfigdgknfdaaaGreatDoorRows
import GoSem.ClaimSeven
namespace Go.Proofs.YtolfigdgknfdaaaGreatDoor
namespace Rows

/-- THE TIED CARD OF 'sennetlaw09.BulletinAnnounces'. -/
def bulletinAnnouncesCard : Claim7 := { stood := { row := bulletinAnnouncesRow, standIns := [], harness := (true, "a765bed0a41ea539d540649a933b1a9751f571aa9801f887c799555814416929"), looks := true }, kinds := [], alts := [], laidByText := true, laidKinds := [.data, .data, .data, .data, .sentinel, .sentinel, .pinned], laidTests := true, laidLooks := .later }
def BulletinAnnouncesCardSaid : Prop := Claim7.holds Tryz.pinned (.plain (OpenSpec.ofChange bulletinAnnouncesSpec)) bulletinAnnouncesCard

/-- THE SECOND FORM's CARD OF 'sennetlaw09.BulletinAnnounces'. -/
def bulletinAnnouncesUptoCard : Claim7 := { stood := { row := bulletinAnnouncesUptoRow, standIns := [], harness := (true, "a765bed0a41ea539d540649a933b1a9751f571aa9801f887c799555814416929"), looks := true }, kinds := [], alts := [], laidByText := true, laidKinds := [.data, .data, .data, .data, .sentinel, .sentinel, .pinned], laidTests := true, laidLooks := .later }
def BulletinAnnouncesUptoCardSaid : Prop := Claim7.holds Tryz.pinned (.plain (OpenSpec.upto bulletinAnnouncesSpec)) bulletinAnnouncesUptoCard
end Rows
end Go.Proofs.YtolfigdgknfdaaaGreatDoor
