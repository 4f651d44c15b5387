/-
  DERIVED. GIVEN WITH THE SEED: THE CARDS: each row of YtfdbelnklcjogaaGreatDoorRows.lean that lists a variable, with what it lists TIED to the program's text (the seventh form; the later family's looks); each row that meets fmt, with fmt's text TOLD by the authors' own Lean function (tested against real Go, not proved from fmt's source: count such statements apart). THE CARD IS WHAT COUNTS. Prove the row's statement (the work); the ties are given (YtfdbelnklcjogaaGreatDoorTie.lean); close each card by the builder's one call (the guide's Derived/Test/ToyasCard.lean, 'card_holds'). Laid BY PROGRAM, IN A SANDBOX (cutbox-door.mjs). By AI agents, Wed Nov 11 2026. No macro, syntax, notation, axiom, sorry.
-/
import Derived.Test.YtfdbelnklcjogaaGreatDoorRows
import GoSem.ClaimSeven
namespace Go.Proofs.YtfdbelnklcjogaaGreatDoor
namespace Rows

/-- THE TIED CARD OF 'sennetlaw09.BulletinLedgers'. -/
def bulletinLedgersCard : Claim7 := { stood := { row := bulletinLedgersRow, standIns := [], harness := (true, "ac7d65eac63ce782356203ceaa4d96dc50626dc94df8a22403508c489c429d94"), looks := true }, kinds := [], alts := [], laidByText := true, laidKinds := [.data, .data, .data, .sentinel, .sentinel, .pinned, .data], laidTests := true, laidLooks := .later }
def BulletinLedgersCardSaid : Prop := Claim7.holds Tryz.pinned (.plain (OpenSpec.ofChange bulletinLedgersSpec)) bulletinLedgersCard

/-- THE TIED CARD OF 'sennetlaw09.BulletinViews'. -/
def bulletinViewsCard : Claim7 := { stood := { row := bulletinViewsRow, standIns := [], harness := (true, "ac7d65eac63ce782356203ceaa4d96dc50626dc94df8a22403508c489c429d94"), looks := true }, kinds := [], alts := [], laidByText := true, laidKinds := [.data, .data, .data, .sentinel, .sentinel, .pinned, .data], laidTests := true, laidLooks := .later }
def BulletinViewsCardSaid : Prop := Claim7.holds Tryz.pinned (.plain (OpenSpec.ofChange bulletinViewsSpec)) bulletinViewsCard

/-- THE SECOND FORM's CARD OF 'sennetlaw09.BulletinLedgers'. -/
def bulletinLedgersUptoCard : Claim7 := { stood := { row := bulletinLedgersUptoRow, standIns := [], harness := (true, "ac7d65eac63ce782356203ceaa4d96dc50626dc94df8a22403508c489c429d94"), looks := true }, kinds := [], alts := [], laidByText := true, laidKinds := [.data, .data, .data, .sentinel, .sentinel, .pinned, .data], laidTests := true, laidLooks := .later }
def BulletinLedgersUptoCardSaid : Prop := Claim7.holds Tryz.pinned (.plain (OpenSpec.upto bulletinLedgersSpec)) bulletinLedgersUptoCard

/-- THE SECOND FORM's CARD OF 'sennetlaw09.BulletinViews'. -/
def bulletinViewsUptoCard : Claim7 := { stood := { row := bulletinViewsUptoRow, standIns := [], harness := (true, "ac7d65eac63ce782356203ceaa4d96dc50626dc94df8a22403508c489c429d94"), looks := true }, kinds := [], alts := [], laidByText := true, laidKinds := [.data, .data, .data, .sentinel, .sentinel, .pinned, .data], laidTests := true, laidLooks := .later }
def BulletinViewsUptoCardSaid : Prop := Claim7.holds Tryz.pinned (.plain (OpenSpec.upto bulletinViewsSpec)) bulletinViewsUptoCard
end Rows
end Go.Proofs.YtfdbelnklcjogaaGreatDoor
