/-
  DERIVED. GIVEN WITH THE SEED: THE CARDS: each row of YtanmdooeaaafkaaGreatDoorRows.lean that lists a variable, with what it lists TIED to the program's text (the seventh form; the later family's looks); each row that meets fmt, with fmt's text TOLD by the authors' own Lean function (tested against real Go, not proved from fmt's source: count such statements apart). THE CARD IS WHAT COUNTS. Prove the row's statement (the work); the ties are given (YtanmdooeaaafkaaGreatDoorTie.lean); close each card by the builder's one call (the guide's Derived/Test/ToyasCard.lean, 'card_holds'). Laid BY PROGRAM, IN A SANDBOX (cutbox-door.mjs). By AI agents, Wed Nov 11 2026. No macro, syntax, notation, axiom, sorry.
-/
import Derived.Test.YtanmdooeaaafkaaGreatDoorRows
import GoSem.ClaimSeven
namespace Go.Proofs.YtanmdooeaaafkaaGreatDoor
namespace Rows

/-- THE TIED CARD OF 'sennetlaw09.BulletinSums'. -/
def bulletinSumsCard : Claim7 := { stood := { row := bulletinSumsRow, standIns := [], harness := (true, "46764648e32fe722d284563d26bb1822674c7c4b489d44be6ed8b25ad3983281"), looks := true }, kinds := [], alts := [], laidByText := true, laidKinds := [.data, .data, .data, .data, .sentinel, .sentinel, .pinned], laidTests := true, laidLooks := .later }
def BulletinSumsCardSaid : Prop := Claim7.holds Tryz.pinned (.plain (OpenSpec.ofChange bulletinSumsSpec)) bulletinSumsCard

/-- THE TIED CARD OF 'sennetlaw09.BulletinNexts'. -/
def bulletinNextsCard : Claim7 := { stood := { row := bulletinNextsRow, standIns := [], harness := (true, "46764648e32fe722d284563d26bb1822674c7c4b489d44be6ed8b25ad3983281"), looks := true }, kinds := [], alts := [], laidByText := true, laidKinds := [.data, .data, .data, .data, .sentinel, .sentinel, .pinned], laidTests := true, laidLooks := .later }
def BulletinNextsCardSaid : Prop := Claim7.holds Tryz.pinned (.plain (OpenSpec.ofChange bulletinNextsSpec)) bulletinNextsCard

/-- THE TIED CARD OF 'sennetlaw09.BulletinDigests'. -/
def bulletinDigestsCard : Claim7 := { stood := { row := bulletinDigestsRow, standIns := [], harness := (true, "46764648e32fe722d284563d26bb1822674c7c4b489d44be6ed8b25ad3983281"), looks := true }, kinds := [], alts := [], laidByText := true, laidKinds := [.data, .data, .data, .data, .sentinel, .sentinel, .pinned], laidTests := true, laidLooks := .later }
def BulletinDigestsCardSaid : Prop := Claim7.holds Tryz.pinned (.plain (OpenSpec.ofChange bulletinDigestsSpec)) bulletinDigestsCard

/-- THE TIED CARD OF 'sennetlaw09.BulletinLinks'. -/
def bulletinLinksCard : Claim7 := { stood := { row := bulletinLinksRow, standIns := [], harness := (true, "46764648e32fe722d284563d26bb1822674c7c4b489d44be6ed8b25ad3983281"), looks := true }, kinds := [], alts := [], laidByText := true, laidKinds := [.data, .data, .data, .data, .sentinel, .sentinel, .pinned], laidTests := true, laidLooks := .later }
def BulletinLinksCardSaid : Prop := Claim7.holds Tryz.pinned (.plain (OpenSpec.ofChange bulletinLinksSpec)) bulletinLinksCard

/-- THE SECOND FORM's CARD OF 'sennetlaw09.BulletinSums'. -/
def bulletinSumsUptoCard : Claim7 := { stood := { row := bulletinSumsUptoRow, standIns := [], harness := (true, "46764648e32fe722d284563d26bb1822674c7c4b489d44be6ed8b25ad3983281"), looks := true }, kinds := [], alts := [], laidByText := true, laidKinds := [.data, .data, .data, .data, .sentinel, .sentinel, .pinned], laidTests := true, laidLooks := .later }
def BulletinSumsUptoCardSaid : Prop := Claim7.holds Tryz.pinned (.plain (OpenSpec.upto bulletinSumsSpec)) bulletinSumsUptoCard

/-- THE SECOND FORM's CARD OF 'sennetlaw09.BulletinNexts'. -/
def bulletinNextsUptoCard : Claim7 := { stood := { row := bulletinNextsUptoRow, standIns := [], harness := (true, "46764648e32fe722d284563d26bb1822674c7c4b489d44be6ed8b25ad3983281"), looks := true }, kinds := [], alts := [], laidByText := true, laidKinds := [.data, .data, .data, .data, .sentinel, .sentinel, .pinned], laidTests := true, laidLooks := .later }
def BulletinNextsUptoCardSaid : Prop := Claim7.holds Tryz.pinned (.plain (OpenSpec.upto bulletinNextsSpec)) bulletinNextsUptoCard

/-- THE SECOND FORM's CARD OF 'sennetlaw09.BulletinDigests'. -/
def bulletinDigestsUptoCard : Claim7 := { stood := { row := bulletinDigestsUptoRow, standIns := [], harness := (true, "46764648e32fe722d284563d26bb1822674c7c4b489d44be6ed8b25ad3983281"), looks := true }, kinds := [], alts := [], laidByText := true, laidKinds := [.data, .data, .data, .data, .sentinel, .sentinel, .pinned], laidTests := true, laidLooks := .later }
def BulletinDigestsUptoCardSaid : Prop := Claim7.holds Tryz.pinned (.plain (OpenSpec.upto bulletinDigestsSpec)) bulletinDigestsUptoCard

/-- THE SECOND FORM's CARD OF 'sennetlaw09.BulletinLinks'. -/
def bulletinLinksUptoCard : Claim7 := { stood := { row := bulletinLinksUptoRow, standIns := [], harness := (true, "46764648e32fe722d284563d26bb1822674c7c4b489d44be6ed8b25ad3983281"), looks := true }, kinds := [], alts := [], laidByText := true, laidKinds := [.data, .data, .data, .data, .sentinel, .sentinel, .pinned], laidTests := true, laidLooks := .later }
def BulletinLinksUptoCardSaid : Prop := Claim7.holds Tryz.pinned (.plain (OpenSpec.upto bulletinLinksSpec)) bulletinLinksUptoCard
end Rows
end Go.Proofs.YtanmdooeaaafkaaGreatDoor
