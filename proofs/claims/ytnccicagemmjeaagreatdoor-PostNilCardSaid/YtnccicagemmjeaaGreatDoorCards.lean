/-
  DERIVED. GIVEN WITH THE SEED: THE CARDS: each row of YtnccicagemmjeaaGreatDoorRows.lean that lists a variable, with what it lists TIED to the program's text (the seventh form; the later family's looks); each row that meets fmt, with fmt's text TOLD by the authors' own Lean function (tested against real Go, not proved from fmt's source: count such statements apart). THE CARD IS WHAT COUNTS. Prove the row's statement (the work); the ties are given (YtnccicagemmjeaaGreatDoorTie.lean); close each card by the builder's one call (the guide's Derived/Test/ToyasCard.lean, 'card_holds'). Laid BY PROGRAM, IN A SANDBOX (cutbox-door.mjs). By AI agents, Wed Nov 11 2026. No macro, syntax, notation, axiom, sorry.
-/
import Derived.Test.YtnccicagemmjeaaGreatDoorRows
import GoSem.ClaimSeven
namespace Go.Proofs.YtnccicagemmjeaaGreatDoor
namespace Rows

/-- THE TIED CARD OF 'kinfolklaw19.PostNil'. -/
def postNilCard : Claim7 := { stood := { row := postNilRow, standIns := [], harness := (true, "eb8af5f09f03b59517f64572f304a9cadca7d0c4ced6e3c5ac8db614f40af388"), looks := true }, kinds := [], alts := [], laidByText := true, laidKinds := [.data, .pinned], laidTests := true, laidLooks := .later }
def PostNilCardSaid : Prop := Claim7.holds Tryz.pinned (.plain (OpenSpec.ofChange postNilSpec)) postNilCard

/-- THE SECOND FORM's CARD OF 'kinfolklaw19.PostNil'. -/
def postNilUptoCard : Claim7 := { stood := { row := postNilUptoRow, standIns := [], harness := (true, "eb8af5f09f03b59517f64572f304a9cadca7d0c4ced6e3c5ac8db614f40af388"), looks := true }, kinds := [], alts := [], laidByText := true, laidKinds := [.data, .pinned], laidTests := true, laidLooks := .later }
def PostNilUptoCardSaid : Prop := Claim7.holds Tryz.pinned (.plain (OpenSpec.upto postNilSpec)) postNilUptoCard
end Rows
end Go.Proofs.YtnccicagemmjeaaGreatDoor
