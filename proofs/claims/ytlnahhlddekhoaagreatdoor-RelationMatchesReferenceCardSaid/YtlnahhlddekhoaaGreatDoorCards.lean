/-
  DERIVED. GIVEN WITH THE SEED: THE CARDS: each row of YtlnahhlddekhoaaGreatDoorRows.lean that lists a variable, with what it lists TIED to the program's text (the seventh form; the later family's looks); each row that meets fmt, with fmt's text TOLD by the authors' own Lean function (tested against real Go, not proved from fmt's source: count such statements apart). THE CARD IS WHAT COUNTS. Prove the row's statement (the work); the ties are given (YtlnahhlddekhoaaGreatDoorTie.lean); close each card by the builder's one call (the guide's Derived/Test/ToyasCard.lean, 'card_holds'). Laid BY PROGRAM, IN A SANDBOX (cutbox-door.mjs). By AI agents, Wed Nov 11 2026. No macro, syntax, notation, axiom, sorry.
-/
import Derived.Test.YtlnahhlddekhoaaGreatDoorRows
import GoSem.ClaimSeven
namespace Go.Proofs.YtlnahhlddekhoaaGreatDoor
namespace Rows

/-- THE TIED CARD OF 'relyguardlaw15.RelationMatchesReference'. -/
def relationMatchesReferenceCard : Claim7 := { stood := { row := relationMatchesReferenceRow, standIns := [], harness := (true, "2d76e8c8738910c691fb3ed66c2fc9fe4e28b8df1d6bda8b3bea9d3add2eba1e"), looks := false }, kinds := [], alts := [], laidByText := true, laidKinds := [.data, .data], laidTests := true, laidLooks := .later }
def RelationMatchesReferenceCardSaid : Prop := Claim7.holds Tryz.pinned (.plain (OpenSpec.ofChange relationMatchesReferenceSpec)) relationMatchesReferenceCard

/-- THE SECOND FORM's CARD OF 'relyguardlaw15.RelationMatchesReference'. -/
def relationMatchesReferenceUptoCard : Claim7 := { stood := { row := relationMatchesReferenceUptoRow, standIns := [], harness := (true, "2d76e8c8738910c691fb3ed66c2fc9fe4e28b8df1d6bda8b3bea9d3add2eba1e"), looks := false }, kinds := [], alts := [], laidByText := true, laidKinds := [.data, .data], laidTests := true, laidLooks := .later }
def RelationMatchesReferenceUptoCardSaid : Prop := Claim7.holds Tryz.pinned (.plain (OpenSpec.upto relationMatchesReferenceSpec)) relationMatchesReferenceUptoCard
end Rows
end Go.Proofs.YtlnahhlddekhoaaGreatDoor
