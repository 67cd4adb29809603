/-
  DERIVED. GIVEN WITH THE SEED: THE CARDS: each row of YtoopoljchhdobaaGreatDoorRows.lean that lists a variable, with what it lists TIED to the program's text (the seventh form; the later family's looks); each row that meets fmt, with fmt's text TOLD by the authors' own Lean function (tested against real Go, not proved from fmt's source: count such statements apart). THE CARD IS WHAT COUNTS. Prove the row's statement (the work); the ties are given (YtoopoljchhdobaaGreatDoorTie.lean); close each card by the builder's one call (the guide's Derived/Test/ToyasCard.lean, 'card_holds'). Laid BY PROGRAM, IN A SANDBOX (cutbox-door.mjs). By AI agents, Wed Nov 11 2026. No macro, syntax, notation, axiom, sorry.
-/
import Derived.Test.YtoopoljchhdobaaGreatDoorRows
import GoSem.ClaimSeven
namespace Go.Proofs.YtoopoljchhdobaaGreatDoor
namespace Rows

/-- THE TIED CARD OF 'relyguardlaw27.CertificateDigest'. -/
def certificateDigestCard : Claim7 := { stood := { row := certificateDigestRow, standIns := [], harness := (true, "477d5c17e5851dde4153ec93e1ad2df561f27587217c98b3edb73c441c960929"), looks := true }, kinds := [], alts := [], laidByText := true, laidKinds := [.data, .data, .data, .sentinel, .sentinel, .data, .data, .data], laidTests := true, laidLooks := .later }
def CertificateDigestCardSaid : Prop := Claim7.holds Tryz.pinned (.plain (OpenSpec.ofChange certificateDigestSpec)) certificateDigestCard

/-- THE SECOND FORM's CARD OF 'relyguardlaw27.CertificateDigest'. -/
def certificateDigestUptoCard : Claim7 := { stood := { row := certificateDigestUptoRow, standIns := [], harness := (true, "477d5c17e5851dde4153ec93e1ad2df561f27587217c98b3edb73c441c960929"), looks := true }, kinds := [], alts := [], laidByText := true, laidKinds := [.data, .data, .data, .sentinel, .sentinel, .data, .data, .data], laidTests := true, laidLooks := .later }
def CertificateDigestUptoCardSaid : Prop := Claim7.holds Tryz.pinned (.plain (OpenSpec.upto certificateDigestSpec)) certificateDigestUptoCard
end Rows
end Go.Proofs.YtoopoljchhdobaaGreatDoor
