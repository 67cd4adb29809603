/-
  DERIVED. GIVEN WITH THE SEED: THE CARDS: each row of YtoopoljchhdobaaDoorRows.lean that lists a variable, with what it lists TIED to the program's text (the seventh form; the later family's looks); each row that meets fmt, with fmt's text TOLD by the authors' own Lean function (tested against real Go, not proved from fmt's source: count such statements apart). THE CARD IS WHAT COUNTS. Prove the row's statement (the work); the ties are given (YtoopoljchhdobaaDoorTie.lean); close each card by the builder's one call (the guide's Derived/Test/ToyasCard.lean, 'card_holds'). Laid BY PROGRAM, IN A SANDBOX (cutbox-door.mjs). By AI agents, Wed Nov 11 2026. No macro, syntax, notation, axiom, sorry.
-/
import Derived.Test.YtoopoljchhdobaaDoorRows
import GoSem.ClaimSeven
namespace Go.Proofs.YtoopoljchhdobaaDoor
namespace Rows

/-- THE TIED CARD OF 'relyguardlaw27.CertificateRoundTrip'. -/
def certificateRoundTripCard : Claim7 := { stood := { row := certificateRoundTripRow, standIns := [], harness := (true, "4e91e32e78c9de7520ca929c0f187147beaaea535e79a202fdcd094ff02822ef"), looks := true }, kinds := [], alts := [], laidByText := true, laidKinds := [.data, .data, .data, .sentinel, .sentinel, .data, .data, .data], laidTests := true, laidLooks := .later }
def CertificateRoundTripCardSaid : Prop := Claim7.holds Tryd.pinned (.plain (OpenSpec.ofChange certificateRoundTripSpec)) certificateRoundTripCard

/-- THE TIED CARD OF 'relyguardlaw27.CertificateTruncation'. -/
def certificateTruncationCard : Claim7 := { stood := { row := certificateTruncationRow, standIns := [], harness := (true, "4e91e32e78c9de7520ca929c0f187147beaaea535e79a202fdcd094ff02822ef"), looks := true }, kinds := [], alts := [], laidByText := true, laidKinds := [.data, .data, .data, .sentinel, .sentinel, .data, .data, .data], laidTests := true, laidLooks := .later }
def CertificateTruncationCardSaid : Prop := Claim7.holds Tryd.pinned (.plain (OpenSpec.ofChange certificateTruncationSpec)) certificateTruncationCard

/-- THE TIED CARD OF 'relyguardlaw27.CertificateLines'. -/
def certificateLinesCard : Claim7 := { stood := { row := certificateLinesRow, standIns := [], harness := (true, "4e91e32e78c9de7520ca929c0f187147beaaea535e79a202fdcd094ff02822ef"), looks := true }, kinds := [], alts := [], laidByText := true, laidKinds := [.data, .data, .data, .sentinel, .sentinel, .data, .data, .data], laidTests := true, laidLooks := .later }
def CertificateLinesCardSaid : Prop := Claim7.holds Tryd.pinned (.plain (OpenSpec.ofChange certificateLinesSpec)) certificateLinesCard

/-- THE TIED CARD OF 'relyguardlaw27.CertificateMatching'. -/
def certificateMatchingCard : Claim7 := { stood := { row := certificateMatchingRow, standIns := [], harness := (true, "4e91e32e78c9de7520ca929c0f187147beaaea535e79a202fdcd094ff02822ef"), looks := true }, kinds := [], alts := [], laidByText := true, laidKinds := [.data, .data, .data, .sentinel, .sentinel, .data, .data, .data], laidTests := true, laidLooks := .later }
def CertificateMatchingCardSaid : Prop := Claim7.holds Tryd.pinned (.plain (OpenSpec.ofChange certificateMatchingSpec)) certificateMatchingCard

/-- THE SECOND FORM's CARD OF 'relyguardlaw27.CertificateRoundTrip'. -/
def certificateRoundTripUptoCard : Claim7 := { stood := { row := certificateRoundTripUptoRow, standIns := [], harness := (true, "4e91e32e78c9de7520ca929c0f187147beaaea535e79a202fdcd094ff02822ef"), looks := true }, kinds := [], alts := [], laidByText := true, laidKinds := [.data, .data, .data, .sentinel, .sentinel, .data, .data, .data], laidTests := true, laidLooks := .later }
def CertificateRoundTripUptoCardSaid : Prop := Claim7.holds Tryd.pinned (.plain (OpenSpec.upto certificateRoundTripSpec)) certificateRoundTripUptoCard

/-- THE SECOND FORM's CARD OF 'relyguardlaw27.CertificateTruncation'. -/
def certificateTruncationUptoCard : Claim7 := { stood := { row := certificateTruncationUptoRow, standIns := [], harness := (true, "4e91e32e78c9de7520ca929c0f187147beaaea535e79a202fdcd094ff02822ef"), looks := true }, kinds := [], alts := [], laidByText := true, laidKinds := [.data, .data, .data, .sentinel, .sentinel, .data, .data, .data], laidTests := true, laidLooks := .later }
def CertificateTruncationUptoCardSaid : Prop := Claim7.holds Tryd.pinned (.plain (OpenSpec.upto certificateTruncationSpec)) certificateTruncationUptoCard

/-- THE SECOND FORM's CARD OF 'relyguardlaw27.CertificateLines'. -/
def certificateLinesUptoCard : Claim7 := { stood := { row := certificateLinesUptoRow, standIns := [], harness := (true, "4e91e32e78c9de7520ca929c0f187147beaaea535e79a202fdcd094ff02822ef"), looks := true }, kinds := [], alts := [], laidByText := true, laidKinds := [.data, .data, .data, .sentinel, .sentinel, .data, .data, .data], laidTests := true, laidLooks := .later }
def CertificateLinesUptoCardSaid : Prop := Claim7.holds Tryd.pinned (.plain (OpenSpec.upto certificateLinesSpec)) certificateLinesUptoCard

/-- THE SECOND FORM's CARD OF 'relyguardlaw27.CertificateMatching'. -/
def certificateMatchingUptoCard : Claim7 := { stood := { row := certificateMatchingUptoRow, standIns := [], harness := (true, "4e91e32e78c9de7520ca929c0f187147beaaea535e79a202fdcd094ff02822ef"), looks := true }, kinds := [], alts := [], laidByText := true, laidKinds := [.data, .data, .data, .sentinel, .sentinel, .data, .data, .data], laidTests := true, laidLooks := .later }
def CertificateMatchingUptoCardSaid : Prop := Claim7.holds Tryd.pinned (.plain (OpenSpec.upto certificateMatchingSpec)) certificateMatchingUptoCard
end Rows
end Go.Proofs.YtoopoljchhdobaaDoor
