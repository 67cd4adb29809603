/-
  DERIVED. GIVEN WITH THE SEED: THE CARDS: each row of YteclcnbaaiidbaaDoorRows.lean that lists a variable, with what it lists TIED to the program's text (the seventh form; the later family's looks); each row that meets fmt, with fmt's text TOLD by the authors' own Lean function (tested against real Go, not proved from fmt's source: count such statements apart). THE CARD IS WHAT COUNTS. Prove the row's statement (the work); the ties are given (YteclcnbaaiidbaaDoorTie.lean); close each card by the builder's one call (the guide's Derived/Test/ToyasCard.lean, 'card_holds'). Laid BY PROGRAM, IN A SANDBOX (cutbox-door.mjs). By AI agents, Wed Nov 11 2026. No macro, syntax, notation, axiom, sorry.
-/
import Derived.Test.YteclcnbaaiidbaaDoorRows
import GoSem.ClaimSeven
namespace Go.Proofs.YteclcnbaaiidbaaDoor
namespace Rows

/-- THE TIED CARD OF 'relyguardlaw25.ProofRoundTrip'. -/
def proofRoundTripCard : Claim7 := { stood := { row := proofRoundTripRow, standIns := [], harness := (true, "73b8d570df06875db8138e0ca6a89159441d99ad66b26ea9e998f81169cbcf14"), looks := true }, kinds := [], alts := [], laidByText := true, laidKinds := [.data, .data, .data, .sentinel, .sentinel], laidTests := true, laidLooks := .later }
def ProofRoundTripCardSaid : Prop := Claim7.holds Tryd.pinned (.plain (OpenSpec.ofChange proofRoundTripSpec)) proofRoundTripCard

/-- THE TIED CARD OF 'relyguardlaw25.ProofTrims'. -/
def proofTrimsCard : Claim7 := { stood := { row := proofTrimsRow, standIns := [], harness := (true, "73b8d570df06875db8138e0ca6a89159441d99ad66b26ea9e998f81169cbcf14"), looks := true }, kinds := [], alts := [], laidByText := true, laidKinds := [.data, .data, .data, .sentinel, .sentinel], laidTests := true, laidLooks := .later }
def ProofTrimsCardSaid : Prop := Claim7.holds Tryd.pinned (.plain (OpenSpec.ofChange proofTrimsSpec)) proofTrimsCard

/-- THE TIED CARD OF 'relyguardlaw25.ProofJustified'. -/
def proofJustifiedCard : Claim7 := { stood := { row := proofJustifiedRow, standIns := [], harness := (true, "73b8d570df06875db8138e0ca6a89159441d99ad66b26ea9e998f81169cbcf14"), looks := true }, kinds := [], alts := [], laidByText := true, laidKinds := [.data, .data, .data, .sentinel, .sentinel], laidTests := true, laidLooks := .later }
def ProofJustifiedCardSaid : Prop := Claim7.holds Tryd.pinned (.plain (OpenSpec.ofChange proofJustifiedSpec)) proofJustifiedCard

/-- THE TIED CARD OF 'relyguardlaw25.ProofPrefixes'. -/
def proofPrefixesCard : Claim7 := { stood := { row := proofPrefixesRow, standIns := [], harness := (true, "73b8d570df06875db8138e0ca6a89159441d99ad66b26ea9e998f81169cbcf14"), looks := true }, kinds := [], alts := [], laidByText := true, laidKinds := [.data, .data, .data, .sentinel, .sentinel], laidTests := true, laidLooks := .later }
def ProofPrefixesCardSaid : Prop := Claim7.holds Tryd.pinned (.plain (OpenSpec.ofChange proofPrefixesSpec)) proofPrefixesCard

/-- THE TIED CARD OF 'relyguardlaw25.ProofLiterals'. -/
def proofLiteralsCard : Claim7 := { stood := { row := proofLiteralsRow, standIns := [], harness := (true, "73b8d570df06875db8138e0ca6a89159441d99ad66b26ea9e998f81169cbcf14"), looks := true }, kinds := [], alts := [], laidByText := true, laidKinds := [.data, .data, .data, .sentinel, .sentinel], laidTests := true, laidLooks := .later }
def ProofLiteralsCardSaid : Prop := Claim7.holds Tryd.pinned (.plain (OpenSpec.ofChange proofLiteralsSpec)) proofLiteralsCard

/-- THE SECOND FORM's CARD OF 'relyguardlaw25.ProofRoundTrip'. -/
def proofRoundTripUptoCard : Claim7 := { stood := { row := proofRoundTripUptoRow, standIns := [], harness := (true, "73b8d570df06875db8138e0ca6a89159441d99ad66b26ea9e998f81169cbcf14"), looks := true }, kinds := [], alts := [], laidByText := true, laidKinds := [.data, .data, .data, .sentinel, .sentinel], laidTests := true, laidLooks := .later }
def ProofRoundTripUptoCardSaid : Prop := Claim7.holds Tryd.pinned (.plain (OpenSpec.upto proofRoundTripSpec)) proofRoundTripUptoCard

/-- THE SECOND FORM's CARD OF 'relyguardlaw25.ProofTrims'. -/
def proofTrimsUptoCard : Claim7 := { stood := { row := proofTrimsUptoRow, standIns := [], harness := (true, "73b8d570df06875db8138e0ca6a89159441d99ad66b26ea9e998f81169cbcf14"), looks := true }, kinds := [], alts := [], laidByText := true, laidKinds := [.data, .data, .data, .sentinel, .sentinel], laidTests := true, laidLooks := .later }
def ProofTrimsUptoCardSaid : Prop := Claim7.holds Tryd.pinned (.plain (OpenSpec.upto proofTrimsSpec)) proofTrimsUptoCard

/-- THE SECOND FORM's CARD OF 'relyguardlaw25.ProofJustified'. -/
def proofJustifiedUptoCard : Claim7 := { stood := { row := proofJustifiedUptoRow, standIns := [], harness := (true, "73b8d570df06875db8138e0ca6a89159441d99ad66b26ea9e998f81169cbcf14"), looks := true }, kinds := [], alts := [], laidByText := true, laidKinds := [.data, .data, .data, .sentinel, .sentinel], laidTests := true, laidLooks := .later }
def ProofJustifiedUptoCardSaid : Prop := Claim7.holds Tryd.pinned (.plain (OpenSpec.upto proofJustifiedSpec)) proofJustifiedUptoCard

/-- THE SECOND FORM's CARD OF 'relyguardlaw25.ProofPrefixes'. -/
def proofPrefixesUptoCard : Claim7 := { stood := { row := proofPrefixesUptoRow, standIns := [], harness := (true, "73b8d570df06875db8138e0ca6a89159441d99ad66b26ea9e998f81169cbcf14"), looks := true }, kinds := [], alts := [], laidByText := true, laidKinds := [.data, .data, .data, .sentinel, .sentinel], laidTests := true, laidLooks := .later }
def ProofPrefixesUptoCardSaid : Prop := Claim7.holds Tryd.pinned (.plain (OpenSpec.upto proofPrefixesSpec)) proofPrefixesUptoCard

/-- THE SECOND FORM's CARD OF 'relyguardlaw25.ProofLiterals'. -/
def proofLiteralsUptoCard : Claim7 := { stood := { row := proofLiteralsUptoRow, standIns := [], harness := (true, "73b8d570df06875db8138e0ca6a89159441d99ad66b26ea9e998f81169cbcf14"), looks := true }, kinds := [], alts := [], laidByText := true, laidKinds := [.data, .data, .data, .sentinel, .sentinel], laidTests := true, laidLooks := .later }
def ProofLiteralsUptoCardSaid : Prop := Claim7.holds Tryd.pinned (.plain (OpenSpec.upto proofLiteralsSpec)) proofLiteralsUptoCard
end Rows
end Go.Proofs.YteclcnbaaiidbaaDoor
