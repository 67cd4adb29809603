/-
  DERIVED. GIVEN WITH THE SEED: THE CARDS: each row of YtnkhaobokmmnjaaDoorRows.lean that lists a variable, with what it lists TIED to the program's text (the seventh form; the later family's looks); each row that meets fmt, with fmt's text TOLD by the authors' own Lean function (tested against real Go, not proved from fmt's source: count such statements apart). THE CARD IS WHAT COUNTS. Prove the row's statement (the work); the ties are given (YtnkhaobokmmnjaaDoorTie.lean); close each card by the builder's one call (the guide's Derived/Test/ToyasCard.lean, 'card_holds'). Laid BY PROGRAM, IN A SANDBOX (cutbox-door.mjs). By AI agents, Wed Nov 11 2026. No macro, syntax, notation, axiom, sorry.
-/
import Derived.Test.YtnkhaobokmmnjaaDoorRows
import GoSem.ClaimSeven
namespace Go.Proofs.YtnkhaobokmmnjaaDoor
namespace Rows

/-- THE TIED CARD OF 'relyguardlaw21.CnfModels'. -/
def cnfModelsCard : Claim7 := { stood := { row := cnfModelsRow, standIns := [], harness := (true, "8f3bc8b1cc9da475579773b1d2ce4d69a5d4090dbbdcb13d83ab85ceb20a3e7d"), looks := true }, kinds := [], alts := [], laidByText := true, laidKinds := [.data, .data, .data], laidTests := true, laidLooks := .later }
def CnfModelsCardSaid : Prop := Claim7.holds Tryd.pinned (.plain (OpenSpec.ofChange cnfModelsSpec)) cnfModelsCard

/-- THE TIED CARD OF 'relyguardlaw21.CnfCanonical'. -/
def cnfCanonicalCard : Claim7 := { stood := { row := cnfCanonicalRow, standIns := [], harness := (true, "8f3bc8b1cc9da475579773b1d2ce4d69a5d4090dbbdcb13d83ab85ceb20a3e7d"), looks := true }, kinds := [], alts := [], laidByText := true, laidKinds := [.data, .data, .data], laidTests := true, laidLooks := .later }
def CnfCanonicalCardSaid : Prop := Claim7.holds Tryd.pinned (.plain (OpenSpec.ofChange cnfCanonicalSpec)) cnfCanonicalCard

/-- THE TIED CARD OF 'relyguardlaw21.CnfText'. -/
def cnfTextCard : Claim7 := { stood := { row := cnfTextRow, standIns := [], harness := (true, "8f3bc8b1cc9da475579773b1d2ce4d69a5d4090dbbdcb13d83ab85ceb20a3e7d"), looks := true }, kinds := [], alts := [], laidByText := true, laidKinds := [.data, .data, .data], laidTests := true, laidLooks := .later }
def CnfTextCardSaid : Prop := Claim7.holds Tryd.pinned (.plain (OpenSpec.ofChange cnfTextSpec)) cnfTextCard

/-- THE TIED CARD OF 'relyguardlaw21.CnfResolution'. -/
def cnfResolutionCard : Claim7 := { stood := { row := cnfResolutionRow, standIns := [], harness := (true, "8f3bc8b1cc9da475579773b1d2ce4d69a5d4090dbbdcb13d83ab85ceb20a3e7d"), looks := true }, kinds := [], alts := [], laidByText := true, laidKinds := [.data, .data, .data], laidTests := true, laidLooks := .later }
def CnfResolutionCardSaid : Prop := Claim7.holds Tryd.pinned (.plain (OpenSpec.ofChange cnfResolutionSpec)) cnfResolutionCard

/-- THE TIED CARD OF 'relyguardlaw21.CnfRenaming'. -/
def cnfRenamingCard : Claim7 := { stood := { row := cnfRenamingRow, standIns := [], harness := (true, "8f3bc8b1cc9da475579773b1d2ce4d69a5d4090dbbdcb13d83ab85ceb20a3e7d"), looks := true }, kinds := [], alts := [], laidByText := true, laidKinds := [.data, .data, .data], laidTests := true, laidLooks := .later }
def CnfRenamingCardSaid : Prop := Claim7.holds Tryd.pinned (.plain (OpenSpec.ofChange cnfRenamingSpec)) cnfRenamingCard

/-- THE TIED CARD OF 'relyguardlaw21.CnfConjunction'. -/
def cnfConjunctionCard : Claim7 := { stood := { row := cnfConjunctionRow, standIns := [], harness := (true, "8f3bc8b1cc9da475579773b1d2ce4d69a5d4090dbbdcb13d83ab85ceb20a3e7d"), looks := true }, kinds := [], alts := [], laidByText := true, laidKinds := [.data, .data, .data], laidTests := true, laidLooks := .later }
def CnfConjunctionCardSaid : Prop := Claim7.holds Tryd.pinned (.plain (OpenSpec.ofChange cnfConjunctionSpec)) cnfConjunctionCard

/-- THE SECOND FORM's CARD OF 'relyguardlaw21.CnfModels'. -/
def cnfModelsUptoCard : Claim7 := { stood := { row := cnfModelsUptoRow, standIns := [], harness := (true, "8f3bc8b1cc9da475579773b1d2ce4d69a5d4090dbbdcb13d83ab85ceb20a3e7d"), looks := true }, kinds := [], alts := [], laidByText := true, laidKinds := [.data, .data, .data], laidTests := true, laidLooks := .later }
def CnfModelsUptoCardSaid : Prop := Claim7.holds Tryd.pinned (.plain (OpenSpec.upto cnfModelsSpec)) cnfModelsUptoCard

/-- THE SECOND FORM's CARD OF 'relyguardlaw21.CnfCanonical'. -/
def cnfCanonicalUptoCard : Claim7 := { stood := { row := cnfCanonicalUptoRow, standIns := [], harness := (true, "8f3bc8b1cc9da475579773b1d2ce4d69a5d4090dbbdcb13d83ab85ceb20a3e7d"), looks := true }, kinds := [], alts := [], laidByText := true, laidKinds := [.data, .data, .data], laidTests := true, laidLooks := .later }
def CnfCanonicalUptoCardSaid : Prop := Claim7.holds Tryd.pinned (.plain (OpenSpec.upto cnfCanonicalSpec)) cnfCanonicalUptoCard

/-- THE SECOND FORM's CARD OF 'relyguardlaw21.CnfText'. -/
def cnfTextUptoCard : Claim7 := { stood := { row := cnfTextUptoRow, standIns := [], harness := (true, "8f3bc8b1cc9da475579773b1d2ce4d69a5d4090dbbdcb13d83ab85ceb20a3e7d"), looks := true }, kinds := [], alts := [], laidByText := true, laidKinds := [.data, .data, .data], laidTests := true, laidLooks := .later }
def CnfTextUptoCardSaid : Prop := Claim7.holds Tryd.pinned (.plain (OpenSpec.upto cnfTextSpec)) cnfTextUptoCard

/-- THE SECOND FORM's CARD OF 'relyguardlaw21.CnfResolution'. -/
def cnfResolutionUptoCard : Claim7 := { stood := { row := cnfResolutionUptoRow, standIns := [], harness := (true, "8f3bc8b1cc9da475579773b1d2ce4d69a5d4090dbbdcb13d83ab85ceb20a3e7d"), looks := true }, kinds := [], alts := [], laidByText := true, laidKinds := [.data, .data, .data], laidTests := true, laidLooks := .later }
def CnfResolutionUptoCardSaid : Prop := Claim7.holds Tryd.pinned (.plain (OpenSpec.upto cnfResolutionSpec)) cnfResolutionUptoCard

/-- THE SECOND FORM's CARD OF 'relyguardlaw21.CnfRenaming'. -/
def cnfRenamingUptoCard : Claim7 := { stood := { row := cnfRenamingUptoRow, standIns := [], harness := (true, "8f3bc8b1cc9da475579773b1d2ce4d69a5d4090dbbdcb13d83ab85ceb20a3e7d"), looks := true }, kinds := [], alts := [], laidByText := true, laidKinds := [.data, .data, .data], laidTests := true, laidLooks := .later }
def CnfRenamingUptoCardSaid : Prop := Claim7.holds Tryd.pinned (.plain (OpenSpec.upto cnfRenamingSpec)) cnfRenamingUptoCard

/-- THE SECOND FORM's CARD OF 'relyguardlaw21.CnfConjunction'. -/
def cnfConjunctionUptoCard : Claim7 := { stood := { row := cnfConjunctionUptoRow, standIns := [], harness := (true, "8f3bc8b1cc9da475579773b1d2ce4d69a5d4090dbbdcb13d83ab85ceb20a3e7d"), looks := true }, kinds := [], alts := [], laidByText := true, laidKinds := [.data, .data, .data], laidTests := true, laidLooks := .later }
def CnfConjunctionUptoCardSaid : Prop := Claim7.holds Tryd.pinned (.plain (OpenSpec.upto cnfConjunctionSpec)) cnfConjunctionUptoCard
end Rows
end Go.Proofs.YtnkhaobokmmnjaaDoor
