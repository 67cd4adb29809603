/-
  DERIVED. GIVEN WITH THE SEED: THE CARDS: each row of YtlcgbdjmlnjhcaaGreatDoorRows.lean that lists a variable, with what it lists TIED to the program's text (the seventh form; the later family's looks); each row that meets fmt, with fmt's text TOLD by the authors' own Lean function (tested against real Go, not proved from fmt's source: count such statements apart). THE CARD IS WHAT COUNTS. Prove the row's statement (the work); the ties are given (YtlcgbdjmlnjhcaaGreatDoorTie.lean); close each card by the builder's one call (the guide's Derived/Test/ToyasCard.lean, 'card_holds'). Laid BY PROGRAM, IN A SANDBOX (cutbox-door.mjs). By AI agents, Wed Nov 11 2026. No macro, syntax, notation, axiom, sorry.
-/
import Derived.Test.YtlcgbdjmlnjhcaaGreatDoorRows
import GoSem.ClaimSeven
namespace Go.Proofs.YtlcgbdjmlnjhcaaGreatDoor
namespace Rows

/-- THE TIED CARD OF 'relyguardlaw32.HintSufficient'. -/
def hintSufficientCard : Claim7 := { stood := { row := hintSufficientRow, standIns := [], harness := (true, "c858e5eea97a488a43ce2a98ece2e41450a06fb8a1e810cc4661da04d58fc05e"), looks := false }, kinds := [], alts := [], laidByText := true, laidKinds := [.data, .data, .data, .data, .data], laidTests := true, laidLooks := .later }
def HintSufficientCardSaid : Prop := Claim7.holds Tryz.pinned (.plain (OpenSpec.ofChange hintSufficientSpec)) hintSufficientCard

/-- THE TIED CARD OF 'relyguardlaw32.HintWeakest'. -/
def hintWeakestCard : Claim7 := { stood := { row := hintWeakestRow, standIns := [], harness := (true, "c858e5eea97a488a43ce2a98ece2e41450a06fb8a1e810cc4661da04d58fc05e"), looks := false }, kinds := [], alts := [], laidByText := true, laidKinds := [.data, .data, .data, .data, .data], laidTests := true, laidLooks := .later }
def HintWeakestCardSaid : Prop := Claim7.holds Tryz.pinned (.plain (OpenSpec.ofChange hintWeakestSpec)) hintWeakestCard

/-- THE TIED CARD OF 'relyguardlaw32.HintNothing'. -/
def hintNothingCard : Claim7 := { stood := { row := hintNothingRow, standIns := [], harness := (true, "c858e5eea97a488a43ce2a98ece2e41450a06fb8a1e810cc4661da04d58fc05e"), looks := false }, kinds := [], alts := [], laidByText := true, laidKinds := [.data, .data, .data, .data, .data], laidTests := true, laidLooks := .later }
def HintNothingCardSaid : Prop := Claim7.holds Tryz.pinned (.plain (OpenSpec.ofChange hintNothingSpec)) hintNothingCard

/-- THE TIED CARD OF 'relyguardlaw32.HintStrengthen'. -/
def hintStrengthenCard : Claim7 := { stood := { row := hintStrengthenRow, standIns := [], harness := (true, "c858e5eea97a488a43ce2a98ece2e41450a06fb8a1e810cc4661da04d58fc05e"), looks := false }, kinds := [], alts := [], laidByText := true, laidKinds := [.data, .data, .data, .data, .data], laidTests := true, laidLooks := .later }
def HintStrengthenCardSaid : Prop := Claim7.holds Tryz.pinned (.plain (OpenSpec.ofChange hintStrengthenSpec)) hintStrengthenCard

/-- THE TIED CARD OF 'relyguardlaw32.HintProgress'. -/
def hintProgressCard : Claim7 := { stood := { row := hintProgressRow, standIns := [], harness := (true, "c858e5eea97a488a43ce2a98ece2e41450a06fb8a1e810cc4661da04d58fc05e"), looks := false }, kinds := [], alts := [], laidByText := true, laidKinds := [.data, .data, .data, .data, .data], laidTests := true, laidLooks := .later }
def HintProgressCardSaid : Prop := Claim7.holds Tryz.pinned (.plain (OpenSpec.ofChange hintProgressSpec)) hintProgressCard

/-- THE SECOND FORM's CARD OF 'relyguardlaw32.HintSufficient'. -/
def hintSufficientUptoCard : Claim7 := { stood := { row := hintSufficientUptoRow, standIns := [], harness := (true, "c858e5eea97a488a43ce2a98ece2e41450a06fb8a1e810cc4661da04d58fc05e"), looks := false }, kinds := [], alts := [], laidByText := true, laidKinds := [.data, .data, .data, .data, .data], laidTests := true, laidLooks := .later }
def HintSufficientUptoCardSaid : Prop := Claim7.holds Tryz.pinned (.plain (OpenSpec.upto hintSufficientSpec)) hintSufficientUptoCard

/-- THE SECOND FORM's CARD OF 'relyguardlaw32.HintWeakest'. -/
def hintWeakestUptoCard : Claim7 := { stood := { row := hintWeakestUptoRow, standIns := [], harness := (true, "c858e5eea97a488a43ce2a98ece2e41450a06fb8a1e810cc4661da04d58fc05e"), looks := false }, kinds := [], alts := [], laidByText := true, laidKinds := [.data, .data, .data, .data, .data], laidTests := true, laidLooks := .later }
def HintWeakestUptoCardSaid : Prop := Claim7.holds Tryz.pinned (.plain (OpenSpec.upto hintWeakestSpec)) hintWeakestUptoCard

/-- THE SECOND FORM's CARD OF 'relyguardlaw32.HintNothing'. -/
def hintNothingUptoCard : Claim7 := { stood := { row := hintNothingUptoRow, standIns := [], harness := (true, "c858e5eea97a488a43ce2a98ece2e41450a06fb8a1e810cc4661da04d58fc05e"), looks := false }, kinds := [], alts := [], laidByText := true, laidKinds := [.data, .data, .data, .data, .data], laidTests := true, laidLooks := .later }
def HintNothingUptoCardSaid : Prop := Claim7.holds Tryz.pinned (.plain (OpenSpec.upto hintNothingSpec)) hintNothingUptoCard

/-- THE SECOND FORM's CARD OF 'relyguardlaw32.HintStrengthen'. -/
def hintStrengthenUptoCard : Claim7 := { stood := { row := hintStrengthenUptoRow, standIns := [], harness := (true, "c858e5eea97a488a43ce2a98ece2e41450a06fb8a1e810cc4661da04d58fc05e"), looks := false }, kinds := [], alts := [], laidByText := true, laidKinds := [.data, .data, .data, .data, .data], laidTests := true, laidLooks := .later }
def HintStrengthenUptoCardSaid : Prop := Claim7.holds Tryz.pinned (.plain (OpenSpec.upto hintStrengthenSpec)) hintStrengthenUptoCard

/-- THE SECOND FORM's CARD OF 'relyguardlaw32.HintProgress'. -/
def hintProgressUptoCard : Claim7 := { stood := { row := hintProgressUptoRow, standIns := [], harness := (true, "c858e5eea97a488a43ce2a98ece2e41450a06fb8a1e810cc4661da04d58fc05e"), looks := false }, kinds := [], alts := [], laidByText := true, laidKinds := [.data, .data, .data, .data, .data], laidTests := true, laidLooks := .later }
def HintProgressUptoCardSaid : Prop := Claim7.holds Tryz.pinned (.plain (OpenSpec.upto hintProgressSpec)) hintProgressUptoCard
end Rows
end Go.Proofs.YtlcgbdjmlnjhcaaGreatDoor
