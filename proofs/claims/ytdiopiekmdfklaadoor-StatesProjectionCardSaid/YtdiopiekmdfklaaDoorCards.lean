/-
  DERIVED. GIVEN WITH THE SEED: THE CARDS: each row of YtdiopiekmdfklaaDoorRows.lean that lists a variable, with what it lists TIED to the program's text (the seventh form; the later family's looks); each row that meets fmt, with fmt's text TOLD by the authors' own Lean function (tested against real Go, not proved from fmt's source: count such statements apart). THE CARD IS WHAT COUNTS. Prove the row's statement (the work); the ties are given (YtdiopiekmdfklaaDoorTie.lean); close each card by the builder's one call (the guide's Derived/Test/ToyasCard.lean, 'card_holds'). Laid BY PROGRAM, IN A SANDBOX (cutbox-door.mjs). By AI agents, Wed Nov 11 2026. No macro, syntax, notation, axiom, sorry.
-/
import Derived.Test.YtdiopiekmdfklaaDoorRows
import GoSem.ClaimSeven
namespace Go.Proofs.YtdiopiekmdfklaaDoor
namespace Rows

/-- THE TIED CARD OF 'relyguardlaw10.StatesDefinition'. -/
def statesDefinitionCard : Claim7 := { stood := { row := statesDefinitionRow, standIns := [], harness := (true, "39bcd2d699585f9fcf498e901051ee92f9d2a25939b20ac64a68b28885d0b353"), looks := false }, kinds := [], alts := [], laidByText := true, laidKinds := [.data, .data, .data, .data, .data], laidTests := true, laidLooks := .later }
def StatesDefinitionCardSaid : Prop := Claim7.holds Tryd.pinned (.plain (OpenSpec.ofChange statesDefinitionSpec)) statesDefinitionCard

/-- THE TIED CARD OF 'relyguardlaw10.StatesExpressions'. -/
def statesExpressionsCard : Claim7 := { stood := { row := statesExpressionsRow, standIns := [], harness := (true, "39bcd2d699585f9fcf498e901051ee92f9d2a25939b20ac64a68b28885d0b353"), looks := false }, kinds := [], alts := [], laidByText := true, laidKinds := [.data, .data, .data, .data, .data], laidTests := true, laidLooks := .later }
def StatesExpressionsCardSaid : Prop := Claim7.holds Tryd.pinned (.plain (OpenSpec.ofChange statesExpressionsSpec)) statesExpressionsCard

/-- THE TIED CARD OF 'relyguardlaw10.StatesNumbers'. -/
def statesNumbersCard : Claim7 := { stood := { row := statesNumbersRow, standIns := [], harness := (true, "39bcd2d699585f9fcf498e901051ee92f9d2a25939b20ac64a68b28885d0b353"), looks := false }, kinds := [], alts := [], laidByText := true, laidKinds := [.data, .data, .data, .data, .data], laidTests := true, laidLooks := .later }
def StatesNumbersCardSaid : Prop := Claim7.holds Tryd.pinned (.plain (OpenSpec.ofChange statesNumbersSpec)) statesNumbersCard

/-- THE TIED CARD OF 'relyguardlaw10.StatesProjection'. -/
def statesProjectionCard : Claim7 := { stood := { row := statesProjectionRow, standIns := [], harness := (true, "39bcd2d699585f9fcf498e901051ee92f9d2a25939b20ac64a68b28885d0b353"), looks := false }, kinds := [], alts := [], laidByText := true, laidKinds := [.data, .data, .data, .data, .data], laidTests := true, laidLooks := .later }
def StatesProjectionCardSaid : Prop := Claim7.holds Tryd.pinned (.plain (OpenSpec.ofChange statesProjectionSpec)) statesProjectionCard

/-- THE TIED CARD OF 'relyguardlaw10.StatesAlgebra'. -/
def statesAlgebraCard : Claim7 := { stood := { row := statesAlgebraRow, standIns := [], harness := (true, "39bcd2d699585f9fcf498e901051ee92f9d2a25939b20ac64a68b28885d0b353"), looks := false }, kinds := [], alts := [], laidByText := true, laidKinds := [.data, .data, .data, .data, .data], laidTests := true, laidLooks := .later }
def StatesAlgebraCardSaid : Prop := Claim7.holds Tryd.pinned (.plain (OpenSpec.ofChange statesAlgebraSpec)) statesAlgebraCard

/-- THE SECOND FORM's CARD OF 'relyguardlaw10.StatesDefinition'. -/
def statesDefinitionUptoCard : Claim7 := { stood := { row := statesDefinitionUptoRow, standIns := [], harness := (true, "39bcd2d699585f9fcf498e901051ee92f9d2a25939b20ac64a68b28885d0b353"), looks := false }, kinds := [], alts := [], laidByText := true, laidKinds := [.data, .data, .data, .data, .data], laidTests := true, laidLooks := .later }
def StatesDefinitionUptoCardSaid : Prop := Claim7.holds Tryd.pinned (.plain (OpenSpec.upto statesDefinitionSpec)) statesDefinitionUptoCard

/-- THE SECOND FORM's CARD OF 'relyguardlaw10.StatesExpressions'. -/
def statesExpressionsUptoCard : Claim7 := { stood := { row := statesExpressionsUptoRow, standIns := [], harness := (true, "39bcd2d699585f9fcf498e901051ee92f9d2a25939b20ac64a68b28885d0b353"), looks := false }, kinds := [], alts := [], laidByText := true, laidKinds := [.data, .data, .data, .data, .data], laidTests := true, laidLooks := .later }
def StatesExpressionsUptoCardSaid : Prop := Claim7.holds Tryd.pinned (.plain (OpenSpec.upto statesExpressionsSpec)) statesExpressionsUptoCard

/-- THE SECOND FORM's CARD OF 'relyguardlaw10.StatesNumbers'. -/
def statesNumbersUptoCard : Claim7 := { stood := { row := statesNumbersUptoRow, standIns := [], harness := (true, "39bcd2d699585f9fcf498e901051ee92f9d2a25939b20ac64a68b28885d0b353"), looks := false }, kinds := [], alts := [], laidByText := true, laidKinds := [.data, .data, .data, .data, .data], laidTests := true, laidLooks := .later }
def StatesNumbersUptoCardSaid : Prop := Claim7.holds Tryd.pinned (.plain (OpenSpec.upto statesNumbersSpec)) statesNumbersUptoCard

/-- THE SECOND FORM's CARD OF 'relyguardlaw10.StatesProjection'. -/
def statesProjectionUptoCard : Claim7 := { stood := { row := statesProjectionUptoRow, standIns := [], harness := (true, "39bcd2d699585f9fcf498e901051ee92f9d2a25939b20ac64a68b28885d0b353"), looks := false }, kinds := [], alts := [], laidByText := true, laidKinds := [.data, .data, .data, .data, .data], laidTests := true, laidLooks := .later }
def StatesProjectionUptoCardSaid : Prop := Claim7.holds Tryd.pinned (.plain (OpenSpec.upto statesProjectionSpec)) statesProjectionUptoCard

/-- THE SECOND FORM's CARD OF 'relyguardlaw10.StatesAlgebra'. -/
def statesAlgebraUptoCard : Claim7 := { stood := { row := statesAlgebraUptoRow, standIns := [], harness := (true, "39bcd2d699585f9fcf498e901051ee92f9d2a25939b20ac64a68b28885d0b353"), looks := false }, kinds := [], alts := [], laidByText := true, laidKinds := [.data, .data, .data, .data, .data], laidTests := true, laidLooks := .later }
def StatesAlgebraUptoCardSaid : Prop := Claim7.holds Tryd.pinned (.plain (OpenSpec.upto statesAlgebraSpec)) statesAlgebraUptoCard
end Rows
end Go.Proofs.YtdiopiekmdfklaaDoor
