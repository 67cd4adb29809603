/-
  DERIVED. GIVEN WITH THE SEED: THE CARDS: each row of YtdancokndklpnaaDoorRows.lean that lists a variable, with what it lists TIED to the program's text (the seventh form; the later family's looks); each row that meets fmt, with fmt's text TOLD by the authors' own Lean function (tested against real Go, not proved from fmt's source: count such statements apart). THE CARD IS WHAT COUNTS. Prove the row's statement (the work); the ties are given (YtdancokndklpnaaDoorTie.lean); close each card by the builder's one call (the guide's Derived/Test/ToyasCard.lean, 'card_holds'). Laid BY PROGRAM, IN A SANDBOX (cutbox-door.mjs). By AI agents, Wed Nov 11 2026. No macro, syntax, notation, axiom, sorry.
-/
import Derived.Test.YtdancokndklpnaaDoorRows
import GoSem.ClaimSeven
namespace Go.Proofs.YtdancokndklpnaaDoor
namespace Rows

/-- THE TIED CARD OF 'relyguardlaw06.ExprSubstitution'. -/
def exprSubstitutionCard : Claim7 := { stood := { row := exprSubstitutionRow, standIns := [], harness := (true, "d9b388d07d615e929b40dd4f733dec1e7b6ae2f4eb12a7cd0113638ffe868d2a"), looks := false }, kinds := [], alts := [], laidByText := true, laidKinds := [.data, .data, .data, .data, .data], laidTests := true, laidLooks := .later }
def ExprSubstitutionCardSaid : Prop := Claim7.holds Tryd.pinned (.plain (OpenSpec.ofChange exprSubstitutionSpec)) exprSubstitutionCard

/-- THE TIED CARD OF 'relyguardlaw06.ExprComposition'. -/
def exprCompositionCard : Claim7 := { stood := { row := exprCompositionRow, standIns := [], harness := (true, "d9b388d07d615e929b40dd4f733dec1e7b6ae2f4eb12a7cd0113638ffe868d2a"), looks := false }, kinds := [], alts := [], laidByText := true, laidKinds := [.data, .data, .data, .data, .data], laidTests := true, laidLooks := .later }
def ExprCompositionCardSaid : Prop := Claim7.holds Tryd.pinned (.plain (OpenSpec.ofChange exprCompositionSpec)) exprCompositionCard

/-- THE TIED CARD OF 'relyguardlaw06.ExprText'. -/
def exprTextCard : Claim7 := { stood := { row := exprTextRow, standIns := [], harness := (true, "d9b388d07d615e929b40dd4f733dec1e7b6ae2f4eb12a7cd0113638ffe868d2a"), looks := false }, kinds := [], alts := [], laidByText := true, laidKinds := [.data, .data, .data, .data, .data], laidTests := true, laidLooks := .later }
def ExprTextCardSaid : Prop := Claim7.holds Tryd.pinned (.plain (OpenSpec.ofChange exprTextSpec)) exprTextCard

/-- THE TIED CARD OF 'relyguardlaw06.ExprRing'. -/
def exprRingCard : Claim7 := { stood := { row := exprRingRow, standIns := [], harness := (true, "d9b388d07d615e929b40dd4f733dec1e7b6ae2f4eb12a7cd0113638ffe868d2a"), looks := false }, kinds := [], alts := [], laidByText := true, laidKinds := [.data, .data, .data, .data, .data], laidTests := true, laidLooks := .later }
def ExprRingCardSaid : Prop := Claim7.holds Tryd.pinned (.plain (OpenSpec.ofChange exprRingSpec)) exprRingCard

/-- THE TIED CARD OF 'relyguardlaw06.ExprBefore'. -/
def exprBeforeCard : Claim7 := { stood := { row := exprBeforeRow, standIns := [], harness := (true, "d9b388d07d615e929b40dd4f733dec1e7b6ae2f4eb12a7cd0113638ffe868d2a"), looks := false }, kinds := [], alts := [], laidByText := true, laidKinds := [.data, .data, .data, .data, .data], laidTests := true, laidLooks := .later }
def ExprBeforeCardSaid : Prop := Claim7.holds Tryd.pinned (.plain (OpenSpec.ofChange exprBeforeSpec)) exprBeforeCard

/-- THE TIED CARD OF 'relyguardlaw06.ExprSimplify'. -/
def exprSimplifyCard : Claim7 := { stood := { row := exprSimplifyRow, standIns := [], harness := (true, "d9b388d07d615e929b40dd4f733dec1e7b6ae2f4eb12a7cd0113638ffe868d2a"), looks := false }, kinds := [], alts := [], laidByText := true, laidKinds := [.data, .data, .data, .data, .data], laidTests := true, laidLooks := .later }
def ExprSimplifyCardSaid : Prop := Claim7.holds Tryd.pinned (.plain (OpenSpec.ofChange exprSimplifySpec)) exprSimplifyCard

/-- THE TIED CARD OF 'relyguardlaw06.ExprConnectives'. -/
def exprConnectivesCard : Claim7 := { stood := { row := exprConnectivesRow, standIns := [], harness := (true, "d9b388d07d615e929b40dd4f733dec1e7b6ae2f4eb12a7cd0113638ffe868d2a"), looks := false }, kinds := [], alts := [], laidByText := true, laidKinds := [.data, .data, .data, .data, .data], laidTests := true, laidLooks := .later }
def ExprConnectivesCardSaid : Prop := Claim7.holds Tryd.pinned (.plain (OpenSpec.ofChange exprConnectivesSpec)) exprConnectivesCard

/-- THE SECOND FORM's CARD OF 'relyguardlaw06.ExprSubstitution'. -/
def exprSubstitutionUptoCard : Claim7 := { stood := { row := exprSubstitutionUptoRow, standIns := [], harness := (true, "d9b388d07d615e929b40dd4f733dec1e7b6ae2f4eb12a7cd0113638ffe868d2a"), looks := false }, kinds := [], alts := [], laidByText := true, laidKinds := [.data, .data, .data, .data, .data], laidTests := true, laidLooks := .later }
def ExprSubstitutionUptoCardSaid : Prop := Claim7.holds Tryd.pinned (.plain (OpenSpec.upto exprSubstitutionSpec)) exprSubstitutionUptoCard

/-- THE SECOND FORM's CARD OF 'relyguardlaw06.ExprComposition'. -/
def exprCompositionUptoCard : Claim7 := { stood := { row := exprCompositionUptoRow, standIns := [], harness := (true, "d9b388d07d615e929b40dd4f733dec1e7b6ae2f4eb12a7cd0113638ffe868d2a"), looks := false }, kinds := [], alts := [], laidByText := true, laidKinds := [.data, .data, .data, .data, .data], laidTests := true, laidLooks := .later }
def ExprCompositionUptoCardSaid : Prop := Claim7.holds Tryd.pinned (.plain (OpenSpec.upto exprCompositionSpec)) exprCompositionUptoCard

/-- THE SECOND FORM's CARD OF 'relyguardlaw06.ExprText'. -/
def exprTextUptoCard : Claim7 := { stood := { row := exprTextUptoRow, standIns := [], harness := (true, "d9b388d07d615e929b40dd4f733dec1e7b6ae2f4eb12a7cd0113638ffe868d2a"), looks := false }, kinds := [], alts := [], laidByText := true, laidKinds := [.data, .data, .data, .data, .data], laidTests := true, laidLooks := .later }
def ExprTextUptoCardSaid : Prop := Claim7.holds Tryd.pinned (.plain (OpenSpec.upto exprTextSpec)) exprTextUptoCard

/-- THE SECOND FORM's CARD OF 'relyguardlaw06.ExprRing'. -/
def exprRingUptoCard : Claim7 := { stood := { row := exprRingUptoRow, standIns := [], harness := (true, "d9b388d07d615e929b40dd4f733dec1e7b6ae2f4eb12a7cd0113638ffe868d2a"), looks := false }, kinds := [], alts := [], laidByText := true, laidKinds := [.data, .data, .data, .data, .data], laidTests := true, laidLooks := .later }
def ExprRingUptoCardSaid : Prop := Claim7.holds Tryd.pinned (.plain (OpenSpec.upto exprRingSpec)) exprRingUptoCard

/-- THE SECOND FORM's CARD OF 'relyguardlaw06.ExprBefore'. -/
def exprBeforeUptoCard : Claim7 := { stood := { row := exprBeforeUptoRow, standIns := [], harness := (true, "d9b388d07d615e929b40dd4f733dec1e7b6ae2f4eb12a7cd0113638ffe868d2a"), looks := false }, kinds := [], alts := [], laidByText := true, laidKinds := [.data, .data, .data, .data, .data], laidTests := true, laidLooks := .later }
def ExprBeforeUptoCardSaid : Prop := Claim7.holds Tryd.pinned (.plain (OpenSpec.upto exprBeforeSpec)) exprBeforeUptoCard

/-- THE SECOND FORM's CARD OF 'relyguardlaw06.ExprSimplify'. -/
def exprSimplifyUptoCard : Claim7 := { stood := { row := exprSimplifyUptoRow, standIns := [], harness := (true, "d9b388d07d615e929b40dd4f733dec1e7b6ae2f4eb12a7cd0113638ffe868d2a"), looks := false }, kinds := [], alts := [], laidByText := true, laidKinds := [.data, .data, .data, .data, .data], laidTests := true, laidLooks := .later }
def ExprSimplifyUptoCardSaid : Prop := Claim7.holds Tryd.pinned (.plain (OpenSpec.upto exprSimplifySpec)) exprSimplifyUptoCard

/-- THE SECOND FORM's CARD OF 'relyguardlaw06.ExprConnectives'. -/
def exprConnectivesUptoCard : Claim7 := { stood := { row := exprConnectivesUptoRow, standIns := [], harness := (true, "d9b388d07d615e929b40dd4f733dec1e7b6ae2f4eb12a7cd0113638ffe868d2a"), looks := false }, kinds := [], alts := [], laidByText := true, laidKinds := [.data, .data, .data, .data, .data], laidTests := true, laidLooks := .later }
def ExprConnectivesUptoCardSaid : Prop := Claim7.holds Tryd.pinned (.plain (OpenSpec.upto exprConnectivesSpec)) exprConnectivesUptoCard
end Rows
end Go.Proofs.YtdancokndklpnaaDoor
