/-
  DERIVED. GIVEN WITH THE SEED: THE CARDS: each row of YtlnahhlddekhoaaDoorRows.lean that lists a variable, with what it lists TIED to the program's text (the seventh form; the later family's looks); each row that meets fmt, with fmt's text TOLD by the authors' own Lean function (tested against real Go, not proved from fmt's source: count such statements apart). THE CARD IS WHAT COUNTS. Prove the row's statement (the work); the ties are given (YtlnahhlddekhoaaDoorTie.lean); close each card by the builder's one call (the guide's Derived/Test/ToyasCard.lean, 'card_holds'). Laid BY PROGRAM, IN A SANDBOX (cutbox-door.mjs). By AI agents, Wed Nov 11 2026. No macro, syntax, notation, axiom, sorry.
-/
import Derived.Test.YtlnahhlddekhoaaDoorRows
import GoSem.ClaimSeven
namespace Go.Proofs.YtlnahhlddekhoaaDoor
namespace Rows

/-- THE TIED CARD OF 'relyguardlaw15.RelationAdjunction'. -/
def relationAdjunctionCard : Claim7 := { stood := { row := relationAdjunctionRow, standIns := [], harness := (true, "ab9205aaa8e4ed45a34351aa69f24071f7e7aee9594bff392439ef750add7a5d"), looks := false }, kinds := [], alts := [], laidByText := true, laidKinds := [.data, .data], laidTests := true, laidLooks := .later }
def RelationAdjunctionCardSaid : Prop := Claim7.holds Tryd.pinned (.plain (OpenSpec.ofChange relationAdjunctionSpec)) relationAdjunctionCard

/-- THE TIED CARD OF 'relyguardlaw15.RelationStability'. -/
def relationStabilityCard : Claim7 := { stood := { row := relationStabilityRow, standIns := [], harness := (true, "ab9205aaa8e4ed45a34351aa69f24071f7e7aee9594bff392439ef750add7a5d"), looks := false }, kinds := [], alts := [], laidByText := true, laidKinds := [.data, .data], laidTests := true, laidLooks := .later }
def RelationStabilityCardSaid : Prop := Claim7.holds Tryd.pinned (.plain (OpenSpec.ofChange relationStabilitySpec)) relationStabilityCard

/-- THE TIED CARD OF 'relyguardlaw15.RelationMonoid'. -/
def relationMonoidCard : Claim7 := { stood := { row := relationMonoidRow, standIns := [], harness := (true, "ab9205aaa8e4ed45a34351aa69f24071f7e7aee9594bff392439ef750add7a5d"), looks := false }, kinds := [], alts := [], laidByText := true, laidKinds := [.data, .data], laidTests := true, laidLooks := .later }
def RelationMonoidCardSaid : Prop := Claim7.holds Tryd.pinned (.plain (OpenSpec.ofChange relationMonoidSpec)) relationMonoidCard

/-- THE TIED CARD OF 'relyguardlaw15.RelationClosure'. -/
def relationClosureCard : Claim7 := { stood := { row := relationClosureRow, standIns := [], harness := (true, "ab9205aaa8e4ed45a34351aa69f24071f7e7aee9594bff392439ef750add7a5d"), looks := false }, kinds := [], alts := [], laidByText := true, laidKinds := [.data, .data], laidTests := true, laidLooks := .later }
def RelationClosureCardSaid : Prop := Claim7.holds Tryd.pinned (.plain (OpenSpec.ofChange relationClosureSpec)) relationClosureCard

/-- THE TIED CARD OF 'relyguardlaw15.RelationImages'. -/
def relationImagesCard : Claim7 := { stood := { row := relationImagesRow, standIns := [], harness := (true, "ab9205aaa8e4ed45a34351aa69f24071f7e7aee9594bff392439ef750add7a5d"), looks := false }, kinds := [], alts := [], laidByText := true, laidKinds := [.data, .data], laidTests := true, laidLooks := .later }
def RelationImagesCardSaid : Prop := Claim7.holds Tryd.pinned (.plain (OpenSpec.ofChange relationImagesSpec)) relationImagesCard

/-- THE TIED CARD OF 'relyguardlaw15.RelationDefinition'. -/
def relationDefinitionCard : Claim7 := { stood := { row := relationDefinitionRow, standIns := [], harness := (true, "ab9205aaa8e4ed45a34351aa69f24071f7e7aee9594bff392439ef750add7a5d"), looks := false }, kinds := [], alts := [], laidByText := true, laidKinds := [.data, .data], laidTests := true, laidLooks := .later }
def RelationDefinitionCardSaid : Prop := Claim7.holds Tryd.pinned (.plain (OpenSpec.ofChange relationDefinitionSpec)) relationDefinitionCard

/-- THE SECOND FORM's CARD OF 'relyguardlaw15.RelationAdjunction'. -/
def relationAdjunctionUptoCard : Claim7 := { stood := { row := relationAdjunctionUptoRow, standIns := [], harness := (true, "ab9205aaa8e4ed45a34351aa69f24071f7e7aee9594bff392439ef750add7a5d"), looks := false }, kinds := [], alts := [], laidByText := true, laidKinds := [.data, .data], laidTests := true, laidLooks := .later }
def RelationAdjunctionUptoCardSaid : Prop := Claim7.holds Tryd.pinned (.plain (OpenSpec.upto relationAdjunctionSpec)) relationAdjunctionUptoCard

/-- THE SECOND FORM's CARD OF 'relyguardlaw15.RelationStability'. -/
def relationStabilityUptoCard : Claim7 := { stood := { row := relationStabilityUptoRow, standIns := [], harness := (true, "ab9205aaa8e4ed45a34351aa69f24071f7e7aee9594bff392439ef750add7a5d"), looks := false }, kinds := [], alts := [], laidByText := true, laidKinds := [.data, .data], laidTests := true, laidLooks := .later }
def RelationStabilityUptoCardSaid : Prop := Claim7.holds Tryd.pinned (.plain (OpenSpec.upto relationStabilitySpec)) relationStabilityUptoCard

/-- THE SECOND FORM's CARD OF 'relyguardlaw15.RelationMonoid'. -/
def relationMonoidUptoCard : Claim7 := { stood := { row := relationMonoidUptoRow, standIns := [], harness := (true, "ab9205aaa8e4ed45a34351aa69f24071f7e7aee9594bff392439ef750add7a5d"), looks := false }, kinds := [], alts := [], laidByText := true, laidKinds := [.data, .data], laidTests := true, laidLooks := .later }
def RelationMonoidUptoCardSaid : Prop := Claim7.holds Tryd.pinned (.plain (OpenSpec.upto relationMonoidSpec)) relationMonoidUptoCard

/-- THE SECOND FORM's CARD OF 'relyguardlaw15.RelationClosure'. -/
def relationClosureUptoCard : Claim7 := { stood := { row := relationClosureUptoRow, standIns := [], harness := (true, "ab9205aaa8e4ed45a34351aa69f24071f7e7aee9594bff392439ef750add7a5d"), looks := false }, kinds := [], alts := [], laidByText := true, laidKinds := [.data, .data], laidTests := true, laidLooks := .later }
def RelationClosureUptoCardSaid : Prop := Claim7.holds Tryd.pinned (.plain (OpenSpec.upto relationClosureSpec)) relationClosureUptoCard

/-- THE SECOND FORM's CARD OF 'relyguardlaw15.RelationImages'. -/
def relationImagesUptoCard : Claim7 := { stood := { row := relationImagesUptoRow, standIns := [], harness := (true, "ab9205aaa8e4ed45a34351aa69f24071f7e7aee9594bff392439ef750add7a5d"), looks := false }, kinds := [], alts := [], laidByText := true, laidKinds := [.data, .data], laidTests := true, laidLooks := .later }
def RelationImagesUptoCardSaid : Prop := Claim7.holds Tryd.pinned (.plain (OpenSpec.upto relationImagesSpec)) relationImagesUptoCard

/-- THE SECOND FORM's CARD OF 'relyguardlaw15.RelationDefinition'. -/
def relationDefinitionUptoCard : Claim7 := { stood := { row := relationDefinitionUptoRow, standIns := [], harness := (true, "ab9205aaa8e4ed45a34351aa69f24071f7e7aee9594bff392439ef750add7a5d"), looks := false }, kinds := [], alts := [], laidByText := true, laidKinds := [.data, .data], laidTests := true, laidLooks := .later }
def RelationDefinitionUptoCardSaid : Prop := Claim7.holds Tryd.pinned (.plain (OpenSpec.upto relationDefinitionSpec)) relationDefinitionUptoCard
end Rows
end Go.Proofs.YtlnahhlddekhoaaDoor
