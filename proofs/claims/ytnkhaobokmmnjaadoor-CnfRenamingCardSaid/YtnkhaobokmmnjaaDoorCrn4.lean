/-
  CnfRenaming, for the card.
-/
import Derived.Test.YtnkhaobokmmnjaaDoorLg4
import Derived.Test.YtnkhaobokmmnjaaDoorOpenN
namespace Go.Proofs.YtnkhaobokmmnjaaDoor
open Go.RowKit
theorem CnfRenaming_card (vars : Int) (cl : List (List Int)) (vs : List Bool) (p : Int) (inv : List Bool) (vf vv vi : Value) (w : World) (hf : CnfI w vf vars cl) (hv : Bools w vv vs) (hp : (Lit.int .u8 p).wf = true) (hi : Bools w vi inv) (hT : CTab w) :
    Calls Tryd.prog 7 #[vf, vv, .int .u8 p, vi] w fun r w' => r = .returned (.bool true) ∧ Ext w w' := by
  have h1 := u8_of hp
  obtain ⟨a, rfl⟩ : ∃ a : Nat, p = a := ⟨p.toNat, by omega⟩
  exact CnfRenaming_any vars cl vs inv a vf vv vi w hf.1 hf.2 hv (by omega) hi hT
end Go.Proofs.YtnkhaobokmmnjaaDoor
