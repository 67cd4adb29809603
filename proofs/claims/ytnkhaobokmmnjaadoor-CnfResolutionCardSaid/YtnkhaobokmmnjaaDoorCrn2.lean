/-
  CnfResolution, for the card.
-/
import Derived.Test.YtnkhaobokmmnjaaDoorLg2
import Derived.Test.YtnkhaobokmmnjaaDoorOpenN
namespace Go.Proofs.YtnkhaobokmmnjaaDoor
open Go.RowKit
theorem CnfResolution_card (vars : Int) (cl : List (List Int)) (vs : List Bool) (pa pb : Int) (vf vv : Value) (w : World) (hf : CnfI w vf vars cl) (hv : Bools w vv vs) (ha : (Lit.int .u8 pa).wf = true) (hb : (Lit.int .u8 pb).wf = true) (hT : CTab w) :
    Calls Tryd.prog 6 #[vf, vv, .int .u8 pa, .int .u8 pb] w fun r w' => r = .returned (.bool true) ∧ Ext w w' := by
  have h1 := u8_of ha
  have h2 := u8_of hb
  obtain ⟨a, rfl⟩ : ∃ a : Nat, pa = a := ⟨pa.toNat, by omega⟩
  obtain ⟨b, rfl⟩ : ∃ b : Nat, pb = b := ⟨pb.toNat, by omega⟩
  exact CnfResolution_any vars cl vs a b vf vv w hf.1 hf.2 hv (by omega) (by omega) hT
end Go.Proofs.YtnkhaobokmmnjaaDoor
