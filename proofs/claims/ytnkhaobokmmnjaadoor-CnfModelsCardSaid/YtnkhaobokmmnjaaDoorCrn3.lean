/-
  CnfModels, for the card.
-/
import Derived.Test.YtnkhaobokmmnjaaDoorLg3
import Derived.Test.YtnkhaobokmmnjaaDoorOpenN
namespace Go.Proofs.YtnkhaobokmmnjaaDoor
open Go.RowKit
theorem CnfModels_card (vars : Int) (cl : List (List Int)) (vs : List Bool) (vf vv : Value) (w : World) (hf : CnfI w vf vars cl) (hv : Bools w vv vs) (hT : CTab w) :
    Calls Tryd.prog 3 #[vf, vv] w fun r w' => r = .returned (.bool true) ∧ Ext w w' := CnfModels_any vars cl vs vf vv w hf.1 hf.2 hv hT
end Go.Proofs.YtnkhaobokmmnjaaDoor
