/-
  CnfConjunction, for the card.
-/
import Derived.Test.YtnkhaobokmmnjaaDoorLg1
import Derived.Test.YtnkhaobokmmnjaaDoorOpenN
namespace Go.Proofs.YtnkhaobokmmnjaaDoor
open Go.RowKit
theorem CnfConjunction_card (vars : Int) (cl : List (List Int)) (vs fs : List Bool) (vf vv vb : Value) (w : World) (hf : CnfI w vf vars cl) (hv : Bools w vv vs) (hb : Bools w vb fs) (hT : CTab w) :
    Calls Tryd.prog 8 #[vf, vv, vb] w fun r w' => r = .returned (.bool true) ∧ Ext w w' := CnfConjunction_any vars cl vs fs vf vv vb w hf.1 hf.2 hv hb hT
end Go.Proofs.YtnkhaobokmmnjaaDoor
