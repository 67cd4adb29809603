/-
  ProofTrims over arguments as they come in.
-/
import Derived.Test.YteclcnbaaiidbaaDoorLp3
import Derived.Test.YteclcnbaaiidbaaDoorOpenP
namespace Go.Proofs.YteclcnbaaiidbaaDoor
open Go.RowKit
theorem ProofTrims_card (vars : Int) (cl : List (List Int)) (l : List St) (vf vl : Value) (w : World) (hf : CnfI w vf vars cl) (hl : StepsI w vl l) (hT : PTab w) :
    Calls Tryd.prog 4 #[vf, vl] w fun r w' => r = .returned (.bool true) ∧ Ext w w' :=
  ProofTrims_any vars cl l vf vl w hf.1 hl.1 ⟨hf.2, fun s hs => (hl.2 s hs).1⟩ hT
end Go.Proofs.YteclcnbaaiidbaaDoor
