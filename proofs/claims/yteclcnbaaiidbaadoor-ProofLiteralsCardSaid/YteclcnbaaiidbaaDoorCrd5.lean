/-
  ProofLiterals over arguments as they come in.
-/
import Derived.Test.YteclcnbaaiidbaaDoorLp5
import Derived.Test.YteclcnbaaiidbaaDoorOpenP
namespace Go.Proofs.YteclcnbaaiidbaaDoor
open Go.RowKit
theorem ProofLiterals_card (vars : Int) (cl : List (List Int)) (l : List St) (keep : Bool) (vf vl : Value) (w : World) (hf : CnfI w vf vars cl) (hl : StepsI w vl l) (hT : PTab w) :
    Calls Tryd.prog 7 #[vf, vl, .bool keep] w fun r w' => r = .returned (.bool true) ∧ Ext w w' :=
  ProofLiterals_any vars cl l keep vf vl w hf.1 hl.1 ⟨hf.2, fun s hs => (hl.2 s hs).1⟩ hT
end Go.Proofs.YteclcnbaaiidbaaDoor
