/-
  ProofRoundTrip over arguments as they come in.
-/
import Derived.Test.YteclcnbaaiidbaaDoorLp2
import Derived.Test.YteclcnbaaiidbaaDoorOpenP
namespace Go.Proofs.YteclcnbaaiidbaaDoor
open Go.RowKit
theorem ProofRoundTrip_card (l : List St) (s : ByteArray) (vl : Value) (w : World) (hl : StepsI w vl l) (hs : s.size ≤ maxLen) (hT : PTab w) :
    Calls Tryd.prog 3 #[vl, .string s] w fun r w' => r = .returned (.bool true) ∧ Ext w w' := by
  have e : s = ⟨s.data.toList.toArray⟩ := by cases s with | mk d => rw [Array.toArray_toList]
  have hm : maxLen ≤ 9223372036854775807 := by decide
  have hz : s.data.toList.length = s.size := Array.length_toList
  rw [e]
  exact ProofRoundTrip_any l s.data.toList vl w hl.1 hl.2 (by omega) hT
end Go.Proofs.YteclcnbaaiidbaaDoor
