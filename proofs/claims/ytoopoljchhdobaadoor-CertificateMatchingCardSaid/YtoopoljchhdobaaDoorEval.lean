/-
  The walks of truth, element, apply, value: what the evaluation of an expression computes.
-/
import Derived.Test.YtoopoljchhdobaaDoorSpec
import Derived.Test.YtoopoljchhdobaaDoorRows
import Derived.Deep.QuietTactic
import Derived.BigQuiet
import Derived.Deep.Light
import Derived.Deep.RegionHeld3
namespace Go.Proofs.YtoopoljchhdobaaDoor
open Go.RowKit

theorem ret_int {k : IntKind} {a b : Int} (h : a = b) : Ending.returned (.int k a) = .returned (.int k b) := by rw [h]


theorem mul_small {a b : Int} (ha : 0 ≤ a) (ha' : a ≤ 255) (hb : 0 ≤ b) (hb' : b ≤ 255) : wrap64 (a * b) = a * b := by
  have h0 : 0 ≤ a * b := Int.mul_nonneg ha hb
  have h1 : a * b ≤ 255 * 255 := Int.mul_le_mul ha' hb' hb (by decide)
  exact IntWalk.wrap64_in _ ⟨by omega, by omega⟩

end Go.Proofs.YtoopoljchhdobaaDoor
