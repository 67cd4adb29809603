/-
  A variable that is there. (A name of a text that a merged claim leaves out.)
  The walks of the reference's Power, arity, Size, Small.
-/
import Derived.Test.YtlcgbdjmlnjhcaaGreatDoorG18
import Derived.Test.YtlcgbdjmlnjhcaaGreatDoorG00
import Derived.Test.YtlcgbdjmlnjhcaaGreatDoorG10
import Derived.Test.YtlcgbdjmlnjhcaaGreatDoorG03
namespace Go.Proofs.YtlcgbdjmlnjhcaaGreatDoor
open Go.RowKit
theorem VarE.lt {w : World} {b : Nat} {op wd n : Int} {kv : Value} (h : VarE w b op wd n kv) : b < w.heap.size := heap_lt' h
end Go.Proofs.YtlcgbdjmlnjhcaaGreatDoor
namespace Go.Proofs.YtlcgbdjmlnjhcaaGreatDoor
open Go.RowKit

/-- The number of kids of an operator, -1 if it is unknown. -/
def arityS (op : Int) : Int := if 1 ≤ op ∧ op ≤ 3 then 0 else if op = 4 then 1 else if 5 ≤ op ∧ op ≤ 13 then 2 else if op = 14 then 3 else -1

set_option maxHeartbeats 400000 in
theorem arity_any (op : Int) (w : World) : Calls Tryz.prog 102 #[.int .i64 op] w fun e w' => e = .returned (.int .i64 (arityS op)) ∧ w' = w := by
  have hc : op < 1 ∨ (1 ≤ op ∧ op ≤ 3) ∨ op = 4 ∨ (5 ≤ op ∧ op ≤ 13) ∨ op = 14 ∨ 14 < op := by omega
  rcases hc with h | ⟨h, h'⟩ | rfl | ⟨h, h'⟩ | rfl | h
  · have HF : Hid (arityS op = -1) := by unfold Hid arityS; rw [if_neg (by omega), if_neg (by omega), if_neg (by omega), if_neg (by omega)]
    go_enter Tryz.func102, Tryz.ntmps102
    go_wp2
    go_ret
    exact ⟨by rw [HF.out]; rfl, rfl⟩
  · have HF : Hid (arityS op = 0) := by unfold Hid arityS; rw [if_pos (by omega)]
    go_enter Tryz.func102, Tryz.ntmps102
    go_wp2
    go_ret
    exact ⟨by rw [HF.out]; rfl, rfl⟩
  · go_enter Tryz.func102, Tryz.ntmps102
    go_wp2
    go_ret
    exact ⟨rfl, rfl⟩
  · have HF : Hid (arityS op = 2) := by unfold Hid arityS; rw [if_neg (by omega), if_neg (by omega), if_pos (by omega)]
    go_enter Tryz.func102, Tryz.ntmps102
    go_wp2
    go_ret
    exact ⟨by rw [HF.out]; rfl, rfl⟩
  · go_enter Tryz.func102, Tryz.ntmps102
    go_wp2
    go_ret
    exact ⟨rfl, rfl⟩
  · have HF : Hid (arityS op = -1) := by unfold Hid arityS; rw [if_neg (by omega), if_neg (by omega), if_neg (by omega), if_neg (by omega)]
    go_enter Tryz.func102, Tryz.ntmps102
    go_wp2
    go_ret
    exact ⟨by rw [HF.out]; rfl, rfl⟩

end Go.Proofs.YtlcgbdjmlnjhcaaGreatDoor
