/-
  The walk of cnf.normalClause$1: the order of literals.
-/
import Derived.Test.YtnkhaobokmmnjaaDoorCnA
import Derived.Test.YtnkhaobokmmnjaaDoorCnL
namespace Go.Proofs.YtnkhaobokmmnjaaDoor
open Go.RowKit

set_option maxHeartbeats 2000000 in
theorem litCmp_any (x y : Int) (w : World) (hx : -8000 ≤ x ∧ x ≤ 8000) (hy : -8000 ≤ y ∧ y ≤ 8000) : Calls Tryd.prog 42 #[.int .i64 x, .int .i64 y] w fun r w' => r = .returned (.int .i64 (litCmp x y)) ∧ w' = w := by
  have HL : Hid (litCmp x y = if Lib.compareInt (absI x) (absI y) = 0 then Lib.compareInt x y else Lib.compareInt (absI x) (absI y)) := by
    unfold Hid litCmp Lib.compareInt
    by_cases h1 : absI x < absI y
    · simp [h1]
    · by_cases h2 : absI y < absI x
      · simp [h1, h2]
      · simp [h1, h2]
  go_enter Tryd.func42, Tryd.ntmps42
  go_wp2_with fail
  refine (Cabs_any x _ (by unfold InI; omega) (by omega)).mono ?_
  rintro r w2 ⟨rfl, rfl⟩
  go_wp2_with fail
  refine (Cabs_any y _ (by unfold InI; omega) (by omega)).mono ?_
  rintro r w3 ⟨rfl, rfl⟩
  go_wp2_with fail
  refine (Tryd.cmp_Compare_int _ _ _).mono ?_
  rintro r w2 ⟨rfl, rfl⟩
  generalize Lib.compareInt (absI x) (absI y) = z at *
  by_cases hz : z = 0
  · subst hz
    rw [if_pos rfl] at HL
    go_wp2_with fail
    refine (Tryd.cmp_Compare_int _ _ _).mono ?_
    rintro r w2 ⟨rfl, rfl⟩
    go_wp2_with fail
    go_ret
    exact ⟨by rw [HL.out]; rfl, rfl⟩
  · rw [if_neg hz] at HL
    have h2 : (z != 0) = true := by simpa using hz
    go_wp2_with fail
    go_ret
    exact ⟨by rw [HL.out]; rfl, rfl⟩
end Go.Proofs.YtnkhaobokmmnjaaDoor
