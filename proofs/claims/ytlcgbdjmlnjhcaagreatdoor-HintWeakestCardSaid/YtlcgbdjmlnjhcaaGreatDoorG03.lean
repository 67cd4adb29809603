/-
  The walks of truth, element, apply, value: what the evaluation of an expression computes.
-/
import Derived.Test.YtlcgbdjmlnjhcaaGreatDoorG00
import Derived.Test.YtlcgbdjmlnjhcaaGreatDoorRows
import Derived.Deep.QuietTactic
import Derived.BigQuiet
import Derived.Deep.Light
import Derived.Deep.RegionHeld3
namespace Go.Proofs.YtlcgbdjmlnjhcaaGreatDoor
open Go.RowKit

set_option maxHeartbeats 400000 in
theorem truth_any (b : Bool) (w : World) :
    Calls Tryz.prog 101 #[.bool b] w fun e w' => e = .returned (.int .i64 (if b then 1 else 0)) ∧ w = w' := by
  cases b
  all_goals
    go_enter Tryz.func101, Tryz.ntmps101
    go_wp2
    go_ret
    exact ⟨rfl, rfl⟩

set_option maxHeartbeats 400000 in
theorem element_any (v : Value) (l : List Int) (i : Int) (w : World) (hv : Ints w v l) (hi : 0 ≤ i) :
    Calls Tryz.prog 76 #[v, .int .i64 i] w fun e w' => e = .returned (.int .i64 (elemS l i)) ∧ w = w' := by
  obtain ⟨n, rfl⟩ := Int.eq_ofNat_of_zero_le hi
  rcases hv with ⟨⟨ea, ec, rfl⟩, rfl⟩ | ⟨b, o, cap, rfl, hl, hc⟩
  · go_enter Tryz.func76, Tryz.ntmps76
    go_wp2
    go_ret
    exact ⟨rfl, rfl⟩
  · by_cases h : n < l.length
    · have h0 : w.cell? ⟨b, o + n, none⟩ = some (.int .i64 l[n]) := by have := hc n h; rw [Nat.mul_one] at this; exact this
      have hs : elemS l (n : Int) = l[n] := by simp [elemS, List.getD_eq_getElem?_getD, h]
      have H := Lib.hid hs; clear hs hc
      go_enter Tryz.func76, Tryz.ntmps76
      go_wp2
      go_ret
      exact ⟨by rw [H.out]; rfl, rfl⟩
    · have hs : elemS l (n : Int) = 0 := by simp [elemS, List.getD_eq_getElem?_getD, List.getElem?_eq_none (Nat.le_of_not_lt h)]
      have H := Lib.hid hs; clear hs hc
      go_enter Tryz.func76, Tryz.ntmps76
      go_wp2
      go_ret
      exact ⟨by rw [H.out]; rfl, rfl⟩
theorem ret_int {k : IntKind} {a b : Int} (h : a = b) : Ending.returned (.int k a) = .returned (.int k b) := by rw [h]


theorem mul_small {a b : Int} (ha : 0 ≤ a) (ha' : a ≤ 255) (hb : 0 ≤ b) (hb' : b ≤ 255) : wrap64 (a * b) = a * b := by
  have h0 : 0 ≤ a * b := Int.mul_nonneg ha hb
  have h1 : a * b ≤ 255 * 255 := Int.mul_le_mul ha' hb' hb (by decide)
  exact IntWalk.wrap64_in _ ⟨by omega, by omega⟩

set_option maxHeartbeats 1000000 in
/-- apply: 'a', 'b', 'c' are the values of the kids. -/
theorem apply_any (op a b c : Int) (w : World) (h4 : 4 ≤ op) (h14 : op ≤ 14) (ha : 0 ≤ a) (ha' : a ≤ 255) (hb : 0 ≤ b) (hb' : b ≤ 255) :
    Calls Tryz.prog 77 #[.int .i64 op, .agg #[.int .i64 a, .int .i64 b, .int .i64 c]] w fun e w' => e = .returned (.int .i64 (applyS op a b c)) ∧ Ext w w' := by
  have hop : op = 4 ∨ op = 5 ∨ op = 6 ∨ op = 7 ∨ op = 8 ∨ op = 9 ∨ op = 10 ∨ op = 11 ∨ op = 12 ∨ op = 13 ∨ op = 14 := by omega
  clear h4 h14
  rcases hop with rfl | rfl | rfl | rfl | rfl | rfl | rfl | rfl | rfl | rfl | rfl
  all_goals
    go_enter Tryz.func77, Tryz.ntmps77
    go_wp2_with fail
    go_quiet (fail)
    go_wp2_with (go_at_call 101; refine (truth_any _ _).mono ?_; rintro e w' ⟨rfl, rfl⟩)
    all_goals
      go_ret
      go_light
      refine ⟨?_, ((Ext.refl _).alloc _).drewN _⟩
      first
        | exact ret_int (not_eq a ha ha')
        | exact ret_int (and_eq a b ha ha' hb hb')
        | exact ret_int (or_eq a b ha ha' hb hb')
        | exact ret_int (xor_eq a b ha ha' hb hb')
        | exact ret_int (mul_small ha ha' hb hb')
        | exact ret_int Int.sub_eq_add_neg.symm
        | exact ret_int rfl
        | (refine ret_int ?_; simp only [applyS]; simp_all; done)
        | (refine ret_int ?_; simp only [applyS]; simp_all <;> omega)
end Go.Proofs.YtlcgbdjmlnjhcaaGreatDoor
