/-
  Small facts for the walks of law15.
-/
import Derived.Test.YtlnahhlddekhoaaDoorMHd
namespace Go.Proofs.YtlnahhlddekhoaaDoor
open Go.RowKit

theorem relv_ws {w : World} {v1 v2 v3 : Value} {cs ws : List Int} {P : List (Int × Int)} (h : RelV w (.agg #[v1, v2, v3]) cs ws P) : Ints w v2 ws := by
  obtain ⟨_, _, _, e, _, h2, _⟩ := h
  cases e; exact h2
theorem relv_cs {w : World} {v1 v2 v3 : Value} {cs ws : List Int} {P : List (Int × Int)} (h : RelV w (.agg #[v1, v2, v3]) cs ws P) : Ints w v1 cs := by
  obtain ⟨_, _, _, e, h2, _, _⟩ := h
  cases e; exact h2
theorem setv_ws {w : World} {v1 v2 v3 : Value} {cs ws is : List Int} (h : SetV w (.agg #[v1, v2, v3]) cs ws is) : Ints w v2 ws := by
  obtain ⟨_, _, _, e, _, h2, _⟩ := h
  cases e; exact h2
theorem len_third {n : Int} {a b c : Nat} (h : lenB n a b c = true) : (c : Int) ≤ n := by
  unfold lenB at h
  simp only [Bool.and_eq_true, decide_eq_true_eq] at h
  exact h.2
theorem castL_length (l : List Nat) : (castL l).length = l.length := by simp [castL]
/-- Inside, the result in new memory. -/
theorem Inside_own {cs ws : List Int} {P : List (Nat × Nat)} {S : List Nat} (h : ValidR cs ws P) (s : ValidS cs ws S) (va vs : Value) (w : World) (ha : RelV w va cs ws (castP P)) (hs : SetV w vs cs ws (castL S)) (hT : DeB w) :
    Calls Tryd.prog 15 #[va, vs] w fun r w' => ∃ a1 l1 c1 a2 l2 c2 a3 l3 c3, r = .returned (.tuple #[.agg #[.slice a1 l1 c1, .slice a2 l2 c2, .slice a3 l3 c3], .int .i64 0]) ∧ SetO w' w.heap.size (.agg #[.slice a1 l1 c1, .slice a2 l2 c2, .slice a3 l3 c3]) cs ws (castL (insL P S)) ∧ Ext w w' := by
  refine (Inside_any cs ws (castP P) cs ws (castL S) va vs w ha hs hT).mono fun r w' hr => ?_
  unfold OpPost at hr
  rw [applies_of h s, if_pos rfl, natP_cast, natL_cast] at hr
  obtain ⟨v, rfl, h1, h2⟩ := hr
  obtain ⟨a1, l1, c1, a2, l2, c2, a3, l3, c3, rfl⟩ := h1.setV.shape'
  exact ⟨a1, l1, c1, a2, l2, c2, a3, l3, c3, rfl, h1, h2⟩
end Go.Proofs.YtlnahhlddekhoaaDoor
