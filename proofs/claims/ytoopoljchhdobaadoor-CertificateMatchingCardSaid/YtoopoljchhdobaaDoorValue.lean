/-
  The walk of value: the value of a well-formed expression.
-/
import Derived.Test.YtoopoljchhdobaaDoorEval
namespace Go.Proofs.YtoopoljchhdobaaDoor
open Go.RowKit

/-- The table of the greatest numbers of each width, as it lies. -/
def Masks (w : World) : Prop := ∀ k : Int, 0 ≤ k → k ≤ 8 → w.cell? ⟨3, k.toNat, none⟩ = some (.int .i64 (pw k - 1))
theorem Masks.ext {w w' : World} (h : Masks w) (he : Ext w w') : Masks w' := fun k h0 h8 => he.cell (h k h0 h8)

theorem val_range (old now : List Int) (e : E) (d : Nat) (h : e.deep d = true) : 0 ≤ e.val old now ∧ e.val old now < pw e.wd := by
  obtain ⟨op, wd, n, ks⟩ := e
  simp only [E.deep, Bool.and_eq_true] at h
  obtain ⟨⟨_, hs⟩, _⟩ := h
  have hp := pw_pos (w := wd)
  simp only [E.val, E.wd_mk]
  split
  · next h1 => subst h1; have := shapedW_const hs; omega
  · split
    · exact ⟨Int.emod_nonneg _ (by omega), Int.emod_lt_of_pos _ hp⟩
    · split
      · exact ⟨Int.emod_nonneg _ (by omega), Int.emod_lt_of_pos _ hp⟩
      · exact ⟨Int.emod_nonneg _ (by omega), Int.emod_lt_of_pos _ hp⟩

theorem deep_wd {e : E} {d : Nat} (h : e.deep d = true) : 1 ≤ e.wd ∧ e.wd ≤ 8 := by
  obtain ⟨op, wd, n, ks⟩ := e
  simp only [E.deep, Bool.and_eq_true] at h
  exact shapedW_wd h.1.2

/-- A variable of type [3]int: its cells, none of them frozen. -/
def Arr3 (w : World) (B : Nat) (xs : List Int) : Prop := ∀ j : Nat, j < 3 → w.cell? ⟨B, j, none⟩ = some (.int .i64 (xs.getD j 0)) ∧ w.frozen? ⟨B, j, none⟩ = false

theorem Arr3.step {old now : List Int} {wr w1 : World} {B k : Nat} {ks : List E} (h : Arr3 wr B ((ks.take k).map (·.val old now))) (hx : Ext wr w1) (hB : B < wr.heap.size) (hlt : k < ks.length) :
    Arr3 (w1.setCell ⟨B, k, none⟩ (.int .i64 (ks[k].val old now))) B ((ks.take (k + 1)).map (·.val old now)) := by
  intro j hj
  obtain ⟨h1, h2⟩ := h j hj
  have h1' : w1.cell? ⟨B, j, none⟩ = some (.int .i64 (((ks.take k).map (·.val old now)).getD j 0)) := by rw [hx.cellEq hB]; exact h1
  have h2' : w1.frozen? ⟨B, j, none⟩ = false := by rw [hx.frozenEq hB]; exact h2
  refine ⟨?_, by rw [World.frozen?_setCell]; exact h2'⟩
  have e : (ks.take (k + 1)).map (·.val old now) = (ks.take k).map (·.val old now) ++ [ks[k].val old now] := by rw [List.take_succ_eq_append_getElem hlt, List.map_append]; rfl
  by_cases c : j = k
  · subst c
    rw [World.cell?_setCell_same _ _ _ h1', e]
    simp [List.getD_eq_getElem?_getD, Nat.min_eq_left (Nat.le_of_lt hlt)]
  · rw [World.cell?_setCell_other _ _ _ _ (by intro h; cases h; exact c rfl), h1', e]
    have hl : ((ks.take k).map (·.val old now)).length = k := by simp; omega
    congr 2
    simp only [List.getD_eq_getElem?_getD, List.getElem?_append, hl]
    split
    · rfl
    · rw [List.getElem?_eq_none (by omega), List.getElem?_eq_none (by simp; omega)]
end Go.Proofs.YtoopoljchhdobaaDoor
