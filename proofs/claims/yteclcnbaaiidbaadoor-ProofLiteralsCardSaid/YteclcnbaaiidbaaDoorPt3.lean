/-
  Facts on memory for the walk of proof.Trim.
-/
import Derived.Test.YteclcnbaaiidbaaDoorPt2
import Derived.Laws.Rows
import Derived.Laws.Tables
import Derived.Sort.CutIn
import Derived.Deep.AppendLies
import Derived.Deep.RegionHeld3
namespace Go.Proofs.YteclcnbaaiidbaaDoor
open Go.RowKit Go.Shelf
attribute [local go_sem] Oper.semAt_some

theorem infoBool : (Tryd.prog.info? 4).map (fun i => (i.zero, i.size, i.bytes)) = some (some (.bool false), 1, 1) := by kernel_rfl
theorem lt_heap {w : World} {b : Nat} {o : Obj} (h : w.heap[b]? = some o) : b < w.heap.size := (Array.getElem?_eq_some_iff.1 h).1
theorem own_lt {w : World} {base : Nat} {v : Value} {l : List Int} (h : OwnInts w base v l) (k : Nat) (hk : v.ownBlock = some k) : k < w.heap.size := by
  rcases h.2 with ⟨rfl, _⟩ | ⟨g, cap, cur, rfl, hg, hh, _⟩
  · cases hk
  · cases hk; exact lt_heap hh
theorem OwnInts.keep {w w' : World} {base : Nat} {v : Value} {l : List Int} (h : OwnInts w base v l) (hk : ∀ k, v.ownBlock = some k → w'.heap[k]? = w.heap[k]?) : OwnInts w' base v l := by
  obtain ⟨h1, h2⟩ := h
  refine ⟨h1, ?_⟩
  rcases h2 with h2 | ⟨g, cap, cur, hv, hg, hh, r⟩
  · exact .inl h2
  · exact .inr ⟨g, cap, cur, hv, hg, by rw [hk g (by rw [hv]; rfl)]; exact hh, r⟩
theorem OwnInts.mono {w : World} {base base' : Nat} {v : Value} {l : List Int} (h : OwnInts w base v l) (hb : base' ≤ base) : OwnInts w base' v l := by
  obtain ⟨h1, h2⟩ := h
  refine ⟨h1, ?_⟩
  rcases h2 with h2 | ⟨g, cap, cur, hv, hg, r⟩
  · exact .inl h2
  · exact .inr ⟨g, cap, cur, hv, by omega, r⟩
theorem OwnInts.typed {w : World} {base : Nat} {v : Value} {l : List Int} (h : OwnInts w base v l) (k : Nat) (hk : v.ownBlock = some k) : ∃ cs, w.heap[k]? = some (.cells cs 3 (0, 0)) := by
  rcases h.2 with ⟨rfl, _⟩ | ⟨g, cap, cur, rfl, hg, hh, _⟩
  · cases hk
  · cases hk; exact ⟨_, hh⟩
theorem grown_other {W W' : World} {row : Option Nat} (hg : W.grownBy W' row) (hr : ∀ r, row = some r → ∃ o : Obj, W.heap[r]? = some o ∧ o.isCells = false) (k : Nat) (o : Obj) (hk : W.heap[k]? = some o) (ho : o.isCells = true) : W'.heap[k]? = W.heap[k]? :=
  hg.block k (lt_heap hk) fun e => by
    obtain ⟨o', h1, h2⟩ := hr k e.symm
    rw [hk] at h1; cases h1; rw [ho] at h2; cases h2
/-- The variables of Trim, and the marks. -/
structure TrimM (w : World) (vars : Int) (fa la : Option Addr) (cn fc ln lc T : Nat) (f : Nat → Bool) (W : World) : Prop where
  ext : Ext w W
  b2 : W.heap[w.heap.size]? = some (.cells #[.int .i64 vars, .slice fa cn fc] 27 (0, 0))
  b3 : W.heap[w.heap.size + 1]? = some (.cells #[.slice la ln lc] 22 (0, 0))
  b6 : W.heap[T]? = some (.cells #[.int .i64 (cn : Nat)] 3 (0, 0))
  m : W.rowIs (T + 1) 4 ln fun j => .bool (f j)
  b7 : W.heap[T + 2]? = some (.cells #[.slice (some ⟨T + 1, 0, none⟩) ln ln] 60 (0, 0))
  lt : w.heap.size + 2 ≤ T
variable {w : World} {vars : Int} {fa la : Option Addr} {cn fc ln lc T : Nat} {f : Nat → Bool} {W W' : World}
theorem TrimM.congr {g : Nat → Bool} (h : TrimM w vars fa la cn fc ln lc T f W) (e : ∀ j, j < ln → f j = g j) : TrimM w vars fa la cn fc ln lc T g W := { h with m := h.m.congr fun i hi => by rw [e i hi] }
theorem TrimM.later (h : TrimM w vars fa la cn fc ln lc T f W) (hx : Ext W W') : TrimM w vars fa la cn fc ln lc T f W' :=
  ⟨h.ext.trans hx, by rw [hx.block _ (lt_heap h.b2)]; exact h.b2, by rw [hx.block _ (lt_heap h.b3)]; exact h.b3, by rw [hx.block _ (lt_heap h.b6)]; exact h.b6, h.m.of_block (hx.block _ h.m.lt), by rw [hx.block _ (lt_heap h.b7)]; exact h.b7, h.lt⟩
theorem rowIs_own {n b : Nat} {t : TypeId} {g : Nat → Value} {row : Option Nat} (h : W.rowIs b t n g) (hg : W.grownBy W' row) (hr : ∀ r, row = some r → ∃ o : Obj, W.heap[r]? = some o ∧ o.isCells = false) : W'.rowIs b t n g := by
  have h0 := h
  obtain ⟨c, hb, _, _⟩ := h0
  exact h.of_block (grown_other hg hr b _ hb rfl)
theorem TrimM.own {n : Nat} {l : List St} {B : Nat} (hB : w.heap.size ≤ B) : OwnFrom B (fun (pre : List (Lt ln)) W => TrimM w vars fa la cn fc ln lc T (markAll n l (valsL pre)) W) := by
  intro s W W' row h hg hr
  have hr' : ∀ r, row = some r → ∃ o : Obj, W.heap[r]? = some o ∧ o.isCells = false := fun r e => (hr r e).2
  exact ⟨h.ext.grown hg fun k e => Nat.le_trans hB (hr k e).1, (grown_other hg hr' _ _ h.b2 rfl).trans h.b2, (grown_other hg hr' _ _ h.b3 rfl).trans h.b3, (grown_other hg hr' _ _ h.b6 rfl).trans h.b6, rowIs_own h.m hg hr', (grown_other hg hr' _ _ h.b7 rfl).trans h.b7, h.lt⟩
/-- One mark more. -/
theorem TrimM.mark (h : TrimM w vars fa la cn fc ln lc T f W) (j : Nat) : TrimM w vars fa la cn fc ln lc T (fun i => if i = j then true else f i) (W.setCell ⟨T + 1, j, none⟩ (.bool true)) := by
  have hl := h.lt
  have ho : ∀ k, k ≠ T + 1 → (W.setCell ⟨T + 1, j, none⟩ (.bool true)).heap[k]? = W.heap[k]? := fun k hk => heap_setCell_other _ _ _ _ hk
  exact ⟨h.ext.setCell (p := ⟨T + 1, j, none⟩) (by show w.heap.size ≤ T + 1; omega) _, (ho _ (by omega)).trans h.b2, (ho _ (by omega)).trans h.b3, (ho _ (by omega)).trans h.b6, (h.m.set j (.bool true)).congr fun i _ => by split <;> rfl, (ho _ (by omega)).trans h.b7, h.lt⟩
theorem TrimM.drewN (h : TrimM w vars fa la cn fc ln lc T f W) (k : Nat) : TrimM w vars fa la cn fc ln lc T f (W.drewN k) := h.later ((Ext.refl W).drewN k)
theorem TrimM.cells (h : TrimM w vars fa la cn fc ln lc T f W) : W.cell? ⟨w.heap.size, 0, none⟩ = some (.int .i64 vars) ∧ W.cell? ⟨w.heap.size, 1, none⟩ = some (.slice fa cn fc) ∧ W.cell? ⟨w.heap.size + 1, 0, none⟩ = some (.slice la ln lc) ∧ W.cell? ⟨T, 0, none⟩ = some (.int .i64 (cn : Nat)) ∧
    W.cell? ⟨T + 2, 0, none⟩ = some (.slice (some ⟨T + 1, 0, none⟩) ln ln) ∧ (∀ j, j < ln → W.cell? ⟨T + 1, j, none⟩ = some (.bool (f j))) ∧ ∀ j, W.frozen? ⟨T + 1, j, none⟩ = false := by
  have h2 := h.b2; have h3 := h.b3; have h6 := h.b6; have h7 := h.b7
  exact ⟨by simp [World.cell?, h2], by simp [World.cell?, h2], by simp [World.cell?, h3], by simp [World.cell?, h6], by simp [World.cell?, h7], fun j hj => h.m.cell hj, fun j => h.m.frozen j⟩
end Go.Proofs.YteclcnbaaiidbaaDoor
