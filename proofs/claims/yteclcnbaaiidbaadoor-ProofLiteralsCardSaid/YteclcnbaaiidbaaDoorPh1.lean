/-
  The memory that law25's head lays; the plain facts on its examples. (Printed by gen_head25.py.)
-/
import Derived.Test.YteclcnbaaiidbaaDoorPx6
import Derived.Test.YteclcnbaaiidbaaDoorPx3
import Derived.Test.YteclcnbaaiidbaaDoorPt4
import Derived.Test.YteclcnbaaiidbaaDoorPk3
namespace Go.Proofs.YteclcnbaaiidbaaDoor
open Go.RowKit

theorem row_ints {W : World} {b n cap : Nat} {l : List Int} {t : TypeId} (hn : n = l.length) (hl : l.length ≤ 1000000) (h : W.heap[b]? = some (.cells (l.map (Value.int .i64)).toArray t (0, 0))) : Ints W (.slice (some ⟨b, 0, none⟩) n cap) l := by
  subst hn
  refine .inr ⟨b, 0, cap, rfl, by omega, fun i hi => ?_⟩
  simp only [IntAt, World.cell?, h, Nat.zero_add, Nat.mul_one]
  simp [hi]
theorem nil_ints (W : World) : Ints W (.slice none 0 0) [] := .inl ⟨⟨_, _, rfl⟩, rfl⟩
def cl0 : List (List Int) := [[1, 2], [1, -2], [-1, 2], [-1, -2]]
def l0 : List St := [⟨[1], [0, 1]⟩, ⟨[2], [0, 2]⟩, ⟨[], [4, 2, 3]⟩]

theorem head_mem (w W : World) (hW : W = (((((((((((w.alloc (.cells #[.int .i64 1, .int .i64 2] 3)).alloc (.cells #[.int .i64 1, .int .i64 (-2)] 3)).alloc (.cells #[.int .i64 (-1), .int .i64 2] 3)).alloc (.cells #[.int .i64 (-1), .int .i64 (-2)] 3)).alloc (.cells #[.slice (some ⟨w.heap.size, 0, none⟩) 2 2, .slice (some ⟨w.heap.size + 1, 0, none⟩) 2 2, .slice (some ⟨w.heap.size + 1 + 1, 0, none⟩) 2 2, .slice (some ⟨w.heap.size + 1 + 1 + 1, 0, none⟩) 2 2] 33)).alloc (.cells #[.int .i64 2, .slice (some ⟨w.heap.size + 1 + 1 + 1 + 1, 0, none⟩) 4 4] 27)).alloc (.cells #[.int .i64 1] 3)).alloc (.cells #[.int .i64 0, .int .i64 1] 3)).alloc (.cells #[.int .i64 2] 3)).alloc (.cells #[.int .i64 0, .int .i64 2] 3)).alloc (.cells #[.int .i64 4, .int .i64 2, .int .i64 3] 3)).alloc (.cells #[.slice (some ⟨w.heap.size + 1 + 1 + 1 + 1 + 1 + 1, 0, none⟩) 1 1, .slice (some ⟨w.heap.size + 1 + 1 + 1 + 1 + 1 + 1 + 1, 0, none⟩) 2 2, .slice (some ⟨w.heap.size + 1 + 1 + 1 + 1 + 1 + 1 + 1 + 1, 0, none⟩) 1 1, .slice (some ⟨w.heap.size + 1 + 1 + 1 + 1 + 1 + 1 + 1 + 1 + 1, 0, none⟩) 2 2, .slice none 0 0, .slice (some ⟨w.heap.size + 1 + 1 + 1 + 1 + 1 + 1 + 1 + 1 + 1 + 1, 0, none⟩) 3 3] 35)) :
    Ext w W ∧ W.cell? ⟨w.heap.size + 1 + 1 + 1 + 1 + 1, 0, none⟩ = some (.int .i64 2) ∧ W.cell? ⟨w.heap.size + 1 + 1 + 1 + 1 + 1, 1, none⟩ = some (.slice (some ⟨w.heap.size + 1 + 1 + 1 + 1, 0, none⟩) 4 4) ∧ CnfV W (.agg #[.int .i64 2, .slice (some ⟨w.heap.size + 1 + 1 + 1 + 1, 0, none⟩) 4 4]) 2 cl0 ∧ Steps W (.slice (some ⟨w.heap.size + 1 + 1 + 1 + 1 + 1 + 1 + 1 + 1 + 1 + 1 + 1, 0, none⟩) 3 3) l0 := by
  obtain ⟨A1, hA1⟩ : ∃ A, A = w.alloc (.cells #[.int .i64 1, .int .i64 2] 3) := ⟨_, rfl⟩
  rw [← hA1] at hW
  have z1 : A1.heap.size = w.heap.size + 1 := by rw [hA1, World.size_alloc]
  have x1 : Ext w A1 := by rw [hA1]; exact (Ext.refl _).alloc _
  have b1 : A1.heap[w.heap.size]? = some (.cells #[.int .i64 1, .int .i64 2] 3 (0, 0)) := by rw [hA1]; exact heap_new _ _
  clear hA1
  obtain ⟨A2, hA2⟩ : ∃ A, A = A1.alloc (.cells #[.int .i64 1, .int .i64 (-2)] 3) := ⟨_, rfl⟩
  rw [← hA2] at hW
  have z2 : A2.heap.size = w.heap.size + 1 + 1 := by rw [hA2, World.size_alloc, z1]
  have x2 : Ext A1 A2 := by rw [hA2]; exact (Ext.refl _).alloc _
  have b2 : A2.heap[w.heap.size + 1]? = some (.cells #[.int .i64 1, .int .i64 (-2)] 3 (0, 0)) := by rw [hA2, ← z1]; exact heap_new _ _
  clear hA2
  obtain ⟨A3, hA3⟩ : ∃ A, A = A2.alloc (.cells #[.int .i64 (-1), .int .i64 2] 3) := ⟨_, rfl⟩
  rw [← hA3] at hW
  have z3 : A3.heap.size = w.heap.size + 1 + 1 + 1 := by rw [hA3, World.size_alloc, z2]
  have x3 : Ext A2 A3 := by rw [hA3]; exact (Ext.refl _).alloc _
  have b3 : A3.heap[w.heap.size + 1 + 1]? = some (.cells #[.int .i64 (-1), .int .i64 2] 3 (0, 0)) := by rw [hA3, ← z2]; exact heap_new _ _
  clear hA3
  obtain ⟨A4, hA4⟩ : ∃ A, A = A3.alloc (.cells #[.int .i64 (-1), .int .i64 (-2)] 3) := ⟨_, rfl⟩
  rw [← hA4] at hW
  have z4 : A4.heap.size = w.heap.size + 1 + 1 + 1 + 1 := by rw [hA4, World.size_alloc, z3]
  have x4 : Ext A3 A4 := by rw [hA4]; exact (Ext.refl _).alloc _
  have b4 : A4.heap[w.heap.size + 1 + 1 + 1]? = some (.cells #[.int .i64 (-1), .int .i64 (-2)] 3 (0, 0)) := by rw [hA4, ← z3]; exact heap_new _ _
  clear hA4
  obtain ⟨A5, hA5⟩ : ∃ A, A = A4.alloc (.cells #[.slice (some ⟨w.heap.size, 0, none⟩) 2 2, .slice (some ⟨w.heap.size + 1, 0, none⟩) 2 2, .slice (some ⟨w.heap.size + 1 + 1, 0, none⟩) 2 2, .slice (some ⟨w.heap.size + 1 + 1 + 1, 0, none⟩) 2 2] 33) := ⟨_, rfl⟩
  rw [← hA5] at hW
  have z5 : A5.heap.size = w.heap.size + 1 + 1 + 1 + 1 + 1 := by rw [hA5, World.size_alloc, z4]
  have x5 : Ext A4 A5 := by rw [hA5]; exact (Ext.refl _).alloc _
  have b5 : A5.heap[w.heap.size + 1 + 1 + 1 + 1]? = some (.cells #[.slice (some ⟨w.heap.size, 0, none⟩) 2 2, .slice (some ⟨w.heap.size + 1, 0, none⟩) 2 2, .slice (some ⟨w.heap.size + 1 + 1, 0, none⟩) 2 2, .slice (some ⟨w.heap.size + 1 + 1 + 1, 0, none⟩) 2 2] 33 (0, 0)) := by rw [hA5, ← z4]; exact heap_new _ _
  clear hA5
  obtain ⟨A6, hA6⟩ : ∃ A, A = A5.alloc (.cells #[.int .i64 2, .slice (some ⟨w.heap.size + 1 + 1 + 1 + 1, 0, none⟩) 4 4] 27) := ⟨_, rfl⟩
  rw [← hA6] at hW
  have z6 : A6.heap.size = w.heap.size + 1 + 1 + 1 + 1 + 1 + 1 := by rw [hA6, World.size_alloc, z5]
  have x6 : Ext A5 A6 := by rw [hA6]; exact (Ext.refl _).alloc _
  have b6 : A6.heap[w.heap.size + 1 + 1 + 1 + 1 + 1]? = some (.cells #[.int .i64 2, .slice (some ⟨w.heap.size + 1 + 1 + 1 + 1, 0, none⟩) 4 4] 27 (0, 0)) := by rw [hA6, ← z5]; exact heap_new _ _
  clear hA6
  obtain ⟨A7, hA7⟩ : ∃ A, A = A6.alloc (.cells #[.int .i64 1] 3) := ⟨_, rfl⟩
  rw [← hA7] at hW
  have z7 : A7.heap.size = w.heap.size + 1 + 1 + 1 + 1 + 1 + 1 + 1 := by rw [hA7, World.size_alloc, z6]
  have x7 : Ext A6 A7 := by rw [hA7]; exact (Ext.refl _).alloc _
  have b7 : A7.heap[w.heap.size + 1 + 1 + 1 + 1 + 1 + 1]? = some (.cells #[.int .i64 1] 3 (0, 0)) := by rw [hA7, ← z6]; exact heap_new _ _
  clear hA7
  obtain ⟨A8, hA8⟩ : ∃ A, A = A7.alloc (.cells #[.int .i64 0, .int .i64 1] 3) := ⟨_, rfl⟩
  rw [← hA8] at hW
  have z8 : A8.heap.size = w.heap.size + 1 + 1 + 1 + 1 + 1 + 1 + 1 + 1 := by rw [hA8, World.size_alloc, z7]
  have x8 : Ext A7 A8 := by rw [hA8]; exact (Ext.refl _).alloc _
  have b8 : A8.heap[w.heap.size + 1 + 1 + 1 + 1 + 1 + 1 + 1]? = some (.cells #[.int .i64 0, .int .i64 1] 3 (0, 0)) := by rw [hA8, ← z7]; exact heap_new _ _
  clear hA8
  obtain ⟨A9, hA9⟩ : ∃ A, A = A8.alloc (.cells #[.int .i64 2] 3) := ⟨_, rfl⟩
  rw [← hA9] at hW
  have z9 : A9.heap.size = w.heap.size + 1 + 1 + 1 + 1 + 1 + 1 + 1 + 1 + 1 := by rw [hA9, World.size_alloc, z8]
  have x9 : Ext A8 A9 := by rw [hA9]; exact (Ext.refl _).alloc _
  have b9 : A9.heap[w.heap.size + 1 + 1 + 1 + 1 + 1 + 1 + 1 + 1]? = some (.cells #[.int .i64 2] 3 (0, 0)) := by rw [hA9, ← z8]; exact heap_new _ _
  clear hA9
  obtain ⟨A10, hA10⟩ : ∃ A, A = A9.alloc (.cells #[.int .i64 0, .int .i64 2] 3) := ⟨_, rfl⟩
  rw [← hA10] at hW
  have z10 : A10.heap.size = w.heap.size + 1 + 1 + 1 + 1 + 1 + 1 + 1 + 1 + 1 + 1 := by rw [hA10, World.size_alloc, z9]
  have x10 : Ext A9 A10 := by rw [hA10]; exact (Ext.refl _).alloc _
  have b10 : A10.heap[w.heap.size + 1 + 1 + 1 + 1 + 1 + 1 + 1 + 1 + 1]? = some (.cells #[.int .i64 0, .int .i64 2] 3 (0, 0)) := by rw [hA10, ← z9]; exact heap_new _ _
  clear hA10
  obtain ⟨A11, hA11⟩ : ∃ A, A = A10.alloc (.cells #[.int .i64 4, .int .i64 2, .int .i64 3] 3) := ⟨_, rfl⟩
  rw [← hA11] at hW
  have z11 : A11.heap.size = w.heap.size + 1 + 1 + 1 + 1 + 1 + 1 + 1 + 1 + 1 + 1 + 1 := by rw [hA11, World.size_alloc, z10]
  have x11 : Ext A10 A11 := by rw [hA11]; exact (Ext.refl _).alloc _
  have b11 : A11.heap[w.heap.size + 1 + 1 + 1 + 1 + 1 + 1 + 1 + 1 + 1 + 1]? = some (.cells #[.int .i64 4, .int .i64 2, .int .i64 3] 3 (0, 0)) := by rw [hA11, ← z10]; exact heap_new _ _
  clear hA11
  obtain ⟨A12, hA12⟩ : ∃ A, A = A11.alloc (.cells #[.slice (some ⟨w.heap.size + 1 + 1 + 1 + 1 + 1 + 1, 0, none⟩) 1 1, .slice (some ⟨w.heap.size + 1 + 1 + 1 + 1 + 1 + 1 + 1, 0, none⟩) 2 2, .slice (some ⟨w.heap.size + 1 + 1 + 1 + 1 + 1 + 1 + 1 + 1, 0, none⟩) 1 1, .slice (some ⟨w.heap.size + 1 + 1 + 1 + 1 + 1 + 1 + 1 + 1 + 1, 0, none⟩) 2 2, .slice none 0 0, .slice (some ⟨w.heap.size + 1 + 1 + 1 + 1 + 1 + 1 + 1 + 1 + 1 + 1, 0, none⟩) 3 3] 35) := ⟨_, rfl⟩
  rw [← hA12] at hW
  have z12 : A12.heap.size = w.heap.size + 1 + 1 + 1 + 1 + 1 + 1 + 1 + 1 + 1 + 1 + 1 + 1 := by rw [hA12, World.size_alloc, z11]
  have x12 : Ext A11 A12 := by rw [hA12]; exact (Ext.refl _).alloc _
  have b12 : A12.heap[w.heap.size + 1 + 1 + 1 + 1 + 1 + 1 + 1 + 1 + 1 + 1 + 1]? = some (.cells #[.slice (some ⟨w.heap.size + 1 + 1 + 1 + 1 + 1 + 1, 0, none⟩) 1 1, .slice (some ⟨w.heap.size + 1 + 1 + 1 + 1 + 1 + 1 + 1, 0, none⟩) 2 2, .slice (some ⟨w.heap.size + 1 + 1 + 1 + 1 + 1 + 1 + 1 + 1, 0, none⟩) 1 1, .slice (some ⟨w.heap.size + 1 + 1 + 1 + 1 + 1 + 1 + 1 + 1 + 1, 0, none⟩) 2 2, .slice none 0 0, .slice (some ⟨w.heap.size + 1 + 1 + 1 + 1 + 1 + 1 + 1 + 1 + 1 + 1, 0, none⟩) 3 3] 35 (0, 0)) := by rw [hA12, ← z11]; exact heap_new _ _
  clear hA12
  subst hW
  have y12 : Ext W W := Ext.refl _
  have y11 : Ext A11 W := x12.trans y12
  have y10 : Ext A10 W := x11.trans y11
  have y9 : Ext A9 W := x10.trans y10
  have y8 : Ext A8 W := x9.trans y9
  have y7 : Ext A7 W := x8.trans y8
  have y6 : Ext A6 W := x7.trans y7
  have y5 : Ext A5 W := x6.trans y6
  have y4 : Ext A4 W := x5.trans y5
  have y3 : Ext A3 W := x4.trans y4
  have y2 : Ext A2 W := x3.trans y3
  have y1 : Ext A1 W := x2.trans y2
  have c0 : W.heap[w.heap.size]? = some (.cells #[.int .i64 1, .int .i64 2] 3 (0, 0)) := (y1.block _ (by omega)).trans b1
  have c1 : W.heap[w.heap.size + 1]? = some (.cells #[.int .i64 1, .int .i64 (-2)] 3 (0, 0)) := (y2.block _ (by omega)).trans b2
  have c2 : W.heap[w.heap.size + 1 + 1]? = some (.cells #[.int .i64 (-1), .int .i64 2] 3 (0, 0)) := (y3.block _ (by omega)).trans b3
  have c3 : W.heap[w.heap.size + 1 + 1 + 1]? = some (.cells #[.int .i64 (-1), .int .i64 (-2)] 3 (0, 0)) := (y4.block _ (by omega)).trans b4
  have c4 : W.heap[w.heap.size + 1 + 1 + 1 + 1]? = some (.cells #[.slice (some ⟨w.heap.size, 0, none⟩) 2 2, .slice (some ⟨w.heap.size + 1, 0, none⟩) 2 2, .slice (some ⟨w.heap.size + 1 + 1, 0, none⟩) 2 2, .slice (some ⟨w.heap.size + 1 + 1 + 1, 0, none⟩) 2 2] 33 (0, 0)) := (y5.block _ (by omega)).trans b5
  have c5 : W.heap[w.heap.size + 1 + 1 + 1 + 1 + 1]? = some (.cells #[.int .i64 2, .slice (some ⟨w.heap.size + 1 + 1 + 1 + 1, 0, none⟩) 4 4] 27 (0, 0)) := (y6.block _ (by omega)).trans b6
  have c6 : W.heap[w.heap.size + 1 + 1 + 1 + 1 + 1 + 1]? = some (.cells #[.int .i64 1] 3 (0, 0)) := (y7.block _ (by omega)).trans b7
  have c7 : W.heap[w.heap.size + 1 + 1 + 1 + 1 + 1 + 1 + 1]? = some (.cells #[.int .i64 0, .int .i64 1] 3 (0, 0)) := (y8.block _ (by omega)).trans b8
  have c8 : W.heap[w.heap.size + 1 + 1 + 1 + 1 + 1 + 1 + 1 + 1]? = some (.cells #[.int .i64 2] 3 (0, 0)) := (y9.block _ (by omega)).trans b9
  have c9 : W.heap[w.heap.size + 1 + 1 + 1 + 1 + 1 + 1 + 1 + 1 + 1]? = some (.cells #[.int .i64 0, .int .i64 2] 3 (0, 0)) := (y10.block _ (by omega)).trans b10
  have c10 : W.heap[w.heap.size + 1 + 1 + 1 + 1 + 1 + 1 + 1 + 1 + 1 + 1]? = some (.cells #[.int .i64 4, .int .i64 2, .int .i64 3] 3 (0, 0)) := (y11.block _ (by omega)).trans b11
  have c11 : W.heap[w.heap.size + 1 + 1 + 1 + 1 + 1 + 1 + 1 + 1 + 1 + 1 + 1]? = some (.cells #[.slice (some ⟨w.heap.size + 1 + 1 + 1 + 1 + 1 + 1, 0, none⟩) 1 1, .slice (some ⟨w.heap.size + 1 + 1 + 1 + 1 + 1 + 1 + 1, 0, none⟩) 2 2, .slice (some ⟨w.heap.size + 1 + 1 + 1 + 1 + 1 + 1 + 1 + 1, 0, none⟩) 1 1, .slice (some ⟨w.heap.size + 1 + 1 + 1 + 1 + 1 + 1 + 1 + 1 + 1, 0, none⟩) 2 2, .slice none 0 0, .slice (some ⟨w.heap.size + 1 + 1 + 1 + 1 + 1 + 1 + 1 + 1 + 1 + 1, 0, none⟩) 3 3] 35 (0, 0)) := (y12.block _ (by omega)).trans b12
  have i0 : Ints W (.slice (some ⟨w.heap.size, 0, none⟩) 2 2) [1, 2] := row_ints rfl (by decide) c0
  have i1 : Ints W (.slice (some ⟨w.heap.size + 1, 0, none⟩) 2 2) [1, -2] := row_ints rfl (by decide) c1
  have i2 : Ints W (.slice (some ⟨w.heap.size + 1 + 1, 0, none⟩) 2 2) [-1, 2] := row_ints rfl (by decide) c2
  have i3 : Ints W (.slice (some ⟨w.heap.size + 1 + 1 + 1, 0, none⟩) 2 2) [-1, -2] := row_ints rfl (by decide) c3
  have i6 : Ints W (.slice (some ⟨w.heap.size + 1 + 1 + 1 + 1 + 1 + 1, 0, none⟩) 1 1) [1] := row_ints rfl (by decide) c6
  have i7 : Ints W (.slice (some ⟨w.heap.size + 1 + 1 + 1 + 1 + 1 + 1 + 1, 0, none⟩) 2 2) [0, 1] := row_ints rfl (by decide) c7
  have i8 : Ints W (.slice (some ⟨w.heap.size + 1 + 1 + 1 + 1 + 1 + 1 + 1 + 1, 0, none⟩) 1 1) [2] := row_ints rfl (by decide) c8
  have i9 : Ints W (.slice (some ⟨w.heap.size + 1 + 1 + 1 + 1 + 1 + 1 + 1 + 1 + 1, 0, none⟩) 2 2) [0, 2] := row_ints rfl (by decide) c9
  have i10 : Ints W (.slice (some ⟨w.heap.size + 1 + 1 + 1 + 1 + 1 + 1 + 1 + 1 + 1 + 1, 0, none⟩) 3 3) [4, 2, 3] := row_ints rfl (by decide) c10
  refine ⟨x1.trans y1, by rw [Lib.cell_of_heap c5]; rfl, by rw [Lib.cell_of_heap c5]; rfl, ⟨_, rfl, .inr ⟨w.heap.size + 1 + 1 + 1 + 1, 0, 4, rfl, by decide, fun i hi => ?_⟩⟩, .inr ⟨w.heap.size + 1 + 1 + 1 + 1 + 1 + 1 + 1 + 1 + 1 + 1 + 1, 0, 3, rfl, by decide, fun i hi => ?_⟩⟩
  · have hi : i < 4 := hi
    match i, hi with
    | 0, _ => exact ⟨_, by rw [Lib.cell_of_heap c4]; rfl, i0⟩
    | 1, _ => exact ⟨_, by rw [Lib.cell_of_heap c4]; rfl, i1⟩
    | 2, _ => exact ⟨_, by rw [Lib.cell_of_heap c4]; rfl, i2⟩
    | 3, _ => exact ⟨_, by rw [Lib.cell_of_heap c4]; rfl, i3⟩
  · have hi : i < 3 := hi
    match i, hi with
    | 0, _ => exact ⟨_, _, by rw [Lib.cell_of_heap c11]; rfl, by rw [Lib.cell_of_heap c11]; rfl, i6, i7⟩
    | 1, _ => exact ⟨_, _, by rw [Lib.cell_of_heap c11]; rfl, by rw [Lib.cell_of_heap c11]; rfl, i8, i9⟩
    | 2, _ => exact ⟨_, _, by rw [Lib.cell_of_heap c11]; rfl, by rw [Lib.cell_of_heap c11]; rfl, nil_ints _, i10⟩

/-- One step with hints alone, laid. -/
theorem one_hint (w W : World) (hs : List Int) (hl : hs.length ≤ 1000) (hW : W = (w.alloc (.cells (hs.map (Value.int .i64)).toArray 3)).alloc (.cells #[.slice none 0 0, .slice (some ⟨w.heap.size, 0, none⟩) hs.length hs.length] 35)) :
    Ext w W ∧ Steps W (.slice (some ⟨w.heap.size + 1, 0, none⟩) 1 1) [⟨[], hs⟩] := by
  obtain ⟨A1, hA1⟩ : ∃ A, A = w.alloc (.cells (hs.map (Value.int .i64)).toArray 3) := ⟨_, rfl⟩
  rw [← hA1] at hW
  have z1 : A1.heap.size = w.heap.size + 1 := by rw [hA1, World.size_alloc]
  have x1 : Ext w A1 := by rw [hA1]; exact (Ext.refl _).alloc _
  have b1 : A1.heap[w.heap.size]? = some (.cells (hs.map (Value.int .i64)).toArray 3 (0, 0)) := by rw [hA1]; exact heap_new _ _
  have x2 : Ext A1 W := by rw [hW]; exact (Ext.refl _).alloc _
  have c2 : W.heap[w.heap.size + 1]? = some (.cells #[.slice none 0 0, .slice (some ⟨w.heap.size, 0, none⟩) hs.length hs.length] 35 (0, 0)) := by rw [hW, ← z1]; exact heap_new _ _
  have c1 := (x2.block w.heap.size (by omega)).trans b1
  refine ⟨x1.trans x2, .inr ⟨w.heap.size + 1, 0, 1, rfl, by show 1 ≤ 9223372036854775807; omega, fun i hi => ?_⟩⟩
  have hi : i < 1 := hi
  match i, hi with
  | 0, _ => exact ⟨_, _, by rw [Lib.cell_of_heap c2]; rfl, by rw [Lib.cell_of_heap c2]; rfl, nil_ints _, row_ints rfl (by show hs.length ≤ 1000000; omega) c1⟩
theorem one_lit (w W : World) (hs : List Int) (hl : hs.length ≤ 1000) (hW : W = (w.alloc (.cells (hs.map (Value.int .i64)).toArray 3)).alloc (.cells #[.slice (some ⟨w.heap.size, 0, none⟩) hs.length hs.length, .slice none 0 0] 35)) :
    Ext w W ∧ Steps W (.slice (some ⟨w.heap.size + 1, 0, none⟩) 1 1) [⟨hs, []⟩] := by
  obtain ⟨A1, hA1⟩ : ∃ A, A = w.alloc (.cells (hs.map (Value.int .i64)).toArray 3) := ⟨_, rfl⟩
  rw [← hA1] at hW
  have z1 : A1.heap.size = w.heap.size + 1 := by rw [hA1, World.size_alloc]
  have x1 : Ext w A1 := by rw [hA1]; exact (Ext.refl _).alloc _
  have b1 : A1.heap[w.heap.size]? = some (.cells (hs.map (Value.int .i64)).toArray 3 (0, 0)) := by rw [hA1]; exact heap_new _ _
  have x2 : Ext A1 W := by rw [hW]; exact (Ext.refl _).alloc _
  have c2 : W.heap[w.heap.size + 1]? = some (.cells #[.slice (some ⟨w.heap.size, 0, none⟩) hs.length hs.length, .slice none 0 0] 35 (0, 0)) := by rw [hW, ← z1]; exact heap_new _ _
  have c1 := (x2.block w.heap.size (by omega)).trans b1
  refine ⟨x1.trans x2, .inr ⟨w.heap.size + 1, 0, 1, rfl, by show 1 ≤ 9223372036854775807; omega, fun i hi => ?_⟩⟩
  have hi : i < 1 := hi
  match i, hi with
  | 0, _ => exact ⟨_, _, by rw [Lib.cell_of_heap c2]; rfl, by rw [Lib.cell_of_heap c2]; rfl, row_ints rfl (by show hs.length ≤ 1000000; omega) c1, nil_ints _⟩

/-! ### Plain facts -/
theorem valid0 : validP 2 4 l0 = true := by decide
theorem valid1 : validP 2 4 [⟨[], [4]⟩] = false := by decide
theorem valid2 : validP 2 4 [⟨[1, -1], []⟩] = false := by decide
theorem js0 : jsP cl0 l0 2 = true := by simp [jsP, justF, openL, clauseS, l0, cl0, wrap64]
theorem js1 : jsP cl0 [⟨[], [0]⟩] 0 = false := by simp [jsP, justF, openL, clauseS, cl0, wrap64]
theorem same0 : sameP l0 l0 = true := by simp [sameP]
theorem tame0 : Tame 2 cl0 l0 := ⟨by unfold InI; omega, by decide, by decide, by simp [l0, InI], by simp [l0]⟩
theorem tame1 : Tame 2 cl0 [⟨[], [4]⟩] := ⟨by unfold InI; omega, by decide, by decide, by simp, by simp⟩
theorem tame2 : Tame 2 cl0 [⟨[1, -1], []⟩] := ⟨by unfold InI; omega, by decide, by decide, by simp [InI], by simp⟩
theorem need0 : Need 4 l0 2 := .last rfl
theorem needB0 : needB 4 l0 0 = true := needB_iff.2 (.hint need0 (by omega) (by simp [l0]))
theorem needB1 : needB 4 l0 1 = false := by
  rw [Bool.eq_false_iff]
  intro h
  have h := needB_iff.1 h
  cases h with
  | last e => simp [l0] at e
  | hint a b c =>
    have hlt := a.lt
    have hl : l0.length = 3 := rfl
    rename_i k
    have : k = 0 ∨ k = 1 ∨ k = 2 := by omega
    rcases this with rfl | rfl | rfl <;> simp [l0] at c b
theorem trim0 : trimL 4 l0 = [stepN 4 l0 0, stepN 4 l0 2] := by
  have h2 : needB 4 l0 2 = true := needB_iff.2 need0
  show trimTo 4 l0 3 = _
  rw [trimTo_succ, trimTo_succ, trimTo_succ, needB0, needB1, h2]; rfl
theorem ren0 : renN 4 l0 4 = 4 := by
  unfold renN; simp [rankN]
theorem hints0 : (stepN 4 l0 2).hints = [4, renN 4 l0 2, renN 4 l0 3] := by
  show [4, 2, 3].map (renN 4 l0) = _
  simp [ren0]
theorem it (k : Nat) (h : k < 10) : Lib.itoa (k : Int) = [UInt8.ofNat (48 + k)] := by
  rw [Lib.itoa, if_neg (by omega), Int.toNat_natCast, Lib.decDigits, dif_pos h]
def txt0 : List UInt8 := [49, 32, 58, 32, 48, 32, 49, 10, 50, 32, 58, 32, 48, 32, 50, 10, 58, 32, 52, 32, 50, 32, 51, 10]
theorem text0 : textL l0 = txt0 := by
  have e0 : Lib.itoa 0 = [48] := it 0 (by decide)
  have e1 : Lib.itoa 1 = [49] := it 1 (by decide)
  have e2 : Lib.itoa 2 = [50] := it 2 (by decide)
  have e3 : Lib.itoa 3 = [51] := it 3 (by decide)
  have e4 : Lib.itoa 4 = [52] := it 4 (by decide)
  simp [textL, stepText, litText, hintText, l0, e0, e1, e2, e3, e4, txt0]
theorem parse0 : parseL txt0 = some l0 := by
  rw [← text0, parse_text l0 (by simp [l0, i64s, i64]), if_pos (by decide)]
theorem parse1 : parseL [49, 58, 32, 48, 10] = none := by decide
end Go.Proofs.YteclcnbaaiidbaaDoor
