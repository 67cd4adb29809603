/-
  Slices that a call makes for itself by append: ints; the laws that the walks use.
-/
import Derived.Test.YtnkhaobokmmnjaaDoorSpec
import Derived.Test.YtnkhaobokmmnjaaDoorRows
namespace Go.Proofs.YtnkhaobokmmnjaaDoor
open Go.RowKit

/-- The newest block. -/
theorem heap_new (w : World) (o : Obj) : (w.alloc o).heap[w.heap.size]? = some o := by
  show (w.heap.push o)[w.heap.size]? = _
  simp
theorem infoInt : (Tryd.prog.info? 3).map (fun i => (i.zero, i.size, i.bytes)) = some (some (.int .i64 0), 1, 8) := by kernel_rfl

/-- A slice of ints of the call's own: nil, or at the head of a block from 'base' on. -/
def OwnInts (w : World) (base : Nat) (v : Value) (l : List Int) : Prop := w.ownsRow base 3 1 v l.length (l.map (Value.int .i64))

theorem OwnInts.nil (w : World) (base : Nat) : OwnInts w base (.slice none 0 0) [] := ⟨rfl, .inl ⟨rfl, rfl⟩⟩

/-- It reads as the list. -/
theorem OwnInts.ints {w : World} {base : Nat} {v : Value} {l : List Int} (h : OwnInts w base v l) : Ints w v l := by
  obtain ⟨_, h2⟩ := h
  rcases h2 with ⟨rfl, hl⟩ | ⟨g, cap, cur, rfl, _, hh, hn, hc, hs, ht⟩
  · exact .inl ⟨⟨_, _, rfl⟩, List.length_eq_zero_iff.1 hl⟩
  · refine .inr ⟨g, 0, cap, rfl, by unfold maxLen at hc; omega, fun i hi => ?_⟩
    rw [Nat.mul_one] at ht
    have e : cur.toList[i]? = some (.int .i64 l[i]) := by
      have := congrArg (fun x => x[i]?) ht
      simp only [List.getElem?_take, if_pos hi] at this
      rw [this]; simp [hi]
    simp only [IntAt, World.cell?, hh, Nat.zero_add, Nat.mul_one]
    simpa using e

/-- It is kept by what leaves its block alone. -/
theorem OwnInts.kept {w w' : World} {base : Nat} {v : Value} {l : List Int} (h : OwnInts w base v l) (hx : Ext w w') : OwnInts w' base v l := by
  obtain ⟨h1, h2⟩ := h
  refine ⟨h1, ?_⟩
  rcases h2 with h2 | ⟨g, cap, cur, hv, hg, hh, r⟩
  · exact .inl h2
  · refine .inr ⟨g, cap, cur, hv, hg, ?_, r⟩
    have hlt : g < w.heap.size := by
      rcases Nat.lt_or_ge g w.heap.size with h | h
      · exact h
      · rw [Array.getElem?_eq_none_iff.2 h] at hh; cases hh
    rw [hx.block g hlt]; exact hh

/-- The block of such a slice, if there is one, is from base on. -/
theorem OwnInts.base {w : World} {base : Nat} {v : Value} {l : List Int} (h : OwnInts w base v l) (k : Nat) (hk : v.ownBlock = some k) : base ≤ k := by
  rcases h.2 with ⟨rfl, _⟩ | ⟨g, cap, cur, rfl, hg, _⟩
  · cases hk
  · simp [Value.ownBlock] at hk; omega

/-- After an append: the world below 'B' is as it was. -/
theorem Ext.grown {a w w' : World} {row : Option Nat} (h : Ext a w) (hg : w.grownBy w' row) (hr : ∀ k, row = some k → a.heap.size ≤ k) : Ext a w' :=
  Below.grown h hg h.size hr

/-- 'append(list, n)' on a slice of ints of the call's own; wr: the world before the block of the one new element. -/
theorem wpList_append_int {ops : Array Oper} {rest : List Oper} {o : Oper} {a : Act} {Q : Exit → Act → World → Prop} (hgd : o.guard = none) (s x : Operand)
    (ho : o.op = .call { callee := .builtin .append, args := #[s, x], argTypes := #[30, 30] }) (base : Nat) (wr : World) (v : Value) (l : List Int) (n : Int)
    (hs : a.eval s = v) (hx : a.eval x = .slice (some ⟨wr.heap.size, 0, none⟩) 1 1) (hown : OwnInts wr base v l) (hl : l.length ≤ 1000000000) (hb : base ≤ wr.heap.size)
    (h : ∀ v' w', OwnInts w' base v' (l ++ [n]) → wr.grownBy w' v.ownBlock → wpList Tryd.prog ops Q rest (a.put o.dst v') w') : wpList Tryd.prog ops Q (o :: rest) a (wr.alloc (.cells #[.int .i64 n] 3)) := by
  obtain ⟨i0, hi, hz0, hz1, hz2⟩ := info_parts infoInt
  refine wpList_append_own _ hgd s x 30 ho base 3 i0 (.int .i64 0) 1 8 Tryd.underlying30 hi hz0 hz1 hz2 rfl (by decide) v l.length (l.map (Value.int .i64)) hs (hown.kept ((Ext.refl wr).alloc _)) ⟨wr.heap.size, 0, none⟩ 1 1 [.int .i64 n] hx rfl ?_ ?_ ?_ ?_ ?_ ?_
  · intro j u hj
    obtain ⟨rfl, rfl⟩ : j = 0 ∧ u = .int .i64 n := by
      cases j with
      | zero => simp at hj; exact ⟨rfl, hj.symm⟩
      | succ j => simp at hj
    simp [Addr.add]
  · intro u hu; simp at hu; subst hu; rfl
  · unfold maxLen; omega
  · omega
  · simp; omega
  · intro v' w' h1 h2 _
    refine h v' w' (by simpa [OwnInts] using h1) ⟨h2.os, h2.tape, h2.output, ?_, fun k hk hne => ?_⟩
    · have := h2.size; simp at this; omega
    · rw [h2.block k (by simp; omega) hne]; exact Below.heap_alloc wr _ k hk

end Go.Proofs.YtnkhaobokmmnjaaDoor
