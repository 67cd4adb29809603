/-
  How Parse leaves: the mark of its range, the deferred closure, the results.
-/
import Derived.Test.YtnkhaobokmmnjaaDoorCq7
namespace Go.Proofs.YtnkhaobokmmnjaaDoor
open Go.RowKit Go.Shelf
attribute [local go_sem] Oper.semAt_some

/-- What Parse gives. -/
def ParPost (w : World) (t : List UInt8) (e : Ending) (w' : World) : Prop := Ext w w' ∧ match parseF t with
  | .ok (v, cl) => ∃ vf, e = .returned (.tuple #[vf, .int .i64 0]) ∧ CnfV w' vf v cl
  | .error c => e = .returned (.tuple #[.agg #[.int .i64 0, .slice none 0 0], .int .i64 c])
theorem sizeCNF : (Tryd.prog.info? 24).map (·.size) = some 2 := by kernel_rfl
theorem load_errno {W : World} {q : Nat} {k : Int} (h : W.heap[q]? = some (.cells #[.int .i64 k] 39 (0, 0))) : (loadVar 39 ⟨q, 0, none⟩).run Tryd.prog W = .ok (.int .i64 k) W := by
  have hc : W.cell? ⟨q, 0, none⟩ = some (.int .i64 k) := by rw [Lib.cell_of_heap h]; rfl
  simp [go_sem, hc]
theorem results_parse (tm : Array Value) {W : World} {q : Nat} {k : Int} {a b : Value} (h2 : tm.getD 2 undef = .pointer (some ⟨q, 0, none⟩)) (h3 : tm.getD 3 undef = .pointer (some ⟨q + 1, 0, none⟩))
    (hf : W.heap[q]? = some (.cells #[a, b] 24 (0, 0))) (he : W.heap[q + 1]? = some (.cells #[.int .i64 k] 39 (0, 0))) : (results Tryd.f20 tm).run Tryd.prog W = .ok (.tuple #[.agg #[a, b], .int .i64 k]) W :=
  results_row_cell Tryd.results20 tm W q 24 _ (0, 0) _ h2 hf Tryd.underlying24 rfl sizeCNF _ _ h3 (load_errno he)
theorem putObj_ext {w W : World} (h : Ext w W) {D : Nat} (hD : w.heap.size ≤ D) (o : Obj) : Ext w (W.putObj D o) := h.grown (grownBy_putObj' _ _ _) fun k e => by cases e; exact hD
/-- The two deferred entries. -/
def parDefers (D q : Nat) : List Deferred := [{ target := .collected D, args := #[] }, { target := .fn (.func 35) #[.pointer (some ⟨q, 0, none⟩), .pointer (some ⟨q + 1, 0, none⟩)], args := #[] }]
theorem enters_catch (q : Nat) (W : World) : (invoke (.fn (.func 35) #[.pointer (some ⟨q, 0, none⟩), .pointer (some ⟨q + 1, 0, none⟩)]) #[]).run Tryd.prog W = .ok (.enter 35 #[.pointer (some ⟨q, 0, none⟩), .pointer (some ⟨q + 1, 0, none⟩)]) W := by
  simp [invoke, go_sem]
/-- It leaves by a panic: the failure becomes the result. -/
theorem leave_pan {w W : World} {q D : Nat} {t : List UInt8} {c : Int} {tm : Array Value} (h2 : tm.getD 2 undef = .pointer (some ⟨q, 0, none⟩)) (h3 : tm.getD 3 undef = .pointer (some ⟨q + 1, 0, none⟩)) (hq : w.heap.size ≤ q) (hD : q + 2 ≤ D)
    (hf : W.heap[q]? = some (.cells #[.int .i64 0, .slice none 0 0] 24 (0, 0))) (he : W.heap[q + 1]? = some (.cells #[.int .i64 0] 39 (0, 0))) (hK : W.heap[D]? = some (.deferred (some []))) (hx : Ext w W) (hp : parseF t = .error c) :
    LeavesInM Fence.wide 5 Tryd.prog Tryd.f20 tm (ParPost w t) (parDefers D q) (.panicking (panicE c)) W := by
  have hd : ∀ k, k < D → (W.putObj D (.deferred none)).heap[k]? = W.heap[k]? := fun k hk => World.putObj_heap_other (by omega)
  have hf1 := (hd q (by omega)).trans hf
  have he1 := (hd (q + 1) (by omega)).trans he
  refine ⟨by simp, .inl ⟨D, _, rfl, run_takeDeferred hK, ?_⟩⟩
  refine ⟨by simp, .inr ⟨fun _ => by omega, _, _, _, _, rfl, enters_catch q _, fun _ _ => trivial, ?_⟩⟩
  refine (catch_failure 4 q (q + 1) c [] _ _ _ _ hf1 he1).mono ?_
  rintro e u' w' ⟨rfl, rfl, w1, hx1, rfl⟩
  have hf2 := (hx1.block q (lt_heap hf1)).trans hf1
  have he2 := (hx1.block (q + 1) (lt_heap he1)).trans he1
  have hf3 := heap_setCell_same _ q 1 _ _ (.slice none 0 0) (heap_setCell_same w1 q 0 _ _ (.int .i64 0) hf2)
  have he3 : ((w1.setCell ⟨q, 0, none⟩ (.int .i64 0)).setCell ⟨q, 1, none⟩ (.slice none 0 0)).heap[q + 1]? = some (.cells #[.int .i64 0] 39 (0, 0)) := ((heap_setCell_other _ _ _ _ (by show q + 1 ≠ q; omega)).trans (heap_setCell_other _ _ _ _ (by show q + 1 ≠ q; omega))).trans he2
  have he4 := heap_setCell_same _ (q + 1) 0 _ _ (.int .i64 c) he3
  have hf4 := (heap_setCell_other ((w1.setCell ⟨q, 0, none⟩ (.int .i64 0)).setCell ⟨q, 1, none⟩ (.slice none 0 0)) ⟨q + 1, 0, none⟩ q (.int .i64 c) (by show q ≠ q + 1; omega)).trans hf3
  refine ⟨_, results_parse tm h2 h3 hf4 he4, ?_, ?_⟩
  · have hxx : Ext w w1 := (putObj_ext hx (by omega) _).trans hx1
    exact ((hxx.setCell (p := ⟨q, 0, none⟩) hq _).setCell (p := ⟨q, 1, none⟩) hq _).setCell (p := ⟨q + 1, 0, none⟩) (by show w.heap.size ≤ q + 1; omega) _
  · rw [hp]
/-- It leaves by a return: the results stand in their blocks. -/
theorem leave_ret {w W : World} {q D : Nat} {t : List UInt8} {v : Int} {cl : List (List Int)} {vc : Value} {tm : Array Value} (h2 : tm.getD 2 undef = .pointer (some ⟨q, 0, none⟩)) (h3 : tm.getD 3 undef = .pointer (some ⟨q + 1, 0, none⟩)) (hq : w.heap.size ≤ q) (hD : q + 2 ≤ D)
    (hf : W.heap[q]? = some (.cells #[.int .i64 v, vc] 24 (0, 0))) (he : W.heap[q + 1]? = some (.cells #[.int .i64 0] 39 (0, 0))) (hK : W.heap[D]? = some (.deferred (some []))) (hx : Ext w W) (hp : parseF t = .ok (v, cl))
    (hl : Lists (W.putObj D (.deferred none)) vc cl) :
    LeavesInM Fence.wide 5 Tryd.prog Tryd.f20 tm (ParPost w t) (parDefers D q) .returning W := by
  have hd : ∀ k, k < D → (W.putObj D (.deferred none)).heap[k]? = W.heap[k]? := fun k hk => World.putObj_heap_other (by omega)
  have hf1 := (hd q (by omega)).trans hf
  have he1 := (hd (q + 1) (by omega)).trans he
  refine ⟨by simp, .inl ⟨D, _, rfl, run_takeDeferred hK, ?_⟩⟩
  refine ⟨by simp, .inr ⟨fun _ => by omega, _, _, _, _, rfl, enters_catch q _, fun _ _ => trivial, ?_⟩⟩
  refine (catch_idle 4 ⟨q, 0, none⟩ ⟨q + 1, 0, none⟩ _).mono ?_
  rintro e u' w' ⟨rfl, rfl, rfl⟩
  refine ⟨_, results_parse tm h2 h3 hf1 he1, putObj_ext hx (by omega) _, ?_⟩
  rw [hp]
  exact ⟨_, rfl, _, rfl, hl⟩
end Go.Proofs.YtnkhaobokmmnjaaDoor
