/-
  What law10's statements use: sets with room, variables, the contracts over valid sets.
  What law10's first check computes, in plain words.
-/
import Derived.Test.YtdiopiekmdfklaaDoorMPrj
import Derived.Test.YtdiopiekmdfklaaDoorMExp
import Derived.Test.YtdiopiekmdfklaaDoorMCon
import Derived.Test.YtdiopiekmdfklaaDoorMBmc
import Derived.Test.YtdiopiekmdfklaaDoorMW
import Derived.Test.YtdiopiekmdfklaaDoorMTxu
import Derived.Test.YtdiopiekmdfklaaDoorMRra
import Derived.Test.YtdiopiekmdfklaaDoorMRnc
namespace Go.Proofs.YtdiopiekmdfklaaDoor
open Go.RowKit

theorem OwnInts.intsC {w : World} {base : Nat} {v : Value} {l : List Int} (h : OwnInts w base v l) : IntsC w v l := by
  obtain ⟨a, c, rfl⟩ := h.ints.shape
  exact ⟨h.ints, a, c, rfl, h.cap⟩
theorem SetO.setC {w : World} {base : Nat} {v : Value} {cs ws is : List Int} (h : SetO w base v cs ws is) : SetC w v cs ws is := by
  obtain ⟨a, b, c, h0, h1, h2, h3⟩ := h; exact ⟨a, b, c, h0, h1.intsC, h2.intsC, h3.intsC⟩
theorem SetC.ext {w w' : World} {v : Value} {cs ws is : List Int} (h : SetC w v cs ws is) (hx : Ext w w') : SetC w' v cs ws is := by
  obtain ⟨a, b, c, h0, h1, h2, h3⟩ := h; exact ⟨a, b, c, h0, h1.ext hx, h2.ext hx, h3.ext hx⟩
theorem SetV.shape' {w : World} {v : Value} {cs ws is : List Int} (h : SetV w v cs ws is) : ∃ ca cl cc wa wl wc ia il ic, v = .agg #[.slice ca cl cc, .slice wa wl wc, .slice ia il ic] := by
  obtain ⟨ca, cc, wa, wc, ia, ic, e, _⟩ := h.shape; exact ⟨ca, _, cc, wa, _, wc, ia, _, ic, e⟩
theorem SetC.shape' {w : World} {v : Value} {cs ws is : List Int} (h : SetC w v cs ws is) : ∃ ca cl cc wa wl wc ia il ic, v = .agg #[.slice ca cl cc, .slice wa wl wc, .slice ia il ic] := h.setV.shape'
/-- A result: a set with room, and an error. -/
def RetC (e : Int) (cs ws is : List Int) (w : World) (r : Ending) (w' : World) : Prop := ∃ a1 l1 c1 a2 l2 c2 a3 l3 c3, r = .returned (.tuple #[.agg #[.slice a1 l1 c1, .slice a2 l2 c2, .slice a3 l3 c3], .int .i64 e]) ∧ SetC w' (.agg #[.slice a1 l1 c1, .slice a2 l2 c2, .slice a3 l3 c3]) cs ws is ∧ Ext w w'
theorem SetRes.retC {e : Int} {cs ws is : List Int} {w : World} {r : Ending} {w' : World} (h : SetRes e cs ws is w r w') : RetC e cs ws is w r w' := by
  obtain ⟨v, rfl, h1, h2⟩ := h
  obtain ⟨a1, l1, c1, a2, l2, c2, a3, l3, c3, rfl⟩ := h1.setV.shape'
  exact ⟨a1, l1, c1, a2, l2, c2, a3, l3, c3, rfl, h1.setC, h2⟩
/-- A variable of three cells. -/
def Var3 (t : TypeId) (w : World) (b : Nat) (x y z : Value) : Prop := w.heap[b]? = some (.cells #[x, y, z] t (0, 0))
theorem Var3.ext {t : TypeId} {w w' : World} {b : Nat} {x y z : Value} (h : Var3 t w b x y z) (hx : Ext w w') : Var3 t w' b x y z := (hx.block b (lt_heap h)).trans h
theorem Var3.new (t : TypeId) (w : World) (x y z : Value) : Var3 t (w.alloc (.cells #[x, y, z] t)) w.heap.size x y z := heap_new _ _
theorem Var3.cells {t : TypeId} {w : World} {b : Nat} {x y z : Value} (h : Var3 t w b x y z) : w.cell? ⟨b, 0, none⟩ = some x ∧ w.cell? ⟨b, 1, none⟩ = some y ∧ w.cell? ⟨b, 2, none⟩ = some z := cells3 h
/-- A variable that holds an expression. -/
def VarE (w : World) (b : Nat) (op wd n : Int) (kv : Value) : Prop := w.heap[b]? = some (.cells #[.int .i64 op, .int .i64 wd, .int .i64 n, kv] 26 (0, 0))
theorem VarE.ext {w w' : World} {b : Nat} {op wd n : Int} {kv : Value} (h : VarE w b op wd n kv) (hx : Ext w w') : VarE w' b op wd n kv := (hx.block b (lt_heap h)).trans h
theorem VarE.new (w : World) (op wd n : Int) (kv : Value) : VarE (w.alloc (.cells #[.int .i64 op, .int .i64 wd, .int .i64 n, kv] 26)) w.heap.size op wd n kv := heap_new _ _
theorem VarE.cells {w : World} {b : Nat} {op wd n : Int} {kv : Value} (h : VarE w b op wd n kv) : w.cell? ⟨b, 0, none⟩ = some (.int .i64 op) ∧ w.cell? ⟨b, 1, none⟩ = some (.int .i64 wd) ∧ w.cell? ⟨b, 2, none⟩ = some (.int .i64 n) ∧ w.cell? ⟨b, 3, none⟩ = some kv := by
  unfold VarE at h; simp [World.cell?, h]
theorem EVal.shapeN {w : World} {v : Value} {op wd n : Int} {ks : List E} (h : EVal w v (.mk op wd n ks)) : ∃ a l c, v = .agg #[.int .i64 op, .int .i64 wd, .int .i64 n, .slice a l c] ∧ EVal w (.agg #[.int .i64 op, .int .i64 wd, .int .i64 n, .slice a l c]) (.mk op wd n ks) := by
  obtain ⟨a, c, h1, h2⟩ := h.shape'; exact ⟨a, _, c, h1, ⟨_, rfl, h2⟩⟩
theorem ev_leaf (w : World) (op wd n : Int) : EVal w (.agg #[.int .i64 op, .int .i64 wd, .int .i64 n, .slice none 0 0]) (.mk op wd n []) := ⟨_, rfl, .inl ⟨⟨_, _, rfl⟩, rfl⟩⟩
theorem old_at {w w' : World} {b : Nat} {o : Obj} (h : w.heap[b]? = some o) (hx : Ext w w') : w'.heap[b]? = some o := (hx.block b (lt_heap h)).trans h
theorem heap_new1 (w : World) (a b : Obj) : ((w.alloc a).alloc b).heap[w.heap.size]? = some a := old_at (heap_new w a) ((Ext.refl _).alloc _)
theorem heap_new2 (w : World) (a b : Obj) : ((w.alloc a).alloc b).heap[w.heap.size + 1]? = some b := by
  have := heap_new (w.alloc a) b; rwa [World.size_alloc] at this
/-- A row of ints just made. -/
theorem ints_row {w : World} {b n : Nat} {l : List Int} {t : TypeId} (h : w.heap[b]? = some (.cells (l.map (Value.int .i64)).toArray t (0, 0))) (hn : l.length = n) (hm : n ≤ 1000) : Ints w (.slice (some ⟨b, 0, none⟩) n n) l := by
  subst hn
  refine .inr ⟨b, 0, l.length, rfl, by omega, fun i hi => ?_⟩
  rw [Nat.mul_one, Nat.zero_add]
  unfold IntAt
  rw [cell_of_row _ _ _ _ _ _ h]
  simp [hi]
theorem setc_in {w : World} {v1 v2 v3 : Value} {cs ws is : List Int} (h : SetC w (.agg #[v1, v2, v3]) cs ws is) : Ints w v3 is := by
  obtain ⟨_, _, _, e, _, _, h3⟩ := h
  cases e; exact h3.1
theorem setc_len {w : World} {v1 v2 : Value} {a : Option Addr} {n c : Nat} {cs ws is : List Int} (h : SetC w (.agg #[v1, v2, .slice a n c]) cs ws is) : n = is.length := by
  obtain ⟨_, _, _, e, _, _, h3⟩ := h
  cases e
  obtain ⟨_, _, e, _⟩ := h3.2
  cases e; rfl
end Go.Proofs.YtdiopiekmdfklaaDoor
namespace Go.Proofs.YtdiopiekmdfklaaDoor
open Go.RowKit
def hE : E := .mk 13 1 0 [.mk 1 2 1 [], .mk 2 2 0 []]
def hC3 : List CellD := [⟨⟨#[120]⟩, 2, 0, -1, false, 0⟩, ⟨⟨#[121]⟩, 1, 0, -1, false, 0⟩, ⟨⟨#[122]⟩, 3, 0, -1, false, 0⟩]
def hS : List Nat := [1, 2, 3, 5, 6, 7]
theorem hd_err1 : ofErr hC3 [0, 1] hE = 0 := by decide
theorem hd_wd : wOf hC3 [0, 1] = [2, 1] := by decide
theorem hd_in : ofIn hC3 [0, 1] hE = hS := by decide +kernel
theorem hd_err2 : ofErr hC3 [0] (.mk 2 1 1 []) = 1 := by decide
theorem hd_err3 : ofErr hC3 [0, 1] (.mk 2 2 0 []) = 60 := by decide
theorem hd_valid : ValidS [0, 1] [2, 1] hS := ⟨by decide, by decide, by decide⟩
theorem hd_prB : prB [0, 1] [2, 1] (castL hS) [1] = true := by decide
theorem hd_prW : wPr [0, 1] [2, 1] [1] = [1] := by decide
theorem hd_prL : prL [0, 1] [2, 1] (natL (castL hS)) [1] = [0, 1] := by decide +kernel
theorem hd_comb : combB [0, 1] [2, 1] (castL hS) [0, 1] [2, 1] (castL hS) = true := by decide
theorem hd_min : combL dif (castL hS) (castL hS) = [] := by decide +kernel
theorem hd_st : stateS [0, 1] [2, 1] 5 [0, 0, 7] = [1, 1, 7] := by decide
theorem hd_num : numS [0, 1] [2, 1] [3, 1, 7] = 7 := by decide
theorem hd_con1 : containsS [0, 1] [2, 1] (castL hS) [1, 1, 7] = true := by decide
theorem hd_con2 : containsS [0, 1] [2, 1] [] [1, 1, 7] = false := by decide
def hX : E := .mk 14 1 0 [.mk 13 1 0 [.mk 2 2 0 [], .mk 1 2 0 []], .mk 1 1 0 [], .mk 1 1 1 []]
theorem hd_expr : exprS [0, 1] [2, 1] (castL hS) = hX := by kernel_rfl
theorem hd_text : hX.textTop = [105, 116, 101, 40, 108, 101, 40, 99, 48, 58, 50, 44, 48, 58, 50, 41, 44, 48, 58, 49, 44, 49, 58, 49, 41] := by kernel_rfl
end Go.Proofs.YtdiopiekmdfklaaDoor
