/-
  The walk of operation.
  The walk of comparison: its variables, its ends. (Written by wip/gen_cmp.py.)
  The walk of choice: its variables, its ends. (Written by wip/gen_choice.py.)
  What 'simplify' computes, and that it keeps the form: no program in sight.
-/
import Derived.Test.YtdancokndklpnaaDoorMSi
import Derived.Deep.DeepCutAuto
namespace Go.Proofs.YtdancokndklpnaaDoor
open Go.RowKit

/-- What 'operation' gives back: 0: the node, 1: the first kid, 2: the second one, 3: the constant 0, 4: the greatest constant. -/
def opCode (op : Int) (a0 b0 a1 b1 aOnes bOnes alike : Bool) : Nat :=
  if op = 5 then (if a0 then 3 else if b0 then 3 else if aOnes then 2 else if bOnes then 1 else if alike then 1 else 0)
  else if op = 6 then (if aOnes then 4 else if bOnes then 4 else if a0 then 2 else if b0 then 1 else if alike then 1 else 0)
  else if op = 7 then (if a0 then 2 else if b0 then 1 else if alike then 3 else 0)
  else if op = 8 then (if a0 then 2 else if b0 then 1 else 0)
  else if op = 9 then (if b0 then 1 else if alike then 3 else 0)
  else if op = 10 then (if a0 then 3 else if b0 then 3 else if a1 then 2 else if b1 then 1 else 0)
  else 0
/-- A constant. -/
def constE (n wd : Int) : E := .mk 1 wd n []
def opPick (code : Nat) (n a b : E) : E := if code = 1 then a else if code = 2 then b else if code = 3 then constE 0 n.wd else if code = 4 then constE (pw n.wd - 1) n.wd else n
def opS (n a b : E) : E := opPick (opCode n.op (a.isC 0) (b.isC 0) (a.isC 1) (b.isC 1) (a.isC (pw a.wd - 1)) (b.isC (pw b.wd - 1)) (a.eqB b)) n a b

abbrev cells4 (e : E) (k : Value) : Array Value := #[.int .i64 e.op, .int .i64 e.wd, .int .i64 e.n, k]
abbrev zero4 : Array Value := #[.int .i64 0, .int .i64 0, .int .i64 0, .slice none 0 0]

/-- The variables of 'operation': the node, the result, the two kids. -/
def OpVars (w W : World) (A B : Nat) (op wd : Int) (a b : E) (kn ka kb : Value) : Prop :=
  (Ext w W ∧ Kids w ka a.kids ∧ Kids w kb b.kids) ∧ W.heap[w.heap.size]? = some (.cells #[.int .i64 op, .int .i64 wd, .int .i64 0, kn] 24 (0, 0)) ∧ W.heap[w.heap.size + 1]? = some (.cells zero4 24 (0, 0)) ∧ W.heap[A]? = some (.cells (cells4 a ka) 24 (0, 0)) ∧ W.heap[B]? = some (.cells (cells4 b kb) 24 (0, 0))
theorem heap_lt {w : World} {k : Nat} {o : Obj} (h : w.heap[k]? = some o) : k < w.heap.size := by
  rcases Nat.lt_or_ge k w.heap.size with h' | h'
  · exact h'
  · rw [Array.getElem?_eq_none_iff.2 h'] at h; cases h
theorem Ext.heap {w w' : World} (hx : Ext w w') {k : Nat} {o : Obj} (h : w.heap[k]? = some o) : w'.heap[k]? = some o := by rw [hx.block k (heap_lt h)]; exact h
theorem OpVars.ext {w W W' : World} {A B : Nat} {op wd : Int} {a b : E} {kn ka kb : Value} (h : OpVars w W A B op wd a b kn ka kb) (hx : Ext W W') : OpVars w W' A B op wd a b kn ka kb :=
  ⟨⟨h.1.1.trans hx, h.1.2.1, h.1.2.2⟩, hx.heap h.2.1, hx.heap h.2.2.1, hx.heap h.2.2.2.1, hx.heap h.2.2.2.2⟩

/-- With the variable 'zero'. -/
def OpVarsZ (w W : World) (A B Z : Nat) (op wd : Int) (a b : E) (kn ka kb : Value) : Prop := OpVars w W A B op wd a b kn ka kb ∧ W.heap[Z]? = some (.cells #[.int .i64 1, .int .i64 wd, .int .i64 0, .slice none 0 0] 24 (0, 0))
theorem OpVarsZ.ext {w W W' : World} {A B Z : Nat} {op wd : Int} {a b : E} {kn ka kb : Value} (h : OpVarsZ w W A B Z op wd a b kn ka kb) (hx : Ext W W') : OpVarsZ w W' A B Z op wd a b kn ka kb := ⟨h.1.ext hx, hx.heap h.2⟩
theorem OpVarsZ.ext0 {w W : World} {A B Z : Nat} {op wd : Int} {a b : E} {kn ka kb : Value} (h : OpVarsZ w W A B Z op wd a b kn ka kb) : Ext w W := h.1.1.1
theorem OpVarsZ.va {w W : World} {A B Z : Nat} {op wd : Int} {a b : E} {kn ka kb : Value} (h : OpVarsZ w W A B Z op wd a b kn ka kb) : EVal W (.agg #[.int .i64 a.op, .int .i64 a.wd, .int .i64 a.n, ka]) a := ⟨ka, rfl, h.1.1.2.1.ext h.ext0⟩
theorem OpVarsZ.vb {w W : World} {A B Z : Nat} {op wd : Int} {a b : E} {kn ka kb : Value} (h : OpVarsZ w W A B Z op wd a b kn ka kb) : EVal W (.agg #[.int .i64 b.op, .int .i64 b.wd, .int .i64 b.n, kb]) b := ⟨kb, rfl, h.1.1.2.2.ext h.ext0⟩
theorem OpVars.ia {w W : World} {A B : Nat} {op wd : Int} {a b : E} {kn ka kb : Value} (h : OpVars w W A B op wd a b kn ka kb) : IsE W A 0 a := by
  obtain ⟨c0, c1, c2, c3, _⟩ := cells_of_block h.2.2.2.1
  exact IsE.of_cells c0 c1 c2 c3 (h.1.2.1.ext h.1.1)
theorem OpVars.ib {w W : World} {A B : Nat} {op wd : Int} {a b : E} {kn ka kb : Value} (h : OpVars w W A B op wd a b kn ka kb) : IsE W B 0 b := by
  obtain ⟨c0, c1, c2, c3, _⟩ := cells_of_block h.2.2.2.2
  exact IsE.of_cells c0 c1 c2 c3 (h.1.2.2.ext h.1.1)
theorem OpVarsZ.mk' {w W : World} {A B : Nat} {op wd : Int} {a b : E} {kn ka kb : Value} (h : OpVars w W A B op wd a b kn ka kb) : OpVarsZ w (W.alloc (.cells #[.int .i64 1, .int .i64 wd, .int .i64 0, .slice none 0 0] 24)) A B W.heap.size op wd a b kn ka kb := ⟨h.ext ((Ext.refl W).alloc _), heap_new _ _⟩
theorem OpVarsZ.cells {w W : World} {A B Z : Nat} {op wd : Int} {a b : E} {kn ka kb : Value} (h : OpVarsZ w W A B Z op wd a b kn ka kb) :
    W.cell? ⟨w.heap.size, 0, none⟩ = some (.int .i64 op) ∧ W.cell? ⟨w.heap.size, 1, none⟩ = some (.int .i64 wd) ∧ W.cell? ⟨w.heap.size, 2, none⟩ = some (.int .i64 0) ∧ W.cell? ⟨w.heap.size, 3, none⟩ = some kn ∧
    W.cell? ⟨w.heap.size + 1, 0, none⟩ = some (.int .i64 0) ∧ W.cell? ⟨w.heap.size + 1, 1, none⟩ = some (.int .i64 0) ∧ W.cell? ⟨w.heap.size + 1, 2, none⟩ = some (.int .i64 0) ∧ W.cell? ⟨w.heap.size + 1, 3, none⟩ = some (.slice none 0 0) ∧
    W.frozen? ⟨w.heap.size + 1, 0, none⟩ = false ∧ W.frozen? ⟨w.heap.size + 1, 1, none⟩ = false ∧ W.frozen? ⟨w.heap.size + 1, 2, none⟩ = false ∧ W.frozen? ⟨w.heap.size + 1, 3, none⟩ = false ∧
    W.cell? ⟨A, 0, none⟩ = some (.int .i64 a.op) ∧ W.cell? ⟨A, 1, none⟩ = some (.int .i64 a.wd) ∧ W.cell? ⟨A, 2, none⟩ = some (.int .i64 a.n) ∧ W.cell? ⟨A, 3, none⟩ = some ka ∧
    W.cell? ⟨B, 0, none⟩ = some (.int .i64 b.op) ∧ W.cell? ⟨B, 1, none⟩ = some (.int .i64 b.wd) ∧ W.cell? ⟨B, 2, none⟩ = some (.int .i64 b.n) ∧ W.cell? ⟨B, 3, none⟩ = some kb ∧
    (W.cell? ⟨Z, 0, none⟩ = some (.int .i64 1) ∧ W.cell? ⟨Z, 1, none⟩ = some (.int .i64 wd)) ∧ (W.cell? ⟨Z, 2, none⟩ = some (.int .i64 0) ∧ W.cell? ⟨Z, 3, none⟩ = some (.slice none 0 0)) := by
  obtain ⟨⟨_, q1, q2, q3, q4⟩, q5⟩ := h
  obtain ⟨a0, a1, a2, a3, _⟩ := cells_of_block q1
  obtain ⟨b0, b1, b2, b3, b4, b5, b6, b7⟩ := cells_of_block q2
  obtain ⟨c0, c1, c2, c3, _⟩ := cells_of_block q3
  obtain ⟨d0, d1, d2, d3, _⟩ := cells_of_block q4
  obtain ⟨e0, e1, e2, e3, _⟩ := cells_of_block q5
  exact ⟨a0, a1, a2, a3, b0, b1, b2, b3, b4, b5, b6, b7, c0, c1, c2, c3, d0, d1, d2, d3, ⟨e0, e1⟩, ⟨e2, e3⟩⟩
theorem op5_0 {wd : Int} {a b : E} (h0 : a.isC 0 = true) : opS (.mk 5 wd 0 [a, b]) a b = constE 0 wd := by simp [opS, opCode, opPick, h0]
theorem op5_1 {wd : Int} {a b : E} (h0 : a.isC 0 = false) (h1 : b.isC 0 = true) : opS (.mk 5 wd 0 [a, b]) a b = constE 0 wd := by simp [opS, opCode, opPick, h0, h1]
theorem op5_2 {wd : Int} {a b : E} (h0 : a.isC 0 = false) (h1 : b.isC 0 = false) (h2 : a.isC (pw a.wd - 1) = true) : opS (.mk 5 wd 0 [a, b]) a b = b := by simp [opS, opCode, opPick, h0, h1, h2]
theorem op5_3 {wd : Int} {a b : E} (h0 : a.isC 0 = false) (h1 : b.isC 0 = false) (h2 : a.isC (pw a.wd - 1) = false) (h3 : b.isC (pw b.wd - 1) = true) : opS (.mk 5 wd 0 [a, b]) a b = a := by simp [opS, opCode, opPick, h0, h1, h2, h3]
theorem op5_4 {wd : Int} {a b : E} (h0 : a.isC 0 = false) (h1 : b.isC 0 = false) (h2 : a.isC (pw a.wd - 1) = false) (h3 : b.isC (pw b.wd - 1) = false) (h4 : a.eqB b = true) : opS (.mk 5 wd 0 [a, b]) a b = a := by simp [opS, opCode, opPick, h0, h1, h2, h3, h4]
theorem op5_5 {wd : Int} {a b : E} (h0 : a.isC 0 = false) (h1 : b.isC 0 = false) (h2 : a.isC (pw a.wd - 1) = false) (h3 : b.isC (pw b.wd - 1) = false) (h4 : a.eqB b = false) : opS (.mk 5 wd 0 [a, b]) a b = .mk 5 wd 0 [a, b] := by simp [opS, opCode, opPick, h0, h1, h2, h3, h4]
theorem op6_0 {wd : Int} {a b : E} (h0 : a.isC (pw a.wd - 1) = true) : opS (.mk 6 wd 0 [a, b]) a b = constE (pw wd - 1) wd := by simp [opS, opCode, opPick, h0]
theorem op6_1 {wd : Int} {a b : E} (h0 : a.isC (pw a.wd - 1) = false) (h1 : b.isC (pw b.wd - 1) = true) : opS (.mk 6 wd 0 [a, b]) a b = constE (pw wd - 1) wd := by simp [opS, opCode, opPick, h0, h1]
theorem op6_2 {wd : Int} {a b : E} (h0 : a.isC (pw a.wd - 1) = false) (h1 : b.isC (pw b.wd - 1) = false) (h2 : a.isC 0 = true) : opS (.mk 6 wd 0 [a, b]) a b = b := by simp [opS, opCode, opPick, h0, h1, h2]
theorem op6_3 {wd : Int} {a b : E} (h0 : a.isC (pw a.wd - 1) = false) (h1 : b.isC (pw b.wd - 1) = false) (h2 : a.isC 0 = false) (h3 : b.isC 0 = true) : opS (.mk 6 wd 0 [a, b]) a b = a := by simp [opS, opCode, opPick, h0, h1, h2, h3]
theorem op6_4 {wd : Int} {a b : E} (h0 : a.isC (pw a.wd - 1) = false) (h1 : b.isC (pw b.wd - 1) = false) (h2 : a.isC 0 = false) (h3 : b.isC 0 = false) (h4 : a.eqB b = true) : opS (.mk 6 wd 0 [a, b]) a b = a := by simp [opS, opCode, opPick, h0, h1, h2, h3, h4]
theorem op6_5 {wd : Int} {a b : E} (h0 : a.isC (pw a.wd - 1) = false) (h1 : b.isC (pw b.wd - 1) = false) (h2 : a.isC 0 = false) (h3 : b.isC 0 = false) (h4 : a.eqB b = false) : opS (.mk 6 wd 0 [a, b]) a b = .mk 6 wd 0 [a, b] := by simp [opS, opCode, opPick, h0, h1, h2, h3, h4]
theorem op7_0 {wd : Int} {a b : E} (h0 : a.isC 0 = true) : opS (.mk 7 wd 0 [a, b]) a b = b := by simp [opS, opCode, opPick, h0]
theorem op7_1 {wd : Int} {a b : E} (h0 : a.isC 0 = false) (h1 : b.isC 0 = true) : opS (.mk 7 wd 0 [a, b]) a b = a := by simp [opS, opCode, opPick, h0, h1]
theorem op7_2 {wd : Int} {a b : E} (h0 : a.isC 0 = false) (h1 : b.isC 0 = false) (h2 : a.eqB b = true) : opS (.mk 7 wd 0 [a, b]) a b = constE 0 wd := by simp [opS, opCode, opPick, h0, h1, h2]
theorem op7_3 {wd : Int} {a b : E} (h0 : a.isC 0 = false) (h1 : b.isC 0 = false) (h2 : a.eqB b = false) : opS (.mk 7 wd 0 [a, b]) a b = .mk 7 wd 0 [a, b] := by simp [opS, opCode, opPick, h0, h1, h2]
theorem op8_0 {wd : Int} {a b : E} (h0 : a.isC 0 = true) : opS (.mk 8 wd 0 [a, b]) a b = b := by simp [opS, opCode, opPick, h0]
theorem op8_1 {wd : Int} {a b : E} (h0 : a.isC 0 = false) (h1 : b.isC 0 = true) : opS (.mk 8 wd 0 [a, b]) a b = a := by simp [opS, opCode, opPick, h0, h1]
theorem op8_2 {wd : Int} {a b : E} (h0 : a.isC 0 = false) (h1 : b.isC 0 = false) : opS (.mk 8 wd 0 [a, b]) a b = .mk 8 wd 0 [a, b] := by simp [opS, opCode, opPick, h0, h1]
theorem op9_0 {wd : Int} {a b : E} (h0 : b.isC 0 = true) : opS (.mk 9 wd 0 [a, b]) a b = a := by simp [opS, opCode, opPick, h0]
theorem op9_1 {wd : Int} {a b : E} (h0 : b.isC 0 = false) (h1 : a.eqB b = true) : opS (.mk 9 wd 0 [a, b]) a b = constE 0 wd := by simp [opS, opCode, opPick, h0, h1]
theorem op9_2 {wd : Int} {a b : E} (h0 : b.isC 0 = false) (h1 : a.eqB b = false) : opS (.mk 9 wd 0 [a, b]) a b = .mk 9 wd 0 [a, b] := by simp [opS, opCode, opPick, h0, h1]
theorem op10_0 {wd : Int} {a b : E} (h0 : a.isC 0 = true) : opS (.mk 10 wd 0 [a, b]) a b = constE 0 wd := by simp [opS, opCode, opPick, h0]
theorem op10_1 {wd : Int} {a b : E} (h0 : a.isC 0 = false) (h1 : b.isC 0 = true) : opS (.mk 10 wd 0 [a, b]) a b = constE 0 wd := by simp [opS, opCode, opPick, h0, h1]
theorem op10_2 {wd : Int} {a b : E} (h0 : a.isC 0 = false) (h1 : b.isC 0 = false) (h2 : a.isC 1 = true) : opS (.mk 10 wd 0 [a, b]) a b = b := by simp [opS, opCode, opPick, h0, h1, h2]
theorem op10_3 {wd : Int} {a b : E} (h0 : a.isC 0 = false) (h1 : b.isC 0 = false) (h2 : a.isC 1 = false) (h3 : b.isC 1 = true) : opS (.mk 10 wd 0 [a, b]) a b = a := by simp [opS, opCode, opPick, h0, h1, h2, h3]
theorem op10_4 {wd : Int} {a b : E} (h0 : a.isC 0 = false) (h1 : b.isC 0 = false) (h2 : a.isC 1 = false) (h3 : b.isC 1 = false) : opS (.mk 10 wd 0 [a, b]) a b = .mk 10 wd 0 [a, b] := by simp [opS, opCode, opPick, h0, h1, h2, h3]
theorem op_end {w W : World} {N A B Z : Nat} {op wd : Int} {n a b e' : E} {kn ka kb u : Value} {act : Act} (hd : act.defers = []) (hp : act.tmps.getD 2 undef = .pointer (some ⟨w.heap.size + 1, 0, none⟩)) (hJ : OpVarsZ w W A B Z op wd a b kn ka kb) (hr : opS n a b = e') (hk : KidsB N w u e'.kids) :
    bodyPost Tryd.prog Tryd.f81 (NewN N (opS n a b) w) .ret act (put4 W (w.heap.size + 1) 0 (.int .i64 e'.op) (.int .i64 e'.wd) (.int .i64 e'.n) u) := by
  have hx : Ext w (put4 W (w.heap.size + 1) 0 (.int .i64 e'.op) (.int .i64 e'.wd) (.int .i64 e'.n) u) := Below.trans hJ.ext0 (below_put4 (by omega))
  exact bodyPost_ret (v := .agg #[.int .i64 e'.op, .int .i64 e'.wd, .int .i64 e'.n, u]) (results_cell_row Tryd.results81 _ _ (w.heap.size + 1) 24 _ (0, 0) _ hp (put4_new hJ.1.2.2.1) Tryd.underlying24 rfl sizeExpr) hd ⟨⟨_, rfl, by rw [hr]; exact ⟨u, rfl, hk.keep (hx.asFrom _)⟩⟩, hx⟩
theorem heap_of4 (w : World) (o0 o1 o2 o3 : Obj) : ((((w.alloc o0).alloc o1).alloc o2).alloc o3).heap[w.heap.size]? = some o0 ∧ ((((w.alloc o0).alloc o1).alloc o2).alloc o3).heap[w.heap.size + 1]? = some o1 ∧ ((((w.alloc o0).alloc o1).alloc o2).alloc o3).heap[w.heap.size + 1 + 1]? = some o2 ∧
    ((((w.alloc o0).alloc o1).alloc o2).alloc o3).heap[w.heap.size + 1 + 1 + 1]? = some o3 := by
  have e : ((((w.alloc o0).alloc o1).alloc o2).alloc o3).heap = (((w.heap.push o0).push o1).push o2).push o3 := rfl
  rw [e]
  refine ⟨?_, ?_, ?_, ?_⟩
  · rw [Array.getElem?_push, if_neg (by simp only [Array.size_push]; omega), Array.getElem?_push, if_neg (by simp only [Array.size_push]; omega), Array.getElem?_push, if_neg (by simp only [Array.size_push]; omega), Array.getElem?_push, if_pos rfl]
  · rw [Array.getElem?_push, if_neg (by simp only [Array.size_push]; omega), Array.getElem?_push, if_neg (by simp only [Array.size_push]; omega), Array.getElem?_push, if_pos (by simp only [Array.size_push])]
  · rw [Array.getElem?_push, if_neg (by simp only [Array.size_push]; omega), Array.getElem?_push, if_pos (by simp only [Array.size_push])]
  · rw [Array.getElem?_push, if_pos (by simp only [Array.size_push])]

end Go.Proofs.YtdancokndklpnaaDoor
namespace Go.Proofs.YtdancokndklpnaaDoor
open Go.RowKit

/-- What 'comparison' gives back. -/
def cmpS (n a b : E) : E :=
  if n.op = 12 then (if a.eqB b then constE 0 1 else if b.isC 0 then constE 0 1 else n)
  else if a.eqB b then constE 1 1
  else if n.op = 13 then (if a.isC 0 then constE 1 1 else if b.isC (pw b.wd - 1) then constE 1 1 else n)
  else if 1 < a.wd then n
  else if a.isC 1 then b else if b.isC 1 then a else if a.isC 0 then b.neg else if b.isC 0 then a.neg else n

theorem OpVars.ext0 {w W : World} {A B : Nat} {op wd : Int} {a b : E} {kn ka kb : Value} (h : OpVars w W A B op wd a b kn ka kb) : Ext w W := h.1.1
theorem OpVars.va {w W : World} {A B : Nat} {op wd : Int} {a b : E} {kn ka kb : Value} (h : OpVars w W A B op wd a b kn ka kb) : EVal W (.agg #[.int .i64 a.op, .int .i64 a.wd, .int .i64 a.n, ka]) a := ⟨ka, rfl, h.1.2.1.ext h.ext0⟩
theorem OpVars.vb {w W : World} {A B : Nat} {op wd : Int} {a b : E} {kn ka kb : Value} (h : OpVars w W A B op wd a b kn ka kb) : EVal W (.agg #[.int .i64 b.op, .int .i64 b.wd, .int .i64 b.n, kb]) b := ⟨kb, rfl, h.1.2.2.ext h.ext0⟩
theorem OpVars.cells {w W : World} {A B : Nat} {op wd : Int} {a b : E} {kn ka kb : Value} (h : OpVars w W A B op wd a b kn ka kb) :
    W.cell? ⟨w.heap.size, 0, none⟩ = some (.int .i64 op) ∧ W.cell? ⟨w.heap.size, 1, none⟩ = some (.int .i64 wd) ∧ W.cell? ⟨w.heap.size, 2, none⟩ = some (.int .i64 0) ∧ W.cell? ⟨w.heap.size, 3, none⟩ = some kn ∧
    W.cell? ⟨w.heap.size + 1, 0, none⟩ = some (.int .i64 0) ∧ W.cell? ⟨w.heap.size + 1, 1, none⟩ = some (.int .i64 0) ∧ W.cell? ⟨w.heap.size + 1, 2, none⟩ = some (.int .i64 0) ∧ W.cell? ⟨w.heap.size + 1, 3, none⟩ = some (.slice none 0 0) ∧
    W.frozen? ⟨w.heap.size + 1, 0, none⟩ = false ∧ W.frozen? ⟨w.heap.size + 1, 1, none⟩ = false ∧ W.frozen? ⟨w.heap.size + 1, 2, none⟩ = false ∧ W.frozen? ⟨w.heap.size + 1, 3, none⟩ = false ∧
    W.cell? ⟨A, 0, none⟩ = some (.int .i64 a.op) ∧ W.cell? ⟨A, 1, none⟩ = some (.int .i64 a.wd) ∧ W.cell? ⟨A, 2, none⟩ = some (.int .i64 a.n) ∧ W.cell? ⟨A, 3, none⟩ = some ka ∧
    W.cell? ⟨B, 0, none⟩ = some (.int .i64 b.op) ∧ W.cell? ⟨B, 1, none⟩ = some (.int .i64 b.wd) ∧ W.cell? ⟨B, 2, none⟩ = some (.int .i64 b.n) ∧ W.cell? ⟨B, 3, none⟩ = some kb := by
  obtain ⟨_, q1, q2, q3, q4⟩ := h
  obtain ⟨a0, a1, a2, a3, _⟩ := cells_of_block q1
  obtain ⟨b0, b1, b2, b3, b4, b5, b6, b7⟩ := cells_of_block q2
  obtain ⟨c0, c1, c2, c3, _⟩ := cells_of_block q3
  obtain ⟨d0, d1, d2, d3, _⟩ := cells_of_block q4
  exact ⟨a0, a1, a2, a3, b0, b1, b2, b3, b4, b5, b6, b7, c0, c1, c2, c3, d0, d1, d2, d3⟩

/-- The end: the result's variable is written. -/
theorem cmp_end {w W : World} {N A B : Nat} {op wd : Int} {a b e' s : E} {kn ka kb u : Value} {act : Act} (hd : act.defers = []) (hp : act.tmps.getD 2 undef = .pointer (some ⟨w.heap.size + 1, 0, none⟩)) (hJ : OpVars w W A B op wd a b kn ka kb) (hr : s = e') (hk : KidsB N w u e'.kids) :
    bodyPost Tryd.prog Tryd.f79 (NewN N s w) .ret act (put4 W (w.heap.size + 1) 0 (.int .i64 e'.op) (.int .i64 e'.wd) (.int .i64 e'.n) u) := by
  have hx : Ext w (put4 W (w.heap.size + 1) 0 (.int .i64 e'.op) (.int .i64 e'.wd) (.int .i64 e'.n) u) := Below.trans hJ.ext0 (below_put4 (by omega))
  exact bodyPost_ret (v := .agg #[.int .i64 e'.op, .int .i64 e'.wd, .int .i64 e'.n, u]) (results_cell_row Tryd.results79 _ _ (w.heap.size + 1) 24 _ (0, 0) _ hp (put4_new hJ.2.2.1) Tryd.underlying24 rfl sizeExpr) hd ⟨⟨_, rfl, by rw [hr]; exact ⟨u, rfl, hk.keep (hx.asFrom _)⟩⟩, hx⟩
/-- The end with a new node over an expression. -/
theorem cmp_end_new {w W W' : World} {N A B nb : Nat} {op wd : Int} {a b e s : E} {kn ka kb u : Value} {act : Act} (hd : act.defers = []) (hp : act.tmps.getD 2 undef = .pointer (some ⟨w.heap.size + 1, 0, none⟩)) (hN : N ≤ w.heap.size) (hJ : OpVars w W A B op wd a b kn ka kb) (hx' : Ext W W') (hnb : w.heap.size + 1 < nb)
    (hb : W'.heap[nb]? = some (.cells #[.int .i64 e.op, .int .i64 e.wd, .int .i64 e.n, u] 24 (0, 0))) (hr : s = .mk 4 e.wd 0 [e]) (hk : KidsB N w u e.kids) :
    bodyPost Tryd.prog Tryd.f79 (NewN N s w) .ret act (put4 W' (w.heap.size + 1) 0 (.int .i64 4) (.int .i64 e.wd) (.int .i64 0) (.slice (some ⟨nb, 0, none⟩) 1 1)) := by
  have hx : Ext w (put4 W' (w.heap.size + 1) 0 (.int .i64 4) (.int .i64 e.wd) (.int .i64 0) (.slice (some ⟨nb, 0, none⟩) 1 1)) := Below.trans (hJ.ext0.trans hx') (below_put4 (by omega))
  have hb' : (put4 W' (w.heap.size + 1) 0 (.int .i64 4) (.int .i64 e.wd) (.int .i64 0) (.slice (some ⟨nb, 0, none⟩) 1 1)).heap[nb]? = some (.cells #[.int .i64 e.op, .int .i64 e.wd, .int .i64 e.n, u] 24 (0, 0)) := by rw [put4_heap nb (by omega)]; exact hb
  exact bodyPost_ret (v := .agg #[.int .i64 4, .int .i64 e.wd, .int .i64 0, .slice (some ⟨nb, 0, none⟩) 1 1]) (results_cell_row Tryd.results79 _ _ (w.heap.size + 1) 24 _ (0, 0) _ hp (put4_new (hx'.heap hJ.2.2.1)) Tryd.underlying24 rfl sizeExpr) hd
    ⟨⟨_, rfl, by rw [hr]; exact ⟨_, rfl, kidsB_at (by omega) hk hx hb'⟩⟩, hx⟩
end Go.Proofs.YtdancokndklpnaaDoor
namespace Go.Proofs.YtdancokndklpnaaDoor
open Go.RowKit

/-- What 'choice' gives back; x: the test. -/
def choS (n x a b : E) : E :=
  if x.isC 1 then a else if a.eqB b && !x.isC 0 then a else if x.isC 0 then b
  else if n.wd = 1 ∧ a.isC 1 = true ∧ b.isC 0 = true then x else if n.wd = 1 ∧ a.isC 0 = true ∧ b.isC 1 = true then x.neg else n

/-- The variables of 'choice': the node, the result, the three kids. -/
def ChVars (w W : World) (C A B : Nat) (wd : Int) (x a b : E) (kn kx ka kb : Value) : Prop :=
  (Ext w W ∧ Kids w kx x.kids ∧ Kids w ka a.kids ∧ Kids w kb b.kids) ∧ W.heap[w.heap.size]? = some (.cells #[.int .i64 14, .int .i64 wd, .int .i64 0, kn] 24 (0, 0)) ∧ W.heap[w.heap.size + 1]? = some (.cells zero4 24 (0, 0)) ∧
    W.heap[C]? = some (.cells (cells4 x kx) 24 (0, 0)) ∧ W.heap[A]? = some (.cells (cells4 a ka) 24 (0, 0)) ∧ W.heap[B]? = some (.cells (cells4 b kb) 24 (0, 0))
theorem ChVars.ext {w W W' : World} {C A B : Nat} {wd : Int} {x a b : E} {kn kx ka kb : Value} (h : ChVars w W C A B wd x a b kn kx ka kb) (hx : Ext W W') : ChVars w W' C A B wd x a b kn kx ka kb :=
  ⟨⟨h.1.1.trans hx, h.1.2⟩, hx.heap h.2.1, hx.heap h.2.2.1, hx.heap h.2.2.2.1, hx.heap h.2.2.2.2.1, hx.heap h.2.2.2.2.2⟩
theorem ChVars.ext0 {w W : World} {C A B : Nat} {wd : Int} {x a b : E} {kn kx ka kb : Value} (h : ChVars w W C A B wd x a b kn kx ka kb) : Ext w W := h.1.1
theorem ChVars.vx {w W : World} {C A B : Nat} {wd : Int} {x a b : E} {kn kx ka kb : Value} (h : ChVars w W C A B wd x a b kn kx ka kb) : EVal W (.agg #[.int .i64 x.op, .int .i64 x.wd, .int .i64 x.n, kx]) x := ⟨kx, rfl, h.1.2.1.ext h.ext0⟩
theorem ChVars.va {w W : World} {C A B : Nat} {wd : Int} {x a b : E} {kn kx ka kb : Value} (h : ChVars w W C A B wd x a b kn kx ka kb) : EVal W (.agg #[.int .i64 a.op, .int .i64 a.wd, .int .i64 a.n, ka]) a := ⟨ka, rfl, h.1.2.2.1.ext h.ext0⟩
theorem ChVars.vb {w W : World} {C A B : Nat} {wd : Int} {x a b : E} {kn kx ka kb : Value} (h : ChVars w W C A B wd x a b kn kx ka kb) : EVal W (.agg #[.int .i64 b.op, .int .i64 b.wd, .int .i64 b.n, kb]) b := ⟨kb, rfl, h.1.2.2.2.ext h.ext0⟩
theorem ChVars.ia {w W : World} {C A B : Nat} {wd : Int} {x a b : E} {kn kx ka kb : Value} (h : ChVars w W C A B wd x a b kn kx ka kb) : IsE W A 0 a := by
  obtain ⟨c0, c1, c2, c3, _⟩ := cells_of_block h.2.2.2.2.1
  exact IsE.of_cells c0 c1 c2 c3 (h.1.2.2.1.ext h.1.1)
theorem ChVars.ib {w W : World} {C A B : Nat} {wd : Int} {x a b : E} {kn kx ka kb : Value} (h : ChVars w W C A B wd x a b kn kx ka kb) : IsE W B 0 b := by
  obtain ⟨c0, c1, c2, c3, _⟩ := cells_of_block h.2.2.2.2.2
  exact IsE.of_cells c0 c1 c2 c3 (h.1.2.2.2.ext h.1.1)
theorem ChVars.cells {w W : World} {C A B : Nat} {wd : Int} {x a b : E} {kn kx ka kb : Value} (h : ChVars w W C A B wd x a b kn kx ka kb) :
    W.cell? ⟨w.heap.size, 0, none⟩ = some (.int .i64 14) ∧ W.cell? ⟨w.heap.size, 1, none⟩ = some (.int .i64 wd) ∧ W.cell? ⟨w.heap.size, 2, none⟩ = some (.int .i64 0) ∧ W.cell? ⟨w.heap.size, 3, none⟩ = some kn ∧
    W.cell? ⟨w.heap.size + 1, 0, none⟩ = some (.int .i64 0) ∧ W.cell? ⟨w.heap.size + 1, 1, none⟩ = some (.int .i64 0) ∧ W.cell? ⟨w.heap.size + 1, 2, none⟩ = some (.int .i64 0) ∧ W.cell? ⟨w.heap.size + 1, 3, none⟩ = some (.slice none 0 0) ∧
    W.frozen? ⟨w.heap.size + 1, 0, none⟩ = false ∧ W.frozen? ⟨w.heap.size + 1, 1, none⟩ = false ∧ W.frozen? ⟨w.heap.size + 1, 2, none⟩ = false ∧ W.frozen? ⟨w.heap.size + 1, 3, none⟩ = false ∧
    W.cell? ⟨C, 0, none⟩ = some (.int .i64 x.op) ∧ W.cell? ⟨C, 1, none⟩ = some (.int .i64 x.wd) ∧ W.cell? ⟨C, 2, none⟩ = some (.int .i64 x.n) ∧ W.cell? ⟨C, 3, none⟩ = some kx ∧
    W.cell? ⟨A, 0, none⟩ = some (.int .i64 a.op) ∧ W.cell? ⟨A, 1, none⟩ = some (.int .i64 a.wd) ∧ W.cell? ⟨A, 2, none⟩ = some (.int .i64 a.n) ∧ W.cell? ⟨A, 3, none⟩ = some ka ∧
    W.cell? ⟨B, 0, none⟩ = some (.int .i64 b.op) ∧ W.cell? ⟨B, 1, none⟩ = some (.int .i64 b.wd) ∧ W.cell? ⟨B, 2, none⟩ = some (.int .i64 b.n) ∧ W.cell? ⟨B, 3, none⟩ = some kb := by
  obtain ⟨_, q1, q2, q3, q4, q5⟩ := h
  obtain ⟨a0, a1, a2, a3, _⟩ := cells_of_block q1
  obtain ⟨b0, b1, b2, b3, b4, b5, b6, b7⟩ := cells_of_block q2
  obtain ⟨c0, c1, c2, c3, _⟩ := cells_of_block q3
  obtain ⟨d0, d1, d2, d3, _⟩ := cells_of_block q4
  obtain ⟨e0, e1, e2, e3, _⟩ := cells_of_block q5
  exact ⟨a0, a1, a2, a3, b0, b1, b2, b3, b4, b5, b6, b7, c0, c1, c2, c3, d0, d1, d2, d3, e0, e1, e2, e3⟩
/-- The end: the result's variable is written. -/
theorem cho_end {N : Nat} {w W : World} {C A B : Nat} {wd : Int} {x a b e' s : E} {kn kx ka kb u : Value} {act : Act} (hd : act.defers = []) (hp : act.tmps.getD 2 undef = .pointer (some ⟨w.heap.size + 1, 0, none⟩)) (hJ : ChVars w W C A B wd x a b kn kx ka kb) (hr : s = e') (hk : KidsB N w u e'.kids) :
    bodyPost Tryd.prog Tryd.f80 (NewN N s w) .ret act (put4 W (w.heap.size + 1) 0 (.int .i64 e'.op) (.int .i64 e'.wd) (.int .i64 e'.n) u) := by
  have hx : Ext w (put4 W (w.heap.size + 1) 0 (.int .i64 e'.op) (.int .i64 e'.wd) (.int .i64 e'.n) u) := Below.trans hJ.ext0 (below_put4 (by omega))
  exact bodyPost_ret (v := .agg #[.int .i64 e'.op, .int .i64 e'.wd, .int .i64 e'.n, u]) (results_cell_row Tryd.results80 _ _ (w.heap.size + 1) 24 _ (0, 0) _ hp (put4_new hJ.2.2.1) Tryd.underlying24 rfl sizeExpr) hd ⟨⟨_, rfl, by rw [hr]; exact ⟨u, rfl, hk.keep (hx.asFrom _)⟩⟩, hx⟩
theorem cho_end_new {N nb : Nat} {w W W' : World} {C A B : Nat} {wd : Int} {x a b e s : E} {kn kx ka kb u : Value} {act : Act} (hd : act.defers = []) (hp : act.tmps.getD 2 undef = .pointer (some ⟨w.heap.size + 1, 0, none⟩)) (hN : N ≤ w.heap.size) (hJ : ChVars w W C A B wd x a b kn kx ka kb) (hx' : Ext W W') (hnb : w.heap.size + 1 < nb)
    (hb : W'.heap[nb]? = some (.cells #[.int .i64 e.op, .int .i64 e.wd, .int .i64 e.n, u] 24 (0, 0))) (hr : s = .mk 4 e.wd 0 [e]) (hk : KidsB N w u e.kids) :
    bodyPost Tryd.prog Tryd.f80 (NewN N s w) .ret act (put4 W' (w.heap.size + 1) 0 (.int .i64 4) (.int .i64 e.wd) (.int .i64 0) (.slice (some ⟨nb, 0, none⟩) 1 1)) := by
  have hx : Ext w (put4 W' (w.heap.size + 1) 0 (.int .i64 4) (.int .i64 e.wd) (.int .i64 0) (.slice (some ⟨nb, 0, none⟩) 1 1)) := Below.trans (hJ.ext0.trans hx') (below_put4 (by omega))
  have hb' : (put4 W' (w.heap.size + 1) 0 (.int .i64 4) (.int .i64 e.wd) (.int .i64 0) (.slice (some ⟨nb, 0, none⟩) 1 1)).heap[nb]? = some (.cells #[.int .i64 e.op, .int .i64 e.wd, .int .i64 e.n, u] 24 (0, 0)) := by rw [put4_heap nb (by omega)]; exact hb
  exact bodyPost_ret (v := .agg #[.int .i64 4, .int .i64 e.wd, .int .i64 0, .slice (some ⟨nb, 0, none⟩) 1 1]) (results_cell_row Tryd.results80 _ _ (w.heap.size + 1) 24 _ (0, 0) _ hp (put4_new (hx'.heap hJ.2.2.1)) Tryd.underlying24 rfl sizeExpr) hd
    ⟨⟨_, rfl, by rw [hr]; exact ⟨_, rfl, kidsB_at (by omega) hk hx hb'⟩⟩, hx⟩
theorem isC_other {a : E} {m n : Int} (h : a.isC m = true) (hne : m ≠ n) : a.isC n = false := by
  simp [E.isC] at h ⊢
  intro _; rw [h.2]; exact hne
theorem heap_of3 (w : World) (o0 o1 o2 : Obj) : (((w.alloc o0).alloc o1).alloc o2).heap[w.heap.size]? = some o0 ∧ (((w.alloc o0).alloc o1).alloc o2).heap[w.heap.size + 1]? = some o1 ∧ (((w.alloc o0).alloc o1).alloc o2).heap[w.heap.size + 1 + 1]? = some o2 := by
  have hs : ((w.alloc o0).alloc o1).heap.size = w.heap.size + 1 + 1 := by simp
  have hs1 : (w.alloc o0).heap.size = w.heap.size + 1 := by simp
  refine ⟨?_, ?_, ?_⟩
  · rw [Below.heap_alloc _ _ _ (by omega), Below.heap_alloc _ _ _ (by omega)]; exact heap_new _ _
  · rw [Below.heap_alloc _ _ _ (by omega), ← hs1]; exact heap_new _ _
  · rw [← hs]; exact heap_new _ _
end Go.Proofs.YtdancokndklpnaaDoor
namespace Go.Proofs.YtdancokndklpnaaDoor
open Go.RowKit

/-- The zero expression. -/
def zeroE : E := .mk 0 0 0 []

/-- A node over simplified kids. -/
def simpNode (op wd n : Int) (ks : List E) : E :=
  if ks.all (fun k => decide (k.op = 1)) = true then .mk 1 wd ((E.mk op wd n ks).val [] []) []
  else if op = 4 then (if (ks.getD 0 zeroE).op = 4 then (ks.getD 0 zeroE).kids.getD 0 zeroE else .mk op wd n ks)
  else if op = 11 ∨ op = 12 ∨ op = 13 then cmpS (.mk op wd n ks) (ks.getD 0 zeroE) (ks.getD 1 zeroE)
  else if op = 14 then choS (.mk op wd n ks) (ks.getD 0 zeroE) (ks.getD 1 zeroE) (ks.getD 2 zeroE)
  else opS (.mk op wd n ks) (ks.getD 0 zeroE) (ks.getD 1 zeroE)
mutual
/-- What 'simplify' gives back. -/
def E.simp : E → E
  | .mk op wd n ks => if ks = [] then .mk op wd n ks else simpNode op wd n (simpAll ks)
def simpAll : List E → List E
  | [] => []
  | e :: r => e.simp :: simpAll r
end
theorem simpAll_eq (ks : List E) : simpAll ks = ks.map E.simp := by
  induction ks with
  | nil => rfl
  | cons e r ih => simp [simpAll, ih]
theorem simp_nil {op wd n : Int} : (E.mk op wd n []).simp = .mk op wd n [] := by simp [E.simp]
theorem simp_cons {op wd n : Int} {ks : List E} (h : ks ≠ []) : (E.mk op wd n ks).simp = simpNode op wd n (ks.map E.simp) := by simp [E.simp, h, simpAll_eq]

theorem deep_mk {op wd n : Int} {ks : List E} {d : Nat} : (E.mk op wd n ks).deep d = true ↔ 1 ≤ d ∧ shapedW op wd n (ks.map E.wd) = true ∧ ∀ k ∈ ks, k.deep (d - 1) = true := by
  simp [E.deep, deepAll_iff, and_assoc]
mutual
theorem deep_mono : (e : E) → (d d' : Nat) → e.deep d = true → d ≤ d' → e.deep d' = true
  | .mk op wd n ks, d, d', h, hd => by
    simp only [E.deep, Bool.and_eq_true, decide_eq_true_eq] at h ⊢
    exact ⟨⟨by omega, h.1.2⟩, deepAll_mono ks _ _ h.2 (by omega)⟩
theorem deepAll_mono : (ks : List E) → (d d' : Nat) → deepAll ks d = true → d ≤ d' → deepAll ks d' = true
  | [], _, _, _, _ => rfl
  | e :: r, d, d', h, hd => by
    simp only [deepAll, Bool.and_eq_true] at h ⊢
    exact ⟨deep_mono e _ _ h.1 hd, deepAll_mono r _ _ h.2 hd⟩
end
theorem const_deep {n wd : Int} {d : Nat} (hd : 1 ≤ d) (h1 : 1 ≤ wd) (h8 : wd ≤ 8) (h0 : 0 ≤ n) (hn : n < pw wd) : (E.mk 1 wd n []).deep d = true := by
  rw [deep_mk]
  refine ⟨hd, ?_, fun k hk => by cases hk⟩
  simp [shapedW]
  omega
/-- A shaped node with kids is an inner one. -/
theorem inner_of {op wd n : Int} {ws : List Int} (h : shapedW op wd n ws = true) (hne : ws ≠ []) : op ≠ 1 ∧ op ≠ 2 ∧ op ≠ 3 := by
  refine ⟨?_, ?_, ?_⟩ <;> rintro rfl
  · exact hne (shapedW_const h).1
  · exact hne (shapedW_cell h (.inl rfl)).1
  · exact hne (shapedW_cell h (.inr rfl)).1
theorem map1 {ks : List E} {x : Int} (h : ks.map E.wd = [x]) : ∃ a, ks = [a] ∧ a.wd = x := by
  match ks with
  | [] => simp at h
  | [a] => exact ⟨a, rfl, by simpa using h⟩
  | _ :: _ :: _ => simp at h
theorem map2 {ks : List E} {x y : Int} (h : ks.map E.wd = [x, y]) : ∃ a b, ks = [a, b] ∧ a.wd = x ∧ b.wd = y := by
  match ks with
  | [] => simp at h
  | [a] => simp at h
  | [a, b] => exact ⟨a, b, rfl, by simpa using h⟩
  | _ :: _ :: _ :: _ => simp at h
theorem map3 {ks : List E} {x y z : Int} (h : ks.map E.wd = [x, y, z]) : ∃ a b c, ks = [a, b, c] ∧ a.wd = x ∧ b.wd = y ∧ c.wd = z := by
  match ks with
  | [] => simp at h
  | [a] => simp at h
  | [a, b] => simp at h
  | [a, b, c] => exact ⟨a, b, c, rfl, by simpa using h⟩
  | _ :: _ :: _ :: _ :: _ => simp at h
/-- The kids of a deep node, by its operator. -/
theorem deep_kids {op wd n : Int} {ks : List E} {d : Nat} (hne : ks ≠ []) (h : (E.mk op wd n ks).deep d = true) : n = 0 ∧ 1 ≤ d ∧ 1 ≤ wd ∧ wd ≤ 8 ∧ (
    (op = 4 ∧ ∃ a, ks = [a] ∧ a.wd = wd ∧ a.deep (d - 1) = true) ∨
    ((op = 5 ∨ op = 6 ∨ op = 7 ∨ op = 8 ∨ op = 9 ∨ op = 10) ∧ ∃ a b, ks = [a, b] ∧ a.wd = wd ∧ b.wd = wd ∧ a.deep (d - 1) = true ∧ b.deep (d - 1) = true) ∨
    ((op = 11 ∨ op = 12 ∨ op = 13) ∧ wd = 1 ∧ ∃ a b, ks = [a, b] ∧ a.wd = b.wd ∧ a.deep (d - 1) = true ∧ b.deep (d - 1) = true) ∨
    (op = 14 ∧ ∃ x a b, ks = [x, a, b] ∧ x.wd = 1 ∧ a.wd = wd ∧ b.wd = wd ∧ x.deep (d - 1) = true ∧ a.deep (d - 1) = true ∧ b.deep (d - 1) = true)) := by
  obtain ⟨h1, hs, hk⟩ := deep_mk.1 h
  have hw := shapedW_wd hs
  obtain ⟨i1, i2, i3⟩ := inner_of hs (by simpa using hne)
  obtain ⟨hn, h4, h14, hc⟩ := shapedW_inner hs i1 i2 i3
  refine ⟨hn, h1, hw.1, hw.2, ?_⟩
  rcases hc with ⟨rfl, hws⟩ | ⟨h5, h10, hws⟩ | ⟨h11, h13, rfl, u, hws⟩ | ⟨rfl, hws⟩
  · obtain ⟨a, rfl, ha⟩ := map1 hws
    exact .inl ⟨rfl, a, rfl, ha, hk a (by simp)⟩
  · obtain ⟨a, b, rfl, ha, hb⟩ := map2 hws
    exact .inr (.inl ⟨by omega, a, b, rfl, ha, hb, hk a (by simp), hk b (by simp)⟩)
  · obtain ⟨a, b, rfl, ha, hb⟩ := map2 hws
    exact .inr (.inr (.inl ⟨by omega, rfl, a, b, rfl, by rw [ha, hb], hk a (by simp), hk b (by simp)⟩))
  · obtain ⟨x, a, b, rfl, hx, ha, hb⟩ := map3 hws
    exact .inr (.inr (.inr ⟨rfl, x, a, b, rfl, hx, ha, hb, hk x (by simp), hk a (by simp), hk b (by simp)⟩))
/-- A negation has one kid, of its width. -/
theorem not_kid {e : E} {d : Nat} (h : e.deep d = true) (h4 : e.op = 4) : ∃ a, e.kids = [a] ∧ a.wd = e.wd ∧ a.deep (d - 1) = true ∧ e.n = 0 := by
  obtain ⟨op, wd, n, ks⟩ := e
  simp only [E.op_mk] at h4
  subst h4
  have hne : ks ≠ [] := by
    rintro rfl
    obtain ⟨_, hs, _⟩ := deep_mk.1 h
    simp [shapedW] at hs
  obtain ⟨hn, _, _, _, hc⟩ := deep_kids hne h
  rcases hc with ⟨_, a, rfl, h1, h2⟩ | ⟨h, _⟩ | ⟨h, _⟩ | ⟨h, _⟩
  · exact ⟨a, rfl, h1, h2, hn⟩
  all_goals omega
theorem not_ne {e : E} {d : Nat} (h : e.deep d = true) (h4 : e.op = 4) : e.kids ≠ [] := by
  obtain ⟨a, h, _⟩ := not_kid h h4
  rw [h]; simp
theorem neg_ok {e : E} {d : Nat} (h : e.deep d = true) : e.neg.deep (d + 1) = true ∧ e.neg.wd = e.wd := by
  unfold E.neg
  split
  · next h4 =>
    obtain ⟨a, hk, hw, hd, _⟩ := not_kid h h4
    rw [hk]
    exact ⟨deep_mono _ _ _ hd (by omega), hw⟩
  · have hw := deep_wd h
    refine ⟨?_, rfl⟩
    rw [deep_mk]
    refine ⟨by omega, ?_, ?_⟩
    · simp [shapedW]; omega
    · intro k hk; simp at hk; subst hk; exact h
theorem opS_ok {op wd : Int} {a b : E} {d : Nat} (hd : 1 ≤ d) (h : (E.mk op wd 0 [a, b]).deep d = true) (h1 : 1 ≤ wd) (h8 : wd ≤ 8) (ha : a.wd = wd) (hb : b.wd = wd) (da : a.deep (d - 1) = true) (db : b.deep (d - 1) = true) :
    (opS (.mk op wd 0 [a, b]) a b).deep d = true ∧ (opS (.mk op wd 0 [a, b]) a b).wd = wd := by
  have hp := pw_pos (w := wd)
  unfold opS opPick
  split
  · exact ⟨deep_mono _ _ _ da (by omega), ha⟩
  split
  · exact ⟨deep_mono _ _ _ db (by omega), hb⟩
  split
  · exact ⟨const_deep hd h1 h8 (by omega) (by simpa using hp), rfl⟩
  split
  · exact ⟨const_deep hd h1 h8 (by simp only [E.wd_mk]; omega) (by simp only [E.wd_mk]; omega), rfl⟩
  · exact ⟨h, rfl⟩
theorem cmpS_ok {op : Int} {a b : E} {d : Nat} (hd : 1 ≤ d) (h : (E.mk op 1 0 [a, b]).deep d = true) (hab : a.wd = b.wd) (da : a.deep (d - 1) = true) (db : b.deep (d - 1) = true) :
    (cmpS (.mk op 1 0 [a, b]) a b).deep d = true ∧ (cmpS (.mk op 1 0 [a, b]) a b).wd = 1 := by
  have hw := deep_wd da
  have c0 : (constE 0 1).deep d = true ∧ (constE 0 1).wd = 1 := ⟨const_deep hd (by omega) (by omega) (by omega) (by simp [pw]), rfl⟩
  have c1 : (constE 1 1).deep d = true ∧ (constE 1 1).wd = 1 := ⟨const_deep hd (by omega) (by omega) (by omega) (by simp [pw]), rfl⟩
  have cn : (E.mk op 1 0 [a, b]).deep d = true ∧ (E.mk op 1 0 [a, b]).wd = 1 := ⟨h, rfl⟩
  unfold cmpS
  split
  · split
    · exact c0
    split
    · exact c0
    · exact cn
  split
  · exact c1
  split
  · split
    · exact c1
    split
    · exact c1
    · exact cn
  split
  · exact cn
  next hw1 =>
  have ha1 : a.wd = 1 := by omega
  have hb1 : b.wd = 1 := by omega
  have na := neg_ok da
  have nb := neg_ok db
  have e : d - 1 + 1 = d := by omega
  rw [e] at na nb
  split
  · exact ⟨deep_mono _ _ _ db (by omega), hb1⟩
  split
  · exact ⟨deep_mono _ _ _ da (by omega), ha1⟩
  split
  · exact ⟨nb.1, by rw [nb.2, hb1]⟩
  split
  · exact ⟨na.1, by rw [na.2, ha1]⟩
  · exact cn
theorem choS_ok {wd : Int} {x a b : E} {d : Nat} (hd : 1 ≤ d) (h : (E.mk 14 wd 0 [x, a, b]).deep d = true) (hx : x.wd = 1) (ha : a.wd = wd) (hb : b.wd = wd) (dx : x.deep (d - 1) = true) (da : a.deep (d - 1) = true) (db : b.deep (d - 1) = true) :
    (choS (.mk 14 wd 0 [x, a, b]) x a b).deep d = true ∧ (choS (.mk 14 wd 0 [x, a, b]) x a b).wd = wd := by
  have e : d - 1 + 1 = d := by omega
  have nx := neg_ok dx
  rw [e] at nx
  unfold choS
  split
  · exact ⟨deep_mono _ _ _ da (by omega), ha⟩
  split
  · exact ⟨deep_mono _ _ _ da (by omega), ha⟩
  split
  · exact ⟨deep_mono _ _ _ db (by omega), hb⟩
  split
  · next hh => simp only [E.wd_mk] at hh; exact ⟨deep_mono _ _ _ dx (by omega), by rw [hx, hh.1]⟩
  split
  · next hh => simp only [E.wd_mk] at hh; exact ⟨nx.1, by rw [nx.2, hx, hh.1]⟩
  · exact ⟨h, rfl⟩
theorem simpNode_ok {op wd n : Int} {ks : List E} {d : Nat} (hne : ks ≠ []) (h : (E.mk op wd n ks).deep d = true) : (simpNode op wd n ks).deep d = true ∧ (simpNode op wd n ks).wd = wd := by
  obtain ⟨hn, hd, h1, h8, hc⟩ := deep_kids hne h
  subst hn
  unfold simpNode
  split
  · have := val_range [] [] _ d h
    simp only [E.wd_mk] at this
    exact ⟨const_deep hd h1 h8 this.1 this.2, rfl⟩
  rcases hc with ⟨rfl, a, rfl, ha, da⟩ | ⟨ho, a, b, rfl, ha, hb, da, db⟩ | ⟨ho, rfl, a, b, rfl, hab, da, db⟩ | ⟨rfl, x, a, b, rfl, hx, ha, hb, dx, da, db⟩
  · simp only [if_true, List.getD_cons_zero]
    split
    · next h4 =>
      obtain ⟨k, hk, hw, hdk, _⟩ := not_kid da h4
      rw [hk]
      exact ⟨deep_mono _ _ _ hdk (by omega), by simpa using hw.trans ha⟩
    · exact ⟨h, rfl⟩
  · rw [if_neg (by omega), if_neg (by omega), if_neg (by omega)]
    exact opS_ok hd h h1 h8 ha hb da db
  · rw [if_neg (by omega), if_pos ho]
    exact cmpS_ok hd h hab da db
  · rw [if_neg (by omega), if_neg (by omega), if_pos rfl]
    exact choS_ok hd h hx ha hb dx da db
/-- The kids' simplified forms make a node of the same shape. -/
theorem deep_over {op wd n : Int} {ks ks' : List E} {d : Nat} (h : (E.mk op wd n ks).deep d = true) (hw : ks'.map E.wd = ks.map E.wd) (hd : ∀ k ∈ ks', k.deep (d - 1) = true) : (E.mk op wd n ks').deep d = true := by
  obtain ⟨h1, hs, _⟩ := deep_mk.1 h
  exact deep_mk.2 ⟨h1, by rw [hw]; exact hs, hd⟩
theorem simp_ok (N : Nat) : ∀ (e : E) (d : Nat), e.size ≤ N → e.deep d = true → e.simp.deep d = true ∧ e.simp.wd = e.wd := by
  induction N with
  | zero => intro e d h; have := e.size_pos; omega
  | succ N ih =>
    intro e d hN h
    obtain ⟨op, wd, n, ks⟩ := e
    by_cases hks : ks = []
    · subst hks; rw [simp_nil]; exact ⟨h, rfl⟩
    · rw [simp_cons hks]
      obtain ⟨h1, hs, hk⟩ := deep_mk.1 h
      have hkk : ∀ k ∈ ks, k.simp.deep (d - 1) = true ∧ k.simp.wd = k.wd := fun k hin => ih k _ (by have := size_kid (op := op) (wd := wd) (n := n) hin; omega) (hk k hin)
      have := deep_over (ks' := ks.map E.simp) h (by rw [List.map_map]; exact List.map_congr_left fun k hin => (hkk k hin).2) (by intro k hin; obtain ⟨k', hin', rfl⟩ := List.mem_map.1 hin; exact (hkk k' hin').1)
      exact simpNode_ok (by simpa using hks) this
theorem simp_deep {e : E} {d : Nat} (h : e.deep d = true) : e.simp.deep d = true := (simp_ok _ e d (Nat.le_refl _) h).1
theorem simp_wd {e : E} {d : Nat} (h : e.deep d = true) : e.simp.wd = e.wd := (simp_ok _ e d (Nat.le_refl _) h).2
/-- The node over the simplified kids. -/
theorem deep_simp {op wd n : Int} {ks : List E} {d : Nat} (h : (E.mk op wd n ks).deep d = true) : (E.mk op wd n (ks.map E.simp)).deep d = true := by
  obtain ⟨h1, hs, hk⟩ := deep_mk.1 h
  exact deep_over h (by rw [List.map_map]; exact List.map_congr_left fun k hin => simp_wd (hk k hin)) (by intro k hin; obtain ⟨k', hin', rfl⟩ := List.mem_map.1 hin; exact simp_deep (hk k' hin'))
end Go.Proofs.YtdancokndklpnaaDoor
