/-
  A formula that a law builds in a variable of its own: clauses of older memory.
-/
import Derived.Test.YtnkhaobokmmnjaaDoorCh2
namespace Go.Proofs.YtnkhaobokmmnjaaDoor
open Go.RowKit Go.Shelf

/-- A slice appended, in a region that draws its order: where the row lies is said too. -/
theorem step_append_rowL {ops : Array Oper} {o : Oper} {a : Act} {K : Act → World → Prop} {Q : Exit → Act → World → Prop} {E' : Prop} (hgd : o.guard = none) (s x : Operand)
    (ho : o.op = .call { callee := .builtin .append, args := #[s, x], argTypes := #[22, 22] }) (base : Nat) (wr : World) (H : Nat) (hH : wr.heap.size = H) (v : Value) (vs : List Value) (u : Value)
    (hs : a.eval s = v) (hx' : a.eval x = .slice (some ⟨H, 0, none⟩) 1 1) (hown : OwnL wr base v vs) (hu : isSl u) (hl : vs.length ≤ 1000000) (hb : base ≤ wr.heap.size)
    (h : ∀ g cap w', OwnL w' base (.slice (some ⟨g, 0, none⟩) (vs.length + 1) cap) (vs ++ [u]) → wr.grownBy w' v.ownBlock → (v.ownBlock = some g ∨ wr.heap.size ≤ g) → K (a.put o.dst (.slice (some ⟨g, 0, none⟩) (vs.length + 1) cap)) w') :
    if Region.wanted o (yielded ops a.tmps) = true then Oper.wp Tryd.prog o a (wr.alloc (.cells #[u] 30)) K Q else E' := by
  obtain ⟨i0, hi, hz0, hz1, hz2⟩ := info_parts infoRow
  obtain ⟨hown, hsl⟩ := hown
  have hx : a.eval x = .slice (some ⟨wr.heap.size, 0, none⟩) 1 1 := by rw [hH]; exact hx'
  refine step_append_lies _ hgd s x 22 ho base 30 i0 (.slice none 0 0) 1 24 Tryd.underlying22 hi hz0 hz1 hz2 rfl (by decide) v vs.length vs hs (World.ownsRow.alloc hown _) ⟨wr.heap.size, 0, none⟩ 1 1 [u] hx rfl (cell_one_new _ _ _) ?_ (by decide) ?_ ?_ ?_ (wr.heap.size + 1) (by simp) ?_
  · intro y hy
    obtain ⟨p, q, r, rfl⟩ := hu
    simp at hy; subst hy; rfl
  · unfold maxLen; omega
  · omega
  · simp; omega
  · intro g cap w' k1 k2 k3 _
    refine h g cap w' ⟨by simpa using k1, fun y hy => ?_⟩ (grown_alloc k2) (k3.imp id fun e => by omega)
    rcases List.mem_append.1 hy with g | g
    · exact hsl y g
    · rw [List.mem_singleton] at g; subst g; exact hu
/-- The variable in block r; its row lies from base on; its clauses are read in the older world w0. -/
structure GVar (w0 : World) (base r : Nat) (vars : Int) (wr : World) (vcl : Value) (vs : List Value) (M : List (List Int)) : Prop where
  blk : wr.heap[r]? = some (.cells #[.int .i64 vars, vcl] 24 (0, 0))
  own : OwnL wr base vcl vs
  len : vs.length = M.length
  el : ∀ i (h1 : i < vs.length) (h2 : i < M.length), Ints w0 vs[i] M[i]
variable {w0 w w' w1 : World} {base r : Nat} {vars : Int} {vcl vcl' : Value} {vs : List Value} {M : List (List Int)}
theorem GVar.later (h : GVar w0 base r vars w vcl vs M) (hx : Ext w w') : GVar w0 base r vars w' vcl vs M := ⟨(hx.block r (lt_heap h.blk)).trans h.blk, h.own.kept hx, h.len, h.el⟩
/-- Another row is turned, another block written. -/
theorem GVar.other (h : GVar w0 base r vars w vcl vs M) {row : Option Nat} (hg : w.grownBy w1 row) (h1 : row ≠ some r) (h2 : ∀ k, vcl.ownBlock = some k → row ≠ some k) {r2 : Nat} (h3 : r ≠ r2) (h4 : ∀ k, vcl.ownBlock = some k → k ≠ r2) (i : Nat) (v : Value) : GVar w0 base r vars (w1.setCell ⟨r2, i, none⟩ v) vcl vs M :=
  ⟨(heap_setCell_other _ _ _ _ h3).trans ((hg.block r (lt_heap h.blk) fun e => h1 e.symm).trans h.blk), h.own.keep fun k e => by
    obtain ⟨_, cs, hc⟩ := h.own.typed k e
    exact (heap_setCell_other _ _ _ _ (h4 k e)).trans (hg.block k (lt_heap hc) fun e2 => h2 k e e2.symm), h.len, h.el⟩
/-- A clause of older memory is appended. -/
theorem GVar.add (h : GVar w0 base r vars w vcl vs M) (hr : r < base) (hg : w.grownBy w1 vcl.ownBlock) {u : Value} {l : List Int} (ho : OwnL w1 base vcl' (vs ++ [u])) (hu : Ints w0 u l) : GVar w0 base r vars (w1.setCell ⟨r, 1, none⟩ vcl') vcl' (vs ++ [u]) (M ++ [l]) := by
  have hnb : some r ≠ vcl.ownBlock := fun e => by have := (h.own.typed r e.symm).1; omega
  have hb1 := (hg.block r (lt_heap h.blk) hnb).trans h.blk
  refine ⟨?_, ho.keep fun k e => heap_setCell_other _ _ _ _ (by have := (ho.typed k e).1; show k ≠ r; omega), by simp [h.len], fun i h1 h2 => ?_⟩
  · have := heap_setCell_same w1 r 1 _ _ vcl' hb1
    exact this
  · have hll := h.len
    rcases Nat.lt_or_ge i vs.length with c | c
    · have e1 : (vs ++ [u])[i] = vs[i] := List.getElem_append_left c
      have e2 : (M ++ [l])[i] = M[i]'(by omega) := List.getElem_append_left (by omega)
      rw [e1, e2]; exact h.el i c (by omega)
    · have hi : i = vs.length := by simp at h1; omega
      subst hi
      have e1 : (vs ++ [u])[vs.length] = u := by simp
      have e2 : (M ++ [l])[vs.length]'h2 = l := by simp [hll]
      rw [e1, e2]; exact hu
theorem GVar.lists (h : GVar w0 base r vars w vcl vs M) (hx : Ext w0 w) : Lists w vcl M := h.own.lists h.len fun i h1 h2 => (h.el i h1 h2).ext hx
theorem GVar.cells (h : GVar w0 base r vars w vcl vs M) : w.cell? ⟨r, 0, none⟩ = some (.int .i64 vars) ∧ w.cell? ⟨r, 1, none⟩ = some vcl := CnfAt.cells h.blk
/-- What Small says. -/
theorem small_len {cl : List (List Int)} (h : smallC cl = true) : cl.length ≤ 60 ∧ ∀ c ∈ cl, c.length ≤ 20 := by
  unfold smallC at h
  simp only [Bool.and_eq_true, decide_eq_true_eq, List.all_eq_true] at h
  exact h
/-- The numbers of a formula are ints. -/
def CnfN (vars : Int) (cl : List (List Int)) : Prop := InI vars ∧ ∀ c ∈ cl, ∀ x ∈ c, InI x
theorem CnfN.tame {vars : Int} {cl : List (List Int)} (h : CnfN vars cl) (hs : smallC cl = true) : TameC vars cl := by
  obtain ⟨h1, h2⟩ := small_len hs
  exact ⟨h.1, by omega, fun c hc => ⟨by have := h2 c hc; omega, h.2 c hc⟩⟩
/-- A byte in a cell; a list of them. -/
def ByteAt (w : World) (b o : Nat) (z : Int) : Prop := w.cell? ⟨b, o, none⟩ = some (.int .u8 z) ∧ 0 ≤ z ∧ z ≤ 255
abbrev BytesI := SliceAt 1 ByteAt
theorem ByteAt.keeps {w w' : World} (hx : Ext w w') (b o : Nat) (z : Int) (h : ByteAt w b o z) : ByteAt w' b o z := ⟨hx.cell h.1, h.2⟩
end Go.Proofs.YtnkhaobokmmnjaaDoor
