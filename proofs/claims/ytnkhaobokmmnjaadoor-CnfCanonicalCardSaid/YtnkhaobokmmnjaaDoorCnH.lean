/-
  The walk of cnf.Normal.
-/
import Derived.Test.YtnkhaobokmmnjaaDoorCnG
import Derived.Test.YtnkhaobokmmnjaaDoorCnA
namespace Go.Proofs.YtnkhaobokmmnjaaDoor
open Go.RowKit Go.Shelf

/-- The normal forms of the first k clauses. -/
structure NormM (cl : List (List Int)) (k : Nat) (M : List (List Int)) : Prop where
  mem : ∀ n, n ∈ M ↔ ∃ c ∈ cl.take k, NormC c n
  len : M.length ≤ k
  bnd : ∀ n ∈ M, n.length ≤ 100000
theorem NormM.zero (cl : List (List Int)) : NormM cl 0 [] := ⟨fun n => by simp, Nat.le_refl _, fun n h => by simp at h⟩
theorem NormM.add {cl : List (List Int)} {k : Nat} {M : List (List Int)} (h : NormM cl k M) (hk : k < cl.length) {n : List Int} (hn : NormC cl[k] n) (hl : n.length ≤ 100000) : NormM cl (k + 1) (M ++ [n]) := by
  refine ⟨fun m => ?_, by rw [List.length_append]; have := h.len; simp; omega, fun m hm => ?_⟩
  · rw [List.take_succ_eq_append_getElem hk, List.mem_append, List.mem_singleton, h.mem m]
    constructor
    · rintro (⟨c, hc, hcn⟩ | rfl)
      · exact ⟨c, List.mem_append.2 (.inl hc), hcn⟩
      · exact ⟨_, List.mem_append.2 (.inr (List.mem_singleton.2 rfl)), hn⟩
    · rintro ⟨c, hc, hcn⟩
      rcases List.mem_append.1 hc with g | g
      · exact .inl ⟨c, g, hcn⟩
      · rw [List.mem_singleton] at g; subst g; exact .inr (hcn.unique hn)
  · rcases List.mem_append.1 hm with g | g
    · exact h.bnd m g
    · rw [List.mem_singleton] at g; subst g; exact hl
theorem NormM.skip {cl : List (List Int)} {k : Nat} {M : List (List Int)} (h : NormM cl k M) (hk : k < cl.length) (ht : isTaut cl[k] = true) (h0 : ∀ x ∈ cl[k], x ≠ 0) : NormM cl (k + 1) M := by
  refine ⟨fun m => ?_, by have := h.len; omega, h.bnd⟩
  rw [List.take_succ_eq_append_getElem hk, h.mem m]
  constructor
  · rintro ⟨c, hc, hcn⟩; exact ⟨c, List.mem_append.2 (.inl hc), hcn⟩
  · rintro ⟨c, hc, hcn⟩
    rcases List.mem_append.1 hc with g | g
    · exact ⟨c, g, hcn⟩
    · rw [List.mem_singleton] at g; subst g
      have := (norm_iff h0).2 ⟨m, hcn⟩
      rw [ht] at this; cases this
/-- The rows of the result's variable in block r. -/
structure NRow (r : Nat) (vars : Int) (wr : World) (vcl : Value) (vs : List Value) (M : List (List Int)) : Prop where
  blk : wr.heap[r]? = some (.cells #[.int .i64 vars, vcl] 24 (0, 0))
  own : OwnL wr (r + 1) vcl vs
  len : vs.length = M.length
  el : ∀ i (h1 : i < vs.length) (h2 : i < M.length), OwnInts wr (r + 1) vs[i] M[i]
theorem NRow.later {r : Nat} {vars : Int} {w w' : World} {vcl : Value} {vs : List Value} {M : List (List Int)} (h : NRow r vars w vcl vs M) (hx : Ext w w') : NRow r vars w' vcl vs M :=
  ⟨(hx.block r (lt_heap h.blk)).trans h.blk, h.own.kept hx, h.len, fun i h1 h2 => (h.el i h1 h2).kept hx⟩
/-- Where the row's block alone is turned, and it holds others now. -/
theorem NRow.turn {r : Nat} {vars : Int} {w w1 : World} {vcl vcl' : Value} {vs vs' : List Value} {M M' : List (List Int)} (h : NRow r vars w vcl vs M) (hg : w.grownBy w1 vcl.ownBlock) (ho : OwnL w1 (r + 1) vcl' vs') (hl : vs'.length = M'.length) (he : ∀ i (h1 : i < vs'.length) (h2 : i < M'.length), OwnInts w1 (r + 1) vs'[i] M'[i]) :
    NRow r vars (w1.setCell ⟨r, 1, none⟩ vcl') vcl' vs' M' := by
  have hbs := lt_heap h.blk
  have hnb : some r ≠ vcl.ownBlock := fun e => by have := (h.own.typed r e.symm).1; omega
  have hb1 := (hg.block r hbs hnb).trans h.blk
  have hbk : ∀ k, k ≠ r → (w1.setCell ⟨r, 1, none⟩ vcl').heap[k]? = w1.heap[k]? := fun k hk => heap_setCell_other _ _ _ _ hk
  refine ⟨?_, ho.keep fun k e => hbk k (by have := (ho.typed k e).1; omega), hl, fun i h1 h2 => (he i h1 h2).keep fun k e => hbk k (by have := (he i h1 h2).base k e; omega)⟩
  have := heap_setCell_same w1 r 1 _ _ vcl' hb1
  exact this
theorem NRow.el_grown {r : Nat} {vars : Int} {w w1 : World} {vcl : Value} {vs : List Value} {M : List (List Int)} (h : NRow r vars w vcl vs M) (hg : w.grownBy w1 vcl.ownBlock) {v : Value} {l : List Int} (hv : OwnInts w (r + 1) v l) : OwnInts w1 (r + 1) v l :=
  hv.keep fun k e => by
    obtain ⟨cs, hc⟩ := hv.typed k e
    refine hg.block k (lt_heap hc) fun e2 => ?_
    obtain ⟨_, cs2, hc2⟩ := h.own.typed k e2.symm
    rw [hc] at hc2; cases hc2
/-- What Normal keeps: q the block of its argument, q + 1 that of the result, r that of its variable. -/
structure NormI (w0 : World) (q r : Nat) (vars : Int) (fa : Option Addr) (fc : Nat) (cl : List (List Int)) (wr : World) : Prop where
  ext : Ext w0 wr
  f : wr.heap[q]? = some (.cells #[.int .i64 vars, .slice fa cl.length fc] 24 (0, 0))
  z : wr.heap[q + 1]? = some (.cells #[.int .i64 0, .slice none 0 0] 24 (0, 0))
theorem NormI.later {w0 : World} {q r : Nat} {vars : Int} {fa : Option Addr} {fc : Nat} {cl : List (List Int)} {w w' : World} (h : NormI w0 q r vars fa fc cl w) (hx : Ext w w') : NormI w0 q r vars fa fc cl w' :=
  ⟨h.ext.trans hx, (hx.block _ (lt_heap h.f)).trans h.f, (hx.block _ (lt_heap h.z)).trans h.z⟩
theorem NormI.turn {w0 : World} {q r : Nat} {vars : Int} {fa : Option Addr} {fc : Nat} {cl : List (List Int)} {w w1 : World} (h : NormI w0 q r vars fa fc cl w) (hq : w0.heap.size ≤ q) (hr : q + 1 < r) {row : Option Nat} (hg : w.grownBy w1 row) (hrow : ∀ k, row = some k → r < k) (v : Value) : NormI w0 q r vars fa fc cl (w1.setCell ⟨r, 1, none⟩ v) := by
  have ho : ∀ k, k < r → k < w.heap.size → (w1.setCell ⟨r, 1, none⟩ v).heap[k]? = w.heap[k]? := fun k hk hs => (heap_setCell_other _ _ _ _ (by show k ≠ r; omega)).trans (hg.block k hs fun e => by have := hrow k e.symm; omega)
  exact ⟨(h.ext.grown hg fun k e => by have := hrow k e; omega).setCell (p := ⟨r, 1, none⟩) (by show w0.heap.size ≤ r; omega) _, (ho q (by omega) (lt_heap h.f)).trans h.f, (ho (q + 1) (by omega) (lt_heap h.z)).trans h.z⟩
end Go.Proofs.YtnkhaobokmmnjaaDoor
