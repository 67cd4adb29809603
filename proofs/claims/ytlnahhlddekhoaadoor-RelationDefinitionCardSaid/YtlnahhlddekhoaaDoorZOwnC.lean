/-
  A row of program cells of the call's own: appended to, and written.
-/
import Derived.Test.YtlnahhlddekhoaaDoorMLw
namespace Go.Proofs.YtlnahhlddekhoaaDoor
open Go.RowKit

def cellL (c : CellD) : List Value := [.string c.name, .int .i64 c.W, .int .i64 c.init, .int .i64 c.thread, .bool c.ghost, .int .i64 c.module]
def flatC (l : List CellD) : List Value := l.flatMap cellL
theorem flatC_cons (c : CellD) (l : List CellD) : flatC (c :: l) = cellL c ++ flatC l := by simp [flatC]
theorem flatC_snoc (l : List CellD) (c : CellD) : flatC (l ++ [c]) = flatC l ++ cellL c := by simp [flatC]
theorem flatC_len (l : List CellD) : (flatC l).length = l.length * 6 := by
  induction l with
  | nil => rfl
  | cons a r ih => rw [flatC_cons, List.length_append, ih]; simp [cellL]; omega
theorem flatC_get (l : List CellD) (i : Nat) (h : i < l.length) (j : Nat) (hj : j < 6) : (flatC l)[i * 6 + j]? = (cellL l[i])[j]? := by
  induction l generalizing i with
  | nil => simp at h
  | cons a r ih =>
    cases i with
    | zero =>
      rw [flatC_cons, List.getElem?_append_left (by simp [cellL]; omega)]
      simp
    | succ i =>
      rw [flatC_cons, List.getElem?_append_right (by simp [cellL]; omega)]
      have := ih i (by simpa using h)
      rw [show (i + 1) * 6 + j - (cellL a).length = i * 6 + j by simp [cellL]; omega, this]
      simp
theorem flatC_set (l : List CellD) (i : Nat) (h : i < l.length) (x : Int) : (flatC l).set (i * 6 + 1) (.int .i64 x) = flatC (l.set i { l[i] with W := x }) := by
  induction l generalizing i with
  | nil => simp at h
  | cons a r ih =>
    cases i with
    | zero => simp [flatC_cons, cellL]
    | succ i =>
      have := ih i (by simpa using h)
      rw [flatC_cons, List.set_append_right _ _ (by simp [cellL]; omega), show (i + 1) * 6 + 1 - (cellL a).length = i * 6 + 1 by simp [cellL]; omega, this]
      simp [flatC_cons]
theorem infoCell : (Tryd.prog.info? 44).map (fun i => (i.zero, i.size, i.bytes)) = some (some (.agg #[.string ⟨#[]⟩, .int .i64 0, .int .i64 0, .int .i64 0, .bool false, .int .i64 0]), 6, 56) := by kernel_rfl
def OwnCells (w : World) (base : Nat) (v : Value) (l : List CellD) : Prop := w.ownsRow base 44 6 v l.length (flatC l)
theorem OwnCells.cells {w : World} {base : Nat} {v : Value} {l : List CellD} (h : OwnCells w base v l) : Cells w v l := by
  obtain ⟨_, h2⟩ := h
  rcases h2 with ⟨rfl, hl⟩ | ⟨g, cap, cur, rfl, _, hh, hn, hc, hs, ht⟩
  · exact .inl ⟨⟨_, _, rfl⟩, List.length_eq_zero_iff.1 hl⟩
  · refine .inr ⟨g, 0, cap, rfl, by unfold maxLen at hc; omega, fun i hi => ?_⟩
    have e : ∀ j, j < 6 → w.cell? ⟨g, 0 + i * 6 + j, none⟩ = (cellL l[i])[j]? := fun j hj => by
      rw [← flatC_get l i hi j hj]
      have := congrArg (fun x => x[i * 6 + j]?) ht
      simp only [List.getElem?_take, if_pos (show i * 6 + j < l.length * 6 by omega)] at this
      simp only [World.cell?, hh, Nat.zero_add]
      simpa using this
    exact ⟨e 0 (by omega), e 1 (by omega), e 2 (by omega), e 3 (by omega), e 4 (by omega), e 5 (by omega)⟩
theorem OwnCells.shape {w : World} {base : Nat} {v : Value} {l : List CellD} (h : OwnCells w base v l) (h0 : 0 < l.length) : ∃ g cap, v = .slice (some ⟨g, 0, none⟩) l.length cap ∧ base ≤ g := by
  rcases h.2 with ⟨_, e⟩ | ⟨g, cap, cur, hv, hg, _⟩
  · omega
  · exact ⟨g, cap, hv, hg⟩
theorem OwnCells.lt {w : World} {base : Nat} {v : Value} {l : List CellD} (h : OwnCells w base v l) (k : Nat) (hk : v.ownBlock = some k) : base ≤ k ∧ k < w.heap.size := by
  rcases h.2 with ⟨rfl, _⟩ | ⟨g, cap, cur, rfl, hg, hh, _⟩
  · cases hk
  · cases hk; exact ⟨hg, lt_heap hh⟩
theorem OwnCells.keep {w w' : World} {base : Nat} {v : Value} {l : List CellD} (h : OwnCells w base v l) (hk : ∀ k, v.ownBlock = some k → w'.heap[k]? = w.heap[k]?) : OwnCells w' base v l := by
  obtain ⟨h1, h2⟩ := h
  refine ⟨h1, ?_⟩
  rcases h2 with h2 | ⟨g, cap, cur, hv, hg, hh, r⟩
  · exact .inl h2
  · exact .inr ⟨g, cap, cur, hv, hg, by rw [hk g (by rw [hv]; rfl)]; exact hh, r⟩
theorem OwnCells.kept {w w' : World} {base : Nat} {v : Value} {l : List CellD} (h : OwnCells w base v l) (hx : Ext w w') : OwnCells w' base v l := h.keep fun k hk => hx.block k (h.lt k hk).2
/-- The width of an element, and where it lies. -/
theorem OwnCells.at {w : World} {base g cap : Nat} {l : List CellD} (h : OwnCells w base (.slice (some ⟨g, 0, none⟩) l.length cap) l) {i : Nat} (hi : i < l.length) : w.cell? ⟨g, i * 6 + 1, none⟩ = some (.int .i64 l[i].W) ∧ w.frozen? ⟨g, i * 6 + 1, none⟩ = false := by
  constructor
  · rcases h.cells with ⟨⟨_, _, e⟩, _⟩ | ⟨b, o, c, e, _, hc⟩
    · simp only [Value.slice.injEq] at e; omega
    · cases e
      have := (hc i hi).2.1
      rwa [Nat.zero_add] at this
  · rcases h.2 with ⟨e, _⟩ | ⟨g', cap', cur, hv, hg, hh, _⟩
    · cases e
    · cases hv; exact frozen_of_row w g _ _ _ hh
theorem OwnCells.setW {w : World} {base g cap : Nat} {l : List CellD} (h : OwnCells w base (.slice (some ⟨g, 0, none⟩) l.length cap) l) {i : Nat} (hi : i < l.length) (x : Int) : OwnCells (w.setCell ⟨g, i * 6 + 1, none⟩ (.int .i64 x)) base (.slice (some ⟨g, 0, none⟩) l.length cap) (l.set i { l[i] with W := x }) := by
  obtain ⟨h1, h2⟩ := h
  refine ⟨by rw [flatC_len], ?_⟩
  rcases h2 with ⟨e, _⟩ | ⟨g', cap', cur, hv, hg, hh, hn, hc, hs, ht⟩
  · cases e
  · cases hv
    refine .inr ⟨g, cap, cur.setIfInBounds (i * 6 + 1) (.int .i64 x), by rw [List.length_set], hg, heap_setCell_same _ _ _ _ _ _ hh, by rw [List.length_set]; exact hn, hc, by simpa using hs, ?_⟩
    rw [List.length_set, Array.toList_setIfInBounds, List.take_set, ht, flatC_set l i hi]
theorem OwnCells.shape' {w : World} {base : Nat} {v : Value} {l : List CellD} {n : Nat} (h : OwnCells w base v l) (hn : l.length = n) (h0 : 0 < n) : ∃ g cap, v = .slice (some ⟨g, 0, none⟩) n cap ∧ base ≤ g := by
  subst hn; exact h.shape h0
theorem OwnCells.at' {w : World} {base g cap n : Nat} {l : List CellD} (h : OwnCells w base (.slice (some ⟨g, 0, none⟩) n cap) l) (hn : l.length = n) {i : Nat} (hi : i < n) : (∃ x, w.cell? ⟨g, i * 6 + 1, none⟩ = some (.int .i64 x)) ∧ w.frozen? ⟨g, i * 6 + 1, none⟩ = false := by
  subst hn; exact ⟨⟨_, (h.at hi).1⟩, (h.at hi).2⟩
theorem OwnCells.setW' {w : World} {base g cap n : Nat} {l m : List CellD} (h : OwnCells w base (.slice (some ⟨g, 0, none⟩) n cap) l) (hn : l.length = n) {i : Nat} (hi : i < l.length) {x : Int} (hm : l.set i { l[i] with W := x } = m) : OwnCells (w.setCell ⟨g, i * 6 + 1, none⟩ (.int .i64 x)) base (.slice (some ⟨g, 0, none⟩) n cap) m := by
  subst hn hm; exact h.setW hi x
/-- The empty row of a literal. -/
theorem OwnCells.empty (w : World) (base : Nat) (hb : base ≤ w.heap.size) : OwnCells (w.alloc (.cells #[] 44)) base (.slice (some ⟨w.heap.size, 0, none⟩) 0 0) [] :=
  ⟨rfl, .inr ⟨w.heap.size, 0, #[], rfl, hb, heap_new _ _, Nat.le_refl _, Nat.zero_le _, rfl, rfl⟩⟩
theorem cells_new (w : World) (c : CellD) (t : TypeId) : ∀ j u, (cellL c)[j]? = some u → (w.alloc (.cells (cellL c).toArray t)).cell? ((⟨w.heap.size, 0, none⟩ : Addr).add j) = some u := by
  intro j u hj
  have hh : (w.alloc (.cells (cellL c).toArray t)).heap[w.heap.size]? = some (.cells (cellL c).toArray t (0, 0)) := heap_new _ _
  have hadd : (⟨w.heap.size, 0, none⟩ : Addr).add j = ⟨w.heap.size, j, none⟩ := by unfold Addr.add; split <;> simp_all
  rw [hadd, cell_of_row _ _ _ _ _ _ hh]
  simpa using hj
/-- A cell appended to a row of the call's own. -/
theorem wpList_append_cell {W0 wr : World} {ops : Array Oper} {rest : List Oper} {o : Oper} {a : Act} {Q : Exit → Act → World → Prop} (hgd : o.guard = none) (s x : Operand)
    (ho : o.op = .call { callee := .builtin .append, args := #[s, x], argTypes := #[42, 42] }) (v : Value) (l : List CellD) (c : CellD) (hs : a.eval s = v) (hown : OwnCells wr W0.heap.size v l) (hX : Ext W0 wr)
    (hx : a.eval x = .slice (some ⟨wr.heap.size, 0, none⟩) 1 1) (hl : l.length ≤ 1000)
    (h : ∀ v' w', OwnCells w' W0.heap.size v' (l ++ [c]) → Ext W0 w' → wpList Tryd.prog ops Q rest (a.put o.dst v') w') :
    wpList Tryd.prog ops Q (o :: rest) a (wr.alloc (.cells #[.string c.name, .int .i64 c.W, .int .i64 c.init, .int .i64 c.thread, .bool c.ghost, .int .i64 c.module] 44)) := by
  obtain ⟨i0, hi, hz0, hz1, hz2⟩ := info_parts infoCell
  refine wpList_append_own _ hgd s x 42 ho W0.heap.size 44 i0 _ 6 56 Tryd.underlying42 hi hz0 hz1 hz2 rfl (by decide) v l.length (flatC l) hs (hown.kept ((Ext.refl wr).alloc _)) ⟨wr.heap.size, 0, none⟩ 1 1 (cellL c) hx rfl (cells_new wr c 44) ?_ ?_ ?_ ?_ ?_
  · simp [cellL, Value.oneCell']
  · unfold maxLen; omega
  · omega
  · have := hX.size; simp; omega
  · intro v' w' ho' hg _
    refine h v' w' (by unfold OwnCells; rw [flatC_snoc, List.length_append]; exact ho') ?_
    exact (hX.alloc _).grown hg fun k hk => (hown.lt k hk).1
end Go.Proofs.YtlnahhlddekhoaaDoor
