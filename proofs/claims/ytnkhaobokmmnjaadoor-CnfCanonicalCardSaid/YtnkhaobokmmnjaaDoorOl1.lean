/-
  Slices of slices of ints, of the call's own: appends to them.
-/
import Derived.Test.YtnkhaobokmmnjaaDoorPs1
import Derived.Laws.Rows
import Derived.Laws.Tables
import Derived.Sort.CutIn
import Derived.Deep.AppendLies
import Derived.Deep.RegionHeld3
import Derived.Deep.OwnRows
import Derived.RangeFuncOwn
import Derived.Lib.AppendZerosOnto
import Derived.Lib.Walk
import Derived.Maps.AppendAt
namespace Go.Proofs.YtnkhaobokmmnjaaDoor
open Go.RowKit Go.Shelf
attribute [local go_sem] Oper.semAt_some

theorem lt_heap {w : World} {b : Nat} {o : Obj} (h : w.heap[b]? = some o) : b < w.heap.size := (Array.getElem?_eq_some_iff.1 h).1
theorem own_lt {w : World} {base : Nat} {v : Value} {l : List Int} (h : OwnInts w base v l) (k : Nat) (hk : v.ownBlock = some k) : k < w.heap.size := by
  rcases h.2 with ⟨rfl, _⟩ | ⟨g, cap, cur, rfl, hg, hh, _⟩
  · cases hk
  · cases hk; exact lt_heap hh
theorem OwnInts.keep {w w' : World} {base : Nat} {v : Value} {l : List Int} (h : OwnInts w base v l) (hk : ∀ k, v.ownBlock = some k → w'.heap[k]? = w.heap[k]?) : OwnInts w' base v l := by
  obtain ⟨h1, h2⟩ := h
  refine ⟨h1, ?_⟩
  rcases h2 with h2 | ⟨g, cap, cur, hv, hg, hh, r⟩
  · exact .inl h2
  · exact .inr ⟨g, cap, cur, hv, hg, by rw [hk g (by rw [hv]; rfl)]; exact hh, r⟩
theorem OwnInts.mono {w : World} {base base' : Nat} {v : Value} {l : List Int} (h : OwnInts w base v l) (hb : base' ≤ base) : OwnInts w base' v l := by
  obtain ⟨h1, h2⟩ := h
  refine ⟨h1, ?_⟩
  rcases h2 with h2 | ⟨g, cap, cur, hv, hg, r⟩
  · exact .inl h2
  · exact .inr ⟨g, cap, cur, hv, by omega, r⟩
theorem OwnInts.typed {w : World} {base : Nat} {v : Value} {l : List Int} (h : OwnInts w base v l) (k : Nat) (hk : v.ownBlock = some k) : ∃ cs, w.heap[k]? = some (.cells cs 3 (0, 0)) := by
  rcases h.2 with ⟨rfl, _⟩ | ⟨g, cap, cur, rfl, hg, hh, _⟩
  · cases hk
  · cases hk; exact ⟨_, hh⟩
theorem grown_other {W W' : World} {row : Option Nat} (hg : W.grownBy W' row) (hr : ∀ r, row = some r → ∃ o : Obj, W.heap[r]? = some o ∧ o.isCells = false) (k : Nat) (o : Obj) (hk : W.heap[k]? = some o) (ho : o.isCells = true) : W'.heap[k]? = W.heap[k]? :=
  hg.block k (lt_heap hk) fun e => by
    obtain ⟨o', h1, h2⟩ := hr k e.symm
    rw [hk] at h1; cases h1; rw [ho] at h2; cases h2
/-- Nothing appended. -/
theorem append_nothing {w : World} {base : Nat} {v : Value} {l : List Int} (h : OwnInts w base v l) (ty : TypeId) (c : Nat) : (Builtin.append_ #[30, 30] ty #[v, .slice none 0 c]).run Tryd.prog w = .ok v w := by
  obtain ⟨i0, hi, hz0, hz1, hz2⟩ := info_parts infoInt
  have hu : Tryd.prog.underlying 30 = some (.slice 3) := Tryd.underlying30
  rcases h.2 with ⟨rfl, _⟩ | ⟨g, cap, cur, rfl, _, _, hn, _⟩
  · simp [Builtin.append_, run_underlying hu, sizeOf, typeInfo, hi, Builtin.lenOf, Builtin.firstCells]
  · simp [Builtin.append_, run_underlying hu, sizeOf, typeInfo, hi, Builtin.lenOf, Builtin.firstCells, hn, storeCells]
theorem wpList_append_list {ops : Array Oper} {rest : List Oper} {o : Oper} {a : Act} {w : World} {Q : Exit → Act → World → Prop} (hgd : o.guard = none) (s x : Operand)
    (ho : o.op = .call { callee := .builtin .append, args := #[s, x], argTypes := #[30, 30] }) (base : Nat) (v src : Value) (l l2 : List Int)
    (hs : a.eval s = v) (hx : a.eval x = src) (hown : OwnInts w base v l) (hsrc : Ints w src l2) (hl : l.length + l2.length ≤ 1000000000) (hb : base ≤ w.heap.size)
    (h : ∀ v' w', OwnInts w' base v' (l ++ l2) → w.grownBy w' v.ownBlock → wpList Tryd.prog ops Q rest (a.put o.dst v') w') : wpList Tryd.prog ops Q (o :: rest) a w := by
  obtain ⟨i0, hi, hz0, hz1, hz2⟩ := info_parts infoInt
  have key : ∀ (ad : Addr) (c : Nat), src = .slice (some ad) l2.length c → (∀ j u, (l2.map (Value.int .i64))[j]? = some u → w.cell? (ad.add j) = some u) → wpList Tryd.prog ops Q (o :: rest) a w := fun ad c he hn =>
    wpList_append_own _ hgd s x 30 ho base 3 i0 (.int .i64 0) 1 8 Tryd.underlying30 hi hz0 hz1 hz2 rfl (by decide) v l.length (l.map (Value.int .i64)) hs hown ad l2.length c (l2.map (Value.int .i64)) (hx.trans he) (by simp) hn
      (fun u hu => by obtain ⟨y, _, rfl⟩ := List.mem_map.1 hu; rfl) (by unfold maxLen; omega) (by omega) hb fun v' w' h1 h2 _ => h v' w' (by simpa [OwnInts] using h1) h2
  rcases hsrc with ⟨⟨A, c, rfl⟩, rfl⟩ | ⟨b, of, cap, rfl, hm, hc⟩
  · cases A with
    | some ad => exact key ad c rfl (fun j u hu => by simp at hu)
    | none =>
      refine wpList_plain hgd fun K hK => ?_
      unfold Oper.wp execOp
      simp only [ho, resolve, invoke, builtin, Sem.run_bind, Sem.run_pure, Result.andThen_ok, List.map_toArray, List.map_cons, List.map_nil, hs, hx, append_nothing hown]
      exact hK _ _ (h v w (by simpa using hown) (World.grownBy.refl w _))
  · refine key ⟨b, of, none⟩ cap rfl fun j u hu => ?_
    have hj : j < l2.length := by
      have := (List.getElem?_eq_some_iff.1 hu).1; simpa using this
    have hadd : (⟨b, of, none⟩ : Addr).add j = ⟨b, of + j, none⟩ := by unfold Addr.add; split <;> simp_all
    have := hc j hj
    rw [Nat.mul_one] at this
    rw [hadd]
    have e : u = .int .i64 l2[j] := by simpa [hj] using hu.symm
    rw [e]; exact this
/-- An int appended to a row of the call's own, in a region that draws its order. -/
theorem step_append_int {ops : Array Oper} {o : Oper} {a : Act} {K : Act → World → Prop} {Q : Exit → Act → World → Prop} {E' : Prop} (hgd : o.guard = none) (s x : Operand)
    (ho : o.op = .call { callee := .builtin .append, args := #[s, x], argTypes := #[30, 30] }) (base : Nat) (wr : World) (H : Nat) (hH : wr.heap.size = H) (v : Value) (l : List Int) (n : Int)
    (hs : a.eval s = v) (hx' : a.eval x = .slice (some ⟨H, 0, none⟩) 1 1) (hown : OwnInts wr base v l) (hl : l.length ≤ 1000000000) (hb : base ≤ wr.heap.size)
    (h : ∀ g cap w', OwnInts w' base (.slice (some ⟨g, 0, none⟩) (l.length + 1) cap) (l ++ [n]) → wr.grownBy w' v.ownBlock → K (a.put o.dst (.slice (some ⟨g, 0, none⟩) (l.length + 1) cap)) w') :
    if Region.wanted o (yielded ops a.tmps) = true then Oper.wp Tryd.prog o a (wr.alloc (.cells #[.int .i64 n] 3)) K Q else E' := by
  obtain ⟨i0, hi, hz0, hz1, hz2⟩ := info_parts infoInt
  have hx : a.eval x = .slice (some ⟨wr.heap.size, 0, none⟩) 1 1 := by rw [hH]; exact hx'
  refine step_append_lies _ hgd s x 30 ho base 3 i0 (.int .i64 0) 1 8 Tryd.underlying30 hi hz0 hz1 hz2 rfl (by decide) v l.length (l.map (Value.int .i64)) hs (hown.kept ((Ext.refl wr).alloc _)) ⟨wr.heap.size, 0, none⟩ 1 1 [.int .i64 n] hx rfl (cell_one_new _ _ _) (fun u hu => by simp at hu; subst hu; rfl) (by decide) ?_ ?_ ?_ (wr.heap.size + 1) (by simp) ?_
  · unfold maxLen; omega
  · omega
  · simp; omega
  · intro g cap w' h1 h2 _ _
    refine h g cap w' (by simpa [OwnInts] using h1) ⟨h2.os, h2.tape, h2.output, by have := h2.size; simp at this; omega, fun k hk hne => by rw [h2.block k (by simp; omega) hne]; exact Below.heap_alloc wr _ k hk⟩
theorem wp_normal {P : Program} {c : Code} {K : Act → World → Prop} {Q : Exit → Act → World → Prop} {a : Act} {w : World} (h : c.wp P (fun e a w => e = .normal ∧ K a w) a w) : c.wp P (Exit.then K Q) a w := by
  refine wp_mono h ?_
  intro e a' w' hq
  obtain ⟨rfl, hk⟩ := hq
  exact hk

/-- Only the normal end is wanted: a post that no panic meets, by reduction alone. -/
def onlyNormal (Q : Exit → Act → World → Prop) : Exit → Act → World → Prop
  | .normal => Q .normal
  | _ => fun _ _ => False
theorem wp_normal2 {P : Program} {c : Code} {Q : Exit → Act → World → Prop} {a : Act} {w : World} (h : c.wp P (onlyNormal Q) a w) : c.wp P Q a w := by
  refine wp_mono h ?_
  intro e a' w' hq
  cases e <;> first | exact hq | exact hq.elim
theorem grown_alloc {W W' : World} {o : Obj} {row : Option Nat} (h : (W.alloc o).grownBy W' row) : W.grownBy W' row :=
  ⟨h.os, h.tape, h.output, by have := h.size; simp at this; omega, fun k hk hne => (h.block k (by simp; omega) hne).trans (Below.heap_alloc W _ k hk)⟩
theorem infoRow : (Tryd.prog.info? 30).map (fun i => (i.zero, i.size, i.bytes)) = some (some (.slice none 0 0), 1, 24) := by kernel_rfl
/-- A slice's value. -/
def isSl (u : Value) : Prop := ∃ p q r, u = .slice p q r
theorem OwnInts.isSl {w : World} {base : Nat} {v : Value} {l : List Int} (h : OwnInts w base v l) : isSl v := by
  rcases h.2 with ⟨e, _⟩ | ⟨g, cap, cur, e, _⟩ <;> exact ⟨_, _, _, e⟩
theorem Ints.isSl {w : World} {v : Value} {l : List Int} (h : Ints w v l) : isSl v := by
  obtain ⟨a, c, e⟩ := SliceAt.shape h; exact ⟨_, _, _, e⟩
/-- A slice of slices of the call's own: what values it holds. -/
def OwnL (w : World) (base : Nat) (v : Value) (vs : List Value) : Prop := w.ownsRow base 30 1 v vs.length vs ∧ ∀ u ∈ vs, isSl u
theorem OwnL.nil (w : World) (base : Nat) : OwnL w base (.slice none 0 0) [] := ⟨⟨rfl, .inl ⟨rfl, rfl⟩⟩, by simp⟩
theorem OwnL.shape {w : World} {base : Nat} {v : Value} {vs : List Value} (h : OwnL w base v vs) : ∃ a c, v = .slice a vs.length c := by
  rcases h.1.2 with ⟨e, hl⟩ | ⟨g, cap, cur, e, _⟩
  · rw [hl]; exact ⟨_, _, e⟩
  · exact ⟨_, _, e⟩
theorem OwnL.typed {w : World} {base : Nat} {v : Value} {vs : List Value} (h : OwnL w base v vs) (k : Nat) (hk : v.ownBlock = some k) : base ≤ k ∧ ∃ cs, w.heap[k]? = some (.cells cs 30 (0, 0)) := by
  rcases h.1.2 with ⟨rfl, _⟩ | ⟨g, cap, cur, rfl, hg, hh, _⟩
  · cases hk
  · cases hk; exact ⟨hg, _, hh⟩
theorem OwnL.keep {w w' : World} {base : Nat} {v : Value} {vs : List Value} (h : OwnL w base v vs) (hk : ∀ k, v.ownBlock = some k → w'.heap[k]? = w.heap[k]?) : OwnL w' base v vs := by
  obtain ⟨⟨h1, h2⟩, hs⟩ := h
  refine ⟨⟨h1, ?_⟩, hs⟩
  rcases h2 with h2 | ⟨g, cap, cur, hv, hg, hh, r⟩
  · exact .inl h2
  · exact .inr ⟨g, cap, cur, hv, hg, by rw [hk g (by rw [hv]; rfl)]; exact hh, r⟩
theorem OwnL.kept {w w' : World} {base : Nat} {v : Value} {vs : List Value} (h : OwnL w base v vs) (hx : Ext w w') : OwnL w' base v vs :=
  h.keep fun k hk => by obtain ⟨_, cs, hc⟩ := h.typed k hk; exact hx.block k (lt_heap hc)
/-- Its cells. -/
theorem OwnL.cell {w : World} {base : Nat} {a : Option Addr} {n c : Nat} {vs : List Value} (h : OwnL w base (.slice a n c) vs) {i : Nat} (hi : i < vs.length) : ∃ g, a = some ⟨g, 0, none⟩ ∧ base ≤ g ∧ w.cell? ⟨g, i, none⟩ = some vs[i] := by
  rcases h.1.2 with ⟨e, hl⟩ | ⟨g, cap, cur, e, hg, hh, hn, hc, hs, ht⟩
  · rw [hl] at hi; simp at hi
  · cases e
    refine ⟨g, rfl, hg, ?_⟩
    have := congrArg (fun x => x[i]?) ht
    simp only [List.getElem?_take, if_pos (show i < vs.length * 1 by omega)] at this
    simp only [World.cell?, hh]
    simpa [hi] using this
/-- It reads as lists, if its values do. -/
theorem OwnL.lists {w : World} {base : Nat} {v : Value} {vs : List Value} {l : List (List Int)} (h : OwnL w base v vs) (hl : vs.length = l.length) (he : ∀ i (h1 : i < vs.length) (h2 : i < l.length), Ints w vs[i] l[i]) : Lists w v l := by
  obtain ⟨a, c, e⟩ := h.shape
  subst e
  rcases h.1.2 with ⟨e, hn⟩ | ⟨g, cap, cur, e, hg, hh, hn, hc, hs, ht⟩
  · left
    rw [hn] at hl
    exact ⟨⟨_, _, by rw [hn]⟩, List.length_eq_zero_iff.1 hl.symm⟩
  · right
    cases e
    refine ⟨g, 0, c, by rw [hl], by unfold maxLen at hc; omega, fun i hi => ?_⟩
    obtain ⟨g', e, _, hcell⟩ := h.cell (i := i) (by omega)
    cases e
    rw [Nat.mul_one, Nat.zero_add]
    exact ⟨_, hcell, he i (by omega) hi⟩
/-- A slice appended. -/
theorem wpList_append_row {ops : Array Oper} {rest : List Oper} {o : Oper} {a : Act} {Q : Exit → Act → World → Prop} (hgd : o.guard = none) (s x : Operand)
    (ho : o.op = .call { callee := .builtin .append, args := #[s, x], argTypes := #[22, 22] }) (base : Nat) (wr : World) (v : Value) (vs : List Value) (u : Value)
    (hs : a.eval s = v) (hx : a.eval x = .slice (some ⟨wr.heap.size, 0, none⟩) 1 1) (hown : OwnL wr base v vs) (hu : isSl u) (hl : vs.length ≤ 1000000) (hb : base ≤ wr.heap.size)
    (h : ∀ v' w', OwnL w' base v' (vs ++ [u]) → wr.grownBy w' v.ownBlock → wpList Tryd.prog ops Q rest (a.put o.dst v') w') : wpList Tryd.prog ops Q (o :: rest) a (wr.alloc (.cells #[u] 30)) := by
  obtain ⟨i0, hi, hz0, hz1, hz2⟩ := info_parts infoRow
  obtain ⟨hown, hsl⟩ := hown
  refine wpList_append_own _ hgd s x 22 ho base 30 i0 (.slice none 0 0) 1 24 Tryd.underlying22 hi hz0 hz1 hz2 rfl (by decide) v vs.length vs hs (World.ownsRow.alloc hown _) ⟨wr.heap.size, 0, none⟩ 1 1 [u] hx rfl (cell_one_new _ _ _) ?_ (by unfold maxLen; omega) (by omega) (by simp; omega) ?_
  · intro y hy
    obtain ⟨p, q, r, rfl⟩ := hu
    simp at hy; subst hy; rfl
  · intro v' w' k1 k2 _
    refine h v' w' ⟨by simpa using k1, fun y hy => ?_⟩ (grown_alloc k2)
    rcases List.mem_append.1 hy with g | g
    · exact hsl y g
    · rw [List.mem_singleton] at g; subst g; exact hu
/-- A slice appended, in a region that draws its order. -/
theorem step_append_row {ops : Array Oper} {o : Oper} {a : Act} {K : Act → World → Prop} {Q : Exit → Act → World → Prop} {E' : Prop} (hgd : o.guard = none) (s x : Operand)
    (ho : o.op = .call { callee := .builtin .append, args := #[s, x], argTypes := #[22, 22] }) (base : Nat) (wr : World) (H : Nat) (hH : wr.heap.size = H) (v : Value) (vs : List Value) (u : Value)
    (hs : a.eval s = v) (hx' : a.eval x = .slice (some ⟨H, 0, none⟩) 1 1) (hown : OwnL wr base v vs) (hu : isSl u) (hl : vs.length ≤ 1000000) (hb : base ≤ wr.heap.size)
    (h : ∀ g cap w', OwnL w' base (.slice (some ⟨g, 0, none⟩) (vs.length + 1) cap) (vs ++ [u]) → wr.grownBy w' v.ownBlock → K (a.put o.dst (.slice (some ⟨g, 0, none⟩) (vs.length + 1) cap)) w') :
    if Region.wanted o (yielded ops a.tmps) = true then Oper.wp Tryd.prog o a (wr.alloc (.cells #[u] 30)) K Q else E' := by
  obtain ⟨i0, hi, hz0, hz1, hz2⟩ := info_parts infoRow
  obtain ⟨hown, hsl⟩ := hown
  have hx : a.eval x = .slice (some ⟨wr.heap.size, 0, none⟩) 1 1 := by rw [hH]; exact hx'
  refine step_append_lies _ hgd s x 22 ho base 30 i0 (.slice none 0 0) 1 24 Tryd.underlying22 hi hz0 hz1 hz2 rfl (by decide) v vs.length vs hs (World.ownsRow.alloc hown _) ⟨wr.heap.size, 0, none⟩ 1 1 [u] hx rfl (cell_one_new _ _ _) ?_ (by decide) ?_ ?_ ?_ (wr.heap.size + 1) (by simp) ?_
  · intro y hy
    obtain ⟨p, q, r, rfl⟩ := hu
    simp at hy; subst hy; rfl
  · unfold maxLen; omega
  · omega
  · simp; omega
  · intro g cap w' k1 k2 _ _
    refine h g cap w' ⟨by simpa using k1, fun y hy => ?_⟩ (grown_alloc k2)
    rcases List.mem_append.1 hy with g | g
    · exact hsl y g
    · rw [List.mem_singleton] at g; subst g; exact hu
end Go.Proofs.YtnkhaobokmmnjaaDoor
