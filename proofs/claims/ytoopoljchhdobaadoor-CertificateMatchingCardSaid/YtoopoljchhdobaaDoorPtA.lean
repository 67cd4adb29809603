/-
  Slices of steps of the call's own; appends; what the second half of Trim keeps.
-/
import Derived.Test.YtoopoljchhdobaaDoorPq1
import Derived.Laws.Rows
import Derived.Laws.Tables
import Derived.Sort.CutIn
import Derived.Deep.AppendLies
import Derived.Deep.RegionHeld3
import Derived.Deep.OwnRows
import Derived.RangeFuncOwn
import Derived.Lib.AppendZerosOnto
import Derived.Lib.Walk
import Derived.Maps.AppendAt
namespace Go.Proofs.YtoopoljchhdobaaDoor
open Go.RowKit Go.Shelf
attribute [local go_sem] Oper.semAt_some

theorem lt_heap {w : World} {b : Nat} {o : Obj} (h : w.heap[b]? = some o) : b < w.heap.size := (Array.getElem?_eq_some_iff.1 h).1
theorem own_lt {w : World} {base : Nat} {v : Value} {l : List Int} (h : OwnInts w base v l) (k : Nat) (hk : v.ownBlock = some k) : k < w.heap.size := by
  rcases h.2 with ⟨rfl, _⟩ | ⟨g, cap, cur, rfl, hg, hh, _⟩
  · cases hk
  · cases hk; exact lt_heap hh
theorem OwnInts.keep {w w' : World} {base : Nat} {v : Value} {l : List Int} (h : OwnInts w base v l) (hk : ∀ k, v.ownBlock = some k → w'.heap[k]? = w.heap[k]?) : OwnInts w' base v l := by
  obtain ⟨h1, h2⟩ := h
  refine ⟨h1, ?_⟩
  rcases h2 with h2 | ⟨g, cap, cur, hv, hg, hh, r⟩
  · exact .inl h2
  · exact .inr ⟨g, cap, cur, hv, hg, by rw [hk g (by rw [hv]; rfl)]; exact hh, r⟩
theorem OwnInts.mono {w : World} {base base' : Nat} {v : Value} {l : List Int} (h : OwnInts w base v l) (hb : base' ≤ base) : OwnInts w base' v l := by
  obtain ⟨h1, h2⟩ := h
  refine ⟨h1, ?_⟩
  rcases h2 with h2 | ⟨g, cap, cur, hv, hg, r⟩
  · exact .inl h2
  · exact .inr ⟨g, cap, cur, hv, by omega, r⟩
theorem OwnInts.typed {w : World} {base : Nat} {v : Value} {l : List Int} (h : OwnInts w base v l) (k : Nat) (hk : v.ownBlock = some k) : ∃ cs, w.heap[k]? = some (.cells cs 3 (0, 0)) := by
  rcases h.2 with ⟨rfl, _⟩ | ⟨g, cap, cur, rfl, hg, hh, _⟩
  · cases hk
  · cases hk; exact ⟨_, hh⟩
theorem grown_other {W W' : World} {row : Option Nat} (hg : W.grownBy W' row) (hr : ∀ r, row = some r → ∃ o : Obj, W.heap[r]? = some o ∧ o.isCells = false) (k : Nat) (o : Obj) (hk : W.heap[k]? = some o) (ho : o.isCells = true) : W'.heap[k]? = W.heap[k]? :=
  hg.block k (lt_heap hk) fun e => by
    obtain ⟨o', h1, h2⟩ := hr k e.symm
    rw [hk] at h1; cases h1; rw [ho] at h2; cases h2
/-- Nothing appended. -/
theorem append_nothing {w : World} {base : Nat} {v : Value} {l : List Int} (h : OwnInts w base v l) (ty : TypeId) (c : Nat) : (Builtin.append_ #[23, 23] ty #[v, .slice none 0 c]).run Tryd.prog w = .ok v w := by
  obtain ⟨i0, hi, hz0, hz1, hz2⟩ := info_parts infoInt
  have hu : Tryd.prog.underlying 23 = some (.slice 3) := Tryd.underlying23
  rcases h.2 with ⟨rfl, _⟩ | ⟨g, cap, cur, rfl, _, _, hn, _⟩
  · simp [Builtin.append_, run_underlying hu, sizeOf, typeInfo, hi, Builtin.lenOf, Builtin.firstCells]
  · simp [Builtin.append_, run_underlying hu, sizeOf, typeInfo, hi, Builtin.lenOf, Builtin.firstCells, hn, storeCells]
theorem wpList_append_list {ops : Array Oper} {rest : List Oper} {o : Oper} {a : Act} {w : World} {Q : Exit → Act → World → Prop} (hgd : o.guard = none) (s x : Operand)
    (ho : o.op = .call { callee := .builtin .append, args := #[s, x], argTypes := #[23, 23] }) (base : Nat) (v src : Value) (l l2 : List Int)
    (hs : a.eval s = v) (hx : a.eval x = src) (hown : OwnInts w base v l) (hsrc : Ints w src l2) (hl : l.length + l2.length ≤ 1000000000) (hb : base ≤ w.heap.size)
    (h : ∀ v' w', OwnInts w' base v' (l ++ l2) → w.grownBy w' v.ownBlock → wpList Tryd.prog ops Q rest (a.put o.dst v') w') : wpList Tryd.prog ops Q (o :: rest) a w := by
  obtain ⟨i0, hi, hz0, hz1, hz2⟩ := info_parts infoInt
  have key : ∀ (ad : Addr) (c : Nat), src = .slice (some ad) l2.length c → (∀ j u, (l2.map (Value.int .i64))[j]? = some u → w.cell? (ad.add j) = some u) → wpList Tryd.prog ops Q (o :: rest) a w := fun ad c he hn =>
    wpList_append_own _ hgd s x 23 ho base 3 i0 (.int .i64 0) 1 8 Tryd.underlying23 hi hz0 hz1 hz2 rfl (by decide) v l.length (l.map (Value.int .i64)) hs hown ad l2.length c (l2.map (Value.int .i64)) (hx.trans he) (by simp) hn
      (fun u hu => by obtain ⟨y, _, rfl⟩ := List.mem_map.1 hu; rfl) (by unfold maxLen; omega) (by omega) hb fun v' w' h1 h2 _ => h v' w' (by simpa [OwnInts] using h1) h2
  rcases hsrc with ⟨⟨A, c, rfl⟩, rfl⟩ | ⟨b, of, cap, rfl, hm, hc⟩
  · cases A with
    | some ad => exact key ad c rfl (fun j u hu => by simp at hu)
    | none =>
      refine wpList_plain hgd fun K hK => ?_
      unfold Oper.wp execOp
      simp only [ho, resolve, invoke, builtin, Sem.run_bind, Sem.run_pure, Result.andThen_ok, List.map_toArray, List.map_cons, List.map_nil, hs, hx, append_nothing hown]
      exact hK _ _ (h v w (by simpa using hown) (World.grownBy.refl w _))
  · refine key ⟨b, of, none⟩ cap rfl fun j u hu => ?_
    have hj : j < l2.length := by
      have := (List.getElem?_eq_some_iff.1 hu).1; simpa using this
    have hadd : (⟨b, of, none⟩ : Addr).add j = ⟨b, of + j, none⟩ := by unfold Addr.add; split <;> simp_all
    have := hc j hj
    rw [Nat.mul_one] at this
    rw [hadd]
    have e : u = .int .i64 l2[j] := by simpa [hj] using hu.symm
    rw [e]; exact this
/-- An int appended to a row of the call's own, in a region that draws its order. -/
theorem step_append_int {ops : Array Oper} {o : Oper} {a : Act} {K : Act → World → Prop} {Q : Exit → Act → World → Prop} {E' : Prop} (hgd : o.guard = none) (s x : Operand)
    (ho : o.op = .call { callee := .builtin .append, args := #[s, x], argTypes := #[23, 23] }) (base : Nat) (wr : World) (H : Nat) (hH : wr.heap.size = H) (v : Value) (l : List Int) (n : Int)
    (hs : a.eval s = v) (hx' : a.eval x = .slice (some ⟨H, 0, none⟩) 1 1) (hown : OwnInts wr base v l) (hl : l.length ≤ 1000000000) (hb : base ≤ wr.heap.size)
    (h : ∀ g cap w', OwnInts w' base (.slice (some ⟨g, 0, none⟩) (l.length + 1) cap) (l ++ [n]) → wr.grownBy w' v.ownBlock → K (a.put o.dst (.slice (some ⟨g, 0, none⟩) (l.length + 1) cap)) w') :
    if Region.wanted o (yielded ops a.tmps) = true then Oper.wp Tryd.prog o a (wr.alloc (.cells #[.int .i64 n] 3)) K Q else E' := by
  obtain ⟨i0, hi, hz0, hz1, hz2⟩ := info_parts infoInt
  have hx : a.eval x = .slice (some ⟨wr.heap.size, 0, none⟩) 1 1 := by rw [hH]; exact hx'
  refine step_append_lies _ hgd s x 23 ho base 3 i0 (.int .i64 0) 1 8 Tryd.underlying23 hi hz0 hz1 hz2 rfl (by decide) v l.length (l.map (Value.int .i64)) hs (hown.kept ((Ext.refl wr).alloc _)) ⟨wr.heap.size, 0, none⟩ 1 1 [.int .i64 n] hx rfl (cell_one_new _ _ _) (fun u hu => by simp at hu; subst hu; rfl) (by decide) ?_ ?_ ?_ (wr.heap.size + 1) (by simp) ?_
  · unfold maxLen; omega
  · omega
  · simp; omega
  · intro g cap w' h1 h2 _ _
    refine h g cap w' (by simpa [OwnInts] using h1) ⟨h2.os, h2.tape, h2.output, by have := h2.size; simp at this; omega, fun k hk hne => by rw [h2.block k (by simp; omega) hne]; exact Below.heap_alloc wr _ k hk⟩
theorem wp_normal {P : Program} {c : Code} {K : Act → World → Prop} {Q : Exit → Act → World → Prop} {a : Act} {w : World} (h : c.wp P (fun e a w => e = .normal ∧ K a w) a w) : c.wp P (Exit.then K Q) a w := by
  refine wp_mono h ?_
  intro e a' w' hq
  obtain ⟨rfl, hk⟩ := hq
  exact hk

/-- Only the normal end is wanted: a post that no panic meets, by reduction alone. -/
def onlyNormal (Q : Exit → Act → World → Prop) : Exit → Act → World → Prop
  | .normal => Q .normal
  | _ => fun _ _ => False
theorem wp_normal2 {P : Program} {c : Code} {Q : Exit → Act → World → Prop} {a : Act} {w : World} (h : c.wp P (onlyNormal Q) a w) : c.wp P Q a w := by
  refine wp_mono h ?_
  intro e a' w' hq
  cases e <;> first | exact hq | exact hq.elim
theorem cells_two_new (w : World) (x y : Value) (t : TypeId) : ∀ j u, [x, y][j]? = some u → (w.alloc (.cells #[x, y] t)).cell? ((⟨w.heap.size, 0, none⟩ : Addr).add j) = some u := by
  intro j u hj
  have hh : (w.alloc (.cells #[x, y] t)).heap[w.heap.size]? = some (.cells #[x, y] t (0, 0)) := heap_new _ _
  have hadd : (⟨w.heap.size, 0, none⟩ : Addr).add j = ⟨w.heap.size, j, none⟩ := by unfold Addr.add; split <;> simp_all
  rw [hadd, cell_of_row _ _ _ _ _ _ hh]
  simpa using hj
theorem grown_alloc {W W' : World} {o : Obj} {row : Option Nat} (h : (W.alloc o).grownBy W' row) : W.grownBy W' row :=
  ⟨h.os, h.tape, h.output, by have := h.size; simp at this; omega, fun k hk hne => (h.block k (by simp; omega) hne).trans (Below.heap_alloc W _ k hk)⟩


theorem infoLearn : (Tryd.prog.info? 54).map (fun i => (i.zero, i.size, i.bytes)) = some (some (.agg #[.slice none 0 0, .slice none 0 0]), 2, 48) := by kernel_rfl
/-- The slices of steps, one behind the other. -/
def flatV (vs : List (Value × Value)) : List Value := vs.flatMap fun p => [p.1, p.2]
theorem flatV_len (P : List (Value × Value)) : (flatV P).length = P.length * 2 := by
  induction P with
  | nil => rfl
  | cons a r ih => simp only [flatV, List.flatMap_cons, List.length_append, List.length_cons] at *; rw [ih]; simp; omega
theorem flatV_get (P : List (Value × Value)) (i : Nat) (h : i < P.length) : (flatV P)[i * 2]? = some P[i].1 ∧ (flatV P)[i * 2 + 1]? = some P[i].2 := by
  induction P generalizing i with
  | nil => simp at h
  | cons a r ih =>
    cases i with
    | zero => exact ⟨rfl, rfl⟩
    | succ i =>
      have := ih i (by simpa using h)
      have e1 : (i + 1) * 2 = i * 2 + 2 := by omega
      have e2 : i * 2 + 2 + 1 = i * 2 + 1 + 2 := by omega
      rw [e1, e2]
      simpa [flatV, List.flatMap_cons] using this
theorem flatV_snoc (P : List (Value × Value)) (p : Value × Value) : flatV (P ++ [p]) = flatV P ++ [p.1, p.2] := by simp [flatV]
/-- The values of steps: slices of the call's own, from 'base' on. -/
def ElemsO (w : World) (base : Nat) : List (Value × Value) → List St → Prop
  | [], [] => True
  | p :: r, s :: t => (OwnInts w base p.1 s.lits ∧ OwnInts w base p.2 s.hints) ∧ ElemsO w base r t
  | _, _ => False
theorem ElemsO.len {w : World} {base : Nat} : ∀ {vs : List (Value × Value)} {l : List St}, ElemsO w base vs l → vs.length = l.length
  | [], [], _ => rfl
  | _ :: _, _ :: _, h => by simp [h.2.len]
  | [], _ :: _, h => h.elim
  | _ :: _, [], h => h.elim
theorem ElemsO.snoc {w : World} {base : Nat} {p : Value × Value} {s : St} (h1 : OwnInts w base p.1 s.lits) (h2 : OwnInts w base p.2 s.hints) : ∀ {vs : List (Value × Value)} {l : List St}, ElemsO w base vs l → ElemsO w base (vs ++ [p]) (l ++ [s])
  | [], [], _ => ⟨⟨h1, h2⟩, trivial⟩
  | _ :: _, _ :: _, h => ⟨h.1, h.2.snoc h1 h2⟩
  | [], _ :: _, h => h.elim
  | _ :: _, [], h => h.elim
theorem ElemsO.at {w : World} {base : Nat} : ∀ {vs : List (Value × Value)} {l : List St}, ElemsO w base vs l → ∀ i (h1 : i < vs.length) (h2 : i < l.length), OwnInts w base vs[i].1 l[i].lits ∧ OwnInts w base vs[i].2 l[i].hints
  | _ :: _, _ :: _, h, 0, _, _ => h.1
  | _ :: _, _ :: _, h, i + 1, h1, h2 => h.2.at i (by simpa using h1) (by simpa using h2)
/-- Kept where all blocks of ints from 'base' on are as they were. -/
theorem ElemsO.keep {w w' : World} {base : Nat} (hk : ∀ k cs, base ≤ k → w.heap[k]? = some (.cells cs 3 (0, 0)) → w'.heap[k]? = w.heap[k]?) : ∀ {vs : List (Value × Value)} {l : List St}, ElemsO w base vs l → ElemsO w' base vs l
  | [], [], _ => trivial
  | _ :: _, _ :: _, h => ⟨⟨h.1.1.keep fun k e => by obtain ⟨cs, hc⟩ := h.1.1.typed k e; exact hk k cs (h.1.1.base k e) hc, h.1.2.keep fun k e => by obtain ⟨cs, hc⟩ := h.1.2.typed k e; exact hk k cs (h.1.2.base k e) hc⟩, h.2.keep hk⟩
  | [], _ :: _, h => h.elim
  | _ :: _, [], h => h.elim
/-- A slice of steps of the call's own. -/
def OwnSteps (w : World) (base : Nat) (v : Value) (l : List St) : Prop := ∃ vs, w.ownsRow base 54 2 v l.length (flatV vs) ∧ ElemsO w base vs l
theorem OwnSteps.nil (w : World) (base : Nat) : OwnSteps w base (.slice none 0 0) [] := ⟨[], ⟨rfl, .inl ⟨rfl, rfl⟩⟩, trivial⟩
theorem OwnSteps.typed {w : World} {base : Nat} {v : Value} {l : List St} (h : OwnSteps w base v l) (k : Nat) (hk : v.ownBlock = some k) : base ≤ k ∧ ∃ cs, w.heap[k]? = some (.cells cs 54 (0, 0)) := by
  obtain ⟨vs, h, _⟩ := h
  rcases h.2 with ⟨rfl, _⟩ | ⟨g, cap, cur, rfl, hg, hh, _⟩
  · cases hk
  · cases hk; exact ⟨hg, _, hh⟩
/-- It reads as the steps. -/
theorem OwnSteps.steps {w : World} {base : Nat} {v : Value} {l : List St} (h : OwnSteps w base v l) : Steps w v l := by
  obtain ⟨vs, ⟨_, h2⟩, he⟩ := h
  have hlen := he.len
  rcases h2 with ⟨rfl, hl⟩ | ⟨g, cap, cur, rfl, _, hh, hn, hc, hs, ht⟩
  · exact .inl ⟨⟨_, _, rfl⟩, List.length_eq_zero_iff.1 hl⟩
  · refine .inr ⟨g, 0, cap, rfl, by unfold maxLen at hc; omega, fun i hi => ?_⟩
    have e : ∀ j, j < l.length * 2 → cur[j]? = (flatV vs)[j]? := fun j hj => by
      have := congrArg (fun x => x[j]?) ht
      simp only [List.getElem?_take, if_pos hj] at this
      simpa using this
    have hf := flatV_get vs i (by omega)
    obtain ⟨a1, a2⟩ := he.at i (by omega) hi
    refine ⟨_, _, ?_, ?_, a1.ints, a2.ints⟩
    · simp only [World.cell?, hh, Nat.zero_add]; rw [e (i * 2) (by omega)]; exact hf.1
    · simp only [World.cell?, hh, Nat.zero_add]; rw [e (i * 2 + 1) (by omega)]; exact hf.2
/-- Kept where its row and all blocks of ints from 'base' on are as they were. -/
theorem OwnSteps.keep {w w' : World} {base : Nat} {v : Value} {l : List St} (h : OwnSteps w base v l) (hk : ∀ k, base ≤ k → k < w.heap.size → w'.heap[k]? = w.heap[k]?) : OwnSteps w' base v l := by
  have hT := h.typed
  obtain ⟨vs, ⟨h1, h2⟩, he⟩ := h
  refine ⟨vs, ⟨h1, ?_⟩, he.keep fun k cs hb hc => hk k hb (lt_heap hc)⟩
  rcases h2 with h2 | ⟨g, cap, cur, hv, hg, hh, r⟩
  · exact .inl h2
  · obtain ⟨hb, cs, hc⟩ := hT g (by rw [hv]; rfl)
    exact .inr ⟨g, cap, cur, hv, hg, by rw [hk g hb (lt_heap hc)]; exact hh, r⟩
theorem OwnSteps.kept {w w' : World} {base : Nat} {v : Value} {l : List St} (h : OwnSteps w base v l) (hx : Ext w w') : OwnSteps w' base v l := h.keep fun k _ hk => hx.block k hk
/-- A step appended. -/
theorem wpList_append_step {ops : Array Oper} {rest : List Oper} {o : Oper} {a : Act} {Q : Exit → Act → World → Prop} (hgd : o.guard = none) (s x : Operand)
    (ho : o.op = .call { callee := .builtin .append, args := #[s, x], argTypes := #[22, 22] }) (base : Nat) (wr : World) (v : Value) (l : List St) (v1 v2 : Value) (st : St)
    (hs : a.eval s = v) (hx : a.eval x = .slice (some ⟨wr.heap.size, 0, none⟩) 1 1) (hown : OwnSteps wr base v l) (h1 : OwnInts wr base v1 st.lits) (h2 : OwnInts wr base v2 st.hints) (hl : l.length ≤ 1000000) (hb : base ≤ wr.heap.size)
    (h : ∀ v' w', OwnSteps w' base v' (l ++ [st]) → wr.grownBy w' v.ownBlock → wpList Tryd.prog ops Q rest (a.put o.dst v') w') : wpList Tryd.prog ops Q (o :: rest) a (wr.alloc (.cells #[v1, v2] 54)) := by
  obtain ⟨i0, hi, hz0, hz1, hz2⟩ := info_parts infoLearn
  have hT := hown.typed
  obtain ⟨vs, hown, he⟩ := hown
  have hlen := he.len
  have hsl1 : ∃ p q r, v1 = .slice p q r := by rcases h1.2 with ⟨e, _⟩ | ⟨g, cap, cur, e, _⟩ <;> exact ⟨_, _, _, e⟩
  have hsl2 : ∃ p q r, v2 = .slice p q r := by rcases h2.2 with ⟨e, _⟩ | ⟨g, cap, cur, e, _⟩ <;> exact ⟨_, _, _, e⟩
  refine wpList_append_own _ hgd s x 22 ho base 54 i0 (.agg #[.slice none 0 0, .slice none 0 0]) 2 48 Tryd.underlying22 hi hz0 hz1 hz2 rfl (by decide) v l.length (flatV vs) hs (World.ownsRow.alloc hown _) ⟨wr.heap.size, 0, none⟩ 1 1 [v1, v2] hx rfl (cells_two_new _ _ _ _) ?_ (by unfold maxLen; omega) (by omega) (by simp; omega) ?_
  · intro u hu
    obtain ⟨p, q, r, rfl⟩ := hsl1; obtain ⟨p', q', r', rfl⟩ := hsl2
    simp at hu
    rcases hu with rfl | rfl <;> rfl
  · intro v' w' k1 k2 _
    have hg := grown_alloc k2
    have key : ∀ k cs, base ≤ k → wr.heap[k]? = some (.cells cs 3 (0, 0)) → w'.heap[k]? = wr.heap[k]? := fun k cs _ hc => hg.block k (lt_heap hc) fun e => by
      obtain ⟨_, cs', hc'⟩ := hT k e.symm
      rw [hc] at hc'; cases hc'
    refine h v' w' ⟨vs ++ [(v1, v2)], ?_, (he.keep key).snoc (p := (v1, v2)) (s := st) (h1.keep fun k e => by obtain ⟨cs, hc⟩ := h1.typed k e; exact key k cs (h1.base k e) hc) (h2.keep fun k e => by obtain ⟨cs, hc⟩ := h2.typed k e; exact key k cs (h2.base k e) hc)⟩ hg
    rw [flatV_snoc, List.length_append]; exact k1

end Go.Proofs.YtoopoljchhdobaaDoor
