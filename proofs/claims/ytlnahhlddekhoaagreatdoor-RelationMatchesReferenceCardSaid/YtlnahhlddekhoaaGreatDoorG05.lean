/-
  The walk of rebuild, once for each function that is handed to it. (Written by wip/gen_rebuild.py.)
  The walks of clone, Before.
  The walks of the reference's deep, Formed, Same, Const, Cell, Two.
-/
import Derived.Test.YtlnahhlddekhoaaGreatDoorG04
import Derived.Test.YtlnahhlddekhoaaGreatDoorG02
namespace Go.Proofs.YtlnahhlddekhoaaGreatDoor
open Go.RowKit

mutual
/-- The nodes without kids are replaced. -/
def E.rebuild (f : E → E) : E → E
  | .mk op wd n ks => if ks = [] then f (.mk op wd n ks) else .mk op wd n (rebuildAll f ks)
def rebuildAll (f : E → E) : List E → List E
  | [] => []
  | e :: r => e.rebuild f :: rebuildAll f r
end
theorem rebuildAll_eq (f : E → E) (ks : List E) : rebuildAll f ks = ks.map (E.rebuild f) := by
  induction ks with
  | nil => rfl
  | cons e r ih => simp [rebuildAll, ih]
theorem rebuild_nil (f : E → E) {op wd n : Int} : (E.mk op wd n []).rebuild f = f (.mk op wd n []) := by simp [E.rebuild]
theorem rebuild_cons (f : E → E) {op wd n : Int} {ks : List E} (h : ks ≠ []) : (E.mk op wd n ks).rebuild f = .mk op wd n (ks.map (E.rebuild f)) := by simp [E.rebuild, h, rebuildAll_eq]
theorem length_le_sizeAll (ks : List E) : ks.length ≤ sizeAll ks := by
  induction ks with
  | nil => simp [sizeAll]
  | cons e r ih => simp only [sizeAll, List.length_cons]; have := e.size_pos; omega

theorem infoExpr : (Tryz.prog.info? 26).map (fun i => (i.zero, i.size, i.bytes)) = some (some (.agg #[.int .i64 0, .int .i64 0, .int .i64 0, .slice none 0 0]), 4, 48) := by kernel_rfl

/-- A block of expressions that a call fills: n of them, the first k as the list says. -/
def Filled (w : World) (KB n : Nat) (l : List E) (k : Nat) : Prop :=
  (∀ (i : Nat) (h : i < l.length), i < k → IsB (KB + 1) w KB (i * 4) l[i]) ∧ ∃ cur : Array Value, w.heap[KB]? = some (.cells cur 26 (0, 0)) ∧ cur.size = n * 4

theorem Filled.cell {w : World} {KB n k : Nat} {l : List E} (h : Filled w KB n l k) (j : Nat) (hj : j < n * 4) : (∃ v, w.cell? ⟨KB, j, none⟩ = some v) ∧ w.frozen? ⟨KB, j, none⟩ = false := by
  obtain ⟨_, cur, hc, hs⟩ := h
  refine ⟨⟨cur[j]'(by omega), ?_⟩, ?_⟩
  · simp [World.cell?, hc, Array.getElem?_eq_getElem (show j < cur.size by omega)]
  · simp [World.frozen?, hc]
theorem Filled.lt {w : World} {KB n k : Nat} {l : List E} (h : Filled w KB n l k) : KB < w.heap.size := by
  obtain ⟨_, cur, hc, _⟩ := h
  rcases Nat.lt_or_ge KB w.heap.size with h' | h'
  · exact h'
  · rw [Array.getElem?_eq_none_iff.2 h'] at hc; cases hc
theorem Filled.keep {w w' : World} {KB n k : Nat} {l : List E} (h : Filled w KB n l k) (hx : AsFrom KB w w') : Filled w' KB n l k := by
  have hlt := h.lt
  obtain ⟨h1, cur, hc, hs⟩ := h
  refine ⟨fun i hi hk => ?_, cur, by rw [hx KB (Nat.le_refl _) hlt]; exact hc, hs⟩
  have hB := h1 i hi hk
  have hx1 : AsFrom (KB + 1) w w' := hx.mono (by omega)
  generalize l[i] = e at hB ⊢
  cases hB with
  | leaf c0 c1 c2 c3 => exact .leaf (hx.cell (Nat.le_refl _) c0) (hx.cell (Nat.le_refl _) c1) (hx.cell (Nat.le_refl _) c2) (hx.cell (Nat.le_refl _) c3)
  | node c0 c1 c2 c3 hl hb hk => exact .node (hx.cell (Nat.le_refl _) c0) (hx.cell (Nat.le_refl _) c1) (hx.cell (Nat.le_refl _) c2) (hx.cell (Nat.le_refl _) c3) hl hb (fun j hj => (hk j hj).keep hb hx1)

/-- One more element is stored. -/
def put4 (w : World) (KB o : Nat) (a b c d : Value) : World := (((w.setCell ⟨KB, o, none⟩ a).setCell ⟨KB, o + 1, none⟩ b).setCell ⟨KB, o + 2, none⟩ c).setCell ⟨KB, o + 3, none⟩ d
theorem put4_other {w : World} {KB o : Nat} {a b c d : Value} (p : Addr) (h : p.block ≠ KB ∨ p.off < o ∨ o + 4 ≤ p.off) : (put4 w KB o a b c d).cell? p = w.cell? p := by
  unfold put4
  rw [World.cell?_setCell_other _ _ _ _ (by intro e; subst e; simp at h; omega), World.cell?_setCell_other _ _ _ _ (by intro e; subst e; simp at h; omega), World.cell?_setCell_other _ _ _ _ (by intro e; subst e; simp at h; omega), World.cell?_setCell_other _ _ _ _ (by intro e; subst e; simp at h; omega)]
theorem set_cell_some {w : World} {p q : Addr} {u v : Value} (h : w.cell? q = some u) : ∃ u', (w.setCell p v).cell? q = some u' := cell?_setCell_some h
theorem put4_here {w : World} {KB o : Nat} {a b c d : Value} (h : ∀ j, j < 4 → ∃ v, w.cell? ⟨KB, o + j, none⟩ = some v) :
    (put4 w KB o a b c d).cell? ⟨KB, o, none⟩ = some a ∧ (put4 w KB o a b c d).cell? ⟨KB, o + 1, none⟩ = some b ∧ (put4 w KB o a b c d).cell? ⟨KB, o + 2, none⟩ = some c ∧ (put4 w KB o a b c d).cell? ⟨KB, o + 3, none⟩ = some d := by
  obtain ⟨v0, g0⟩ := h 0 (by decide)
  rw [Nat.add_zero] at g0
  obtain ⟨v1, g1⟩ := h 1 (by decide)
  obtain ⟨v2, g2⟩ := h 2 (by decide)
  obtain ⟨v3, g3⟩ := h 3 (by decide)
  unfold put4
  refine ⟨?_, ?_, ?_, ?_⟩
  · rw [World.cell?_setCell_other _ _ _ _ (by simp), World.cell?_setCell_other _ _ _ _ (by simp), World.cell?_setCell_other _ _ _ _ (by simp), World.cell?_setCell_same _ _ _ g0]
  · obtain ⟨x1, y1⟩ := set_cell_some (p := ⟨KB, o, none⟩) (v := a) g1
    rw [World.cell?_setCell_other _ _ _ _ (by simp), World.cell?_setCell_other _ _ _ _ (by simp), World.cell?_setCell_same _ _ _ y1]
  · obtain ⟨x1, y1⟩ := set_cell_some (p := ⟨KB, o, none⟩) (v := a) g2
    obtain ⟨x2, y2⟩ := set_cell_some (p := ⟨KB, o + 1, none⟩) (v := b) y1
    rw [World.cell?_setCell_other _ _ _ _ (by simp), World.cell?_setCell_same _ _ _ y2]
  · obtain ⟨x1, y1⟩ := set_cell_some (p := ⟨KB, o, none⟩) (v := a) g3
    obtain ⟨x2, y2⟩ := set_cell_some (p := ⟨KB, o + 1, none⟩) (v := b) y1
    obtain ⟨x3, y3⟩ := set_cell_some (p := ⟨KB, o + 2, none⟩) (v := c) y2
    rw [World.cell?_setCell_same _ _ _ y3]
theorem put4_heap {w : World} {KB o : Nat} {a b c d : Value} (k : Nat) (h : k ≠ KB) : (put4 w KB o a b c d).heap[k]? = w.heap[k]? := by
  unfold put4
  rw [Below.heap_setCell _ _ _ _ h, Below.heap_setCell _ _ _ _ h, Below.heap_setCell _ _ _ _ h, Below.heap_setCell _ _ _ _ h]
theorem put4_size {w : World} {KB o : Nat} {a b c d : Value} : (put4 w KB o a b c d).heap.size = w.heap.size := by simp [put4, World.setCell]
theorem setCell_block {w : World} {KB o : Nat} {v : Value} {cur : Array Value} {t : TypeId} (h : w.heap[KB]? = some (.cells cur t (0, 0))) : (w.setCell ⟨KB, o, none⟩ v).heap[KB]? = some (.cells (cur.setIfInBounds o v) t (0, 0)) := by
  simp [World.setCell, Array.getElem?_modify, h]
theorem put4_block {w : World} {KB o : Nat} {a b c d : Value} {cur : Array Value} {t : TypeId} (h : w.heap[KB]? = some (.cells cur t (0, 0))) : ∃ cur', (put4 w KB o a b c d).heap[KB]? = some (.cells cur' t (0, 0)) ∧ cur'.size = cur.size :=
  ⟨_, setCell_block (setCell_block (setCell_block (setCell_block h))), by simp⟩

theorem Filled.step {w : World} {KB n k : Nat} {l : List E} (h : Filled w KB n l k) (hk : k < l.length) (hn : l.length = n) {v : Value} (hv : KidsB (KB + 1) w v l[k].kids) :
    Filled (put4 w KB (k * 4) (.int .i64 l[k].op) (.int .i64 l[k].wd) (.int .i64 l[k].n) v) KB n l (k + 1) := by
  have hcell := h.cell
  obtain ⟨h1, cur, hc, hs⟩ := h
  have hx : AsFrom (KB + 1) w (put4 w KB (k * 4) (.int .i64 l[k].op) (.int .i64 l[k].wd) (.int .i64 l[k].n) v) := fun q hq _ => put4_heap q (by omega)
  refine ⟨fun i hi hik => ?_, ?_⟩
  · by_cases c : i = k
    · subst c
      obtain ⟨g0, g1, g2, g3⟩ := put4_here (w := w) (KB := KB) (o := i * 4) (a := .int .i64 l[i].op) (b := .int .i64 l[i].wd) (c := .int .i64 l[i].n) (d := v) (fun j hj => (hcell (i * 4 + j) (by omega)).1)
      have hv' := hv.keep hx
      generalize l[i] = e at *
      obtain ⟨op, wd, nn, ks⟩ := e
      rcases hv' with ⟨rfl, hks⟩ | ⟨b', o', cap, rfl, hl, hb, hk'⟩
      · simp at hks; subst hks; exact .leaf g0 g1 g2 g3
      · exact .node g0 g1 g2 g3 hl hb hk'
    · have hB := h1 i hi (by omega)
      have keep : ∀ j u, j < 4 → w.cell? ⟨KB, i * 4 + j, none⟩ = some u → (put4 w KB (k * 4) (.int .i64 l[k].op) (.int .i64 l[k].wd) (.int .i64 l[k].n) v).cell? ⟨KB, i * 4 + j, none⟩ = some u := by
        intro j u hj hu
        rw [put4_other _ (.inr (by simp; omega))]; exact hu
      generalize l[k] = e' at keep hx ⊢
      generalize l[i] = e at hB ⊢
      cases hB with
      | leaf c0 c1 c2 c3 => exact .leaf (keep 0 _ (by decide) c0) (keep 1 _ (by decide) c1) (keep 2 _ (by decide) c2) (keep 3 _ (by decide) c3)
      | node c0 c1 c2 c3 hl hb hk' => exact .node (keep 0 _ (by decide) c0) (keep 1 _ (by decide) c1) (keep 2 _ (by decide) c2) (keep 3 _ (by decide) c3) hl hb (fun j hj => (hk' j hj).keep hb hx)
  · obtain ⟨cur', hc', hs'⟩ := put4_block (o := k * 4) (a := .int .i64 l[k].op) (b := .int .i64 l[k].wd) (c := .int .i64 l[k].n) (d := v) hc
    exact ⟨cur', hc', by omega⟩
/-- All are stored. -/
theorem Filled.kids {w : World} {KB n cap : Nat} {l : List E} (h : Filled w KB n l l.length) (hl : l.length ≤ 9223372036854775807) : KidsB KB w (.slice (some ⟨KB, 0, none⟩) l.length cap) l :=
  .inr ⟨KB, 0, cap, rfl, hl, Nat.le_refl _, fun i hi => by rw [Nat.zero_add]; exact (h.1 i hi hi).mono (Nat.le_succ _)⟩
theorem grownBy_trans {a b c : World} {g : Option Nat} (h : a.grownBy b g) (k : b.grownBy c g) : a.grownBy c g :=
  ⟨k.os.trans h.os, k.tape.trans h.tape, k.output.trans h.output, Nat.le_trans h.size k.size, fun i hi hne => (k.block i (Nat.lt_of_lt_of_le hi h.size) hne).trans (h.block i hi hne)⟩
/-- What rebuild leaves. -/
def RPost (g : Option Nat) (f : E → E) (e : E) (acc : List E) (Inv : World → List E → Prop) (w : World) (r : Ending) (w' : World) : Prop :=
  (∃ v, r = .returned v ∧ EValB w.heap.size w' v (e.rebuild f)) ∧ w.grownBy w' g ∧ Inv w' (acc ++ e.leaves)
theorem grownBy_put4 {a w : World} {g : Option Nat} {R o : Nat} {x y z u : Value} (h : a.grownBy w g) (hR : a.heap.size ≤ R) : a.grownBy (put4 w R o x y z u) g :=
  ⟨h.os, h.tape, h.output, by rw [put4_size]; exact h.size, fun k hk hne => by rw [put4_heap k (by omega)]; exact h.block k hk hne⟩
theorem below_put4 {M : Nat} {w : World} {R o : Nat} {x y z u : Value} (hR : M ≤ R) : Below M w (put4 w R o x y z u) := by
  unfold put4
  exact ((((Below.refl M w).setCell hR _).setCell hR _).setCell hR _).setCell hR _
theorem cells_of_block {w : World} {R : Nat} {x y z u : Value} {t : TypeId} (h : w.heap[R]? = some (.cells #[x, y, z, u] t (0, 0))) :
    w.cell? ⟨R, 0, none⟩ = some x ∧ w.cell? ⟨R, 1, none⟩ = some y ∧ w.cell? ⟨R, 2, none⟩ = some z ∧ w.cell? ⟨R, 3, none⟩ = some u ∧ w.frozen? ⟨R, 0, none⟩ = false ∧ w.frozen? ⟨R, 1, none⟩ = false ∧ w.frozen? ⟨R, 2, none⟩ = false ∧ w.frozen? ⟨R, 3, none⟩ = false := by
  refine ⟨?_, ?_, ?_, ?_, ?_, ?_, ?_, ?_⟩ <;> simp [World.cell?, World.frozen?, h]
theorem put4_new {w : World} {R : Nat} {a b c d x y z u : Value} {t : TypeId} (h : w.heap[R]? = some (.cells #[a, b, c, d] t (0, 0))) : (put4 w R 0 x y z u).heap[R]? = some (.cells #[x, y, z, u] t (0, 0)) :=
  setCell_block (setCell_block (setCell_block (setCell_block h)))
theorem sizeExpr : (Tryz.prog.info? 26).map (·.size) = some 4 := by kernel_rfl
/-- What holds when rebuild has come through k kids. -/
def RLoop (g : Option Nat) (f : E → E) (acc : List E) (Inv : World → List E → Prop) (w : World) (ks : List E) (k : Nat) (wr : World) : Prop :=
  w.grownBy wr g ∧ Inv wr (acc ++ leavesAll (ks.take k)) ∧ Filled wr (w.heap.size + 1) ks.length (ks.map (E.rebuild f)) k ∧ wr.heap[w.heap.size]? = some (.cells #[.int .i64 0, .int .i64 0, .int .i64 0, .slice none 0 0] 26 (0, 0))
theorem grownBy_drew {a b : World} {g : Option Nat} (h : a.grownBy b g) : a.grownBy b.drew g := ⟨h.os, h.tape, h.output, h.size, h.block⟩
theorem Ext.grownBy {a b : World} (h : Ext a b) (g : Option Nat) : a.grownBy b g := ⟨h.os, h.tape, h.output, h.size, fun i hi _ => h.block i hi⟩



end Go.Proofs.YtlnahhlddekhoaaGreatDoor
namespace Go.Proofs.YtlnahhlddekhoaaGreatDoor
open Go.RowKit

theorem kidsB_nil (N : Nat) (w : World) : KidsB N w (.slice none 0 0) [] := .inl ⟨rfl, rfl⟩

mutual
theorem rebuild_id : (e : E) → e.rebuild E.bare = e
  | .mk op wd n ks => by
    by_cases h : ks = []
    · subst h; rw [rebuild_nil]; rfl
    · rw [rebuild_cons _ h, ← rebuildAll_eq, rebuildAll_id ks]
theorem rebuildAll_id : (ks : List E) → rebuildAll E.bare ks = ks
  | [] => rfl
  | e :: r => by rw [rebuildAll, rebuild_id e, rebuildAll_id r]
end

/-- An expression in new memory: what a call gives back. -/
def NewE (e : E) (w : World) (r : Ending) (w' : World) : Prop := (∃ v, r = .returned v ∧ EValB w.heap.size w' v e) ∧ Ext w w'
/-- After a call that may have drawn or made a block: by value, with its shape. -/
theorem EValB.shape {N : Nat} {w : World} {v : Value} {e : E} (h : EValB N w v e) : ∃ a n c, v = .agg #[.int .i64 e.op, .int .i64 e.wd, .int .i64 e.n, .slice a n c] ∧ KidsB N w (.slice a n c) e.kids := by
  obtain ⟨k, rfl, hk⟩ := h
  obtain ⟨a, c, rfl⟩ := SliceAt.shape hk.kids
  exact ⟨a, _, c, rfl, hk⟩
theorem EVal.shape {w : World} {v : Value} {e : E} (h : EVal w v e) : ∃ a n c, v = .agg #[.int .i64 e.op, .int .i64 e.wd, .int .i64 e.n, .slice a n c] ∧ Kids w (.slice a n c) e.kids := by
  obtain ⟨k, rfl, hk⟩ := h
  obtain ⟨a, c, rfl⟩ := SliceAt.shape hk
  exact ⟨a, _, c, rfl, hk⟩

theorem zeroExpr4 : (#[.int .i64 0, .int .i64 0, .int .i64 0, .slice none 0 0] : Array Value).size = 4 := rfl


end Go.Proofs.YtlnahhlddekhoaaGreatDoor
namespace Go.Proofs.YtlnahhlddekhoaaGreatDoor
open Go.RowKit

theorem deep_no {op wd n : Int} {ks : List E} {d : Nat} (h : d < 1 ∨ shapedW op wd n (ks.map E.wd) = false) : (E.mk op wd n ks).deep d = false := by
  rcases h with h | h
  · simp [E.deep]; omega
  · simp [E.deep, h]
theorem deep_no_kid {op wd n : Int} {ks : List E} {d k : Nat} (hk : k < ks.length) (h : ks[k].deep (d - 1) = false) : (E.mk op wd n ks).deep d = false := by
  cases hq : (E.mk op wd n ks).deep d with
  | false => rfl
  | true =>
    simp only [E.deep, Bool.and_eq_true] at hq
    have := (deepAll_iff _ _).1 hq.2 _ (List.getElem_mem hk)
    rw [h] at this; cases this
theorem deep_yes {op wd n : Int} {ks : List E} {d : Nat} (h1 : 1 ≤ d) (h2 : shapedW op wd n (ks.map E.wd) = true) (h3 : ∀ (i : Nat) (h : i < ks.length), ks[i].deep (d - 1) = true) : (E.mk op wd n ks).deep d = true := by
  simp only [E.deep, Bool.and_eq_true, decide_eq_true_eq]
  refine ⟨⟨h1, h2⟩, (deepAll_iff _ _).2 fun k hk => ?_⟩
  obtain ⟨i, hi, rfl⟩ := List.mem_iff_getElem.1 hk
  exact h3 i hi

set_option maxHeartbeats 2000000 in
theorem Rdeep_any (N : Nat) : ∀ (e : E) (v : Value) (w : World) (l : Int), e.size ≤ N → EVal w v e → -10000 ≤ l → l ≤ 10000 →
    Calls Tryz.prog 107 #[v, .int .i64 l] w fun r w' => r = .returned (.bool (e.deep l.toNat)) ∧ Ext w w' := by
  induction N with
  | zero => intro e v w l h; have := e.size_pos; omega
  | succ N ih =>
    intro e v w l hN he hl0 hl1
    obtain ⟨kv, rfl, hk⟩ := he
    obtain ⟨op, wd, n, ks⟩ := e
    simp only [E.op_mk, E.wd_mk, E.n_mk, E.kids_mk] at hk ⊢
    obtain ⟨a, cap, rfl⟩ := SliceAt.shape hk
    have hlen : ks.length ≤ 9223372036854775807 := SliceAt.len_le hk
    have IH := Lib.hid ih; have HK := Lib.hid hk; clear ih hk
    by_cases hl : l < 1
    · have hd : decide (l < 1) = true := by simpa using hl
      have HF : Hid ((E.mk op wd n ks).deep l.toNat = false) := deep_no (.inl (by omega))
      go_enter Tryz.func107, Tryz.ntmps107
      go_wp2_with fail
      go_ret
      exact ⟨by rw [HF.out]; rfl, (Ext.refl w).alloc _⟩
    · have hd : decide (l < 1) = false := by simpa using hl
      go_enter Tryz.func107, Tryz.ntmps107
      go_wp2_with fail
      refine (node_any (.mk op wd n ks) _ _ ⟨_, rfl, HK.out.ext ((Ext.refl w).alloc _)⟩).mono ?_
      rintro r w1 ⟨rfl, hx1⟩
      simp only [E.op_mk, E.wd_mk, E.n_mk, E.kids_mk]
      have c3' : w1.cell? ⟨w.heap.size, 3, none⟩ = some (.slice a ks.length cap) := hx1.cell (by simp)
      have HX1 := Lib.hid (((Ext.refl w).alloc _).trans hx1); clear hx1
      cases hs : shapedW op wd n (ks.map E.wd) with
      | false =>
        have HF : Hid ((E.mk op wd n ks).deep l.toNat = false) := deep_no (.inr hs)
        clear hs
        go_wp2_with fail
        go_ret
        exact ⟨by rw [HF.out]; rfl, HX1.out⟩
      | true =>
        have HS := Lib.hid hs; clear hs
        go_wp2_with fail
        go_loopw [5] (fun i wr => ∃ (k : Nat), k ≤ ks.length ∧ i = .int .i64 k ∧ Ext w1 wr ∧ ∀ (j : Nat) (h : j < ks.length), j < k → ks[j].deep (l.toNat - 1) = true) (fun i _ => ks.length - (intOf i).toNat)
        case atStart => exact ⟨0, Nat.zero_le _, rfl, Ext.refl _, fun j _ h => absurd h (Nat.not_lt_zero _)⟩
        case round =>
          obtain ⟨k, hk, rfl, hX, hR⟩ := hrel
          have c3 : wr.cell? ⟨w.heap.size, 3, none⟩ = some (.slice a ks.length cap) := hX.cell c3'
          have HX := Lib.hid hX; have HR := Lib.hid hR; clear hX hR
          by_cases hlt : k < ks.length
          · rcases HK.out with ⟨_, e⟩ | ⟨b', o', cap', e, _, hk'⟩
            · rw [e] at hlt; simp at hlt
            cases e
            have hE := (hk' k hlt).ext (HX1.out.trans HX.out)
            obtain ⟨g0, g1, g2, kv, g3, hkk⟩ := hE.cells
            obtain ⟨ka, kc, rfl⟩ := SliceAt.shape hkk
            have hin : ks[k] ∈ ks := List.getElem_mem hlt
            have hsz : ks[k].size ≤ N := by have := size_kid (op := op) (wd := wd) (n := n) hin; omega
            have HE : Hid (EVal wr (.agg #[.int .i64 ks[k].op, .int .i64 ks[k].wd, .int .i64 ks[k].n, .slice ka ks[k].kids.length kc]) ks[k]) := ⟨_, rfl, hkk⟩
            clear hkk hk' hE
            go_wp2_with fail
            refine (IH.out _ _ _ _ hsz HE.out (by omega) (by omega)).mono ?_
            rintro r w2 ⟨rfl, hx2⟩
            have HX2 := Lib.hid (HX.out.trans hx2); clear hx2
            rw [show (l - 1).toNat = l.toNat - 1 by omega]
            cases hq : ks[k].deep (l.toNat - 1) with
            | false =>
              have HF : Hid ((E.mk op wd n ks).deep l.toNat = false) := deep_no_kid hlt hq
              clear hq
              go_wp2_with fail
              go_ret
              exact ⟨by rw [HF.out]; rfl, HX1.out.trans HX2.out⟩
            | true =>
              have HQ := Lib.hid hq; clear hq
              go_wp2_with fail
              refine ⟨⟨k + 1, by omega, by go_num, HX2.out, fun j h hj => ?_⟩, by simp [intOf]; omega⟩
              by_cases c : j = k
              · subst c; exact HQ.out
              · exact HR.out j h (by omega)
          · have HF : Hid ((E.mk op wd n ks).deep l.toNat = true) := deep_yes (by omega) HS.out fun i h => HR.out i h (by omega)
            go_wp2_with fail
            go_ret
            exact ⟨by rw [HF.out]; rfl, HX1.out.trans HX.out⟩

set_option maxHeartbeats 400000 in
theorem RFormed_any (e : E) (v : Value) (w : World) (he : EVal w v e) :
    Calls Tryz.prog 82 #[v] w fun r w' => r = .returned (.bool e.wf) ∧ Ext w w' := by
  obtain ⟨kv, rfl, hk⟩ := he
  obtain ⟨a, cap, rfl⟩ := SliceAt.shape hk
  have HK := Lib.hid hk; clear hk
  go_enter Tryz.func82, Tryz.ntmps82
  go_wp2_with fail
  refine (RSize_any e.size e _ _ 601 (Nat.le_refl _) ⟨_, rfl, HK.out.ext ((Ext.refl w).alloc _)⟩ (by omega) (by omega)).mono ?_
  rintro r w1 ⟨rfl, hx1⟩
  have c0 : w1.cell? ⟨w.heap.size, 0, none⟩ = some (.int .i64 e.op) := hx1.cell (by simp)
  have c1 : w1.cell? ⟨w.heap.size, 1, none⟩ = some (.int .i64 e.wd) := hx1.cell (by simp)
  have c2 : w1.cell? ⟨w.heap.size, 2, none⟩ = some (.int .i64 e.n) := hx1.cell (by simp)
  have c3 : w1.cell? ⟨w.heap.size, 3, none⟩ = some (.slice a e.kids.length cap) := hx1.cell (by simp)
  have HX := Lib.hid (((Ext.refl w).alloc _).trans hx1)
  clear hx1
  by_cases h : e.size ≤ 600
  · have hd : decide (sizeLim e.size 601 ≤ 600) = true := by unfold sizeLim; rw [if_neg (by omega)]; simp; split <;> omega
    have HF : Hid (e.wf = e.deep 40) := by unfold Hid E.wf; simp [h]
    go_wp2_with fail
    refine (Rdeep_any e.size e _ _ 40 (Nat.le_refl _) ⟨_, rfl, HK.out.ext HX.out⟩ (by omega) (by omega)).mono ?_
    rintro r w2 ⟨rfl, hx2⟩
    have HX2 := Lib.hid (HX.out.trans hx2); clear hx2
    go_wp2_with fail
    go_ret
    exact ⟨by rw [HF.out]; rfl, HX2.out⟩
  · have hd : decide (sizeLim e.size 601 ≤ 600) = false := by unfold sizeLim; rw [if_neg (by omega)]; simp; split <;> omega
    have HF : Hid (e.wf = false) := by unfold Hid E.wf; simp [h]
    go_wp2_with fail
    go_ret
    exact ⟨by rw [HF.out]; rfl, HX.out⟩
end Go.Proofs.YtlnahhlddekhoaaGreatDoor
