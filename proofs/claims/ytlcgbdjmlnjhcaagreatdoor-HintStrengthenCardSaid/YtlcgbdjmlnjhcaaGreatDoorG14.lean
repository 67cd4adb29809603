/-
  The expression of a set of states, in plain words; slices with room.
  The walk of same; expressions in new memory.
  The walk of rebuild, once for each function that is handed to it. (Written by wip/gen_rebuild.py.)
-/
import Derived.Test.YtlcgbdjmlnjhcaaGreatDoorG13
import Derived.Test.YtlcgbdjmlnjhcaaGreatDoorG08
import Derived.RegionTactic
import Derived.BigRegion
import Derived.Test.YtlcgbdjmlnjhcaaGreatDoorG02
namespace Go.Proofs.YtlcgbdjmlnjhcaaGreatDoor
open Go.RowKit Go.Shelf
attribute [local go_sem] Oper.semAt_some

/-- The tree over the runs of the last cell. -/
def treeF (leaf : List Nat → E) (wd c : Int) : Nat → List (Nat × List Nat) → E
  | 0, _ => .mk 0 0 0 []
  | f + 1, l => if l.length = 1 then leaf (l.getD 0 (0, [])).2 else
      .mk 14 1 0 [.mk 13 1 0 [.mk 2 wd c [], .mk 1 wd (l.getD ((l.length + 1) / 2 - 1) (0, [])).1 []], treeF leaf wd c f (l.take ((l.length + 1) / 2)), treeF leaf wd c f (l.drop ((l.length + 1) / 2))]
def bitsN (ws : List Int) (m : Nat) : Nat := (sumI (ws.take m)).toNat
/-- The expression of a set whose states have the first m cells. -/
def memF (cs ws : List Int) : Nat → List Nat → E
  | 0, is => if is.length = 0 then .mk 1 1 0 [] else if is.length = 2 ^ bitsN ws 0 then .mk 1 1 1 [] else .mk 0 0 0 []
  | m + 1, is => if is.length = 0 then .mk 1 1 0 [] else if is.length = 2 ^ bitsN ws (m + 1) then .mk 1 1 1 [] else
      treeF (memF cs ws m) (ws.getD m 0) (cs.getD m 0) (2 ^ (ws.getD m 0).toNat) (runsL (bitsN ws m) (ws.getD m 0).toNat is)
/-- A slice of ints with its capacity. -/
def IntsC (w : World) (v : Value) (l : List Int) : Prop := Ints w v l ∧ ∃ a c, v = .slice a l.length c ∧ l.length ≤ c
theorem IntsC.ext {w w' : World} {v : Value} {l : List Int} (h : IntsC w v l) (hx : Ext w w') : IntsC w' v l := ⟨h.1.ext hx, h.2⟩
theorem IntsC.take {w : World} {a : Option Addr} {n c : Nat} {l : List Int} (h : IntsC w (.slice a n c) l) (k : Nat) (hk : k ≤ l.length) : IntsC w (.slice a k c) (l.take k) := by
  obtain ⟨h1, a', c', e, hc⟩ := h
  cases e
  have hl : (l.take k).length = k := by simp; omega
  refine ⟨?_, a, c, by rw [hl], by rw [hl]; omega⟩
  by_cases h0 : k = 0
  · subst h0
    exact .inl ⟨⟨_, _, rfl⟩, by simp⟩
  · rcases h1 with ⟨_, e⟩ | ⟨b, o, cc, e, hm, hcell⟩
    · subst e; simp at hk; omega
    · cases e
      refine .inr ⟨b, o, c, by rw [hl], by rw [hl]; omega, fun i hi => ?_⟩
      rw [hl] at hi
      have := hcell i (by omega)
      simpa using this
theorem IntsC.at {w : World} {a : Option Addr} {n c : Nat} {l : List Int} (h : IntsC w (.slice a n c) l) (k : Nat) (hk : k < l.length) : ∃ b o, a = some ⟨b, o, none⟩ ∧ w.cell? ⟨b, o + k, none⟩ = some (.int .i64 (l.getD k 0)) := by
  rcases h.1 with ⟨_, e⟩ | ⟨b, o, cc, e, hm, hcell⟩
  · subst e; simp at hk
  · cases e
    refine ⟨b, o, rfl, ?_⟩
    have := hcell k hk
    rw [List.getD_eq_getElem?_getD, List.getElem?_eq_getElem hk]
    simpa [IntAt] using this
theorem RunsV.ext {w w' : World} {v : Value} {xs : List RunX} (h : RunsV w v xs) (hx : Ext w w') : RunsV w' v xs := by
  obtain ⟨a, c, h1, h2, h3⟩ := h
  refine ⟨a, c, h1, h2, ?_⟩
  rcases h3 with h3 | ⟨g, o, h3, h4, h5⟩
  · exact .inl h3
  · exact .inr ⟨g, o, h3, h4, fun i hi => ⟨hx.cell (h5 i hi).1, hx.cell (h5 i hi).2.1, (h5 i hi).2.2.1.ext hx, (h5 i hi).2.2.2⟩⟩
theorem RunsV.take {w : World} {a : Option Addr} {n c : Nat} {xs : List RunX} (h : RunsV w (.slice a n c) xs) (k : Nat) (hk : k ≤ xs.length) : RunsV w (.slice a k c) (xs.take k) := by
  obtain ⟨a', c', h1, h2, h3⟩ := h
  cases h1
  have hl : (xs.take k).length = k := by simp; omega
  refine ⟨a, c, by rw [hl], by rw [hl]; omega, ?_⟩
  rcases h3 with h3 | ⟨g, o, h3, h4, h5⟩
  · left; subst h3; simp
  · refine .inr ⟨g, o, h3, h4, fun i hi => ?_⟩
    rw [hl] at hi
    have := h5 i (by omega)
    simpa using this
theorem RunsV.drop {w : World} {g o n c : Nat} {xs : List RunX} (h : RunsV w (.slice (some ⟨g, o, none⟩) n c) xs) (k : Nat) (hk : k < xs.length) : RunsV w (.slice (some ⟨g, o + k * 2, none⟩) (n - k) (c - k)) (xs.drop k) := by
  obtain ⟨a', c', h1, h2, h3⟩ := h
  cases h1
  have hl : (xs.drop k).length = xs.length - k := by simp
  refine ⟨_, _, by rw [hl], by rw [hl]; omega, ?_⟩
  rcases h3 with h3 | ⟨g', o', h3, h4, h5⟩
  · subst h3; simp at hk
  · cases h3
    refine .inr ⟨g, o + k * 2, rfl, by omega, fun i hi => ?_⟩
    rw [hl] at hi
    have := h5 (k + i) (by omega)
    rw [show o + k * 2 + i * 2 = o + (k + i) * 2 by omega]
    simpa using this
theorem RunsV.at {w : World} {a : Option Addr} {n c : Nat} {xs : List RunX} (h : RunsV w (.slice a n c) xs) (k : Nat) (hk : k < xs.length) : ∃ g o, a = some ⟨g, o, none⟩ ∧ w.cell? ⟨g, o + k * 2, none⟩ = some (.int .i64 xs[k].last) ∧ w.cell? ⟨g, o + k * 2 + 1, none⟩ = some (.slice xs[k].a (castL xs[k].l).length xs[k].c) ∧ IntsC w (.slice xs[k].a (castL xs[k].l).length xs[k].c) (castL xs[k].l) := by
  obtain ⟨a', c', h1, h2, h3⟩ := h
  cases h1
  rcases h3 with h3 | ⟨g, o, h3, h4, h5⟩
  · subst h3; simp at hk
  · exact ⟨g, o, h3, (h5 k hk).1, (h5 k hk).2.1, (h5 k hk).2.2.1, _, _, rfl, (h5 k hk).2.2.2⟩
end Go.Proofs.YtlcgbdjmlnjhcaaGreatDoor
namespace Go.Proofs.YtlcgbdjmlnjhcaaGreatDoor
open Go.RowKit

/-- The expression lies at block b, offset o; all its kids lie in blocks from N on. -/
inductive IsB (N : Nat) (w : World) : Nat → Nat → E → Prop
  | leaf {b o : Nat} {op wd n : Int} : w.cell? ⟨b, o, .none⟩ = some (.int .i64 op) → w.cell? ⟨b, o + 1, .none⟩ = some (.int .i64 wd) → w.cell? ⟨b, o + 2, .none⟩ = some (.int .i64 n) →
      w.cell? ⟨b, o + 3, .none⟩ = some (.slice .none 0 0) → IsB N w b o (.mk op wd n [])
  | node {b o : Nat} {op wd n : Int} {ks : List E} {b' o' cap : Nat} : w.cell? ⟨b, o, .none⟩ = some (.int .i64 op) → w.cell? ⟨b, o + 1, .none⟩ = some (.int .i64 wd) → w.cell? ⟨b, o + 2, .none⟩ = some (.int .i64 n) →
      w.cell? ⟨b, o + 3, .none⟩ = some (.slice (.some ⟨b', o', .none⟩) ks.length cap) → ks.length ≤ 9223372036854775807 → N ≤ b' → (∀ (i : Nat) (h : i < ks.length), IsB N w b' (o' + i * 4) ks[i]) → IsB N w b o (.mk op wd n ks)
def KidsB (N : Nat) (w : World) (v : Value) (ks : List E) : Prop :=
  (v = .slice .none 0 0 ∧ ks = []) ∨ ∃ b o cap : Nat, v = .slice (.some ⟨b, o, .none⟩) ks.length cap ∧ ks.length ≤ 9223372036854775807 ∧ N ≤ b ∧ ∀ (i : Nat) (h : i < ks.length), IsB N w b (o + i * 4) ks[i]
/-- By value. -/
def EValB (N : Nat) (w : World) (v : Value) (e : E) : Prop := ∃ k, v = .agg #[.int .i64 e.op, .int .i64 e.wd, .int .i64 e.n, k] ∧ KidsB N w k e.kids

theorem IsB.isE {N : Nat} {w : World} {b o : Nat} {e : E} (h : IsB N w b o e) : IsE w b o e := by
  induction h with
  | leaf h0 h1 h2 h3 => exact .leaf h0 h1 h2 h3
  | node h0 h1 h2 h3 hl _ _ ih => exact .node h0 h1 h2 h3 hl ih
theorem KidsB.kids {N : Nat} {w : World} {v : Value} {ks : List E} (h : KidsB N w v ks) : Kids w v ks := by
  rcases h with h | ⟨b, o, cap, h1, hl, _, h2⟩
  · exact .inl ⟨⟨_, _, h.1⟩, h.2⟩
  · exact .inr ⟨b, o, cap, h1, hl, fun i hi => (h2 i hi).isE⟩
theorem EValB.eVal {N : Nat} {w : World} {v : Value} {e : E} (h : EValB N w v e) : EVal w v e := by
  obtain ⟨k, h1, h2⟩ := h; exact ⟨k, h1, h2.kids⟩
theorem IsB.mono {N N' : Nat} {w : World} {b o : Nat} {e : E} (h : IsB N w b o e) (hN : N' ≤ N) : IsB N' w b o e := by
  induction h with
  | leaf h0 h1 h2 h3 => exact .leaf h0 h1 h2 h3
  | node h0 h1 h2 h3 hl hb _ ih => exact .node h0 h1 h2 h3 hl (Nat.le_trans hN hb) ih
theorem KidsB.mono {N N' : Nat} {w : World} {v : Value} {ks : List E} (h : KidsB N w v ks) (hN : N' ≤ N) : KidsB N' w v ks := by
  rcases h with h | ⟨b, o, cap, h1, hl, hb, h2⟩
  · exact .inl h
  · exact .inr ⟨b, o, cap, h1, hl, Nat.le_trans hN hb, fun i hi => (h2 i hi).mono hN⟩
theorem EValB.mono {N N' : Nat} {w : World} {v : Value} {e : E} (h : EValB N w v e) (hN : N' ≤ N) : EValB N' w v e := by
  obtain ⟨k, h1, h2⟩ := h; exact ⟨k, h1, h2.mono hN⟩

/-- From N on, and block b, w' is as w. -/
def AsFrom (N : Nat) (w w' : World) : Prop := ∀ k, N ≤ k → k < w.heap.size → w'.heap[k]? = w.heap[k]?
theorem AsFrom.cell {N : Nat} {w w' : World} (h : AsFrom N w w') {p : Addr} {v : Value} (hp : N ≤ p.block) (hc : w.cell? p = some v) : w'.cell? p = some v := by
  rw [World.cell?_of_block (h p.block hp (block_lt hc))]; exact hc
theorem IsB.keep {N : Nat} {w w' : World} {b o : Nat} {e : E} (h : IsB N w b o e) (hb : N ≤ b) (hx : AsFrom N w w') : IsB N w' b o e := by
  induction h with
  | leaf h0 h1 h2 h3 => exact .leaf (hx.cell hb h0) (hx.cell hb h1) (hx.cell hb h2) (hx.cell hb h3)
  | node h0 h1 h2 h3 hl hb' _ ih => exact .node (hx.cell hb h0) (hx.cell hb h1) (hx.cell hb h2) (hx.cell hb h3) hl hb' (fun i hi => ih i hi hb')
theorem KidsB.keep {N : Nat} {w w' : World} {v : Value} {ks : List E} (h : KidsB N w v ks) (hx : AsFrom N w w') : KidsB N w' v ks := by
  rcases h with h | ⟨b, o, cap, h1, hl, hb, h2⟩
  · exact .inl h
  · exact .inr ⟨b, o, cap, h1, hl, hb, fun i hi => (h2 i hi).keep hb hx⟩
theorem EValB.keep {N : Nat} {w w' : World} {v : Value} {e : E} (h : EValB N w v e) (hx : AsFrom N w w') : EValB N w' v e := by
  obtain ⟨k, h1, h2⟩ := h; exact ⟨k, h1, h2.keep hx⟩
theorem Ext.asFrom {w w' : World} (h : Ext w w') (N : Nat) : AsFrom N w w' := fun k _ hk => h.block k hk
theorem asFrom_setCell {w : World} {N : Nat} {p : Addr} {v : Value} (hp : p.block < N) : AsFrom N w (w.setCell p v) := fun k hk _ => Below.heap_setCell _ _ _ _ (by omega)
theorem AsFrom.trans {N : Nat} {a b c : World} (h : AsFrom N a b) (hs : a.heap.size ≤ b.heap.size) (k : AsFrom N b c) : AsFrom N a c := fun i h1 h2 => (k i h1 (by omega)).trans (h i h1 h2)
theorem AsFrom.mono {N N' : Nat} {a b : World} (h : AsFrom N a b) (hN : N ≤ N') : AsFrom N' a b := fun i h1 h2 => h i (by omega) h2
theorem grownBy_asFrom {w w' : World} {g : Option Nat} {N : Nat} (h : w.grownBy w' g) (hg : ∀ k, g = some k → k < N) : AsFrom N w w' := fun k h1 h2 => h.block k h2 (fun e => by have := hg k e.symm; omega)

/-- A node without its kids. -/
def E.bare (e : E) : E := .mk e.op e.wd e.n []

set_option maxHeartbeats 1000000 in
theorem same_any (e : E) (w : World) (b o : Nat) (hE : IsE w b o e) :
    Calls Tryz.prog 68 #[.pointer (some ⟨b, o, none⟩)] w fun r w' => r = .returned (.agg #[.int .i64 e.op, .int .i64 e.wd, .int .i64 e.n, .slice none 0 0]) ∧ Ext w w' := by
  obtain ⟨h0, h1, h2, kv, h3, hk⟩ := hE.cells
  have hbs : b < w.heap.size := block_lt h0
  clear hk h3 hE
  go_enter Tryz.func68, Tryz.ntmps68
  go_wp2_with fail
  go_region
  go_wp2_with fail
  exact bodyPost_ret (v := .agg #[.int .i64 e.op, .int .i64 e.wd, .int .i64 e.n, .slice none 0 0]) (by simp [results, Tryz.results68, go_sem]) rfl ⟨rfl, ((Ext.refl w).alloc _).drew⟩
end Go.Proofs.YtlcgbdjmlnjhcaaGreatDoor
namespace Go.Proofs.YtlcgbdjmlnjhcaaGreatDoor
open Go.RowKit

mutual
/-- The nodes without kids are replaced. -/
def E.rebuild (f : E → E) : E → E
  | .mk op wd n ks => if ks = [] then f (.mk op wd n ks) else .mk op wd n (rebuildAll f ks)
def rebuildAll (f : E → E) : List E → List E
  | [] => []
  | e :: r => e.rebuild f :: rebuildAll f r
end
theorem rebuildAll_eq (f : E → E) (ks : List E) : rebuildAll f ks = ks.map (E.rebuild f) := by
  induction ks with
  | nil => rfl
  | cons e r ih => simp [rebuildAll, ih]
theorem rebuild_nil (f : E → E) {op wd n : Int} : (E.mk op wd n []).rebuild f = f (.mk op wd n []) := by simp [E.rebuild]
theorem rebuild_cons (f : E → E) {op wd n : Int} {ks : List E} (h : ks ≠ []) : (E.mk op wd n ks).rebuild f = .mk op wd n (ks.map (E.rebuild f)) := by simp [E.rebuild, h, rebuildAll_eq]
theorem length_le_sizeAll (ks : List E) : ks.length ≤ sizeAll ks := by
  induction ks with
  | nil => simp [sizeAll]
  | cons e r ih => simp only [sizeAll, List.length_cons]; have := e.size_pos; omega

theorem infoExpr : (Tryz.prog.info? 25).map (fun i => (i.zero, i.size, i.bytes)) = some (some (.agg #[.int .i64 0, .int .i64 0, .int .i64 0, .slice none 0 0]), 4, 48) := by kernel_rfl

/-- A block of expressions that a call fills: n of them, the first k as the list says. -/
def Filled (w : World) (KB n : Nat) (l : List E) (k : Nat) : Prop :=
  (∀ (i : Nat) (h : i < l.length), i < k → IsB (KB + 1) w KB (i * 4) l[i]) ∧ ∃ cur : Array Value, w.heap[KB]? = some (.cells cur 25 (0, 0)) ∧ cur.size = n * 4

theorem Filled.cell {w : World} {KB n k : Nat} {l : List E} (h : Filled w KB n l k) (j : Nat) (hj : j < n * 4) : (∃ v, w.cell? ⟨KB, j, none⟩ = some v) ∧ w.frozen? ⟨KB, j, none⟩ = false := by
  obtain ⟨_, cur, hc, hs⟩ := h
  refine ⟨⟨cur[j]'(by omega), ?_⟩, ?_⟩
  · simp [World.cell?, hc, Array.getElem?_eq_getElem (show j < cur.size by omega)]
  · simp [World.frozen?, hc]
theorem Filled.lt {w : World} {KB n k : Nat} {l : List E} (h : Filled w KB n l k) : KB < w.heap.size := by
  obtain ⟨_, cur, hc, _⟩ := h
  rcases Nat.lt_or_ge KB w.heap.size with h' | h'
  · exact h'
  · rw [Array.getElem?_eq_none_iff.2 h'] at hc; cases hc
theorem Filled.keep {w w' : World} {KB n k : Nat} {l : List E} (h : Filled w KB n l k) (hx : AsFrom KB w w') : Filled w' KB n l k := by
  have hlt := h.lt
  obtain ⟨h1, cur, hc, hs⟩ := h
  refine ⟨fun i hi hk => ?_, cur, by rw [hx KB (Nat.le_refl _) hlt]; exact hc, hs⟩
  have hB := h1 i hi hk
  have hx1 : AsFrom (KB + 1) w w' := hx.mono (by omega)
  generalize l[i] = e at hB ⊢
  cases hB with
  | leaf c0 c1 c2 c3 => exact .leaf (hx.cell (Nat.le_refl _) c0) (hx.cell (Nat.le_refl _) c1) (hx.cell (Nat.le_refl _) c2) (hx.cell (Nat.le_refl _) c3)
  | node c0 c1 c2 c3 hl hb hk => exact .node (hx.cell (Nat.le_refl _) c0) (hx.cell (Nat.le_refl _) c1) (hx.cell (Nat.le_refl _) c2) (hx.cell (Nat.le_refl _) c3) hl hb (fun j hj => (hk j hj).keep hb hx1)

/-- One more element is stored. -/
def put4 (w : World) (KB o : Nat) (a b c d : Value) : World := (((w.setCell ⟨KB, o, none⟩ a).setCell ⟨KB, o + 1, none⟩ b).setCell ⟨KB, o + 2, none⟩ c).setCell ⟨KB, o + 3, none⟩ d
theorem put4_other {w : World} {KB o : Nat} {a b c d : Value} (p : Addr) (h : p.block ≠ KB ∨ p.off < o ∨ o + 4 ≤ p.off) : (put4 w KB o a b c d).cell? p = w.cell? p := by
  unfold put4
  rw [World.cell?_setCell_other _ _ _ _ (by intro e; subst e; simp at h; omega), World.cell?_setCell_other _ _ _ _ (by intro e; subst e; simp at h; omega), World.cell?_setCell_other _ _ _ _ (by intro e; subst e; simp at h; omega), World.cell?_setCell_other _ _ _ _ (by intro e; subst e; simp at h; omega)]
theorem set_cell_some {w : World} {p q : Addr} {u v : Value} (h : w.cell? q = some u) : ∃ u', (w.setCell p v).cell? q = some u' := cell?_setCell_some h
theorem put4_here {w : World} {KB o : Nat} {a b c d : Value} (h : ∀ j, j < 4 → ∃ v, w.cell? ⟨KB, o + j, none⟩ = some v) :
    (put4 w KB o a b c d).cell? ⟨KB, o, none⟩ = some a ∧ (put4 w KB o a b c d).cell? ⟨KB, o + 1, none⟩ = some b ∧ (put4 w KB o a b c d).cell? ⟨KB, o + 2, none⟩ = some c ∧ (put4 w KB o a b c d).cell? ⟨KB, o + 3, none⟩ = some d := by
  obtain ⟨v0, g0⟩ := h 0 (by decide)
  rw [Nat.add_zero] at g0
  obtain ⟨v1, g1⟩ := h 1 (by decide)
  obtain ⟨v2, g2⟩ := h 2 (by decide)
  obtain ⟨v3, g3⟩ := h 3 (by decide)
  unfold put4
  refine ⟨?_, ?_, ?_, ?_⟩
  · rw [World.cell?_setCell_other _ _ _ _ (by simp), World.cell?_setCell_other _ _ _ _ (by simp), World.cell?_setCell_other _ _ _ _ (by simp), World.cell?_setCell_same _ _ _ g0]
  · obtain ⟨x1, y1⟩ := set_cell_some (p := ⟨KB, o, none⟩) (v := a) g1
    rw [World.cell?_setCell_other _ _ _ _ (by simp), World.cell?_setCell_other _ _ _ _ (by simp), World.cell?_setCell_same _ _ _ y1]
  · obtain ⟨x1, y1⟩ := set_cell_some (p := ⟨KB, o, none⟩) (v := a) g2
    obtain ⟨x2, y2⟩ := set_cell_some (p := ⟨KB, o + 1, none⟩) (v := b) y1
    rw [World.cell?_setCell_other _ _ _ _ (by simp), World.cell?_setCell_same _ _ _ y2]
  · obtain ⟨x1, y1⟩ := set_cell_some (p := ⟨KB, o, none⟩) (v := a) g3
    obtain ⟨x2, y2⟩ := set_cell_some (p := ⟨KB, o + 1, none⟩) (v := b) y1
    obtain ⟨x3, y3⟩ := set_cell_some (p := ⟨KB, o + 2, none⟩) (v := c) y2
    rw [World.cell?_setCell_same _ _ _ y3]
theorem put4_heap {w : World} {KB o : Nat} {a b c d : Value} (k : Nat) (h : k ≠ KB) : (put4 w KB o a b c d).heap[k]? = w.heap[k]? := by
  unfold put4
  rw [Below.heap_setCell _ _ _ _ h, Below.heap_setCell _ _ _ _ h, Below.heap_setCell _ _ _ _ h, Below.heap_setCell _ _ _ _ h]
theorem put4_size {w : World} {KB o : Nat} {a b c d : Value} : (put4 w KB o a b c d).heap.size = w.heap.size := by simp [put4, World.setCell]
theorem setCell_block {w : World} {KB o : Nat} {v : Value} {cur : Array Value} {t : TypeId} (h : w.heap[KB]? = some (.cells cur t (0, 0))) : (w.setCell ⟨KB, o, none⟩ v).heap[KB]? = some (.cells (cur.setIfInBounds o v) t (0, 0)) := by
  simp [World.setCell, Array.getElem?_modify, h]
theorem put4_block {w : World} {KB o : Nat} {a b c d : Value} {cur : Array Value} {t : TypeId} (h : w.heap[KB]? = some (.cells cur t (0, 0))) : ∃ cur', (put4 w KB o a b c d).heap[KB]? = some (.cells cur' t (0, 0)) ∧ cur'.size = cur.size :=
  ⟨_, setCell_block (setCell_block (setCell_block (setCell_block h))), by simp⟩

theorem Filled.step {w : World} {KB n k : Nat} {l : List E} (h : Filled w KB n l k) (hk : k < l.length) (hn : l.length = n) {v : Value} (hv : KidsB (KB + 1) w v l[k].kids) :
    Filled (put4 w KB (k * 4) (.int .i64 l[k].op) (.int .i64 l[k].wd) (.int .i64 l[k].n) v) KB n l (k + 1) := by
  have hcell := h.cell
  obtain ⟨h1, cur, hc, hs⟩ := h
  have hx : AsFrom (KB + 1) w (put4 w KB (k * 4) (.int .i64 l[k].op) (.int .i64 l[k].wd) (.int .i64 l[k].n) v) := fun q hq _ => put4_heap q (by omega)
  refine ⟨fun i hi hik => ?_, ?_⟩
  · by_cases c : i = k
    · subst c
      obtain ⟨g0, g1, g2, g3⟩ := put4_here (w := w) (KB := KB) (o := i * 4) (a := .int .i64 l[i].op) (b := .int .i64 l[i].wd) (c := .int .i64 l[i].n) (d := v) (fun j hj => (hcell (i * 4 + j) (by omega)).1)
      have hv' := hv.keep hx
      generalize l[i] = e at *
      obtain ⟨op, wd, nn, ks⟩ := e
      rcases hv' with ⟨rfl, hks⟩ | ⟨b', o', cap, rfl, hl, hb, hk'⟩
      · simp at hks; subst hks; exact .leaf g0 g1 g2 g3
      · exact .node g0 g1 g2 g3 hl hb hk'
    · have hB := h1 i hi (by omega)
      have keep : ∀ j u, j < 4 → w.cell? ⟨KB, i * 4 + j, none⟩ = some u → (put4 w KB (k * 4) (.int .i64 l[k].op) (.int .i64 l[k].wd) (.int .i64 l[k].n) v).cell? ⟨KB, i * 4 + j, none⟩ = some u := by
        intro j u hj hu
        rw [put4_other _ (.inr (by simp; omega))]; exact hu
      generalize l[k] = e' at keep hx ⊢
      generalize l[i] = e at hB ⊢
      cases hB with
      | leaf c0 c1 c2 c3 => exact .leaf (keep 0 _ (by decide) c0) (keep 1 _ (by decide) c1) (keep 2 _ (by decide) c2) (keep 3 _ (by decide) c3)
      | node c0 c1 c2 c3 hl hb hk' => exact .node (keep 0 _ (by decide) c0) (keep 1 _ (by decide) c1) (keep 2 _ (by decide) c2) (keep 3 _ (by decide) c3) hl hb (fun j hj => (hk' j hj).keep hb hx)
  · obtain ⟨cur', hc', hs'⟩ := put4_block (o := k * 4) (a := .int .i64 l[k].op) (b := .int .i64 l[k].wd) (c := .int .i64 l[k].n) (d := v) hc
    exact ⟨cur', hc', by omega⟩
/-- All are stored. -/
theorem Filled.kids {w : World} {KB n cap : Nat} {l : List E} (h : Filled w KB n l l.length) (hl : l.length ≤ 9223372036854775807) : KidsB KB w (.slice (some ⟨KB, 0, none⟩) l.length cap) l :=
  .inr ⟨KB, 0, cap, rfl, hl, Nat.le_refl _, fun i hi => by rw [Nat.zero_add]; exact (h.1 i hi hi).mono (Nat.le_succ _)⟩
theorem grownBy_trans {a b c : World} {g : Option Nat} (h : a.grownBy b g) (k : b.grownBy c g) : a.grownBy c g :=
  ⟨k.os.trans h.os, k.tape.trans h.tape, k.output.trans h.output, Nat.le_trans h.size k.size, fun i hi hne => (k.block i (Nat.lt_of_lt_of_le hi h.size) hne).trans (h.block i hi hne)⟩
/-- What rebuild leaves. -/
def RPost (g : Option Nat) (f : E → E) (e : E) (acc : List E) (Inv : World → List E → Prop) (w : World) (r : Ending) (w' : World) : Prop :=
  (∃ v, r = .returned v ∧ EValB w.heap.size w' v (e.rebuild f)) ∧ w.grownBy w' g ∧ Inv w' (acc ++ e.leaves)
theorem grownBy_put4 {a w : World} {g : Option Nat} {R o : Nat} {x y z u : Value} (h : a.grownBy w g) (hR : a.heap.size ≤ R) : a.grownBy (put4 w R o x y z u) g :=
  ⟨h.os, h.tape, h.output, by rw [put4_size]; exact h.size, fun k hk hne => by rw [put4_heap k (by omega)]; exact h.block k hk hne⟩
theorem below_put4 {M : Nat} {w : World} {R o : Nat} {x y z u : Value} (hR : M ≤ R) : Below M w (put4 w R o x y z u) := by
  unfold put4
  exact ((((Below.refl M w).setCell hR _).setCell hR _).setCell hR _).setCell hR _
theorem cells_of_block {w : World} {R : Nat} {x y z u : Value} {t : TypeId} (h : w.heap[R]? = some (.cells #[x, y, z, u] t (0, 0))) :
    w.cell? ⟨R, 0, none⟩ = some x ∧ w.cell? ⟨R, 1, none⟩ = some y ∧ w.cell? ⟨R, 2, none⟩ = some z ∧ w.cell? ⟨R, 3, none⟩ = some u ∧ w.frozen? ⟨R, 0, none⟩ = false ∧ w.frozen? ⟨R, 1, none⟩ = false ∧ w.frozen? ⟨R, 2, none⟩ = false ∧ w.frozen? ⟨R, 3, none⟩ = false := by
  refine ⟨?_, ?_, ?_, ?_, ?_, ?_, ?_, ?_⟩ <;> simp [World.cell?, World.frozen?, h]
theorem put4_new {w : World} {R : Nat} {a b c d x y z u : Value} {t : TypeId} (h : w.heap[R]? = some (.cells #[a, b, c, d] t (0, 0))) : (put4 w R 0 x y z u).heap[R]? = some (.cells #[x, y, z, u] t (0, 0)) :=
  setCell_block (setCell_block (setCell_block (setCell_block h)))
theorem sizeExpr : (Tryz.prog.info? 25).map (·.size) = some 4 := by kernel_rfl
/-- What holds when rebuild has come through k kids. -/
def RLoop (g : Option Nat) (f : E → E) (acc : List E) (Inv : World → List E → Prop) (w : World) (ks : List E) (k : Nat) (wr : World) : Prop :=
  w.grownBy wr g ∧ Inv wr (acc ++ leavesAll (ks.take k)) ∧ Filled wr (w.heap.size + 1) ks.length (ks.map (E.rebuild f)) k ∧ wr.heap[w.heap.size]? = some (.cells #[.int .i64 0, .int .i64 0, .int .i64 0, .slice none 0 0] 25 (0, 0))
theorem grownBy_drew {a b : World} {g : Option Nat} (h : a.grownBy b g) : a.grownBy b.drew g := ⟨h.os, h.tape, h.output, h.size, h.block⟩
theorem Ext.grownBy {a b : World} (h : Ext a b) (g : Option Nat) : a.grownBy b g := ⟨h.os, h.tape, h.output, h.size, fun i hi _ => h.block i hi⟩

set_option maxHeartbeats 2000000 in
theorem rebuild_same (w0 : World)  (g : Option Nat) (M : Nat) (hg : ∀ k, g = some k → w0.heap.size ≤ k ∧ k < M) (f : E → E) (Q : E → Prop) (Inv : World → List E → Prop)
    (hInv : ∀ (w w' : World) (acc : List E), Inv w acc → Below M w w' → Inv w' acc)
    (hκ : ∀ (x : E) (w : World) (b o : Nat) (acc : List E), Q x → IsE w0 b o x → Ext w0 w → M ≤ w.heap.size → Inv w acc →
      Calls Tryz.prog 68 #[.pointer (some ⟨b, o, none⟩)] w fun r w' => (∃ v, r = .returned v ∧ EValB w.heap.size w' v (f x)) ∧ w.grownBy w' g ∧ Inv w' (acc ++ [x])) (N : Nat) (hN6 : N ≤ 100000) :
    ∀ (e : E) (w : World) (b o : Nat) (acc : List E), e.size ≤ N → (∀ x ∈ e.leaves, Q x) → IsE w0 b o e → Ext w0 w → M ≤ w.heap.size → Inv w acc →
      Calls Tryz.prog 66 #[.pointer (some ⟨b, o, none⟩), .func (.func 68) #[] #[]] w (RPost g f e acc Inv w) := by
  have HC := Lib.hid hκ; have HG := Lib.hid hg; have HInv := Lib.hid hInv
  clear hκ hg hInv
  induction N with
  | zero => intro e w b o acc h; have := e.size_pos; omega
  | succ N ih =>
    intro e w b o acc hN hQ hE hx hMw hI
    have IH := Lib.hid (ih (by omega)); have HI := Lib.hid hI; have HQ := Lib.hid hQ
    clear ih hI hQ
    obtain ⟨op, wd, n, ks⟩ := e
    have hsz0 : w0.heap.size ≤ w.heap.size := hx.size
    by_cases hks : ks = []
    · subst hks
      obtain ⟨_, _, _, kv, h3, hk⟩ := hE.cells
      obtain ⟨a, cap, rfl⟩ := SliceAt.shape hk
      have hbs : b < w0.heap.size := block_lt h3
      have hbs' : b < w.heap.size := by omega
      have g3 := hx.cell h3
      simp only [E.kids_mk, List.length_nil] at g3
      have HX := Lib.hid hx; clear hx hk
      go_enter Tryz.func66, Tryz.ntmps66
      go_wp2_with fail
      generalize hw1 : w.alloc _ = w1
      have hx1 : Ext w w1 := by rw [← hw1]; exact (Ext.refl w).alloc _
      have hR : w1.heap[w.heap.size]? = some (.cells #[.int .i64 0, .int .i64 0, .int .i64 0, .slice none 0 0] 25 (0, 0)) := by rw [← hw1]; exact heap_new _ _
      have hs1 : w1.heap.size = w.heap.size + 1 := by rw [← hw1]; simp
      have HX1 := Lib.hid hx1; have HR := Lib.hid hR; have HS1 := Lib.hid hs1
      clear hw1 hx1 hR hs1
      refine (HC.out _ w1 b o acc (HQ.out _ (by rw [leaves_nil]; simp)) hE (HX.out.trans HX1.out) (by have := HS1.out; omega) (HInv.out _ _ _ HI.out (Below.mono HX1.out hMw))).mono ?_
      rintro r w2 ⟨⟨v, rfl, hv⟩, hgr, hI1⟩
      have hR2 : w2.heap[w.heap.size]? = some (.cells #[.int .i64 0, .int .i64 0, .int .i64 0, .slice none 0 0] 25 (0, 0)) := by
        rw [hgr.block w.heap.size (by rw [HS1.out]; omega) (fun e => by have := HG.out _ e.symm; omega)]; exact HR.out
      obtain ⟨kv, rfl, hkv⟩ := hv
      obtain ⟨ka, kc, rfl⟩ := SliceAt.shape hkv.kids
      generalize hkl : (f (.mk op wd n [])).kids.length = kl at *
      have HF : Hid (RPost g f (.mk op wd n []) acc Inv w (.returned (.agg #[.int .i64 (f (.mk op wd n [])).op, .int .i64 (f (.mk op wd n [])).wd, .int .i64 (f (.mk op wd n [])).n, .slice ka kl kc]))
          (put4 w2 w.heap.size 0 (.int .i64 (f (.mk op wd n [])).op) (.int .i64 (f (.mk op wd n [])).wd) (.int .i64 (f (.mk op wd n [])).n) (.slice ka kl kc))) := by
        refine ⟨⟨_, rfl, ?_⟩, ?_, ?_⟩
        · rw [rebuild_nil]
          exact ⟨_, rfl, (KidsB.mono hkv (by rw [HS1.out]; omega)  : KidsB (w.heap.size + 1) _ _ _).keep (fun q hq _ => put4_heap q (by omega)) |>.mono (by omega)⟩
        · exact grownBy_put4 (grownBy_trans (HX1.out.grownBy g) hgr) (Nat.le_refl _)
        · rw [leaves_nil]; exact HInv.out _ _ _ hI1 (below_put4 hMw)
      clear hkl
      generalize f (.mk op wd n []) = y at HF hkv ⊢
      obtain ⟨c0, c1, c2, c3, f0, f1, f2, f3⟩ := cells_of_block hR2
      have HB := Lib.hid (put4_new (x := .int .i64 y.op) (y := .int .i64 y.wd) (z := .int .i64 y.n) (u := .slice ka kl kc) hR2)
      clear hR2 hgr hI1 hkv
      go_wp2_with fail
      exact bodyPost_ret (v := .agg #[.int .i64 y.op, .int .i64 y.wd, .int .i64 y.n, .slice ka kl kc]) (results_cell_row Tryz.results66 _ _ w.heap.size 25 _ (0, 0) _ rfl HB.out Tryz.underlying25 rfl sizeExpr) rfl HF.out
    · obtain ⟨h0, h1, h2, _⟩ := hE.cells
      simp only [E.op_mk, E.wd_mk, E.n_mk] at h0 h1 h2
      obtain ⟨b', o', cap, h3, hlen, hk⟩ := hE.kid hks
      have hbs : b < w0.heap.size := block_lt h3
      have hbs' : b < w.heap.size := by omega
      have g3 := hx.cell h3
      have hll : ks.length ≤ 100000 := by have h1 := length_le_sizeAll ks; have h2 : (E.mk op wd n ks).size = 1 + sizeAll ks := rfl; omega
      have hne : (((ks.length : Nat) : Int) == 0) = false := by
        rw [beq_eq_false_iff_ne]; intro h; exact hks (List.length_eq_zero_iff.1 (by omega))
      have HX := Lib.hid hx; have HK := Lib.hid hk; have HNE := Lib.hid hks; clear hx hk hks
      obtain ⟨i0, hi, hz0, hz1, hz2⟩ := info_parts infoExpr
      go_enter Tryz.func66, Tryz.ntmps66
      go_wp2_with (at_make; refine wpList_make_full _ rfl (.tmp 20) (.tmp 20) 23 rfl (w.heap.size + 1) 25 i0 _ 4 Tryz.underlying23 hi hz0 hz1 .i64 .i64 _ _ ks.length rfl rfl rfl rfl ?b2 ?b3 ?b4 ?_)
      case b2 => rw [hz2]; omega
      case b3 => unfold maxLen; omega
      case b4 => simp
      intro w2 hown hgr2
      clear hi hz0 hz1 hz2
      have hx2 : Ext w w2 := ((Ext.refl w).alloc _).grown hgr2 (fun k hk => by cases hk)
      have hR2 : w2.heap[w.heap.size]? = some (.cells #[.int .i64 0, .int .i64 0, .int .i64 0, .slice none 0 0] 25 (0, 0)) := by
        rw [hgr2.block w.heap.size (by simp) (by simp)]; exact heap_new _ _
      have hF2 : Filled w2 (w.heap.size + 1) ks.length (ks.map (E.rebuild f)) 0 := by
        refine ⟨fun i _ h => absurd h (Nat.not_lt_zero _), ?_⟩
        rcases hown.2 with ⟨e, _⟩ | ⟨gg, cap, cur, e, _, hh, _, _, hs, _⟩
        · cases e
        · simp only [Value.slice.injEq, Option.some.injEq, Addr.mk.injEq] at e
          obtain ⟨⟨e1, _, _⟩, _, e2⟩ := e
          refine ⟨cur, ?_, by rw [hs, ← e2]⟩
          rw [← hh, ← e1]
      have HL : Hid (RLoop g f acc Inv w ks 0 w2) := ⟨hx2.grownBy g, by simpa [leavesAll] using HInv.out _ _ _ HI.out (Below.mono hx2 hMw), hF2, hR2⟩
      clear hown hgr2 hx2 hR2 hF2
      have q3 : w2.cell? ⟨b, o + 3, none⟩ = some (.slice (some ⟨b', o', none⟩) ks.length cap) := Ext.cell (HX.out.grown HL.out.1 (fun k hk => (HG.out k hk).1)) h3
      go_wp2_with fail
      go_loopw [6, 24] (fun _ i wr => ∃ k : Nat, k ≤ ks.length ∧ i = .int .i64 k ∧ RLoop g f acc Inv w ks k wr) (fun _ i _ => ks.length - (intOf i).toNat)
      case atStart => exact ⟨0, Nat.zero_le _, rfl, HL.out⟩
      case round =>
        obtain ⟨k, hk, rfl, l1, l2, l3, l4⟩ := hrel
        have hxr : Ext w0 wr := HX.out.grown l1 (fun k hk => (HG.out k hk).1)
        have q3 := hxr.cell h3
        have q0 := hxr.cell h0
        have q1 := hxr.cell h1
        have q2 := hxr.cell h2
        have hszr : w.heap.size + 1 < wr.heap.size := l3.lt
        have L1 := Lib.hid l1; have L2 := Lib.hid l2; have L3 := Lib.hid l3; have L4 := Lib.hid l4; have HXR := Lib.hid hxr
        clear l1 l2 l3 l4 hxr
        by_cases hlt : k < ks.length
        · have hin : ks[k] ∈ ks := List.getElem_mem hlt
          have hsz : ks[k].size ≤ N := by have := size_kid (op := op) (wd := wd) (n := n) hin; omega
          go_wp2_with fail
          refine (IH.out ks[k] _ b' (o' + k * 4) _ hsz (fun x hx => HQ.out x (by rw [leaves_cons HNE.out]; exact mem_leavesAll.2 ⟨_, hin, hx⟩)) (HK.out k hlt) HXR.out (by omega) L2.out).mono ?_
          rintro r w1 ⟨⟨v, rfl, hv⟩, hgr, hI1⟩
          obtain ⟨kv, rfl, hkv⟩ := hv
          obtain ⟨ka, kc, rfl⟩ := SliceAt.shape hkv.kids
          generalize hkl : (ks[k].rebuild f).kids.length = kl at *
          have hF1 : Filled w1 (w.heap.size + 1) ks.length (ks.map (E.rebuild f)) k := L3.out.keep (grownBy_asFrom hgr (fun q hq => by have := (HG.out q hq).2; omega))
          have hR1 : w1.heap[w.heap.size]? = some (.cells #[.int .i64 0, .int .i64 0, .int .i64 0, .slice none 0 0] 25 (0, 0)) := by
            rw [hgr.block w.heap.size (by omega) (fun e => by have := HG.out _ e.symm; omega)]; exact L4.out
          obtain ⟨⟨x0, c0⟩, f0⟩ := hF1.cell (k * 4) (by omega)
          obtain ⟨⟨x1, c1⟩, f1⟩ := hF1.cell (k * 4 + 1) (by omega)
          obtain ⟨⟨x2, c2⟩, f2⟩ := hF1.cell (k * 4 + 2) (by omega)
          obtain ⟨⟨x3, c3⟩, f3⟩ := hF1.cell (k * 4 + 3) (by omega)
          have HS : Hid (RLoop g f acc Inv w ks (k + 1) (put4 w1 (w.heap.size + 1) (k * 4) (.int .i64 (ks[k].rebuild f).op) (.int .i64 (ks[k].rebuild f).wd) (.int .i64 (ks[k].rebuild f).n) (.slice ka kl kc))) := by
            refine ⟨grownBy_put4 (grownBy_trans L1.out hgr) (Nat.le_succ _), ?_, ?_, ?_⟩
            · rw [leavesAll_take_succ hlt, ← List.append_assoc]; exact HInv.out _ _ _ hI1 (below_put4 (by omega))
            · have hk' : k < (ks.map (E.rebuild f)).length := by simpa using hlt
              have := hF1.step hk' (by simp) (v := .slice ka kl kc) (by simpa using hkv.mono (by omega))
              simpa using this
            · rw [put4_heap _ (by omega)]; exact hR1
          have hsz1 := hgr.size
          clear hgr hI1 hkv hF1 hR1 hkl
          generalize ks[k].rebuild f = y at HS ⊢
          go_wp2_with fail
          go_roundw
          case rel => exact ⟨k + 1, by omega, by go_num, HS.out⟩
          case measure => simp [intOf]; omega
        · obtain rfl : k = ks.length := by omega
          have HF : Hid (RPost g f (.mk op wd n ks) acc Inv w (.returned (.agg #[.int .i64 op, .int .i64 wd, .int .i64 n, .slice (some ⟨w.heap.size + 1, 0, none⟩) ks.length ks.length])) (put4 wr w.heap.size 0 (.int .i64 op) (.int .i64 wd) (.int .i64 n) (.slice (some ⟨w.heap.size + 1, 0, none⟩) ks.length ks.length)).drew) := by
            refine ⟨⟨_, rfl, ?_⟩, ?_, ?_⟩
            · rw [rebuild_cons f HNE.out]
              refine ⟨_, rfl, ?_⟩
              have h1 := L3.out
              rw [show ks.length = (ks.map (E.rebuild f)).length by simp] at h1
              have h2 := Filled.kids (cap := ks.length) h1 (by simpa using hlen)
              rw [show (ks.map (E.rebuild f)).length = ks.length by simp] at h2
              have h3 : AsFrom (w.heap.size + 1) wr (put4 wr w.heap.size 0 (.int .i64 op) (.int .i64 wd) (.int .i64 n) (.slice (some ⟨w.heap.size + 1, 0, none⟩) ks.length ks.length)).drew := fun q hq _ => put4_heap q (by omega)
              exact (h2.keep h3).mono (Nat.le_succ _)
            · exact grownBy_drew (grownBy_put4 L1.out (Nat.le_refl _))
            · rw [leaves_cons HNE.out]
              have h1 := L2.out
              rw [List.take_length] at h1
              exact HInv.out _ _ _ h1 (below_put4 hMw).drew
          have HB := Lib.hid (put4_new (x := .int .i64 op) (y := .int .i64 wd) (z := .int .i64 n) (u := .slice (some ⟨w.heap.size + 1, 0, none⟩) ks.length ks.length) L4.out)
          obtain ⟨c0, c1, c2, c3, f0, f1, f2, f3⟩ := cells_of_block L4.out
          have hbne : b ≠ w.heap.size := by omega
          go_wp2_with fail
          go_region
          go_wp2_with fail
          exact bodyPost_ret (v := .agg #[.int .i64 op, .int .i64 wd, .int .i64 n, .slice (some ⟨w.heap.size + 1, 0, none⟩) ks.length ks.length]) (results_cell_row Tryz.results66 _ _ w.heap.size 25 _ (0, 0) _ rfl HB.out Tryz.underlying25 rfl sizeExpr) rfl HF.out

set_option maxHeartbeats 2000000 in
theorem rebuild_before (w0 : World)  (g : Option Nat) (M : Nat) (hg : ∀ k, g = some k → w0.heap.size ≤ k ∧ k < M) (f : E → E) (Q : E → Prop) (Inv : World → List E → Prop)
    (hInv : ∀ (w w' : World) (acc : List E), Inv w acc → Below M w w' → Inv w' acc)
    (hκ : ∀ (x : E) (w : World) (b o : Nat) (acc : List E), Q x → IsE w0 b o x → Ext w0 w → M ≤ w.heap.size → Inv w acc →
      Calls Tryz.prog 67 #[.pointer (some ⟨b, o, none⟩)] w fun r w' => (∃ v, r = .returned v ∧ EValB w.heap.size w' v (f x)) ∧ w.grownBy w' g ∧ Inv w' (acc ++ [x])) (N : Nat) (hN6 : N ≤ 100000) :
    ∀ (e : E) (w : World) (b o : Nat) (acc : List E), e.size ≤ N → (∀ x ∈ e.leaves, Q x) → IsE w0 b o e → Ext w0 w → M ≤ w.heap.size → Inv w acc →
      Calls Tryz.prog 66 #[.pointer (some ⟨b, o, none⟩), .func (.func 67) #[] #[]] w (RPost g f e acc Inv w) := by
  have HC := Lib.hid hκ; have HG := Lib.hid hg; have HInv := Lib.hid hInv
  clear hκ hg hInv
  induction N with
  | zero => intro e w b o acc h; have := e.size_pos; omega
  | succ N ih =>
    intro e w b o acc hN hQ hE hx hMw hI
    have IH := Lib.hid (ih (by omega)); have HI := Lib.hid hI; have HQ := Lib.hid hQ
    clear ih hI hQ
    obtain ⟨op, wd, n, ks⟩ := e
    have hsz0 : w0.heap.size ≤ w.heap.size := hx.size
    by_cases hks : ks = []
    · subst hks
      obtain ⟨_, _, _, kv, h3, hk⟩ := hE.cells
      obtain ⟨a, cap, rfl⟩ := SliceAt.shape hk
      have hbs : b < w0.heap.size := block_lt h3
      have hbs' : b < w.heap.size := by omega
      have g3 := hx.cell h3
      simp only [E.kids_mk, List.length_nil] at g3
      have HX := Lib.hid hx; clear hx hk
      go_enter Tryz.func66, Tryz.ntmps66
      go_wp2_with fail
      generalize hw1 : w.alloc _ = w1
      have hx1 : Ext w w1 := by rw [← hw1]; exact (Ext.refl w).alloc _
      have hR : w1.heap[w.heap.size]? = some (.cells #[.int .i64 0, .int .i64 0, .int .i64 0, .slice none 0 0] 25 (0, 0)) := by rw [← hw1]; exact heap_new _ _
      have hs1 : w1.heap.size = w.heap.size + 1 := by rw [← hw1]; simp
      have HX1 := Lib.hid hx1; have HR := Lib.hid hR; have HS1 := Lib.hid hs1
      clear hw1 hx1 hR hs1
      refine (HC.out _ w1 b o acc (HQ.out _ (by rw [leaves_nil]; simp)) hE (HX.out.trans HX1.out) (by have := HS1.out; omega) (HInv.out _ _ _ HI.out (Below.mono HX1.out hMw))).mono ?_
      rintro r w2 ⟨⟨v, rfl, hv⟩, hgr, hI1⟩
      have hR2 : w2.heap[w.heap.size]? = some (.cells #[.int .i64 0, .int .i64 0, .int .i64 0, .slice none 0 0] 25 (0, 0)) := by
        rw [hgr.block w.heap.size (by rw [HS1.out]; omega) (fun e => by have := HG.out _ e.symm; omega)]; exact HR.out
      obtain ⟨kv, rfl, hkv⟩ := hv
      obtain ⟨ka, kc, rfl⟩ := SliceAt.shape hkv.kids
      generalize hkl : (f (.mk op wd n [])).kids.length = kl at *
      have HF : Hid (RPost g f (.mk op wd n []) acc Inv w (.returned (.agg #[.int .i64 (f (.mk op wd n [])).op, .int .i64 (f (.mk op wd n [])).wd, .int .i64 (f (.mk op wd n [])).n, .slice ka kl kc]))
          (put4 w2 w.heap.size 0 (.int .i64 (f (.mk op wd n [])).op) (.int .i64 (f (.mk op wd n [])).wd) (.int .i64 (f (.mk op wd n [])).n) (.slice ka kl kc))) := by
        refine ⟨⟨_, rfl, ?_⟩, ?_, ?_⟩
        · rw [rebuild_nil]
          exact ⟨_, rfl, (KidsB.mono hkv (by rw [HS1.out]; omega)  : KidsB (w.heap.size + 1) _ _ _).keep (fun q hq _ => put4_heap q (by omega)) |>.mono (by omega)⟩
        · exact grownBy_put4 (grownBy_trans (HX1.out.grownBy g) hgr) (Nat.le_refl _)
        · rw [leaves_nil]; exact HInv.out _ _ _ hI1 (below_put4 hMw)
      clear hkl
      generalize f (.mk op wd n []) = y at HF hkv ⊢
      obtain ⟨c0, c1, c2, c3, f0, f1, f2, f3⟩ := cells_of_block hR2
      have HB := Lib.hid (put4_new (x := .int .i64 y.op) (y := .int .i64 y.wd) (z := .int .i64 y.n) (u := .slice ka kl kc) hR2)
      clear hR2 hgr hI1 hkv
      go_wp2_with fail
      exact bodyPost_ret (v := .agg #[.int .i64 y.op, .int .i64 y.wd, .int .i64 y.n, .slice ka kl kc]) (results_cell_row Tryz.results66 _ _ w.heap.size 25 _ (0, 0) _ rfl HB.out Tryz.underlying25 rfl sizeExpr) rfl HF.out
    · obtain ⟨h0, h1, h2, _⟩ := hE.cells
      simp only [E.op_mk, E.wd_mk, E.n_mk] at h0 h1 h2
      obtain ⟨b', o', cap, h3, hlen, hk⟩ := hE.kid hks
      have hbs : b < w0.heap.size := block_lt h3
      have hbs' : b < w.heap.size := by omega
      have g3 := hx.cell h3
      have hll : ks.length ≤ 100000 := by have h1 := length_le_sizeAll ks; have h2 : (E.mk op wd n ks).size = 1 + sizeAll ks := rfl; omega
      have hne : (((ks.length : Nat) : Int) == 0) = false := by
        rw [beq_eq_false_iff_ne]; intro h; exact hks (List.length_eq_zero_iff.1 (by omega))
      have HX := Lib.hid hx; have HK := Lib.hid hk; have HNE := Lib.hid hks; clear hx hk hks
      obtain ⟨i0, hi, hz0, hz1, hz2⟩ := info_parts infoExpr
      go_enter Tryz.func66, Tryz.ntmps66
      go_wp2_with (at_make; refine wpList_make_full _ rfl (.tmp 20) (.tmp 20) 23 rfl (w.heap.size + 1) 25 i0 _ 4 Tryz.underlying23 hi hz0 hz1 .i64 .i64 _ _ ks.length rfl rfl rfl rfl ?b2 ?b3 ?b4 ?_)
      case b2 => rw [hz2]; omega
      case b3 => unfold maxLen; omega
      case b4 => simp
      intro w2 hown hgr2
      clear hi hz0 hz1 hz2
      have hx2 : Ext w w2 := ((Ext.refl w).alloc _).grown hgr2 (fun k hk => by cases hk)
      have hR2 : w2.heap[w.heap.size]? = some (.cells #[.int .i64 0, .int .i64 0, .int .i64 0, .slice none 0 0] 25 (0, 0)) := by
        rw [hgr2.block w.heap.size (by simp) (by simp)]; exact heap_new _ _
      have hF2 : Filled w2 (w.heap.size + 1) ks.length (ks.map (E.rebuild f)) 0 := by
        refine ⟨fun i _ h => absurd h (Nat.not_lt_zero _), ?_⟩
        rcases hown.2 with ⟨e, _⟩ | ⟨gg, cap, cur, e, _, hh, _, _, hs, _⟩
        · cases e
        · simp only [Value.slice.injEq, Option.some.injEq, Addr.mk.injEq] at e
          obtain ⟨⟨e1, _, _⟩, _, e2⟩ := e
          refine ⟨cur, ?_, by rw [hs, ← e2]⟩
          rw [← hh, ← e1]
      have HL : Hid (RLoop g f acc Inv w ks 0 w2) := ⟨hx2.grownBy g, by simpa [leavesAll] using HInv.out _ _ _ HI.out (Below.mono hx2 hMw), hF2, hR2⟩
      clear hown hgr2 hx2 hR2 hF2
      have q3 : w2.cell? ⟨b, o + 3, none⟩ = some (.slice (some ⟨b', o', none⟩) ks.length cap) := Ext.cell (HX.out.grown HL.out.1 (fun k hk => (HG.out k hk).1)) h3
      go_wp2_with fail
      go_loopw [6, 24] (fun _ i wr => ∃ k : Nat, k ≤ ks.length ∧ i = .int .i64 k ∧ RLoop g f acc Inv w ks k wr) (fun _ i _ => ks.length - (intOf i).toNat)
      case atStart => exact ⟨0, Nat.zero_le _, rfl, HL.out⟩
      case round =>
        obtain ⟨k, hk, rfl, l1, l2, l3, l4⟩ := hrel
        have hxr : Ext w0 wr := HX.out.grown l1 (fun k hk => (HG.out k hk).1)
        have q3 := hxr.cell h3
        have q0 := hxr.cell h0
        have q1 := hxr.cell h1
        have q2 := hxr.cell h2
        have hszr : w.heap.size + 1 < wr.heap.size := l3.lt
        have L1 := Lib.hid l1; have L2 := Lib.hid l2; have L3 := Lib.hid l3; have L4 := Lib.hid l4; have HXR := Lib.hid hxr
        clear l1 l2 l3 l4 hxr
        by_cases hlt : k < ks.length
        · have hin : ks[k] ∈ ks := List.getElem_mem hlt
          have hsz : ks[k].size ≤ N := by have := size_kid (op := op) (wd := wd) (n := n) hin; omega
          go_wp2_with fail
          refine (IH.out ks[k] _ b' (o' + k * 4) _ hsz (fun x hx => HQ.out x (by rw [leaves_cons HNE.out]; exact mem_leavesAll.2 ⟨_, hin, hx⟩)) (HK.out k hlt) HXR.out (by omega) L2.out).mono ?_
          rintro r w1 ⟨⟨v, rfl, hv⟩, hgr, hI1⟩
          obtain ⟨kv, rfl, hkv⟩ := hv
          obtain ⟨ka, kc, rfl⟩ := SliceAt.shape hkv.kids
          generalize hkl : (ks[k].rebuild f).kids.length = kl at *
          have hF1 : Filled w1 (w.heap.size + 1) ks.length (ks.map (E.rebuild f)) k := L3.out.keep (grownBy_asFrom hgr (fun q hq => by have := (HG.out q hq).2; omega))
          have hR1 : w1.heap[w.heap.size]? = some (.cells #[.int .i64 0, .int .i64 0, .int .i64 0, .slice none 0 0] 25 (0, 0)) := by
            rw [hgr.block w.heap.size (by omega) (fun e => by have := HG.out _ e.symm; omega)]; exact L4.out
          obtain ⟨⟨x0, c0⟩, f0⟩ := hF1.cell (k * 4) (by omega)
          obtain ⟨⟨x1, c1⟩, f1⟩ := hF1.cell (k * 4 + 1) (by omega)
          obtain ⟨⟨x2, c2⟩, f2⟩ := hF1.cell (k * 4 + 2) (by omega)
          obtain ⟨⟨x3, c3⟩, f3⟩ := hF1.cell (k * 4 + 3) (by omega)
          have HS : Hid (RLoop g f acc Inv w ks (k + 1) (put4 w1 (w.heap.size + 1) (k * 4) (.int .i64 (ks[k].rebuild f).op) (.int .i64 (ks[k].rebuild f).wd) (.int .i64 (ks[k].rebuild f).n) (.slice ka kl kc))) := by
            refine ⟨grownBy_put4 (grownBy_trans L1.out hgr) (Nat.le_succ _), ?_, ?_, ?_⟩
            · rw [leavesAll_take_succ hlt, ← List.append_assoc]; exact HInv.out _ _ _ hI1 (below_put4 (by omega))
            · have hk' : k < (ks.map (E.rebuild f)).length := by simpa using hlt
              have := hF1.step hk' (by simp) (v := .slice ka kl kc) (by simpa using hkv.mono (by omega))
              simpa using this
            · rw [put4_heap _ (by omega)]; exact hR1
          have hsz1 := hgr.size
          clear hgr hI1 hkv hF1 hR1 hkl
          generalize ks[k].rebuild f = y at HS ⊢
          go_wp2_with fail
          go_roundw
          case rel => exact ⟨k + 1, by omega, by go_num, HS.out⟩
          case measure => simp [intOf]; omega
        · obtain rfl : k = ks.length := by omega
          have HF : Hid (RPost g f (.mk op wd n ks) acc Inv w (.returned (.agg #[.int .i64 op, .int .i64 wd, .int .i64 n, .slice (some ⟨w.heap.size + 1, 0, none⟩) ks.length ks.length])) (put4 wr w.heap.size 0 (.int .i64 op) (.int .i64 wd) (.int .i64 n) (.slice (some ⟨w.heap.size + 1, 0, none⟩) ks.length ks.length)).drew) := by
            refine ⟨⟨_, rfl, ?_⟩, ?_, ?_⟩
            · rw [rebuild_cons f HNE.out]
              refine ⟨_, rfl, ?_⟩
              have h1 := L3.out
              rw [show ks.length = (ks.map (E.rebuild f)).length by simp] at h1
              have h2 := Filled.kids (cap := ks.length) h1 (by simpa using hlen)
              rw [show (ks.map (E.rebuild f)).length = ks.length by simp] at h2
              have h3 : AsFrom (w.heap.size + 1) wr (put4 wr w.heap.size 0 (.int .i64 op) (.int .i64 wd) (.int .i64 n) (.slice (some ⟨w.heap.size + 1, 0, none⟩) ks.length ks.length)).drew := fun q hq _ => put4_heap q (by omega)
              exact (h2.keep h3).mono (Nat.le_succ _)
            · exact grownBy_drew (grownBy_put4 L1.out (Nat.le_refl _))
            · rw [leaves_cons HNE.out]
              have h1 := L2.out
              rw [List.take_length] at h1
              exact HInv.out _ _ _ h1 (below_put4 hMw).drew
          have HB := Lib.hid (put4_new (x := .int .i64 op) (y := .int .i64 wd) (z := .int .i64 n) (u := .slice (some ⟨w.heap.size + 1, 0, none⟩) ks.length ks.length) L4.out)
          obtain ⟨c0, c1, c2, c3, f0, f1, f2, f3⟩ := cells_of_block L4.out
          have hbne : b ≠ w.heap.size := by omega
          go_wp2_with fail
          go_region
          go_wp2_with fail
          exact bodyPost_ret (v := .agg #[.int .i64 op, .int .i64 wd, .int .i64 n, .slice (some ⟨w.heap.size + 1, 0, none⟩) ks.length ks.length]) (results_cell_row Tryz.results66 _ _ w.heap.size 25 _ (0, 0) _ rfl HB.out Tryz.underlying25 rfl sizeExpr) rfl HF.out

end Go.Proofs.YtlcgbdjmlnjhcaaGreatDoor
