/-
  The walk of same; expressions in new memory.
  Four cells stored anew (where the program's rebuild is not there).
  The walks of the reader's leaf, of operator and of widthOf.
-/
import Derived.Test.YtoopoljchhdobaaGreatDoorMMf
import Derived.RegionTactic
import Derived.BigRegion
import Derived.Test.YtoopoljchhdobaaGreatDoorMMb
import Derived.Test.YtoopoljchhdobaaGreatDoorMMr
import Derived.Laws.ResultCell
namespace Go.Proofs.YtoopoljchhdobaaGreatDoor
open Go.RowKit

/-- The expression lies at block b, offset o; all its kids lie in blocks from N on. -/
inductive IsB (N : Nat) (w : World) : Nat → Nat → E → Prop
  | leaf {b o : Nat} {op wd n : Int} : w.cell? ⟨b, o, .none⟩ = some (.int .i64 op) → w.cell? ⟨b, o + 1, .none⟩ = some (.int .i64 wd) → w.cell? ⟨b, o + 2, .none⟩ = some (.int .i64 n) →
      w.cell? ⟨b, o + 3, .none⟩ = some (.slice .none 0 0) → IsB N w b o (.mk op wd n [])
  | node {b o : Nat} {op wd n : Int} {ks : List E} {b' o' cap : Nat} : w.cell? ⟨b, o, .none⟩ = some (.int .i64 op) → w.cell? ⟨b, o + 1, .none⟩ = some (.int .i64 wd) → w.cell? ⟨b, o + 2, .none⟩ = some (.int .i64 n) →
      w.cell? ⟨b, o + 3, .none⟩ = some (.slice (.some ⟨b', o', .none⟩) ks.length cap) → ks.length ≤ 9223372036854775807 → N ≤ b' → (∀ (i : Nat) (h : i < ks.length), IsB N w b' (o' + i * 4) ks[i]) → IsB N w b o (.mk op wd n ks)
def KidsB (N : Nat) (w : World) (v : Value) (ks : List E) : Prop :=
  (v = .slice .none 0 0 ∧ ks = []) ∨ ∃ b o cap : Nat, v = .slice (.some ⟨b, o, .none⟩) ks.length cap ∧ ks.length ≤ 9223372036854775807 ∧ N ≤ b ∧ ∀ (i : Nat) (h : i < ks.length), IsB N w b (o + i * 4) ks[i]
/-- By value. -/
def EValB (N : Nat) (w : World) (v : Value) (e : E) : Prop := ∃ k, v = .agg #[.int .i64 e.op, .int .i64 e.wd, .int .i64 e.n, k] ∧ KidsB N w k e.kids

theorem IsB.isE {N : Nat} {w : World} {b o : Nat} {e : E} (h : IsB N w b o e) : IsE w b o e := by
  induction h with
  | leaf h0 h1 h2 h3 => exact .leaf h0 h1 h2 h3
  | node h0 h1 h2 h3 hl _ _ ih => exact .node h0 h1 h2 h3 hl ih
theorem KidsB.kids {N : Nat} {w : World} {v : Value} {ks : List E} (h : KidsB N w v ks) : Kids w v ks := by
  rcases h with h | ⟨b, o, cap, h1, hl, _, h2⟩
  · exact .inl ⟨⟨_, _, h.1⟩, h.2⟩
  · exact .inr ⟨b, o, cap, h1, hl, fun i hi => (h2 i hi).isE⟩
theorem EValB.eVal {N : Nat} {w : World} {v : Value} {e : E} (h : EValB N w v e) : EVal w v e := by
  obtain ⟨k, h1, h2⟩ := h; exact ⟨k, h1, h2.kids⟩
theorem IsB.mono {N N' : Nat} {w : World} {b o : Nat} {e : E} (h : IsB N w b o e) (hN : N' ≤ N) : IsB N' w b o e := by
  induction h with
  | leaf h0 h1 h2 h3 => exact .leaf h0 h1 h2 h3
  | node h0 h1 h2 h3 hl hb _ ih => exact .node h0 h1 h2 h3 hl (Nat.le_trans hN hb) ih
theorem KidsB.mono {N N' : Nat} {w : World} {v : Value} {ks : List E} (h : KidsB N w v ks) (hN : N' ≤ N) : KidsB N' w v ks := by
  rcases h with h | ⟨b, o, cap, h1, hl, hb, h2⟩
  · exact .inl h
  · exact .inr ⟨b, o, cap, h1, hl, Nat.le_trans hN hb, fun i hi => (h2 i hi).mono hN⟩
theorem EValB.mono {N N' : Nat} {w : World} {v : Value} {e : E} (h : EValB N w v e) (hN : N' ≤ N) : EValB N' w v e := by
  obtain ⟨k, h1, h2⟩ := h; exact ⟨k, h1, h2.mono hN⟩

/-- From N on, and block b, w' is as w. -/
def AsFrom (N : Nat) (w w' : World) : Prop := ∀ k, N ≤ k → k < w.heap.size → w'.heap[k]? = w.heap[k]?
theorem AsFrom.cell {N : Nat} {w w' : World} (h : AsFrom N w w') {p : Addr} {v : Value} (hp : N ≤ p.block) (hc : w.cell? p = some v) : w'.cell? p = some v := by
  rw [World.cell?_of_block (h p.block hp (block_lt hc))]; exact hc
theorem IsB.keep {N : Nat} {w w' : World} {b o : Nat} {e : E} (h : IsB N w b o e) (hb : N ≤ b) (hx : AsFrom N w w') : IsB N w' b o e := by
  induction h with
  | leaf h0 h1 h2 h3 => exact .leaf (hx.cell hb h0) (hx.cell hb h1) (hx.cell hb h2) (hx.cell hb h3)
  | node h0 h1 h2 h3 hl hb' _ ih => exact .node (hx.cell hb h0) (hx.cell hb h1) (hx.cell hb h2) (hx.cell hb h3) hl hb' (fun i hi => ih i hi hb')
theorem KidsB.keep {N : Nat} {w w' : World} {v : Value} {ks : List E} (h : KidsB N w v ks) (hx : AsFrom N w w') : KidsB N w' v ks := by
  rcases h with h | ⟨b, o, cap, h1, hl, hb, h2⟩
  · exact .inl h
  · exact .inr ⟨b, o, cap, h1, hl, hb, fun i hi => (h2 i hi).keep hb hx⟩
theorem EValB.keep {N : Nat} {w w' : World} {v : Value} {e : E} (h : EValB N w v e) (hx : AsFrom N w w') : EValB N w' v e := by
  obtain ⟨k, h1, h2⟩ := h; exact ⟨k, h1, h2.keep hx⟩
theorem Ext.asFrom {w w' : World} (h : Ext w w') (N : Nat) : AsFrom N w w' := fun k _ hk => h.block k hk
theorem asFrom_setCell {w : World} {N : Nat} {p : Addr} {v : Value} (hp : p.block < N) : AsFrom N w (w.setCell p v) := fun k hk _ => Below.heap_setCell _ _ _ _ (by omega)
theorem AsFrom.trans {N : Nat} {a b c : World} (h : AsFrom N a b) (hs : a.heap.size ≤ b.heap.size) (k : AsFrom N b c) : AsFrom N a c := fun i h1 h2 => (k i h1 (by omega)).trans (h i h1 h2)
theorem AsFrom.mono {N N' : Nat} {a b : World} (h : AsFrom N a b) (hN : N ≤ N') : AsFrom N' a b := fun i h1 h2 => h i (by omega) h2
theorem grownBy_asFrom {w w' : World} {g : Option Nat} {N : Nat} (h : w.grownBy w' g) (hg : ∀ k, g = some k → k < N) : AsFrom N w w' := fun k h1 h2 => h.block k h2 (fun e => by have := hg k e.symm; omega)

/-- A node without its kids. -/
def E.bare (e : E) : E := .mk e.op e.wd e.n []

end Go.Proofs.YtoopoljchhdobaaGreatDoor
namespace Go.Proofs.YtoopoljchhdobaaGreatDoor
open Go.RowKit

def put4 (w : World) (KB o : Nat) (a b c d : Value) : World := (((w.setCell ⟨KB, o, none⟩ a).setCell ⟨KB, o + 1, none⟩ b).setCell ⟨KB, o + 2, none⟩ c).setCell ⟨KB, o + 3, none⟩ d
theorem put4_other {w : World} {KB o : Nat} {a b c d : Value} (p : Addr) (h : p.block ≠ KB ∨ p.off < o ∨ o + 4 ≤ p.off) : (put4 w KB o a b c d).cell? p = w.cell? p := by
  unfold put4
  rw [World.cell?_setCell_other _ _ _ _ (by intro e; subst e; simp at h; omega), World.cell?_setCell_other _ _ _ _ (by intro e; subst e; simp at h; omega), World.cell?_setCell_other _ _ _ _ (by intro e; subst e; simp at h; omega), World.cell?_setCell_other _ _ _ _ (by intro e; subst e; simp at h; omega)]
theorem set_cell_some {w : World} {p q : Addr} {u v : Value} (h : w.cell? q = some u) : ∃ u', (w.setCell p v).cell? q = some u' := cell?_setCell_some h
theorem put4_here {w : World} {KB o : Nat} {a b c d : Value} (h : ∀ j, j < 4 → ∃ v, w.cell? ⟨KB, o + j, none⟩ = some v) :
    (put4 w KB o a b c d).cell? ⟨KB, o, none⟩ = some a ∧ (put4 w KB o a b c d).cell? ⟨KB, o + 1, none⟩ = some b ∧ (put4 w KB o a b c d).cell? ⟨KB, o + 2, none⟩ = some c ∧ (put4 w KB o a b c d).cell? ⟨KB, o + 3, none⟩ = some d := by
  obtain ⟨v0, g0⟩ := h 0 (by decide)
  rw [Nat.add_zero] at g0
  obtain ⟨v1, g1⟩ := h 1 (by decide)
  obtain ⟨v2, g2⟩ := h 2 (by decide)
  obtain ⟨v3, g3⟩ := h 3 (by decide)
  unfold put4
  refine ⟨?_, ?_, ?_, ?_⟩
  · rw [World.cell?_setCell_other _ _ _ _ (by simp), World.cell?_setCell_other _ _ _ _ (by simp), World.cell?_setCell_other _ _ _ _ (by simp), World.cell?_setCell_same _ _ _ g0]
  · obtain ⟨x1, y1⟩ := set_cell_some (p := ⟨KB, o, none⟩) (v := a) g1
    rw [World.cell?_setCell_other _ _ _ _ (by simp), World.cell?_setCell_other _ _ _ _ (by simp), World.cell?_setCell_same _ _ _ y1]
  · obtain ⟨x1, y1⟩ := set_cell_some (p := ⟨KB, o, none⟩) (v := a) g2
    obtain ⟨x2, y2⟩ := set_cell_some (p := ⟨KB, o + 1, none⟩) (v := b) y1
    rw [World.cell?_setCell_other _ _ _ _ (by simp), World.cell?_setCell_same _ _ _ y2]
  · obtain ⟨x1, y1⟩ := set_cell_some (p := ⟨KB, o, none⟩) (v := a) g3
    obtain ⟨x2, y2⟩ := set_cell_some (p := ⟨KB, o + 1, none⟩) (v := b) y1
    obtain ⟨x3, y3⟩ := set_cell_some (p := ⟨KB, o + 2, none⟩) (v := c) y2
    rw [World.cell?_setCell_same _ _ _ y3]
theorem put4_heap {w : World} {KB o : Nat} {a b c d : Value} (k : Nat) (h : k ≠ KB) : (put4 w KB o a b c d).heap[k]? = w.heap[k]? := by
  unfold put4
  rw [Below.heap_setCell _ _ _ _ h, Below.heap_setCell _ _ _ _ h, Below.heap_setCell _ _ _ _ h, Below.heap_setCell _ _ _ _ h]
theorem put4_size {w : World} {KB o : Nat} {a b c d : Value} : (put4 w KB o a b c d).heap.size = w.heap.size := by simp [put4, World.setCell]
theorem setCell_block {w : World} {KB o : Nat} {v : Value} {cur : Array Value} {t : TypeId} (h : w.heap[KB]? = some (.cells cur t (0, 0))) : (w.setCell ⟨KB, o, none⟩ v).heap[KB]? = some (.cells (cur.setIfInBounds o v) t (0, 0)) := by
  simp [World.setCell, Array.getElem?_modify, h]
theorem put4_block {w : World} {KB o : Nat} {a b c d : Value} {cur : Array Value} {t : TypeId} (h : w.heap[KB]? = some (.cells cur t (0, 0))) : ∃ cur', (put4 w KB o a b c d).heap[KB]? = some (.cells cur' t (0, 0)) ∧ cur'.size = cur.size :=
  ⟨_, setCell_block (setCell_block (setCell_block (setCell_block h))), by simp⟩

theorem cells_of_block {w : World} {R : Nat} {x y z u : Value} {t : TypeId} (h : w.heap[R]? = some (.cells #[x, y, z, u] t (0, 0))) :
    w.cell? ⟨R, 0, none⟩ = some x ∧ w.cell? ⟨R, 1, none⟩ = some y ∧ w.cell? ⟨R, 2, none⟩ = some z ∧ w.cell? ⟨R, 3, none⟩ = some u ∧ w.frozen? ⟨R, 0, none⟩ = false ∧ w.frozen? ⟨R, 1, none⟩ = false ∧ w.frozen? ⟨R, 2, none⟩ = false ∧ w.frozen? ⟨R, 3, none⟩ = false := by
  refine ⟨?_, ?_, ?_, ?_, ?_, ?_, ?_, ?_⟩ <;> simp [World.cell?, World.frozen?, h]
theorem put4_new {w : World} {R : Nat} {a b c d x y z u : Value} {t : TypeId} (h : w.heap[R]? = some (.cells #[a, b, c, d] t (0, 0))) : (put4 w R 0 x y z u).heap[R]? = some (.cells #[x, y, z, u] t (0, 0)) :=
  setCell_block (setCell_block (setCell_block (setCell_block h)))
theorem sizeExpr : (Tryz.prog.info? 24).map (·.size) = some 4 := by kernel_rfl
theorem grownBy_drew {a b : World} {g : Option Nat} (h : a.grownBy b g) : a.grownBy b.drew g := ⟨h.os, h.tape, h.output, h.size, h.block⟩
theorem Ext.grownBy {a b : World} (h : Ext a b) (g : Option Nat) : a.grownBy b g := ⟨h.os, h.tape, h.output, h.size, fun i hi _ => h.block i hi⟩
theorem below_put4 {M : Nat} {w : World} {R o : Nat} {x y z u : Value} (hR : M ≤ R) : Below M w (put4 w R o x y z u) := by
  unfold put4
  exact ((((Below.refl M w).setCell hR _).setCell hR _).setCell hR _).setCell hR _
theorem infoExpr : (Tryz.prog.info? 24).map (fun i => (i.zero, i.size, i.bytes)) = some (some (.agg #[.int .i64 0, .int .i64 0, .int .i64 0, .slice none 0 0]), 4, 48) := by kernel_rfl
end Go.Proofs.YtoopoljchhdobaaGreatDoor
namespace Go.Proofs.YtoopoljchhdobaaGreatDoor
open Go.RowKit

theorem results_row_tmpR {P : Program} {fn : Func} {p u : Tmp} {ty : TypeId} (h : fn.results = #[.cell p ty, .tmp u]) (tmps : Array Value) (w : World) (g : Nat) (t : TypeId) (cs : Array Value) (fr : Nat × Nat) (d : TypeDesc)
    (hp : tmps.getD p undef = .pointer (some ⟨g, 0, none⟩)) (hg : w.heap[g]? = some (.cells cs t fr))
    (hu : P.underlying ty = some d) (hd : (match d with | .struct _ | .array _ _ => true | _ => false) = true) (hi : (P.info? ty).map (·.size) = some cs.size) :
    (results fn tmps).run P w = .ok (.tuple #[.agg cs, tmps.getD u undef]) w := by
  rw [results_cell_tmp h, hp]
  simp [asAddr, run_loadVar_row w g t ty cs fr d hg hu hd hi, Result.andThen]

theorem RAt.lt {w0 w : World} {RB k : Nat} {lv : Value} (h : RAt w0 RB lv k w) : RB < w.heap.size := by
  rcases Nat.lt_or_ge RB w.heap.size with h1 | h1
  · exact h1
  · have := h.2; rw [Array.getElem?_eq_none_iff.2 h1] at this; cases this
theorem RAt.ext {w0 w w' : World} {RB k : Nat} {lv : Value} (h : RAt w0 RB lv k w) (hx : Ext w w') : RAt w0 RB lv k w' :=
  ⟨grownBy_tr h.1 ⟨hx.os, hx.tape, hx.output, hx.size, fun i hi _ => hx.block i hi⟩, by rw [hx.block RB h.lt]; exact h.2⟩
theorem ext_grown {w w' : World} (hx : Ext w w') (g : Option Nat) : w.grownBy w' g := ⟨hx.os, hx.tape, hx.output, hx.size, fun i hi _ => hx.block i hi⟩
/-- A block that is not the reader's stays. -/
theorem grown_block {w w' : World} {RB R : Nat} {o : Obj} (h : w.grownBy w' (some RB)) (hne : R ≠ RB) (hb : w.heap[R]? = some o) : w'.heap[R]? = some o := by
  have : R < w.heap.size := by
    rcases Nat.lt_or_ge R w.heap.size with h1 | h1
    · exact h1
    · rw [Array.getElem?_eq_none_iff.2 h1] at hb; cases hb
  rw [h.block R this (by simpa using hne)]; exact hb
theorem put4_grown {w0 w : World} {RB R k : Nat} {lv a b c d : Value} (h : RAt w0 RB lv k w) (hR : w0.heap.size ≤ R) (hne : R ≠ RB) : RAt w0 RB lv k (put4 w R 0 a b c d) := by
  refine ⟨⟨h.1.os, h.1.tape, h.1.output, by rw [put4_size]; exact h.1.size, fun i hi hi2 => ?_⟩, by rw [put4_heap _ (by omega)]; exact h.2⟩
  rw [put4_heap _ (by omega)]; exact h.1.block i hi hi2
theorem grown_put4 {w w' : World} {g : Option Nat} {R : Nat} {a b c d : Value} (h : w.grownBy w' g) (hR : w.heap.size ≤ R) : w.grownBy (put4 w' R 0 a b c d) g :=
  ⟨h.os, h.tape, h.output, by rw [put4_size]; exact h.size, fun i hi hi2 => by rw [put4_heap _ (by omega)]; exact h.block i hi hi2⟩

/-- A node without kids. -/
def leafS (op : Int) (s : List Int) : Option (E × Nat) :=
  match numS s with
  | none => none
  | some (n, c) => if s[c]? = some 58 then (match numS (s.drop (c + 1)) with | none => none | some (wd, c') => some (.mk op wd n [], c + 1 + c')) else none
/-- What the reading of an expression leaves: v is the value that comes back, right if the reading went well. -/
def LeafPost (w0 : World) (RB : Nat) (lv : Value) (l : List Int) (k : Nat) (sp : Option (E × Nat)) (w : World) (r : Ending) (w' : World) : Prop :=
  ∃ (e : E) (v : Value) (k' : Nat), r = .returned (.tuple #[v, .bool sp.isSome]) ∧ (v = .agg #[.int .i64 e.op, .int .i64 e.wd, .int .i64 e.n, .slice none 0 0] ∧ e.kids = []) ∧ w.grownBy w' (some RB) ∧ RAt w0 RB lv k' w' ∧ k' ≤ l.length ∧ ∀ (e' : E) (c : Nat), sp = some (e', c) → e = e' ∧ k' = k + c
theorem numS_some {s : List Int} {n : Int} {c : Nat} (h : numS s = some (n, c)) : c ≤ s.length := by
  have key : ∀ (s : List Int) (j : Nat) (m : Int), numFrom s j m = some (n, c) → c ≤ s.length + j := by
    intro s
    induction s with
    | nil => intro j m h; simp [numFrom] at h; omega
    | cons x r ih =>
      intro j m h
      simp only [numFrom] at h
      split at h
      · split at h
        · cases h
        · have := ih _ _ h; simp; omega
      · split at h
        · cases h; simp
        · cases h
  simpa using key s 0 0 h
theorem peek_drop {l : List Int} {k c : Nat} : ((l.drop k)[c]? = some 58) ↔ (peekS l (k + c) == 58) = true := by
  rw [List.getElem?_drop]
  unfold peekS
  cases l[k + c]? <;> simp

set_option maxHeartbeats 4000000 in
theorem leaf_any (w0 : World) (RB : Nat) (lv : Value) (l : List Int) (k : Nat) (op : Int) (w : World) (hl : RunesIn w0 RB lv l) (hR : RAt w0 RB lv k w) (hk : k ≤ l.length) :
    Calls Tryz.prog 21 #[.pointer (some ⟨RB, 0, none⟩), .int .i64 op] w (LeafPost w0 RB lv l k (leafS op (l.drop k)) w) := by
  have hRs := hR.lt
  have hws := hR.1.size
  have HL := Lib.hid hl; have HR := Lib.hid hR; clear hl hR
  go_enter Tryz.func21, Tryz.ntmps21
  go_wp2_with fail
  generalize hw1 : w.alloc _ = w1
  have hx1 : Ext w w1 := by rw [← hw1]; exact (Ext.refl w).alloc _
  have hb1 : w1.heap[w.heap.size]? = some (.cells #[.int .i64 0, .int .i64 0, .int .i64 0, .slice none 0 0] 24 (0, 0)) := by rw [← hw1]; exact heap_new _ _
  have HR1 := Lib.hid (HR.out.ext hx1)
  have HX1 := Lib.hid (ext_grown hx1 (some RB)); have HB1 := Lib.hid hb1
  clear hw1 hx1 hb1
  refine (number_any w0 RB lv l k w1 HL.out HR1.out hk).mono ?_
  rintro r w2 ⟨n, k1, rfl, hS2, hk1, hsp1⟩
  have hb2 := grown_block hS2.1 (by omega) HB1.out
  obtain ⟨c0, c1, c2, c3, f0, f1, f2, f3⟩ := cells_of_block hb2
  have HG2 := Lib.hid (grownBy_tr HX1.out hS2.1); have HR2 := Lib.hid hS2.2; have HB2 := Lib.hid hb2; have HSP1 := Lib.hid hsp1
  clear hS2 hb2 hsp1
  cases hq1 : numS (l.drop k) with
  | none =>
    have HLS : Hid (leafS op (l.drop k) = none) := by simp [Hid, leafS, hq1]
    clear hq1
    have HF : Hid (LeafPost w0 RB lv l k (leafS op (l.drop k)) w (.returned (.tuple #[.agg #[.int .i64 0, .int .i64 0, .int .i64 0, .slice none 0 0], .bool false])) (put4 w2 w.heap.size 0 (.int .i64 0) (.int .i64 0) (.int .i64 0) (.slice none 0 0))) := by
      refine ⟨.mk 0 0 0 [], _, k1, by rw [HLS.out]; rfl, ⟨rfl, rfl⟩, grown_put4 HG2.out (Nat.le_refl _), put4_grown HR2.out hws (by omega), hk1, fun e' c h => ?_⟩
      rw [HLS.out] at h; cases h
    have HB3 := Lib.hid (put4_new (x := .int .i64 0) (y := .int .i64 0) (z := .int .i64 0) (u := .slice none 0 0) HB2.out)
    go_wp2_with fail
    exact bodyPost_ret (v := .tuple #[.agg #[.int .i64 0, .int .i64 0, .int .i64 0, .slice none 0 0], .bool false]) (results_row_tmpR Tryz.results21 _ _ w.heap.size 24 _ (0, 0) _ rfl HB3.out Tryz.underlying24 rfl sizeExpr) rfl HF.out
  | some p1 =>
    obtain ⟨n', c1'⟩ := p1
    obtain ⟨rfl, rfl⟩ := HSP1.out _ _ hq1
    have HQ1 := Lib.hid hq1; clear hq1
    go_wp2_with fail
    refine (accept_any w0 RB lv l (k + c1') 58 w2 HL.out HR2.out hk1).mono ?_
    rintro r w3 ⟨rfl, hS3⟩
    cases ha : (peekS l (k + c1') == 58) with
    | false =>
      rw [ha] at hS3
      have HLS : Hid (leafS op (l.drop k) = none) := by
        unfold Hid leafS; rw [HQ1.out]; simp only
        rw [if_neg (by rw [peek_drop, ha]; simp)]
      have hb3 := grown_block hS3.1 (by omega) HB2.out
      obtain ⟨c0, c1, c2, c3, f0, f1, f2, f3⟩ := cells_of_block hb3
      have HF : Hid (LeafPost w0 RB lv l k (leafS op (l.drop k)) w (.returned (.tuple #[.agg #[.int .i64 0, .int .i64 0, .int .i64 0, .slice none 0 0], .bool false])) (put4 w3 w.heap.size 0 (.int .i64 0) (.int .i64 0) (.int .i64 0) (.slice none 0 0))) := by
        refine ⟨.mk 0 0 0 [], _, k + c1', by rw [HLS.out]; rfl, ⟨rfl, rfl⟩, grown_put4 (grownBy_tr HG2.out hS3.1) (Nat.le_refl _), put4_grown hS3.2 hws (by omega), hk1, fun e' c h => ?_⟩
        rw [HLS.out] at h; cases h
      have HB3 := Lib.hid (put4_new (x := .int .i64 0) (y := .int .i64 0) (z := .int .i64 0) (u := .slice none 0 0) hb3)
      clear hS3 hb3 ha
      go_wp2_with fail
      exact bodyPost_ret (v := .tuple #[.agg #[.int .i64 0, .int .i64 0, .int .i64 0, .slice none 0 0], .bool false]) (results_row_tmpR Tryz.results21 _ _ w.heap.size 24 _ (0, 0) _ rfl HB3.out Tryz.underlying24 rfl sizeExpr) rfl HF.out
    | true =>
      rw [ha, if_pos rfl] at hS3
      have hk2 : k + c1' + 1 ≤ l.length := by have := peekS_in (l := l) (k := k + c1') (by intro e; rw [e] at ha; simp at ha); omega
      have hb3 := grown_block hS3.1 (by omega) HB2.out
      have HG3 := Lib.hid (grownBy_tr HG2.out hS3.1); have HR3 := Lib.hid hS3.2; have HB3 := Lib.hid hb3
      have HA := Lib.hid ha
      clear hS3 hb3 ha
      go_wp2_with fail
      refine (number_any w0 RB lv l (k + c1' + 1) w3 HL.out HR3.out hk2).mono ?_
      rintro r w4 ⟨wd, k4, rfl, hS4, hk4, hsp4⟩
      have hb4 := grown_block hS4.1 (by omega) HB3.out
      obtain ⟨c0, c1, c2, c3, f0, f1, f2, f3⟩ := cells_of_block hb4
      have HLS : Hid (leafS op (l.drop k) = match numS (l.drop (k + c1' + 1)) with | none => none | some (wd, c') => some (.mk op wd n [], c1' + 1 + c')) := by
        unfold Hid leafS; rw [HQ1.out]; simp only
        rw [if_pos (by rw [peek_drop]; exact HA.out), List.drop_drop, show k + (c1' + 1) = k + c1' + 1 by omega]
      have HF : Hid (LeafPost w0 RB lv l k (leafS op (l.drop k)) w (.returned (.tuple #[.agg #[.int .i64 op, .int .i64 wd, .int .i64 n, .slice none 0 0], .bool (numS (l.drop (k + c1' + 1))).isSome])) (put4 w4 w.heap.size 0 (.int .i64 op) (.int .i64 wd) (.int .i64 n) (.slice none 0 0))) := by
        refine ⟨.mk op wd n [], _, k4, ?_, ⟨rfl, rfl⟩, grown_put4 (grownBy_tr HG3.out hS4.1) (Nat.le_refl _), put4_grown hS4.2 hws (by omega), hk4, fun e' c h => ?_⟩
        · rw [HLS.out]; cases numS (l.drop (k + c1' + 1)) <;> rfl
        · rw [HLS.out] at h
          cases hq : numS (l.drop (k + c1' + 1)) with
          | none => rw [hq] at h; cases h
          | some p =>
            obtain ⟨a, b⟩ := p
            rw [hq] at h
            obtain ⟨rfl, rfl⟩ := hsp4 _ _ hq
            cases h
            exact ⟨rfl, by omega⟩
      have HB4 := Lib.hid (put4_new (x := .int .i64 op) (y := .int .i64 wd) (z := .int .i64 n) (u := .slice none 0 0) hb4)
      clear hS4 hb4 hsp4
      generalize (numS (l.drop (k + c1' + 1))).isSome = ok at *
      go_wp2_with fail
      exact bodyPost_ret (v := .tuple #[.agg #[.int .i64 op, .int .i64 wd, .int .i64 n, .slice none 0 0], .bool ok]) (results_row_tmpR Tryz.results21 _ _ w.heap.size 24 _ (0, 0) _ rfl HB4.out Tryz.underlying24 rfl sizeExpr) rfl HF.out
end Go.Proofs.YtoopoljchhdobaaGreatDoor
