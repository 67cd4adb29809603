/-
  The walks of decide.pairs, Decide's closure and Decide.
-/
import Derived.Test.YtlcgbdjmlnjhcaaGreatDoorG24
import Derived.Test.YtlcgbdjmlnjhcaaGreatDoorG35
import Derived.Test.YtlcgbdjmlnjhcaaGreatDoorG34
import Derived.Test.YtlcgbdjmlnjhcaaGreatDoorG37
import Derived.Test.YtlcgbdjmlnjhcaaGreatDoorG33
namespace Go.Proofs.YtlcgbdjmlnjhcaaGreatDoor
open Go.RowKit Go.Shelf
attribute [local go_sem] Oper.semAt_some

set_option maxHeartbeats 1000000 in
theorem pairsD_in (n : Nat) (a1 a3 a4 : Option Addr) (l1 l3 l4 d1 d3 d4 : Nat) (k : Int) (w : World) :
    CallsIn Fence.wide n Tryz.prog 46 #[.slice a1 l1 d1, .slice a3 l3 d3, .slice a4 l4 d4, .int .i64 k] w fun e w' => e = .returned (.func (.func 74) #[] #[.pointer (some ⟨w.heap.size, 0, none⟩), .pointer (some ⟨w.heap.size + 3, 0, none⟩), .pointer (some ⟨w.heap.size + 1, 0, none⟩), .pointer (some ⟨w.heap.size + 2, 0, none⟩)]) ∧
      w' = (((w.alloc (.cells #[.slice a1 l1 d1] 22)).alloc (.cells #[.slice a3 l3 d3] 35)).alloc (.cells #[.slice a4 l4 d4] 35)).alloc (.cells #[.int .i64 k] 3) := by
  refine callsIn_of_wp Tryz.func46 rfl trivial ?_ rfl
  simp only [Tryz.ntmps46, List.size_toArray, List.length_cons, List.length_nil, Nat.reduceAdd, Nat.reduceSub, Array.replicate_succ, Array.replicate_zero, List.push_toArray, List.append_toArray, List.nil_append, List.cons_append]
  gi_wp2
  go_ret
  exact ⟨rfl, rfl⟩

set_option maxHeartbeats 1000000 in
theorem Falsifies_any (c : CondS) (Bc : Nat) (st1 st2 : List Int) (v1 v2 : Value) (w : World) (hc : CondIn w Bc c) (h1 : Ints w v1 st1) (h2 : Ints w v2 st2) (hM : Masks w) :
    Calls Tryz.prog 45 #[v1, v2, .pointer (some ⟨Bc, 0, none⟩)] w fun r w' => r = .returned (.bool (violB c.hyp c.goal st1 st2)) ∧ Ext w w' := by
  obtain ⟨ha, hl, hcp, ga, gl, gc, hat, e1, e2⟩ := hc
  obtain ⟨a1, d1, rfl⟩ := h1.shape
  obtain ⟨a2, d2, rfl⟩ := h2.shape
  obtain ⟨⟨q0, q1, q2, q3⟩, p0, p1, p2, p3⟩ := And.intro hat.hyp hat.goal
  have HE1 := Lib.hid e1; have HE2 := Lib.hid e2; have HI1 := Lib.hid h1; have HI2 := Lib.hid h2; have HM := Lib.hid hM
  have HV : Hid (violB c.hyp c.goal st1 st2 = (decide (c.hyp.eval st1 st2 = 1) && decide (c.goal.eval st1 st2 = 0))) := rfl
  clear hat e1 e2 h1 h2 hM
  go_enter Tryz.func45, Tryz.ntmps45
  go_wp2_with fail
  refine (Eval_any c.hyp _ _ _ st1 st2 _ HE1.out HI1.out HI2.out HM.out).mono ?_
  rintro r w1 ⟨rfl, x1⟩
  have HX1 := Lib.hid x1
  have p01 := x1.cell p0; have p11 := x1.cell p1; have p21 := x1.cell p2; have p31 := x1.cell p3
  clear x1 p0 p1 p2 p3 q0 q1 q2 q3
  generalize c.hyp.eval st1 st2 = x1 at *
  by_cases hq : x1 = 1
  · go_wp2_with fail
    refine (Eval_any c.goal _ _ _ st1 st2 _ (HE2.out.ext HX1.out) (HI1.out.ext HX1.out) (HI2.out.ext HX1.out) (HM.out.ext HX1.out)).mono ?_
    rintro r w2 ⟨rfl, x2⟩
    have HX2 := Lib.hid (HX1.out.trans x2)
    clear x2 p01 p11 p21 p31
    generalize c.goal.eval st1 st2 = y1 at *
    by_cases hq2 : y1 = 0
    · have HF : Hid (violB c.hyp c.goal st1 st2 = true) := by rw [Hid, HV.out, decide_eq_true hq, decide_eq_true hq2]; rfl
      go_wp2_with fail
      go_ret
      exact ⟨by rw [HF.out]; rfl, HX2.out⟩
    · have HF : Hid (violB c.hyp c.goal st1 st2 = false) := by rw [Hid, HV.out, decide_eq_false hq2]; simp
      go_wp2_with fail
      go_ret
      refine ⟨?_, HX2.out⟩
      rw [HF.out]
      show Ending.returned (.bool (y1 == 0)) = _
      simp [hq2]
  · have HF : Hid (violB c.hyp c.goal st1 st2 = false) := by rw [Hid, HV.out, decide_eq_false hq]; rfl
    go_wp2_with fail
    go_ret
    exact ⟨by rw [HF.out]; rfl, HX1.out⟩

/-- The four results: verdict, two states, error; in blocks b .. b + 3. -/
structure Res4 (b : Nat) (v : Int) (x y : Value) (e : Int) (w : World) : Prop where
  r0 : w.heap[b]? = some (.cells #[.int .i64 v] 3 (0, 0))
  r1 : w.heap[b + 1]? = some (.cells #[x] 35 (0, 0))
  r2 : w.heap[b + 2]? = some (.cells #[y] 35 (0, 0))
  r3 : w.heap[b + 3]? = some (.cells #[.int .i64 e] 30 (0, 0))
theorem Res4.ext {b : Nat} {v : Int} {x y : Value} {e : Int} {w w' : World} (h : Res4 b v x y e w) (hx : Ext w w') : Res4 b v x y e w' :=
  ⟨(hx.block _ (lt_heap h.r0)).trans h.r0, (hx.block _ (lt_heap h.r1)).trans h.r1, (hx.block _ (lt_heap h.r2)).trans h.r2, (hx.block _ (lt_heap h.r3)).trans h.r3⟩
theorem Res4.keep {b : Nat} {v : Int} {x y : Value} {e : Int} {w w' : World} (h : Res4 b v x y e w) (hx : ∀ k, k < b + 4 → w'.heap[k]? = w.heap[k]?) : Res4 b v x y e w' :=
  ⟨(hx _ (by omega)).trans h.r0, (hx _ (by omega)).trans h.r1, (hx _ (by omega)).trans h.r2, (hx _ (by omega)).trans h.r3⟩
theorem res4_set {b : Nat} {v : Int} {x y : Value} {e : Int} {w V : World} (h : Res4 b v x y e w) (v' : Int) (x' y' : Value) (e' : Int)
    (hV : V = (((w.setCell ⟨b, 0, none⟩ (.int .i64 v')).setCell ⟨b + 1, 0, none⟩ x').setCell ⟨b + 2, 0, none⟩ y').setCell ⟨b + 3, 0, none⟩ (.int .i64 e')) :
    Res4 b v' x' y' e' V ∧ (∀ k, (k < b ∨ b + 4 ≤ k) → V.heap[k]? = w.heap[k]?) ∧ ∀ u, Ext u w → u.heap.size ≤ b → Ext u V := by
  subst hV
  have o : ∀ (W : World) (k g : Nat) (z : Value), k ≠ g → (W.setCell ⟨g, 0, none⟩ z).heap[k]? = W.heap[k]? := fun W k g z hk => heap_setCell_other _ _ _ _ hk
  refine ⟨⟨?_, ?_, ?_, ?_⟩, fun k hk => ?_, fun u hu hb => ?_⟩
  · rw [o _ _ _ _ (by omega), o _ _ _ _ (by omega), o _ _ _ _ (by omega)]; exact heap_setCell_same _ _ _ _ _ _ h.r0
  · rw [o _ _ _ _ (by omega), o _ _ _ _ (by omega)]; exact heap_setCell_same _ _ _ _ _ _ ((o _ _ _ _ (by omega)).trans h.r1)
  · rw [o _ _ _ _ (by omega)]; exact heap_setCell_same _ _ _ _ _ _ ((o _ _ _ _ (by omega)).trans ((o _ _ _ _ (by omega)).trans h.r2))
  · exact heap_setCell_same _ _ _ _ _ _ ((o _ _ _ _ (by omega)).trans ((o _ _ _ _ (by omega)).trans ((o _ _ _ _ (by omega)).trans h.r3)))
  · rw [o _ _ _ _ (by omega), o _ _ _ _ (by omega), o _ _ _ _ (by omega), o _ _ _ _ (by omega)]
  · exact Below.setCell (Below.setCell (Below.setCell (Below.setCell hu (p := ⟨b, 0, none⟩) hb _) (p := ⟨b + 1, 0, none⟩) (by show _ ≤ b + 1; omega) _) (p := ⟨b + 2, 0, none⟩) (by show _ ≤ b + 2; omega) _) (p := ⟨b + 3, 0, none⟩) (by show _ ≤ b + 3; omega) _
theorem Res4.run {b : Nat} {v : Int} {x y : Value} {e : Int} {w : World} (h : Res4 b v x y e w) {tm : Array Value} (h4 : tm.getD 4 undef = .pointer (some ⟨b, 0, none⟩)) (h5 : tm.getD 5 undef = .pointer (some ⟨b + 1, 0, none⟩)) (h6 : tm.getD 6 undef = .pointer (some ⟨b + 2, 0, none⟩)) (h7 : tm.getD 7 undef = .pointer (some ⟨b + 3, 0, none⟩)) :
    (results Tryz.f13 tm).run Tryz.prog w = .ok (.tuple #[.int .i64 v, x, y, .int .i64 e]) w := by
  have g4 : tm[4]?.getD undef = .pointer (some ⟨b, 0, none⟩) := by simpa using h4
  have g5 : tm[5]?.getD undef = .pointer (some ⟨b + 1, 0, none⟩) := by simpa using h5
  have g6 : tm[6]?.getD undef = .pointer (some ⟨b + 2, 0, none⟩) := by simpa using h6
  have g7 : tm[7]?.getD undef = .pointer (some ⟨b + 3, 0, none⟩) := by simpa using h7
  have k0 : w.cell? ⟨b, 0, none⟩ = some (.int .i64 v) := by rw [Lib.cell_of_heap h.r0]; rfl
  have k1 : w.cell? ⟨b + 1, 0, none⟩ = some x := by rw [Lib.cell_of_heap h.r1]; rfl
  have k2 : w.cell? ⟨b + 2, 0, none⟩ = some y := by rw [Lib.cell_of_heap h.r2]; rfl
  have k3 : w.cell? ⟨b + 3, 0, none⟩ = some (.int .i64 e) := by rw [Lib.cell_of_heap h.r3]; rfl
  simp [results, Tryz.results13, g4, g5, g6, g7, asAddr, go_sem, k0, k1, k2, k3]
/-- What Decide answers. -/
def DecPost (cells : List CellD) (h g : E) (w : World) (r : Ending) (w' : World) : Prop :=
  (((condF cells h && condF cells g) = false ∧ r = .returned (.tuple #[.int .i64 0, .slice none 0 0, .slice none 0 0, .int .i64 60])) ∨
    ((condF cells h && condF cells g) = true ∧ (((∀ old now, violB h g old now = false) ∧ r = .returned (.tuple #[.int .i64 1, .slice none 0 0, .slice none 0 0, .int .i64 0])) ∨
      ∃ st1 st2 v1 v2, violB h g st1 st2 = true ∧ Ints w' v1 st1 ∧ Ints w' v2 st2 ∧ r = .returned (.tuple #[.int .i64 2, v1, v2, .int .i64 0])))) ∧ Ext w w'

structure Boxes5 (w0 W : World) (x0 x1 x2 x3 x4 : Obj) : Prop where
  eq : W = ((((w0.alloc x0).alloc x1).alloc x2).alloc x3).alloc x4
  ext : Ext w0 W
  size : W.heap.size = w0.heap.size + 5
  b0 : W.heap[w0.heap.size]? = some x0
  b1 : W.heap[w0.heap.size + 1]? = some x1
  b2 : W.heap[w0.heap.size + 2]? = some x2
  b3 : W.heap[w0.heap.size + 3]? = some x3
  b4 : W.heap[w0.heap.size + 4]? = some x4
theorem Boxes5.mk' (w0 : World) (x0 x1 x2 x3 x4 : Obj) : Boxes5 w0 (((((w0.alloc x0).alloc x1).alloc x2).alloc x3).alloc x4) x0 x1 x2 x3 x4 := by
  have h3 := Boxes3.mk' w0 x0 x1 x2
  generalize ((w0.alloc x0).alloc x1).alloc x2 = V at *
  have h2 := Boxes.mk' V x3 x4
  have e := h3.eq
  have s := h3.size
  refine ⟨by rw [e], h3.ext.trans h2.ext, by rw [h2.size, s], ?_, ?_, ?_, ?_, ?_⟩
  · exact (h2.ext.block _ (by omega)).trans h3.b0
  · exact (h2.ext.block _ (by omega)).trans h3.b1
  · exact (h2.ext.block _ (by omega)).trans h3.b2
  · have := h2.b0; rwa [s] at this
  · have := h2.b1; rwa [s] at this
theorem Boxes4.mk' (w0 : World) (x0 x1 x2 x3 : Obj) {W : World} (h : W = (((w0.alloc x0).alloc x1).alloc x2).alloc x3) : Ext w0 W ∧ W.heap.size = w0.heap.size + 4 ∧ W.heap[w0.heap.size]? = some x0 ∧ W.heap[w0.heap.size + 1]? = some x1 ∧ W.heap[w0.heap.size + 2]? = some x2 ∧ W.heap[w0.heap.size + 3]? = some x3 := by
  have h3 := Boxes3.mk' w0 x0 x1 x2
  subst h
  generalize ((w0.alloc x0).alloc x1).alloc x2 = V at *
  have s := h3.size
  have x : Ext V (V.alloc x3) := (Ext.refl _).alloc _
  refine ⟨h3.ext.trans x, by rw [World.size_alloc, s], ?_, ?_, ?_, ?_⟩
  · exact (x.block _ (by omega)).trans h3.b0
  · exact (x.block _ (by omega)).trans h3.b1
  · exact (x.block _ (by omega)).trans h3.b2
  · have := heap_new V x3; rwa [s] at this
theorem res4_keeps (b : Nat) (v' : Int) (x' y' : Value) (e' : Int) (B : Nat) {w V : World} (hV : V = (((w.setCell ⟨b, 0, none⟩ (.int .i64 v')).setCell ⟨b + 1, 0, none⟩ x').setCell ⟨b + 2, 0, none⟩ y').setCell ⟨b + 3, 0, none⟩ (.int .i64 e')) : KeepsFrom B w V := by
  subst hV
  exact (((KeepsOthers.setCell _ _ _).from _).trans ((KeepsOthers.setCell _ _ _).from _)).trans (((KeepsOthers.setCell _ _ _).from _).trans ((KeepsOthers.setCell _ _ _).from _))
theorem Res4.grown {b : Nat} {v : Int} {x y : Value} {e : Int} {w w' : World} {row : Option Nat} (h : Res4 b v x y e w) (hg : w.grownBy w' row) (hr : ∀ r, row = some r → ∃ o : Obj, w.heap[r]? = some o ∧ o.isCells = false) : Res4 b v x y e w' :=
  ⟨(grown_oth hg hr _ _ h.r0 rfl).trans h.r0, (grown_oth hg hr _ _ h.r1 rfl).trans h.r1, (grown_oth hg hr _ _ h.r2 rfl).trans h.r2, (grown_oth hg hr _ _ h.r3 rfl).trans h.r3⟩
theorem IRow.grown {w w' : World} {g L : Nat} {f : Nat → Int} {row : Option Nat} (h : IRow w g L f) (hg : w.grownBy w' row) (hr : ∀ r, row = some r → ∃ o : Obj, w.heap[r]? = some o ∧ o.isCells = false) : IRow w' g L f := by
  obtain ⟨c, hc, h2⟩ := h
  exact ⟨c, (grown_oth hg hr _ _ hc rfl).trans hc, h2⟩
theorem IRow.extB {w w' : World} {g L : Nat} {f : Nat → Int} (h : IRow w g L f) (hx : Ext w w') : IRow w' g L f := by
  obtain ⟨c, hc, h2⟩ := h
  exact ⟨c, (hx.block _ (lt_heap hc)).trans hc, h2⟩
def rowL (L : Nat) (f : Nat → Int) : List Int := (List.range L).map f
theorem rowL_dig {cs ws : List Int} {n : Int} {f : Nat → Int} {L : Nat} (h : DigTo cs ws n f cs.length) (hb : ∀ c ∈ cs, 0 ≤ c ∧ c < (L : Int)) : DigL cs ws n (rowL L f) := fun i hi => by
  have h1 := hb _ (List.getElem_mem hi)
  have hg : cs.getD i 0 = cs[i] := by simp [List.getD, hi]
  rw [← hg] at h1
  rw [← h i hi]
  unfold elemS rowL
  rw [List.getD_eq_getElem?_getD, List.getElem?_map, List.getElem?_range (by omega)]
  rfl
theorem ext_stepX {w A B : World} {b : Nat} (hb : w.heap.size ≤ b) (h : Ext w A) (hx : StepX (fun k => k = b ∨ k = b + 1) A B) : Ext w B :=
  ⟨hx.os.trans h.os, hx.tape.trans h.tape, hx.output.trans h.output, Nat.le_trans h.size hx.size, fun k hk => (hx.block k (Nat.lt_of_lt_of_le hk h.size) (by omega)).trans (h.block k hk)⟩
theorem sums_take {cells : List CellD} {l : List Int} (hb : ∀ c ∈ l, 1 ≤ wAt cells c ∧ wAt cells c ≤ 8) (k : Nat) : 0 ≤ sumI (wOf cells (l.take k)) ∧ sumI (wOf cells (l.take k)) ≤ 8 * (k : Int) := by
  induction k with
  | zero => exact ⟨Int.le_refl _, Int.le_refl _⟩
  | succ k ih =>
    by_cases hk : k < l.length
    · rw [List.take_succ_eq_append_getElem hk, wOf_app, sumI_snoc]
      have := hb _ (List.getElem_mem hk)
      omega
    · rw [List.take_of_length_le (by omega)] at ih ⊢
      omega
theorem IRow.block {w w' : World} {g L : Nat} {f : Nat → Int} (h : IRow w g L f) (e : w'.heap[g]? = w.heap[g]?) : IRow w' g L f := World.rowIs.of_block h e

set_option maxRecDepth 100000 in
set_option maxHeartbeats 16000000 in
theorem Decide_any (c : CondS) (cells : List CellD) (cv kv : Value) (w : World) (hc : CondV w cv c) (hC : Cells w kv cells) (hM : Masks w) (hL : cells.length ≤ 1000) (hsm : condF cells c.hyp = true → condF cells c.goal = true → sumI (wOf cells (hOld cells c.hyp c.goal)) + sumI (wOf cells (hNow cells c.hyp c.goal)) ≤ 12) :
    Calls Tryz.prog 13 #[kv, cv] w (DecPost cells c.hyp c.goal w) := by
  have HCV := Lib.hid hc
  obtain ⟨ha, hl, hcp, ga, gl, gc, rfl, e1, e2⟩ := hc
  obtain ⟨ka, kc, rfl⟩ := SliceAt.shape hC
  obtain ⟨W, hW⟩ : ∃ W, Boxes5 w W (.cells (condCells c ha hl hcp ga gl gc) 27) (.cells #[.int .i64 0] 3) (.cells #[.slice none 0 0] 35) (.cells #[.slice none 0 0] 35) (.cells #[.int .i64 0] 30) := ⟨_, Boxes5.mk' _ _ _ _ _ _⟩
  have hX := hW.ext
  have hat : CondAt W w.heap.size c ha hl hcp ga gl gc := hW.b0
  have HIN : Hid (CondIn W w.heap.size c) := ⟨ha, hl, hcp, ga, gl, gc, hat, e1.ext hX, e2.ext hX⟩
  have HRES : Hid (Res4 (w.heap.size + 1) 0 (.slice none 0 0) (.slice none 0 0) 0 W) := ⟨hW.b1, hW.b2, hW.b3, hW.b4⟩
  have HE1 := Lib.hid (e1.ext hX); have HE2 := Lib.hid (e2.ext hX); have HC := Lib.hid (hC.ext hX); have HM := Lib.hid (hM.ext hX); have HX := Lib.hid hX; have HWE := Lib.hid hW.eq; have HGE : Hid (∀ V, Ext W V → w.heap.size + 5 ≤ V.heap.size) := fun V h => by have h1 := h.size; have h2 := hW.size; omega
  have HAT := Lib.hid hat; have HSM := Lib.hid hsm
  replace HCV := Lib.hid (HCV.out.ext hX)
  obtain ⟨⟨q0, q1, q2, q3⟩, p0, p1, p2, p3⟩ := And.intro hat.hyp hat.goal
  have hcl := SliceAt.len_le hC
  clear hX hat hW e1 e2 hC hM hsm
  unfold condCells at *
  refine (callsIn_wide (n := 4)).1 ?_
  refine callsIn_of_wp_marks Tryz.func13 rfl trivial ?_ rfl
  simp only [Tryz.ntmps13, List.size_toArray, List.length_cons, List.length_nil, Nat.reduceAdd, Nat.reduceSub, Array.replicate_succ, Array.replicate_zero, List.push_toArray, List.append_toArray, List.nil_append, List.cons_append]
  gi_upto_region 1 with fail
  rw [← HWE.out]; clear HWE
  obtain ⟨V, hV⟩ : ∃ V, V = W.alloc (.cells #[.int .i64 c.hyp.op, .int .i64 c.hyp.wd, .int .i64 c.hyp.n, .slice ha hl hcp, .int .i64 c.goal.op, .int .i64 c.goal.wd, .int .i64 c.goal.n, .slice ga gl gc] 25) := ⟨_, rfl⟩
  have xv : Ext W V := by rw [hV]; exact (Ext.refl _).alloc _
  have hvb : V.heap[W.heap.size]? = some (.cells #[.int .i64 c.hyp.op, .int .i64 c.hyp.wd, .int .i64 c.hyp.n, .slice ha hl hcp, .int .i64 c.goal.op, .int .i64 c.goal.wd, .int .i64 c.goal.n, .slice ga gl gc] 25 (0, 0)) := by rw [hV]; exact heap_new _ _
  have HXV := Lib.hid xv; have HVB := Lib.hid hvb; have HV := Lib.hid hV
  clear xv hvb hV
  gi_wp2
  rw [← HV.out]
  clear HV q0 q1 q2 q3 p0 p1 p2 p3
  generalize W.heap.size = rb at *
  gi_loopw [26] (fun iv wr => ∃ i : Nat, i ≤ 2 ∧ iv = .int .i64 i ∧ Ext V wr ∧ (0 < i → condF cells c.hyp = true) ∧ (1 < i → condF cells c.goal = true)) (fun iv _ => 2 - (intOf iv).toNat)
  case atStart => exact ⟨0, by omega, rfl, Ext.refl _, fun h => absurd h (by omega), fun h => absurd h (by omega)⟩
  case round =>
    obtain ⟨i, hi, rfl, hX, hc1, hc2⟩ := hrel
    have HXr := Lib.hid hX; have HC1 := Lib.hid hc1; have HC2 := Lib.hid hc2
    clear hX hc1 hc2
    have hi3 : i = 0 ∨ i = 1 ∨ i = 2 := by omega
    rcases hi3 with rfl | rfl | rfl
    · have hvb := HXr.out.block _ (lt_heap HVB.out)
      rw [HVB.out] at hvb
      have u0 : wr.cell? ⟨rb, 0, none⟩ = some (.int .i64 c.hyp.op) := by rw [Lib.cell_of_heap hvb]; rfl
      have u1 : wr.cell? ⟨rb, 1, none⟩ = some (.int .i64 c.hyp.wd) := by rw [Lib.cell_of_heap hvb]; rfl
      have u2 : wr.cell? ⟨rb, 2, none⟩ = some (.int .i64 c.hyp.n) := by rw [Lib.cell_of_heap hvb]; rfl
      have u3 : wr.cell? ⟨rb, 3, none⟩ = some (.slice ha hl hcp) := by rw [Lib.cell_of_heap hvb]; rfl
      clear hvb
      gi_upto_region 4 with fail
      obtain ⟨W2, hW2⟩ : ∃ W2, W2 = wr.alloc (.cells #[.int .i64 c.hyp.op, .int .i64 c.hyp.wd, .int .i64 c.hyp.n, .slice ha hl hcp] 25) := ⟨_, rfl⟩
      have hxw : Ext wr W2 := by rw [hW2]; exact (Ext.refl _).alloc _
      have hb2 : W2.heap[wr.heap.size]? = some (.cells #[.int .i64 c.hyp.op, .int .i64 c.hyp.wd, .int .i64 c.hyp.n, .slice ha hl hcp] 25 (0, 0)) := by rw [hW2]; exact heap_new _ _
      rw [← hW2]
      obtain ⟨m0, m1, m2, m3⟩ := blocks4 hb2
      have HXW2 := Lib.hid (HXr.out.trans hxw)
      clear hW2 hb2 hxw u0 u1 u2 u3
      have hW2x := HXV.out.trans HXW2.out
      cases hwb : (c.hyp.wd == 1) with
      | true =>
        have hwn : (c.hyp.wd != 1) = false := by unfold bne; rw [hwb]; rfl
        gi_wp2
        refine ⟨trivial, (callsIn_wide.2 (Valid_any c.hyp _ _ cells true _ (HE1.out.ext hW2x) (HC.out.ext hW2x) (HM.out.ext hW2x))).mono ?_⟩
        rintro r w3 ⟨rfl, x3⟩
        have HX3 := Lib.hid (HXW2.out.trans x3)
        clear x3 m0 m1 m2 m3 hW2x
        cases hv : c.hyp.valid cells true with
        | false =>
          have HFF : Hid (condF cells c.hyp = false) := by unfold Hid condF; rw [hwb, hv]; rfl
          clear hv
          have hres := HRES.out.ext (HXV.out.trans HX3.out)
          obtain ⟨r0, r1, r2, r3⟩ := id hres
          have k0 : w3.cell? ⟨w.heap.size + 1, 0, none⟩ = some (.int .i64 0) := by rw [Lib.cell_of_heap r0]; rfl
          have k1 : w3.cell? ⟨w.heap.size + 1 + 1, 0, none⟩ = some (.slice none 0 0) := by rw [Lib.cell_of_heap r1]; rfl
          have k2 : w3.cell? ⟨w.heap.size + 1 + 2, 0, none⟩ = some (.slice none 0 0) := by rw [Lib.cell_of_heap r2]; rfl
          have k3 : w3.cell? ⟨w.heap.size + 1 + 3, 0, none⟩ = some (.int .i64 0) := by rw [Lib.cell_of_heap r3]; rfl
          have f0 := Lib.frozen_of_heap r0 0; have f1 := Lib.frozen_of_heap r1 0; have f2 := Lib.frozen_of_heap r2 0; have f3 := Lib.frozen_of_heap r3 0
          obtain ⟨V9, hV9⟩ : ∃ V9, V9 = (((w3.setCell ⟨w.heap.size + 1, 0, none⟩ (.int .i64 0)).setCell ⟨w.heap.size + 1 + 1, 0, none⟩ (.slice none 0 0)).setCell ⟨w.heap.size + 1 + 2, 0, none⟩ (.slice none 0 0)).setCell ⟨w.heap.size + 1 + 3, 0, none⟩ (.int .i64 60) := ⟨_, rfl⟩
          obtain ⟨j1, j2, j3⟩ := res4_set hres 0 (.slice none 0 0) (.slice none 0 0) 60 hV9
          have HJ1 := Lib.hid j1; have HXE := Lib.hid (j3 w (HX.out.trans (HXV.out.trans HX3.out)) (by omega)); have HV9 := Lib.hid hV9
          clear j1 j2 j3 hV9 hres r0 r1 r2 r3
          gi_wp2
          rw [← HV9.out]
          refine ⟨_, HJ1.out.run rfl rfl rfl rfl, ?_⟩
          exact ⟨.inl ⟨by rw [HFF.out]; rfl, rfl⟩, HXE.out⟩
        | true =>
          have HFT : Hid (condF cells c.hyp = true) := by unfold Hid condF; rw [hwb, hv]; rfl
          clear hv
          gi_wp2
          go_roundw
          case rel => exact ⟨1, by omega, rfl, HX3.out, fun _ => HFT.out, fun h => absurd h (by omega)⟩
          case measure => simp [intOf]
      | false =>
        have HFF : Hid (condF cells c.hyp = false) := by unfold Hid condF; rw [hwb]; rfl
        have hwn : (c.hyp.wd != 1) = true := by unfold bne; rw [hwb]; rfl
        gi_wp2
        refine ⟨trivial, ?_⟩
        have hres := HRES.out.ext (HXV.out.trans HXW2.out)
        obtain ⟨r0, r1, r2, r3⟩ := id hres
        have k0 : W2.cell? ⟨w.heap.size + 1, 0, none⟩ = some (.int .i64 0) := by rw [Lib.cell_of_heap r0]; rfl
        have k1 : W2.cell? ⟨w.heap.size + 1 + 1, 0, none⟩ = some (.slice none 0 0) := by rw [Lib.cell_of_heap r1]; rfl
        have k2 : W2.cell? ⟨w.heap.size + 1 + 2, 0, none⟩ = some (.slice none 0 0) := by rw [Lib.cell_of_heap r2]; rfl
        have k3 : W2.cell? ⟨w.heap.size + 1 + 3, 0, none⟩ = some (.int .i64 0) := by rw [Lib.cell_of_heap r3]; rfl
        have f0 := Lib.frozen_of_heap r0 0; have f1 := Lib.frozen_of_heap r1 0; have f2 := Lib.frozen_of_heap r2 0; have f3 := Lib.frozen_of_heap r3 0
        obtain ⟨V9, hV9⟩ : ∃ V9, V9 = (((W2.setCell ⟨w.heap.size + 1, 0, none⟩ (.int .i64 0)).setCell ⟨w.heap.size + 1 + 1, 0, none⟩ (.slice none 0 0)).setCell ⟨w.heap.size + 1 + 2, 0, none⟩ (.slice none 0 0)).setCell ⟨w.heap.size + 1 + 3, 0, none⟩ (.int .i64 60) := ⟨_, rfl⟩
        obtain ⟨j1, j2, j3⟩ := res4_set hres 0 (.slice none 0 0) (.slice none 0 0) 60 hV9
        have HJ1 := Lib.hid j1; have HXE := Lib.hid (j3 w (HX.out.trans (HXV.out.trans HXW2.out)) (by omega)); have HV9 := Lib.hid hV9
        clear j1 j2 j3 hV9 hres r0 r1 r2 r3
        gi_wp2
        rw [← HV9.out]
        refine ⟨_, HJ1.out.run rfl rfl rfl rfl, ?_⟩
        exact ⟨.inl ⟨by rw [HFF.out]; rfl, rfl⟩, HXE.out⟩
    · have hvb := HXr.out.block _ (lt_heap HVB.out)
      rw [HVB.out] at hvb
      have u0 : wr.cell? ⟨rb, 4, none⟩ = some (.int .i64 c.goal.op) := by rw [Lib.cell_of_heap hvb]; rfl
      have u1 : wr.cell? ⟨rb, 5, none⟩ = some (.int .i64 c.goal.wd) := by rw [Lib.cell_of_heap hvb]; rfl
      have u2 : wr.cell? ⟨rb, 6, none⟩ = some (.int .i64 c.goal.n) := by rw [Lib.cell_of_heap hvb]; rfl
      have u3 : wr.cell? ⟨rb, 7, none⟩ = some (.slice ga gl gc) := by rw [Lib.cell_of_heap hvb]; rfl
      clear hvb
      gi_upto_region 4 with fail
      obtain ⟨W2, hW2⟩ : ∃ W2, W2 = wr.alloc (.cells #[.int .i64 c.goal.op, .int .i64 c.goal.wd, .int .i64 c.goal.n, .slice ga gl gc] 25) := ⟨_, rfl⟩
      have hxw : Ext wr W2 := by rw [hW2]; exact (Ext.refl _).alloc _
      have hb2 : W2.heap[wr.heap.size]? = some (.cells #[.int .i64 c.goal.op, .int .i64 c.goal.wd, .int .i64 c.goal.n, .slice ga gl gc] 25 (0, 0)) := by rw [hW2]; exact heap_new _ _
      rw [← hW2]
      obtain ⟨m0, m1, m2, m3⟩ := blocks4 hb2
      have HXW2 := Lib.hid (HXr.out.trans hxw)
      clear hW2 hb2 hxw u0 u1 u2 u3
      have hW2x := HXV.out.trans HXW2.out
      cases hwb : (c.goal.wd == 1) with
      | true =>
        have hwn : (c.goal.wd != 1) = false := by unfold bne; rw [hwb]; rfl
        gi_wp2
        refine ⟨trivial, (callsIn_wide.2 (Valid_any c.goal _ _ cells true _ (HE2.out.ext hW2x) (HC.out.ext hW2x) (HM.out.ext hW2x))).mono ?_⟩
        rintro r w3 ⟨rfl, x3⟩
        have HX3 := Lib.hid (HXW2.out.trans x3)
        clear x3 m0 m1 m2 m3 hW2x
        cases hv : c.goal.valid cells true with
        | false =>
          have HFF : Hid (condF cells c.goal = false) := by unfold Hid condF; rw [hwb, hv]; rfl
          clear hv
          have hres := HRES.out.ext (HXV.out.trans HX3.out)
          obtain ⟨r0, r1, r2, r3⟩ := id hres
          have k0 : w3.cell? ⟨w.heap.size + 1, 0, none⟩ = some (.int .i64 0) := by rw [Lib.cell_of_heap r0]; rfl
          have k1 : w3.cell? ⟨w.heap.size + 1 + 1, 0, none⟩ = some (.slice none 0 0) := by rw [Lib.cell_of_heap r1]; rfl
          have k2 : w3.cell? ⟨w.heap.size + 1 + 2, 0, none⟩ = some (.slice none 0 0) := by rw [Lib.cell_of_heap r2]; rfl
          have k3 : w3.cell? ⟨w.heap.size + 1 + 3, 0, none⟩ = some (.int .i64 0) := by rw [Lib.cell_of_heap r3]; rfl
          have f0 := Lib.frozen_of_heap r0 0; have f1 := Lib.frozen_of_heap r1 0; have f2 := Lib.frozen_of_heap r2 0; have f3 := Lib.frozen_of_heap r3 0
          obtain ⟨V9, hV9⟩ : ∃ V9, V9 = (((w3.setCell ⟨w.heap.size + 1, 0, none⟩ (.int .i64 0)).setCell ⟨w.heap.size + 1 + 1, 0, none⟩ (.slice none 0 0)).setCell ⟨w.heap.size + 1 + 2, 0, none⟩ (.slice none 0 0)).setCell ⟨w.heap.size + 1 + 3, 0, none⟩ (.int .i64 60) := ⟨_, rfl⟩
          obtain ⟨j1, j2, j3⟩ := res4_set hres 0 (.slice none 0 0) (.slice none 0 0) 60 hV9
          have HJ1 := Lib.hid j1; have HXE := Lib.hid (j3 w (HX.out.trans (HXV.out.trans HX3.out)) (by omega)); have HV9 := Lib.hid hV9
          clear j1 j2 j3 hV9 hres r0 r1 r2 r3
          gi_wp2
          rw [← HV9.out]
          refine ⟨_, HJ1.out.run rfl rfl rfl rfl, ?_⟩
          exact ⟨.inl ⟨by rw [HFF.out, Bool.and_false], rfl⟩, HXE.out⟩
        | true =>
          have HFT : Hid (condF cells c.goal = true) := by unfold Hid condF; rw [hwb, hv]; rfl
          clear hv
          gi_wp2
          go_roundw
          case rel => exact ⟨2, by omega, rfl, HX3.out, fun _ => HC1.out (by omega), fun _ => HFT.out⟩
          case measure => simp [intOf]
      | false =>
        have HFF : Hid (condF cells c.goal = false) := by unfold Hid condF; rw [hwb]; rfl
        have hwn : (c.goal.wd != 1) = true := by unfold bne; rw [hwb]; rfl
        gi_wp2
        refine ⟨trivial, ?_⟩
        have hres := HRES.out.ext (HXV.out.trans HXW2.out)
        obtain ⟨r0, r1, r2, r3⟩ := id hres
        have k0 : W2.cell? ⟨w.heap.size + 1, 0, none⟩ = some (.int .i64 0) := by rw [Lib.cell_of_heap r0]; rfl
        have k1 : W2.cell? ⟨w.heap.size + 1 + 1, 0, none⟩ = some (.slice none 0 0) := by rw [Lib.cell_of_heap r1]; rfl
        have k2 : W2.cell? ⟨w.heap.size + 1 + 2, 0, none⟩ = some (.slice none 0 0) := by rw [Lib.cell_of_heap r2]; rfl
        have k3 : W2.cell? ⟨w.heap.size + 1 + 3, 0, none⟩ = some (.int .i64 0) := by rw [Lib.cell_of_heap r3]; rfl
        have f0 := Lib.frozen_of_heap r0 0; have f1 := Lib.frozen_of_heap r1 0; have f2 := Lib.frozen_of_heap r2 0; have f3 := Lib.frozen_of_heap r3 0
        obtain ⟨V9, hV9⟩ : ∃ V9, V9 = (((W2.setCell ⟨w.heap.size + 1, 0, none⟩ (.int .i64 0)).setCell ⟨w.heap.size + 1 + 1, 0, none⟩ (.slice none 0 0)).setCell ⟨w.heap.size + 1 + 2, 0, none⟩ (.slice none 0 0)).setCell ⟨w.heap.size + 1 + 3, 0, none⟩ (.int .i64 60) := ⟨_, rfl⟩
        obtain ⟨j1, j2, j3⟩ := res4_set hres 0 (.slice none 0 0) (.slice none 0 0) 60 hV9
        have HJ1 := Lib.hid j1; have HXE := Lib.hid (j3 w (HX.out.trans (HXV.out.trans HXW2.out)) (by omega)); have HV9 := Lib.hid hV9
        clear j1 j2 j3 hV9 hres r0 r1 r2 r3
        gi_wp2
        rw [← HV9.out]
        refine ⟨_, HJ1.out.run rfl rfl rfl rfl, ?_⟩
        exact ⟨.inl ⟨by rw [HFF.out, Bool.and_false], rfl⟩, HXE.out⟩
    · have hf1 := HC1.out (by omega); have hf2 := HC2.out (by omega)
      have hfc := condF_form hf1; have hgc := condF_form hf2
      have HFT : Hid ((condF cells c.hyp && condF cells c.goal) = true) := by unfold Hid; rw [hf1, hf2]; rfl
      have hs12 := HSM.out hf1 hf2
      have HWR := Lib.hid (HXV.out.trans HXr.out)
      obtain ⟨⟨d0, d1, d2, d3, d4, d5, d6, d7, d8, d9, d10, d11, d12, d13⟩, _⟩ := blocks14 ((HWR.out.block _ (lt_heap HAT.out)).trans HAT.out)
      obtain ⟨hso, hsn⟩ := sums_pos hfc hgc
      obtain ⟨bo, hbo⟩ := Int.eq_ofNat_of_zero_le hso
      obtain ⟨bn, hbn⟩ := Int.eq_ofNat_of_zero_le hsn
      have h12 : bo + bn ≤ 12 := by omega
      have HNUM := Lib.hid (dec_num hfc hgc hbo hbn h12)
      have hP1 := (unionL_law c.hyp.supOld c.goal.supOld).1; have hP2 := (unionL_law c.hyp.supNow c.goal.supNow).1
      have hU1 := union_old hfc hgc; have hU2 := union_now hfc hgc
      have hl1 := unionL_len c.hyp.supOld c.goal.supOld; have hl2 := unionL_len c.hyp.supNow c.goal.supNow
      have s1 := supOld_len c.hyp; have s2 := supOld_len c.goal; have s3 := supNow_len c.hyp; have s4 := supNow_len c.goal
      rw [hU1] at hP1 hl1; rw [hU2] at hP2 hl2
      have hB1 : ∀ x ∈ hOld cells c.hyp c.goal, 0 ≤ x ∧ x < (cells.length : Int) ∧ 1 ≤ wAt cells x ∧ wAt cells x ≤ 8 := fun x hx => by have := old_w hfc hgc hx; omega
      have hB2 : ∀ x ∈ hNow cells c.hyp c.goal, 0 ≤ x ∧ x < (cells.length : Int) ∧ 1 ≤ wAt cells x ∧ wAt cells x ≤ 8 := fun x hx => by have := now_w hfc hgc hx; omega
      have HSUP := Lib.hid (DSupport_any c _ wr (HCV.out.ext HWR.out) (HM.out.ext HWR.out))
      rw [hU1, hU2] at HSUP
      have ho64 : (hOld cells c.hyp c.goal).length ≤ 64 := by omega
      have hn64 : (hNow cells c.hyp c.goal).length ≤ 64 := by omega
      have HP1 := Lib.hid hP1; have HP2 := Lib.hid hP2; have HB1 := Lib.hid hB1; have HB2 := Lib.hid hB2; have HBO := Lib.hid hbo; have HBN := Lib.hid hbn
      clear hf1 hf2 hfc hgc hs12 hso hsn hbo hbn hP1 hP2 hU1 hU2 hl1 hl2 s1 s2 s3 s4 hB1 hB2 HXr HC1 HC2 hi
      generalize hOld cells c.hyp c.goal = o at *
      generalize hNow cells c.hyp c.goal = nw at *
      gi_wp2
      refine ⟨trivial, (callsIn_wide.2 (HSUP.out.mono ?_))⟩
      rintro r w2 ⟨⟨v1, v2, rfl, i1, i2⟩, x2⟩
      obtain ⟨a1, e1, rfl⟩ := i1.shape
      obtain ⟨a2, e2, rfl⟩ := i2.shape
      have HX2 := Lib.hid (HWR.out.trans x2)
      obtain ⟨V2, hV2⟩ : ∃ V2, V2 = w2.alloc (.cells #[.slice a1 o.length e1, .slice a2 nw.length e2] 35) := ⟨_, rfl⟩
      have xv2 : Ext w2 V2 := by rw [hV2]; exact (Ext.refl _).alloc _
      have hvb2 : V2.heap[w2.heap.size]? = some (.cells #[.slice a1 o.length e1, .slice a2 nw.length e2] 35 (0, 0)) := by rw [hV2]; exact heap_new _ _
      have HI1 := Lib.hid (i1.ext xv2); have HI2 := Lib.hid (i2.ext xv2); have HXV2 := Lib.hid (HX2.out.trans xv2); have HVB2 := Lib.hid hvb2; have HV2 := Lib.hid hV2
      clear i1 i2 x2 xv2 hvb2 hV2 d0 d1 d2 d3 d4 d5 d6 d7 d8 d9 d10 d11 d12 d13
      gi_wp2
      rw [← HV2.out]
      clear HV2
      generalize w2.heap.size = rc at *
      gi_loopw [49, 12] (fun iv bv wr => ∃ j : Nat, j ≤ 2 ∧ iv = .int .i64 j ∧ bv = .int .i64 (if j = 0 then 0 else if j = 1 then (bo : Int) else (bo : Int) + (bn : Int)) ∧ Ext V2 wr) (fun iv _ _ => 2 - (intOf iv).toNat)
      case atStart => exact ⟨0, by omega, rfl, rfl, Ext.refl _⟩
      case round =>
        obtain ⟨j, hj, rfl, rfl, hX⟩ := hrel
        have HXr := Lib.hid hX
        clear hX
        have hj3 : j = 0 ∨ j = 1 ∨ j = 2 := by omega
        rcases hj3 with rfl | rfl | rfl
        · have hvb := HXr.out.block _ (lt_heap HVB2.out)
          rw [HVB2.out] at hvb
          have u0 : wr.cell? ⟨rc, 0, none⟩ = some (.slice a1 o.length e1) := by rw [Lib.cell_of_heap hvb]; rfl
          clear hvb
          have hif : (if 0 = 0 then (0 : Int) else if 0 = 1 then (bo : Int) else (bo : Int) + (bn : Int)) = (0 : Int) := by simp
          rw [hif]
          gi_wp2
          gi_loopw [55, 12] (fun iv bv wr => ∃ k : Nat, k ≤ o.length ∧ iv = .int .i64 k ∧ bv = .int .i64 ((0 : Int) + sumI (wOf cells (o.take k))) ∧ Ext V2 wr) (fun iv _ _ => o.length - (intOf iv).toNat)
          case atStart => exact ⟨0, Nat.zero_le _, rfl, by simp [wOf, sumI], HXr.out⟩
          case round =>
            clear u0 hif
            obtain ⟨k, hk, rfl, rfl, hX⟩ := hrel
            have HXi := Lib.hid hX
            clear hX HXr
            by_cases hlt : k < o.length
            · rcases HI1.out with ⟨_, ee⟩ | ⟨b3, o3, cap3, ee, _, hcl3⟩
              · rw [ee] at hlt; simp at hlt
              cases ee
              have g0 : wr.cell? ⟨b3, o3 + k, none⟩ = some (.int .i64 o[k]) := by have := HXi.out.cell (hcl3 k hlt); rw [Nat.mul_one] at this; exact this
              have hbd := HB1.out _ (List.getElem_mem hlt)
              have hst := sums_take (fun c hc => (HB1.out c hc).2.2) k
              have HSN : Hid (sumI (wOf cells (o.take (k + 1))) = sumI (wOf cells (o.take k)) + wAt cells o[k]) := by unfold Hid; rw [List.take_succ_eq_append_getElem hlt, wOf_app, sumI_snoc]
              obtain ⟨cN, hcN⟩ := Int.eq_ofNat_of_zero_le hbd.1
              have hcL : cN < cells.length := by omega
              have hxc : ∃ (cb co : Nat), ka = some ⟨cb, co, none⟩ ∧ wr.cell? ⟨cb, co + cN * 6 + 1, none⟩ = some (.int .i64 (wAt cells o[k])) := by
                rcases HC.out with ⟨_, ee⟩ | ⟨cb, co, cap', ee, _, hcc⟩
                · rw [ee] at hcL; simp at hcL
                cases ee
                refine ⟨cb, co, rfl, ?_⟩
                rw [(HXV2.out.trans HXi.out).cell (hcc cN hcL).2.1]
                congr 2
                unfold wAt
                rw [hcN]
                simp [hcL]
              obtain ⟨cb, co, rfl, hcW⟩ := hxc
              rw [hcN] at g0 hbd HSN hcW
              clear hcl3 hcN
              generalize wAt cells (cN : Int) = wd at *
              generalize hsk : sumI (wOf cells (o.take k)) = sk at *
              clear hsk
              have hcI : (cN : Int) < (cells.length : Int) := by omega
              have hc0 : (0 : Int) ≤ (cN : Int) := by omega
              have hwr : wrap64 ((0 : Int) + sk + wd) = (0 : Int) + sk + wd := by unfold wrap64; omega
              gi_wp2
              go_roundw
              case rel => exact ⟨k + 1, by omega, by go_num, by rw [HSN.out]; simp, HXi.out⟩
              case measure => simp [intOf]; omega
            · obtain rfl : k = o.length := by omega
              have hse : sumI (wOf cells (o.take o.length)) = _ := (congrArg (fun l => sumI (wOf cells l)) (List.take_length)).trans HBO.out
              rw [hse]
              clear hse
              gi_wp2
              go_roundw
              case rel => exact ⟨1, by omega, rfl, by simp, HXi.out⟩
              case measure => simp [intOf]
        · have hvb := HXr.out.block _ (lt_heap HVB2.out)
          rw [HVB2.out] at hvb
          have u0 : wr.cell? ⟨rc, 1, none⟩ = some (.slice a2 nw.length e2) := by rw [Lib.cell_of_heap hvb]; rfl
          clear hvb
          have hif : (if 1 = 0 then (0 : Int) else if 1 = 1 then (bo : Int) else (bo : Int) + (bn : Int)) = (bo : Int) := by simp
          rw [hif]
          gi_wp2
          gi_loopw [55, 12] (fun iv bv wr => ∃ k : Nat, k ≤ nw.length ∧ iv = .int .i64 k ∧ bv = .int .i64 ((bo : Int) + sumI (wOf cells (nw.take k))) ∧ Ext V2 wr) (fun iv _ _ => nw.length - (intOf iv).toNat)
          case atStart => exact ⟨0, Nat.zero_le _, rfl, by simp [wOf, sumI], HXr.out⟩
          case round =>
            clear u0 hif
            obtain ⟨k, hk, rfl, rfl, hX⟩ := hrel
            have HXi := Lib.hid hX
            clear hX HXr
            by_cases hlt : k < nw.length
            · rcases HI2.out with ⟨_, ee⟩ | ⟨b3, o3, cap3, ee, _, hcl3⟩
              · rw [ee] at hlt; simp at hlt
              cases ee
              have g0 : wr.cell? ⟨b3, o3 + k, none⟩ = some (.int .i64 nw[k]) := by have := HXi.out.cell (hcl3 k hlt); rw [Nat.mul_one] at this; exact this
              have hbd := HB2.out _ (List.getElem_mem hlt)
              have hst := sums_take (fun c hc => (HB2.out c hc).2.2) k
              have HSN : Hid (sumI (wOf cells (nw.take (k + 1))) = sumI (wOf cells (nw.take k)) + wAt cells nw[k]) := by unfold Hid; rw [List.take_succ_eq_append_getElem hlt, wOf_app, sumI_snoc]
              obtain ⟨cN, hcN⟩ := Int.eq_ofNat_of_zero_le hbd.1
              have hcL : cN < cells.length := by omega
              have hxc : ∃ (cb co : Nat), ka = some ⟨cb, co, none⟩ ∧ wr.cell? ⟨cb, co + cN * 6 + 1, none⟩ = some (.int .i64 (wAt cells nw[k])) := by
                rcases HC.out with ⟨_, ee⟩ | ⟨cb, co, cap', ee, _, hcc⟩
                · rw [ee] at hcL; simp at hcL
                cases ee
                refine ⟨cb, co, rfl, ?_⟩
                rw [(HXV2.out.trans HXi.out).cell (hcc cN hcL).2.1]
                congr 2
                unfold wAt
                rw [hcN]
                simp [hcL]
              obtain ⟨cb, co, rfl, hcW⟩ := hxc
              rw [hcN] at g0 hbd HSN hcW
              clear hcl3 hcN
              generalize wAt cells (cN : Int) = wd at *
              generalize hsk : sumI (wOf cells (nw.take k)) = sk at *
              clear hsk
              have hcI : (cN : Int) < (cells.length : Int) := by omega
              have hc0 : (0 : Int) ≤ (cN : Int) := by omega
              have hwr : wrap64 ((bo : Int) + sk + wd) = (bo : Int) + sk + wd := by unfold wrap64; omega
              gi_wp2
              go_roundw
              case rel => exact ⟨k + 1, by omega, by go_num, by rw [HSN.out]; simp [Int.add_assoc], HXi.out⟩
              case measure => simp [intOf]; omega
            · obtain rfl : k = nw.length := by omega
              have hse : sumI (wOf cells (nw.take nw.length)) = _ := (congrArg (fun l => sumI (wOf cells l)) (List.take_length)).trans HBN.out
              rw [hse]
              clear hse
              gi_wp2
              go_roundw
              case rel => exact ⟨2, by omega, rfl, by simp, HXi.out⟩
              case measure => simp [intOf]
        · have h4096 : bo + bn ≤ 12 := h12
          have hif : (if 2 = 0 then (0 : Int) else if 2 = 1 then (bo : Int) else (bo : Int) + (bn : Int)) = (((bo + bn : Nat) : Int)) := by simp
          rw [hif]
          clear hif
          have HXN := Lib.hid (HXV2.out.trans HXr.out)
          have HXRR := Lib.hid HXr.out
          clear hj HXr HVB2
          obtain ⟨bt, hbt⟩ : ∃ bt, bt = bo + bn := ⟨_, rfl⟩
          have hbt12 : ¬ ((14 : Int) < (bt : Int)) := by omega
          rw [← hbt]
          have HBT := Lib.hid hbt
          clear hbt h4096
          gi_upto_region 20 with fail
          gi_upto_region 21 with fail
          obtain ⟨WF, hWF⟩ : ∃ WF, WF = wr.alloc (.cells #[.func (.func 45) #[] #[.pointer (some ⟨w.heap.size, 0, none⟩)]] 79) := ⟨_, rfl⟩
          have hbF : WF.heap[wr.heap.size]? = some (.cells #[.func (.func 45) #[] #[.pointer (some ⟨w.heap.size, 0, none⟩)]] 79 (0, 0)) := by rw [hWF]; exact heap_new _ _
          have xF : Ext wr WF := by rw [hWF]; exact (Ext.refl _).alloc _
          have HXF := Lib.hid (HXN.out.trans xF); have HBF := Lib.hid hbF
          have HI1o := Lib.hid (HI1.out.ext (HXRR.out.trans xF)); have HI2o := Lib.hid (HI2.out.ext (HXRR.out.trans xF))
          rw [← hWF]
          clear hWF xF hbF HXN
          generalize wr.heap.size = rf at *
          gi_wp2
          refine ⟨trivial, (pairsD_in _ _ _ _ _ _ _ _ _ _ _ _).mono ?_⟩
          rintro r V3 ⟨rfl, hV3⟩
          obtain ⟨x3, z3, b0, b1, b2, b3⟩ := Boxes4.mk' _ _ _ _ _ hV3
          have hXV3 := HXF.out.trans x3
          have HX3 := Lib.hid (HX.out.trans hXV3)
          have HX3W := Lib.hid hXV3
          have HWV : Hid (w.heap.size + 5 ≤ V3.heap.size) := HGE.out _ hXV3
          have HBF3 := Lib.hid ((x3.block _ (lt_heap HBF.out)).trans HBF.out)
          have HR3 := Lib.hid (HRES.out.ext hXV3)
          have HPA : Hid (PairAt cells o nw bt (.slice ka cells.length kc) (.slice a1 o.length e1) (.slice a2 nw.length e2) WF.heap.size (WF.heap.size + 3) (WF.heap.size + 1) (WF.heap.size + 2) V3) :=
            ⟨by rw [Lib.cell_of_heap b0]; rfl, HC.out.ext hXV3, by rw [Lib.cell_of_heap b3]; rfl, by rw [Lib.cell_of_heap b1]; rfl, HI1o.out.ext x3, by rw [Lib.cell_of_heap b2]; rfl, HI2o.out.ext x3⟩
          clear hV3 x3 z3 b0 b1 b2 b3 hXV3
          generalize WF.heap.size = q at *
          have HG := Lib.hid (pairs1_gives 3 (by omega) cells o nw bo bn (.slice ka cells.length kc) (.slice a1 o.length e1) (.slice a2 nw.length e2) q (q + 3) (q + 1) (q + 2) V3 hL HBO.out HBN.out h12 HP1.out HP2.out HB1.out HB2.out)
          rw [← HBT.out] at HG HNUM
          have hwv := HWV.out
          gi_wp2
          refine wpIn_range_S rfl (by omega) (gf := 74) (lb := #[.pointer (some ⟨q, 0, none⟩), .pointer (some ⟨q + 3, 0, none⟩), .pointer (some ⟨q + 1, 0, none⟩), .pointer (some ⟨q + 2, 0, none⟩)]) rfl trivial (enters_of Tryz.func74 (by kernel_rfl) rfl)
            HG.out (Below.refl _ _) (fun k h => by rcases h with h | h <;> omega) (fun _ => rfl)
            (fun pre W => Ext V3 W ∧ ∀ x ∈ pre, ∃ r1 r2, DigL o (wOf cells o) ((x : PX).n : Int) r1 ∧ DigL nw (wOf cells nw) ((x.n : Int) / pw (bo : Int)) r2 ∧ violB c.hyp c.goal r1 r2 = false)
            (fun cc pre W => cc = .ret ∧ Ext w W ∧ ∃ (ga gb : Nat) (f1 f2 : Nat → Int), Res4 (w.heap.size + 1) 2 (.slice (some ⟨ga, 0, none⟩) cells.length cells.length) (.slice (some ⟨gb, 0, none⟩) cells.length cells.length) 0 W ∧ IRow W ga cells.length f1 ∧ IRow W gb cells.length f2 ∧ violB c.hyp c.goal (rowL cells.length f1) (rowL cells.length f2) = true)
            (ext_own (Nat.le_refl _) _) (fun s A B h hx => ⟨ext_stepX (b := V3.heap.size + 2) (by omega) h.1 hx, h.2⟩) (fun s A h => HPA.out.ext h.1)
            (fun cc s A B row h hg hr => ⟨h.1, h.2.1.grown hg (fun k e => by have := (hr k e).1; omega), by
              obtain ⟨ga, gb, f1, f2, g1, g2, g3, g4⟩ := h.2.2
              exact ⟨ga, gb, f1, f2, g1.grown hg (fun r e => (hr r e).2), g2.grown hg (fun r e => (hr r e).2), g3.grown hg (fun r e => (hr r e).2), g4⟩⟩)
            ⟨Ext.refl _, fun x h => by cases h⟩ ?a1 ?assign (fun b x A B h hk => h.keep hk) ?body ?done ?stop
          case assign =>
            intro lp x W K hK
            dsimp only [encP]
            gi_wp2
            exact hK
          case body =>
            rintro lp pre x W ⟨hX, hpre⟩ hgd hsz _
            obtain ⟨hxn, hxa, hxb, f1, f2, hr1, hr2, hd1, hd2⟩ := hgd
            have hbF := (hX.block _ (lt_heap HBF3.out)).trans HBF3.out
            have y0 : W.cell? ⟨rf, 0, none⟩ = some (.func (.func 45) #[] #[.pointer (some ⟨w.heap.size, 0, none⟩)]) := by rw [Lib.cell_of_heap hbF]; rfl
            have hXW := HX3W.out.trans hX
            have HFAL := Lib.hid (Falsifies_any c w.heap.size (rowL cells.length f1) (rowL cells.length f2) _ _ W (HIN.out.ext hXW) (hr1.ints hL) (hr2.ints hL) (HM.out.ext hXW))
            have HD1 := Lib.hid (rowL_dig hd1 fun c hc => ⟨(HB1.out c hc).1, (HB1.out c hc).2.1⟩)
            have HD2 := Lib.hid (rowL_dig hd2 fun c hc => ⟨(HB2.out c hc).1, (HB2.out c hc).2.1⟩)
            have HXV := Lib.hid hX; have HPR := Lib.hid hpre; have HXW := Lib.hid hXW; have HI1 := Lib.hid hr1; have HI2 := Lib.hid hr2
            clear hX hpre hXW hr1 hr2 hd1 hd2 hbF
            gi_wp2
            refine ⟨trivial, CallsIn.inRound lp (callsIn_wide.2 (HFAL.out.mono ?_))⟩
            rintro r w5 ⟨rfl, x5⟩
            have X5 := Lib.hid x5
            clear x5 y0
            cases hv : violB c.hyp c.goal (rowL cells.length f1) (rowL cells.length f2) with
            | true =>
              have HVT := Lib.hid hv
              clear hv
              have hX5 := HXV.out.trans X5.out
              have hres := HR3.out.ext hX5
              obtain ⟨r0, r1, r2, r3⟩ := id hres
              have k0 : w5.cell? ⟨w.heap.size + 1, 0, none⟩ = some (.int .i64 0) := by rw [Lib.cell_of_heap r0]; rfl
              have k1 : w5.cell? ⟨w.heap.size + 1 + 1, 0, none⟩ = some (.slice none 0 0) := by rw [Lib.cell_of_heap r1]; rfl
              have k2 : w5.cell? ⟨w.heap.size + 1 + 2, 0, none⟩ = some (.slice none 0 0) := by rw [Lib.cell_of_heap r2]; rfl
              have k3 : w5.cell? ⟨w.heap.size + 1 + 3, 0, none⟩ = some (.int .i64 0) := by rw [Lib.cell_of_heap r3]; rfl
              have f0 := Lib.frozen_of_heap r0 0; have f1' := Lib.frozen_of_heap r1 0; have f2' := Lib.frozen_of_heap r2 0; have f3 := Lib.frozen_of_heap r3 0
              obtain ⟨V9, hV9⟩ : ∃ V9, V9 = (((w5.setCell ⟨w.heap.size + 1, 0, none⟩ (.int .i64 2)).setCell ⟨w.heap.size + 1 + 1, 0, none⟩ (.slice (some ⟨x.a, 0, none⟩) cells.length cells.length)).setCell ⟨w.heap.size + 1 + 2, 0, none⟩ (.slice (some ⟨x.b, 0, none⟩) cells.length cells.length)).setCell ⟨w.heap.size + 1 + 3, 0, none⟩ (.int .i64 0) := ⟨_, rfl⟩
              obtain ⟨j1, j2, j3⟩ := res4_set hres 2 (.slice (some ⟨x.a, 0, none⟩) cells.length cells.length) (.slice (some ⟨x.b, 0, none⟩) cells.length cells.length) 0 hV9
              have HJ1 := Lib.hid j1; have HXE := Lib.hid (j3 w (HX3.out.trans hX5) (by omega)); have HV9 := Lib.hid hV9
              have HKF := Lib.hid (res4_keeps (w.heap.size + 1) 2 _ _ 0 V3.heap.size hV9)
              have HI1' := Lib.hid ((HI1.out.extB X5.out).block (j2 x.a (.inr (by omega))))
              have HI2' := Lib.hid ((HI2.out.extB X5.out).block (j2 x.b (.inr (by omega))))
              clear j1 j2 j3 hV9 hres r0 r1 r2 r3 hX5
              gi_wp2
              rw [← HV9.out]
              exact ⟨(X5.out.keepsFrom _).trans HKF.out, rfl, HXE.out, x.a, x.b, f1, f2, HJ1.out, HI1'.out, HI2'.out, HVT.out⟩
            | false =>
              have HVF := Lib.hid hv
              clear hv
              gi_wp2
              refine ⟨X5.out.keepsFrom _, ⟨X5.out.size, fun k cs t fr _ hk => (X5.out.block k (lt_heap hk)).trans hk⟩, HXV.out.trans X5.out, fun y hy => ?_⟩
              rcases List.mem_append.1 hy with hy | hy
              · exact HPR.out y hy
              · rw [List.mem_singleton] at hy; subst hy; exact ⟨_, _, HD1.out, HD2.out, HVF.out⟩
          case done =>
            rintro D xs W hD hxs ⟨hX, hall⟩ hK
            have HYES : Hid (∀ old now, violB c.hyp c.goal old now = false) := fun old now => by
              obtain ⟨n, hn, hk⟩ := HNUM.out old now
              have hm : n ∈ xs.map PX.n := by rw [hxs]; exact List.mem_range.2 hn
              obtain ⟨x, hx, rfl⟩ := List.mem_map.1 hm
              obtain ⟨r1, r2, d1, d2, hv⟩ := hall x hx
              rw [← hk r1 r2 d1 d2]; exact hv
            have hres := HR3.out.ext hX
            obtain ⟨r0, r1, r2, r3⟩ := id hres
            have k0 : W.cell? ⟨w.heap.size + 1, 0, none⟩ = some (.int .i64 0) := by rw [Lib.cell_of_heap r0]; rfl
            have k1 : W.cell? ⟨w.heap.size + 1 + 1, 0, none⟩ = some (.slice none 0 0) := by rw [Lib.cell_of_heap r1]; rfl
            have k2 : W.cell? ⟨w.heap.size + 1 + 2, 0, none⟩ = some (.slice none 0 0) := by rw [Lib.cell_of_heap r2]; rfl
            have k3 : W.cell? ⟨w.heap.size + 1 + 3, 0, none⟩ = some (.int .i64 0) := by rw [Lib.cell_of_heap r3]; rfl
            have f0 := Lib.frozen_of_heap r0 0; have f1' := Lib.frozen_of_heap r1 0; have f2' := Lib.frozen_of_heap r2 0; have f3 := Lib.frozen_of_heap r3 0
            obtain ⟨V9, hV9⟩ : ∃ V9, V9 = (((W.setCell ⟨w.heap.size + 1, 0, none⟩ (.int .i64 1)).setCell ⟨w.heap.size + 1 + 1, 0, none⟩ (.slice none 0 0)).setCell ⟨w.heap.size + 1 + 2, 0, none⟩ (.slice none 0 0)).setCell ⟨w.heap.size + 1 + 3, 0, none⟩ (.int .i64 0) := ⟨_, rfl⟩
            obtain ⟨j1, j2, j3⟩ := res4_set hres 1 (.slice none 0 0) (.slice none 0 0) 0 hV9
            have HXE := Lib.hid (j3 w (HX3.out.trans hX) (by omega)); have HV9 := Lib.hid hV9
            have HKD : Hid (V9.heap[D]? = some (.deferred (some []))) := (j2 D (.inr (by omega))).trans hK
            have HJP : Hid (Res4 (w.heap.size + 1) 1 (.slice none 0 0) (.slice none 0 0) 0 (V9.putObj D (.deferred none))) := j1.keep fun k hk => World.putObj_heap_other (by omega)
            clear j1 j2 j3 hV9 hres r0 r1 r2 r3 hxs hX hall hK
            gi_wp2
            rw [← HV9.out]
            refine ⟨by simp, .inl ⟨_, _, rfl, run_takeDeferred HKD.out, ?_⟩⟩
            refine ⟨_, HJP.out.run rfl rfl rfl rfl, ?_⟩
            exact ⟨.inr ⟨HFT.out, .inl ⟨HYES.out, rfl⟩⟩, HXE.out.putD (by omega) _⟩
          case stop =>
            rintro D cc pre W hD _ ⟨rfl, hX, ga', gb', f1, f2, hres, hr1, hr2, hv⟩ hK
            have HK := Lib.hid hK; have HX := Lib.hid hX
            have HJP : Hid (Res4 (w.heap.size + 1) 2 (.slice (some ⟨ga', 0, none⟩) cells.length cells.length) (.slice (some ⟨gb', 0, none⟩) cells.length cells.length) 0 (W.putObj D (.deferred none))) := hres.keep fun k hk => World.putObj_heap_other (by omega)
            have key : ∀ {g : Nat} {f : Nat → Int}, IRow W g cells.length f → IRow (W.putObj D (.deferred none)) g cells.length f := fun {g f} h => h.block (World.putObj_heap_other (fun e => by
              obtain ⟨cc, hc, _⟩ := h
              rw [e, hK] at hc; cases hc))
            have HI1 := Lib.hid ((key hr1).ints hL); have HI2 := Lib.hid ((key hr2).ints hL); have HVT := Lib.hid hv
            clear hK hX hres hr1 hr2 hv key
            gi_wp2
            refine ⟨by simp, .inl ⟨_, _, rfl, run_takeDeferred HK.out, ?_⟩⟩
            refine ⟨_, HJP.out.run rfl rfl rfl rfl, ?_⟩
            exact ⟨.inr ⟨HFT.out, .inr ⟨_, _, _, _, HVT.out, HI1.out, HI2.out, rfl⟩⟩, HX.out.putD (by omega) _⟩
end Go.Proofs.YtlcgbdjmlnjhcaaGreatDoor
