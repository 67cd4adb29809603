/-
  The walk of hint.Strengthen.
-/
import Derived.Test.YtlcgbdjmlnjhcaaGreatDoorG29
import Derived.Test.YtlcgbdjmlnjhcaaGreatDoorG32
namespace Go.Proofs.YtlcgbdjmlnjhcaaGreatDoor
open Go.RowKit Go.Shelf

theorem set14 {w V : World} {g : Nat} {t : TypeId} {x0 x1 x2 x3 x4 x5 x6 x7 x8 x9 x10 x11 x12 x13 v0 v1 v2 v3 v4 v5 v6 v7 v8 v9 v10 v11 v12 v13 : Value} (hV : V = ((((((((((((((w).setCell ⟨g, 0, none⟩ (v0)).setCell ⟨g, 1, none⟩ (v1)).setCell ⟨g, 2, none⟩ (v2)).setCell ⟨g, 3, none⟩ (v3)).setCell ⟨g, 4, none⟩ (v4)).setCell ⟨g, 5, none⟩ (v5)).setCell ⟨g, 6, none⟩ (v6)).setCell ⟨g, 7, none⟩ (v7)).setCell ⟨g, 8, none⟩ (v8)).setCell ⟨g, 9, none⟩ (v9)).setCell ⟨g, 10, none⟩ (v10)).setCell ⟨g, 11, none⟩ (v11)).setCell ⟨g, 12, none⟩ (v12)).setCell ⟨g, 13, none⟩ (v13)) (h : w.heap[g]? = some (.cells #[x0, x1, x2, x3, x4, x5, x6, x7, x8, x9, x10, x11, x12, x13] t (0, 0))) :
    V.heap[g]? = some (.cells #[v0, v1, v2, v3, v4, v5, v6, v7, v8, v9, v10, v11, v12, v13] t (0, 0)) ∧ (∀ k, k ≠ g → V.heap[k]? = w.heap[k]?) ∧ ∀ u, Ext u w → u.heap.size ≤ g → Ext u V := by
  subst hV
  refine ⟨?_, ?_, fun u hu hg => ?_⟩
  · have k0 := h
    have k1 := heap_setCell_same _ g 0 _ _ v0 k0
    have k2 := heap_setCell_same _ g 1 _ _ v1 k1
    have k3 := heap_setCell_same _ g 2 _ _ v2 k2
    have k4 := heap_setCell_same _ g 3 _ _ v3 k3
    have k5 := heap_setCell_same _ g 4 _ _ v4 k4
    have k6 := heap_setCell_same _ g 5 _ _ v5 k5
    have k7 := heap_setCell_same _ g 6 _ _ v6 k6
    have k8 := heap_setCell_same _ g 7 _ _ v7 k7
    have k9 := heap_setCell_same _ g 8 _ _ v8 k8
    have k10 := heap_setCell_same _ g 9 _ _ v9 k9
    have k11 := heap_setCell_same _ g 10 _ _ v10 k10
    have k12 := heap_setCell_same _ g 11 _ _ v11 k11
    have k13 := heap_setCell_same _ g 12 _ _ v12 k12
    have k14 := heap_setCell_same _ g 13 _ _ v13 k13
    simpa using k14
  · intro k hk
    exact (heap_setCell_other _ ⟨g, _, none⟩ k _ hk).trans ((heap_setCell_other _ ⟨g, _, none⟩ k _ hk).trans ((heap_setCell_other _ ⟨g, _, none⟩ k _ hk).trans ((heap_setCell_other _ ⟨g, _, none⟩ k _ hk).trans ((heap_setCell_other _ ⟨g, _, none⟩ k _ hk).trans ((heap_setCell_other _ ⟨g, _, none⟩ k _ hk).trans ((heap_setCell_other _ ⟨g, _, none⟩ k _ hk).trans ((heap_setCell_other _ ⟨g, _, none⟩ k _ hk).trans ((heap_setCell_other _ ⟨g, _, none⟩ k _ hk).trans ((heap_setCell_other _ ⟨g, _, none⟩ k _ hk).trans ((heap_setCell_other _ ⟨g, _, none⟩ k _ hk).trans ((heap_setCell_other _ ⟨g, _, none⟩ k _ hk).trans ((heap_setCell_other _ ⟨g, _, none⟩ k _ hk).trans (heap_setCell_other _ ⟨g, _, none⟩ k _ hk)))))))))))))
  · exact Below.setCell (Below.setCell (Below.setCell (Below.setCell (Below.setCell (Below.setCell (Below.setCell (Below.setCell (Below.setCell (Below.setCell (Below.setCell (Below.setCell (Below.setCell (Below.setCell (hu) (p := ⟨g, _, none⟩) hg _) (p := ⟨g, _, none⟩) hg _) (p := ⟨g, _, none⟩) hg _) (p := ⟨g, _, none⟩) hg _) (p := ⟨g, _, none⟩) hg _) (p := ⟨g, _, none⟩) hg _) (p := ⟨g, _, none⟩) hg _) (p := ⟨g, _, none⟩) hg _) (p := ⟨g, _, none⟩) hg _) (p := ⟨g, _, none⟩) hg _) (p := ⟨g, _, none⟩) hg _) (p := ⟨g, _, none⟩) hg _) (p := ⟨g, _, none⟩) hg _) (p := ⟨g, _, none⟩) hg _
theorem set8 {w V : World} {g : Nat} {t : TypeId} {x0 x1 x2 x3 x4 x5 x6 x7 x8 x9 x10 x11 x12 x13 v6 v7 v8 v9 v10 v11 v12 v13 : Value} (hV : V = ((((((((w).setCell ⟨g, 6, none⟩ (v6)).setCell ⟨g, 7, none⟩ (v7)).setCell ⟨g, 8, none⟩ (v8)).setCell ⟨g, 9, none⟩ (v9)).setCell ⟨g, 10, none⟩ (v10)).setCell ⟨g, 11, none⟩ (v11)).setCell ⟨g, 12, none⟩ (v12)).setCell ⟨g, 13, none⟩ (v13)) (h : w.heap[g]? = some (.cells #[x0, x1, x2, x3, x4, x5, x6, x7, x8, x9, x10, x11, x12, x13] t (0, 0))) :
    V.heap[g]? = some (.cells #[x0, x1, x2, x3, x4, x5, v6, v7, v8, v9, v10, v11, v12, v13] t (0, 0)) ∧ (∀ k, k ≠ g → V.heap[k]? = w.heap[k]?) ∧ ∀ u, Ext u w → u.heap.size ≤ g → Ext u V := by
  subst hV
  refine ⟨?_, ?_, fun u hu hg => ?_⟩
  · have k6 := h
    have k7 := heap_setCell_same _ g 6 _ _ v6 k6
    have k8 := heap_setCell_same _ g 7 _ _ v7 k7
    have k9 := heap_setCell_same _ g 8 _ _ v8 k8
    have k10 := heap_setCell_same _ g 9 _ _ v9 k9
    have k11 := heap_setCell_same _ g 10 _ _ v10 k10
    have k12 := heap_setCell_same _ g 11 _ _ v11 k11
    have k13 := heap_setCell_same _ g 12 _ _ v12 k12
    have k14 := heap_setCell_same _ g 13 _ _ v13 k13
    simpa using k14
  · intro k hk
    exact (heap_setCell_other _ ⟨g, _, none⟩ k _ hk).trans ((heap_setCell_other _ ⟨g, _, none⟩ k _ hk).trans ((heap_setCell_other _ ⟨g, _, none⟩ k _ hk).trans ((heap_setCell_other _ ⟨g, _, none⟩ k _ hk).trans ((heap_setCell_other _ ⟨g, _, none⟩ k _ hk).trans ((heap_setCell_other _ ⟨g, _, none⟩ k _ hk).trans ((heap_setCell_other _ ⟨g, _, none⟩ k _ hk).trans (heap_setCell_other _ ⟨g, _, none⟩ k _ hk)))))))
  · exact Below.setCell (Below.setCell (Below.setCell (Below.setCell (Below.setCell (Below.setCell (Below.setCell (Below.setCell (hu) (p := ⟨g, _, none⟩) hg _) (p := ⟨g, _, none⟩) hg _) (p := ⟨g, _, none⟩) hg _) (p := ⟨g, _, none⟩) hg _) (p := ⟨g, _, none⟩) hg _) (p := ⟨g, _, none⟩) hg _) (p := ⟨g, _, none⟩) hg _) (p := ⟨g, _, none⟩) hg _
theorem blocks14 {w : World} {g : Nat} {t : TypeId} {x0 x1 x2 x3 x4 x5 x6 x7 x8 x9 x10 x11 x12 x13 : Value} (h : w.heap[g]? = some (.cells #[x0, x1, x2, x3, x4, x5, x6, x7, x8, x9, x10, x11, x12, x13] t (0, 0))) : (w.cell? ⟨g, 0, none⟩ = some x0 ∧ w.cell? ⟨g, 1, none⟩ = some x1 ∧ w.cell? ⟨g, 2, none⟩ = some x2 ∧ w.cell? ⟨g, 3, none⟩ = some x3 ∧ w.cell? ⟨g, 4, none⟩ = some x4 ∧ w.cell? ⟨g, 5, none⟩ = some x5 ∧ w.cell? ⟨g, 6, none⟩ = some x6 ∧ w.cell? ⟨g, 7, none⟩ = some x7 ∧ w.cell? ⟨g, 8, none⟩ = some x8 ∧ w.cell? ⟨g, 9, none⟩ = some x9 ∧ w.cell? ⟨g, 10, none⟩ = some x10 ∧ w.cell? ⟨g, 11, none⟩ = some x11 ∧ w.cell? ⟨g, 12, none⟩ = some x12 ∧ w.cell? ⟨g, 13, none⟩ = some x13) ∧ w.frozen? ⟨g, 0, none⟩ = false ∧ w.frozen? ⟨g, 1, none⟩ = false ∧ w.frozen? ⟨g, 2, none⟩ = false ∧ w.frozen? ⟨g, 3, none⟩ = false ∧ w.frozen? ⟨g, 4, none⟩ = false ∧ w.frozen? ⟨g, 5, none⟩ = false ∧ w.frozen? ⟨g, 6, none⟩ = false ∧ w.frozen? ⟨g, 7, none⟩ = false ∧ w.frozen? ⟨g, 8, none⟩ = false ∧ w.frozen? ⟨g, 9, none⟩ = false ∧ w.frozen? ⟨g, 10, none⟩ = false ∧ w.frozen? ⟨g, 11, none⟩ = false ∧ w.frozen? ⟨g, 12, none⟩ = false ∧ w.frozen? ⟨g, 13, none⟩ = false := by
  refine ⟨⟨?_, ?_, ?_, ?_, ?_, ?_, ?_, ?_, ?_, ?_, ?_, ?_, ?_, ?_⟩, ?_, ?_, ?_, ?_, ?_, ?_, ?_, ?_, ?_, ?_, ?_, ?_, ?_, ?_⟩
  all_goals first | (rw [Lib.cell_of_heap h]; rfl) | exact Lib.frozen_of_heap h _

theorem sizeCond : (Tryz.prog.info? 27).map (·.size) = some 14 := by kernel_rfl
def zeroC : CondS := ⟨[], 0, 0, 0, 0, 0, .mk 0 0 0 [], .mk 0 0 0 []⟩
/-- What Strengthen answers. -/
def strC (c : CondS) (e : E) : CondS := if (connectZ [c.hyp, e] 5 1).op = 0 then zeroC else { c with hyp := connectZ [c.hyp, e] 5 1 }
theorem connectZ_size (ks : List E) (op u : Int) : (connectZ ks op u).size ≤ 100000 := by
  have hz : ∀ x : E, (zeroIf x).size ≤ 100000 := fun x => by
    unfold zeroIf
    split
    · next h =>
      unfold E.wf at h
      simp only [Bool.and_eq_true, decide_eq_true_eq] at h
      omega
    · simp [E.size, sizeAll]
  unfold connectZ
  split
  · exact hz _
  · simp [E.size, sizeAll]
theorem two_kids {w : World} {K : Nat} {a b : E} {ka kb : Value} (h1 : Kids w ka a.kids) (h2 : Kids w kb b.kids) (hb : w.heap[K]? = some (.cells #[.int .i64 a.op, .int .i64 a.wd, .int .i64 a.n, ka, .int .i64 b.op, .int .i64 b.wd, .int .i64 b.n, kb] 25 (0, 0))) : Kids w (.slice (some ⟨K, 0, none⟩) 2 2) [a, b] := by
  have := two_valT (S := fun _ => True) (Ext.refl w) (h1.t.mono fun _ _ => trivial) (h2.t.mono fun _ _ => trivial) trivial hb
  exact this.kids

/-- A condition, the blocks of its formulas in S. -/
def CondT (S : Nat → Prop) (w : World) (v : Value) (c : CondS) : Prop := ∃ ha hl hc ga gl gc, v = .agg (condCells c ha hl hc ga gl gc) ∧
  EValT S w (.agg #[.int .i64 c.hyp.op, .int .i64 c.hyp.wd, .int .i64 c.hyp.n, .slice ha hl hc]) c.hyp ∧ EValT S w (.agg #[.int .i64 c.goal.op, .int .i64 c.goal.wd, .int .i64 c.goal.n, .slice ga gl gc]) c.goal
theorem CondT.condV {S : Nat → Prop} {w : World} {v : Value} {c : CondS} (h : CondT S w v c) : CondV w v c := by
  obtain ⟨ha, hl, hc, ga, gl, gc, e, h1, h2⟩ := h
  exact ⟨ha, hl, hc, ga, gl, gc, e, h1.eVal, h2.eVal⟩
theorem CondV.t {w : World} {v : Value} {c : CondS} (h : CondV w v c) : CondT (fun k => k < w.heap.size) w v c := by
  obtain ⟨ha, hl, hc, ga, gl, gc, e, h1, h2⟩ := h
  exact ⟨ha, hl, hc, ga, gl, gc, e, h1.t, h2.t⟩
theorem CondT.keep {S : Nat → Prop} {w w' : World} {v : Value} {c : CondS} (h : CondT S w v c) (hx : ∀ k, S k → k < w.heap.size → w'.heap[k]? = w.heap[k]?) : CondT S w' v c := by
  obtain ⟨ha, hl, hc, ga, gl, gc, e, h1, h2⟩ := h
  exact ⟨ha, hl, hc, ga, gl, gc, e, h1.keep hx, h2.keep hx⟩
theorem CondT.mono {S S' : Nat → Prop} {w : World} {v : Value} {c : CondS} (h : CondT S w v c) (hS : ∀ k, S k → S' k) : CondT S' w v c := by
  obtain ⟨ha, hl, hc, ga, gl, gc, e, h1, h2⟩ := h
  exact ⟨ha, hl, hc, ga, gl, gc, e, h1.mono hS, h2.mono hS⟩

set_option maxRecDepth 100000 in
set_option maxHeartbeats 8000000 in
theorem Strengthen_anyT (S : Nat → Prop) (c : CondS) (e : E) (cv ev : Value) (w : World) (hc : CondT S w cv c) (he : EVal w ev e) (hM : Masks w) (hg : c.goal.size ≤ 100000) (hS : ∀ k, w.heap.size ≤ k → S k) :
    Calls Tryz.prog 11 #[cv, ev] w fun r w' => (∃ v, r = .returned v ∧ CondT S w' v (strC c e)) ∧ Ext w w' := by
  obtain ⟨ha, hl, hcp, ga, gl, gc, rfl, e1, e2⟩ := hc
  obtain ⟨ea, el, ec, rfl, hek⟩ := he.t.shape
  obtain ⟨W, hW⟩ : ∃ W, Boxes3 w W (.cells (condCells c ha hl hcp ga gl gc) 27) (.cells #[.int .i64 e.op, .int .i64 e.wd, .int .i64 e.n, .slice ea el ec] 25) (.cells #[.string ⟨#[]⟩, .int .i64 0, .int .i64 0, .int .i64 0, .int .i64 0, .int .i64 0, .int .i64 0, .int .i64 0, .int .i64 0, .slice none 0 0, .int .i64 0, .int .i64 0, .int .i64 0, .slice none 0 0] 27) := ⟨_, Boxes3.mk' _ _ _ _⟩
  have hX := hW.ext
  have hat : CondAt W w.heap.size c ha hl hcp ga gl gc := hW.b0
  have HX := Lib.hid hX; have HWE := Lib.hid hW.eq; have HZW := Lib.hid hW.size; have HR := Lib.hid hW.b2; have HAT := Lib.hid hat
  have HM := Lib.hid (hM.ext hX)
  have HSS := Lib.hid hS; clear hS
  have hgT := e2.there
  obtain ⟨_, hge, hgk⟩ := id hgT
  have hge' : KidsT (fun k => S k ∧ k < w.heap.size) w (.slice ga gl gc) c.goal.kids := by cases hge; exact hgk
  obtain ⟨_, hhe, hhk⟩ := id e1.eVal.t
  have hhe' : KidsT (fun k => k < w.heap.size) w (.slice ha hl hcp) c.hyp.kids := by cases hhe; exact hhk
  have HGK := Lib.hid hge'; have HHK := Lib.hid hhe'; have HEK := Lib.hid hek
  obtain ⟨q0, q1, q2, q3⟩ := hat.hyp
  obtain ⟨u0, u1, u2, u3⟩ := blocks4 hW.b1
  have HGS := Lib.hid hg
  clear hX hat hW hM hgT hge hgk hge' hhe hhk hhe' hek e1 e2 he hg
  unfold condCells at *
  go_enter Tryz.func11, Tryz.ntmps11
  go_upto_region 1 with fail
  rw [← HWE.out]; clear HWE
  obtain ⟨V, hV⟩ : ∃ V, V = W.alloc (.cells #[.int .i64 c.hyp.op, .int .i64 c.hyp.wd, .int .i64 c.hyp.n, .slice ha hl hcp, .int .i64 e.op, .int .i64 e.wd, .int .i64 e.n, .slice ea el ec] 25) := ⟨_, rfl⟩
  have xv : Ext W V := by rw [hV]; exact (Ext.refl _).alloc _
  have hvb : V.heap[W.heap.size]? = some (.cells #[.int .i64 c.hyp.op, .int .i64 c.hyp.wd, .int .i64 c.hyp.n, .slice ha hl hcp, .int .i64 e.op, .int .i64 e.wd, .int .i64 e.n, .slice ea el ec] 25 (0, 0)) := by rw [hV]; exact heap_new _ _
  have HKS : Hid (Kids V (.slice (some ⟨W.heap.size, 0, none⟩) 2 2) [c.hyp, e]) := two_kids ((HHK.out.keep fun k _ hk => (HX.out.trans xv).block k hk).kids) ((HEK.out.keep fun k _ hk => (HX.out.trans xv).block k hk).kids) hvb
  have HXV := Lib.hid xv; have HV := Lib.hid hV
  clear xv hvb hV
  go_wp2_with (first | (rw [← HV.out]; refine (AndZ_any [c.hyp, e] _ V HKS.out (HM.out.ext HXV.out) (by simp)).mono ?_) | fail)
  rintro r w1 ⟨⟨v, rfl, hv⟩, x1⟩
  have HST : Hid (strC c e = if (connectZ [c.hyp, e] 5 1).op = 0 then zeroC else { c with hyp := connectZ [c.hyp, e] 5 1 }) := rfl
  have HYS : Hid ((connectZ [c.hyp, e] 5 1).size ≤ 100000) := connectZ_size _ _ _
  generalize connectZ [c.hyp, e] 5 1 = y at *
  obtain ⟨ya, yl, yc, rfl, hky⟩ := hv.shape
  have HKY := Lib.hid hky.there; have X1 := Lib.hid (HXV.out.trans x1); have XV1 := Lib.hid x1
  clear hv hky x1 q0 q1 q2 q3 u0 u1 u2 u3
  obtain ⟨W2, hW2⟩ : ∃ W2, W2 = w1.alloc (.cells #[.int .i64 y.op, .int .i64 y.wd, .int .i64 y.n, .slice ya yl yc] 25) := ⟨_, rfl⟩
  have x12 : Ext w1 W2 := by rw [hW2]; exact (Ext.refl _).alloc _
  have HV2 : Hid (W2.heap[w1.heap.size]? = some (.cells #[.int .i64 y.op, .int .i64 y.wd, .int .i64 y.n, .slice ya yl yc] 25 (0, 0))) := by unfold Hid; rw [hW2]; exact heap_new _ _
  go_upto_region 2 with fail
  rw [← hW2]
  have X12 := Lib.hid x12; have XW2 := Lib.hid (X1.out.trans x12)
  clear hW2 x12
  obtain ⟨q0, q1, q2, q3⟩ := blocks4 HV2.out
  have hRW := (XW2.out.block _ (lt_heap HR.out)).trans HR.out
  by_cases h0 : y.op = 0
  · have hS0 : strC c e = zeroC := by rw [HST.out, if_pos h0]
    have HS0 := Lib.hid hS0
    obtain ⟨⟨d0, d1, d2, d3, d4, d5, d6, d7, d8, d9, d10, d11, d12, d13⟩, f0, f1, f2, f3, f4, f5, f6, f7, f8, f9, f10, f11, f12, f13⟩ := blocks14 hRW
    obtain ⟨V9, hV9⟩ : ∃ V9, V9 = ((((((((((((((W2).setCell ⟨w.heap.size + 1 + 1, 0, none⟩ (.string ⟨#[]⟩)).setCell ⟨w.heap.size + 1 + 1, 1, none⟩ (.int .i64 0)).setCell ⟨w.heap.size + 1 + 1, 2, none⟩ (.int .i64 0)).setCell ⟨w.heap.size + 1 + 1, 3, none⟩ (.int .i64 0)).setCell ⟨w.heap.size + 1 + 1, 4, none⟩ (.int .i64 0)).setCell ⟨w.heap.size + 1 + 1, 5, none⟩ (.int .i64 0)).setCell ⟨w.heap.size + 1 + 1, 6, none⟩ (.int .i64 0)).setCell ⟨w.heap.size + 1 + 1, 7, none⟩ (.int .i64 0)).setCell ⟨w.heap.size + 1 + 1, 8, none⟩ (.int .i64 0)).setCell ⟨w.heap.size + 1 + 1, 9, none⟩ (.slice none 0 0)).setCell ⟨w.heap.size + 1 + 1, 10, none⟩ (.int .i64 0)).setCell ⟨w.heap.size + 1 + 1, 11, none⟩ (.int .i64 0)).setCell ⟨w.heap.size + 1 + 1, 12, none⟩ (.int .i64 0)).setCell ⟨w.heap.size + 1 + 1, 13, none⟩ (.slice none 0 0) := ⟨_, rfl⟩
    obtain ⟨k1, k2, k3⟩ := set14 hV9 hRW
    have HB := Lib.hid k1
    have HXE := Lib.hid (k3 _ (HX.out.trans XW2.out) (by omega))
    have HV9 := Lib.hid hV9
    clear hRW k1 k2 k3 hV9
    go_wp2_with fail
    rw [← HV9.out]
    refine bodyPost_ret (results_cell_row Tryz.results11 _ _ (w.heap.size + 1 + 1) 27 _ (0, 0) _ rfl HB.out Tryz.underlying27 rfl sizeCond) rfl ⟨⟨_, rfl, ?_⟩, HXE.out⟩
    rw [HS0.out]
    exact ⟨none, 0, 0, none, 0, 0, rfl, ⟨_, rfl, .inl ⟨⟨_, _, rfl⟩, rfl⟩⟩, ⟨_, rfl, .inl ⟨⟨_, _, rfl⟩, rfl⟩⟩⟩
  · have hS0 : strC c e = { c with hyp := y } := by rw [HST.out, if_neg h0]
    have HS0 := Lib.hid hS0
    have hat2 := (XW2.out.block _ (lt_heap HAT.out)).trans HAT.out
    unfold condCells at hat2
    have HAT2 := Lib.hid hat2
    have HGK2 : Hid (KidsT (fun k => S k ∧ k ≠ w.heap.size ∧ k ≠ w.heap.size + 1 + 1) W2 (.slice ga gl gc) c.goal.kids) := (HGK.out.keep fun k _ hk => (HX.out.trans XW2.out).block k hk).mono fun k hk => ⟨hk.1, by have := hk.2; omega, by have := hk.2; omega⟩
    have HKY2 : Hid (KidsT (fun k => S k ∧ k ≠ w.heap.size ∧ k ≠ w.heap.size + 1 + 1) W2 (.slice ya yl yc) y.kids) := (HKY.out.keep fun k _ hk => X12.out.block k hk).mono fun k hk => by
      have h1 := HXV.out.size; have h2 := HZW.out; have h3 := hk.1
      exact ⟨HSS.out k (by omega), by omega, by omega⟩
    have HSB : Hid (∀ k, W2.heap.size ≤ k → S k ∧ k ≠ w.heap.size ∧ k ≠ w.heap.size + 1 + 1) := fun k hk => by
      have h1 := XW2.out.size; have h2 := HZW.out
      exact ⟨HSS.out k (by omega), by omega, by omega⟩
    have HRW := Lib.hid hRW; have HB5 : Hid (w.heap.size + 3 ≤ w1.heap.size) := by have h1 := X1.out.size; have h2 := HZW.out; unfold Hid; omega
    have HXW := Lib.hid (HX.out.trans XW2.out)
    obtain ⟨⟨l0, l1, l2, l3, l4, l5, l6, l7, l8, l9, l10, l11, l12, l13⟩, _⟩ := blocks14 hat2
    clear hRW hat2 hS0
    generalize hb5 : w1.heap.size = b5 at *
    clear hb5
    generalize hn0 : w.heap.size = n0 at *
    have HN0 := Lib.hid hn0
    clear hn0
    go_upto_region 4 with fail
    have HOLD : Hid (∀ w' : World, w'.heap[b5]? = W2.heap[b5]? → (w'.cell? ⟨b5, 0, none⟩ = some (.int .i64 y.op) ∧ w'.cell? ⟨b5, 1, none⟩ = some (.int .i64 y.wd) ∧ w'.cell? ⟨b5, 2, none⟩ = some (.int .i64 y.n) ∧ w'.cell? ⟨b5, 3, none⟩ = some (.slice ya yl yc))) := fun w' h => blocks4 (h.trans HV2.out)
    have X00 : Hid (Ext W2 W2.drew) := (Ext.refl W2).drew
    have hs0 := HOLD.out W2.drew rfl
    have HEV1 : Hid (Calls Tryz.prog 40 #[.agg #[.int .i64 y.op, .int .i64 y.wd, .int .i64 y.n, .slice ya yl yc]] W2.drew (RetT (fun k => S k ∧ k ≠ n0 ∧ k ≠ n0 + 1 + 1) y W2.drew)) :=
      HClone_any (fun k => S k ∧ k ≠ n0 ∧ k ≠ n0 + 1 + 1) y _ W2.drew ⟨_, rfl, HKY2.out.keep (w' := W2.drew) fun k _ _ => rfl⟩ (fun k hk => HSB.out k hk) HYS.out
    have HEV2 : Hid (∀ y1, Ext W2 y1 → Calls Tryz.prog 40 #[.agg #[.int .i64 c.goal.op, .int .i64 c.goal.wd, .int .i64 c.goal.n, .slice ga gl gc]] y1 (RetT (fun k => S k ∧ k ≠ n0 ∧ k ≠ n0 + 1 + 1) c.goal y1)) := fun y1 hx =>
      HClone_any (fun k => S k ∧ k ≠ n0 ∧ k ≠ n0 + 1 + 1) c.goal _ y1 ⟨_, rfl, HGK2.out.keep fun k _ hk => hx.block k hk⟩ (fun k hk => HSB.out k (by have := hx.size; omega)) HGS.out
    refine wp_normal2 ?_
    refine wp_region_held (S := fun w' => w'.cell? ⟨b5, 0, none⟩ = some (.int .i64 y.op) ∧ w'.cell? ⟨b5, 1, none⟩ = some (.int .i64 y.wd) ∧ w'.cell? ⟨b5, 2, none⟩ = some (.int .i64 y.n) ∧ w'.cell? ⟨b5, 3, none⟩ = some (.slice ya yl yc)) (by kernel_rfl) ?_
    change wpAnyH _ _ _ _ _ _ _ _ W2.drew
    have HSA := Lib.hid hs0; clear hs0
    have l10d : W2.drew.cell? ⟨n0, 10, none⟩ = some (.int .i64 c.goal.op) := l10
    have l11d : W2.drew.cell? ⟨n0, 11, none⟩ = some (.int .i64 c.goal.wd) := l11
    have l12d : W2.drew.cell? ⟨n0, 12, none⟩ = some (.int .i64 c.goal.n) := l12
    have l13d : W2.drew.cell? ⟨n0, 13, none⟩ = some (.slice ga gl gc) := l13
    generalize W2.drew = v0 at *
    refine wpAnyH_take (i := 0) (v := .agg #[.int .i64 y.op, .int .i64 y.wd, .int .i64 y.n, .slice ya yl yc]) rfl (by kernel_rfl) (by kernel_rfl) (by kernel_rfl) (fun _ _ _ h => h) (.inl ⟨rfl, fun w' hx' => by obtain ⟨z0, z1, z2, z3⟩ := hx'; go_simp⟩) HSA.out ?_
    refine wpAnyH_take (i := 2) (v := .pointer (some ⟨n0, 10, none⟩)) rfl (by kernel_rfl) (by kernel_rfl) (by kernel_rfl) (fun _ _ _ h => h) (.inl ⟨rfl, fun w' hx' => by obtain ⟨z0, z1, z2, z3⟩ := hx'; go_simp⟩) HSA.out ?_
    refine wpAnyH_all (rs := [1, 3]) (by kernel_rfl) (by simp) ?_
    intro i hi
    have hi' : i = 1 ∨ i = 3 := by simpa using hi
    clear hi
    rcases hi' with rfl | rfl
    · unfold wpOp
      go_simp
      refine .inl (HEV1.out.mono ?_)
      rintro r y1 ⟨⟨v, rfl, hv1⟩, x1⟩
      obtain ⟨sa, sl, sc, rfl, hks⟩ := hv1.shape
      have Y1 : Hid (Ext W2 y1) := X00.out.trans x1
      have HKS1 := Lib.hid hks
      have p10 := Y1.out.cell l10; have p11 := Y1.out.cell l11; have p12 := Y1.out.cell l12; have p13 := Y1.out.cell l13
      clear x1 hv1 hks
      have HS1 := Lib.hid (HOLD.out y1 (Y1.out.block _ (lt_heap HV2.out)))
      refine ⟨HS1.out, ?_⟩
      refine wpAnyH_all (rs := [3]) (by kernel_rfl) (by simp) ?_
      intro i hi
      obtain rfl : i = 3 := by simpa using hi
      clear hi
      unfold wpOp
      go_simp
      refine .inl ⟨HS1.out, ?_⟩
      refine wpAnyH_take (i := 5) (v := .pointer (some ⟨n0, 6, none⟩)) rfl (by kernel_rfl) (by kernel_rfl) (by kernel_rfl) (fun _ _ _ h => h) (.inl ⟨rfl, fun w' hx' => by obtain ⟨z0, z1, z2, z3⟩ := hx'; go_simp⟩) HS1.out ?_
      refine wpAnyH_all (rs := [4]) (by kernel_rfl) (by simp) ?_
      intro i hi
      obtain rfl : i = 4 := by simpa using hi
      clear hi
      unfold wpOp
      go_simp
      refine .inl ((HEV2.out _ Y1.out).mono ?_)
      rintro r y2 ⟨⟨v, rfl, hv2⟩, x2⟩
      obtain ⟨za, zl, zc, rfl, hkz⟩ := hv2.shape
      have Y2 : Hid (Ext W2 y2) := Y1.out.trans x2
      have HKS2 := Lib.hid (HKS1.out.keep (w' := y2) fun k _ hk => x2.block k hk)
      have HKZ := Lib.hid hkz
      have ha2 := (Y2.out.block _ (lt_heap HAT2.out)).trans HAT2.out
      have HA2 := Lib.hid ha2
      obtain ⟨⟨d0, d1, d2, d3, d4, d5, d6, d7, d8, d9, d10, d11, d12, d13⟩, f0, f1, f2, f3, f4, f5, f6, f7, f8, f9, f10, f11, f12, f13⟩ := blocks14 ha2
      clear x2 hv2 hkz ha2
      have HS2 := Lib.hid (HOLD.out y2 (Y2.out.block _ (lt_heap HV2.out)))
      refine ⟨HS2.out, ?_⟩
      refine wpAnyH_all (rs := [6]) (by kernel_rfl) (by simp) ?_
      intro i hi
      obtain rfl : i = 6 := by simpa using hi
      clear hi
      unfold wpOp
      go_simp
      refine .inl ⟨HOLD.out _ ?_, ?_⟩
      · repeat (with_reducible refine far_set ?_ _ _ (by have := HB5.out; show b5 ≠ n0; omega))
        exact (Y2.out.block _ (lt_heap HV2.out))
      have HS3 : Hid (((((y2.setCell ⟨n0, 6, none⟩ (.int .i64 y.op)).setCell ⟨n0, 7, none⟩ (.int .i64 y.wd)).setCell ⟨n0, 8, none⟩ (.int .i64 y.n)).setCell ⟨n0, 9, none⟩ (.slice sa sl sc)).cell? ⟨b5, 0, none⟩ = some (.int .i64 y.op) ∧ ((((y2.setCell ⟨n0, 6, none⟩ (.int .i64 y.op)).setCell ⟨n0, 7, none⟩ (.int .i64 y.wd)).setCell ⟨n0, 8, none⟩ (.int .i64 y.n)).setCell ⟨n0, 9, none⟩ (.slice sa sl sc)).cell? ⟨b5, 1, none⟩ = some (.int .i64 y.wd) ∧ ((((y2.setCell ⟨n0, 6, none⟩ (.int .i64 y.op)).setCell ⟨n0, 7, none⟩ (.int .i64 y.wd)).setCell ⟨n0, 8, none⟩ (.int .i64 y.n)).setCell ⟨n0, 9, none⟩ (.slice sa sl sc)).cell? ⟨b5, 2, none⟩ = some (.int .i64 y.n) ∧ ((((y2.setCell ⟨n0, 6, none⟩ (.int .i64 y.op)).setCell ⟨n0, 7, none⟩ (.int .i64 y.wd)).setCell ⟨n0, 8, none⟩ (.int .i64 y.n)).setCell ⟨n0, 9, none⟩ (.slice sa sl sc)).cell? ⟨b5, 3, none⟩ = some (.slice ya yl yc)) := HOLD.out _ (by
        repeat (with_reducible refine far_set ?_ _ _ (by have := HB5.out; show b5 ≠ n0; omega))
        exact (Y2.out.block _ (lt_heap HV2.out)))
      refine wpAnyH_take (i := 7) (v := .pointer (some ⟨n0, 10, none⟩)) rfl (by kernel_rfl) (by kernel_rfl) (by kernel_rfl) (fun _ _ _ h => h) (.inl ⟨rfl, fun w' hx' => by obtain ⟨z0, z1, z2, z3⟩ := hx'; go_simp⟩) HS3.out ?_
      refine wpAnyH_all (rs := [8]) (by kernel_rfl) (by simp) ?_
      intro i hi
      obtain rfl : i = 8 := by simpa using hi
      clear hi
      unfold wpOp
      go_simp
      refine .inl ⟨HOLD.out _ ?_, ?_⟩
      · repeat (with_reducible refine far_set ?_ _ _ (by have := HB5.out; show b5 ≠ n0; omega))
        exact (Y2.out.block _ (lt_heap HV2.out))
      refine wpAnyH_done (by kernel_rfl) ?_ _
      unfold onlyNormal
      obtain ⟨V8, hV8⟩ : ∃ V8, V8 = ((((((((y2).setCell ⟨n0, 6, none⟩ (.int .i64 y.op)).setCell ⟨n0, 7, none⟩ (.int .i64 y.wd)).setCell ⟨n0, 8, none⟩ (.int .i64 y.n)).setCell ⟨n0, 9, none⟩ (.slice sa sl sc)).setCell ⟨n0, 10, none⟩ (.int .i64 c.goal.op)).setCell ⟨n0, 11, none⟩ (.int .i64 c.goal.wd)).setCell ⟨n0, 12, none⟩ (.int .i64 c.goal.n)).setCell ⟨n0, 13, none⟩ (.slice za zl zc) := ⟨_, rfl⟩
      rw [← hV8]
      obtain ⟨k1, k2, k3⟩ := set8 hV8 HA2.out
      have hx8 := k3 w (HXW.out.trans Y2.out) (by have := HN0.out; omega)
      have hR8 := (k2 (n0 + 1 + 1) (by omega)).trans ((Y2.out.block _ (lt_heap HRW.out)).trans HRW.out)
      have HK8 : Hid (KidsT (fun k => S k ∧ k ≠ n0 ∧ k ≠ n0 + 1 + 1) V8 (.slice sa sl sc) y.kids) := HKS2.out.keep fun k hk _ => k2 k hk.2.1
      have HZ8 : Hid (KidsT (fun k => S k ∧ k ≠ n0 ∧ k ≠ n0 + 1 + 1) V8 (.slice za zl zc) c.goal.kids) := HKZ.out.keep fun k hk _ => k2 k hk.2.1
      have H8 := Lib.hid k1; have HX8 := Lib.hid hx8; have HR8 := Lib.hid hR8
      obtain ⟨V9, hV9⟩ : ∃ V9, V9 = ((((((((((((((V8).setCell ⟨n0 + 1 + 1, 0, none⟩ (.string ⟨c.id.toArray⟩)).setCell ⟨n0 + 1 + 1, 1, none⟩ (.int .i64 c.k1)).setCell ⟨n0 + 1 + 1, 2, none⟩ (.int .i64 c.k2)).setCell ⟨n0 + 1 + 1, 3, none⟩ (.int .i64 c.k3)).setCell ⟨n0 + 1 + 1, 4, none⟩ (.int .i64 c.k4)).setCell ⟨n0 + 1 + 1, 5, none⟩ (.int .i64 c.k5)).setCell ⟨n0 + 1 + 1, 6, none⟩ (.int .i64 y.op)).setCell ⟨n0 + 1 + 1, 7, none⟩ (.int .i64 y.wd)).setCell ⟨n0 + 1 + 1, 8, none⟩ (.int .i64 y.n)).setCell ⟨n0 + 1 + 1, 9, none⟩ (.slice sa sl sc)).setCell ⟨n0 + 1 + 1, 10, none⟩ (.int .i64 c.goal.op)).setCell ⟨n0 + 1 + 1, 11, none⟩ (.int .i64 c.goal.wd)).setCell ⟨n0 + 1 + 1, 12, none⟩ (.int .i64 c.goal.n)).setCell ⟨n0 + 1 + 1, 13, none⟩ (.slice za zl zc) := ⟨_, rfl⟩
      obtain ⟨j1, j2, j3⟩ := set14 hV9 hR8
      have HB := Lib.hid j1
      have HXE := Lib.hid (j3 w hx8 (by have := HN0.out; omega))
      have HK9 := Lib.hid (HK8.out.keep (w' := V9) fun k hk _ => j2 k hk.2.2)
      have HZ9 := Lib.hid (HZ8.out.keep (w' := V9) fun k hk _ => j2 k hk.2.2)
      have HV9 := Lib.hid hV9
      clear hV8 k1 k2 k3 hx8 hR8 j1 j2 j3 hV9 d0 d1 d2 d3 d4 d5 d6 d7 d8 d9 d10 d11 d12 d13 f0 f1 f2 f3 f4 f5 f6 f7 f8 f9 f10 f11 f12 f13
      obtain ⟨⟨g0, g1, g2, g3, g4, g5, g6, g7, g8, g9, g10, g11, g12, g13⟩, _⟩ := blocks14 H8.out
      obtain ⟨⟨d0, d1, d2, d3, d4, d5, d6, d7, d8, d9, d10, d11, d12, d13⟩, f0, f1, f2, f3, f4, f5, f6, f7, f8, f9, f10, f11, f12, f13⟩ := blocks14 HR8.out
      go_wp2_with fail
      rw [← HV9.out]
      refine bodyPost_ret (results_cell_row Tryz.results11 _ _ (n0 + 1 + 1) 27 _ (0, 0) _ rfl HB.out Tryz.underlying27 rfl sizeCond) rfl ⟨⟨_, rfl, ?_⟩, HXE.out⟩
      rw [HS0.out]
      exact ⟨_, _, _, _, _, _, rfl, ⟨_, rfl, HK9.out.mono fun k hk => hk.1⟩, ⟨_, rfl, HZ9.out.mono fun k hk => hk.1⟩⟩
    · unfold wpOp
      go_simp
      refine .inl ⟨HSA.out, ?_⟩
      refine wpAnyH_all (rs := [1]) (by kernel_rfl) (by simp) ?_
      intro i hi
      obtain rfl : i = 1 := by simpa using hi
      clear hi
      unfold wpOp
      go_simp
      refine .inl (HEV1.out.mono ?_)
      rintro r y1 ⟨⟨v, rfl, hv1⟩, x1⟩
      obtain ⟨sa, sl, sc, rfl, hks⟩ := hv1.shape
      have Y1 : Hid (Ext W2 y1) := X00.out.trans x1
      have HKS1 := Lib.hid hks
      have p10 := Y1.out.cell l10; have p11 := Y1.out.cell l11; have p12 := Y1.out.cell l12; have p13 := Y1.out.cell l13
      clear x1 hv1 hks
      have HS1 := Lib.hid (HOLD.out y1 (Y1.out.block _ (lt_heap HV2.out)))
      refine ⟨HS1.out, ?_⟩
      refine wpAnyH_take (i := 5) (v := .pointer (some ⟨n0, 6, none⟩)) rfl (by kernel_rfl) (by kernel_rfl) (by kernel_rfl) (fun _ _ _ h => h) (.inl ⟨rfl, fun w' hx' => by obtain ⟨z0, z1, z2, z3⟩ := hx'; go_simp⟩) HS1.out ?_
      refine wpAnyH_all (rs := [4]) (by kernel_rfl) (by simp) ?_
      intro i hi
      obtain rfl : i = 4 := by simpa using hi
      clear hi
      unfold wpOp
      go_simp
      refine .inl ((HEV2.out _ Y1.out).mono ?_)
      rintro r y2 ⟨⟨v, rfl, hv2⟩, x2⟩
      obtain ⟨za, zl, zc, rfl, hkz⟩ := hv2.shape
      have Y2 : Hid (Ext W2 y2) := Y1.out.trans x2
      have HKS2 := Lib.hid (HKS1.out.keep (w' := y2) fun k _ hk => x2.block k hk)
      have HKZ := Lib.hid hkz
      have ha2 := (Y2.out.block _ (lt_heap HAT2.out)).trans HAT2.out
      have HA2 := Lib.hid ha2
      obtain ⟨⟨d0, d1, d2, d3, d4, d5, d6, d7, d8, d9, d10, d11, d12, d13⟩, f0, f1, f2, f3, f4, f5, f6, f7, f8, f9, f10, f11, f12, f13⟩ := blocks14 ha2
      clear x2 hv2 hkz ha2
      have HS2 := Lib.hid (HOLD.out y2 (Y2.out.block _ (lt_heap HV2.out)))
      refine ⟨HS2.out, ?_⟩
      refine wpAnyH_all (rs := [6]) (by kernel_rfl) (by simp) ?_
      intro i hi
      obtain rfl : i = 6 := by simpa using hi
      clear hi
      unfold wpOp
      go_simp
      refine .inl ⟨HOLD.out _ ?_, ?_⟩
      · repeat (with_reducible refine far_set ?_ _ _ (by have := HB5.out; show b5 ≠ n0; omega))
        exact (Y2.out.block _ (lt_heap HV2.out))
      have HS3 : Hid (((((y2.setCell ⟨n0, 6, none⟩ (.int .i64 y.op)).setCell ⟨n0, 7, none⟩ (.int .i64 y.wd)).setCell ⟨n0, 8, none⟩ (.int .i64 y.n)).setCell ⟨n0, 9, none⟩ (.slice sa sl sc)).cell? ⟨b5, 0, none⟩ = some (.int .i64 y.op) ∧ ((((y2.setCell ⟨n0, 6, none⟩ (.int .i64 y.op)).setCell ⟨n0, 7, none⟩ (.int .i64 y.wd)).setCell ⟨n0, 8, none⟩ (.int .i64 y.n)).setCell ⟨n0, 9, none⟩ (.slice sa sl sc)).cell? ⟨b5, 1, none⟩ = some (.int .i64 y.wd) ∧ ((((y2.setCell ⟨n0, 6, none⟩ (.int .i64 y.op)).setCell ⟨n0, 7, none⟩ (.int .i64 y.wd)).setCell ⟨n0, 8, none⟩ (.int .i64 y.n)).setCell ⟨n0, 9, none⟩ (.slice sa sl sc)).cell? ⟨b5, 2, none⟩ = some (.int .i64 y.n) ∧ ((((y2.setCell ⟨n0, 6, none⟩ (.int .i64 y.op)).setCell ⟨n0, 7, none⟩ (.int .i64 y.wd)).setCell ⟨n0, 8, none⟩ (.int .i64 y.n)).setCell ⟨n0, 9, none⟩ (.slice sa sl sc)).cell? ⟨b5, 3, none⟩ = some (.slice ya yl yc)) := HOLD.out _ (by
        repeat (with_reducible refine far_set ?_ _ _ (by have := HB5.out; show b5 ≠ n0; omega))
        exact (Y2.out.block _ (lt_heap HV2.out)))
      refine wpAnyH_take (i := 7) (v := .pointer (some ⟨n0, 10, none⟩)) rfl (by kernel_rfl) (by kernel_rfl) (by kernel_rfl) (fun _ _ _ h => h) (.inl ⟨rfl, fun w' hx' => by obtain ⟨z0, z1, z2, z3⟩ := hx'; go_simp⟩) HS3.out ?_
      refine wpAnyH_all (rs := [8]) (by kernel_rfl) (by simp) ?_
      intro i hi
      obtain rfl : i = 8 := by simpa using hi
      clear hi
      unfold wpOp
      go_simp
      refine .inl ⟨HOLD.out _ ?_, ?_⟩
      · repeat (with_reducible refine far_set ?_ _ _ (by have := HB5.out; show b5 ≠ n0; omega))
        exact (Y2.out.block _ (lt_heap HV2.out))
      refine wpAnyH_done (by kernel_rfl) ?_ _
      unfold onlyNormal
      obtain ⟨V8, hV8⟩ : ∃ V8, V8 = ((((((((y2).setCell ⟨n0, 6, none⟩ (.int .i64 y.op)).setCell ⟨n0, 7, none⟩ (.int .i64 y.wd)).setCell ⟨n0, 8, none⟩ (.int .i64 y.n)).setCell ⟨n0, 9, none⟩ (.slice sa sl sc)).setCell ⟨n0, 10, none⟩ (.int .i64 c.goal.op)).setCell ⟨n0, 11, none⟩ (.int .i64 c.goal.wd)).setCell ⟨n0, 12, none⟩ (.int .i64 c.goal.n)).setCell ⟨n0, 13, none⟩ (.slice za zl zc) := ⟨_, rfl⟩
      rw [← hV8]
      obtain ⟨k1, k2, k3⟩ := set8 hV8 HA2.out
      have hx8 := k3 w (HXW.out.trans Y2.out) (by have := HN0.out; omega)
      have hR8 := (k2 (n0 + 1 + 1) (by omega)).trans ((Y2.out.block _ (lt_heap HRW.out)).trans HRW.out)
      have HK8 : Hid (KidsT (fun k => S k ∧ k ≠ n0 ∧ k ≠ n0 + 1 + 1) V8 (.slice sa sl sc) y.kids) := HKS2.out.keep fun k hk _ => k2 k hk.2.1
      have HZ8 : Hid (KidsT (fun k => S k ∧ k ≠ n0 ∧ k ≠ n0 + 1 + 1) V8 (.slice za zl zc) c.goal.kids) := HKZ.out.keep fun k hk _ => k2 k hk.2.1
      have H8 := Lib.hid k1; have HX8 := Lib.hid hx8; have HR8 := Lib.hid hR8
      obtain ⟨V9, hV9⟩ : ∃ V9, V9 = ((((((((((((((V8).setCell ⟨n0 + 1 + 1, 0, none⟩ (.string ⟨c.id.toArray⟩)).setCell ⟨n0 + 1 + 1, 1, none⟩ (.int .i64 c.k1)).setCell ⟨n0 + 1 + 1, 2, none⟩ (.int .i64 c.k2)).setCell ⟨n0 + 1 + 1, 3, none⟩ (.int .i64 c.k3)).setCell ⟨n0 + 1 + 1, 4, none⟩ (.int .i64 c.k4)).setCell ⟨n0 + 1 + 1, 5, none⟩ (.int .i64 c.k5)).setCell ⟨n0 + 1 + 1, 6, none⟩ (.int .i64 y.op)).setCell ⟨n0 + 1 + 1, 7, none⟩ (.int .i64 y.wd)).setCell ⟨n0 + 1 + 1, 8, none⟩ (.int .i64 y.n)).setCell ⟨n0 + 1 + 1, 9, none⟩ (.slice sa sl sc)).setCell ⟨n0 + 1 + 1, 10, none⟩ (.int .i64 c.goal.op)).setCell ⟨n0 + 1 + 1, 11, none⟩ (.int .i64 c.goal.wd)).setCell ⟨n0 + 1 + 1, 12, none⟩ (.int .i64 c.goal.n)).setCell ⟨n0 + 1 + 1, 13, none⟩ (.slice za zl zc) := ⟨_, rfl⟩
      obtain ⟨j1, j2, j3⟩ := set14 hV9 hR8
      have HB := Lib.hid j1
      have HXE := Lib.hid (j3 w hx8 (by have := HN0.out; omega))
      have HK9 := Lib.hid (HK8.out.keep (w' := V9) fun k hk _ => j2 k hk.2.2)
      have HZ9 := Lib.hid (HZ8.out.keep (w' := V9) fun k hk _ => j2 k hk.2.2)
      have HV9 := Lib.hid hV9
      clear hV8 k1 k2 k3 hx8 hR8 j1 j2 j3 hV9 d0 d1 d2 d3 d4 d5 d6 d7 d8 d9 d10 d11 d12 d13 f0 f1 f2 f3 f4 f5 f6 f7 f8 f9 f10 f11 f12 f13
      obtain ⟨⟨g0, g1, g2, g3, g4, g5, g6, g7, g8, g9, g10, g11, g12, g13⟩, _⟩ := blocks14 H8.out
      obtain ⟨⟨d0, d1, d2, d3, d4, d5, d6, d7, d8, d9, d10, d11, d12, d13⟩, f0, f1, f2, f3, f4, f5, f6, f7, f8, f9, f10, f11, f12, f13⟩ := blocks14 HR8.out
      go_wp2_with fail
      rw [← HV9.out]
      refine bodyPost_ret (results_cell_row Tryz.results11 _ _ (n0 + 1 + 1) 27 _ (0, 0) _ rfl HB.out Tryz.underlying27 rfl sizeCond) rfl ⟨⟨_, rfl, ?_⟩, HXE.out⟩
      rw [HS0.out]
      exact ⟨_, _, _, _, _, _, rfl, ⟨_, rfl, HK9.out.mono fun k hk => hk.1⟩, ⟨_, rfl, HZ9.out.mono fun k hk => hk.1⟩⟩
theorem Strengthen_any (c : CondS) (e : E) (cv ev : Value) (w : World) (hc : CondV w cv c) (he : EVal w ev e) (hM : Masks w) (hg : c.goal.size ≤ 100000) :
    Calls Tryz.prog 11 #[cv, ev] w fun r w' => (∃ v, r = .returned v ∧ CondV w' v (strC c e)) ∧ Ext w w' :=
  (Strengthen_anyT (fun _ => True) c e cv ev w (hc.t.mono fun _ _ => trivial) he hM hg (fun _ _ => trivial)).mono fun _ _ ⟨⟨v, h1, h2⟩, h3⟩ => ⟨⟨v, h1, h2.condV⟩, h3⟩
end Go.Proofs.YtlcgbdjmlnjhcaaGreatDoor
