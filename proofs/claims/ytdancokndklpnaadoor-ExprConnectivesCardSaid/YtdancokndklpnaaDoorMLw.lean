/-
  The laws' small functions.
  The laws' small functions, second part.
-/
import Derived.Test.YtdancokndklpnaaDoorMHe
import Derived.Deep.RegionHeld3
namespace Go.Proofs.YtdancokndklpnaaDoor
open Go.RowKit

theorem boxed {w : World} {a b c d : Value} {t : TypeId} : (w.alloc (.cells #[a, b, c, d] t)).heap[w.heap.size]? = some (.cells #[a, b, c, d] t (0, 0)) := heap_new _ _

set_option maxHeartbeats 1000000 in
theorem sound_any (e : E) (v : Value) (w : World) (l : Int) (he : EVal w v e) (h0 : 0 ≤ l) (h1 : l ≤ 1000) :
    Calls Tryd.prog 11 #[v, .int .i64 l] w fun r w' => r = .returned (.bool (decide ((e.size : Int) ≤ l) && e.wf)) ∧ Ext w w' := by
  obtain ⟨a, n, c, rfl, hk⟩ := he.shape
  have hx0 : Ext w (w.alloc (.cells #[.int .i64 e.op, .int .i64 e.wd, .int .i64 e.n, .slice a n c] 24)) := (Ext.refl w).alloc _
  have HV := Lib.hid (he.ext hx0); have HX := Lib.hid hx0
  obtain ⟨q0, q1, q2, q3, _, _, _, _⟩ := cells_of_block (boxed (w := w) (a := .int .i64 e.op) (b := .int .i64 e.wd) (c := .int .i64 e.n) (d := .slice a n c) (t := 24))
  obtain ⟨W, hW⟩ : ∃ W, W = w.alloc (.cells #[.int .i64 e.op, .int .i64 e.wd, .int .i64 e.n, .slice a n c] 24) := ⟨_, rfl⟩
  rw [← hW] at q0 q1 q2 q3 HV HX
  have HW := Lib.hid hW
  clear hx0 he hk hW
  go_enter Tryd.func11, Tryd.ntmps11
  go_upto_region 1 with fail
  rw [← HW.out]
  go_wp2_with fail
  refine (RSmall_any e _ _ l HV.out h0 h1).mono ?_
  rintro r w1 ⟨rfl, x1⟩
  have HX1 := Lib.hid (HX.out.trans x1); have HV1 := Lib.hid (HV.out.ext x1)
  have p0 := x1.cell q0; have p1 := x1.cell q1; have p2 := x1.cell q2; have p3 := x1.cell q3
  clear x1 q0 q1 q2 q3
  cases hs : decide ((e.size : Int) ≤ l) with
  | false =>
    have HS := Lib.hid hs; clear hs
    go_wp2_with fail
    exact bodyPost_ret (v := .bool false) (by simp [results, Tryd.results11, go_sem]) rfl ⟨by rw [HS.out]; rfl, HX1.out⟩
  | true =>
    have HS := Lib.hid hs; clear hs
    go_wp2_with fail
    refine (RFormed_any e _ _ HV1.out).mono ?_
    rintro r w2 ⟨rfl, x2⟩
    have HX2 := Lib.hid (HX1.out.trans x2)
    clear x2
    go_wp2_with fail
    exact bodyPost_ret (v := .bool e.wf) (by simp [results, Tryd.results11, go_sem]) rfl ⟨by rw [HS.out]; rfl, HX2.out⟩

theorem heap_ltL {w : World} {k : Nat} {o : Obj} (h : w.heap[k]? = some o) : k < w.heap.size := by
  rcases Nat.lt_or_ge k w.heap.size with h1 | h1
  · exact h1
  · rw [Array.getElem?_eq_none_iff.2 h1] at h; cases h
theorem two_block (w : World) (o1 o2 : Obj) : (((w.alloc o1).alloc o2).alloc (.cells zeroA 24)).heap[w.heap.size + 1 + 1]? = some (.cells zeroA 24 (0, 0)) := by
  have := heap_new ((w.alloc o1).alloc o2) (.cells zeroA 24)
  rwa [World.size_alloc, World.size_alloc] at this
set_option maxHeartbeats 1000000 in
/-- A node over two: its row lies in new memory. -/
theorem RTwo_rowG (op wd : Int) (a b : E) (va vb : Value) (w : World) (ha : EVal w va a) (hb : EVal w vb b) :
    Calls Tryd.prog 20 #[.int .i64 op, .int .i64 wd, va, vb] w fun r w' =>
      ∃ K : Nat, w.heap.size ≤ K ∧ r = .returned (.agg #[.int .i64 op, .int .i64 wd, .int .i64 0, .slice (some ⟨K, 0, none⟩) 2 2]) ∧ (∃ ka kb, va = .agg #[.int .i64 a.op, .int .i64 a.wd, .int .i64 a.n, ka] ∧ vb = .agg #[.int .i64 b.op, .int .i64 b.wd, .int .i64 b.n, kb] ∧ Kids w ka a.kids ∧ Kids w kb b.kids ∧ w'.heap[K]? = some (.cells #[.int .i64 a.op, .int .i64 a.wd, .int .i64 a.n, ka, .int .i64 b.op, .int .i64 b.wd, .int .i64 b.n, kb] 24 (0, 0))) ∧ Ext w w' := by
  obtain ⟨aa, ac, rfl, hk⟩ := ha.shape'
  obtain ⟨ba, bc, rfl, hk2⟩ := hb.shape'
  have HK := Lib.hid hk; have HK2 := Lib.hid hk2; clear hk hk2 ha hb
  go_enter Tryd.func20, Tryd.ntmps20
  go_wp2_with fail
  exact bodyPost_ret (v := .agg #[.int .i64 op, .int .i64 wd, .int .i64 0, .slice (some ⟨w.heap.size + 1 + 1 + 1, 0, none⟩) 2 2]) (by simp [results, Tryd.results20, go_sem]) rfl
    ⟨_, by omega, rfl, ⟨_, _, rfl, rfl, HK.out, HK2.out, by simpa using heap_new (((w.alloc _).alloc _).alloc _) _⟩, (((Ext.refl w).alloc _).alloc _).alloc _ |>.alloc _⟩
set_option maxHeartbeats 1000000 in
theorem two_any (op : Int) (a b : E) (va vb : Value) (w : World) (ha : EVal w va a) (hb : EVal w vb b) :
    Calls Tryd.prog 55 #[.int .i64 op, va, vb] w (RetE (.mk op a.wd 0 [a, b]) w) := by
  obtain ⟨aa, al, ac, rfl, hk1⟩ := ha.shape
  obtain ⟨ba, bl, bc, rfl, hk2⟩ := hb.shape
  have HA := Lib.hid ha; have HB := Lib.hid hb; have HK1 := Lib.hid hk1; have HK2 := Lib.hid hk2
  clear ha hb hk1 hk2
  have HB3 := Lib.hid (two_block w (.cells #[.int .i64 a.op, .int .i64 a.wd, .int .i64 a.n, .slice aa al ac] 24) (.cells #[.int .i64 b.op, .int .i64 b.wd, .int .i64 b.n, .slice ba bl bc] 24))
  have HXW : Hid (Ext w (((w.alloc (.cells #[.int .i64 a.op, .int .i64 a.wd, .int .i64 a.n, .slice aa al ac] 24)).alloc (.cells #[.int .i64 b.op, .int .i64 b.wd, .int .i64 b.n, .slice ba bl bc] 24)).alloc (.cells zeroA 24))) := (((Ext.refl w).alloc _).alloc _).alloc _
  have HRT := Lib.hid (RTwo_rowG op a.wd a b _ _ _ (HA.out.ext HXW.out) (HB.out.ext HXW.out))
  go_enter Tryd.func55, Tryd.ntmps55
  go_wp2_with fail
  generalize hW : ((w.alloc (.cells #[.int .i64 a.op, .int .i64 a.wd, .int .i64 a.n, .slice aa al ac] 24)).alloc (.cells #[.int .i64 b.op, .int .i64 b.wd, .int .i64 b.n, .slice ba bl bc] 24)).alloc (.cells zeroA 24) = W at *
  clear hW
  refine HRT.out.mono ?_
  rintro r w1 ⟨K, hK, rfl, ⟨ka, kb, e1, e2, _, _, hr⟩, x1⟩
  simp only [Value.agg.injEq, Array.mk.injEq, List.cons.injEq, and_true, true_and] at e1 e2
  subst e1 e2
  have hR := (x1.block _ (heap_lt' HB3.out)).trans HB3.out
  have hlt := heap_lt' HB3.out
  obtain ⟨c0, c1, c2, c3, f0, f1, f2, f3⟩ := cells_of_block hR
  have HX : Hid (Ext w (put4 w1 (w.heap.size + 1 + 1) 0 (.int .i64 op) (.int .i64 a.wd) (.int .i64 0) (.slice (some ⟨K, 0, none⟩) 2 2))) := Below.trans (HXW.out.trans x1) (below_put4 (by omega))
  have HE : Hid (EVal (put4 w1 (w.heap.size + 1 + 1) 0 (.int .i64 op) (.int .i64 a.wd) (.int .i64 0) (.slice (some ⟨K, 0, none⟩) 2 2)) (.agg #[.int .i64 op, .int .i64 a.wd, .int .i64 0, .slice (some ⟨K, 0, none⟩) 2 2]) (.mk op a.wd 0 [a, b])) :=
    ⟨_, rfl, two_val HX.out HK1.out HK2.out (by rw [put4_heap K (by omega)]; exact hr)⟩
  have HBP := Lib.hid (put4_new (x := .int .i64 op) (y := .int .i64 a.wd) (z := .int .i64 0) (u := .slice (some ⟨K, 0, none⟩) 2 2) hR)
  clear hr x1 hR HRT
  go_wp2_with fail
  exact bodyPost_ret (v := .agg #[.int .i64 op, .int .i64 a.wd, .int .i64 0, .slice (some ⟨K, 0, none⟩) 2 2]) (results_cell_row Tryd.results55 _ _ (w.heap.size + 1 + 1) 24 _ (0, 0) _ rfl HBP.out Tryd.underlying24 rfl sizeExpr) rfl ⟨⟨_, rfl, HE.out⟩, HX.out⟩
end Go.Proofs.YtdancokndklpnaaDoor
namespace Go.Proofs.YtdancokndklpnaaDoor
open Go.RowKit

theorem one_val {w W : World} {K : Nat} {a : E} {ka : Value} (hx : Ext w W) (hk : Kids w ka a.kids)
    (hb : W.heap[K]? = some (.cells #[.int .i64 a.op, .int .i64 a.wd, .int .i64 a.n, ka] 24 (0, 0))) : Kids W (.slice (some ⟨K, 0, none⟩) 1 1) [a] := by
  refine .inr ⟨K, 0, 1, rfl, by simp, fun i h => ?_⟩
  have : i = 0 := by simp at h; omega
  subst this
  exact IsE.of_cells (v := ka) (by simp [World.cell?, hb]) (by simp [World.cell?, hb]) (by simp [World.cell?, hb]) (by simp [World.cell?, hb]) (hk.ext hx)

set_option maxHeartbeats 1000000 in
theorem not_any (a : E) (va : Value) (w : World) (ha : EVal w va a) : Calls Tryd.prog 56 #[va] w (RetE (.mk 4 a.wd 0 [a]) w) := by
  obtain ⟨aa, al, ac, rfl, hk1⟩ := ha.shape
  have HK1 := Lib.hid hk1
  clear ha hk1
  go_enter Tryd.func56, Tryd.ntmps56
  go_wp2_with fail
  obtain ⟨_, hB, hC⟩ := heap_of3 w (.cells #[.int .i64 a.op, .int .i64 a.wd, .int .i64 a.n, .slice aa al ac] 24) (.cells #[.int .i64 4, .int .i64 a.wd, .int .i64 0, .slice (some ⟨w.heap.size + 1 + 1, 0, none⟩) 1 1] 24) (.cells #[.int .i64 a.op, .int .i64 a.wd, .int .i64 a.n, .slice aa al ac] 24)
  have hx : Ext w (((w.alloc (.cells #[.int .i64 a.op, .int .i64 a.wd, .int .i64 a.n, .slice aa al ac] 24)).alloc (.cells #[.int .i64 4, .int .i64 a.wd, .int .i64 0, .slice (some ⟨w.heap.size + 1 + 1, 0, none⟩) 1 1] 24)).alloc (.cells #[.int .i64 a.op, .int .i64 a.wd, .int .i64 a.n, .slice aa al ac] 24)) := (((Ext.refl w).alloc _).alloc _).alloc _
  exact bodyPost_ret (v := .agg #[.int .i64 4, .int .i64 a.wd, .int .i64 0, .slice (some ⟨w.heap.size + 1 + 1, 0, none⟩) 1 1]) (results_cell_row Tryd.results56 _ _ (w.heap.size + 1) 24 _ (0, 0) _ rfl hB Tryd.underlying24 rfl sizeExpr) rfl ⟨⟨_, rfl, ⟨_, rfl, one_val hx HK1.out hC⟩⟩, hx⟩

set_option maxRecDepth 100000 in
set_option maxHeartbeats 1000000 in
theorem alike_any (a b : E) (va vb vo vn : Value) (old now : List Int) (w : World) (ha : EVal w va a) (hb : EVal w vb b) (hO : Ints w vo old) (hN : Ints w vn now) (hM : Masks w) :
    Calls Tryd.prog 54 #[va, vb, vo, vn] w fun r w' => r = .returned (.bool (a.eval old now == b.eval old now)) ∧ Ext w w' := by
  obtain ⟨aa, al, ac, rfl, _⟩ := ha.shape
  obtain ⟨ba, bl, bc, rfl, _⟩ := hb.shape
  obtain ⟨oa, ocap, rfl⟩ := hO.shape
  obtain ⟨na, ncap, rfl⟩ := hN.shape
  obtain ⟨W, hW⟩ : ∃ W, W = (w.alloc (.cells #[.int .i64 a.op, .int .i64 a.wd, .int .i64 a.n, .slice aa al ac] 24)).alloc (.cells #[.int .i64 b.op, .int .i64 b.wd, .int .i64 b.n, .slice ba bl bc] 24) := ⟨_, rfl⟩
  have hx : Ext w W := by rw [hW]; exact ((Ext.refl w).alloc _).alloc _
  have hv1 : VarE W w.heap.size a.op a.wd a.n (.slice aa al ac) := by rw [hW]; exact (VarE.new w _ _ _ _).ext ((Ext.refl _).alloc _)
  have hv2 : VarE W (w.heap.size + 1) b.op b.wd b.n (.slice ba bl bc) := by
    have := VarE.new (w.alloc (.cells #[.int .i64 a.op, .int .i64 a.wd, .int .i64 a.n, .slice aa al ac] 24)) b.op b.wd b.n (.slice ba bl bc)
    rw [World.size_alloc] at this; rw [hW]; exact this
  have HW := Lib.hid hW; have HX := Lib.hid hx; have HV1 := Lib.hid hv1; have HV2 := Lib.hid hv2; have HA := Lib.hid (ha.ext hx); have HB := Lib.hid (hb.ext hx); have HO := Lib.hid (hO.ext hx); have HN := Lib.hid (hN.ext hx); have HM := Lib.hid (hM.ext hx)
  obtain ⟨q0, q1, q2, q3⟩ := hv1.cells
  obtain ⟨p0, p1, p2, p3⟩ := hv2.cells
  clear hW hx hv1 hv2 ha hb hO hN hM
  go_enter Tryd.func54, Tryd.ntmps54
  go_wp2_with fail
  rw [← HW.out]
  generalize w.heap.size + 1 = b2 at *
  generalize w.heap.size = b1 at *
  go_region_held3 (fun w' => (w'.cell? ⟨b1, 0, none⟩ = some (.int .i64 a.op) ∧ w'.cell? ⟨b1, 1, none⟩ = some (.int .i64 a.wd) ∧ w'.cell? ⟨b1, 2, none⟩ = some (.int .i64 a.n) ∧ w'.cell? ⟨b1, 3, none⟩ = some (.slice aa al ac)) ∧ w'.cell? ⟨b2, 0, none⟩ = some (.int .i64 b.op) ∧ w'.cell? ⟨b2, 1, none⟩ = some (.int .i64 b.wd) ∧ w'.cell? ⟨b2, 2, none⟩ = some (.int .i64 b.n) ∧ w'.cell? ⟨b2, 3, none⟩ = some (.slice ba bl bc))
    (first | exact ⟨⟨q0, q1, q2, q3⟩, p0, p1, p2, p3⟩ | (with_reducible exact hk2) | (with_reducible exact hk1) | fail)
    ((first
      | (have hgo := HX1.out; clear hgo; go_at_call 15; refine (Eval_any b _ _ _ old now _ (HB.out.ext HX1.out) (HO.out.ext HX1.out) (HN.out.ext HX1.out) (HM.out.ext HX1.out)).mono ?_; rintro r w2 ⟨rfl, x2⟩; have HX2 := Lib.hid (HX1.out.trans x2); have hk2 := And.intro (HV1.out.ext HX2.out).cells (HV2.out.ext HX2.out).cells; clear x2)
      | (go_at_call 15; refine (Eval_any a _ _ _ old now _ (HA.out.ext (Ext.refl W).drew) (HO.out.ext (Ext.refl W).drew) (HN.out.ext (Ext.refl W).drew) (HM.out.ext (Ext.refl W).drew)).mono ?_; rintro r w1 ⟨rfl, x1⟩; have HX1 := Lib.hid ((Ext.refl W).drew.trans x1); have hk1 := And.intro (HV1.out.ext HX1.out).cells (HV2.out.ext HX1.out).cells; clear x1)))
  have HXE := Lib.hid (HX.out.trans HX2.out)
  go_wp2_with fail
  exact bodyPost_ret (v := .bool (a.eval old now == b.eval old now)) (by simp [results, Tryd.results54, go_sem]) rfl ⟨rfl, HXE.out⟩
end Go.Proofs.YtdancokndklpnaaDoor
