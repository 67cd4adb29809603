/-
  The walks of And, Or and Implies, for conditions.
-/
import Derived.Test.YtdancokndklpnaaDoorMCnb
import Derived.Deep.RegionWith
namespace Go.Proofs.YtdancokndklpnaaDoor
open Go.RowKit

set_option maxHeartbeats 1000000 in
theorem And_any (ks : List E) (v : Value) (w : World) (hk : Kids w v ks) (hM : Masks w) (hl : ks.length ≤ 6) (hc : ∀ k ∈ ks, k.wd = 1 ∧ k.wf = true ∧ k.size ≤ 100000) (hwf : (foldE 5 (keptOf ks 1)).wf = true ∨ keptOf ks 1 = []) : Calls Tryd.prog 31 #[v] w (RetE (connectS ks 5 1) w) := by
  have hx0 : Ext w (w.alloc (.cells zeroA 24)) := (Ext.refl w).alloc _
  have hv0 : VarE (w.alloc (.cells zeroA 24)) w.heap.size 0 0 0 (.slice none 0 0) := VarE.new _ _ _ _ _
  have HX := Lib.hid hx0; have HV := Lib.hid hv0; have HK := Lib.hid (hk.ext hx0); have HM := Lib.hid (hM.ext hx0); have HC := Lib.hid hc; have HWF := Lib.hid hwf
  clear hx0 hv0 hk hM hc hwf
  go_enter Tryd.func31, Tryd.ntmps31
  go_wp2_with fail
  refine (connect_any ks _ 5 1 _ HK.out HM.out (by omega) (by omega) hl HC.out HWF.out).mono ?_
  rintro r w1 ⟨⟨v, rfl, hv⟩, x1⟩
  generalize connectS ks 5 1 = y at *
  obtain ⟨ya, yl, yc, rfl, hky⟩ := hv.shape
  have hR := HV.out.ext x1
  obtain ⟨c0, c1, c2, c3, f0, f1, f2, f3⟩ := cells_of_block hR
  have HB := Lib.hid (put4_new (x := .int .i64 y.op) (y := .int .i64 y.wd) (z := .int .i64 y.n) (u := .slice ya yl yc) hR)
  have HXE : Hid (Ext w (put4 w1 w.heap.size 0 (.int .i64 y.op) (.int .i64 y.wd) (.int .i64 y.n) (.slice ya yl yc))) := Below.trans (HX.out.trans x1) (below_put4 (Nat.le_refl _))
  have HKE : Hid (KidsT (fun _ => True) (put4 w1 w.heap.size 0 (.int .i64 y.op) (.int .i64 y.wd) (.int .i64 y.n) (.slice ya yl yc)) (.slice ya yl yc) y.kids) := (hky.keep fun q hq _ => put4_heap q (by simp at hq; omega)).mono fun q hq => trivial
  clear x1 hR hv hky
  go_wp2_with fail
  exact bodyPost_ret (v := .agg #[.int .i64 y.op, .int .i64 y.wd, .int .i64 y.n, .slice ya yl yc]) (results_cell_row Tryd.results31 _ _ w.heap.size 24 _ (0, 0) _ rfl HB.out Tryd.underlying24 rfl sizeExpr) rfl ⟨⟨_, rfl, _, rfl, HKE.out.kids⟩, HXE.out⟩

set_option maxHeartbeats 1000000 in
theorem Or_any (ks : List E) (v : Value) (w : World) (hk : Kids w v ks) (hM : Masks w) (hl : ks.length ≤ 6) (hc : ∀ k ∈ ks, k.wd = 1 ∧ k.wf = true ∧ k.size ≤ 100000) (hwf : (foldE 6 (keptOf ks 0)).wf = true ∨ keptOf ks 0 = []) : Calls Tryd.prog 32 #[v] w (RetE (connectS ks 6 0) w) := by
  have hx0 : Ext w (w.alloc (.cells zeroA 24)) := (Ext.refl w).alloc _
  have hv0 : VarE (w.alloc (.cells zeroA 24)) w.heap.size 0 0 0 (.slice none 0 0) := VarE.new _ _ _ _ _
  have HX := Lib.hid hx0; have HV := Lib.hid hv0; have HK := Lib.hid (hk.ext hx0); have HM := Lib.hid (hM.ext hx0); have HC := Lib.hid hc; have HWF := Lib.hid hwf
  clear hx0 hv0 hk hM hc hwf
  go_enter Tryd.func32, Tryd.ntmps32
  go_wp2_with fail
  refine (connect_any ks _ 6 0 _ HK.out HM.out (by omega) (by omega) hl HC.out HWF.out).mono ?_
  rintro r w1 ⟨⟨v, rfl, hv⟩, x1⟩
  generalize connectS ks 6 0 = y at *
  obtain ⟨ya, yl, yc, rfl, hky⟩ := hv.shape
  have hR := HV.out.ext x1
  obtain ⟨c0, c1, c2, c3, f0, f1, f2, f3⟩ := cells_of_block hR
  have HB := Lib.hid (put4_new (x := .int .i64 y.op) (y := .int .i64 y.wd) (z := .int .i64 y.n) (u := .slice ya yl yc) hR)
  have HXE : Hid (Ext w (put4 w1 w.heap.size 0 (.int .i64 y.op) (.int .i64 y.wd) (.int .i64 y.n) (.slice ya yl yc))) := Below.trans (HX.out.trans x1) (below_put4 (Nat.le_refl _))
  have HKE : Hid (KidsT (fun _ => True) (put4 w1 w.heap.size 0 (.int .i64 y.op) (.int .i64 y.wd) (.int .i64 y.n) (.slice ya yl yc)) (.slice ya yl yc) y.kids) := (hky.keep fun q hq _ => put4_heap q (by simp at hq; omega)).mono fun q hq => trivial
  clear x1 hR hv hky
  go_wp2_with fail
  exact bodyPost_ret (v := .agg #[.int .i64 y.op, .int .i64 y.wd, .int .i64 y.n, .slice ya yl yc]) (results_cell_row Tryd.results32 _ _ w.heap.size 24 _ (0, 0) _ rfl HB.out Tryd.underlying24 rfl sizeExpr) rfl ⟨⟨_, rfl, _, rfl, HKE.out.kids⟩, HXE.out⟩

/-- The negation of an expression whose kids lie in S. -/
theorem negation_ret (S : Nat → Prop) (e : E) (v : Value) (w : World) (he : EValT S w v e) (hS : ∀ k, w.heap.size ≤ k → S k) (hk : e.op = 4 → e.kids ≠ []) : Calls Tryd.prog 69 #[v] w (RetT S e.neg w) := by
  obtain ⟨a, l, c, rfl, hkT⟩ := he.shape
  by_cases h4 : e.op = 4
  · rcases hkT with ⟨_, h⟩ | ⟨b, o, cap, h, hl, hs, hi⟩
    · exact absurd h (hk h4)
    cases h
    have h0 : 0 < e.kids.length := List.length_pos_iff.2 (hk h4)
    have h1 := hi 0 h0
    rw [Nat.zero_mul, Nat.add_zero] at h1
    obtain ⟨c0, c1, c2, xa, xl, xc, c3, hx⟩ := h1.cells
    have hn : e.neg = e.kids[0] := by rw [E.neg, if_pos h4]; simp [List.getD, List.getElem?_eq_getElem h0]
    refine (negation_kid e.op e.wd e.n h4 b o _ _ _ _ _ _ _ _ w h0 c0 c1 c2 c3).mono ?_
    rintro r w' ⟨rfl, x1⟩
    rw [hn]
    exact ⟨⟨_, rfl, _, rfl, hx.keep fun q _ hq => x1.block q hq⟩, x1⟩
  · refine (negation_new e a l c w h4).mono ?_
    rintro r w' ⟨rfl, x1, hb⟩
    have hn : e.neg = .mk 4 e.wd 0 [e] := by rw [E.neg, if_neg h4]
    rw [hn]
    obtain ⟨c0, c1, c2, c3, _⟩ := cells_of_block hb
    refine ⟨⟨_, rfl, _, rfl, .inr ⟨_, 0, 1, rfl, by simp, hS _ (by omega), fun i hi => ?_⟩⟩, x1⟩
    have hi0 : i = 0 := by simp at hi; omega
    subst hi0
    exact .mk' c0 c1 c2 c3 (hkT.keep fun q _ hq => x1.block q hq)

def impliesS (a b : E) : E := if a.isC 0 = true ∨ b.isC 1 = true then constE 1 1 else if a.isC 1 = true then b else if b.isC 0 = true then a.neg else .mk 6 1 0 [a.neg, b]
/-- What holds behind the two clones. -/
def ImpRel (w W : World) (a b : E) (wx : World) : Prop :=
  ∃ (xa xb : Option Addr) (la ca lb cb : Nat), Ext w wx ∧ Masks wx ∧ VarE wx w.heap.size a.op a.wd a.n (.slice xa la ca) ∧ VarE wx (w.heap.size + 1) b.op b.wd b.n (.slice xb lb cb) ∧ VarE wx (w.heap.size + 1 + 1) 0 0 0 (.slice none 0 0) ∧
    KidsT (fun k => W.heap.size ≤ k) wx (.slice xa la ca) a.kids ∧ KidsT (fun k => W.heap.size ≤ k) wx (.slice xb lb cb) b.kids ∧ W.heap.size ≤ wx.heap.size

theorem imp_rel {w W w2 w3 w4 : World} {a b : E} {va vb : Value} {xa xb : Option Addr} {la ca lb cb : Nat} (hX : Ext w W) (hM : Masks w) (hs : w.heap.size + 1 + 1 < W.heap.size) (hd : Ext W w2) (h4 : Ext W w4) (h34 : Ext w3 w4)
    (hVA : VarE W w.heap.size a.op a.wd a.n va) (hVB : VarE W (w.heap.size + 1) b.op b.wd b.n vb) (hVR : VarE W (w.heap.size + 1 + 1) 0 0 0 (.slice none 0 0)) (h3 : Ext W w3)
    (hKA : KidsT (fun k => w2.heap.size ≤ k ∧ k < w3.heap.size) w3 (.slice xa la ca) a.kids) (hKB : KidsT (fun k => w3.heap.size ≤ k ∧ k < w4.heap.size) w4 (.slice xb lb cb) b.kids) :
    ImpRel w W a b (put4 (put4 w4 w.heap.size 0 (.int .i64 a.op) (.int .i64 a.wd) (.int .i64 a.n) (.slice xa la ca)) (w.heap.size + 1) 0 (.int .i64 b.op) (.int .i64 b.wd) (.int .i64 b.n) (.slice xb lb cb)) := by
  have hR := hVR.ext h4; have hA := hVA.ext h4; have hB := hVB.ext h4
  have hx : Ext w (put4 (put4 w4 w.heap.size 0 (.int .i64 a.op) (.int .i64 a.wd) (.int .i64 a.n) (.slice xa la ca)) (w.heap.size + 1) 0 (.int .i64 b.op) (.int .i64 b.wd) (.int .i64 b.n) (.slice xb lb cb)) :=
    Below.trans (Below.trans (hX.trans h4) (below_put4 (Nat.le_refl _))) (below_put4 (by omega))
  have s2 := hd.size; have s3 := h3.size; have s4 := h4.size
  have far : ∀ q, W.heap.size ≤ q → (put4 (put4 w4 w.heap.size 0 (.int .i64 a.op) (.int .i64 a.wd) (.int .i64 a.n) (.slice xa la ca)) (w.heap.size + 1) 0 (.int .i64 b.op) (.int .i64 b.wd) (.int .i64 b.n) (.slice xb lb cb)).heap[q]? = w4.heap[q]? := fun q hq => by
    rw [put4_heap _ (by omega), put4_heap _ (by omega)]
  refine ⟨xa, xb, la, ca, lb, cb, hx, hM.ext hx, ?_, ?_, ?_, ?_, ?_, by rw [put4_size, put4_size]; omega⟩
  · unfold VarE; rw [put4_heap _ (by omega)]; exact put4_new hA
  · refine put4_new (a := .int .i64 b.op) (b := .int .i64 b.wd) (c := .int .i64 b.n) (d := vb) ?_
    rw [put4_heap _ (by omega)]; exact hB
  · unfold VarE; rw [put4_heap _ (by omega), put4_heap _ (by omega)]; exact hR
  · exact ((hKA.keep fun q _ hq => h34.block q hq).keep fun q hq _ => far q (by omega)).mono fun q hq => by omega
  · exact (hKB.keep fun q hq _ => far q (by omega)).mono fun q hq => by omega

set_option maxHeartbeats 8000000 in
theorem Implies_any (a b : E) (va vb : Value) (w : World) (ha : EVal w va a) (hb : EVal w vb b) (hM : Masks w) (hca : a.wd = 1 ∧ a.wf = true ∧ a.size ≤ 100000) (hcb : b.wd = 1 ∧ b.wf = true ∧ b.size ≤ 100000)
    (hk : a.op = 4 → a.kids ≠ []) (hwn : a.neg.wf = true) (hwo : (E.mk 6 1 0 [a.neg, b]).wf = true) : Calls Tryd.prog 30 #[va, vb] w (RetT (fun k => w.heap.size ≤ k) (impliesS a b) w) := by
  obtain ⟨aa, al, ac, rfl, _⟩ := ha.shape
  obtain ⟨ba, bl, bc, rfl, _⟩ := hb.shape
  obtain ⟨W, hW⟩ : ∃ W, W = ((w.alloc (.cells #[.int .i64 a.op, .int .i64 a.wd, .int .i64 a.n, .slice aa al ac] 24)).alloc (.cells #[.int .i64 b.op, .int .i64 b.wd, .int .i64 b.n, .slice ba bl bc] 24)).alloc (.cells zeroA 24) := ⟨_, rfl⟩
  have hx : Ext w W := by rw [hW]; exact (((Ext.refl w).alloc _).alloc _).alloc _
  obtain ⟨hv1, hv2, hv3⟩ := heap_of3 w (.cells #[.int .i64 a.op, .int .i64 a.wd, .int .i64 a.n, .slice aa al ac] 24) (.cells #[.int .i64 b.op, .int .i64 b.wd, .int .i64 b.n, .slice ba bl bc] 24) (.cells zeroA 24)
  rw [← hW] at hv1 hv2 hv3
  have HVA : Hid (VarE W w.heap.size a.op a.wd a.n (.slice aa al ac)) := hv1
  have HVB : Hid (VarE W (w.heap.size + 1) b.op b.wd b.n (.slice ba bl bc)) := hv2
  have HVR : Hid (VarE W (w.heap.size + 1 + 1) 0 0 0 (.slice none 0 0)) := hv3
  have HX := Lib.hid hx; have HA := Lib.hid (ha.ext hx); have HB := Lib.hid (hb.ext hx); have HM := Lib.hid (hM.ext hx); have HW := Lib.hid hW; have HCA := Lib.hid hca; have HCB := Lib.hid hcb; have HKN := Lib.hid hk; have HM0 := Lib.hid hM; have HWN := Lib.hid hwn; have HWO := Lib.hid hwo
  clear hx hv1 hv2 hv3 ha hb hM hW hca hcb hk hwn hwo
  have hwsz : w.heap.size + 1 + 1 < W.heap.size := HVR.out.lt
  go_enter Tryd.func30, Tryd.ntmps30
  go_upto_region 1 with fail
  rw [← HW.out]; clear HW
  obtain ⟨q0, q1, q2, q3⟩ := HVA.out.cells
  go_wp2_with fail
  refine (condition_any a _ _ HA.out HM.out).mono ?_
  rintro r w1 ⟨rfl, x1⟩
  rw [HCA.out.1, HCA.out.2.1]
  have HX1 := Lib.hid x1
  clear x1 q0 q1 q2 q3
  obtain ⟨q0, q1, q2, q3⟩ := (HVB.out.ext HX1.out).cells
  go_wp2_with fail
  refine (condition_any b _ _ (HB.out.ext HX1.out) (HM.out.ext HX1.out)).mono ?_
  rintro r w2 ⟨rfl, x1⟩
  rw [HCB.out.1, HCB.out.2.1]
  replace HX1 := Lib.hid (HX1.out.trans x1)
  clear x1 q0 q1 q2 q3
  go_upto_region 3 with fail
  obtain ⟨p0, p1, p2, p3⟩ := (HVA.out.ext HX1.out).cells
  obtain ⟨q0, q1, q2, q3⟩ := (HVB.out.ext HX1.out).cells
  have HD : Hid (Ext W w2.drew) := HX1.out.drew
  go_cut [] from 14 to 17 (fun wx => ImpRel w W a b wx)
  case first =>
    go_region_with (first
      | (have hgo := HZ1.out; clear hgo; go_at_call 41; refine (clone_any b _ _ (HB.out.ext HZ1.out) HCB.out.2.2).mono ?_; rintro r w4 ⟨⟨v, rfl, hv⟩, x1⟩; obtain ⟨yb, ybl, ybc, rfl, hky⟩ := hv.t.shape; have HKB := Lib.hid hky; have HZ2 := Lib.hid (HZ1.out.trans x1); have HZL := Lib.hid x1; obtain ⟨c0, c1, c2, c3, f0, f1, f2, f3⟩ := cells_of_block (HVA.out.ext HZ2.out); obtain ⟨d0, d1, d2, d3, h0, h1, h2, h3⟩ := cells_of_block (HVB.out.ext HZ2.out); clear x1 hv hky)
      | (go_at_call 41; refine (clone_any a _ _ (HA.out.ext HD.out) HCA.out.2.2).mono ?_; rintro r w3 ⟨⟨v, rfl, hv⟩, x1⟩; obtain ⟨ya, yal, yac, rfl, hky⟩ := hv.t.shape; have HKA := Lib.hid hky; have HZ1 := Lib.hid (HD.out.trans x1); obtain ⟨e0, e1, e2, e3⟩ := (HVB.out.ext HZ1.out).cells; clear x1 hv hky))
    all_goals
      go_wp2_with fail
      go_meet
      exact imp_rel HX.out HM0.out hwsz HD.out HZ2.out HZL.out HVA.out HVB.out HVR.out HZ1.out HKA.out HKB.out
  case rest =>
    obtain ⟨xa, xb, la, ca, lb, cb, hX, hMx, hA, hB, hR, hKA, hKB, hsz⟩ := hcut
    have XX := Lib.hid hX; have XM := Lib.hid hMx; have XA := Lib.hid hA; have XB := Lib.hid hB; have XR := Lib.hid hR; have XKA := Lib.hid hKA; have XKB := Lib.hid hKB
    clear hX hMx hA hB hR hKA hKB HD p0 p1 p2 p3 q0 q1 q2 q3 HVA HVB HVR HA HB HX HX1 HM HM0
    obtain ⟨wc0, hwc0⟩ : ∃ x, x = wc := ⟨_, rfl⟩
    subst hwc0
    cases ha0 : a.isC 0 with
    | true =>
      have HA0 := Lib.hid ha0
      have HF : Hid (impliesS a b = constE 1 1) := by rw [Hid, impliesS, ha0]; rfl
      clear ha0
      obtain ⟨q0, q1, q2, q3⟩ := XA.out.cells
      have HEV : Hid (EVal wc0 (.agg #[.int .i64 a.op, .int .i64 a.wd, .int .i64 a.n, .slice xa la ca]) a) := ⟨_, rfl, XKA.out.kids⟩
      go_wp2_with fail
      refine (isConst_any a _ _ _ HEV.out).mono ?_
      rintro r wc1 ⟨rfl, x1⟩
      rw [HA0.out]
      replace XX := Lib.hid (XX.out.trans x1); replace XM := Lib.hid (XM.out.ext x1); replace XA := Lib.hid (XA.out.ext x1); replace XB := Lib.hid (XB.out.ext x1); replace XR := Lib.hid (XR.out.ext x1); replace XKA := Lib.hid (XKA.out.keep fun q _ hq => x1.block q hq); replace XKB := Lib.hid (XKB.out.keep fun q _ hq => x1.block q hq); replace hsz := Nat.le_trans hsz x1.size
      clear x1 q0 q1 q2 q3 HEV
      go_wp2_with fail
      refine (constant_any 1 1 _).mono ?_
      rintro r wz ⟨rfl, x1⟩
      replace XX := Lib.hid (XX.out.trans x1); replace XM := Lib.hid (XM.out.ext x1); replace XA := Lib.hid (XA.out.ext x1); replace XB := Lib.hid (XB.out.ext x1); replace XR := Lib.hid (XR.out.ext x1); replace XKA := Lib.hid (XKA.out.keep fun q _ hq => x1.block q hq); replace XKB := Lib.hid (XKB.out.keep fun q _ hq => x1.block q hq); replace hsz := Nat.le_trans hsz x1.size
      clear x1
      obtain ⟨c0, c1, c2, c3, f0, f1, f2, f3⟩ := cells_of_block XR.out
      have HBB := Lib.hid (put4_new (x := .int .i64 1) (y := .int .i64 1) (z := .int .i64 1) (u := .slice none 0 0) XR.out)
      have HXE : Hid (Ext w (put4 wz (w.heap.size + 1 + 1) 0 (.int .i64 1) (.int .i64 1) (.int .i64 1) (.slice none 0 0))) := Below.trans XX.out (below_put4 (by omega))
      have HKE := Lib.hid ((show KidsT (fun k => W.heap.size ≤ k) wz (.slice none 0 0) (constE 1 1).kids from .inl ⟨⟨_, _, rfl⟩, rfl⟩).keep (w' := put4 wz (w.heap.size + 1 + 1) 0 (.int .i64 1) (.int .i64 1) (.int .i64 1) (.slice none 0 0)) fun q hq _ => put4_heap q (by omega))
      go_wp2_with fail
      refine bodyPost_ret (v := .agg #[.int .i64 1, .int .i64 1, .int .i64 1, .slice none 0 0]) (results_cell_row Tryd.results30 _ _ (w.heap.size + 1 + 1) 24 _ (0, 0) _ rfl HBB.out Tryd.underlying24 rfl sizeExpr) rfl ⟨⟨_, rfl, ?_⟩, HXE.out⟩
      rw [HF.out]; exact ⟨_, rfl, HKE.out.mono fun q hq => Nat.le_trans (show w.heap.size ≤ W.heap.size by omega) hq⟩
    | false =>
    have HA0 := Lib.hid ha0; clear ha0
    obtain ⟨q0, q1, q2, q3⟩ := XA.out.cells
    have HEV : Hid (EVal wc0 (.agg #[.int .i64 a.op, .int .i64 a.wd, .int .i64 a.n, .slice xa la ca]) a) := ⟨_, rfl, XKA.out.kids⟩
    go_wp2_with fail
    refine (isConst_any a _ _ _ HEV.out).mono ?_
    rintro r wc1 ⟨rfl, x1⟩
    rw [HA0.out]
    replace XX := Lib.hid (XX.out.trans x1); replace XM := Lib.hid (XM.out.ext x1); replace XA := Lib.hid (XA.out.ext x1); replace XB := Lib.hid (XB.out.ext x1); replace XR := Lib.hid (XR.out.ext x1); replace XKA := Lib.hid (XKA.out.keep fun q _ hq => x1.block q hq); replace XKB := Lib.hid (XKB.out.keep fun q _ hq => x1.block q hq); replace hsz := Nat.le_trans hsz x1.size
    clear x1 q0 q1 q2 q3 HEV
    cases hb1 : b.isC 1 with
    | true =>
      have HB1 := Lib.hid hb1
      have HF : Hid (impliesS a b = constE 1 1) := by rw [Hid, impliesS, hb1]; simp
      clear hb1
      obtain ⟨q0, q1, q2, q3⟩ := XB.out.cells
      have HEV : Hid (EVal wc1 (.agg #[.int .i64 b.op, .int .i64 b.wd, .int .i64 b.n, .slice xb lb cb]) b) := ⟨_, rfl, XKB.out.kids⟩
      go_wp2_with fail
      refine (isConst_any b _ _ _ HEV.out).mono ?_
      rintro r wc2 ⟨rfl, x1⟩
      rw [HB1.out]
      replace XX := Lib.hid (XX.out.trans x1); replace XM := Lib.hid (XM.out.ext x1); replace XA := Lib.hid (XA.out.ext x1); replace XB := Lib.hid (XB.out.ext x1); replace XR := Lib.hid (XR.out.ext x1); replace XKA := Lib.hid (XKA.out.keep fun q _ hq => x1.block q hq); replace XKB := Lib.hid (XKB.out.keep fun q _ hq => x1.block q hq); replace hsz := Nat.le_trans hsz x1.size
      clear x1 q0 q1 q2 q3 HEV
      go_wp2_with fail
      refine (constant_any 1 1 _).mono ?_
      rintro r wz ⟨rfl, x1⟩
      replace XX := Lib.hid (XX.out.trans x1); replace XM := Lib.hid (XM.out.ext x1); replace XA := Lib.hid (XA.out.ext x1); replace XB := Lib.hid (XB.out.ext x1); replace XR := Lib.hid (XR.out.ext x1); replace XKA := Lib.hid (XKA.out.keep fun q _ hq => x1.block q hq); replace XKB := Lib.hid (XKB.out.keep fun q _ hq => x1.block q hq); replace hsz := Nat.le_trans hsz x1.size
      clear x1
      obtain ⟨c0, c1, c2, c3, f0, f1, f2, f3⟩ := cells_of_block XR.out
      have HBB := Lib.hid (put4_new (x := .int .i64 1) (y := .int .i64 1) (z := .int .i64 1) (u := .slice none 0 0) XR.out)
      have HXE : Hid (Ext w (put4 wz (w.heap.size + 1 + 1) 0 (.int .i64 1) (.int .i64 1) (.int .i64 1) (.slice none 0 0))) := Below.trans XX.out (below_put4 (by omega))
      have HKE := Lib.hid ((show KidsT (fun k => W.heap.size ≤ k) wz (.slice none 0 0) (constE 1 1).kids from .inl ⟨⟨_, _, rfl⟩, rfl⟩).keep (w' := put4 wz (w.heap.size + 1 + 1) 0 (.int .i64 1) (.int .i64 1) (.int .i64 1) (.slice none 0 0)) fun q hq _ => put4_heap q (by omega))
      go_wp2_with fail
      refine bodyPost_ret (v := .agg #[.int .i64 1, .int .i64 1, .int .i64 1, .slice none 0 0]) (results_cell_row Tryd.results30 _ _ (w.heap.size + 1 + 1) 24 _ (0, 0) _ rfl HBB.out Tryd.underlying24 rfl sizeExpr) rfl ⟨⟨_, rfl, ?_⟩, HXE.out⟩
      rw [HF.out]; exact ⟨_, rfl, HKE.out.mono fun q hq => Nat.le_trans (show w.heap.size ≤ W.heap.size by omega) hq⟩
    | false =>
    have HB1 := Lib.hid hb1; clear hb1
    obtain ⟨q0, q1, q2, q3⟩ := XB.out.cells
    have HEV : Hid (EVal wc1 (.agg #[.int .i64 b.op, .int .i64 b.wd, .int .i64 b.n, .slice xb lb cb]) b) := ⟨_, rfl, XKB.out.kids⟩
    go_wp2_with fail
    refine (isConst_any b _ _ _ HEV.out).mono ?_
    rintro r wc2 ⟨rfl, x1⟩
    rw [HB1.out]
    replace XX := Lib.hid (XX.out.trans x1); replace XM := Lib.hid (XM.out.ext x1); replace XA := Lib.hid (XA.out.ext x1); replace XB := Lib.hid (XB.out.ext x1); replace XR := Lib.hid (XR.out.ext x1); replace XKA := Lib.hid (XKA.out.keep fun q _ hq => x1.block q hq); replace XKB := Lib.hid (XKB.out.keep fun q _ hq => x1.block q hq); replace hsz := Nat.le_trans hsz x1.size
    clear x1 q0 q1 q2 q3 HEV
    cases ha1 : a.isC 1 with
    | true =>
      have HA1 := Lib.hid ha1
      have HF : Hid (impliesS a b = b) := by rw [Hid, impliesS, HA0.out, HB1.out, ha1]; simp
      clear ha1
      obtain ⟨q0, q1, q2, q3⟩ := XA.out.cells
      have HEV : Hid (EVal wc2 (.agg #[.int .i64 a.op, .int .i64 a.wd, .int .i64 a.n, .slice xa la ca]) a) := ⟨_, rfl, XKA.out.kids⟩
      go_wp2_with fail
      refine (isConst_any a _ _ _ HEV.out).mono ?_
      rintro r wc3 ⟨rfl, x1⟩
      rw [HA1.out]
      replace XX := Lib.hid (XX.out.trans x1); replace XM := Lib.hid (XM.out.ext x1); replace XA := Lib.hid (XA.out.ext x1); replace XB := Lib.hid (XB.out.ext x1); replace XR := Lib.hid (XR.out.ext x1); replace XKA := Lib.hid (XKA.out.keep fun q _ hq => x1.block q hq); replace XKB := Lib.hid (XKB.out.keep fun q _ hq => x1.block q hq); replace hsz := Nat.le_trans hsz x1.size
      clear x1 q0 q1 q2 q3 HEV
      obtain ⟨q0, q1, q2, q3⟩ := XB.out.cells
      obtain ⟨c0, c1, c2, c3, f0, f1, f2, f3⟩ := cells_of_block XR.out
      have HBB := Lib.hid (put4_new (x := .int .i64 b.op) (y := .int .i64 b.wd) (z := .int .i64 b.n) (u := .slice xb lb cb) XR.out)
      have HXE : Hid (Ext w (put4 wc3 (w.heap.size + 1 + 1) 0 (.int .i64 b.op) (.int .i64 b.wd) (.int .i64 b.n) (.slice xb lb cb))) := Below.trans XX.out (below_put4 (by omega))
      have HKE := Lib.hid ((XKB.out).keep (w' := put4 wc3 (w.heap.size + 1 + 1) 0 (.int .i64 b.op) (.int .i64 b.wd) (.int .i64 b.n) (.slice xb lb cb)) fun q hq _ => put4_heap q (by omega))
      go_wp2_with fail
      refine bodyPost_ret (v := .agg #[.int .i64 b.op, .int .i64 b.wd, .int .i64 b.n, .slice xb lb cb]) (results_cell_row Tryd.results30 _ _ (w.heap.size + 1 + 1) 24 _ (0, 0) _ rfl HBB.out Tryd.underlying24 rfl sizeExpr) rfl ⟨⟨_, rfl, ?_⟩, HXE.out⟩
      rw [HF.out]; exact ⟨_, rfl, HKE.out.mono fun q hq => Nat.le_trans (show w.heap.size ≤ W.heap.size by omega) hq⟩
    | false =>
    have HA1 := Lib.hid ha1; clear ha1
    obtain ⟨q0, q1, q2, q3⟩ := XA.out.cells
    have HEV : Hid (EVal wc2 (.agg #[.int .i64 a.op, .int .i64 a.wd, .int .i64 a.n, .slice xa la ca]) a) := ⟨_, rfl, XKA.out.kids⟩
    go_wp2_with fail
    refine (isConst_any a _ _ _ HEV.out).mono ?_
    rintro r wc3 ⟨rfl, x1⟩
    rw [HA1.out]
    replace XX := Lib.hid (XX.out.trans x1); replace XM := Lib.hid (XM.out.ext x1); replace XA := Lib.hid (XA.out.ext x1); replace XB := Lib.hid (XB.out.ext x1); replace XR := Lib.hid (XR.out.ext x1); replace XKA := Lib.hid (XKA.out.keep fun q _ hq => x1.block q hq); replace XKB := Lib.hid (XKB.out.keep fun q _ hq => x1.block q hq); replace hsz := Nat.le_trans hsz x1.size
    clear x1 q0 q1 q2 q3 HEV
    cases hb0 : b.isC 0 with
    | true =>
      have HB0 := Lib.hid hb0
      have HF : Hid (impliesS a b = a.neg) := by rw [Hid, impliesS, HA0.out, HB1.out, HA1.out, hb0]; simp
      clear hb0
      obtain ⟨q0, q1, q2, q3⟩ := XB.out.cells
      have HEV : Hid (EVal wc3 (.agg #[.int .i64 b.op, .int .i64 b.wd, .int .i64 b.n, .slice xb lb cb]) b) := ⟨_, rfl, XKB.out.kids⟩
      go_wp2_with fail
      refine (isConst_any b _ _ _ HEV.out).mono ?_
      rintro r wc4 ⟨rfl, x1⟩
      rw [HB0.out]
      replace XX := Lib.hid (XX.out.trans x1); replace XM := Lib.hid (XM.out.ext x1); replace XA := Lib.hid (XA.out.ext x1); replace XB := Lib.hid (XB.out.ext x1); replace XR := Lib.hid (XR.out.ext x1); replace XKA := Lib.hid (XKA.out.keep fun q _ hq => x1.block q hq); replace XKB := Lib.hid (XKB.out.keep fun q _ hq => x1.block q hq); replace hsz := Nat.le_trans hsz x1.size
      clear x1 q0 q1 q2 q3 HEV
      obtain ⟨q0, q1, q2, q3⟩ := XA.out.cells
      go_wp2_with fail
      refine (negation_ret (fun k => W.heap.size ≤ k) a _ _ ⟨_, rfl, XKA.out⟩ (fun k hk => by omega) HKN.out).mono ?_
      rintro r wn ⟨⟨v, rfl, hv⟩, x1⟩
      generalize a.neg = y at *
      obtain ⟨ya, yl, yc, rfl, hky⟩ := hv.shape
      have HEV := Lib.hid hv.eVal; have HKY := Lib.hid hky
      replace XX := Lib.hid (XX.out.trans x1); replace XM := Lib.hid (XM.out.ext x1); replace XA := Lib.hid (XA.out.ext x1); replace XB := Lib.hid (XB.out.ext x1); replace XR := Lib.hid (XR.out.ext x1); replace XKA := Lib.hid (XKA.out.keep fun q _ hq => x1.block q hq); replace XKB := Lib.hid (XKB.out.keep fun q _ hq => x1.block q hq); replace hsz := Nat.le_trans hsz x1.size
      clear x1 hv hky q0 q1 q2 q3
      go_wp2_with fail
      refine (formed_yes y _ _ HEV.out XM.out HWN.out).mono ?_
      rintro r wz ⟨rfl, x1⟩
      replace HKY := Lib.hid (HKY.out.keep fun q _ hq => x1.block q hq)
      replace XX := Lib.hid (XX.out.trans x1); replace XM := Lib.hid (XM.out.ext x1); replace XA := Lib.hid (XA.out.ext x1); replace XB := Lib.hid (XB.out.ext x1); replace XR := Lib.hid (XR.out.ext x1); replace XKA := Lib.hid (XKA.out.keep fun q _ hq => x1.block q hq); replace XKB := Lib.hid (XKB.out.keep fun q _ hq => x1.block q hq); replace hsz := Nat.le_trans hsz x1.size
      clear x1 HEV
      obtain ⟨c0, c1, c2, c3, f0, f1, f2, f3⟩ := cells_of_block XR.out
      have HBB := Lib.hid (put4_new (x := .int .i64 y.op) (y := .int .i64 y.wd) (z := .int .i64 y.n) (u := .slice ya yl yc) XR.out)
      have HXE : Hid (Ext w (put4 wz (w.heap.size + 1 + 1) 0 (.int .i64 y.op) (.int .i64 y.wd) (.int .i64 y.n) (.slice ya yl yc))) := Below.trans XX.out (below_put4 (by omega))
      have HKE := Lib.hid ((HKY.out).keep (w' := put4 wz (w.heap.size + 1 + 1) 0 (.int .i64 y.op) (.int .i64 y.wd) (.int .i64 y.n) (.slice ya yl yc)) fun q hq _ => put4_heap q (by omega))
      go_wp2_with fail
      refine bodyPost_ret (v := .agg #[.int .i64 y.op, .int .i64 y.wd, .int .i64 y.n, .slice ya yl yc]) (results_cell_row Tryd.results30 _ _ (w.heap.size + 1 + 1) 24 _ (0, 0) _ rfl HBB.out Tryd.underlying24 rfl sizeExpr) rfl ⟨⟨_, rfl, ?_⟩, HXE.out⟩
      rw [HF.out]; exact ⟨_, rfl, HKE.out.mono fun q hq => Nat.le_trans (show w.heap.size ≤ W.heap.size by omega) hq⟩
    | false =>
    have HB0 := Lib.hid hb0
    have HF : Hid (impliesS a b = .mk 6 1 0 [a.neg, b]) := by rw [Hid, impliesS, HA0.out, HB1.out, HA1.out, hb0]; simp
    clear hb0
    obtain ⟨q0, q1, q2, q3⟩ := XB.out.cells
    have HEV : Hid (EVal wc3 (.agg #[.int .i64 b.op, .int .i64 b.wd, .int .i64 b.n, .slice xb lb cb]) b) := ⟨_, rfl, XKB.out.kids⟩
    go_wp2_with fail
    refine (isConst_any b _ _ _ HEV.out).mono ?_
    rintro r wc4 ⟨rfl, x1⟩
    rw [HB0.out]
    replace XX := Lib.hid (XX.out.trans x1); replace XM := Lib.hid (XM.out.ext x1); replace XA := Lib.hid (XA.out.ext x1); replace XB := Lib.hid (XB.out.ext x1); replace XR := Lib.hid (XR.out.ext x1); replace XKA := Lib.hid (XKA.out.keep fun q _ hq => x1.block q hq); replace XKB := Lib.hid (XKB.out.keep fun q _ hq => x1.block q hq); replace hsz := Nat.le_trans hsz x1.size
    clear x1 q0 q1 q2 q3 HEV
    go_upto_region 11 with fail
    obtain ⟨p0, p1, p2, p3⟩ := XA.out.cells
    obtain ⟨q0, q1, q2, q3⟩ := XB.out.cells
    have HD : Hid (Ext wc4 wc4.drew) := (Ext.refl _).drew
    go_region_with (first
      | (have hgo := HZ1.out; clear hgo; go_at_call 68; refine (formed_yes (.mk 6 1 0 [y, b]) _ _ ⟨_, rfl, HEV.out.kids⟩ HMM.out HWO.out).mono ?_; rintro r wz ⟨rfl, x1⟩; have HZ2 := Lib.hid (HZ1.out.trans x1); have HKZ := Lib.hid (HEV.out.keep fun q _ hq => x1.block q hq); obtain ⟨c0, c1, c2, c3, f0, f1, f2, f3⟩ := cells_of_block (XR.out.ext HZ2.out); clear x1)
      | (go_at_call 69; refine (negation_ret (fun k => W.heap.size ≤ k) a _ _ (EValT.ext ⟨_, rfl, XKA.out⟩ HD.out) (fun k hk => Nat.le_trans hsz (Nat.le_trans HD.out.size hk)) HKN.out).mono ?_; rintro r wn ⟨⟨v, rfl, hv⟩, x1⟩; generalize a.neg = y at *; obtain ⟨ya, yl, yc, rfl, hky⟩ := hv.shape; have hD1 := HD.out.trans x1; have HZ1 : Hid (Ext wc4 (wn.alloc (.cells #[.int .i64 y.op, .int .i64 y.wd, .int .i64 y.n, .slice ya yl yc, .int .i64 b.op, .int .i64 b.wd, .int .i64 b.n, .slice xb lb cb] 24))) := hD1.alloc _; have HMM := Lib.hid (XM.out.ext HZ1.out); have HEV : Hid (KidsT (fun k => W.heap.size ≤ k) (wn.alloc (.cells #[.int .i64 y.op, .int .i64 y.wd, .int .i64 y.n, .slice ya yl yc, .int .i64 b.op, .int .i64 b.wd, .int .i64 b.n, .slice xb lb cb] 24)) (.slice (some ⟨wn.heap.size, 0, none⟩) 2 2) [y, b]) := two_valT ((Ext.refl wn).alloc _) hky (XKB.out.keep fun q _ hq => hD1.block q hq) (Nat.le_trans hsz hD1.size) (heap_new _ _); obtain ⟨e0, e1, e2, e3⟩ := (XB.out.ext hD1).cells; clear x1 hv hky hD1))
    all_goals
      go_wp2_with fail
      have HBB := Lib.hid (put4_new (x := .int .i64 6) (y := .int .i64 1) (z := .int .i64 0) (u := .slice (some ⟨wn.heap.size, 0, none⟩) 2 2) (XR.out.ext HZ2.out))
      have HXE : Hid (Ext w (put4 wz (w.heap.size + 1 + 1) 0 (.int .i64 6) (.int .i64 1) (.int .i64 0) (.slice (some ⟨wn.heap.size, 0, none⟩) 2 2))) := Below.trans (XX.out.trans HZ2.out) (below_put4 (by omega))
      have HKE := Lib.hid (HKZ.out.keep (w' := put4 wz (w.heap.size + 1 + 1) 0 (.int .i64 6) (.int .i64 1) (.int .i64 0) (.slice (some ⟨wn.heap.size, 0, none⟩) 2 2)) fun q hq _ => put4_heap q (by omega))
      refine bodyPost_ret (v := .agg #[.int .i64 6, .int .i64 1, .int .i64 0, .slice (some ⟨wn.heap.size, 0, none⟩) 2 2]) (results_cell_row Tryd.results30 _ _ (w.heap.size + 1 + 1) 24 _ (0, 0) _ rfl HBB.out Tryd.underlying24 rfl sizeExpr) rfl ⟨⟨_, rfl, ?_⟩, HXE.out⟩
      rw [HF.out]; exact ⟨_, rfl, HKE.out.mono fun q hq => Nat.le_trans (show w.heap.size ≤ W.heap.size by omega) hq⟩
end Go.Proofs.YtdancokndklpnaaDoor
