/-
  The walk of RelationMatchesReference. Printed by gen_law15z.py.
-/
import Derived.Test.YtlnahhlddekhoaaGreatDoorG35
import Derived.Test.YtlnahhlddekhoaaGreatDoorG36
namespace Go.Proofs.YtlnahhlddekhoaaGreatDoor
open Go.RowKit

set_option maxRecDepth 100000 in
set_option maxHeartbeats 16000000 in
theorem RelationMatchesReference_any (cells : List CellD) (list : List Int) (e : E) (cs ws : List Int) (P : List (Int × Int)) (cs2 ws2 : List Int) (Q : List (Int × Int)) (cs3 ws3 js : List Int) (vc vl ve va vb vs : Value) (w : World)
    (hc : Cells w vc cells) (hl : Ints w vl list) (he : EVal w ve e) (ha : RelV w va cs ws P) (hb : RelV w vb cs2 ws2 Q) (hs : SetV w vs cs3 ws3 js) (hM : Masks w) (hT : DeB w) :
    Calls Tryz.prog 3 #[vc, vl, ve, va, vb, vs] w fun r w' => r = .returned (.bool true) ∧ Ext w w' := by
  obtain ⟨ca, cc, rfl⟩ := hc.shape
  obtain ⟨la, lc, rfl⟩ := hl.shape
  obtain ⟨ek, rfl, hek⟩ := he
  obtain ⟨ka, kc, rfl⟩ := SliceAt.shape hek
  obtain ⟨a1, a2, a3, a4, a5, a6, a7, a8, a9, rfl⟩ := ha.shape'
  obtain ⟨b1, b2, b3, b4, b5, b6, b7, b8, b9, rfl⟩ := hb.shape'
  obtain ⟨s1, s2, s3, s4, s5, s6, s7, s8, s9, rfl⟩ := hs.shape'
  obtain ⟨W, hW⟩ : ∃ W, Boxes3 w W (.cells #[.int .i64 e.op, .int .i64 e.wd, .int .i64 e.n, .slice ka e.kids.length kc] 26) (.cells #[.slice a1 a2 a3, .slice a4 a5 a6, .slice a7 a8 a9] 29) (.cells #[.slice b1 b2 b3, .slice b4 b5 b6, .slice b7 b8 b9] 29) := ⟨_, Boxes3.mk' _ _ _ _⟩
  obtain ⟨V, hV⟩ : ∃ V, V = W.alloc (.cells #[.slice s1 s2 s3, .slice s4 s5 s6, .slice s7 s8 s9] 31) := ⟨_, rfl⟩
  have hxV : Ext W V := by rw [hV]; exact (Ext.refl _).alloc _
  have hx := hW.ext.trans hxV
  have HVe : Hid (VarE V w.heap.size e.op e.wd e.n (.slice ka e.kids.length kc)) := VarE.ext hW.b0 hxV
  have HVa : Hid (Var3 29 V (w.heap.size + 1) (.slice a1 a2 a3) (.slice a4 a5 a6) (.slice a7 a8 a9)) := Var3.ext hW.b1 hxV
  have HVb : Hid (Var3 29 V (w.heap.size + 2) (.slice b1 b2 b3) (.slice b4 b5 b6) (.slice b7 b8 b9)) := Var3.ext hW.b2 hxV
  have HVs : Hid (Var3 31 V (w.heap.size + 3) (.slice s1 s2 s3) (.slice s4 s5 s6) (.slice s7 s8 s9)) := by rw [hV, ← hW.size]; exact Var3.new _ _ _ _ _
  have Hc := Lib.hid (hc.ext hx); have Hl := Lib.hid (hl.ext hx)
  have He : Hid (EVal V (.agg #[.int .i64 e.op, .int .i64 e.wd, .int .i64 e.n, .slice ka e.kids.length kc]) e) := ⟨_, rfl, hek.ext hx⟩
  have Ha := Lib.hid (ha.ext hx); have Hb := Lib.hid (hb.ext hx); have Hs := Lib.hid (hs.ext hx)
  have HX := Lib.hid hx; have HDe := Lib.hid (hT.ext hx); have HMk := Lib.hid (hM.ext hx); have HW := Lib.hid hW.eq; have HV0 := Lib.hid hV
  clear hc hl hek ha hb hs hM hT hW hV hxV hx
  go_enter Tryz.func3, Tryz.ntmps3
  go_upto_region 1 with fail
  rw [← HW.out, ← HV0.out]
  clear HW HV0
  generalize w.heap.size + 3 = bs at *
  generalize w.heap.size + 2 = bb at *
  generalize w.heap.size + 1 = ba at *
  generalize w.heap.size = be at *
  go_wp2_with fail
  refine (head_any V HDe.out HMk.out).mono ?_
  rintro r wk1 ⟨rfl, x1⟩
  replace HX := Lib.hid (HX.out.trans x1); replace HDe := Lib.hid (HDe.out.ext x1); replace HMk := Lib.hid (HMk.out.ext x1); replace Hc := Lib.hid (Hc.out.ext x1); replace Hl := Lib.hid (Hl.out.ext x1); replace He := Lib.hid (He.out.ext x1); replace Ha := Lib.hid (Ha.out.ext x1); replace Hb := Lib.hid (Hb.out.ext x1); replace Hs := Lib.hid (Hs.out.ext x1); replace HVe := Lib.hid (HVe.out.ext x1); replace HVa := Lib.hid (HVa.out.ext x1); replace HVb := Lib.hid (HVb.out.ext x1); replace HVs := Lib.hid (HVs.out.ext x1)
  clear x1
  by_cases hlen_cells : 40 < cells.length
  · go_wp2_with fail
    exact bodyPost_ret (v := .bool true) (by simp [results, Tryz.results3, go_sem]) rfl ⟨rfl, HX.out⟩
  by_cases hlen_list : 40 < list.length
  · go_wp2_with fail
    exact bodyPost_ret (v := .bool true) (by simp [results, Tryz.results3, go_sem]) rfl ⟨rfl, HX.out⟩
  obtain ⟨e0, e1, e2, e3⟩ := HVe.out.cells
  go_wp2_with fail
  refine (RSmall_any e _ _ 40 He.out (by omega) (by omega)).mono ?_
  rintro r wk2 ⟨rfl, x1⟩
  replace HX := Lib.hid (HX.out.trans x1); replace HDe := Lib.hid (HDe.out.ext x1); replace HMk := Lib.hid (HMk.out.ext x1); replace Hc := Lib.hid (Hc.out.ext x1); replace Hl := Lib.hid (Hl.out.ext x1); replace He := Lib.hid (He.out.ext x1); replace Ha := Lib.hid (Ha.out.ext x1); replace Hb := Lib.hid (Hb.out.ext x1); replace Hs := Lib.hid (Hs.out.ext x1); replace HVe := Lib.hid (HVe.out.ext x1); replace HVa := Lib.hid (HVa.out.ext x1); replace HVb := Lib.hid (HVb.out.ext x1); replace HVs := Lib.hid (HVs.out.ext x1)
  clear x1 e0 e1 e2 e3
  cases h1 : decide ((e.size : Int) ≤ 40) with
  | false =>
    clear h1
    go_wp2_with fail
    exact bodyPost_ret (v := .bool true) (by simp [results, Tryz.results3, go_sem]) rfl ⟨rfl, HX.out⟩
  | true =>
  clear h1
  obtain ⟨q0, q1, q2⟩ := HVa.out.cells
  go_wp2_with fail
  refine (Short_any cs ws P _ _ Ha.out).mono ?_
  rintro r wk3 ⟨rfl, x1⟩
  replace HX := Lib.hid (HX.out.trans x1); replace HDe := Lib.hid (HDe.out.ext x1); replace HMk := Lib.hid (HMk.out.ext x1); replace Hc := Lib.hid (Hc.out.ext x1); replace Hl := Lib.hid (Hl.out.ext x1); replace He := Lib.hid (He.out.ext x1); replace Ha := Lib.hid (Ha.out.ext x1); replace Hb := Lib.hid (Hb.out.ext x1); replace Hs := Lib.hid (Hs.out.ext x1); replace HVe := Lib.hid (HVe.out.ext x1); replace HVa := Lib.hid (HVa.out.ext x1); replace HVb := Lib.hid (HVb.out.ext x1); replace HVs := Lib.hid (HVs.out.ext x1)
  clear x1 q0 q1 q2
  cases h1 : lenB 1100 cs.length ws.length P.length with
  | false =>
    clear h1
    go_wp2_with fail
    exact bodyPost_ret (v := .bool true) (by simp [results, Tryz.results3, go_sem]) rfl ⟨rfl, HX.out⟩
  | true =>
  clear h1
  obtain ⟨q0, q1, q2⟩ := HVb.out.cells
  go_wp2_with fail
  refine (Short_any cs2 ws2 Q _ _ Hb.out).mono ?_
  rintro r wk4 ⟨rfl, x1⟩
  replace HX := Lib.hid (HX.out.trans x1); replace HDe := Lib.hid (HDe.out.ext x1); replace HMk := Lib.hid (HMk.out.ext x1); replace Hc := Lib.hid (Hc.out.ext x1); replace Hl := Lib.hid (Hl.out.ext x1); replace He := Lib.hid (He.out.ext x1); replace Ha := Lib.hid (Ha.out.ext x1); replace Hb := Lib.hid (Hb.out.ext x1); replace Hs := Lib.hid (Hs.out.ext x1); replace HVe := Lib.hid (HVe.out.ext x1); replace HVa := Lib.hid (HVa.out.ext x1); replace HVb := Lib.hid (HVb.out.ext x1); replace HVs := Lib.hid (HVs.out.ext x1)
  clear x1 q0 q1 q2
  cases h1 : lenB 1100 cs2.length ws2.length Q.length with
  | false =>
    clear h1
    go_wp2_with fail
    exact bodyPost_ret (v := .bool true) (by simp [results, Tryz.results3, go_sem]) rfl ⟨rfl, HX.out⟩
  | true =>
  clear h1
  obtain ⟨q0, q1, q2⟩ := HVs.out.cells
  go_wp2_with fail
  refine (Few_any cs3 ws3 js _ _ Hs.out).mono ?_
  rintro r wk5 ⟨rfl, x1⟩
  replace HX := Lib.hid (HX.out.trans x1); replace HDe := Lib.hid (HDe.out.ext x1); replace HMk := Lib.hid (HMk.out.ext x1); replace Hc := Lib.hid (Hc.out.ext x1); replace Hl := Lib.hid (Hl.out.ext x1); replace He := Lib.hid (He.out.ext x1); replace Ha := Lib.hid (Ha.out.ext x1); replace Hb := Lib.hid (Hb.out.ext x1); replace Hs := Lib.hid (Hs.out.ext x1); replace HVe := Lib.hid (HVe.out.ext x1); replace HVa := Lib.hid (HVa.out.ext x1); replace HVb := Lib.hid (HVb.out.ext x1); replace HVs := Lib.hid (HVs.out.ext x1)
  clear x1 q0 q1 q2
  cases h1 : lenB 64 cs3.length ws3.length js.length with
  | false =>
    clear h1
    go_wp2_with fail
    exact bodyPost_ret (v := .bool true) (by simp [results, Tryz.results3, go_sem]) rfl ⟨rfl, HX.out⟩
  | true =>
  clear h1
  have XU : Hid (Ext wk5 wk5) := Ext.refl _
  have hb1 : list.length ≤ 1000000 := by omega
  clear hlen_cells
  obtain ⟨kk, C, D, I, hp, hr⟩ := both_of cells list e hb1
  have HP := Lib.hid hp; have HR := Lib.hid hr
  clear hp hr
  obtain ⟨oe0, oe1, oe2, oe3⟩ := (HVe.out.ext XU.out).cells
  go_wp2_with fail
  refine (HP.out _ _ _ _ (Hc.out.ext XU.out) (Hl.out.ext XU.out) (He.out.ext XU.out) (HMk.out.ext XU.out) (HDe.out.ext XU.out)).mono ?_
  rintro r u6 ⟨v, rfl, hv, x1⟩
  obtain ⟨m1, m2, m3, m4, m5, m6, m7, m8, m9, rfl⟩ := hv.relV.shape'
  go_upto_region 5 with fail
  obtain ⟨U6, hU⟩ : ∃ U, U = u6.alloc (.cells #[.slice m1 m2 m3, .slice m4 m5 m6, .slice m7 m8 m9] 29) := ⟨_, rfl⟩
  have x2 : Ext u6 U6 := by rw [hU]; exact (Ext.refl _).alloc _
  have HVm : Hid (Var3 29 U6 u6.heap.size (.slice m1 m2 m3) (.slice m4 m5 m6) (.slice m7 m8 m9)) := by rw [hU]; exact Var3.new _ _ _ _ _
  have HOm : Hid (RelV U6 (.agg #[.slice m1 m2 m3, .slice m4 m5 m6, .slice m7 m8 m9]) C D I) := hv.relV.ext x2
  have HBbm : Hid (wk5.heap.size ≤ u6.heap.size) := (XU.out.trans x1).size
  skip
  rw [← hU]
  replace XU := Lib.hid (XU.out.trans (x1.trans x2))
  clear hv x1 x2 hU oe0 oe1 oe2 oe3
  generalize u6.heap.size = bm at *
  have HLm := Lib.hid (lt_heap HVm.out)
  obtain ⟨oe0, oe1, oe2, oe3⟩ := (HVe.out.ext XU.out).cells
  go_wp2_with fail
  refine (HR.out _ _ _ _ (Hc.out.ext XU.out) (Hl.out.ext XU.out) (He.out.ext XU.out)).mono ?_
  rintro r u7 ⟨v, rfl, hv, x1⟩
  obtain ⟨n1, n2, n3, n4, n5, n6, n7, n8, n9, rfl⟩ := hv.relV.shape'
  go_upto_region 6 with fail
  obtain ⟨U7, hU⟩ : ∃ U, U = u7.alloc (.cells #[.slice n1 n2 n3, .slice n4 n5 n6, .slice n7 n8 n9] 29) := ⟨_, rfl⟩
  have x2 : Ext u7 U7 := by rw [hU]; exact (Ext.refl _).alloc _
  have HVn : Hid (Var3 29 U7 u7.heap.size (.slice n1 n2 n3) (.slice n4 n5 n6) (.slice n7 n8 n9)) := by rw [hU]; exact Var3.new _ _ _ _ _
  have HOn : Hid (RelV U7 (.agg #[.slice n1 n2 n3, .slice n4 n5 n6, .slice n7 n8 n9]) C D I) := hv.relV.ext x2
  have HBbn : Hid (wk5.heap.size ≤ u7.heap.size) := (XU.out.trans x1).size
  have HNE : Hid (u7.heap.size ≠ bm) := by have h1 := HLm.out; have h2 := x1.size; unfold Hid; omega
  rw [← hU]
  replace XU := Lib.hid (XU.out.trans (x1.trans x2))
  replace HVm := Lib.hid (HVm.out.ext (x1.trans x2))
  replace HOm := Lib.hid (HOm.out.ext (x1.trans x2))
  clear hv x1 x2 hU oe0 oe1 oe2 oe3
  generalize u7.heap.size = bn at *

  obtain ⟨q0, q1, q2⟩ := HVm.out.cells
  obtain ⟨s0_, s1_, s2_⟩ := HVn.out.cells
  go_wp2_with fail
  refine (RSame15_any C D I C D I _ _ _ HOm.out HOn.out).mono ?_
  rintro r u8 ⟨rfl, x1⟩
  rw [sameR_self]
  replace XU := Lib.hid (XU.out.trans x1); replace HVm := Lib.hid (HVm.out.ext x1); replace HVn := Lib.hid (HVn.out.ext x1)
  clear x1 q0 q1 q2 s0_ s1_ s2_ HOm HOn HP HR
  obtain ⟨kk, C, D, I, hp, hr⟩ := both_id cells list hb1
  have HP := Lib.hid hp; have HR := Lib.hid hr
  clear hp hr
  have hbz : bm < u8.heap.size := lt_heap HVm.out
  have hbz2 : bn < u8.heap.size := lt_heap HVn.out
  have HSZ9 : Hid (bm < u8.heap.size ∧ bn < u8.heap.size) := ⟨hbz, hbz2⟩
  clear hbz hbz2
  go_wp2_with fail
  refine (HP.out _ _ _ (Hc.out.ext XU.out) (Hl.out.ext XU.out) (HMk.out.ext XU.out) (HDe.out.ext XU.out)).mono ?_
  rintro r u9 ⟨v, rfl, hv, x1⟩
  obtain ⟨p1, p2, p3, p4, p5, p6, p7, p8, p9, rfl⟩ := hv.relV.shape'
  have hB : u9.heap[bm]? = some (.cells #[.slice m1 m2 m3, .slice m4 m5 m6, .slice m7 m8 m9] 29 (0, 0)) := HVm.out.ext x1
  obtain ⟨z0, z1, z2, f0, f1, f2⟩ := block3 hB
  have HBo := Lib.hid hB; have HVv := Lib.hid hv; have X1 := Lib.hid x1
  clear hB hv x1
  go_upto_region 9 with fail
  clear z0 z1 z2 f0 f1 f2
  obtain ⟨U9, hU⟩ : ∃ U, U = put3 u9 bm (.slice p1 p2 p3) (.slice p4 p5 p6) (.slice p7 p8 p9) := ⟨_, rfl⟩
  have hU' : U9 = ((u9.setCell ⟨bm, 0, none⟩ (.slice p1 p2 p3)).setCell ⟨bm, 1, none⟩ (.slice p4 p5 p6)).setCell ⟨bm, 2, none⟩ (.slice p7 p8 p9) := hU
  rw [← hU']
  have HVp : Hid (Var3 29 U9 bm (.slice p1 p2 p3) (.slice p4 p5 p6) (.slice p7 p8 p9)) := by rw [hU]; exact put3_new HBo.out
  have HOp : Hid (RelO U9 u8.heap.size (.agg #[.slice p1 p2 p3, .slice p4 p5 p6, .slice p7 p8 p9]) C D I) := by rw [hU]; exact HVv.out.put3 HSZ9.out.1 _ _ _
  have HVo : Hid (Var3 29 U9 bn (.slice n1 n2 n3) (.slice n4 n5 n6) (.slice n7 n8 n9)) := by rw [hU]; exact (put3_other bn HNE.out).trans (HVn.out.ext X1.out)
  replace XU : Hid (Ext wk5 U9) := by rw [hU]; exact (XU.out.trans X1.out).put3 HBbm.out _ _ _
  skip
  skip
  replace HVn := HVo
  clear HVo HBo HVv hU hU' HVm
  have hbz : bn < U9.heap.size := lt_heap HVn.out
  have hbz2 : bm < U9.heap.size := lt_heap HVp.out
  have HSZ10 : Hid (bn < U9.heap.size ∧ bm < U9.heap.size) := ⟨hbz, hbz2⟩
  clear hbz hbz2
  go_wp2_with fail
  refine (HR.out _ _ _ (Hc.out.ext XU.out) (Hl.out.ext XU.out)).mono ?_
  rintro r u10 ⟨v, rfl, hv, x1⟩
  obtain ⟨q1, q2, q3, q4, q5, q6, q7, q8, q9, rfl⟩ := hv.relV.shape'
  have hB : u10.heap[bn]? = some (.cells #[.slice n1 n2 n3, .slice n4 n5 n6, .slice n7 n8 n9] 29 (0, 0)) := HVn.out.ext x1
  obtain ⟨z0, z1, z2, f0, f1, f2⟩ := block3 hB
  have HBo := Lib.hid hB; have HVv := Lib.hid hv; have X1 := Lib.hid x1
  clear hB hv x1
  go_upto_region 10 with fail
  clear z0 z1 z2 f0 f1 f2
  obtain ⟨U10, hU⟩ : ∃ U, U = put3 u10 bn (.slice q1 q2 q3) (.slice q4 q5 q6) (.slice q7 q8 q9) := ⟨_, rfl⟩
  have hU' : U10 = ((u10.setCell ⟨bn, 0, none⟩ (.slice q1 q2 q3)).setCell ⟨bn, 1, none⟩ (.slice q4 q5 q6)).setCell ⟨bn, 2, none⟩ (.slice q7 q8 q9) := hU
  rw [← hU']
  have HVq : Hid (Var3 29 U10 bn (.slice q1 q2 q3) (.slice q4 q5 q6) (.slice q7 q8 q9)) := by rw [hU]; exact put3_new HBo.out
  have HOq : Hid (RelO U10 U9.heap.size (.agg #[.slice q1 q2 q3, .slice q4 q5 q6, .slice q7 q8 q9]) C D I) := by rw [hU]; exact HVv.out.put3 HSZ10.out.1 _ _ _
  have HVo : Hid (Var3 29 U10 bm (.slice p1 p2 p3) (.slice p4 p5 p6) (.slice p7 p8 p9)) := by rw [hU]; exact (put3_other bm HNE.out.symm).trans (HVp.out.ext X1.out)
  replace XU : Hid (Ext wk5 U10) := by rw [hU]; exact (XU.out.trans X1.out).put3 HBbn.out _ _ _
  have HOo : Hid (RelO U10 u8.heap.size (.agg #[.slice p1 p2 p3, .slice p4 p5 p6, .slice p7 p8 p9]) C D I) := by rw [hU]; exact (HOp.out.kept X1.out).put3 HSZ9.out.2 _ _ _
  replace HOp := HOo
  replace HVp := HVo
  clear HVo HBo HVv hU hU' HVn
  obtain ⟨q0, q1, q2⟩ := HVp.out.cells
  obtain ⟨s0_, s1_, s2_⟩ := HVq.out.cells
  go_wp2_with fail
  refine (RSame15_any C D I C D I _ _ _ HOp.out.relV HOq.out.relV).mono ?_
  rintro r u11 ⟨rfl, x1⟩
  rw [sameR_self]
  replace XU := Lib.hid (XU.out.trans x1); replace HVp := Lib.hid (HVp.out.ext x1); replace HVq := Lib.hid (HVq.out.ext x1)
  clear x1 q0 q1 q2 s0_ s1_ s2_ HOp HOq HP HR
  obtain ⟨kk, C, D, I, hp, hr⟩ := both_uni cs ws P cs2 ws2 Q
  have HP := Lib.hid hp; have HR := Lib.hid hr
  clear hp hr
  obtain ⟨oa0, oa1, oa2⟩ := (HVa.out.ext XU.out).cells
  obtain ⟨ob0, ob1, ob2⟩ := (HVb.out.ext XU.out).cells
  have hbz : bm < u11.heap.size := lt_heap HVp.out
  have hbz2 : bn < u11.heap.size := lt_heap HVq.out
  have HSZ12 : Hid (bm < u11.heap.size ∧ bn < u11.heap.size) := ⟨hbz, hbz2⟩
  clear hbz hbz2
  go_wp2_with fail
  refine (HP.out _ _ _ (Ha.out.ext XU.out) (Hb.out.ext XU.out) (HDe.out.ext XU.out)).mono ?_
  rintro r u12 ⟨v, rfl, hv, x1⟩
  obtain ⟨ta1, ta2, ta3, ta4, ta5, ta6, ta7, ta8, ta9, rfl⟩ := hv.relV.shape'
  have hB : u12.heap[bm]? = some (.cells #[.slice p1 p2 p3, .slice p4 p5 p6, .slice p7 p8 p9] 29 (0, 0)) := HVp.out.ext x1
  obtain ⟨z0, z1, z2, f0, f1, f2⟩ := block3 hB
  have HBo := Lib.hid hB; have HVv := Lib.hid hv; have X1 := Lib.hid x1
  clear hB hv x1 oa0 oa1 oa2 ob0 ob1 ob2
  go_upto_region 13 with fail
  clear z0 z1 z2 f0 f1 f2
  obtain ⟨U12, hU⟩ : ∃ U, U = put3 u12 bm (.slice ta1 ta2 ta3) (.slice ta4 ta5 ta6) (.slice ta7 ta8 ta9) := ⟨_, rfl⟩
  have hU' : U12 = ((u12.setCell ⟨bm, 0, none⟩ (.slice ta1 ta2 ta3)).setCell ⟨bm, 1, none⟩ (.slice ta4 ta5 ta6)).setCell ⟨bm, 2, none⟩ (.slice ta7 ta8 ta9) := hU
  rw [← hU']
  have HVta : Hid (Var3 29 U12 bm (.slice ta1 ta2 ta3) (.slice ta4 ta5 ta6) (.slice ta7 ta8 ta9)) := by rw [hU]; exact put3_new HBo.out
  have HOta : Hid (RelO U12 u11.heap.size (.agg #[.slice ta1 ta2 ta3, .slice ta4 ta5 ta6, .slice ta7 ta8 ta9]) C D I) := by rw [hU]; exact HVv.out.put3 HSZ12.out.1 _ _ _
  have HVo : Hid (Var3 29 U12 bn (.slice q1 q2 q3) (.slice q4 q5 q6) (.slice q7 q8 q9)) := by rw [hU]; exact (put3_other bn HNE.out).trans (HVq.out.ext X1.out)
  replace XU : Hid (Ext wk5 U12) := by rw [hU]; exact (XU.out.trans X1.out).put3 HBbm.out _ _ _
  skip
  skip
  replace HVq := HVo
  clear HVo HBo HVv hU hU' HVp
  obtain ⟨oa0, oa1, oa2⟩ := (HVa.out.ext XU.out).cells
  obtain ⟨ob0, ob1, ob2⟩ := (HVb.out.ext XU.out).cells
  have hbz : bn < U12.heap.size := lt_heap HVq.out
  have hbz2 : bm < U12.heap.size := lt_heap HVta.out
  have HSZ13 : Hid (bn < U12.heap.size ∧ bm < U12.heap.size) := ⟨hbz, hbz2⟩
  clear hbz hbz2
  go_wp2_with fail
  refine (HR.out _ _ _ (Ha.out.ext XU.out) (Hb.out.ext XU.out)).mono ?_
  rintro r u13 ⟨v, rfl, hv, x1⟩
  obtain ⟨tb1, tb2, tb3, tb4, tb5, tb6, tb7, tb8, tb9, rfl⟩ := hv.relV.shape'
  have hB : u13.heap[bn]? = some (.cells #[.slice q1 q2 q3, .slice q4 q5 q6, .slice q7 q8 q9] 29 (0, 0)) := HVq.out.ext x1
  obtain ⟨z0, z1, z2, f0, f1, f2⟩ := block3 hB
  have HBo := Lib.hid hB; have HVv := Lib.hid hv; have X1 := Lib.hid x1
  clear hB hv x1 oa0 oa1 oa2 ob0 ob1 ob2
  go_upto_region 14 with fail
  clear z0 z1 z2 f0 f1 f2
  obtain ⟨U13, hU⟩ : ∃ U, U = put3 u13 bn (.slice tb1 tb2 tb3) (.slice tb4 tb5 tb6) (.slice tb7 tb8 tb9) := ⟨_, rfl⟩
  have hU' : U13 = ((u13.setCell ⟨bn, 0, none⟩ (.slice tb1 tb2 tb3)).setCell ⟨bn, 1, none⟩ (.slice tb4 tb5 tb6)).setCell ⟨bn, 2, none⟩ (.slice tb7 tb8 tb9) := hU
  rw [← hU']
  have HVtb : Hid (Var3 29 U13 bn (.slice tb1 tb2 tb3) (.slice tb4 tb5 tb6) (.slice tb7 tb8 tb9)) := by rw [hU]; exact put3_new HBo.out
  have HOtb : Hid (RelO U13 U12.heap.size (.agg #[.slice tb1 tb2 tb3, .slice tb4 tb5 tb6, .slice tb7 tb8 tb9]) C D I) := by rw [hU]; exact HVv.out.put3 HSZ13.out.1 _ _ _
  have HVo : Hid (Var3 29 U13 bm (.slice ta1 ta2 ta3) (.slice ta4 ta5 ta6) (.slice ta7 ta8 ta9)) := by rw [hU]; exact (put3_other bm HNE.out.symm).trans (HVta.out.ext X1.out)
  replace XU : Hid (Ext wk5 U13) := by rw [hU]; exact (XU.out.trans X1.out).put3 HBbn.out _ _ _
  have HOo : Hid (RelO U13 u11.heap.size (.agg #[.slice ta1 ta2 ta3, .slice ta4 ta5 ta6, .slice ta7 ta8 ta9]) C D I) := by rw [hU]; exact (HOta.out.kept X1.out).put3 HSZ12.out.2 _ _ _
  replace HOta := HOo
  replace HVta := HVo
  clear HVo HBo HVv hU hU' HVq
  obtain ⟨q0, q1, q2⟩ := HVta.out.cells
  obtain ⟨s0_, s1_, s2_⟩ := HVtb.out.cells
  go_wp2_with fail
  refine (RSame15_any C D I C D I _ _ _ HOta.out.relV HOtb.out.relV).mono ?_
  rintro r u14 ⟨rfl, x1⟩
  rw [sameR_self]
  replace XU := Lib.hid (XU.out.trans x1); replace HVta := Lib.hid (HVta.out.ext x1); replace HVtb := Lib.hid (HVtb.out.ext x1)
  clear x1 q0 q1 q2 s0_ s1_ s2_ HOta HOtb HP HR
  obtain ⟨kk, C, D, I, hp, hr⟩ := both_cmp cs ws P cs2 ws2 Q
  have HP := Lib.hid hp; have HR := Lib.hid hr
  clear hp hr
  obtain ⟨oa0, oa1, oa2⟩ := (HVa.out.ext XU.out).cells
  obtain ⟨ob0, ob1, ob2⟩ := (HVb.out.ext XU.out).cells
  have hbz : bm < u14.heap.size := lt_heap HVta.out
  have hbz2 : bn < u14.heap.size := lt_heap HVtb.out
  have HSZ15 : Hid (bm < u14.heap.size ∧ bn < u14.heap.size) := ⟨hbz, hbz2⟩
  clear hbz hbz2
  go_wp2_with fail
  refine (HP.out _ _ _ (Ha.out.ext XU.out) (Hb.out.ext XU.out) (HDe.out.ext XU.out)).mono ?_
  rintro r u15 ⟨v, rfl, hv, x1⟩
  obtain ⟨ra1, ra2, ra3, ra4, ra5, ra6, ra7, ra8, ra9, rfl⟩ := hv.relV.shape'
  have hB : u15.heap[bm]? = some (.cells #[.slice ta1 ta2 ta3, .slice ta4 ta5 ta6, .slice ta7 ta8 ta9] 29 (0, 0)) := HVta.out.ext x1
  obtain ⟨z0, z1, z2, f0, f1, f2⟩ := block3 hB
  have HBo := Lib.hid hB; have HVv := Lib.hid hv; have X1 := Lib.hid x1
  clear hB hv x1 oa0 oa1 oa2 ob0 ob1 ob2
  go_upto_region 17 with fail
  clear z0 z1 z2 f0 f1 f2
  obtain ⟨U15, hU⟩ : ∃ U, U = put3 u15 bm (.slice ra1 ra2 ra3) (.slice ra4 ra5 ra6) (.slice ra7 ra8 ra9) := ⟨_, rfl⟩
  have hU' : U15 = ((u15.setCell ⟨bm, 0, none⟩ (.slice ra1 ra2 ra3)).setCell ⟨bm, 1, none⟩ (.slice ra4 ra5 ra6)).setCell ⟨bm, 2, none⟩ (.slice ra7 ra8 ra9) := hU
  rw [← hU']
  have HVra : Hid (Var3 29 U15 bm (.slice ra1 ra2 ra3) (.slice ra4 ra5 ra6) (.slice ra7 ra8 ra9)) := by rw [hU]; exact put3_new HBo.out
  have HOra : Hid (RelO U15 u14.heap.size (.agg #[.slice ra1 ra2 ra3, .slice ra4 ra5 ra6, .slice ra7 ra8 ra9]) C D I) := by rw [hU]; exact HVv.out.put3 HSZ15.out.1 _ _ _
  have HVo : Hid (Var3 29 U15 bn (.slice tb1 tb2 tb3) (.slice tb4 tb5 tb6) (.slice tb7 tb8 tb9)) := by rw [hU]; exact (put3_other bn HNE.out).trans (HVtb.out.ext X1.out)
  replace XU : Hid (Ext wk5 U15) := by rw [hU]; exact (XU.out.trans X1.out).put3 HBbm.out _ _ _
  skip
  skip
  replace HVtb := HVo
  clear HVo HBo HVv hU hU' HVta
  obtain ⟨oa0, oa1, oa2⟩ := (HVa.out.ext XU.out).cells
  obtain ⟨ob0, ob1, ob2⟩ := (HVb.out.ext XU.out).cells
  have hbz : bn < U15.heap.size := lt_heap HVtb.out
  have hbz2 : bm < U15.heap.size := lt_heap HVra.out
  have HSZ16 : Hid (bn < U15.heap.size ∧ bm < U15.heap.size) := ⟨hbz, hbz2⟩
  clear hbz hbz2
  go_wp2_with fail
  refine (HR.out _ _ _ (Ha.out.ext XU.out) (Hb.out.ext XU.out)).mono ?_
  rintro r u16 ⟨v, rfl, hv, x1⟩
  obtain ⟨rb1, rb2, rb3, rb4, rb5, rb6, rb7, rb8, rb9, rfl⟩ := hv.relV.shape'
  have hB : u16.heap[bn]? = some (.cells #[.slice tb1 tb2 tb3, .slice tb4 tb5 tb6, .slice tb7 tb8 tb9] 29 (0, 0)) := HVtb.out.ext x1
  obtain ⟨z0, z1, z2, f0, f1, f2⟩ := block3 hB
  have HBo := Lib.hid hB; have HVv := Lib.hid hv; have X1 := Lib.hid x1
  clear hB hv x1 oa0 oa1 oa2 ob0 ob1 ob2
  go_upto_region 18 with fail
  clear z0 z1 z2 f0 f1 f2
  obtain ⟨U16, hU⟩ : ∃ U, U = put3 u16 bn (.slice rb1 rb2 rb3) (.slice rb4 rb5 rb6) (.slice rb7 rb8 rb9) := ⟨_, rfl⟩
  have hU' : U16 = ((u16.setCell ⟨bn, 0, none⟩ (.slice rb1 rb2 rb3)).setCell ⟨bn, 1, none⟩ (.slice rb4 rb5 rb6)).setCell ⟨bn, 2, none⟩ (.slice rb7 rb8 rb9) := hU
  rw [← hU']
  have HVrb : Hid (Var3 29 U16 bn (.slice rb1 rb2 rb3) (.slice rb4 rb5 rb6) (.slice rb7 rb8 rb9)) := by rw [hU]; exact put3_new HBo.out
  have HOrb : Hid (RelO U16 U15.heap.size (.agg #[.slice rb1 rb2 rb3, .slice rb4 rb5 rb6, .slice rb7 rb8 rb9]) C D I) := by rw [hU]; exact HVv.out.put3 HSZ16.out.1 _ _ _
  have HVo : Hid (Var3 29 U16 bm (.slice ra1 ra2 ra3) (.slice ra4 ra5 ra6) (.slice ra7 ra8 ra9)) := by rw [hU]; exact (put3_other bm HNE.out.symm).trans (HVra.out.ext X1.out)
  replace XU : Hid (Ext wk5 U16) := by rw [hU]; exact (XU.out.trans X1.out).put3 HBbn.out _ _ _
  have HOo : Hid (RelO U16 u14.heap.size (.agg #[.slice ra1 ra2 ra3, .slice ra4 ra5 ra6, .slice ra7 ra8 ra9]) C D I) := by rw [hU]; exact (HOra.out.kept X1.out).put3 HSZ15.out.2 _ _ _
  replace HOra := HOo
  replace HVra := HVo
  clear HVo HBo HVv hU hU' HVtb
  obtain ⟨q0, q1, q2⟩ := HVra.out.cells
  obtain ⟨s0_, s1_, s2_⟩ := HVrb.out.cells
  go_wp2_with fail
  refine (RSame15_any C D I C D I _ _ _ HOra.out.relV HOrb.out.relV).mono ?_
  rintro r u17 ⟨rfl, x1⟩
  rw [sameR_self]
  replace XU := Lib.hid (XU.out.trans x1); replace HVra := Lib.hid (HVra.out.ext x1); replace HVrb := Lib.hid (HVrb.out.ext x1)
  clear x1 q0 q1 q2 s0_ s1_ s2_ HOra HOrb HP HR
  obtain ⟨kk, C, D, I, hp, hr⟩ := both_clo cs ws P
  have HP := Lib.hid hp; have HR := Lib.hid hr
  clear hp hr
  obtain ⟨oa0, oa1, oa2⟩ := (HVa.out.ext XU.out).cells
  have hbz : bm < u17.heap.size := lt_heap HVra.out
  have hbz2 : bn < u17.heap.size := lt_heap HVrb.out
  have HSZ18 : Hid (bm < u17.heap.size ∧ bn < u17.heap.size) := ⟨hbz, hbz2⟩
  clear hbz hbz2
  go_wp2_with fail
  refine (HP.out _ _ (Ha.out.ext XU.out) (HDe.out.ext XU.out)).mono ?_
  rintro r u18 ⟨v, rfl, hv, x1⟩
  obtain ⟨ga1, ga2, ga3, ga4, ga5, ga6, ga7, ga8, ga9, rfl⟩ := hv.relV.shape'
  have hB : u18.heap[bm]? = some (.cells #[.slice ra1 ra2 ra3, .slice ra4 ra5 ra6, .slice ra7 ra8 ra9] 29 (0, 0)) := HVra.out.ext x1
  obtain ⟨z0, z1, z2, f0, f1, f2⟩ := block3 hB
  have HBo := Lib.hid hB; have HVv := Lib.hid hv; have X1 := Lib.hid x1
  clear hB hv x1 oa0 oa1 oa2
  go_upto_region 21 with fail
  clear z0 z1 z2 f0 f1 f2
  obtain ⟨U18, hU⟩ : ∃ U, U = put3 u18 bm (.slice ga1 ga2 ga3) (.slice ga4 ga5 ga6) (.slice ga7 ga8 ga9) := ⟨_, rfl⟩
  have hU' : U18 = ((u18.setCell ⟨bm, 0, none⟩ (.slice ga1 ga2 ga3)).setCell ⟨bm, 1, none⟩ (.slice ga4 ga5 ga6)).setCell ⟨bm, 2, none⟩ (.slice ga7 ga8 ga9) := hU
  rw [← hU']
  have HVga : Hid (Var3 29 U18 bm (.slice ga1 ga2 ga3) (.slice ga4 ga5 ga6) (.slice ga7 ga8 ga9)) := by rw [hU]; exact put3_new HBo.out
  have HOga : Hid (RelO U18 u17.heap.size (.agg #[.slice ga1 ga2 ga3, .slice ga4 ga5 ga6, .slice ga7 ga8 ga9]) C D I) := by rw [hU]; exact HVv.out.put3 HSZ18.out.1 _ _ _
  have HVo : Hid (Var3 29 U18 bn (.slice rb1 rb2 rb3) (.slice rb4 rb5 rb6) (.slice rb7 rb8 rb9)) := by rw [hU]; exact (put3_other bn HNE.out).trans (HVrb.out.ext X1.out)
  replace XU : Hid (Ext wk5 U18) := by rw [hU]; exact (XU.out.trans X1.out).put3 HBbm.out _ _ _
  skip
  skip
  replace HVrb := HVo
  clear HVo HBo HVv hU hU' HVra
  obtain ⟨oa0, oa1, oa2⟩ := (HVa.out.ext XU.out).cells
  have hbz : bn < U18.heap.size := lt_heap HVrb.out
  have hbz2 : bm < U18.heap.size := lt_heap HVga.out
  have HSZ19 : Hid (bn < U18.heap.size ∧ bm < U18.heap.size) := ⟨hbz, hbz2⟩
  clear hbz hbz2
  go_wp2_with fail
  refine (HR.out _ _ (Ha.out.ext XU.out)).mono ?_
  rintro r u19 ⟨v, rfl, hv, x1⟩
  obtain ⟨gb1, gb2, gb3, gb4, gb5, gb6, gb7, gb8, gb9, rfl⟩ := hv.relV.shape'
  have hB : u19.heap[bn]? = some (.cells #[.slice rb1 rb2 rb3, .slice rb4 rb5 rb6, .slice rb7 rb8 rb9] 29 (0, 0)) := HVrb.out.ext x1
  obtain ⟨z0, z1, z2, f0, f1, f2⟩ := block3 hB
  have HBo := Lib.hid hB; have HVv := Lib.hid hv; have X1 := Lib.hid x1
  clear hB hv x1 oa0 oa1 oa2
  go_upto_region 22 with fail
  clear z0 z1 z2 f0 f1 f2
  obtain ⟨U19, hU⟩ : ∃ U, U = put3 u19 bn (.slice gb1 gb2 gb3) (.slice gb4 gb5 gb6) (.slice gb7 gb8 gb9) := ⟨_, rfl⟩
  have hU' : U19 = ((u19.setCell ⟨bn, 0, none⟩ (.slice gb1 gb2 gb3)).setCell ⟨bn, 1, none⟩ (.slice gb4 gb5 gb6)).setCell ⟨bn, 2, none⟩ (.slice gb7 gb8 gb9) := hU
  rw [← hU']
  have HVgb : Hid (Var3 29 U19 bn (.slice gb1 gb2 gb3) (.slice gb4 gb5 gb6) (.slice gb7 gb8 gb9)) := by rw [hU]; exact put3_new HBo.out
  have HOgb : Hid (RelO U19 U18.heap.size (.agg #[.slice gb1 gb2 gb3, .slice gb4 gb5 gb6, .slice gb7 gb8 gb9]) C D I) := by rw [hU]; exact HVv.out.put3 HSZ19.out.1 _ _ _
  have HVo : Hid (Var3 29 U19 bm (.slice ga1 ga2 ga3) (.slice ga4 ga5 ga6) (.slice ga7 ga8 ga9)) := by rw [hU]; exact (put3_other bm HNE.out.symm).trans (HVga.out.ext X1.out)
  replace XU : Hid (Ext wk5 U19) := by rw [hU]; exact (XU.out.trans X1.out).put3 HBbn.out _ _ _
  have HOo : Hid (RelO U19 u17.heap.size (.agg #[.slice ga1 ga2 ga3, .slice ga4 ga5 ga6, .slice ga7 ga8 ga9]) C D I) := by rw [hU]; exact (HOga.out.kept X1.out).put3 HSZ18.out.2 _ _ _
  replace HOga := HOo
  replace HVga := HVo
  clear HVo HBo HVv hU hU' HVrb
  obtain ⟨q0, q1, q2⟩ := HVga.out.cells
  obtain ⟨s0_, s1_, s2_⟩ := HVgb.out.cells
  go_wp2_with fail
  refine (RSame15_any C D I C D I _ _ _ HOga.out.relV HOgb.out.relV).mono ?_
  rintro r u20 ⟨rfl, x1⟩
  rw [sameR_self]
  replace XU := Lib.hid (XU.out.trans x1); replace HVga := Lib.hid (HVga.out.ext x1); replace HVgb := Lib.hid (HVgb.out.ext x1)
  clear x1 q0 q1 q2 s0_ s1_ s2_ HOga HOgb HP HR
  clear HVga HVgb HNE HLm
  obtain ⟨kk1, C1, D1, I1, hp, hr⟩ := both_img cs ws P cs3 ws3 js
  have HP := Lib.hid hp; have HR := Lib.hid hr
  clear hp hr
  obtain ⟨oa0, oa1, oa2⟩ := (HVa.out.ext XU.out).cells
  obtain ⟨os0, os1, os2⟩ := (HVs.out.ext XU.out).cells
  go_wp2_with fail
  refine (HP.out _ _ _ (Ha.out.ext XU.out) (Hs.out.ext XU.out) (HDe.out.ext XU.out)).mono ?_
  rintro r u21 ⟨v, rfl, hv, x1⟩
  obtain ⟨i1, i2, i3, i4, i5, i6, i7, i8, i9, rfl⟩ := hv.setV.shape'
  go_upto_region 25 with fail
  obtain ⟨U21, hU⟩ : ∃ U, U = u21.alloc (.cells #[.slice i1 i2 i3, .slice i4 i5 i6, .slice i7 i8 i9] 31) := ⟨_, rfl⟩
  have x2 : Ext u21 U21 := by rw [hU]; exact (Ext.refl _).alloc _
  have HVi : Hid (Var3 31 U21 u21.heap.size (.slice i1 i2 i3) (.slice i4 i5 i6) (.slice i7 i8 i9)) := by rw [hU]; exact Var3.new _ _ _ _ _
  have HOi : Hid (SetV U21 (.agg #[.slice i1 i2 i3, .slice i4 i5 i6, .slice i7 i8 i9]) C1 D1 I1) := hv.setV.ext x2
  have HBbi : Hid (wk5.heap.size ≤ u21.heap.size) := (XU.out.trans x1).size
  skip
  rw [← hU]
  replace XU := Lib.hid (XU.out.trans (x1.trans x2))
  clear hv x1 x2 hU oa0 oa1 oa2 os0 os1 os2
  generalize u21.heap.size = bi at *
  obtain ⟨oa0, oa1, oa2⟩ := (HVa.out.ext XU.out).cells
  obtain ⟨os0, os1, os2⟩ := (HVs.out.ext XU.out).cells
  go_wp2_with fail
  refine (HR.out _ _ _ (Ha.out.ext XU.out) (Hs.out.ext XU.out)).mono ?_
  rintro r u22 ⟨v, rfl, hv, x1⟩
  obtain ⟨j1, j2, j3, j4, j5, j6, j7, j8, j9, rfl⟩ := hv.setV.shape'
  go_upto_region 26 with fail
  obtain ⟨U22, hU⟩ : ∃ U, U = u22.alloc (.cells #[.slice j1 j2 j3, .slice j4 j5 j6, .slice j7 j8 j9] 31) := ⟨_, rfl⟩
  have x2 : Ext u22 U22 := by rw [hU]; exact (Ext.refl _).alloc _
  have HVj : Hid (Var3 31 U22 u22.heap.size (.slice j1 j2 j3) (.slice j4 j5 j6) (.slice j7 j8 j9)) := by rw [hU]; exact Var3.new _ _ _ _ _
  have HOj : Hid (SetV U22 (.agg #[.slice j1 j2 j3, .slice j4 j5 j6, .slice j7 j8 j9]) C1 D1 I1) := hv.setV.ext x2
  have HBbj : Hid (wk5.heap.size ≤ u22.heap.size) := (XU.out.trans x1).size
  skip
  rw [← hU]
  replace XU := Lib.hid (XU.out.trans (x1.trans x2))
  replace HVi := Lib.hid (HVi.out.ext (x1.trans x2))
  replace HOi := Lib.hid (HOi.out.ext (x1.trans x2))
  clear hv x1 x2 hU oa0 oa1 oa2 os0 os1 os2
  generalize u22.heap.size = bj at *
  clear HP HR
  obtain ⟨kk2, C2, D2, I2, hp, hr⟩ := both_ins cs ws P cs3 ws3 js
  have HP := Lib.hid hp; have HR := Lib.hid hr
  clear hp hr
  obtain ⟨oa0, oa1, oa2⟩ := (HVa.out.ext XU.out).cells
  obtain ⟨os0, os1, os2⟩ := (HVs.out.ext XU.out).cells
  go_wp2_with fail
  refine (HP.out _ _ _ (Ha.out.ext XU.out) (Hs.out.ext XU.out) (HDe.out.ext XU.out)).mono ?_
  rintro r u23 ⟨v, rfl, hv, x1⟩
  obtain ⟨k1, k2, k3, k4, k5, k6, k7, k8, k9, rfl⟩ := hv.setV.shape'
  go_upto_region 27 with fail
  obtain ⟨U23, hU⟩ : ∃ U, U = u23.alloc (.cells #[.slice k1 k2 k3, .slice k4 k5 k6, .slice k7 k8 k9] 31) := ⟨_, rfl⟩
  have x2 : Ext u23 U23 := by rw [hU]; exact (Ext.refl _).alloc _
  have HVk : Hid (Var3 31 U23 u23.heap.size (.slice k1 k2 k3) (.slice k4 k5 k6) (.slice k7 k8 k9)) := by rw [hU]; exact Var3.new _ _ _ _ _
  have HOk : Hid (SetV U23 (.agg #[.slice k1 k2 k3, .slice k4 k5 k6, .slice k7 k8 k9]) C2 D2 I2) := hv.setV.ext x2
  have HBbk : Hid (wk5.heap.size ≤ u23.heap.size) := (XU.out.trans x1).size
  skip
  rw [← hU]
  replace XU := Lib.hid (XU.out.trans (x1.trans x2))
  replace HVi := Lib.hid (HVi.out.ext (x1.trans x2))
  replace HOi := Lib.hid (HOi.out.ext (x1.trans x2))
  replace HVj := Lib.hid (HVj.out.ext (x1.trans x2))
  replace HOj := Lib.hid (HOj.out.ext (x1.trans x2))
  clear hv x1 x2 hU oa0 oa1 oa2 os0 os1 os2
  generalize u23.heap.size = bk at *
  obtain ⟨oa0, oa1, oa2⟩ := (HVa.out.ext XU.out).cells
  obtain ⟨os0, os1, os2⟩ := (HVs.out.ext XU.out).cells
  go_wp2_with fail
  refine (HR.out _ _ _ (Ha.out.ext XU.out) (Hs.out.ext XU.out)).mono ?_
  rintro r u24 ⟨v, rfl, hv, x1⟩
  obtain ⟨l1, l2, l3, l4, l5, l6, l7, l8, l9, rfl⟩ := hv.setV.shape'
  go_upto_region 28 with fail
  obtain ⟨U24, hU⟩ : ∃ U, U = u24.alloc (.cells #[.slice l1 l2 l3, .slice l4 l5 l6, .slice l7 l8 l9] 31) := ⟨_, rfl⟩
  have x2 : Ext u24 U24 := by rw [hU]; exact (Ext.refl _).alloc _
  have HVl : Hid (Var3 31 U24 u24.heap.size (.slice l1 l2 l3) (.slice l4 l5 l6) (.slice l7 l8 l9)) := by rw [hU]; exact Var3.new _ _ _ _ _
  have HOl : Hid (SetV U24 (.agg #[.slice l1 l2 l3, .slice l4 l5 l6, .slice l7 l8 l9]) C2 D2 I2) := hv.setV.ext x2
  have HBbl : Hid (wk5.heap.size ≤ u24.heap.size) := (XU.out.trans x1).size
  skip
  rw [← hU]
  replace XU := Lib.hid (XU.out.trans (x1.trans x2))
  replace HVi := Lib.hid (HVi.out.ext (x1.trans x2))
  replace HOi := Lib.hid (HOi.out.ext (x1.trans x2))
  replace HVj := Lib.hid (HVj.out.ext (x1.trans x2))
  replace HOj := Lib.hid (HOj.out.ext (x1.trans x2))
  replace HVk := Lib.hid (HVk.out.ext (x1.trans x2))
  replace HOk := Lib.hid (HOk.out.ext (x1.trans x2))
  clear hv x1 x2 hU oa0 oa1 oa2 os0 os1 os2
  generalize u24.heap.size = bl at *
  obtain ⟨q0, q1, q2⟩ := HVi.out.cells
  obtain ⟨w0_, w1_, w2_⟩ := HVj.out.cells
  obtain ⟨v0_, v1_, v2_⟩ := HVk.out.cells
  obtain ⟨y0_, y1_, y2_⟩ := HVl.out.cells
  go_wp2_with fail
  refine (RSame10_any C1 D1 I1 C1 D1 I1 _ _ _ HOi.out HOj.out).mono ?_
  rintro r u25 ⟨rfl, x1⟩
  rw [sameS_self]
  replace XU := Lib.hid (XU.out.trans x1); replace HOk := Lib.hid (HOk.out.ext x1); replace HOl := Lib.hid (HOl.out.ext x1)
  replace v0_ := x1.cell v0_; replace v1_ := x1.cell v1_; replace v2_ := x1.cell v2_
  replace y0_ := x1.cell y0_; replace y1_ := x1.cell y1_; replace y2_ := x1.cell y2_
  clear x1 q0 q1 q2 w0_ w1_ w2_
  go_wp2_with fail
  refine (RSame10_any C2 D2 I2 C2 D2 I2 _ _ _ HOk.out HOl.out).mono ?_
  rintro r u26 ⟨rfl, x1⟩
  rw [sameS_self]
  replace XU := Lib.hid (XU.out.trans x1)
  clear x1 v0_ v1_ v2_ y0_ y1_ y2_
  replace HX := Lib.hid (HX.out.trans XU.out)
  go_wp2_with fail
  exact bodyPost_ret (v := .bool true) (by simp [results, Tryz.results3, go_sem]) rfl ⟨rfl, HX.out⟩
end Go.Proofs.YtlnahhlddekhoaaGreatDoor
