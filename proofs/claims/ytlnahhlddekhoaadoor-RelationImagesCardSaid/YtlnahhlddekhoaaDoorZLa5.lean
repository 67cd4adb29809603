/-
  The walk of RelationImages. Printed by gen_law15.py.
-/
import Derived.Test.YtlnahhlddekhoaaDoorMLw
namespace Go.Proofs.YtlnahhlddekhoaaDoor
open Go.RowKit

set_option maxRecDepth 100000 in
set_option maxHeartbeats 16000000 in
theorem RelationImages_any (cs ws : List Int) (P : List (Int × Int)) (cs2 ws2 : List Int) (Q : List (Int × Int)) (cs3 ws3 js : List Int) (va vb vs : Value) (w : World) (ha : RelV w va cs ws P) (hb : RelV w vb cs2 ws2 Q) (hs : SetV w vs cs3 ws3 js) (hM : Masks w) (hT : DeB w) :
    Calls Tryd.prog 7 #[va, vb, vs] w fun r w' => r = .returned (.bool true) ∧ Ext w w' := by
  obtain ⟨a1, a2, a3, a4, a5, a6, a7, a8, a9, rfl⟩ := ha.shape'
  obtain ⟨b1, b2, b3, b4, b5, b6, b7, b8, b9, rfl⟩ := hb.shape'
  obtain ⟨s1, s2, s3, s4, s5, s6, s7, s8, s9, rfl⟩ := hs.shape'
  obtain ⟨W, hW⟩ : ∃ W, Boxes3 w W (.cells #[.slice a1 a2 a3, .slice a4 a5 a6, .slice a7 a8 a9] 25) (.cells #[.slice b1 b2 b3, .slice b4 b5 b6, .slice b7 b8 b9] 25) (.cells #[.slice s1 s2 s3, .slice s4 s5 s6, .slice s7 s8 s9] 27) := ⟨_, Boxes3.mk' _ _ _ _⟩
  have hx := hW.ext
  have HVa : Hid (Var3 25 W w.heap.size (.slice a1 a2 a3) (.slice a4 a5 a6) (.slice a7 a8 a9)) := hW.b0
  have Ha := Lib.hid (ha.ext hx)
  have HVb : Hid (Var3 25 W (w.heap.size + 1) (.slice b1 b2 b3) (.slice b4 b5 b6) (.slice b7 b8 b9)) := hW.b1
  have Hb := Lib.hid (hb.ext hx)
  have HVs : Hid (Var3 27 W (w.heap.size + 2) (.slice s1 s2 s3) (.slice s4 s5 s6) (.slice s7 s8 s9)) := hW.b2
  have Hs := Lib.hid (hs.ext hx)
  have HX := Lib.hid hx; have HDe := Lib.hid (hT.ext hx); have HMk := Lib.hid (hM.ext hx); have HW := Lib.hid hW.eq
  clear hW hx hT hM ha hb hs
  go_enter Tryd.func7, Tryd.ntmps7
  go_upto_region 1 with fail
  rw [← HW.out]
  clear HW
  generalize w.heap.size + 2 = bs at *
  generalize w.heap.size + 1 = bb at *
  generalize w.heap.size = ba at *
  go_wp2_with fail
  refine (head_any W HDe.out HMk.out).mono ?_
  rintro r wk1 ⟨rfl, x1⟩
  replace HX := Lib.hid (HX.out.trans x1); replace HDe := Lib.hid (HDe.out.ext x1); replace HMk := Lib.hid (HMk.out.ext x1); replace HVa := Lib.hid (HVa.out.ext x1); replace Ha := Lib.hid (Ha.out.ext x1); replace HVb := Lib.hid (HVb.out.ext x1); replace Hb := Lib.hid (Hb.out.ext x1); replace HVs := Lib.hid (HVs.out.ext x1); replace Hs := Lib.hid (Hs.out.ext x1)
  clear x1
  obtain ⟨qa0, qa1, qa2⟩ := HVa.out.cells
  go_wp2_with fail
  refine (Light_any cs ws P _ _ Ha.out).mono ?_
  rintro r wk2 ⟨rfl, x1⟩
  replace HX := Lib.hid (HX.out.trans x1); replace HDe := Lib.hid (HDe.out.ext x1); replace HMk := Lib.hid (HMk.out.ext x1); replace HVa := Lib.hid (HVa.out.ext x1); replace Ha := Lib.hid (Ha.out.ext x1); replace HVb := Lib.hid (HVb.out.ext x1); replace Hb := Lib.hid (Hb.out.ext x1); replace HVs := Lib.hid (HVs.out.ext x1); replace Hs := Lib.hid (Hs.out.ext x1)
  clear x1 qa0 qa1 qa2
  cases h1 : lightB cs ws P with
  | false =>
    clear h1
    go_wp2_with fail
    exact bodyPost_ret (v := .bool true) (by simp [results, Tryd.results7, go_sem]) rfl ⟨rfl, HX.out⟩
  | true =>
  have HL := Lib.hid h1; clear h1
  obtain ⟨p, rfl, hp, h5⟩ := light_parts HL.out
  have HP := Lib.hid hp; clear hp h5 HL
  obtain ⟨qb0, qb1, qb2⟩ := HVb.out.cells
  go_wp2_with fail
  refine (Light_any cs2 ws2 Q _ _ Hb.out).mono ?_
  rintro r wk3 ⟨rfl, x1⟩
  replace HX := Lib.hid (HX.out.trans x1); replace HDe := Lib.hid (HDe.out.ext x1); replace HMk := Lib.hid (HMk.out.ext x1); replace HVa := Lib.hid (HVa.out.ext x1); replace Ha := Lib.hid (Ha.out.ext x1); replace HVb := Lib.hid (HVb.out.ext x1); replace Hb := Lib.hid (Hb.out.ext x1); replace HVs := Lib.hid (HVs.out.ext x1); replace Hs := Lib.hid (Hs.out.ext x1)
  clear x1 qb0 qb1 qb2
  cases h1 : lightB cs2 ws2 Q with
  | false =>
    clear h1
    go_wp2_with fail
    exact bodyPost_ret (v := .bool true) (by simp [results, Tryd.results7, go_sem]) rfl ⟨rfl, HX.out⟩
  | true =>
  have HL := Lib.hid h1; clear h1
  clear HL
  obtain ⟨qa0, qa1, qa2⟩ := HVa.out.cells
  obtain ⟨qb0, qb1, qb2⟩ := HVb.out.cells
  go_wp2_with fail
  refine (RAlike_any cs ws (castP p) cs2 ws2 Q _ _ _ Ha.out Hb.out).mono ?_
  rintro r wk4 ⟨rfl, x1⟩
  replace HX := Lib.hid (HX.out.trans x1); replace HDe := Lib.hid (HDe.out.ext x1); replace HMk := Lib.hid (HMk.out.ext x1); replace HVa := Lib.hid (HVa.out.ext x1); replace Ha := Lib.hid (Ha.out.ext x1); replace HVb := Lib.hid (HVb.out.ext x1); replace Hb := Lib.hid (Hb.out.ext x1); replace HVs := Lib.hid (HVs.out.ext x1); replace Hs := Lib.hid (Hs.out.ext x1)
  clear x1 qa0 qa1 qa2 qb0 qb1 qb2
  cases h1 : alikeR cs ws (castP p) cs2 ws2 Q with
  | false =>
    clear h1
    go_wp2_with fail
    exact bodyPost_ret (v := .bool true) (by simp [results, Tryd.results7, go_sem]) rfl ⟨rfl, HX.out⟩
  | true =>
  have HF1 := Lib.hid h1; clear h1
  obtain ⟨e1, e2, q, e3, hq⟩ := alikeR_parts HF1.out
  replace e1 := e1.symm; replace e2 := e2.symm
  subst e1 e2 e3
  have HQ := Lib.hid hq; clear hq HF1
  obtain ⟨qs0, qs1, qs2⟩ := HVs.out.cells
  go_wp2_with fail
  refine (Few_any cs3 ws3 js _ _ Hs.out).mono ?_
  rintro r wk5 ⟨rfl, x1⟩
  replace HX := Lib.hid (HX.out.trans x1); replace HDe := Lib.hid (HDe.out.ext x1); replace HMk := Lib.hid (HMk.out.ext x1); replace HVa := Lib.hid (HVa.out.ext x1); replace Ha := Lib.hid (Ha.out.ext x1); replace HVb := Lib.hid (HVb.out.ext x1); replace Hb := Lib.hid (Hb.out.ext x1); replace HVs := Lib.hid (HVs.out.ext x1); replace Hs := Lib.hid (Hs.out.ext x1)
  clear x1 qs0 qs1 qs2
  cases h1 : lenB 64 cs3.length ws3.length js.length with
  | false =>
    clear h1
    go_wp2_with fail
    exact bodyPost_ret (v := .bool true) (by simp [results, Tryd.results7, go_sem]) rfl ⟨rfl, HX.out⟩
  | true =>
  have HF1 := Lib.hid h1; clear h1
  clear HF1
  obtain ⟨qa0, qa1, qa2⟩ := HVa.out.cells
  obtain ⟨qs0, qs1, qs2⟩ := HVs.out.cells
  go_wp2_with fail
  refine (RFits_any cs ws (castP p) cs3 ws3 js _ _ _ Ha.out Hs.out).mono ?_
  rintro r wk6 ⟨rfl, x1⟩
  replace HX := Lib.hid (HX.out.trans x1); replace HDe := Lib.hid (HDe.out.ext x1); replace HMk := Lib.hid (HMk.out.ext x1); replace HVa := Lib.hid (HVa.out.ext x1); replace Ha := Lib.hid (Ha.out.ext x1); replace HVb := Lib.hid (HVb.out.ext x1); replace Hb := Lib.hid (Hb.out.ext x1); replace HVs := Lib.hid (HVs.out.ext x1); replace Hs := Lib.hid (Hs.out.ext x1)
  clear x1 qa0 qa1 qa2 qs0 qs1 qs2
  cases h1 : fitsR cs ws (castP p) cs3 ws3 js with
  | false =>
    clear h1
    go_wp2_with fail
    exact bodyPost_ret (v := .bool true) (by simp [results, Tryd.results7, go_sem]) rfl ⟨rfl, HX.out⟩
  | true =>
  have HF1 := Lib.hid h1; clear h1
  obtain ⟨e1, e2, s, e3, hs⟩ := fits_parts HF1.out
  replace e1 := e1.symm; replace e2 := e2.symm
  subst e1 e2 e3
  have HS := Lib.hid hs; clear hs HF1
  obtain ⟨qa0, qa1, qa2⟩ := HVa.out.cells
  obtain ⟨qb0, qb1, qb2⟩ := HVb.out.cells
  go_wp2_with fail
  refine (Compose_ok HP.out HQ.out _ _ _ Ha.out Hb.out HDe.out).mono ?_
  rintro r wk7 ⟨c1, c2, c3, c4, c5, c6, c7, c8, c9, rfl, e, x1⟩
  have Hc := Lib.hid e
  replace HX := Lib.hid (HX.out.trans x1); replace HDe := Lib.hid (HDe.out.ext x1); replace HMk := Lib.hid (HMk.out.ext x1); replace HVa := Lib.hid (HVa.out.ext x1); replace Ha := Lib.hid (Ha.out.ext x1); replace HVb := Lib.hid (HVb.out.ext x1); replace Hb := Lib.hid (Hb.out.ext x1); replace HVs := Lib.hid (HVs.out.ext x1); replace Hs := Lib.hid (Hs.out.ext x1)
  clear x1 e qa0 qa1 qa2 qb0 qb1 qb2
  go_upto_region 5 with fail
  obtain ⟨Wk7, hWk⟩ : ∃ Wk, Wk = wk7.alloc (.cells #[.slice c1 c2 c3, .slice c4 c5 c6, .slice c7 c8 c9] 25) := ⟨_, rfl⟩
  have x1 : Ext wk7 Wk7 := by rw [hWk]; exact (Ext.refl _).alloc _
  have HVc : Hid (Var3 25 Wk7 wk7.heap.size (.slice c1 c2 c3) (.slice c4 c5 c6) (.slice c7 c8 c9)) := by rw [hWk]; exact Var3.new _ _ _ _ _
  rw [← hWk]
  replace HX := Lib.hid (HX.out.trans x1); replace HDe := Lib.hid (HDe.out.ext x1); replace HMk := Lib.hid (HMk.out.ext x1); replace HVa := Lib.hid (HVa.out.ext x1); replace Ha := Lib.hid (Ha.out.ext x1); replace HVb := Lib.hid (HVb.out.ext x1); replace Hb := Lib.hid (Hb.out.ext x1); replace HVs := Lib.hid (HVs.out.ext x1); replace Hs := Lib.hid (Hs.out.ext x1); replace Hc := Lib.hid (Hc.out.ext x1)
  clear x1 hWk
  generalize wk7.heap.size = bc at *
  obtain ⟨qc0, qc1, qc2⟩ := HVc.out.cells
  obtain ⟨qs0, qs1, qs2⟩ := HVs.out.cells
  go_wp2_with fail
  refine (Image_ok (cmp_valid HP.out HQ.out) HS.out _ _ _ Hc.out Hs.out HDe.out).mono ?_
  rintro r wk8 ⟨m1, m2, m3, m4, m5, m6, m7, m8, m9, rfl, e, x1⟩
  have Hm := Lib.hid e
  replace HX := Lib.hid (HX.out.trans x1); replace HDe := Lib.hid (HDe.out.ext x1); replace HMk := Lib.hid (HMk.out.ext x1); replace HVa := Lib.hid (HVa.out.ext x1); replace Ha := Lib.hid (Ha.out.ext x1); replace HVb := Lib.hid (HVb.out.ext x1); replace Hb := Lib.hid (Hb.out.ext x1); replace HVs := Lib.hid (HVs.out.ext x1); replace Hs := Lib.hid (Hs.out.ext x1); replace Hc := Lib.hid (Hc.out.ext x1); replace HVc := Lib.hid (HVc.out.ext x1)
  clear x1 e qc0 qc1 qc2 qs0 qs1 qs2
  go_upto_region 6 with fail
  obtain ⟨Wk8, hWk⟩ : ∃ Wk, Wk = wk8.alloc (.cells #[.slice m1 m2 m3, .slice m4 m5 m6, .slice m7 m8 m9] 27) := ⟨_, rfl⟩
  have x1 : Ext wk8 Wk8 := by rw [hWk]; exact (Ext.refl _).alloc _
  have HVm : Hid (Var3 27 Wk8 wk8.heap.size (.slice m1 m2 m3) (.slice m4 m5 m6) (.slice m7 m8 m9)) := by rw [hWk]; exact Var3.new _ _ _ _ _
  rw [← hWk]
  replace HX := Lib.hid (HX.out.trans x1); replace HDe := Lib.hid (HDe.out.ext x1); replace HMk := Lib.hid (HMk.out.ext x1); replace HVa := Lib.hid (HVa.out.ext x1); replace Ha := Lib.hid (Ha.out.ext x1); replace HVb := Lib.hid (HVb.out.ext x1); replace Hb := Lib.hid (Hb.out.ext x1); replace HVs := Lib.hid (HVs.out.ext x1); replace Hs := Lib.hid (Hs.out.ext x1); replace Hc := Lib.hid (Hc.out.ext x1); replace HVc := Lib.hid (HVc.out.ext x1); replace Hm := Lib.hid (Hm.out.ext x1)
  clear x1 hWk
  generalize wk8.heap.size = bm at *
  obtain ⟨qa0, qa1, qa2⟩ := HVa.out.cells
  obtain ⟨qs0, qs1, qs2⟩ := HVs.out.cells
  go_wp2_with fail
  refine (Image_ok HP.out HS.out _ _ _ Ha.out Hs.out HDe.out).mono ?_
  rintro r wk9 ⟨i1, i2, i3, i4, i5, i6, i7, i8, i9, rfl, e, x1⟩
  have Hi := Lib.hid e
  replace HX := Lib.hid (HX.out.trans x1); replace HDe := Lib.hid (HDe.out.ext x1); replace HMk := Lib.hid (HMk.out.ext x1); replace HVa := Lib.hid (HVa.out.ext x1); replace Ha := Lib.hid (Ha.out.ext x1); replace HVb := Lib.hid (HVb.out.ext x1); replace Hb := Lib.hid (Hb.out.ext x1); replace HVs := Lib.hid (HVs.out.ext x1); replace Hs := Lib.hid (Hs.out.ext x1); replace Hc := Lib.hid (Hc.out.ext x1); replace HVc := Lib.hid (HVc.out.ext x1); replace Hm := Lib.hid (Hm.out.ext x1); replace HVm := Lib.hid (HVm.out.ext x1)
  clear x1 e qa0 qa1 qa2 qs0 qs1 qs2
  go_upto_region 7 with fail
  obtain ⟨Wk9, hWk⟩ : ∃ Wk, Wk = wk9.alloc (.cells #[.slice i1 i2 i3, .slice i4 i5 i6, .slice i7 i8 i9] 27) := ⟨_, rfl⟩
  have x1 : Ext wk9 Wk9 := by rw [hWk]; exact (Ext.refl _).alloc _
  have HVi : Hid (Var3 27 Wk9 wk9.heap.size (.slice i1 i2 i3) (.slice i4 i5 i6) (.slice i7 i8 i9)) := by rw [hWk]; exact Var3.new _ _ _ _ _
  rw [← hWk]
  replace HX := Lib.hid (HX.out.trans x1); replace HDe := Lib.hid (HDe.out.ext x1); replace HMk := Lib.hid (HMk.out.ext x1); replace HVa := Lib.hid (HVa.out.ext x1); replace Ha := Lib.hid (Ha.out.ext x1); replace HVb := Lib.hid (HVb.out.ext x1); replace Hb := Lib.hid (Hb.out.ext x1); replace HVs := Lib.hid (HVs.out.ext x1); replace Hs := Lib.hid (Hs.out.ext x1); replace Hc := Lib.hid (Hc.out.ext x1); replace HVc := Lib.hid (HVc.out.ext x1); replace Hm := Lib.hid (Hm.out.ext x1); replace HVm := Lib.hid (HVm.out.ext x1); replace Hi := Lib.hid (Hi.out.ext x1)
  clear x1 hWk
  generalize wk9.heap.size = bi at *
  obtain ⟨qb0, qb1, qb2⟩ := HVb.out.cells
  obtain ⟨qi0, qi1, qi2⟩ := HVi.out.cells
  go_wp2_with fail
  refine (Image_ok HQ.out (img_valid HP.out) _ _ _ Hb.out Hi.out HDe.out).mono ?_
  rintro r wk10 ⟨n1, n2, n3, n4, n5, n6, n7, n8, n9, rfl, e, x1⟩
  have Hn := Lib.hid e
  replace HX := Lib.hid (HX.out.trans x1); replace HDe := Lib.hid (HDe.out.ext x1); replace HMk := Lib.hid (HMk.out.ext x1); replace HVa := Lib.hid (HVa.out.ext x1); replace Ha := Lib.hid (Ha.out.ext x1); replace HVb := Lib.hid (HVb.out.ext x1); replace Hb := Lib.hid (Hb.out.ext x1); replace HVs := Lib.hid (HVs.out.ext x1); replace Hs := Lib.hid (Hs.out.ext x1); replace Hc := Lib.hid (Hc.out.ext x1); replace HVc := Lib.hid (HVc.out.ext x1); replace Hm := Lib.hid (Hm.out.ext x1); replace HVm := Lib.hid (HVm.out.ext x1); replace Hi := Lib.hid (Hi.out.ext x1); replace HVi := Lib.hid (HVi.out.ext x1)
  clear x1 e qb0 qb1 qb2 qi0 qi1 qi2
  go_upto_region 8 with fail
  obtain ⟨Wk10, hWk⟩ : ∃ Wk, Wk = wk10.alloc (.cells #[.slice n1 n2 n3, .slice n4 n5 n6, .slice n7 n8 n9] 27) := ⟨_, rfl⟩
  have x1 : Ext wk10 Wk10 := by rw [hWk]; exact (Ext.refl _).alloc _
  have HVn : Hid (Var3 27 Wk10 wk10.heap.size (.slice n1 n2 n3) (.slice n4 n5 n6) (.slice n7 n8 n9)) := by rw [hWk]; exact Var3.new _ _ _ _ _
  rw [← hWk]
  replace HX := Lib.hid (HX.out.trans x1); replace HDe := Lib.hid (HDe.out.ext x1); replace HMk := Lib.hid (HMk.out.ext x1); replace HVa := Lib.hid (HVa.out.ext x1); replace Ha := Lib.hid (Ha.out.ext x1); replace HVb := Lib.hid (HVb.out.ext x1); replace Hb := Lib.hid (Hb.out.ext x1); replace HVs := Lib.hid (HVs.out.ext x1); replace Hs := Lib.hid (Hs.out.ext x1); replace Hc := Lib.hid (Hc.out.ext x1); replace HVc := Lib.hid (HVc.out.ext x1); replace Hm := Lib.hid (Hm.out.ext x1); replace HVm := Lib.hid (HVm.out.ext x1); replace Hi := Lib.hid (Hi.out.ext x1); replace HVi := Lib.hid (HVi.out.ext x1); replace Hn := Lib.hid (Hn.out.ext x1)
  clear x1 hWk
  generalize wk10.heap.size = bn at *
  have HL1 : Hid (sameS cs ws (castL (imgL (cmpP p q) s)) cs ws (castL (imgL q (imgL p s))) = true) := by unfold Hid; rw [img_cmp s HP.out HQ.out]; exact sameS_self _ _ _
  obtain ⟨qm0, qm1, qm2⟩ := HVm.out.cells
  obtain ⟨qn0, qn1, qn2⟩ := HVn.out.cells
  go_wp2_with fail
  refine (RSame10_any _ _ (castL (imgL (cmpP p q) s)) _ _ (castL (imgL q (imgL p s))) _ _ _ Hm.out Hn.out).mono ?_
  rintro r wk11 ⟨rfl, x1⟩
  rw [HL1.out]
  replace HX := Lib.hid (HX.out.trans x1); replace HDe := Lib.hid (HDe.out.ext x1); replace HMk := Lib.hid (HMk.out.ext x1); replace HVa := Lib.hid (HVa.out.ext x1); replace Ha := Lib.hid (Ha.out.ext x1); replace HVb := Lib.hid (HVb.out.ext x1); replace Hb := Lib.hid (Hb.out.ext x1); replace HVs := Lib.hid (HVs.out.ext x1); replace Hs := Lib.hid (Hs.out.ext x1); replace Hc := Lib.hid (Hc.out.ext x1); replace HVc := Lib.hid (HVc.out.ext x1); replace Hm := Lib.hid (Hm.out.ext x1); replace HVm := Lib.hid (HVm.out.ext x1); replace Hi := Lib.hid (Hi.out.ext x1); replace HVi := Lib.hid (HVi.out.ext x1); replace Hn := Lib.hid (Hn.out.ext x1); replace HVn := Lib.hid (HVn.out.ext x1)
  clear x1 qm0 qm1 qm2 qn0 qn1 qn2
  obtain ⟨qa0, qa1, qa2⟩ := HVa.out.cells
  obtain ⟨qb0, qb1, qb2⟩ := HVb.out.cells
  go_wp2_with fail
  refine (Union_ok HP.out HQ.out _ _ _ Ha.out Hb.out HDe.out).mono ?_
  rintro r wk12 ⟨t1, t2, t3, t4, t5, t6, t7, t8, t9, rfl, e, x1⟩
  have Ht := Lib.hid e
  replace HX := Lib.hid (HX.out.trans x1); replace HDe := Lib.hid (HDe.out.ext x1); replace HMk := Lib.hid (HMk.out.ext x1); replace HVa := Lib.hid (HVa.out.ext x1); replace Ha := Lib.hid (Ha.out.ext x1); replace HVb := Lib.hid (HVb.out.ext x1); replace Hb := Lib.hid (Hb.out.ext x1); replace HVs := Lib.hid (HVs.out.ext x1); replace Hs := Lib.hid (Hs.out.ext x1); replace Hc := Lib.hid (Hc.out.ext x1); replace HVc := Lib.hid (HVc.out.ext x1); replace Hm := Lib.hid (Hm.out.ext x1); replace HVm := Lib.hid (HVm.out.ext x1); replace Hi := Lib.hid (Hi.out.ext x1); replace HVi := Lib.hid (HVi.out.ext x1); replace Hn := Lib.hid (Hn.out.ext x1); replace HVn := Lib.hid (HVn.out.ext x1)
  clear x1 e qa0 qa1 qa2 qb0 qb1 qb2
  go_upto_region 11 with fail
  obtain ⟨Wk12, hWk⟩ : ∃ Wk, Wk = wk12.alloc (.cells #[.slice t1 t2 t3, .slice t4 t5 t6, .slice t7 t8 t9] 25) := ⟨_, rfl⟩
  have x1 : Ext wk12 Wk12 := by rw [hWk]; exact (Ext.refl _).alloc _
  have HVt : Hid (Var3 25 Wk12 wk12.heap.size (.slice t1 t2 t3) (.slice t4 t5 t6) (.slice t7 t8 t9)) := by rw [hWk]; exact Var3.new _ _ _ _ _
  rw [← hWk]
  replace HX := Lib.hid (HX.out.trans x1); replace HDe := Lib.hid (HDe.out.ext x1); replace HMk := Lib.hid (HMk.out.ext x1); replace HVa := Lib.hid (HVa.out.ext x1); replace Ha := Lib.hid (Ha.out.ext x1); replace HVb := Lib.hid (HVb.out.ext x1); replace Hb := Lib.hid (Hb.out.ext x1); replace HVs := Lib.hid (HVs.out.ext x1); replace Hs := Lib.hid (Hs.out.ext x1); replace Hc := Lib.hid (Hc.out.ext x1); replace HVc := Lib.hid (HVc.out.ext x1); replace Hm := Lib.hid (Hm.out.ext x1); replace HVm := Lib.hid (HVm.out.ext x1); replace Hi := Lib.hid (Hi.out.ext x1); replace HVi := Lib.hid (HVi.out.ext x1); replace Hn := Lib.hid (Hn.out.ext x1); replace HVn := Lib.hid (HVn.out.ext x1); replace Ht := Lib.hid (Ht.out.ext x1)
  clear x1 hWk
  generalize wk12.heap.size = bt at *
  obtain ⟨qt0, qt1, qt2⟩ := HVt.out.cells
  obtain ⟨qs0, qs1, qs2⟩ := HVs.out.cells
  go_wp2_with fail
  refine (Image_ok (uni_valid HP.out HQ.out) HS.out _ _ _ Ht.out Hs.out HDe.out).mono ?_
  rintro r wk13 ⟨v1, v2, v3, v4, v5, v6, v7, v8, v9, rfl, e, x1⟩
  have Hv := Lib.hid e
  replace HX := Lib.hid (HX.out.trans x1); replace HDe := Lib.hid (HDe.out.ext x1); replace HMk := Lib.hid (HMk.out.ext x1); replace HVa := Lib.hid (HVa.out.ext x1); replace Ha := Lib.hid (Ha.out.ext x1); replace HVb := Lib.hid (HVb.out.ext x1); replace Hb := Lib.hid (Hb.out.ext x1); replace HVs := Lib.hid (HVs.out.ext x1); replace Hs := Lib.hid (Hs.out.ext x1); replace Hc := Lib.hid (Hc.out.ext x1); replace HVc := Lib.hid (HVc.out.ext x1); replace Hm := Lib.hid (Hm.out.ext x1); replace HVm := Lib.hid (HVm.out.ext x1); replace Hi := Lib.hid (Hi.out.ext x1); replace HVi := Lib.hid (HVi.out.ext x1); replace Hn := Lib.hid (Hn.out.ext x1); replace HVn := Lib.hid (HVn.out.ext x1); replace Ht := Lib.hid (Ht.out.ext x1); replace HVt := Lib.hid (HVt.out.ext x1)
  clear x1 e qt0 qt1 qt2 qs0 qs1 qs2
  go_upto_region 12 with fail
  obtain ⟨Wk13, hWk⟩ : ∃ Wk, Wk = wk13.alloc (.cells #[.slice v1 v2 v3, .slice v4 v5 v6, .slice v7 v8 v9] 27) := ⟨_, rfl⟩
  have x1 : Ext wk13 Wk13 := by rw [hWk]; exact (Ext.refl _).alloc _
  have HVv : Hid (Var3 27 Wk13 wk13.heap.size (.slice v1 v2 v3) (.slice v4 v5 v6) (.slice v7 v8 v9)) := by rw [hWk]; exact Var3.new _ _ _ _ _
  rw [← hWk]
  replace HX := Lib.hid (HX.out.trans x1); replace HDe := Lib.hid (HDe.out.ext x1); replace HMk := Lib.hid (HMk.out.ext x1); replace HVa := Lib.hid (HVa.out.ext x1); replace Ha := Lib.hid (Ha.out.ext x1); replace HVb := Lib.hid (HVb.out.ext x1); replace Hb := Lib.hid (Hb.out.ext x1); replace HVs := Lib.hid (HVs.out.ext x1); replace Hs := Lib.hid (Hs.out.ext x1); replace Hc := Lib.hid (Hc.out.ext x1); replace HVc := Lib.hid (HVc.out.ext x1); replace Hm := Lib.hid (Hm.out.ext x1); replace HVm := Lib.hid (HVm.out.ext x1); replace Hi := Lib.hid (Hi.out.ext x1); replace HVi := Lib.hid (HVi.out.ext x1); replace Hn := Lib.hid (Hn.out.ext x1); replace HVn := Lib.hid (HVn.out.ext x1); replace Ht := Lib.hid (Ht.out.ext x1); replace HVt := Lib.hid (HVt.out.ext x1); replace Hv := Lib.hid (Hv.out.ext x1)
  clear x1 hWk
  generalize wk13.heap.size = bv at *
  obtain ⟨qb0, qb1, qb2⟩ := HVb.out.cells
  obtain ⟨qs0, qs1, qs2⟩ := HVs.out.cells
  go_wp2_with fail
  refine (Image_ok HQ.out HS.out _ _ _ Hb.out Hs.out HDe.out).mono ?_
  rintro r wk14 ⟨k1, k2, k3, k4, k5, k6, k7, k8, k9, rfl, e, x1⟩
  have Hk := Lib.hid e
  replace HX := Lib.hid (HX.out.trans x1); replace HDe := Lib.hid (HDe.out.ext x1); replace HMk := Lib.hid (HMk.out.ext x1); replace HVa := Lib.hid (HVa.out.ext x1); replace Ha := Lib.hid (Ha.out.ext x1); replace HVb := Lib.hid (HVb.out.ext x1); replace Hb := Lib.hid (Hb.out.ext x1); replace HVs := Lib.hid (HVs.out.ext x1); replace Hs := Lib.hid (Hs.out.ext x1); replace Hc := Lib.hid (Hc.out.ext x1); replace HVc := Lib.hid (HVc.out.ext x1); replace Hm := Lib.hid (Hm.out.ext x1); replace HVm := Lib.hid (HVm.out.ext x1); replace Hi := Lib.hid (Hi.out.ext x1); replace HVi := Lib.hid (HVi.out.ext x1); replace Hn := Lib.hid (Hn.out.ext x1); replace HVn := Lib.hid (HVn.out.ext x1); replace Ht := Lib.hid (Ht.out.ext x1); replace HVt := Lib.hid (HVt.out.ext x1); replace Hv := Lib.hid (Hv.out.ext x1); replace HVv := Lib.hid (HVv.out.ext x1)
  clear x1 e qb0 qb1 qb2 qs0 qs1 qs2
  go_upto_region 13 with fail
  obtain ⟨Wk14, hWk⟩ : ∃ Wk, Wk = wk14.alloc (.cells #[.slice k1 k2 k3, .slice k4 k5 k6, .slice k7 k8 k9] 27) := ⟨_, rfl⟩
  have x1 : Ext wk14 Wk14 := by rw [hWk]; exact (Ext.refl _).alloc _
  have HVk : Hid (Var3 27 Wk14 wk14.heap.size (.slice k1 k2 k3) (.slice k4 k5 k6) (.slice k7 k8 k9)) := by rw [hWk]; exact Var3.new _ _ _ _ _
  rw [← hWk]
  replace HX := Lib.hid (HX.out.trans x1); replace HDe := Lib.hid (HDe.out.ext x1); replace HMk := Lib.hid (HMk.out.ext x1); replace HVa := Lib.hid (HVa.out.ext x1); replace Ha := Lib.hid (Ha.out.ext x1); replace HVb := Lib.hid (HVb.out.ext x1); replace Hb := Lib.hid (Hb.out.ext x1); replace HVs := Lib.hid (HVs.out.ext x1); replace Hs := Lib.hid (Hs.out.ext x1); replace Hc := Lib.hid (Hc.out.ext x1); replace HVc := Lib.hid (HVc.out.ext x1); replace Hm := Lib.hid (Hm.out.ext x1); replace HVm := Lib.hid (HVm.out.ext x1); replace Hi := Lib.hid (Hi.out.ext x1); replace HVi := Lib.hid (HVi.out.ext x1); replace Hn := Lib.hid (Hn.out.ext x1); replace HVn := Lib.hid (HVn.out.ext x1); replace Ht := Lib.hid (Ht.out.ext x1); replace HVt := Lib.hid (HVt.out.ext x1); replace Hv := Lib.hid (Hv.out.ext x1); replace HVv := Lib.hid (HVv.out.ext x1); replace Hk := Lib.hid (Hk.out.ext x1)
  clear x1 hWk
  generalize wk14.heap.size = bk at *
  obtain ⟨qi0, qi1, qi2⟩ := HVi.out.cells
  obtain ⟨qk0, qk1, qk2⟩ := HVk.out.cells
  go_wp2_with fail
  refine (Join_ok (img_valid HP.out) (img_valid HQ.out) _ _ _ Hi.out Hk.out HDe.out).mono ?_
  rintro r wk15 ⟨z1, z2, z3, z4, z5, z6, z7, z8, z9, rfl, e, x1⟩
  have Hz := Lib.hid e
  replace HX := Lib.hid (HX.out.trans x1); replace HDe := Lib.hid (HDe.out.ext x1); replace HMk := Lib.hid (HMk.out.ext x1); replace HVa := Lib.hid (HVa.out.ext x1); replace Ha := Lib.hid (Ha.out.ext x1); replace HVb := Lib.hid (HVb.out.ext x1); replace Hb := Lib.hid (Hb.out.ext x1); replace HVs := Lib.hid (HVs.out.ext x1); replace Hs := Lib.hid (Hs.out.ext x1); replace Hc := Lib.hid (Hc.out.ext x1); replace HVc := Lib.hid (HVc.out.ext x1); replace Hm := Lib.hid (Hm.out.ext x1); replace HVm := Lib.hid (HVm.out.ext x1); replace Hi := Lib.hid (Hi.out.ext x1); replace HVi := Lib.hid (HVi.out.ext x1); replace Hn := Lib.hid (Hn.out.ext x1); replace HVn := Lib.hid (HVn.out.ext x1); replace Ht := Lib.hid (Ht.out.ext x1); replace HVt := Lib.hid (HVt.out.ext x1); replace Hv := Lib.hid (Hv.out.ext x1); replace HVv := Lib.hid (HVv.out.ext x1); replace Hk := Lib.hid (Hk.out.ext x1); replace HVk := Lib.hid (HVk.out.ext x1)
  clear x1 e qi0 qi1 qi2 qk0 qk1 qk2
  go_upto_region 14 with fail
  obtain ⟨Wk15, hWk⟩ : ∃ Wk, Wk = wk15.alloc (.cells #[.slice z1 z2 z3, .slice z4 z5 z6, .slice z7 z8 z9] 27) := ⟨_, rfl⟩
  have x1 : Ext wk15 Wk15 := by rw [hWk]; exact (Ext.refl _).alloc _
  have HVz : Hid (Var3 27 Wk15 wk15.heap.size (.slice z1 z2 z3) (.slice z4 z5 z6) (.slice z7 z8 z9)) := by rw [hWk]; exact Var3.new _ _ _ _ _
  rw [← hWk]
  replace HX := Lib.hid (HX.out.trans x1); replace HDe := Lib.hid (HDe.out.ext x1); replace HMk := Lib.hid (HMk.out.ext x1); replace HVa := Lib.hid (HVa.out.ext x1); replace Ha := Lib.hid (Ha.out.ext x1); replace HVb := Lib.hid (HVb.out.ext x1); replace Hb := Lib.hid (Hb.out.ext x1); replace HVs := Lib.hid (HVs.out.ext x1); replace Hs := Lib.hid (Hs.out.ext x1); replace Hc := Lib.hid (Hc.out.ext x1); replace HVc := Lib.hid (HVc.out.ext x1); replace Hm := Lib.hid (Hm.out.ext x1); replace HVm := Lib.hid (HVm.out.ext x1); replace Hi := Lib.hid (Hi.out.ext x1); replace HVi := Lib.hid (HVi.out.ext x1); replace Hn := Lib.hid (Hn.out.ext x1); replace HVn := Lib.hid (HVn.out.ext x1); replace Ht := Lib.hid (Ht.out.ext x1); replace HVt := Lib.hid (HVt.out.ext x1); replace Hv := Lib.hid (Hv.out.ext x1); replace HVv := Lib.hid (HVv.out.ext x1); replace Hk := Lib.hid (Hk.out.ext x1); replace HVk := Lib.hid (HVk.out.ext x1); replace Hz := Lib.hid (Hz.out.ext x1)
  clear x1 hWk
  generalize wk15.heap.size = bz at *
  have HL2 : Hid (sameS cs ws (castL (imgL (uniP p q) s)) cs ws (castL (joiL (imgL p s) (imgL q s))) = true) := by unfold Hid; rw [img_uni s HP.out HQ.out]; exact sameS_self _ _ _
  obtain ⟨qv0, qv1, qv2⟩ := HVv.out.cells
  obtain ⟨qz0, qz1, qz2⟩ := HVz.out.cells
  go_wp2_with fail
  refine (RSame10_any _ _ (castL (imgL (uniP p q) s)) _ _ (castL (joiL (imgL p s) (imgL q s))) _ _ _ Hv.out Hz.out).mono ?_
  rintro r wk16 ⟨rfl, x1⟩
  rw [HL2.out]
  replace HX := Lib.hid (HX.out.trans x1); replace HDe := Lib.hid (HDe.out.ext x1); replace HMk := Lib.hid (HMk.out.ext x1); replace HVa := Lib.hid (HVa.out.ext x1); replace Ha := Lib.hid (Ha.out.ext x1); replace HVb := Lib.hid (HVb.out.ext x1); replace Hb := Lib.hid (Hb.out.ext x1); replace HVs := Lib.hid (HVs.out.ext x1); replace Hs := Lib.hid (Hs.out.ext x1); replace Hc := Lib.hid (Hc.out.ext x1); replace HVc := Lib.hid (HVc.out.ext x1); replace Hm := Lib.hid (Hm.out.ext x1); replace HVm := Lib.hid (HVm.out.ext x1); replace Hi := Lib.hid (Hi.out.ext x1); replace HVi := Lib.hid (HVi.out.ext x1); replace Hn := Lib.hid (Hn.out.ext x1); replace HVn := Lib.hid (HVn.out.ext x1); replace Ht := Lib.hid (Ht.out.ext x1); replace HVt := Lib.hid (HVt.out.ext x1); replace Hv := Lib.hid (Hv.out.ext x1); replace HVv := Lib.hid (HVv.out.ext x1); replace Hk := Lib.hid (Hk.out.ext x1); replace HVk := Lib.hid (HVk.out.ext x1); replace Hz := Lib.hid (Hz.out.ext x1); replace HVz := Lib.hid (HVz.out.ext x1)
  clear x1 qv0 qv1 qv2 qz0 qz1 qz2
  go_wp2_with fail
  exact bodyPost_ret (v := .bool true) (by simp [results, Tryd.results7, go_sem]) rfl ⟨rfl, HX.out⟩
end Go.Proofs.YtlnahhlddekhoaaDoor
