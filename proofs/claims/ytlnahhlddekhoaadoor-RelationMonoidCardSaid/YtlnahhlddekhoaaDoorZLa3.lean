/-
  The walk of RelationMonoid. Printed by gen_law15.py.
-/
import Derived.Test.YtlnahhlddekhoaaDoorZMonL
namespace Go.Proofs.YtlnahhlddekhoaaDoor
open Go.RowKit

set_option maxRecDepth 100000 in
set_option maxHeartbeats 16000000 in
theorem RelationMonoid_any (cs ws : List Int) (P : List (Int × Int)) (cs2 ws2 : List Int) (Q : List (Int × Int)) (cs3 ws3 : List Int) (R : List (Int × Int)) (va vb vc : Value) (w : World) (ha : RelV w va cs ws P) (hb : RelV w vb cs2 ws2 Q) (hc : RelV w vc cs3 ws3 R) (hM : Masks w) (hT : DeB w) :
    Calls Tryd.prog 5 #[va, vb, vc] w fun r w' => r = .returned (.bool true) ∧ Ext w w' := by
  obtain ⟨a1, a2, a3, a4, a5, a6, a7, a8, a9, rfl⟩ := ha.shape'
  obtain ⟨b1, b2, b3, b4, b5, b6, b7, b8, b9, rfl⟩ := hb.shape'
  obtain ⟨c1, c2, c3, c4, c5, c6, c7, c8, c9, rfl⟩ := hc.shape'
  obtain ⟨W, hW⟩ : ∃ W, Boxes3 w W (.cells #[.slice a1 a2 a3, .slice a4 a5 a6, .slice a7 a8 a9] 25) (.cells #[.slice b1 b2 b3, .slice b4 b5 b6, .slice b7 b8 b9] 25) (.cells #[.slice c1 c2 c3, .slice c4 c5 c6, .slice c7 c8 c9] 25) := ⟨_, Boxes3.mk' _ _ _ _⟩
  have hx := hW.ext
  have HVa : Hid (Var3 25 W w.heap.size (.slice a1 a2 a3) (.slice a4 a5 a6) (.slice a7 a8 a9)) := hW.b0
  have Ha := Lib.hid (ha.ext hx)
  have HVb : Hid (Var3 25 W (w.heap.size + 1) (.slice b1 b2 b3) (.slice b4 b5 b6) (.slice b7 b8 b9)) := hW.b1
  have Hb := Lib.hid (hb.ext hx)
  have HVc : Hid (Var3 25 W (w.heap.size + 2) (.slice c1 c2 c3) (.slice c4 c5 c6) (.slice c7 c8 c9)) := hW.b2
  have Hc := Lib.hid (hc.ext hx)
  have HX := Lib.hid hx; have HDe := Lib.hid (hT.ext hx); have HMk := Lib.hid (hM.ext hx); have HW := Lib.hid hW.eq
  clear hW hx hT hM ha hb hc
  go_enter Tryd.func5, Tryd.ntmps5
  go_upto_region 1 with fail
  rw [← HW.out]
  clear HW
  generalize w.heap.size + 2 = bc at *
  generalize w.heap.size + 1 = bb at *
  generalize w.heap.size = ba at *
  go_wp2_with fail
  refine (head_any W HDe.out HMk.out).mono ?_
  rintro r wk1 ⟨rfl, x1⟩
  replace HX := Lib.hid (HX.out.trans x1); replace HDe := Lib.hid (HDe.out.ext x1); replace HMk := Lib.hid (HMk.out.ext x1); replace HVa := Lib.hid (HVa.out.ext x1); replace Ha := Lib.hid (Ha.out.ext x1); replace HVb := Lib.hid (HVb.out.ext x1); replace Hb := Lib.hid (Hb.out.ext x1); replace HVc := Lib.hid (HVc.out.ext x1); replace Hc := Lib.hid (Hc.out.ext x1)
  clear x1
  obtain ⟨qa0, qa1, qa2⟩ := HVa.out.cells
  go_wp2_with fail
  refine (Light_any cs ws P _ _ Ha.out).mono ?_
  rintro r wk2 ⟨rfl, x1⟩
  replace HX := Lib.hid (HX.out.trans x1); replace HDe := Lib.hid (HDe.out.ext x1); replace HMk := Lib.hid (HMk.out.ext x1); replace HVa := Lib.hid (HVa.out.ext x1); replace Ha := Lib.hid (Ha.out.ext x1); replace HVb := Lib.hid (HVb.out.ext x1); replace Hb := Lib.hid (Hb.out.ext x1); replace HVc := Lib.hid (HVc.out.ext x1); replace Hc := Lib.hid (Hc.out.ext x1)
  clear x1 qa0 qa1 qa2
  cases h1 : lightB cs ws P with
  | false =>
    clear h1
    go_wp2_with fail
    exact bodyPost_ret (v := .bool true) (by simp [results, Tryd.results5, go_sem]) rfl ⟨rfl, HX.out⟩
  | true =>
  have HL := Lib.hid h1; clear h1
  obtain ⟨p, rfl, hp, h5⟩ := light_parts HL.out
  have HP := Lib.hid hp; clear hp h5 HL
  obtain ⟨qb0, qb1, qb2⟩ := HVb.out.cells
  go_wp2_with fail
  refine (Light_any cs2 ws2 Q _ _ Hb.out).mono ?_
  rintro r wk3 ⟨rfl, x1⟩
  replace HX := Lib.hid (HX.out.trans x1); replace HDe := Lib.hid (HDe.out.ext x1); replace HMk := Lib.hid (HMk.out.ext x1); replace HVa := Lib.hid (HVa.out.ext x1); replace Ha := Lib.hid (Ha.out.ext x1); replace HVb := Lib.hid (HVb.out.ext x1); replace Hb := Lib.hid (Hb.out.ext x1); replace HVc := Lib.hid (HVc.out.ext x1); replace Hc := Lib.hid (Hc.out.ext x1)
  clear x1 qb0 qb1 qb2
  cases h1 : lightB cs2 ws2 Q with
  | false =>
    clear h1
    go_wp2_with fail
    exact bodyPost_ret (v := .bool true) (by simp [results, Tryd.results5, go_sem]) rfl ⟨rfl, HX.out⟩
  | true =>
  have HL := Lib.hid h1; clear h1
  clear HL
  obtain ⟨qc0, qc1, qc2⟩ := HVc.out.cells
  go_wp2_with fail
  refine (Light_any cs3 ws3 R _ _ Hc.out).mono ?_
  rintro r wk4 ⟨rfl, x1⟩
  replace HX := Lib.hid (HX.out.trans x1); replace HDe := Lib.hid (HDe.out.ext x1); replace HMk := Lib.hid (HMk.out.ext x1); replace HVa := Lib.hid (HVa.out.ext x1); replace Ha := Lib.hid (Ha.out.ext x1); replace HVb := Lib.hid (HVb.out.ext x1); replace Hb := Lib.hid (Hb.out.ext x1); replace HVc := Lib.hid (HVc.out.ext x1); replace Hc := Lib.hid (Hc.out.ext x1)
  clear x1 qc0 qc1 qc2
  cases h1 : lightB cs3 ws3 R with
  | false =>
    clear h1
    go_wp2_with fail
    exact bodyPost_ret (v := .bool true) (by simp [results, Tryd.results5, go_sem]) rfl ⟨rfl, HX.out⟩
  | true =>
  have HL := Lib.hid h1; clear h1
  clear HL
  obtain ⟨qa0, qa1, qa2⟩ := HVa.out.cells
  obtain ⟨qb0, qb1, qb2⟩ := HVb.out.cells
  go_wp2_with fail
  refine (RAlike_any cs ws (castP p) cs2 ws2 Q _ _ _ Ha.out Hb.out).mono ?_
  rintro r wk5 ⟨rfl, x1⟩
  replace HX := Lib.hid (HX.out.trans x1); replace HDe := Lib.hid (HDe.out.ext x1); replace HMk := Lib.hid (HMk.out.ext x1); replace HVa := Lib.hid (HVa.out.ext x1); replace Ha := Lib.hid (Ha.out.ext x1); replace HVb := Lib.hid (HVb.out.ext x1); replace Hb := Lib.hid (Hb.out.ext x1); replace HVc := Lib.hid (HVc.out.ext x1); replace Hc := Lib.hid (Hc.out.ext x1)
  clear x1 qa0 qa1 qa2 qb0 qb1 qb2
  cases h1 : alikeR cs ws (castP p) cs2 ws2 Q with
  | false =>
    clear h1
    go_wp2_with fail
    exact bodyPost_ret (v := .bool true) (by simp [results, Tryd.results5, go_sem]) rfl ⟨rfl, HX.out⟩
  | true =>
  have HF1 := Lib.hid h1; clear h1
  obtain ⟨e1, e2, q, e3, hq⟩ := alikeR_parts HF1.out
  replace e1 := e1.symm; replace e2 := e2.symm
  subst e1 e2 e3
  have HQ := Lib.hid hq; clear hq HF1
  obtain ⟨qb0, qb1, qb2⟩ := HVb.out.cells
  obtain ⟨qc0, qc1, qc2⟩ := HVc.out.cells
  go_wp2_with fail
  refine (RAlike_any cs ws (castP q) cs3 ws3 R _ _ _ Hb.out Hc.out).mono ?_
  rintro r wk6 ⟨rfl, x1⟩
  replace HX := Lib.hid (HX.out.trans x1); replace HDe := Lib.hid (HDe.out.ext x1); replace HMk := Lib.hid (HMk.out.ext x1); replace HVa := Lib.hid (HVa.out.ext x1); replace Ha := Lib.hid (Ha.out.ext x1); replace HVb := Lib.hid (HVb.out.ext x1); replace Hb := Lib.hid (Hb.out.ext x1); replace HVc := Lib.hid (HVc.out.ext x1); replace Hc := Lib.hid (Hc.out.ext x1)
  clear x1 qb0 qb1 qb2 qc0 qc1 qc2
  cases h1 : alikeR cs ws (castP q) cs3 ws3 R with
  | false =>
    clear h1
    go_wp2_with fail
    exact bodyPost_ret (v := .bool true) (by simp [results, Tryd.results5, go_sem]) rfl ⟨rfl, HX.out⟩
  | true =>
  have HF1 := Lib.hid h1; clear h1
  obtain ⟨e1, e2, y, e3, hy⟩ := alikeR_parts HF1.out
  replace e1 := e1.symm; replace e2 := e2.symm
  subst e1 e2 e3
  have HR := Lib.hid hy; clear hy HF1
  obtain ⟨qa0, qa1, qa2⟩ := HVa.out.cells
  obtain ⟨qb0, qb1, qb2⟩ := HVb.out.cells
  go_wp2_with fail
  refine (Compose_ok HP.out HQ.out _ _ _ Ha.out Hb.out HDe.out).mono ?_
  rintro r wk7 ⟨m1, m2, m3, m4, m5, m6, m7, m8, m9, rfl, e, x1⟩
  have Hm := Lib.hid e
  replace HX := Lib.hid (HX.out.trans x1); replace HDe := Lib.hid (HDe.out.ext x1); replace HMk := Lib.hid (HMk.out.ext x1); replace HVa := Lib.hid (HVa.out.ext x1); replace Ha := Lib.hid (Ha.out.ext x1); replace HVb := Lib.hid (HVb.out.ext x1); replace Hb := Lib.hid (Hb.out.ext x1); replace HVc := Lib.hid (HVc.out.ext x1); replace Hc := Lib.hid (Hc.out.ext x1)
  clear x1 e qa0 qa1 qa2 qb0 qb1 qb2
  go_upto_region 5 with fail
  obtain ⟨Wk7, hWk⟩ : ∃ Wk, Wk = wk7.alloc (.cells #[.slice m1 m2 m3, .slice m4 m5 m6, .slice m7 m8 m9] 25) := ⟨_, rfl⟩
  have x1 : Ext wk7 Wk7 := by rw [hWk]; exact (Ext.refl _).alloc _
  have HVm : Hid (Var3 25 Wk7 wk7.heap.size (.slice m1 m2 m3) (.slice m4 m5 m6) (.slice m7 m8 m9)) := by rw [hWk]; exact Var3.new _ _ _ _ _
  rw [← hWk]
  replace HX := Lib.hid (HX.out.trans x1); replace HDe := Lib.hid (HDe.out.ext x1); replace HMk := Lib.hid (HMk.out.ext x1); replace HVa := Lib.hid (HVa.out.ext x1); replace Ha := Lib.hid (Ha.out.ext x1); replace HVb := Lib.hid (HVb.out.ext x1); replace Hb := Lib.hid (Hb.out.ext x1); replace HVc := Lib.hid (HVc.out.ext x1); replace Hc := Lib.hid (Hc.out.ext x1); replace Hm := Lib.hid (Hm.out.ext x1)
  clear x1 hWk
  generalize wk7.heap.size = bm at *
  obtain ⟨qb0, qb1, qb2⟩ := HVb.out.cells
  obtain ⟨qc0, qc1, qc2⟩ := HVc.out.cells
  go_wp2_with fail
  refine (Compose_ok HQ.out HR.out _ _ _ Hb.out Hc.out HDe.out).mono ?_
  rintro r wk8 ⟨n1, n2, n3, n4, n5, n6, n7, n8, n9, rfl, e, x1⟩
  have Hn := Lib.hid e
  replace HX := Lib.hid (HX.out.trans x1); replace HDe := Lib.hid (HDe.out.ext x1); replace HMk := Lib.hid (HMk.out.ext x1); replace HVa := Lib.hid (HVa.out.ext x1); replace Ha := Lib.hid (Ha.out.ext x1); replace HVb := Lib.hid (HVb.out.ext x1); replace Hb := Lib.hid (Hb.out.ext x1); replace HVc := Lib.hid (HVc.out.ext x1); replace Hc := Lib.hid (Hc.out.ext x1); replace Hm := Lib.hid (Hm.out.ext x1); replace HVm := Lib.hid (HVm.out.ext x1)
  clear x1 e qb0 qb1 qb2 qc0 qc1 qc2
  go_upto_region 6 with fail
  obtain ⟨Wk8, hWk⟩ : ∃ Wk, Wk = wk8.alloc (.cells #[.slice n1 n2 n3, .slice n4 n5 n6, .slice n7 n8 n9] 25) := ⟨_, rfl⟩
  have x1 : Ext wk8 Wk8 := by rw [hWk]; exact (Ext.refl _).alloc _
  have HVn : Hid (Var3 25 Wk8 wk8.heap.size (.slice n1 n2 n3) (.slice n4 n5 n6) (.slice n7 n8 n9)) := by rw [hWk]; exact Var3.new _ _ _ _ _
  rw [← hWk]
  replace HX := Lib.hid (HX.out.trans x1); replace HDe := Lib.hid (HDe.out.ext x1); replace HMk := Lib.hid (HMk.out.ext x1); replace HVa := Lib.hid (HVa.out.ext x1); replace Ha := Lib.hid (Ha.out.ext x1); replace HVb := Lib.hid (HVb.out.ext x1); replace Hb := Lib.hid (Hb.out.ext x1); replace HVc := Lib.hid (HVc.out.ext x1); replace Hc := Lib.hid (Hc.out.ext x1); replace Hm := Lib.hid (Hm.out.ext x1); replace HVm := Lib.hid (HVm.out.ext x1); replace Hn := Lib.hid (Hn.out.ext x1)
  clear x1 hWk
  generalize wk8.heap.size = bn at *
  obtain ⟨qm0, qm1, qm2⟩ := HVm.out.cells
  obtain ⟨qc0, qc1, qc2⟩ := HVc.out.cells
  go_wp2_with fail
  refine (Compose_ok (cmp_valid HP.out HQ.out) HR.out _ _ _ Hm.out Hc.out HDe.out).mono ?_
  rintro r wk9 ⟨o1, o2, o3, o4, o5, o6, o7, o8, o9, rfl, e, x1⟩
  have Ho := Lib.hid e
  replace HX := Lib.hid (HX.out.trans x1); replace HDe := Lib.hid (HDe.out.ext x1); replace HMk := Lib.hid (HMk.out.ext x1); replace HVa := Lib.hid (HVa.out.ext x1); replace Ha := Lib.hid (Ha.out.ext x1); replace HVb := Lib.hid (HVb.out.ext x1); replace Hb := Lib.hid (Hb.out.ext x1); replace HVc := Lib.hid (HVc.out.ext x1); replace Hc := Lib.hid (Hc.out.ext x1); replace Hm := Lib.hid (Hm.out.ext x1); replace HVm := Lib.hid (HVm.out.ext x1); replace Hn := Lib.hid (Hn.out.ext x1); replace HVn := Lib.hid (HVn.out.ext x1)
  clear x1 e qm0 qm1 qm2 qc0 qc1 qc2
  go_upto_region 7 with fail
  obtain ⟨Wk9, hWk⟩ : ∃ Wk, Wk = wk9.alloc (.cells #[.slice o1 o2 o3, .slice o4 o5 o6, .slice o7 o8 o9] 25) := ⟨_, rfl⟩
  have x1 : Ext wk9 Wk9 := by rw [hWk]; exact (Ext.refl _).alloc _
  have HVo : Hid (Var3 25 Wk9 wk9.heap.size (.slice o1 o2 o3) (.slice o4 o5 o6) (.slice o7 o8 o9)) := by rw [hWk]; exact Var3.new _ _ _ _ _
  rw [← hWk]
  replace HX := Lib.hid (HX.out.trans x1); replace HDe := Lib.hid (HDe.out.ext x1); replace HMk := Lib.hid (HMk.out.ext x1); replace HVa := Lib.hid (HVa.out.ext x1); replace Ha := Lib.hid (Ha.out.ext x1); replace HVb := Lib.hid (HVb.out.ext x1); replace Hb := Lib.hid (Hb.out.ext x1); replace HVc := Lib.hid (HVc.out.ext x1); replace Hc := Lib.hid (Hc.out.ext x1); replace Hm := Lib.hid (Hm.out.ext x1); replace HVm := Lib.hid (HVm.out.ext x1); replace Hn := Lib.hid (Hn.out.ext x1); replace HVn := Lib.hid (HVn.out.ext x1); replace Ho := Lib.hid (Ho.out.ext x1)
  clear x1 hWk
  generalize wk9.heap.size = bo at *
  obtain ⟨qa0, qa1, qa2⟩ := HVa.out.cells
  obtain ⟨qn0, qn1, qn2⟩ := HVn.out.cells
  go_wp2_with fail
  refine (Compose_ok HP.out (cmp_valid HQ.out HR.out) _ _ _ Ha.out Hn.out HDe.out).mono ?_
  rintro r wk10 ⟨t1, t2, t3, t4, t5, t6, t7, t8, t9, rfl, e, x1⟩
  have Ht := Lib.hid e
  replace HX := Lib.hid (HX.out.trans x1); replace HDe := Lib.hid (HDe.out.ext x1); replace HMk := Lib.hid (HMk.out.ext x1); replace HVa := Lib.hid (HVa.out.ext x1); replace Ha := Lib.hid (Ha.out.ext x1); replace HVb := Lib.hid (HVb.out.ext x1); replace Hb := Lib.hid (Hb.out.ext x1); replace HVc := Lib.hid (HVc.out.ext x1); replace Hc := Lib.hid (Hc.out.ext x1); replace Hm := Lib.hid (Hm.out.ext x1); replace HVm := Lib.hid (HVm.out.ext x1); replace Hn := Lib.hid (Hn.out.ext x1); replace HVn := Lib.hid (HVn.out.ext x1); replace Ho := Lib.hid (Ho.out.ext x1); replace HVo := Lib.hid (HVo.out.ext x1)
  clear x1 e qa0 qa1 qa2 qn0 qn1 qn2
  go_upto_region 8 with fail
  obtain ⟨Wk10, hWk⟩ : ∃ Wk, Wk = wk10.alloc (.cells #[.slice t1 t2 t3, .slice t4 t5 t6, .slice t7 t8 t9] 25) := ⟨_, rfl⟩
  have x1 : Ext wk10 Wk10 := by rw [hWk]; exact (Ext.refl _).alloc _
  have HVt : Hid (Var3 25 Wk10 wk10.heap.size (.slice t1 t2 t3) (.slice t4 t5 t6) (.slice t7 t8 t9)) := by rw [hWk]; exact Var3.new _ _ _ _ _
  rw [← hWk]
  replace HX := Lib.hid (HX.out.trans x1); replace HDe := Lib.hid (HDe.out.ext x1); replace HMk := Lib.hid (HMk.out.ext x1); replace HVa := Lib.hid (HVa.out.ext x1); replace Ha := Lib.hid (Ha.out.ext x1); replace HVb := Lib.hid (HVb.out.ext x1); replace Hb := Lib.hid (Hb.out.ext x1); replace HVc := Lib.hid (HVc.out.ext x1); replace Hc := Lib.hid (Hc.out.ext x1); replace Hm := Lib.hid (Hm.out.ext x1); replace HVm := Lib.hid (HVm.out.ext x1); replace Hn := Lib.hid (Hn.out.ext x1); replace HVn := Lib.hid (HVn.out.ext x1); replace Ho := Lib.hid (Ho.out.ext x1); replace HVo := Lib.hid (HVo.out.ext x1); replace Ht := Lib.hid (Ht.out.ext x1)
  clear x1 hWk
  generalize wk10.heap.size = bt at *
  have HL1 : Hid (sameR cs ws (castP (cmpP (cmpP p q) y)) cs ws (castP (cmpP p (cmpP q y))) = true) := by unfold Hid; rw [cmp_assoc HP.out HQ.out HR.out]; exact sameR_self _ _ _
  have HL2 : Hid (sameR cs ws (castP (cmpP p (uniP q y))) cs ws (castP (uniP (cmpP p q) (cmpP p y))) = true) := by unfold Hid; rw [cmp_uni HP.out HQ.out HR.out]; exact sameR_self _ _ _
  have HL3 : Hid (sameR cs ws (castP (cmpP (idP (nn ws)) p)) cs ws (castP p) = true) := by unfold Hid; rw [id_cmp HP.out]; exact sameR_self _ _ _
  have HL4 : Hid (sameR cs ws (castP (cmpP p (idP (nn ws)))) cs ws (castP p) = true) := by unfold Hid; rw [cmp_id HP.out]; exact sameR_self _ _ _
  obtain ⟨qo0, qo1, qo2⟩ := HVo.out.cells
  obtain ⟨qt0, qt1, qt2⟩ := HVt.out.cells
  go_wp2_with fail
  refine (RSame15_any _ _ (castP (cmpP (cmpP p q) y)) _ _ (castP (cmpP p (cmpP q y))) _ _ _ Ho.out Ht.out).mono ?_
  rintro r wk11 ⟨rfl, x1⟩
  rw [HL1.out]
  replace HX := Lib.hid (HX.out.trans x1); replace HDe := Lib.hid (HDe.out.ext x1); replace HMk := Lib.hid (HMk.out.ext x1); replace HVa := Lib.hid (HVa.out.ext x1); replace Ha := Lib.hid (Ha.out.ext x1); replace HVb := Lib.hid (HVb.out.ext x1); replace Hb := Lib.hid (Hb.out.ext x1); replace HVc := Lib.hid (HVc.out.ext x1); replace Hc := Lib.hid (Hc.out.ext x1); replace Hm := Lib.hid (Hm.out.ext x1); replace HVm := Lib.hid (HVm.out.ext x1); replace Hn := Lib.hid (Hn.out.ext x1); replace HVn := Lib.hid (HVn.out.ext x1); replace Ho := Lib.hid (Ho.out.ext x1); replace HVo := Lib.hid (HVo.out.ext x1); replace Ht := Lib.hid (Ht.out.ext x1); replace HVt := Lib.hid (HVt.out.ext x1)
  clear x1 qo0 qo1 qo2 qt0 qt1 qt2
  obtain ⟨qb0, qb1, qb2⟩ := HVb.out.cells
  obtain ⟨qc0, qc1, qc2⟩ := HVc.out.cells
  go_wp2_with fail
  refine (Union_ok HQ.out HR.out _ _ _ Hb.out Hc.out HDe.out).mono ?_
  rintro r wk12 ⟨f1, f2, f3, f4, f5, f6, f7, f8, f9, rfl, e, x1⟩
  have Hf := Lib.hid e
  replace HX := Lib.hid (HX.out.trans x1); replace HDe := Lib.hid (HDe.out.ext x1); replace HMk := Lib.hid (HMk.out.ext x1); replace HVa := Lib.hid (HVa.out.ext x1); replace Ha := Lib.hid (Ha.out.ext x1); replace HVb := Lib.hid (HVb.out.ext x1); replace Hb := Lib.hid (Hb.out.ext x1); replace HVc := Lib.hid (HVc.out.ext x1); replace Hc := Lib.hid (Hc.out.ext x1); replace Hm := Lib.hid (Hm.out.ext x1); replace HVm := Lib.hid (HVm.out.ext x1); replace Hn := Lib.hid (Hn.out.ext x1); replace HVn := Lib.hid (HVn.out.ext x1); replace Ho := Lib.hid (Ho.out.ext x1); replace HVo := Lib.hid (HVo.out.ext x1); replace Ht := Lib.hid (Ht.out.ext x1); replace HVt := Lib.hid (HVt.out.ext x1)
  clear x1 e qb0 qb1 qb2 qc0 qc1 qc2
  go_upto_region 11 with fail
  obtain ⟨Wk12, hWk⟩ : ∃ Wk, Wk = wk12.alloc (.cells #[.slice f1 f2 f3, .slice f4 f5 f6, .slice f7 f8 f9] 25) := ⟨_, rfl⟩
  have x1 : Ext wk12 Wk12 := by rw [hWk]; exact (Ext.refl _).alloc _
  have HVf : Hid (Var3 25 Wk12 wk12.heap.size (.slice f1 f2 f3) (.slice f4 f5 f6) (.slice f7 f8 f9)) := by rw [hWk]; exact Var3.new _ _ _ _ _
  rw [← hWk]
  replace HX := Lib.hid (HX.out.trans x1); replace HDe := Lib.hid (HDe.out.ext x1); replace HMk := Lib.hid (HMk.out.ext x1); replace HVa := Lib.hid (HVa.out.ext x1); replace Ha := Lib.hid (Ha.out.ext x1); replace HVb := Lib.hid (HVb.out.ext x1); replace Hb := Lib.hid (Hb.out.ext x1); replace HVc := Lib.hid (HVc.out.ext x1); replace Hc := Lib.hid (Hc.out.ext x1); replace Hm := Lib.hid (Hm.out.ext x1); replace HVm := Lib.hid (HVm.out.ext x1); replace Hn := Lib.hid (Hn.out.ext x1); replace HVn := Lib.hid (HVn.out.ext x1); replace Ho := Lib.hid (Ho.out.ext x1); replace HVo := Lib.hid (HVo.out.ext x1); replace Ht := Lib.hid (Ht.out.ext x1); replace HVt := Lib.hid (HVt.out.ext x1); replace Hf := Lib.hid (Hf.out.ext x1)
  clear x1 hWk
  generalize wk12.heap.size = bf at *
  obtain ⟨qa0, qa1, qa2⟩ := HVa.out.cells
  obtain ⟨qf0, qf1, qf2⟩ := HVf.out.cells
  go_wp2_with fail
  refine (Compose_ok HP.out (uni_valid HQ.out HR.out) _ _ _ Ha.out Hf.out HDe.out).mono ?_
  rintro r wk13 ⟨g1, g2, g3, g4, g5, g6, g7, g8, g9, rfl, e, x1⟩
  have Hg := Lib.hid e
  replace HX := Lib.hid (HX.out.trans x1); replace HDe := Lib.hid (HDe.out.ext x1); replace HMk := Lib.hid (HMk.out.ext x1); replace HVa := Lib.hid (HVa.out.ext x1); replace Ha := Lib.hid (Ha.out.ext x1); replace HVb := Lib.hid (HVb.out.ext x1); replace Hb := Lib.hid (Hb.out.ext x1); replace HVc := Lib.hid (HVc.out.ext x1); replace Hc := Lib.hid (Hc.out.ext x1); replace Hm := Lib.hid (Hm.out.ext x1); replace HVm := Lib.hid (HVm.out.ext x1); replace Hn := Lib.hid (Hn.out.ext x1); replace HVn := Lib.hid (HVn.out.ext x1); replace Ho := Lib.hid (Ho.out.ext x1); replace HVo := Lib.hid (HVo.out.ext x1); replace Ht := Lib.hid (Ht.out.ext x1); replace HVt := Lib.hid (HVt.out.ext x1); replace Hf := Lib.hid (Hf.out.ext x1); replace HVf := Lib.hid (HVf.out.ext x1)
  clear x1 e qa0 qa1 qa2 qf0 qf1 qf2
  go_upto_region 12 with fail
  obtain ⟨Wk13, hWk⟩ : ∃ Wk, Wk = wk13.alloc (.cells #[.slice g1 g2 g3, .slice g4 g5 g6, .slice g7 g8 g9] 25) := ⟨_, rfl⟩
  have x1 : Ext wk13 Wk13 := by rw [hWk]; exact (Ext.refl _).alloc _
  have HVg : Hid (Var3 25 Wk13 wk13.heap.size (.slice g1 g2 g3) (.slice g4 g5 g6) (.slice g7 g8 g9)) := by rw [hWk]; exact Var3.new _ _ _ _ _
  rw [← hWk]
  replace HX := Lib.hid (HX.out.trans x1); replace HDe := Lib.hid (HDe.out.ext x1); replace HMk := Lib.hid (HMk.out.ext x1); replace HVa := Lib.hid (HVa.out.ext x1); replace Ha := Lib.hid (Ha.out.ext x1); replace HVb := Lib.hid (HVb.out.ext x1); replace Hb := Lib.hid (Hb.out.ext x1); replace HVc := Lib.hid (HVc.out.ext x1); replace Hc := Lib.hid (Hc.out.ext x1); replace Hm := Lib.hid (Hm.out.ext x1); replace HVm := Lib.hid (HVm.out.ext x1); replace Hn := Lib.hid (Hn.out.ext x1); replace HVn := Lib.hid (HVn.out.ext x1); replace Ho := Lib.hid (Ho.out.ext x1); replace HVo := Lib.hid (HVo.out.ext x1); replace Ht := Lib.hid (Ht.out.ext x1); replace HVt := Lib.hid (HVt.out.ext x1); replace Hf := Lib.hid (Hf.out.ext x1); replace HVf := Lib.hid (HVf.out.ext x1); replace Hg := Lib.hid (Hg.out.ext x1)
  clear x1 hWk
  generalize wk13.heap.size = bg at *
  obtain ⟨qa0, qa1, qa2⟩ := HVa.out.cells
  obtain ⟨qc0, qc1, qc2⟩ := HVc.out.cells
  go_wp2_with fail
  refine (Compose_ok HP.out HR.out _ _ _ Ha.out Hc.out HDe.out).mono ?_
  rintro r wk14 ⟨i1, i2, i3, i4, i5, i6, i7, i8, i9, rfl, e, x1⟩
  have Hi := Lib.hid e
  replace HX := Lib.hid (HX.out.trans x1); replace HDe := Lib.hid (HDe.out.ext x1); replace HMk := Lib.hid (HMk.out.ext x1); replace HVa := Lib.hid (HVa.out.ext x1); replace Ha := Lib.hid (Ha.out.ext x1); replace HVb := Lib.hid (HVb.out.ext x1); replace Hb := Lib.hid (Hb.out.ext x1); replace HVc := Lib.hid (HVc.out.ext x1); replace Hc := Lib.hid (Hc.out.ext x1); replace Hm := Lib.hid (Hm.out.ext x1); replace HVm := Lib.hid (HVm.out.ext x1); replace Hn := Lib.hid (Hn.out.ext x1); replace HVn := Lib.hid (HVn.out.ext x1); replace Ho := Lib.hid (Ho.out.ext x1); replace HVo := Lib.hid (HVo.out.ext x1); replace Ht := Lib.hid (Ht.out.ext x1); replace HVt := Lib.hid (HVt.out.ext x1); replace Hf := Lib.hid (Hf.out.ext x1); replace HVf := Lib.hid (HVf.out.ext x1); replace Hg := Lib.hid (Hg.out.ext x1); replace HVg := Lib.hid (HVg.out.ext x1)
  clear x1 e qa0 qa1 qa2 qc0 qc1 qc2
  go_upto_region 13 with fail
  obtain ⟨Wk14, hWk⟩ : ∃ Wk, Wk = wk14.alloc (.cells #[.slice i1 i2 i3, .slice i4 i5 i6, .slice i7 i8 i9] 25) := ⟨_, rfl⟩
  have x1 : Ext wk14 Wk14 := by rw [hWk]; exact (Ext.refl _).alloc _
  have HVi : Hid (Var3 25 Wk14 wk14.heap.size (.slice i1 i2 i3) (.slice i4 i5 i6) (.slice i7 i8 i9)) := by rw [hWk]; exact Var3.new _ _ _ _ _
  rw [← hWk]
  replace HX := Lib.hid (HX.out.trans x1); replace HDe := Lib.hid (HDe.out.ext x1); replace HMk := Lib.hid (HMk.out.ext x1); replace HVa := Lib.hid (HVa.out.ext x1); replace Ha := Lib.hid (Ha.out.ext x1); replace HVb := Lib.hid (HVb.out.ext x1); replace Hb := Lib.hid (Hb.out.ext x1); replace HVc := Lib.hid (HVc.out.ext x1); replace Hc := Lib.hid (Hc.out.ext x1); replace Hm := Lib.hid (Hm.out.ext x1); replace HVm := Lib.hid (HVm.out.ext x1); replace Hn := Lib.hid (Hn.out.ext x1); replace HVn := Lib.hid (HVn.out.ext x1); replace Ho := Lib.hid (Ho.out.ext x1); replace HVo := Lib.hid (HVo.out.ext x1); replace Ht := Lib.hid (Ht.out.ext x1); replace HVt := Lib.hid (HVt.out.ext x1); replace Hf := Lib.hid (Hf.out.ext x1); replace HVf := Lib.hid (HVf.out.ext x1); replace Hg := Lib.hid (Hg.out.ext x1); replace HVg := Lib.hid (HVg.out.ext x1); replace Hi := Lib.hid (Hi.out.ext x1)
  clear x1 hWk
  generalize wk14.heap.size = bi at *
  obtain ⟨qm0, qm1, qm2⟩ := HVm.out.cells
  obtain ⟨qi0, qi1, qi2⟩ := HVi.out.cells
  go_wp2_with fail
  refine (Union_ok (cmp_valid HP.out HQ.out) (cmp_valid HP.out HR.out) _ _ _ Hm.out Hi.out HDe.out).mono ?_
  rintro r wk15 ⟨j1, j2, j3, j4, j5, j6, j7, j8, j9, rfl, e, x1⟩
  have Hj := Lib.hid e
  replace HX := Lib.hid (HX.out.trans x1); replace HDe := Lib.hid (HDe.out.ext x1); replace HMk := Lib.hid (HMk.out.ext x1); replace HVa := Lib.hid (HVa.out.ext x1); replace Ha := Lib.hid (Ha.out.ext x1); replace HVb := Lib.hid (HVb.out.ext x1); replace Hb := Lib.hid (Hb.out.ext x1); replace HVc := Lib.hid (HVc.out.ext x1); replace Hc := Lib.hid (Hc.out.ext x1); replace Hm := Lib.hid (Hm.out.ext x1); replace HVm := Lib.hid (HVm.out.ext x1); replace Hn := Lib.hid (Hn.out.ext x1); replace HVn := Lib.hid (HVn.out.ext x1); replace Ho := Lib.hid (Ho.out.ext x1); replace HVo := Lib.hid (HVo.out.ext x1); replace Ht := Lib.hid (Ht.out.ext x1); replace HVt := Lib.hid (HVt.out.ext x1); replace Hf := Lib.hid (Hf.out.ext x1); replace HVf := Lib.hid (HVf.out.ext x1); replace Hg := Lib.hid (Hg.out.ext x1); replace HVg := Lib.hid (HVg.out.ext x1); replace Hi := Lib.hid (Hi.out.ext x1); replace HVi := Lib.hid (HVi.out.ext x1)
  clear x1 e qm0 qm1 qm2 qi0 qi1 qi2
  go_upto_region 14 with fail
  obtain ⟨Wk15, hWk⟩ : ∃ Wk, Wk = wk15.alloc (.cells #[.slice j1 j2 j3, .slice j4 j5 j6, .slice j7 j8 j9] 25) := ⟨_, rfl⟩
  have x1 : Ext wk15 Wk15 := by rw [hWk]; exact (Ext.refl _).alloc _
  have HVj : Hid (Var3 25 Wk15 wk15.heap.size (.slice j1 j2 j3) (.slice j4 j5 j6) (.slice j7 j8 j9)) := by rw [hWk]; exact Var3.new _ _ _ _ _
  rw [← hWk]
  replace HX := Lib.hid (HX.out.trans x1); replace HDe := Lib.hid (HDe.out.ext x1); replace HMk := Lib.hid (HMk.out.ext x1); replace HVa := Lib.hid (HVa.out.ext x1); replace Ha := Lib.hid (Ha.out.ext x1); replace HVb := Lib.hid (HVb.out.ext x1); replace Hb := Lib.hid (Hb.out.ext x1); replace HVc := Lib.hid (HVc.out.ext x1); replace Hc := Lib.hid (Hc.out.ext x1); replace Hm := Lib.hid (Hm.out.ext x1); replace HVm := Lib.hid (HVm.out.ext x1); replace Hn := Lib.hid (Hn.out.ext x1); replace HVn := Lib.hid (HVn.out.ext x1); replace Ho := Lib.hid (Ho.out.ext x1); replace HVo := Lib.hid (HVo.out.ext x1); replace Ht := Lib.hid (Ht.out.ext x1); replace HVt := Lib.hid (HVt.out.ext x1); replace Hf := Lib.hid (Hf.out.ext x1); replace HVf := Lib.hid (HVf.out.ext x1); replace Hg := Lib.hid (Hg.out.ext x1); replace HVg := Lib.hid (HVg.out.ext x1); replace Hi := Lib.hid (Hi.out.ext x1); replace HVi := Lib.hid (HVi.out.ext x1); replace Hj := Lib.hid (Hj.out.ext x1)
  clear x1 hWk
  generalize wk15.heap.size = bj at *
  obtain ⟨qg0, qg1, qg2⟩ := HVg.out.cells
  obtain ⟨qj0, qj1, qj2⟩ := HVj.out.cells
  go_wp2_with fail
  refine (RSame15_any _ _ (castP (cmpP p (uniP q y))) _ _ (castP (uniP (cmpP p q) (cmpP p y))) _ _ _ Hg.out Hj.out).mono ?_
  rintro r wk16 ⟨rfl, x1⟩
  rw [HL2.out]
  replace HX := Lib.hid (HX.out.trans x1); replace HDe := Lib.hid (HDe.out.ext x1); replace HMk := Lib.hid (HMk.out.ext x1); replace HVa := Lib.hid (HVa.out.ext x1); replace Ha := Lib.hid (Ha.out.ext x1); replace HVb := Lib.hid (HVb.out.ext x1); replace Hb := Lib.hid (Hb.out.ext x1); replace HVc := Lib.hid (HVc.out.ext x1); replace Hc := Lib.hid (Hc.out.ext x1); replace Hm := Lib.hid (Hm.out.ext x1); replace HVm := Lib.hid (HVm.out.ext x1); replace Hn := Lib.hid (Hn.out.ext x1); replace HVn := Lib.hid (HVn.out.ext x1); replace Ho := Lib.hid (Ho.out.ext x1); replace HVo := Lib.hid (HVo.out.ext x1); replace Ht := Lib.hid (Ht.out.ext x1); replace HVt := Lib.hid (HVt.out.ext x1); replace Hf := Lib.hid (Hf.out.ext x1); replace HVf := Lib.hid (HVf.out.ext x1); replace Hg := Lib.hid (Hg.out.ext x1); replace HVg := Lib.hid (HVg.out.ext x1); replace Hi := Lib.hid (Hi.out.ext x1); replace HVi := Lib.hid (HVi.out.ext x1); replace Hj := Lib.hid (Hj.out.ext x1); replace HVj := Lib.hid (HVj.out.ext x1)
  clear x1 qg0 qg1 qg2 qj0 qj1 qj2
  clear Hb HVb Hc HVc Hm HVm Hn HVn Ho HVo Ht HVt Hf HVf Hg HVg Hi HVi Hj HVj HL1 HL2 HQ HR
  go_wp2_with fail
  go_loopw [20, 21] (fun v iv wr => ∃ k : Nat, k ≤ 32 ∧ iv = .int .i64 k ∧ OwnCells wr wk16.heap.size v (List.replicate k (mkCell 1)) ∧ Ext wk16 wr) (fun _ iv _ => 32 - (intOf iv).toNat)
  case atStart => exact ⟨0, Nat.zero_le _, rfl, OwnCells.empty _ _ (Nat.le_refl _), (Ext.refl _).alloc _⟩
  case round =>
    obtain ⟨kk, hk, rfl, hO, x1⟩ := hrel
    have HO := Lib.hid hO; have HXr := Lib.hid x1
    clear hO x1
    generalize wr = wx at *
    by_cases hlt : kk < 32
    · have hti : (kk : Int) < 32 := by omega
      go_wp2_with (at_builtin; refine wpList_append_cell (W0 := wk16) rfl (.tmp 146) (.tmp 148) rfl _ (List.replicate kk (mkCell 1)) (mkCell 1) rfl HO.out HXr.out rfl (by simp; omega) ?_; intro v' w1 ho hx; have HO1 := Lib.hid ho; have HX1 := Lib.hid hx; clear ho hx)
      exact ⟨⟨kk + 1, by omega, by go_num, by rw [List.replicate_succ']; exact HO1.out, HX1.out⟩, by simp [intOf]; omega⟩
    · have hti : decide ((kk : Int) < 32) = false := decide_eq_false (by omega)
      rw [show kk = 32 by omega, ← cellsTo_zero cs ws] at HO
      clear hk hlt
      obtain ⟨g, cap, rfl, hg⟩ := HO.out.shape' (cellsTo_len cs ws 0) (by omega)
      have HG := Lib.hid hg
      have hsh := (small_sum HP.out.small).1
      obtain ⟨hlen, hinc, hbd⟩ := shape_iff.1 hsh
      have HLEN := Lib.hid hlen; have HBD := Lib.hid hbd
      have hl32 := shape_len hsh
      have HA2 := Lib.hid (relv_a2 Ha.out)
      clear hg hsh hlen hbd hinc
      have ha2 : a2 ≤ 32 := by have := HA2.out; omega
      go_wp2_with fail
      go_loopw [22] (fun iv wr => ∃ k : Nat, k ≤ a2 ∧ iv = .int .i64 k ∧ OwnCells wr wk16.heap.size (.slice (some ⟨g, 0, none⟩) 32 cap) (cellsTo cs ws k) ∧ Ext wk16 wr) (fun iv _ => a2 - (intOf iv).toNat)
      case atStart => exact ⟨0, Nat.zero_le _, rfl, HO.out, HXr.out⟩
      case round =>
        clear HO HXr
        obtain ⟨k, hk, rfl, hO, x1⟩ := hrel
        have HO := Lib.hid hO; have HXr := Lib.hid x1
        replace HX := Lib.hid (HX.out.trans x1); replace HDe := Lib.hid (HDe.out.ext x1); replace HMk := Lib.hid (HMk.out.ext x1); replace HVa := Lib.hid (HVa.out.ext x1); replace Ha := Lib.hid (Ha.out.ext x1)
        clear hO x1
        generalize wr = wx at *
        obtain ⟨qa0, qa1, qa2⟩ := HVa.out.cells
        by_cases hlt : k < a2
        · have hlc : k < cs.length := by have := HA2.out; omega
          have hlw : k < ws.length := by have := HLEN.out; omega
          have hti : (k : Int) < (a2 : Int) := by omega
          obtain ⟨b1, o1, rfl, e1⟩ := ints_cell (relv_cs Ha.out) hlc
          obtain ⟨b2, o2, rfl, e2⟩ := ints_cell (relv_ws Ha.out) hlw
          have ha5 : (k : Int) < (a5 : Int) := by have := relv_a5 Ha.out; omega
          have hb := HBD.out k hlc
          obtain ⟨n, hn⟩ : ∃ n : Nat, cs[k] = (n : Int) := ⟨cs[k].toNat, by have : cs.getD k 0 = cs[k] := by { simp [List.getD, hlc] }; omega⟩
          have hn32 : n < 32 := by have : cs.getD k 0 = cs[k] := by { simp [List.getD, hlc] }
                                   omega
          have hset : (cellsTo cs ws k).set n { (cellsTo cs ws k)[n]'(by rw [cellsTo_len]; exact hn32) with W := ws[k] } = cellsTo cs ws (k + 1) := by
            have := cellsTo_succ (ws := ws) HLEN.out hlc (by rw [cellsTo_len, hn]; exact hn32)
            simpa only [hn, Int.toNat_natCast] using this
          have HSET := Lib.hid hset
          rw [hn] at e1
          obtain ⟨⟨z, f0⟩, f1⟩ := HO.out.at' (cellsTo_len cs ws k) hn32
          have HO1 := Lib.hid (HO.out.setW' (cellsTo_len cs ws k) (i := n) (by rw [cellsTo_len]; exact hn32) HSET.out)
          have HX1 := Lib.hid (HXr.out.setCell (p := ⟨g, n * 6 + 1, none⟩) HG.out (.int .i64 ws[k]))
          have n0 : (0 : Int) ≤ (n : Int) := by omega
          have n1 : (n : Int) < 32 := by omega
          have k0 : (0 : Int) ≤ (k : Int) := by omega
          clear hb hn hset HSET
          generalize ws[k] = y2 at *
          go_upto_region 24 with fail
          go_still_tail 13, (by kernel_rfl)
          go_wp2_with fail
          exact ⟨⟨k + 1, by omega, by go_num, HO1.out, HX1.out.drew⟩, by simp [intOf]; omega⟩
        · have hti : decide ((k : Int) < (a2 : Int)) = false := decide_eq_false (by omega)
          obtain rfl : k = a2 := by omega
          rw [HA2.out] at HO
          go_wp2_with fail
          refine (mon_identity HP.out _ _ _ HO.out.cells (relv_cs Ha.out) HMk.out HDe.out).mono ?_
          rintro r wk17 ⟨d1, d2, d3, d4, d5, d6, d7, d8, d9, rfl, e, x1⟩
          have Hd := Lib.hid e
          replace HX := Lib.hid (HX.out.trans x1); replace HDe := Lib.hid (HDe.out.ext x1); replace HMk := Lib.hid (HMk.out.ext x1); replace HVa := Lib.hid (HVa.out.ext x1); replace Ha := Lib.hid (Ha.out.ext x1)
          clear x1 e qa0 qa1 qa2
          go_upto_region 26 with fail
          obtain ⟨Wk17, hWk⟩ : ∃ Wk, Wk = wk17.alloc (.cells #[.slice d1 d2 d3, .slice d4 d5 d6, .slice d7 d8 d9] 25) := ⟨_, rfl⟩
          have x1 : Ext wk17 Wk17 := by rw [hWk]; exact (Ext.refl _).alloc _
          have HVd : Hid (Var3 25 Wk17 wk17.heap.size (.slice d1 d2 d3) (.slice d4 d5 d6) (.slice d7 d8 d9)) := by rw [hWk]; exact Var3.new _ _ _ _ _
          rw [← hWk]
          replace HX := Lib.hid (HX.out.trans x1); replace HDe := Lib.hid (HDe.out.ext x1); replace HMk := Lib.hid (HMk.out.ext x1); replace HVa := Lib.hid (HVa.out.ext x1); replace Ha := Lib.hid (Ha.out.ext x1); replace Hd := Lib.hid (Hd.out.ext x1)
          clear x1 hWk
          generalize wk17.heap.size = bd at *
          obtain ⟨qd0, qd1, qd2⟩ := HVd.out.cells
          obtain ⟨qa0, qa1, qa2⟩ := HVa.out.cells
          go_wp2_with fail
          refine (Compose_ok (id_valid HP.out) HP.out _ _ _ Hd.out Ha.out HDe.out).mono ?_
          rintro r wk18 ⟨s1, s2, s3, s4, s5, s6, s7, s8, s9, rfl, e, x1⟩
          have Hs := Lib.hid e
          replace HX := Lib.hid (HX.out.trans x1); replace HDe := Lib.hid (HDe.out.ext x1); replace HMk := Lib.hid (HMk.out.ext x1); replace HVa := Lib.hid (HVa.out.ext x1); replace Ha := Lib.hid (Ha.out.ext x1); replace Hd := Lib.hid (Hd.out.ext x1); replace HVd := Lib.hid (HVd.out.ext x1)
          clear x1 e qd0 qd1 qd2 qa0 qa1 qa2
          go_upto_region 27 with fail
          obtain ⟨Wk18, hWk⟩ : ∃ Wk, Wk = wk18.alloc (.cells #[.slice s1 s2 s3, .slice s4 s5 s6, .slice s7 s8 s9] 25) := ⟨_, rfl⟩
          have x1 : Ext wk18 Wk18 := by rw [hWk]; exact (Ext.refl _).alloc _
          have HVs : Hid (Var3 25 Wk18 wk18.heap.size (.slice s1 s2 s3) (.slice s4 s5 s6) (.slice s7 s8 s9)) := by rw [hWk]; exact Var3.new _ _ _ _ _
          rw [← hWk]
          replace HX := Lib.hid (HX.out.trans x1); replace HDe := Lib.hid (HDe.out.ext x1); replace HMk := Lib.hid (HMk.out.ext x1); replace HVa := Lib.hid (HVa.out.ext x1); replace Ha := Lib.hid (Ha.out.ext x1); replace Hd := Lib.hid (Hd.out.ext x1); replace HVd := Lib.hid (HVd.out.ext x1); replace Hs := Lib.hid (Hs.out.ext x1)
          clear x1 hWk
          generalize wk18.heap.size = bs at *
          obtain ⟨qa0, qa1, qa2⟩ := HVa.out.cells
          obtain ⟨qd0, qd1, qd2⟩ := HVd.out.cells
          go_wp2_with fail
          refine (Compose_ok HP.out (id_valid HP.out) _ _ _ Ha.out Hd.out HDe.out).mono ?_
          rintro r wk19 ⟨v1, v2, v3, v4, v5, v6, v7, v8, v9, rfl, e, x1⟩
          have Hv := Lib.hid e
          replace HX := Lib.hid (HX.out.trans x1); replace HDe := Lib.hid (HDe.out.ext x1); replace HMk := Lib.hid (HMk.out.ext x1); replace HVa := Lib.hid (HVa.out.ext x1); replace Ha := Lib.hid (Ha.out.ext x1); replace Hd := Lib.hid (Hd.out.ext x1); replace HVd := Lib.hid (HVd.out.ext x1); replace Hs := Lib.hid (Hs.out.ext x1); replace HVs := Lib.hid (HVs.out.ext x1)
          clear x1 e qa0 qa1 qa2 qd0 qd1 qd2
          go_upto_region 28 with fail
          obtain ⟨Wk19, hWk⟩ : ∃ Wk, Wk = wk19.alloc (.cells #[.slice v1 v2 v3, .slice v4 v5 v6, .slice v7 v8 v9] 25) := ⟨_, rfl⟩
          have x1 : Ext wk19 Wk19 := by rw [hWk]; exact (Ext.refl _).alloc _
          have HVv : Hid (Var3 25 Wk19 wk19.heap.size (.slice v1 v2 v3) (.slice v4 v5 v6) (.slice v7 v8 v9)) := by rw [hWk]; exact Var3.new _ _ _ _ _
          rw [← hWk]
          replace HX := Lib.hid (HX.out.trans x1); replace HDe := Lib.hid (HDe.out.ext x1); replace HMk := Lib.hid (HMk.out.ext x1); replace HVa := Lib.hid (HVa.out.ext x1); replace Ha := Lib.hid (Ha.out.ext x1); replace Hd := Lib.hid (Hd.out.ext x1); replace HVd := Lib.hid (HVd.out.ext x1); replace Hs := Lib.hid (Hs.out.ext x1); replace HVs := Lib.hid (HVs.out.ext x1); replace Hv := Lib.hid (Hv.out.ext x1)
          clear x1 hWk
          generalize wk19.heap.size = bv at *
          obtain ⟨qs0, qs1, qs2⟩ := HVs.out.cells
          obtain ⟨qa0, qa1, qa2⟩ := HVa.out.cells
          go_wp2_with fail
          refine (RSame15_any _ _ (castP (cmpP (idP (nn ws)) p)) _ _ (castP p) _ _ _ Hs.out Ha.out).mono ?_
          rintro r wk20 ⟨rfl, x1⟩
          rw [HL3.out]
          replace HX := Lib.hid (HX.out.trans x1); replace HDe := Lib.hid (HDe.out.ext x1); replace HMk := Lib.hid (HMk.out.ext x1); replace HVa := Lib.hid (HVa.out.ext x1); replace Ha := Lib.hid (Ha.out.ext x1); replace Hd := Lib.hid (Hd.out.ext x1); replace HVd := Lib.hid (HVd.out.ext x1); replace Hs := Lib.hid (Hs.out.ext x1); replace HVs := Lib.hid (HVs.out.ext x1); replace Hv := Lib.hid (Hv.out.ext x1); replace HVv := Lib.hid (HVv.out.ext x1)
          clear x1 qs0 qs1 qs2 qa0 qa1 qa2
          obtain ⟨qv0, qv1, qv2⟩ := HVv.out.cells
          obtain ⟨qa0, qa1, qa2⟩ := HVa.out.cells
          go_wp2_with fail
          refine (RSame15_any _ _ (castP (cmpP p (idP (nn ws)))) _ _ (castP p) _ _ _ Hv.out Ha.out).mono ?_
          rintro r wk21 ⟨rfl, x1⟩
          rw [HL4.out]
          replace HX := Lib.hid (HX.out.trans x1); replace HDe := Lib.hid (HDe.out.ext x1); replace HMk := Lib.hid (HMk.out.ext x1); replace HVa := Lib.hid (HVa.out.ext x1); replace Ha := Lib.hid (Ha.out.ext x1); replace Hd := Lib.hid (Hd.out.ext x1); replace HVd := Lib.hid (HVd.out.ext x1); replace Hs := Lib.hid (Hs.out.ext x1); replace HVs := Lib.hid (HVs.out.ext x1); replace Hv := Lib.hid (Hv.out.ext x1); replace HVv := Lib.hid (HVv.out.ext x1)
          clear x1 qv0 qv1 qv2 qa0 qa1 qa2
          go_wp2_with fail
          exact bodyPost_ret (v := .bool true) (by simp [results, Tryd.results5, go_sem]) rfl ⟨rfl, HX.out⟩
end Go.Proofs.YtlnahhlddekhoaaDoor
