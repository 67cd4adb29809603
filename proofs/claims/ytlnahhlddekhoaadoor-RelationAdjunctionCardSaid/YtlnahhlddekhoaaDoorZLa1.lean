/-
  The walk of RelationAdjunction. Printed by gen_law15.py.
-/
import Derived.Test.YtlnahhlddekhoaaDoorMLw
namespace Go.Proofs.YtlnahhlddekhoaaDoor
open Go.RowKit

set_option maxRecDepth 100000 in
set_option maxHeartbeats 16000000 in
theorem RelationAdjunction_any (cs ws : List Int) (P : List (Int × Int)) (cs2 ws2 js cs3 ws3 ks : List Int) (va vs vt : Value) (w : World) (ha : RelV w va cs ws P) (hs : SetV w vs cs2 ws2 js) (ht : SetV w vt cs3 ws3 ks) (hM : Masks w) (hT : DeB w) :
    Calls Tryd.prog 3 #[va, vs, vt] w fun r w' => r = .returned (.bool true) ∧ Ext w w' := by
  obtain ⟨a1, a2, a3, a4, a5, a6, a7, a8, a9, rfl⟩ := ha.shape'
  obtain ⟨s1, s2, s3, s4, s5, s6, s7, s8, s9, rfl⟩ := hs.shape'
  obtain ⟨t1, t2, t3, t4, t5, t6, t7, t8, t9, rfl⟩ := ht.shape'
  obtain ⟨W, hW⟩ : ∃ W, Boxes3 w W (.cells #[.slice a1 a2 a3, .slice a4 a5 a6, .slice a7 a8 a9] 25) (.cells #[.slice s1 s2 s3, .slice s4 s5 s6, .slice s7 s8 s9] 27) (.cells #[.slice t1 t2 t3, .slice t4 t5 t6, .slice t7 t8 t9] 27) := ⟨_, Boxes3.mk' _ _ _ _⟩
  have hx := hW.ext
  have HVa : Hid (Var3 25 W w.heap.size (.slice a1 a2 a3) (.slice a4 a5 a6) (.slice a7 a8 a9)) := hW.b0
  have Ha := Lib.hid (ha.ext hx)
  have HVs : Hid (Var3 27 W (w.heap.size + 1) (.slice s1 s2 s3) (.slice s4 s5 s6) (.slice s7 s8 s9)) := hW.b1
  have Hs := Lib.hid (hs.ext hx)
  have HVt : Hid (Var3 27 W (w.heap.size + 2) (.slice t1 t2 t3) (.slice t4 t5 t6) (.slice t7 t8 t9)) := hW.b2
  have Ht := Lib.hid (ht.ext hx)
  have HX := Lib.hid hx; have HDe := Lib.hid (hT.ext hx); have HMk := Lib.hid (hM.ext hx); have HW := Lib.hid hW.eq
  clear hW hx hT hM ha hs ht
  go_enter Tryd.func3, Tryd.ntmps3
  go_upto_region 1 with fail
  rw [← HW.out]
  clear HW
  generalize w.heap.size + 2 = bt at *
  generalize w.heap.size + 1 = bs at *
  generalize w.heap.size = ba at *
  go_wp2_with fail
  refine (head_any W HDe.out HMk.out).mono ?_
  rintro r wk1 ⟨rfl, x1⟩
  replace HX := Lib.hid (HX.out.trans x1); replace HDe := Lib.hid (HDe.out.ext x1); replace HMk := Lib.hid (HMk.out.ext x1); replace HVa := Lib.hid (HVa.out.ext x1); replace Ha := Lib.hid (Ha.out.ext x1); replace HVs := Lib.hid (HVs.out.ext x1); replace Hs := Lib.hid (Hs.out.ext x1); replace HVt := Lib.hid (HVt.out.ext x1); replace Ht := Lib.hid (Ht.out.ext x1)
  clear x1
  obtain ⟨qa0, qa1, qa2⟩ := HVa.out.cells
  go_wp2_with fail
  refine (Light_any cs ws P _ _ Ha.out).mono ?_
  rintro r wk2 ⟨rfl, x1⟩
  replace HX := Lib.hid (HX.out.trans x1); replace HDe := Lib.hid (HDe.out.ext x1); replace HMk := Lib.hid (HMk.out.ext x1); replace HVa := Lib.hid (HVa.out.ext x1); replace Ha := Lib.hid (Ha.out.ext x1); replace HVs := Lib.hid (HVs.out.ext x1); replace Hs := Lib.hid (Hs.out.ext x1); replace HVt := Lib.hid (HVt.out.ext x1); replace Ht := Lib.hid (Ht.out.ext x1)
  clear x1 qa0 qa1 qa2
  cases h1 : lightB cs ws P with
  | false =>
    clear h1
    go_wp2_with fail
    exact bodyPost_ret (v := .bool true) (by simp [results, Tryd.results3, go_sem]) rfl ⟨rfl, HX.out⟩
  | true =>
  have HL := Lib.hid h1; clear h1
  obtain ⟨p, rfl, hp, h5⟩ := light_parts HL.out
  have HP := Lib.hid hp; clear hp h5 HL
  obtain ⟨qs0, qs1, qs2⟩ := HVs.out.cells
  go_wp2_with fail
  refine (Few_any cs2 ws2 js _ _ Hs.out).mono ?_
  rintro r wk3 ⟨rfl, x1⟩
  replace HX := Lib.hid (HX.out.trans x1); replace HDe := Lib.hid (HDe.out.ext x1); replace HMk := Lib.hid (HMk.out.ext x1); replace HVa := Lib.hid (HVa.out.ext x1); replace Ha := Lib.hid (Ha.out.ext x1); replace HVs := Lib.hid (HVs.out.ext x1); replace Hs := Lib.hid (Hs.out.ext x1); replace HVt := Lib.hid (HVt.out.ext x1); replace Ht := Lib.hid (Ht.out.ext x1)
  clear x1 qs0 qs1 qs2
  cases h1 : lenB 64 cs2.length ws2.length js.length with
  | false =>
    clear h1
    go_wp2_with fail
    exact bodyPost_ret (v := .bool true) (by simp [results, Tryd.results3, go_sem]) rfl ⟨rfl, HX.out⟩
  | true =>
  have HF1 := Lib.hid h1; clear h1
  clear HF1
  obtain ⟨qt0, qt1, qt2⟩ := HVt.out.cells
  go_wp2_with fail
  refine (Few_any cs3 ws3 ks _ _ Ht.out).mono ?_
  rintro r wk4 ⟨rfl, x1⟩
  replace HX := Lib.hid (HX.out.trans x1); replace HDe := Lib.hid (HDe.out.ext x1); replace HMk := Lib.hid (HMk.out.ext x1); replace HVa := Lib.hid (HVa.out.ext x1); replace Ha := Lib.hid (Ha.out.ext x1); replace HVs := Lib.hid (HVs.out.ext x1); replace Hs := Lib.hid (Hs.out.ext x1); replace HVt := Lib.hid (HVt.out.ext x1); replace Ht := Lib.hid (Ht.out.ext x1)
  clear x1 qt0 qt1 qt2
  cases h1 : lenB 64 cs3.length ws3.length ks.length with
  | false =>
    clear h1
    go_wp2_with fail
    exact bodyPost_ret (v := .bool true) (by simp [results, Tryd.results3, go_sem]) rfl ⟨rfl, HX.out⟩
  | true =>
  have HF1 := Lib.hid h1; clear h1
  clear HF1
  obtain ⟨qa0, qa1, qa2⟩ := HVa.out.cells
  obtain ⟨qs0, qs1, qs2⟩ := HVs.out.cells
  go_wp2_with fail
  refine (RFits_any cs ws (castP p) cs2 ws2 js _ _ _ Ha.out Hs.out).mono ?_
  rintro r wk5 ⟨rfl, x1⟩
  replace HX := Lib.hid (HX.out.trans x1); replace HDe := Lib.hid (HDe.out.ext x1); replace HMk := Lib.hid (HMk.out.ext x1); replace HVa := Lib.hid (HVa.out.ext x1); replace Ha := Lib.hid (Ha.out.ext x1); replace HVs := Lib.hid (HVs.out.ext x1); replace Hs := Lib.hid (Hs.out.ext x1); replace HVt := Lib.hid (HVt.out.ext x1); replace Ht := Lib.hid (Ht.out.ext x1)
  clear x1 qa0 qa1 qa2 qs0 qs1 qs2
  cases h1 : fitsR cs ws (castP p) cs2 ws2 js with
  | false =>
    clear h1
    go_wp2_with fail
    exact bodyPost_ret (v := .bool true) (by simp [results, Tryd.results3, go_sem]) rfl ⟨rfl, HX.out⟩
  | true =>
  have HF1 := Lib.hid h1; clear h1
  obtain ⟨e1, e2, s, e3, hs⟩ := fits_parts HF1.out
  replace e1 := e1.symm; replace e2 := e2.symm
  subst e1 e2 e3
  have HS := Lib.hid hs; clear hs HF1
  obtain ⟨qa0, qa1, qa2⟩ := HVa.out.cells
  obtain ⟨qt0, qt1, qt2⟩ := HVt.out.cells
  go_wp2_with fail
  refine (RFits_any cs ws (castP p) cs3 ws3 ks _ _ _ Ha.out Ht.out).mono ?_
  rintro r wk6 ⟨rfl, x1⟩
  replace HX := Lib.hid (HX.out.trans x1); replace HDe := Lib.hid (HDe.out.ext x1); replace HMk := Lib.hid (HMk.out.ext x1); replace HVa := Lib.hid (HVa.out.ext x1); replace Ha := Lib.hid (Ha.out.ext x1); replace HVs := Lib.hid (HVs.out.ext x1); replace Hs := Lib.hid (Hs.out.ext x1); replace HVt := Lib.hid (HVt.out.ext x1); replace Ht := Lib.hid (Ht.out.ext x1)
  clear x1 qa0 qa1 qa2 qt0 qt1 qt2
  cases h1 : fitsR cs ws (castP p) cs3 ws3 ks with
  | false =>
    clear h1
    go_wp2_with fail
    exact bodyPost_ret (v := .bool true) (by simp [results, Tryd.results3, go_sem]) rfl ⟨rfl, HX.out⟩
  | true =>
  have HF1 := Lib.hid h1; clear h1
  obtain ⟨e1, e2, t, e3, ht⟩ := fits_parts HF1.out
  replace e1 := e1.symm; replace e2 := e2.symm
  subst e1 e2 e3
  have HT := Lib.hid ht; clear ht HF1
  obtain ⟨qs0, qs1, qs2⟩ := HVs.out.cells
  obtain ⟨qt0, qt1, qt2⟩ := HVt.out.cells
  go_wp2_with fail
  refine (Meet_ok HS.out HT.out _ _ _ Hs.out Ht.out HDe.out).mono ?_
  rintro r wk7 ⟨m1, m2, m3, m4, m5, m6, m7, m8, m9, rfl, e, x1⟩
  have Hm := Lib.hid e
  replace HX := Lib.hid (HX.out.trans x1); replace HDe := Lib.hid (HDe.out.ext x1); replace HMk := Lib.hid (HMk.out.ext x1); replace HVa := Lib.hid (HVa.out.ext x1); replace Ha := Lib.hid (Ha.out.ext x1); replace HVs := Lib.hid (HVs.out.ext x1); replace Hs := Lib.hid (Hs.out.ext x1); replace HVt := Lib.hid (HVt.out.ext x1); replace Ht := Lib.hid (Ht.out.ext x1)
  clear x1 e qs0 qs1 qs2 qt0 qt1 qt2
  go_upto_region 5 with fail
  obtain ⟨Wk7, hWk⟩ : ∃ Wk, Wk = wk7.alloc (.cells #[.slice m1 m2 m3, .slice m4 m5 m6, .slice m7 m8 m9] 27) := ⟨_, rfl⟩
  have x1 : Ext wk7 Wk7 := by rw [hWk]; exact (Ext.refl _).alloc _
  have HVm : Hid (Var3 27 Wk7 wk7.heap.size (.slice m1 m2 m3) (.slice m4 m5 m6) (.slice m7 m8 m9)) := by rw [hWk]; exact Var3.new _ _ _ _ _
  rw [← hWk]
  replace HX := Lib.hid (HX.out.trans x1); replace HDe := Lib.hid (HDe.out.ext x1); replace HMk := Lib.hid (HMk.out.ext x1); replace HVa := Lib.hid (HVa.out.ext x1); replace Ha := Lib.hid (Ha.out.ext x1); replace HVs := Lib.hid (HVs.out.ext x1); replace Hs := Lib.hid (Hs.out.ext x1); replace HVt := Lib.hid (HVt.out.ext x1); replace Ht := Lib.hid (Ht.out.ext x1); replace Hm := Lib.hid (Hm.out.ext x1)
  clear x1 hWk
  generalize wk7.heap.size = bm at *
  obtain ⟨qa0, qa1, qa2⟩ := HVa.out.cells
  obtain ⟨qm0, qm1, qm2⟩ := HVm.out.cells
  go_wp2_with fail
  refine (Image_ok HP.out (met_valid HS.out HT.out) _ _ _ Ha.out Hm.out HDe.out).mono ?_
  rintro r wk8 ⟨i1, i2, i3, i4, i5, i6, i7, i8, i9, rfl, e, x1⟩
  have Hi := Lib.hid e
  replace HX := Lib.hid (HX.out.trans x1); replace HDe := Lib.hid (HDe.out.ext x1); replace HMk := Lib.hid (HMk.out.ext x1); replace HVa := Lib.hid (HVa.out.ext x1); replace Ha := Lib.hid (Ha.out.ext x1); replace HVs := Lib.hid (HVs.out.ext x1); replace Hs := Lib.hid (Hs.out.ext x1); replace HVt := Lib.hid (HVt.out.ext x1); replace Ht := Lib.hid (Ht.out.ext x1); replace Hm := Lib.hid (Hm.out.ext x1); replace HVm := Lib.hid (HVm.out.ext x1)
  clear x1 e qa0 qa1 qa2 qm0 qm1 qm2
  go_upto_region 6 with fail
  obtain ⟨Wk8, hWk⟩ : ∃ Wk, Wk = wk8.alloc (.cells #[.slice i1 i2 i3, .slice i4 i5 i6, .slice i7 i8 i9] 27) := ⟨_, rfl⟩
  have x1 : Ext wk8 Wk8 := by rw [hWk]; exact (Ext.refl _).alloc _
  have HVi : Hid (Var3 27 Wk8 wk8.heap.size (.slice i1 i2 i3) (.slice i4 i5 i6) (.slice i7 i8 i9)) := by rw [hWk]; exact Var3.new _ _ _ _ _
  rw [← hWk]
  replace HX := Lib.hid (HX.out.trans x1); replace HDe := Lib.hid (HDe.out.ext x1); replace HMk := Lib.hid (HMk.out.ext x1); replace HVa := Lib.hid (HVa.out.ext x1); replace Ha := Lib.hid (Ha.out.ext x1); replace HVs := Lib.hid (HVs.out.ext x1); replace Hs := Lib.hid (Hs.out.ext x1); replace HVt := Lib.hid (HVt.out.ext x1); replace Ht := Lib.hid (Ht.out.ext x1); replace Hm := Lib.hid (Hm.out.ext x1); replace HVm := Lib.hid (HVm.out.ext x1); replace Hi := Lib.hid (Hi.out.ext x1)
  clear x1 hWk
  generalize wk8.heap.size = bi at *
  obtain ⟨qa0, qa1, qa2⟩ := HVa.out.cells
  obtain ⟨qt0, qt1, qt2⟩ := HVt.out.cells
  go_wp2_with fail
  refine (Inside_ok HP.out HT.out _ _ _ Ha.out Ht.out HDe.out).mono ?_
  rintro r wk9 ⟨j1, j2, j3, j4, j5, j6, j7, j8, j9, rfl, e, x1⟩
  have Hj := Lib.hid e
  replace HX := Lib.hid (HX.out.trans x1); replace HDe := Lib.hid (HDe.out.ext x1); replace HMk := Lib.hid (HMk.out.ext x1); replace HVa := Lib.hid (HVa.out.ext x1); replace Ha := Lib.hid (Ha.out.ext x1); replace HVs := Lib.hid (HVs.out.ext x1); replace Hs := Lib.hid (Hs.out.ext x1); replace HVt := Lib.hid (HVt.out.ext x1); replace Ht := Lib.hid (Ht.out.ext x1); replace Hm := Lib.hid (Hm.out.ext x1); replace HVm := Lib.hid (HVm.out.ext x1); replace Hi := Lib.hid (Hi.out.ext x1); replace HVi := Lib.hid (HVi.out.ext x1)
  clear x1 e qa0 qa1 qa2 qt0 qt1 qt2
  go_upto_region 7 with fail
  obtain ⟨Wk9, hWk⟩ : ∃ Wk, Wk = wk9.alloc (.cells #[.slice j1 j2 j3, .slice j4 j5 j6, .slice j7 j8 j9] 27) := ⟨_, rfl⟩
  have x1 : Ext wk9 Wk9 := by rw [hWk]; exact (Ext.refl _).alloc _
  have HVj : Hid (Var3 27 Wk9 wk9.heap.size (.slice j1 j2 j3) (.slice j4 j5 j6) (.slice j7 j8 j9)) := by rw [hWk]; exact Var3.new _ _ _ _ _
  rw [← hWk]
  replace HX := Lib.hid (HX.out.trans x1); replace HDe := Lib.hid (HDe.out.ext x1); replace HMk := Lib.hid (HMk.out.ext x1); replace HVa := Lib.hid (HVa.out.ext x1); replace Ha := Lib.hid (Ha.out.ext x1); replace HVs := Lib.hid (HVs.out.ext x1); replace Hs := Lib.hid (Hs.out.ext x1); replace HVt := Lib.hid (HVt.out.ext x1); replace Ht := Lib.hid (Ht.out.ext x1); replace Hm := Lib.hid (Hm.out.ext x1); replace HVm := Lib.hid (HVm.out.ext x1); replace Hi := Lib.hid (Hi.out.ext x1); replace HVi := Lib.hid (HVi.out.ext x1); replace Hj := Lib.hid (Hj.out.ext x1)
  clear x1 hWk
  generalize wk9.heap.size = bj at *
  have HL1 := Lib.hid (adj_law HP.out HS.out HT.out).1; have HL2 := Lib.hid (adj_law HP.out HS.out HT.out).2
  obtain ⟨q, hq⟩ : ∃ q, q = withinB (castL (metL s t)) (castL (insL p t)) := ⟨_, rfl⟩
  rw [← hq] at HL2
  have HQ := Lib.hid hq; clear hq
  have HR0 := Lib.hid ((Ext.refl Wk9).drew)
  obtain ⟨zj0, zj1, zj2⟩ := HVj.out.cells
  obtain ⟨zt0, zt1, zt2⟩ := HVt.out.cells
  obtain ⟨zi0, zi1, zi2⟩ := HVi.out.cells
  obtain ⟨zm0, zm1, zm2⟩ := HVm.out.cells
  go_region_held3 (fun w' => (w'.cell? ⟨bj, 0, none⟩ = some (.slice j1 j2 j3) ∧ w'.cell? ⟨bj, 1, none⟩ = some (.slice j4 j5 j6) ∧ w'.cell? ⟨bj, 2, none⟩ = some (.slice j7 j8 j9)) ∧ (w'.cell? ⟨bt, 0, none⟩ = some (.slice t1 t2 t3) ∧ w'.cell? ⟨bt, 1, none⟩ = some (.slice t4 t5 t6) ∧ w'.cell? ⟨bt, 2, none⟩ = some (.slice t7 t8 t9)) ∧ (w'.cell? ⟨bi, 0, none⟩ = some (.slice i1 i2 i3) ∧ w'.cell? ⟨bi, 1, none⟩ = some (.slice i4 i5 i6) ∧ w'.cell? ⟨bi, 2, none⟩ = some (.slice i7 i8 i9)) ∧ (w'.cell? ⟨bm, 0, none⟩ = some (.slice m1 m2 m3) ∧ w'.cell? ⟨bm, 1, none⟩ = some (.slice m4 m5 m6) ∧ w'.cell? ⟨bm, 2, none⟩ = some (.slice m7 m8 m9)))
    (first | (with_reducible exact hk3) | (with_reducible exact hk2) | (with_reducible exact hk1) | exact ⟨⟨zj0, zj1, zj2⟩, ⟨zt0, zt1, zt2⟩, ⟨zi0, zi1, zi2⟩, ⟨zm0, zm1, zm2⟩⟩ | fail)
    ((first
      | (have hgo := HR2.out; clear hgo; go_at_call 16; refine (inside_any _ _ (castL (metL s t)) _ _ (castL (insL p t)) _ _ _ (Hm.out.ext HR2.out) (Hj.out.ext HR2.out)).mono ?_; rintro r wh3 ⟨rfl, x1⟩; rw [← HQ.out]; have HR3 := Lib.hid (HR2.out.trans x1); have hk3 := And.intro (HVj.out.ext HR3.out).cells (And.intro (HVt.out.ext HR3.out).cells (And.intro (HVi.out.ext HR3.out).cells ((HVm.out.ext HR3.out).cells))); clear x1)
      | (have hgo := HR1.out; clear hgo; go_at_call 16; refine (inside_any _ _ (castL (imgL p (metL s t))) _ _ (castL t) _ _ _ (Hi.out.ext HR1.out) (Ht.out.ext HR1.out)).mono ?_; rintro r wh2 ⟨rfl, x1⟩; rw [HL2.out]; have HR2 := Lib.hid (HR1.out.trans x1); have hk2 := And.intro (HVj.out.ext HR2.out).cells (And.intro (HVt.out.ext HR2.out).cells (And.intro (HVi.out.ext HR2.out).cells ((HVm.out.ext HR2.out).cells))); clear x1)
      | (have hgo := HR0.out; clear hgo; go_at_call 16; refine (inside_any _ _ (castL (insL p t)) _ _ (castL t) _ _ _ (Hj.out.ext HR0.out) (Ht.out.ext HR0.out)).mono ?_; rintro r wh1 ⟨rfl, x1⟩; rw [HL1.out]; have HR1 := Lib.hid (HR0.out.trans x1); have hk1 := And.intro (HVj.out.ext HR1.out).cells (And.intro (HVt.out.ext HR1.out).cells (And.intro (HVi.out.ext HR1.out).cells ((HVm.out.ext HR1.out).cells))); clear x1)))
  replace HX := Lib.hid (HX.out.trans HR3.out)
  go_wp2_with fail
  exact bodyPost_ret (v := .bool true) (by simp [results, Tryd.results3, go_sem]) rfl ⟨rfl, HX.out⟩
end Go.Proofs.YtlnahhlddekhoaaDoor
