/-
  The walk of RelationStability. Printed by gen_law15.py.
-/
import Derived.Test.YtlnahhlddekhoaaDoorMLw
namespace Go.Proofs.YtlnahhlddekhoaaDoor
open Go.RowKit

set_option maxRecDepth 100000 in
set_option maxHeartbeats 16000000 in
theorem RelationStability_any (cs ws : List Int) (P : List (Int × Int)) (cs2 ws2 js cs3 ws3 ks : List Int) (va vs vt : Value) (w : World) (ha : RelV w va cs ws P) (hs : SetV w vs cs2 ws2 js) (ht : SetV w vt cs3 ws3 ks) (hM : Masks w) (hT : DeB w) :
    Calls Tryd.prog 4 #[va, vs, vt] w fun r w' => r = .returned (.bool true) ∧ Ext w w' := by
  obtain ⟨a1, a2, a3, a4, a5, a6, a7, a8, a9, rfl⟩ := ha.shape'
  obtain ⟨s1, s2, s3, s4, s5, s6, s7, s8, s9, rfl⟩ := hs.shape'
  obtain ⟨t1, t2, t3, t4, t5, t6, t7, t8, t9, rfl⟩ := ht.shape'
  obtain ⟨W, hW⟩ : ∃ W, Boxes3 w W (.cells #[.slice a1 a2 a3, .slice a4 a5 a6, .slice a7 a8 a9] 25) (.cells #[.slice s1 s2 s3, .slice s4 s5 s6, .slice s7 s8 s9] 27) (.cells #[.slice t1 t2 t3, .slice t4 t5 t6, .slice t7 t8 t9] 27) := ⟨_, Boxes3.mk' _ _ _ _⟩
  have hx := hW.ext
  have HVa : Hid (Var3 25 W w.heap.size (.slice a1 a2 a3) (.slice a4 a5 a6) (.slice a7 a8 a9)) := hW.b0
  have Ha := Lib.hid (ha.ext hx)
  have HVs : Hid (Var3 27 W (w.heap.size + 1) (.slice s1 s2 s3) (.slice s4 s5 s6) (.slice s7 s8 s9)) := hW.b1
  have Hs := Lib.hid (hs.ext hx)
  have HVt : Hid (Var3 27 W (w.heap.size + 2) (.slice t1 t2 t3) (.slice t4 t5 t6) (.slice t7 t8 t9)) := hW.b2
  have Ht := Lib.hid (ht.ext hx)
  have HX := Lib.hid hx; have HDe := Lib.hid (hT.ext hx); have HMk := Lib.hid (hM.ext hx); have HW := Lib.hid hW.eq
  clear hW hx hT hM ha hs ht
  go_enter Tryd.func4, Tryd.ntmps4
  go_upto_region 1 with fail
  rw [← HW.out]
  clear HW
  generalize w.heap.size + 2 = bt at *
  generalize w.heap.size + 1 = bs at *
  generalize w.heap.size = ba at *
  go_wp2_with fail
  refine (head_any W HDe.out HMk.out).mono ?_
  rintro r wk1 ⟨rfl, x1⟩
  replace HX := Lib.hid (HX.out.trans x1); replace HDe := Lib.hid (HDe.out.ext x1); replace HMk := Lib.hid (HMk.out.ext x1); replace HVa := Lib.hid (HVa.out.ext x1); replace Ha := Lib.hid (Ha.out.ext x1); replace HVs := Lib.hid (HVs.out.ext x1); replace Hs := Lib.hid (Hs.out.ext x1); replace HVt := Lib.hid (HVt.out.ext x1); replace Ht := Lib.hid (Ht.out.ext x1)
  clear x1
  obtain ⟨qa0, qa1, qa2⟩ := HVa.out.cells
  go_wp2_with fail
  refine (Light_any cs ws P _ _ Ha.out).mono ?_
  rintro r wk2 ⟨rfl, x1⟩
  replace HX := Lib.hid (HX.out.trans x1); replace HDe := Lib.hid (HDe.out.ext x1); replace HMk := Lib.hid (HMk.out.ext x1); replace HVa := Lib.hid (HVa.out.ext x1); replace Ha := Lib.hid (Ha.out.ext x1); replace HVs := Lib.hid (HVs.out.ext x1); replace Hs := Lib.hid (Hs.out.ext x1); replace HVt := Lib.hid (HVt.out.ext x1); replace Ht := Lib.hid (Ht.out.ext x1)
  clear x1 qa0 qa1 qa2
  cases h1 : lightB cs ws P with
  | false =>
    clear h1
    go_wp2_with fail
    exact bodyPost_ret (v := .bool true) (by simp [results, Tryd.results4, go_sem]) rfl ⟨rfl, HX.out⟩
  | true =>
  have HL := Lib.hid h1; clear h1
  obtain ⟨p, rfl, hp, h5⟩ := light_parts HL.out
  have HP := Lib.hid hp; clear hp h5 HL
  obtain ⟨qs0, qs1, qs2⟩ := HVs.out.cells
  go_wp2_with fail
  refine (Few_any cs2 ws2 js _ _ Hs.out).mono ?_
  rintro r wk3 ⟨rfl, x1⟩
  replace HX := Lib.hid (HX.out.trans x1); replace HDe := Lib.hid (HDe.out.ext x1); replace HMk := Lib.hid (HMk.out.ext x1); replace HVa := Lib.hid (HVa.out.ext x1); replace Ha := Lib.hid (Ha.out.ext x1); replace HVs := Lib.hid (HVs.out.ext x1); replace Hs := Lib.hid (Hs.out.ext x1); replace HVt := Lib.hid (HVt.out.ext x1); replace Ht := Lib.hid (Ht.out.ext x1)
  clear x1 qs0 qs1 qs2
  cases h1 : lenB 64 cs2.length ws2.length js.length with
  | false =>
    clear h1
    go_wp2_with fail
    exact bodyPost_ret (v := .bool true) (by simp [results, Tryd.results4, go_sem]) rfl ⟨rfl, HX.out⟩
  | true =>
  have HF1 := Lib.hid h1; clear h1
  have HF3 := Lib.hid (len_third HF1.out); clear HF1
  obtain ⟨qt0, qt1, qt2⟩ := HVt.out.cells
  go_wp2_with fail
  refine (Few_any cs3 ws3 ks _ _ Ht.out).mono ?_
  rintro r wk4 ⟨rfl, x1⟩
  replace HX := Lib.hid (HX.out.trans x1); replace HDe := Lib.hid (HDe.out.ext x1); replace HMk := Lib.hid (HMk.out.ext x1); replace HVa := Lib.hid (HVa.out.ext x1); replace Ha := Lib.hid (Ha.out.ext x1); replace HVs := Lib.hid (HVs.out.ext x1); replace Hs := Lib.hid (Hs.out.ext x1); replace HVt := Lib.hid (HVt.out.ext x1); replace Ht := Lib.hid (Ht.out.ext x1)
  clear x1 qt0 qt1 qt2
  cases h1 : lenB 64 cs3.length ws3.length ks.length with
  | false =>
    clear h1
    go_wp2_with fail
    exact bodyPost_ret (v := .bool true) (by simp [results, Tryd.results4, go_sem]) rfl ⟨rfl, HX.out⟩
  | true =>
  have HF1 := Lib.hid h1; clear h1
  clear HF1
  obtain ⟨qa0, qa1, qa2⟩ := HVa.out.cells
  obtain ⟨qs0, qs1, qs2⟩ := HVs.out.cells
  go_wp2_with fail
  refine (RFits_any cs ws (castP p) cs2 ws2 js _ _ _ Ha.out Hs.out).mono ?_
  rintro r wk5 ⟨rfl, x1⟩
  replace HX := Lib.hid (HX.out.trans x1); replace HDe := Lib.hid (HDe.out.ext x1); replace HMk := Lib.hid (HMk.out.ext x1); replace HVa := Lib.hid (HVa.out.ext x1); replace Ha := Lib.hid (Ha.out.ext x1); replace HVs := Lib.hid (HVs.out.ext x1); replace Hs := Lib.hid (Hs.out.ext x1); replace HVt := Lib.hid (HVt.out.ext x1); replace Ht := Lib.hid (Ht.out.ext x1)
  clear x1 qa0 qa1 qa2 qs0 qs1 qs2
  cases h1 : fitsR cs ws (castP p) cs2 ws2 js with
  | false =>
    clear h1
    go_wp2_with fail
    exact bodyPost_ret (v := .bool true) (by simp [results, Tryd.results4, go_sem]) rfl ⟨rfl, HX.out⟩
  | true =>
  have HF1 := Lib.hid h1; clear h1
  obtain ⟨e1, e2, s, e3, hs⟩ := fits_parts HF1.out
  replace e1 := e1.symm; replace e2 := e2.symm
  subst e1 e2 e3
  have HS := Lib.hid hs; clear hs HF1
  obtain ⟨qa0, qa1, qa2⟩ := HVa.out.cells
  obtain ⟨qt0, qt1, qt2⟩ := HVt.out.cells
  go_wp2_with fail
  refine (RFits_any cs ws (castP p) cs3 ws3 ks _ _ _ Ha.out Ht.out).mono ?_
  rintro r wk6 ⟨rfl, x1⟩
  replace HX := Lib.hid (HX.out.trans x1); replace HDe := Lib.hid (HDe.out.ext x1); replace HMk := Lib.hid (HMk.out.ext x1); replace HVa := Lib.hid (HVa.out.ext x1); replace Ha := Lib.hid (Ha.out.ext x1); replace HVs := Lib.hid (HVs.out.ext x1); replace Hs := Lib.hid (Hs.out.ext x1); replace HVt := Lib.hid (HVt.out.ext x1); replace Ht := Lib.hid (Ht.out.ext x1)
  clear x1 qa0 qa1 qa2 qt0 qt1 qt2
  cases h1 : fitsR cs ws (castP p) cs3 ws3 ks with
  | false =>
    clear h1
    go_wp2_with fail
    exact bodyPost_ret (v := .bool true) (by simp [results, Tryd.results4, go_sem]) rfl ⟨rfl, HX.out⟩
  | true =>
  have HF1 := Lib.hid h1; clear h1
  obtain ⟨e1, e2, t, e3, ht⟩ := fits_parts HF1.out
  replace e1 := e1.symm; replace e2 := e2.symm
  subst e1 e2 e3
  have HT := Lib.hid ht; clear ht HF1
  obtain ⟨qa0, qa1, qa2⟩ := HVa.out.cells
  go_wp2_with fail
  refine (Closure_ok HP.out _ _ Ha.out HDe.out).mono ?_
  rintro r wk7 ⟨c1, c2, c3, c4, c5, c6, c7, c8, c9, rfl, e, x1⟩
  have Hc := Lib.hid e
  replace HX := Lib.hid (HX.out.trans x1); replace HDe := Lib.hid (HDe.out.ext x1); replace HMk := Lib.hid (HMk.out.ext x1); replace HVa := Lib.hid (HVa.out.ext x1); replace Ha := Lib.hid (Ha.out.ext x1); replace HVs := Lib.hid (HVs.out.ext x1); replace Hs := Lib.hid (Hs.out.ext x1); replace HVt := Lib.hid (HVt.out.ext x1); replace Ht := Lib.hid (Ht.out.ext x1)
  clear x1 e qa0 qa1 qa2
  go_upto_region 5 with fail
  obtain ⟨Wk7, hWk⟩ : ∃ Wk, Wk = wk7.alloc (.cells #[.slice c1 c2 c3, .slice c4 c5 c6, .slice c7 c8 c9] 25) := ⟨_, rfl⟩
  have x1 : Ext wk7 Wk7 := by rw [hWk]; exact (Ext.refl _).alloc _
  have HVc : Hid (Var3 25 Wk7 wk7.heap.size (.slice c1 c2 c3) (.slice c4 c5 c6) (.slice c7 c8 c9)) := by rw [hWk]; exact Var3.new _ _ _ _ _
  rw [← hWk]
  replace HX := Lib.hid (HX.out.trans x1); replace HDe := Lib.hid (HDe.out.ext x1); replace HMk := Lib.hid (HMk.out.ext x1); replace HVa := Lib.hid (HVa.out.ext x1); replace Ha := Lib.hid (Ha.out.ext x1); replace HVs := Lib.hid (HVs.out.ext x1); replace Hs := Lib.hid (Hs.out.ext x1); replace HVt := Lib.hid (HVt.out.ext x1); replace Ht := Lib.hid (Ht.out.ext x1); replace Hc := Lib.hid (Hc.out.ext x1)
  clear x1 hWk
  generalize wk7.heap.size = bc at *
  obtain ⟨qc0, qc1, qc2⟩ := HVc.out.cells
  obtain ⟨qs0, qs1, qs2⟩ := HVs.out.cells
  go_wp2_with fail
  refine (Inside_ok (clo_valid HP.out) HS.out _ _ _ Hc.out Hs.out HDe.out).mono ?_
  rintro r wk8 ⟨k1, k2, k3, k4, k5, k6, k7, k8, k9, rfl, e, x1⟩
  have Hk := Lib.hid e
  replace HX := Lib.hid (HX.out.trans x1); replace HDe := Lib.hid (HDe.out.ext x1); replace HMk := Lib.hid (HMk.out.ext x1); replace HVa := Lib.hid (HVa.out.ext x1); replace Ha := Lib.hid (Ha.out.ext x1); replace HVs := Lib.hid (HVs.out.ext x1); replace Hs := Lib.hid (Hs.out.ext x1); replace HVt := Lib.hid (HVt.out.ext x1); replace Ht := Lib.hid (Ht.out.ext x1); replace Hc := Lib.hid (Hc.out.ext x1); replace HVc := Lib.hid (HVc.out.ext x1)
  clear x1 e qc0 qc1 qc2 qs0 qs1 qs2
  go_upto_region 6 with fail
  obtain ⟨Wk8, hWk⟩ : ∃ Wk, Wk = wk8.alloc (.cells #[.slice k1 k2 k3, .slice k4 k5 k6, .slice k7 k8 k9] 27) := ⟨_, rfl⟩
  have x1 : Ext wk8 Wk8 := by rw [hWk]; exact (Ext.refl _).alloc _
  have HVk : Hid (Var3 27 Wk8 wk8.heap.size (.slice k1 k2 k3) (.slice k4 k5 k6) (.slice k7 k8 k9)) := by rw [hWk]; exact Var3.new _ _ _ _ _
  rw [← hWk]
  replace HX := Lib.hid (HX.out.trans x1); replace HDe := Lib.hid (HDe.out.ext x1); replace HMk := Lib.hid (HMk.out.ext x1); replace HVa := Lib.hid (HVa.out.ext x1); replace Ha := Lib.hid (Ha.out.ext x1); replace HVs := Lib.hid (HVs.out.ext x1); replace Hs := Lib.hid (Hs.out.ext x1); replace HVt := Lib.hid (HVt.out.ext x1); replace Ht := Lib.hid (Ht.out.ext x1); replace Hc := Lib.hid (Hc.out.ext x1); replace HVc := Lib.hid (HVc.out.ext x1); replace Hk := Lib.hid (Hk.out.ext x1)
  clear x1 hWk
  generalize wk8.heap.size = bk at *
  obtain ⟨qa0, qa1, qa2⟩ := HVa.out.cells
  obtain ⟨qk0, qk1, qk2⟩ := HVk.out.cells
  go_wp2_with fail
  refine (Image_ok HP.out (ins_valid (clo_valid HP.out) HS.out) _ _ _ Ha.out Hk.out HDe.out).mono ?_
  rintro r wk9 ⟨i1, i2, i3, i4, i5, i6, i7, i8, i9, rfl, e, x1⟩
  have Hi := Lib.hid e
  replace HX := Lib.hid (HX.out.trans x1); replace HDe := Lib.hid (HDe.out.ext x1); replace HMk := Lib.hid (HMk.out.ext x1); replace HVa := Lib.hid (HVa.out.ext x1); replace Ha := Lib.hid (Ha.out.ext x1); replace HVs := Lib.hid (HVs.out.ext x1); replace Hs := Lib.hid (Hs.out.ext x1); replace HVt := Lib.hid (HVt.out.ext x1); replace Ht := Lib.hid (Ht.out.ext x1); replace Hc := Lib.hid (Hc.out.ext x1); replace HVc := Lib.hid (HVc.out.ext x1); replace Hk := Lib.hid (Hk.out.ext x1); replace HVk := Lib.hid (HVk.out.ext x1)
  clear x1 e qa0 qa1 qa2 qk0 qk1 qk2
  go_upto_region 7 with fail
  obtain ⟨Wk9, hWk⟩ : ∃ Wk, Wk = wk9.alloc (.cells #[.slice i1 i2 i3, .slice i4 i5 i6, .slice i7 i8 i9] 27) := ⟨_, rfl⟩
  have x1 : Ext wk9 Wk9 := by rw [hWk]; exact (Ext.refl _).alloc _
  have HVi : Hid (Var3 27 Wk9 wk9.heap.size (.slice i1 i2 i3) (.slice i4 i5 i6) (.slice i7 i8 i9)) := by rw [hWk]; exact Var3.new _ _ _ _ _
  rw [← hWk]
  replace HX := Lib.hid (HX.out.trans x1); replace HDe := Lib.hid (HDe.out.ext x1); replace HMk := Lib.hid (HMk.out.ext x1); replace HVa := Lib.hid (HVa.out.ext x1); replace Ha := Lib.hid (Ha.out.ext x1); replace HVs := Lib.hid (HVs.out.ext x1); replace Hs := Lib.hid (Hs.out.ext x1); replace HVt := Lib.hid (HVt.out.ext x1); replace Ht := Lib.hid (Ht.out.ext x1); replace Hc := Lib.hid (Hc.out.ext x1); replace HVc := Lib.hid (HVc.out.ext x1); replace Hk := Lib.hid (Hk.out.ext x1); replace HVk := Lib.hid (HVk.out.ext x1); replace Hi := Lib.hid (Hi.out.ext x1)
  clear x1 hWk
  generalize wk9.heap.size = bi at *
  obtain ⟨st1, st2, st3⟩ := stab_law HP.out HS.out
  have HL1 : Hid (withinB (castL (insL (cloP (nn ws) p) s)) (castL s) = true) := within_iff.2 st1
  have HL2 : Hid (withinB (castL (imgL p (insL (cloP (nn ws) p) s))) (castL (insL (cloP (nn ws) p) s)) = true) := within_iff.2 st2
  have HL3 : Hid (sameS cs ws (castL (insN p s (s.length + 1))) cs ws (castL (insL (cloP (nn ws) p) s)) = true) := by unfold Hid; rw [st3]; exact sameS_self _ _ _
  have HL4 : Hid (withinB (castL (imgL (cloP (nn ws) p) (metL s t))) (castL s) = true → withinB (castL (imgL (cloP (nn ws) p) (metL s t))) (castL (insL (cloP (nn ws) p) s)) = true) := fun h => within_iff.2 (stab_end HP.out HS.out (within_iff.1 h))
  clear st1 st2 st3
  obtain ⟨qk0, qk1, qk2⟩ := HVk.out.cells
  obtain ⟨qs0, qs1, qs2⟩ := HVs.out.cells
  go_wp2_with fail
  refine (inside_any _ _ (castL (insL (cloP (nn ws) p) s)) _ _ (castL s) _ _ _ Hk.out Hs.out).mono ?_
  rintro r wk10 ⟨rfl, x1⟩
  rw [HL1.out]
  replace HX := Lib.hid (HX.out.trans x1); replace HDe := Lib.hid (HDe.out.ext x1); replace HMk := Lib.hid (HMk.out.ext x1); replace HVa := Lib.hid (HVa.out.ext x1); replace Ha := Lib.hid (Ha.out.ext x1); replace HVs := Lib.hid (HVs.out.ext x1); replace Hs := Lib.hid (Hs.out.ext x1); replace HVt := Lib.hid (HVt.out.ext x1); replace Ht := Lib.hid (Ht.out.ext x1); replace Hc := Lib.hid (Hc.out.ext x1); replace HVc := Lib.hid (HVc.out.ext x1); replace Hk := Lib.hid (Hk.out.ext x1); replace HVk := Lib.hid (HVk.out.ext x1); replace Hi := Lib.hid (Hi.out.ext x1); replace HVi := Lib.hid (HVi.out.ext x1)
  clear x1 qk0 qk1 qk2 qs0 qs1 qs2
  obtain ⟨qi0, qi1, qi2⟩ := HVi.out.cells
  obtain ⟨qk0, qk1, qk2⟩ := HVk.out.cells
  go_wp2_with fail
  refine (inside_any _ _ (castL (imgL p (insL (cloP (nn ws) p) s))) _ _ (castL (insL (cloP (nn ws) p) s)) _ _ _ Hi.out Hk.out).mono ?_
  rintro r wk11 ⟨rfl, x1⟩
  rw [HL2.out]
  replace HX := Lib.hid (HX.out.trans x1); replace HDe := Lib.hid (HDe.out.ext x1); replace HMk := Lib.hid (HMk.out.ext x1); replace HVa := Lib.hid (HVa.out.ext x1); replace Ha := Lib.hid (Ha.out.ext x1); replace HVs := Lib.hid (HVs.out.ext x1); replace Hs := Lib.hid (Hs.out.ext x1); replace HVt := Lib.hid (HVt.out.ext x1); replace Ht := Lib.hid (Ht.out.ext x1); replace Hc := Lib.hid (Hc.out.ext x1); replace HVc := Lib.hid (HVc.out.ext x1); replace Hk := Lib.hid (Hk.out.ext x1); replace HVk := Lib.hid (HVk.out.ext x1); replace Hi := Lib.hid (Hi.out.ext x1); replace HVi := Lib.hid (HVi.out.ext x1)
  clear x1 qi0 qi1 qi2 qk0 qk1 qk2
  have hs8 := setv_len Hs.out
  have hs64 : s8 ≤ 64 := by have := HF3.out; rw [castL_length] at this; omega
  have HE8 := Lib.hid hs8
  clear hs8
  obtain ⟨qs0, qs1, qs2⟩ := HVs.out.cells
  go_upto_region 10 with fail
  obtain ⟨Wx, hWx⟩ : ∃ Wx, Wx = wk11.alloc (.cells #[.slice s1 s2 s3, .slice s4 s5 s6, .slice s7 s8 s9] 27) := ⟨_, rfl⟩
  have x1 : Ext wk11 Wx := by rw [hWx]; exact (Ext.refl _).alloc _
  have HVx : Hid (Var3 27 Wx wk11.heap.size (.slice s1 s2 s3) (.slice s4 s5 s6) (.slice s7 s8 s9)) := by rw [hWx]; exact Var3.new _ _ _ _ _
  have HX0 := Lib.hid x1
  rw [← hWx]
  clear x1 hWx qs0 qs1 qs2
  obtain ⟨bx, hbx⟩ : ∃ bx, bx = wk11.heap.size := ⟨_, rfl⟩
  have HBx : Hid (wk11.heap.size ≤ bx) := Nat.le_of_eq hbx.symm
  rw [← hbx] at HVx
  rw [← hbx]
  clear hbx
  go_wp2_with fail
  go_loopw [15] (fun iv wr => ∃ (n : Nat) (y1 : Option Addr) (y2 y3 : Nat) (y4 : Option Addr) (y5 y6 : Nat) (y7 : Option Addr) (y8 y9 : Nat), n ≤ s8 + 1 ∧ iv = .int .i64 n ∧ Ext wk11 wr ∧ Var3 27 wr bx (.slice y1 y2 y3) (.slice y4 y5 y6) (.slice y7 y8 y9) ∧ SetV wr (.agg #[.slice y1 y2 y3, .slice y4 y5 y6, .slice y7 y8 y9]) cs ws (castL (insN p s n))) (fun iv _ => s8 + 1 - (intOf iv).toNat)
  case atStart => exact ⟨0, s1, s2, s3, s4, s5, s6, s7, s8, s9, Nat.zero_le _, rfl, HX0.out, HVx.out, Hs.out.ext HX0.out⟩
  case round =>
    obtain ⟨n, y1, y2, y3, y4, y5, y6, y7, y8, y9, hn, rfl, x1, hvx, hsx⟩ := hrel
    have HXr := Lib.hid x1; have HVy := Lib.hid hvx; have Hy := Lib.hid hsx
    replace HX := Lib.hid (HX.out.trans x1); replace HDe := Lib.hid (HDe.out.ext x1); replace HMk := Lib.hid (HMk.out.ext x1); replace HVa := Lib.hid (HVa.out.ext x1); replace Ha := Lib.hid (Ha.out.ext x1); replace HVs := Lib.hid (HVs.out.ext x1); replace Hs := Lib.hid (Hs.out.ext x1); replace HVt := Lib.hid (HVt.out.ext x1); replace Ht := Lib.hid (Ht.out.ext x1); replace Hc := Lib.hid (Hc.out.ext x1); replace HVc := Lib.hid (HVc.out.ext x1); replace Hk := Lib.hid (Hk.out.ext x1); replace HVk := Lib.hid (HVk.out.ext x1); replace Hi := Lib.hid (Hi.out.ext x1); replace HVi := Lib.hid (HVi.out.ext x1)
    clear x1 hvx hsx HX0 HVx
    generalize wr = wx at *
    obtain ⟨qs0, qs1, qs2⟩ := HVs.out.cells
    by_cases hlt : n ≤ s8
    · have hti : (n : Int) ≤ (s8 : Int) := by omega
      obtain ⟨qa0, qa1, qa2⟩ := HVa.out.cells
      obtain ⟨qy0, qy1, qy2⟩ := HVy.out.cells
      go_wp2_with fail
      refine (Inside_own HP.out (insN_valid HP.out HS.out n) _ _ _ Ha.out Hy.out HDe.out).mono ?_
      rintro r wi ⟨z1, z2, z3, z4, z5, z6, z7, z8, z9, rfl, e, x2⟩
      have HO := Lib.hid e
      have HXi := Lib.hid (HXr.out.trans x2)
      have HVz := Lib.hid (HVy.out.ext x2)
      clear x2 e qa0 qa1 qa2 qy0 qy1 qy2 qs0 qs1 qs2
      go_upto_region 14 with fail
      obtain ⟨Wz, hWz⟩ : ∃ Wz, Wz = wi.alloc (.cells #[.slice z1 z2 z3, .slice z4 z5 z6, .slice z7 z8 z9] 27) := ⟨_, rfl⟩
      have x1 : Ext wi Wz := by rw [hWz]; exact (Ext.refl _).alloc _
      have HV9 : Hid (Var3 27 Wz wi.heap.size (.slice z1 z2 z3) (.slice z4 z5 z6) (.slice z7 z8 z9)) := by rw [hWz]; exact Var3.new _ _ _ _ _
      rw [← hWz]
      replace HXi := Lib.hid (HXi.out.trans x1); replace HVz := Lib.hid (HVz.out.ext x1); replace HO := Lib.hid (HO.out.kept x1)
      have hbr : bx < wx.heap.size := lt_heap HVy.out
      clear x1 hWz
      generalize wi.heap.size = b9 at *
      obtain ⟨q0, q1, q2⟩ := HV9.out.cells
      obtain ⟨f0, f1, f2, f3, f4, f5⟩ := block3 HVz.out
      go_wp2_with fail
      exact ⟨⟨n + 1, z1, z2, z3, z4, z5, z6, z7, z8, z9, by omega, by go_num, HXi.out.put3 HBx.out _ _ _, put3_new HVz.out, (HO.out.put3 hbr _ _ _).setV⟩, by simp [intOf]; omega⟩
    · have hti : decide ((n : Int) ≤ (s8 : Int)) = false := decide_eq_false (by omega)
      obtain rfl : n = s8 + 1 := by omega
      rw [HE8.out] at Hy
      obtain ⟨qy0, qy1, qy2⟩ := HVy.out.cells
      obtain ⟨qk0, qk1, qk2⟩ := HVk.out.cells
      go_wp2_with fail
      refine (RSame10_any _ _ (castL (insN p s (s.length + 1))) _ _ (castL (insL (cloP (nn ws) p) s)) _ _ _ Hy.out Hk.out).mono ?_
      rintro r wk12 ⟨rfl, x1⟩
      rw [HL3.out]
      replace HX := Lib.hid (HX.out.trans x1); replace HDe := Lib.hid (HDe.out.ext x1); replace HMk := Lib.hid (HMk.out.ext x1); replace HVa := Lib.hid (HVa.out.ext x1); replace Ha := Lib.hid (Ha.out.ext x1); replace HVs := Lib.hid (HVs.out.ext x1); replace Hs := Lib.hid (Hs.out.ext x1); replace HVt := Lib.hid (HVt.out.ext x1); replace Ht := Lib.hid (Ht.out.ext x1); replace Hc := Lib.hid (Hc.out.ext x1); replace HVc := Lib.hid (HVc.out.ext x1); replace Hk := Lib.hid (Hk.out.ext x1); replace HVk := Lib.hid (HVk.out.ext x1); replace Hi := Lib.hid (Hi.out.ext x1); replace HVi := Lib.hid (HVi.out.ext x1); replace HVy := Lib.hid (HVy.out.ext x1); replace Hy := Lib.hid (Hy.out.ext x1)
      clear x1 qs0 qs1 qs2 qy0 qy1 qy2 qk0 qk1 qk2
      obtain ⟨qs0, qs1, qs2⟩ := HVs.out.cells
      obtain ⟨qt0, qt1, qt2⟩ := HVt.out.cells
      go_wp2_with fail
      refine (Meet_ok HS.out HT.out _ _ _ Hs.out Ht.out HDe.out).mono ?_
      rintro r wk13 ⟨m1, m2, m3, m4, m5, m6, m7, m8, m9, rfl, e, x1⟩
      have Hm := Lib.hid e
      replace HX := Lib.hid (HX.out.trans x1); replace HDe := Lib.hid (HDe.out.ext x1); replace HMk := Lib.hid (HMk.out.ext x1); replace HVa := Lib.hid (HVa.out.ext x1); replace Ha := Lib.hid (Ha.out.ext x1); replace HVs := Lib.hid (HVs.out.ext x1); replace Hs := Lib.hid (Hs.out.ext x1); replace HVt := Lib.hid (HVt.out.ext x1); replace Ht := Lib.hid (Ht.out.ext x1); replace Hc := Lib.hid (Hc.out.ext x1); replace HVc := Lib.hid (HVc.out.ext x1); replace Hk := Lib.hid (Hk.out.ext x1); replace HVk := Lib.hid (HVk.out.ext x1); replace Hi := Lib.hid (Hi.out.ext x1); replace HVi := Lib.hid (HVi.out.ext x1)
      clear x1 e qs0 qs1 qs2 qt0 qt1 qt2
      go_upto_region 20 with fail
      obtain ⟨Wk13, hWk⟩ : ∃ Wk, Wk = wk13.alloc (.cells #[.slice m1 m2 m3, .slice m4 m5 m6, .slice m7 m8 m9] 27) := ⟨_, rfl⟩
      have x1 : Ext wk13 Wk13 := by rw [hWk]; exact (Ext.refl _).alloc _
      have HVm : Hid (Var3 27 Wk13 wk13.heap.size (.slice m1 m2 m3) (.slice m4 m5 m6) (.slice m7 m8 m9)) := by rw [hWk]; exact Var3.new _ _ _ _ _
      rw [← hWk]
      replace HX := Lib.hid (HX.out.trans x1); replace HDe := Lib.hid (HDe.out.ext x1); replace HMk := Lib.hid (HMk.out.ext x1); replace HVa := Lib.hid (HVa.out.ext x1); replace Ha := Lib.hid (Ha.out.ext x1); replace HVs := Lib.hid (HVs.out.ext x1); replace Hs := Lib.hid (Hs.out.ext x1); replace HVt := Lib.hid (HVt.out.ext x1); replace Ht := Lib.hid (Ht.out.ext x1); replace Hc := Lib.hid (Hc.out.ext x1); replace HVc := Lib.hid (HVc.out.ext x1); replace Hk := Lib.hid (Hk.out.ext x1); replace HVk := Lib.hid (HVk.out.ext x1); replace Hi := Lib.hid (Hi.out.ext x1); replace HVi := Lib.hid (HVi.out.ext x1); replace Hm := Lib.hid (Hm.out.ext x1)
      clear x1 hWk
      generalize wk13.heap.size = bm at *
      obtain ⟨qc0, qc1, qc2⟩ := HVc.out.cells
      obtain ⟨qm0, qm1, qm2⟩ := HVm.out.cells
      go_wp2_with fail
      refine (Image_ok (clo_valid HP.out) (met_valid HS.out HT.out) _ _ _ Hc.out Hm.out HDe.out).mono ?_
      rintro r wk14 ⟨o1, o2, o3, o4, o5, o6, o7, o8, o9, rfl, e, x1⟩
      have Ho := Lib.hid e
      replace HX := Lib.hid (HX.out.trans x1); replace HDe := Lib.hid (HDe.out.ext x1); replace HMk := Lib.hid (HMk.out.ext x1); replace HVa := Lib.hid (HVa.out.ext x1); replace Ha := Lib.hid (Ha.out.ext x1); replace HVs := Lib.hid (HVs.out.ext x1); replace Hs := Lib.hid (Hs.out.ext x1); replace HVt := Lib.hid (HVt.out.ext x1); replace Ht := Lib.hid (Ht.out.ext x1); replace Hc := Lib.hid (Hc.out.ext x1); replace HVc := Lib.hid (HVc.out.ext x1); replace Hk := Lib.hid (Hk.out.ext x1); replace HVk := Lib.hid (HVk.out.ext x1); replace Hi := Lib.hid (Hi.out.ext x1); replace HVi := Lib.hid (HVi.out.ext x1); replace Hm := Lib.hid (Hm.out.ext x1); replace HVm := Lib.hid (HVm.out.ext x1)
      clear x1 e qc0 qc1 qc2 qm0 qm1 qm2
      go_upto_region 21 with fail
      obtain ⟨Wk14, hWk⟩ : ∃ Wk, Wk = wk14.alloc (.cells #[.slice o1 o2 o3, .slice o4 o5 o6, .slice o7 o8 o9] 27) := ⟨_, rfl⟩
      have x1 : Ext wk14 Wk14 := by rw [hWk]; exact (Ext.refl _).alloc _
      have HVo : Hid (Var3 27 Wk14 wk14.heap.size (.slice o1 o2 o3) (.slice o4 o5 o6) (.slice o7 o8 o9)) := by rw [hWk]; exact Var3.new _ _ _ _ _
      rw [← hWk]
      replace HX := Lib.hid (HX.out.trans x1); replace HDe := Lib.hid (HDe.out.ext x1); replace HMk := Lib.hid (HMk.out.ext x1); replace HVa := Lib.hid (HVa.out.ext x1); replace Ha := Lib.hid (Ha.out.ext x1); replace HVs := Lib.hid (HVs.out.ext x1); replace Hs := Lib.hid (Hs.out.ext x1); replace HVt := Lib.hid (HVt.out.ext x1); replace Ht := Lib.hid (Ht.out.ext x1); replace Hc := Lib.hid (Hc.out.ext x1); replace HVc := Lib.hid (HVc.out.ext x1); replace Hk := Lib.hid (Hk.out.ext x1); replace HVk := Lib.hid (HVk.out.ext x1); replace Hi := Lib.hid (Hi.out.ext x1); replace HVi := Lib.hid (HVi.out.ext x1); replace Hm := Lib.hid (Hm.out.ext x1); replace HVm := Lib.hid (HVm.out.ext x1); replace Ho := Lib.hid (Ho.out.ext x1)
      clear x1 hWk
      generalize wk14.heap.size = bo at *
      obtain ⟨qo0, qo1, qo2⟩ := HVo.out.cells
      obtain ⟨qs0, qs1, qs2⟩ := HVs.out.cells
      go_wp2_with fail
      refine (inside_any _ _ (castL (imgL (cloP (nn ws) p) (metL s t))) _ _ (castL s) _ _ _ Ho.out Hs.out).mono ?_
      rintro r wk15 ⟨rfl, x1⟩
      replace HX := Lib.hid (HX.out.trans x1); replace HDe := Lib.hid (HDe.out.ext x1); replace HMk := Lib.hid (HMk.out.ext x1); replace HVa := Lib.hid (HVa.out.ext x1); replace Ha := Lib.hid (Ha.out.ext x1); replace HVs := Lib.hid (HVs.out.ext x1); replace Hs := Lib.hid (Hs.out.ext x1); replace HVt := Lib.hid (HVt.out.ext x1); replace Ht := Lib.hid (Ht.out.ext x1); replace Hc := Lib.hid (Hc.out.ext x1); replace HVc := Lib.hid (HVc.out.ext x1); replace Hk := Lib.hid (Hk.out.ext x1); replace HVk := Lib.hid (HVk.out.ext x1); replace Hi := Lib.hid (Hi.out.ext x1); replace HVi := Lib.hid (HVi.out.ext x1); replace Hm := Lib.hid (Hm.out.ext x1); replace HVm := Lib.hid (HVm.out.ext x1); replace Ho := Lib.hid (Ho.out.ext x1); replace HVo := Lib.hid (HVo.out.ext x1)
      clear x1 qo0 qo1 qo2 qs0 qs1 qs2
      cases h1 : withinB (castL (imgL (cloP (nn ws) p) (metL s t))) (castL s) with
      | false =>
        clear h1
        go_wp2_with fail
        exact bodyPost_ret (v := .bool true) (by simp [results, Tryd.results4, go_sem]) rfl ⟨rfl, HX.out⟩
      | true =>
      have HL7 := Lib.hid (HL4.out h1); clear h1
      obtain ⟨qo0, qo1, qo2⟩ := HVo.out.cells
      obtain ⟨qk0, qk1, qk2⟩ := HVk.out.cells
      go_wp2_with fail
      refine (inside_any _ _ (castL (imgL (cloP (nn ws) p) (metL s t))) _ _ (castL (insL (cloP (nn ws) p) s)) _ _ _ Ho.out Hk.out).mono ?_
      rintro r wk16 ⟨rfl, x1⟩
      rw [HL7.out]
      replace HX := Lib.hid (HX.out.trans x1); replace HDe := Lib.hid (HDe.out.ext x1); replace HMk := Lib.hid (HMk.out.ext x1); replace HVa := Lib.hid (HVa.out.ext x1); replace Ha := Lib.hid (Ha.out.ext x1); replace HVs := Lib.hid (HVs.out.ext x1); replace Hs := Lib.hid (Hs.out.ext x1); replace HVt := Lib.hid (HVt.out.ext x1); replace Ht := Lib.hid (Ht.out.ext x1); replace Hc := Lib.hid (Hc.out.ext x1); replace HVc := Lib.hid (HVc.out.ext x1); replace Hk := Lib.hid (Hk.out.ext x1); replace HVk := Lib.hid (HVk.out.ext x1); replace Hi := Lib.hid (Hi.out.ext x1); replace HVi := Lib.hid (HVi.out.ext x1); replace Hm := Lib.hid (Hm.out.ext x1); replace HVm := Lib.hid (HVm.out.ext x1); replace Ho := Lib.hid (Ho.out.ext x1); replace HVo := Lib.hid (HVo.out.ext x1)
      clear x1 qo0 qo1 qo2 qk0 qk1 qk2
      go_wp2_with fail
      exact bodyPost_ret (v := .bool true) (by simp [results, Tryd.results4, go_sem]) rfl ⟨rfl, HX.out⟩
end Go.Proofs.YtlnahhlddekhoaaDoor
