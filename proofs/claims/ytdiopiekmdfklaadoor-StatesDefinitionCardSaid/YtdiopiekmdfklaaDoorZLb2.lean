/-
  The walk of StatesDefinition. Printed by gen_law10.py.
-/
import Derived.Test.YtdiopiekmdfklaaDoorMAlg
import Derived.Test.YtdiopiekmdfklaaDoorMHb
import Derived.Deep.RegionHeld3
namespace Go.Proofs.YtdiopiekmdfklaaDoor
open Go.RowKit

theorem smallC_list {cells : List CellD} {list : List Int} (h : smallC cells list = true) : list.length ≤ 1000000 := by
  unfold smallC at h
  simp only [Bool.and_eq_true, decide_eq_true_eq] at h
  omega
set_option maxRecDepth 100000 in
set_option maxHeartbeats 16000000 in
theorem StatesDefinition_any (cells : List CellD) (list : List Int) (e : E) (st : List Int) (vc vl ve vs : Value) (w : World) (hc : Cells w vc cells) (hl : Ints w vl list) (he : EVal w ve e) (hs : Ints w vs st) (hT : DeB w) (hM : Masks w) (hN : Names w) (hP : Pow10 w) :
    Calls Tryd.prog 3 #[vc, vl, ve, vs] w fun r w' => r = .returned (.bool true) ∧ Ext w w' := by
  obtain ⟨ca, cc, rfl⟩ := hc.shape
  obtain ⟨la, lc, rfl⟩ := hl.shape
  obtain ⟨ea, ec, rfl, _⟩ := he.shape'
  generalize e.kids.length = el at *
  obtain ⟨sa, sc, rfl⟩ := hs.shape
  obtain ⟨W, hW⟩ : ∃ W, W = w.alloc (.cells #[.int .i64 e.op, .int .i64 e.wd, .int .i64 e.n, .slice ea el ec] 26) := ⟨_, rfl⟩
  have hx : Ext w W := by rw [hW]; exact (Ext.refl w).alloc _
  have HVe : Hid (VarE W w.heap.size e.op e.wd e.n (.slice ea el ec)) := (by rw [hW]; exact heap_new _ _)
  have Hc := Lib.hid (hc.ext hx)
  have Hl := Lib.hid (hl.ext hx)
  have He := Lib.hid (he.ext hx)
  have Hs := Lib.hid (hs.ext hx)
  have HX := Lib.hid hx; have HDe := Lib.hid (hT.ext hx); have HMk := Lib.hid (hM.ext hx); have HNm := Lib.hid (hN.ext hx); have HPw := Lib.hid (hP.ext hx); have HW := Lib.hid hW
  clear hW hx hT hM hN hP hc hl he hs
  go_enter Tryd.func3, Tryd.ntmps3
  go_upto_region 1 with fail
  rw [← HW.out]
  clear HW
  generalize w.heap.size = be at *
  go_wp2_with fail
  refine (head_any W HDe.out HMk.out HNm.out HPw.out).mono ?_
  rintro r wk1 ⟨rfl, x1⟩
  replace HX := Lib.hid (HX.out.trans x1); replace HDe := Lib.hid (HDe.out.ext x1); replace HMk := Lib.hid (HMk.out.ext x1); replace HNm := Lib.hid (HNm.out.ext x1); replace HPw := Lib.hid (HPw.out.ext x1); replace HVe := Lib.hid (HVe.out.ext x1); replace Hc := Lib.hid (Hc.out.ext x1); replace Hl := Lib.hid (Hl.out.ext x1); replace He := Lib.hid (He.out.ext x1); replace Hs := Lib.hid (Hs.out.ext x1)
  clear x1
  go_wp2_with fail
  refine (Small10_any cells list _ _ _ Hc.out Hl.out).mono ?_
  rintro r wk2 ⟨rfl, x1⟩
  replace HX := Lib.hid (HX.out.trans x1); replace HDe := Lib.hid (HDe.out.ext x1); replace HMk := Lib.hid (HMk.out.ext x1); replace HNm := Lib.hid (HNm.out.ext x1); replace HPw := Lib.hid (HPw.out.ext x1); replace HVe := Lib.hid (HVe.out.ext x1); replace Hc := Lib.hid (Hc.out.ext x1); replace Hl := Lib.hid (Hl.out.ext x1); replace He := Lib.hid (He.out.ext x1); replace Hs := Lib.hid (Hs.out.ext x1)
  clear x1
  cases h1 : smallC cells list with
  | false =>
    clear h1
    go_wp2_with fail
    exact bodyPost_ret (v := .bool true) (by simp [results, Tryd.results3, go_sem]) rfl ⟨rfl, HX.out⟩
  | true =>
  have HF1 := Lib.hid h1; clear h1
  have hl40 := smallC_list HF1.out
  clear HF1
  obtain ⟨qe0, qe1, qe2, qe3⟩ := HVe.out.cells
  go_wp2_with fail
  refine (RSmall_any e _ _ 60 He.out (by omega) (by omega)).mono ?_
  rintro r wk3 ⟨rfl, x1⟩
  replace HX := Lib.hid (HX.out.trans x1); replace HDe := Lib.hid (HDe.out.ext x1); replace HMk := Lib.hid (HMk.out.ext x1); replace HNm := Lib.hid (HNm.out.ext x1); replace HPw := Lib.hid (HPw.out.ext x1); replace HVe := Lib.hid (HVe.out.ext x1); replace Hc := Lib.hid (Hc.out.ext x1); replace Hl := Lib.hid (Hl.out.ext x1); replace He := Lib.hid (He.out.ext x1); replace Hs := Lib.hid (Hs.out.ext x1)
  clear x1 qe0 qe1 qe2 qe3
  cases h1 : decide ((e.size : Int) ≤ 60) with
  | false =>
    clear h1
    go_wp2_with fail
    exact bodyPost_ret (v := .bool true) (by simp [results, Tryd.results3, go_sem]) rfl ⟨rfl, HX.out⟩
  | true =>
  have HF1 := Lib.hid h1; clear h1
  clear HF1
  by_cases t1 : 60 < st.length
  · go_wp2_with fail
    exact bodyPost_ret (v := .bool true) (by simp [results, Tryd.results3, go_sem]) rfl ⟨rfl, HX.out⟩
  by_cases hz : ofErr cells list e = 0
  · have HZ := Lib.hid hz; clear hz
    obtain ⟨qe0, qe1, qe2, qe3⟩ := HVe.out.cells
    go_wp2_with fail
    refine ((Of_any cells list e _ _ _ _ Hc.out Hl.out He.out hl40 HMk.out HDe.out).mono fun r w' h => (show RetC 0 list (wOf cells list) (castL (ofIn cells list e)) _ r w' from SetRes.retC (by unfold OfPost at h; rw [HZ.out, if_pos rfl] at h; exact h))).mono ?_
    rintro r wk4 ⟨a1, a2, a3, a4, a5, a6, a7, a8, a9, rfl, e, x1⟩
    have Ha := Lib.hid e; clear e
    replace HX := Lib.hid (HX.out.trans x1); replace HDe := Lib.hid (HDe.out.ext x1); replace HMk := Lib.hid (HMk.out.ext x1); replace HNm := Lib.hid (HNm.out.ext x1); replace HPw := Lib.hid (HPw.out.ext x1); replace HVe := Lib.hid (HVe.out.ext x1); replace Hc := Lib.hid (Hc.out.ext x1); replace Hl := Lib.hid (Hl.out.ext x1); replace He := Lib.hid (He.out.ext x1); replace Hs := Lib.hid (Hs.out.ext x1)
    clear x1 qe0 qe1 qe2 qe3
    go_upto_region 5 with fail
    obtain ⟨Wk4, hWk⟩ : ∃ Wk, Wk = wk4.alloc (.cells #[.slice a1 a2 a3, .slice a4 a5 a6, .slice a7 a8 a9] 31) := ⟨_, rfl⟩
    have x1 : Ext wk4 Wk4 := by rw [hWk]; exact (Ext.refl _).alloc _
    have HVa : Hid (Var3 31 Wk4 wk4.heap.size (.slice a1 a2 a3) (.slice a4 a5 a6) (.slice a7 a8 a9)) := by rw [hWk]; exact Var3.new _ _ _ _ _
    rw [← hWk]
    replace HX := Lib.hid (HX.out.trans x1); replace HDe := Lib.hid (HDe.out.ext x1); replace HMk := Lib.hid (HMk.out.ext x1); replace HNm := Lib.hid (HNm.out.ext x1); replace HPw := Lib.hid (HPw.out.ext x1); replace HVe := Lib.hid (HVe.out.ext x1); replace Hc := Lib.hid (Hc.out.ext x1); replace Hl := Lib.hid (Hl.out.ext x1); replace He := Lib.hid (He.out.ext x1); replace Hs := Lib.hid (Hs.out.ext x1); replace Ha := Lib.hid (Ha.out.ext x1)
    clear x1 hWk
    generalize wk4.heap.size = ba at *
    have hlaw := of_law HZ.out [] st
    obtain ⟨v, hv⟩ : ∃ v, v = e.eval [] st := ⟨_, rfl⟩
    rw [← hv] at hlaw
    have HV0 := Lib.hid hv; have HLW := Lib.hid hlaw
    clear hv hlaw
    by_cases hv1 : v = 1
    · subst hv1
      have HR0 := Lib.hid ((Ext.refl Wk4).drew)
      obtain ⟨za0, za1, za2⟩ := HVa.out.cells
      obtain ⟨ze0, ze1, ze2, ze3⟩ := HVe.out.cells
      go_region_held3 (fun w' => (w'.cell? ⟨ba, 0, none⟩ = some (.slice a1 a2 a3) ∧ w'.cell? ⟨ba, 1, none⟩ = some (.slice a4 a5 a6) ∧ w'.cell? ⟨ba, 2, none⟩ = some (.slice a7 a8 a9)) ∧ (w'.cell? ⟨be, 0, none⟩ = some (.int .i64 e.op) ∧ w'.cell? ⟨be, 1, none⟩ = some (.int .i64 e.wd) ∧ w'.cell? ⟨be, 2, none⟩ = some (.int .i64 e.n) ∧ w'.cell? ⟨be, 3, none⟩ = some (.slice ea el ec)))
        (first | (with_reducible exact hk2) | (with_reducible exact hk1) | exact ⟨⟨za0, za1, za2⟩, ⟨ze0, ze1, ze2, ze3⟩⟩ | fail)
        ((first
          | (have hgo := HR1.out; clear hgo; go_at_call 13; refine (Eval_any e _ _ _ [] st _ (He.out.ext HR1.out) (.inl ⟨⟨_, _, rfl⟩, rfl⟩) (Hs.out.ext HR1.out) (HMk.out.ext HR1.out)).mono ?_; rintro r wh2 ⟨rfl, x1⟩; rw [← HV0.out]; have HR2 := Lib.hid (HR1.out.trans x1); have hk2 := And.intro (HVa.out.ext HR2.out).cells ((HVe.out.ext HR2.out).cells); clear x1)
          | (have hgo := HR0.out; clear hgo; go_at_call 12; refine (StContains_any list (wOf cells list) (castL (ofIn cells list e)) st _ _ _ (Ha.out.setV.ext HR0.out) (Hs.out.ext HR0.out)).mono ?_; rintro r wh1 ⟨rfl, x1⟩; rw [HLW.out]; have HR1 := Lib.hid (HR0.out.trans x1); have hk1 := And.intro (HVa.out.ext HR1.out).cells ((HVe.out.ext HR1.out).cells); clear x1)))
      replace HX := Lib.hid (HX.out.trans HR2.out)
      go_wp2_with fail
      exact bodyPost_ret (v := .bool true) (by simp [results, Tryd.results3, go_sem]) rfl ⟨rfl, HX.out⟩
    · have hvb : (v == 1) = false := by simp [hv1]
      replace HLW := Lib.hid (HLW.out.trans (decide_eq_false hv1))
      clear hv1
      have HR0 := Lib.hid ((Ext.refl Wk4).drew)
      obtain ⟨za0, za1, za2⟩ := HVa.out.cells
      obtain ⟨ze0, ze1, ze2, ze3⟩ := HVe.out.cells
      go_region_held3 (fun w' => (w'.cell? ⟨ba, 0, none⟩ = some (.slice a1 a2 a3) ∧ w'.cell? ⟨ba, 1, none⟩ = some (.slice a4 a5 a6) ∧ w'.cell? ⟨ba, 2, none⟩ = some (.slice a7 a8 a9)) ∧ (w'.cell? ⟨be, 0, none⟩ = some (.int .i64 e.op) ∧ w'.cell? ⟨be, 1, none⟩ = some (.int .i64 e.wd) ∧ w'.cell? ⟨be, 2, none⟩ = some (.int .i64 e.n) ∧ w'.cell? ⟨be, 3, none⟩ = some (.slice ea el ec)))
        (first | (with_reducible exact hk2) | (with_reducible exact hk1) | exact ⟨⟨za0, za1, za2⟩, ⟨ze0, ze1, ze2, ze3⟩⟩ | fail)
        ((first
          | (have hgo := HR1.out; clear hgo; go_at_call 13; refine (Eval_any e _ _ _ [] st _ (He.out.ext HR1.out) (.inl ⟨⟨_, _, rfl⟩, rfl⟩) (Hs.out.ext HR1.out) (HMk.out.ext HR1.out)).mono ?_; rintro r wh2 ⟨rfl, x1⟩; rw [← HV0.out]; have HR2 := Lib.hid (HR1.out.trans x1); have hk2 := And.intro (HVa.out.ext HR2.out).cells ((HVe.out.ext HR2.out).cells); clear x1)
          | (have hgo := HR0.out; clear hgo; go_at_call 12; refine (StContains_any list (wOf cells list) (castL (ofIn cells list e)) st _ _ _ (Ha.out.setV.ext HR0.out) (Hs.out.ext HR0.out)).mono ?_; rintro r wh1 ⟨rfl, x1⟩; rw [HLW.out]; have HR1 := Lib.hid (HR0.out.trans x1); have hk1 := And.intro (HVa.out.ext HR1.out).cells ((HVe.out.ext HR1.out).cells); clear x1)))
      replace HX := Lib.hid (HX.out.trans HR2.out)
      go_wp2_with fail
      exact bodyPost_ret (v := .bool true) (by simp [results, Tryd.results3, go_sem]) rfl ⟨rfl, HX.out⟩
  · obtain ⟨k, hk⟩ : ∃ k, k = ofErr cells list e := ⟨_, rfl⟩
    rw [← hk] at hz
    have HZ := Lib.hid hz; have HK := Lib.hid hk
    have hkb : (k != 0) = true := by simp [hz]
    clear hk hz
    obtain ⟨qe0, qe1, qe2, qe3⟩ := HVe.out.cells
    go_wp2_with fail
    refine ((Of_any cells list e _ _ _ _ Hc.out Hl.out He.out hl40 HMk.out HDe.out).mono fun r w' h => (show RetC k [] [] [] _ r w' from SetRes.retC (by unfold OfPost at h; rw [← HK.out, if_neg HZ.out] at h; exact h))).mono ?_
    rintro r wk4 ⟨a1, a2, a3, a4, a5, a6, a7, a8, a9, rfl, e, x1⟩
    have Ha := Lib.hid e; clear e
    replace HX := Lib.hid (HX.out.trans x1); replace HDe := Lib.hid (HDe.out.ext x1); replace HMk := Lib.hid (HMk.out.ext x1); replace HNm := Lib.hid (HNm.out.ext x1); replace HPw := Lib.hid (HPw.out.ext x1); replace HVe := Lib.hid (HVe.out.ext x1); replace Hc := Lib.hid (Hc.out.ext x1); replace Hl := Lib.hid (Hl.out.ext x1); replace He := Lib.hid (He.out.ext x1); replace Hs := Lib.hid (Hs.out.ext x1)
    clear x1 qe0 qe1 qe2 qe3
    go_upto_region 5 with fail
    obtain ⟨Wk4, hWk⟩ : ∃ Wk, Wk = wk4.alloc (.cells #[.slice a1 a2 a3, .slice a4 a5 a6, .slice a7 a8 a9] 31) := ⟨_, rfl⟩
    have x1 : Ext wk4 Wk4 := by rw [hWk]; exact (Ext.refl _).alloc _
    have HVa : Hid (Var3 31 Wk4 wk4.heap.size (.slice a1 a2 a3) (.slice a4 a5 a6) (.slice a7 a8 a9)) := by rw [hWk]; exact Var3.new _ _ _ _ _
    rw [← hWk]
    replace HX := Lib.hid (HX.out.trans x1); replace HDe := Lib.hid (HDe.out.ext x1); replace HMk := Lib.hid (HMk.out.ext x1); replace HNm := Lib.hid (HNm.out.ext x1); replace HPw := Lib.hid (HPw.out.ext x1); replace HVe := Lib.hid (HVe.out.ext x1); replace Hc := Lib.hid (Hc.out.ext x1); replace Hl := Lib.hid (Hl.out.ext x1); replace He := Lib.hid (He.out.ext x1); replace Hs := Lib.hid (Hs.out.ext x1); replace Ha := Lib.hid (Ha.out.ext x1)
    clear x1 hWk
    generalize wk4.heap.size = ba at *
    go_quiet (fail)
    go_wp2_with fail
    exact bodyPost_ret (v := .bool true) (by simp [results, Tryd.results3, go_sem]) rfl ⟨rfl, by first | exact HX.out | exact HX.out.drewN _⟩
end Go.Proofs.YtdiopiekmdfklaaDoor
