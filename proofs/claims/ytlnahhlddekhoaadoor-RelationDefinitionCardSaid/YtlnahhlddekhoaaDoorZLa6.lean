/-
  The walk of RelationDefinition. Printed by gen_law15.py.
-/
import Derived.Test.YtlnahhlddekhoaaDoorZDefL
import Derived.Test.YtlnahhlddekhoaaDoorZMonL
namespace Go.Proofs.YtlnahhlddekhoaaDoor
open Go.RowKit

set_option maxRecDepth 100000 in
set_option maxHeartbeats 16000000 in
theorem RelationDefinition_any (cells : List CellD) (list : List Int) (e : E) (old now : List Int) (vc vl ve vo vn : Value) (w : World) (hc : Cells w vc cells) (hl : Ints w vl list) (he : EVal w ve e) (ho : Ints w vo old) (hn : Ints w vn now) (hM : Masks w) (hT : DeB w) :
    Calls Tryd.prog 8 #[vc, vl, ve, vo, vn] w fun r w' => r = .returned (.bool true) ∧ Ext w w' := by
  obtain ⟨ca, cc, rfl⟩ := hc.shape
  obtain ⟨la, lc, rfl⟩ := hl.shape
  obtain ⟨ea, ec, rfl, _⟩ := he.shape'
  obtain ⟨oa, oc, rfl⟩ := ho.shape
  obtain ⟨na, nc, rfl⟩ := hn.shape
  generalize e.kids.length = el at *
  obtain ⟨W, hW⟩ : ∃ W, W = w.alloc (.cells #[.int .i64 e.op, .int .i64 e.wd, .int .i64 e.n, .slice ea el ec] 53) := ⟨_, rfl⟩
  have hx : Ext w W := by rw [hW]; exact (Ext.refl w).alloc _
  have HVe : Hid (VarE W w.heap.size e.op e.wd e.n (.slice ea el ec)) := by rw [hW]; exact VarE.new _ _ _ _ _
  have HX := Lib.hid hx; have HDe := Lib.hid (hT.ext hx); have HMk := Lib.hid (hM.ext hx); have HW := Lib.hid hW
  have Hc := Lib.hid (hc.ext hx); have Hl := Lib.hid (hl.ext hx); have He := Lib.hid (he.ext hx); have Ho := Lib.hid (ho.ext hx); have Hn := Lib.hid (hn.ext hx)
  clear hW hx hT hM hc hl he ho hn
  go_enter Tryd.func8, Tryd.ntmps8
  go_upto_region 1 with fail
  rw [← HW.out]
  clear HW
  generalize w.heap.size = be at *
  go_wp2_with fail
  refine (head_any W HDe.out HMk.out).mono ?_
  rintro r wk1 ⟨rfl, x1⟩
  replace HX := Lib.hid (HX.out.trans x1); replace HDe := Lib.hid (HDe.out.ext x1); replace HMk := Lib.hid (HMk.out.ext x1); replace HVe := Lib.hid (HVe.out.ext x1); replace Hc := Lib.hid (Hc.out.ext x1); replace Hl := Lib.hid (Hl.out.ext x1); replace He := Lib.hid (He.out.ext x1); replace Ho := Lib.hid (Ho.out.ext x1); replace Hn := Lib.hid (Hn.out.ext x1)
  clear x1
  by_cases t1 : 40 < cells.length
  · go_wp2_with fail
    exact bodyPost_ret (v := .bool true) (by simp [results, Tryd.results8, go_sem]) rfl ⟨rfl, HX.out⟩
  by_cases t2 : 40 < list.length
  · go_wp2_with fail
    exact bodyPost_ret (v := .bool true) (by simp [results, Tryd.results8, go_sem]) rfl ⟨rfl, HX.out⟩
  obtain ⟨qe0, qe1, qe2, qe3⟩ := HVe.out.cells
  go_wp2_with fail
  refine (RSmall_any e _ _ 40 He.out (by omega) (by omega)).mono ?_
  rintro r wk2 ⟨rfl, x1⟩
  replace HX := Lib.hid (HX.out.trans x1); replace HDe := Lib.hid (HDe.out.ext x1); replace HMk := Lib.hid (HMk.out.ext x1); replace HVe := Lib.hid (HVe.out.ext x1); replace Hc := Lib.hid (Hc.out.ext x1); replace Hl := Lib.hid (Hl.out.ext x1); replace He := Lib.hid (He.out.ext x1); replace Ho := Lib.hid (Ho.out.ext x1); replace Hn := Lib.hid (Hn.out.ext x1)
  clear x1 qe0 qe1 qe2 qe3
  cases h1 : decide ((e.size : Int) ≤ 40) with
  | false =>
    clear h1
    go_wp2_with fail
    exact bodyPost_ret (v := .bool true) (by simp [results, Tryd.results8, go_sem]) rfl ⟨rfl, HX.out⟩
  | true =>
  have HSm := Lib.hid h1; clear h1
  clear HSm
  by_cases t3 : 60 < old.length
  · go_wp2_with fail
    exact bodyPost_ret (v := .bool true) (by simp [results, Tryd.results8, go_sem]) rfl ⟨rfl, HX.out⟩
  by_cases t4 : 60 < now.length
  · go_wp2_with fail
    exact bodyPost_ret (v := .bool true) (by simp [results, Tryd.results8, go_sem]) rfl ⟨rfl, HX.out⟩
  have hl40 : list.length ≤ 1000000 := by omega
  obtain ⟨qe0, qe1, qe2, qe3⟩ := HVe.out.cells
  go_wp2_with fail
  refine (ROf_any cells list e _ _ _ _ Hc.out Hl.out He.out hl40 HMk.out HDe.out).mono ?_
  intro r wo hr
  unfold RelPost at hr
  clear qe0 qe1 qe2 qe3
  by_cases hz : relErr cells list e = 0
  · rw [if_pos hz] at hr
    have HZ := Lib.hid hz; clear hz
    obtain ⟨v, rfl, ov, x1⟩ := hr
    obtain ⟨a1, a2, a3, a4, a5, a6, a7, a8, a9, rfl⟩ := ov.relV.shape'
    have Ha := Lib.hid ov.relV
    replace HX := Lib.hid (HX.out.trans x1); replace HDe := Lib.hid (HDe.out.ext x1); replace HMk := Lib.hid (HMk.out.ext x1); replace HVe := Lib.hid (HVe.out.ext x1); replace Hc := Lib.hid (Hc.out.ext x1); replace Hl := Lib.hid (Hl.out.ext x1); replace He := Lib.hid (He.out.ext x1); replace Ho := Lib.hid (Ho.out.ext x1); replace Hn := Lib.hid (Hn.out.ext x1)
    clear x1 ov
    go_upto_region 5 with fail
    obtain ⟨Wk, hWk⟩ : ∃ Wk, Wk = wo.alloc (.cells #[.slice a1 a2 a3, .slice a4 a5 a6, .slice a7 a8 a9] 25) := ⟨_, rfl⟩
    have x1 : Ext wo Wk := by rw [hWk]; exact (Ext.refl _).alloc _
    have HVa : Hid (Var3 25 Wk wo.heap.size (.slice a1 a2 a3) (.slice a4 a5 a6) (.slice a7 a8 a9)) := by rw [hWk]; exact Var3.new _ _ _ _ _
    rw [← hWk]
    replace HX := Lib.hid (HX.out.trans x1); replace HDe := Lib.hid (HDe.out.ext x1); replace HMk := Lib.hid (HMk.out.ext x1); replace HVe := Lib.hid (HVe.out.ext x1); replace Hc := Lib.hid (Hc.out.ext x1); replace Hl := Lib.hid (Hl.out.ext x1); replace He := Lib.hid (He.out.ext x1); replace Ho := Lib.hid (Ho.out.ext x1); replace Hn := Lib.hid (Hn.out.ext x1); replace Ha := Lib.hid (Ha.out.ext x1)
    clear x1 hWk
    generalize wo.heap.size = ba at *
    obtain ⟨qa0, qa1, qa2⟩ := HVa.out.cells
    go_upto_region 8 with fail
    obtain ⟨Ws, hWs⟩ : ∃ Ws, Ws = Wk.alloc (.cells #[.slice a1 a2 a3, .slice a4 a5 a6, .slice none 0 0] 27) := ⟨_, rfl⟩
    have x1 : Ext Wk Ws := by rw [hWs]; exact (Ext.refl _).alloc _
    have HVs : Hid (Var3 27 Ws Wk.heap.size (.slice a1 a2 a3) (.slice a4 a5 a6) (.slice none 0 0)) := by rw [hWs]; exact Var3.new _ _ _ _ _
    rw [← hWs]
    replace HX := Lib.hid (HX.out.trans x1); replace HDe := Lib.hid (HDe.out.ext x1); replace HMk := Lib.hid (HMk.out.ext x1); replace HVe := Lib.hid (HVe.out.ext x1); replace Hc := Lib.hid (Hc.out.ext x1); replace Hl := Lib.hid (Hl.out.ext x1); replace He := Lib.hid (He.out.ext x1); replace Ho := Lib.hid (Ho.out.ext x1); replace Hn := Lib.hid (Hn.out.ext x1); replace Ha := Lib.hid (Ha.out.ext x1); replace HVa := Lib.hid (HVa.out.ext x1)
    clear x1 hWs qa0 qa1 qa2
    generalize Wk.heap.size = bs at *
    have Hs : Hid (SetV Ws (.agg #[.slice a1 a2 a3, .slice a4 a5 a6, .slice none 0 0]) list (wOf cells list) []) := ⟨_, _, _, rfl, relv_cs Ha.out, relv_ws Ha.out, .inl ⟨⟨_, _, rfl⟩, rfl⟩⟩
    have HL0 := Lib.hid (def_law HZ.out old now)
    obtain ⟨v, hv⟩ : ∃ v, v = e.eval old now := ⟨_, rfl⟩
    rw [← hv] at HL0
    have HVV := Lib.hid hv
    obtain ⟨q, hq⟩ : ∃ q, (v == 1) = q := ⟨_, rfl⟩
    have HL1 : Hid (leadsB (castP (relP cells list e)) (numS list (wOf cells list) old) (numS list (wOf cells list) now) = q) := by
      unfold Hid; rw [HL0.out, ← hq, Bool.eq_iff_iff, decide_eq_true_eq, beq_iff_eq]
    clear hv HL0
    have HR0 := Lib.hid ((Ext.refl Ws).drew)
    obtain ⟨za0, za1, za2⟩ := HVa.out.cells
    obtain ⟨zs0, zs1, zs2⟩ := HVs.out.cells
    obtain ⟨ze0, ze1, ze2, ze3⟩ := HVe.out.cells
    go_region_held3 (fun w' => (w'.cell? ⟨ba, 0, none⟩ = some (.slice a1 a2 a3) ∧ w'.cell? ⟨ba, 1, none⟩ = some (.slice a4 a5 a6) ∧ w'.cell? ⟨ba, 2, none⟩ = some (.slice a7 a8 a9)) ∧ (w'.cell? ⟨bs, 0, none⟩ = some (.slice a1 a2 a3) ∧ w'.cell? ⟨bs, 1, none⟩ = some (.slice a4 a5 a6) ∧ w'.cell? ⟨bs, 2, none⟩ = some (.slice none 0 0)) ∧ (w'.cell? ⟨be, 0, none⟩ = some (.int .i64 e.op) ∧ w'.cell? ⟨be, 1, none⟩ = some (.int .i64 e.wd) ∧ w'.cell? ⟨be, 2, none⟩ = some (.int .i64 e.n) ∧ w'.cell? ⟨be, 3, none⟩ = some (.slice ea el ec)))
      (first | (with_reducible exact hk4) | (with_reducible exact hk3) | (with_reducible exact hk2) | (with_reducible exact hk1) | exact ⟨⟨za0, za1, za2⟩, ⟨zs0, zs1, zs2⟩, ⟨ze0, ze1, ze2, ze3⟩⟩ | fail)
      ((first
        | (have hgo := HR3.out; clear hgo; go_at_call 32; refine (Eval_any e _ _ _ old now _ (He.out.ext HR3.out) (Ho.out.ext HR3.out) (Hn.out.ext HR3.out) (HMk.out.ext HR3.out)).mono ?_; rintro r wh4 ⟨rfl, x1⟩; rw [← HVV.out]; have HR4 := Lib.hid (HR3.out.trans x1); have hk4 := And.intro (HVa.out.ext HR4.out).cells (And.intro (HVs.out.ext HR4.out).cells ((HVe.out.ext HR4.out).cells)); clear x1)
        | (have hgo := HR2.out; clear hgo; go_at_call 27; refine (leads_any list (wOf cells list) (castP (relP cells list e)) (numS list (wOf cells list) old) (numS list (wOf cells list) now) _ _ (Ha.out.ext HR2.out)).mono ?_; rintro r wh3 ⟨rfl, x1⟩; rw [HL1.out]; have HR3 := Lib.hid (HR2.out.trans x1); have hk3 := And.intro (HVa.out.ext HR3.out).cells (And.intro (HVs.out.ext HR3.out).cells ((HVe.out.ext HR3.out).cells)); clear x1)
        | (have hgo := HR1.out; clear hgo; go_at_call 31; refine (Number_any list (wOf cells list) [] now _ _ _ (Hs.out.ext HR1.out) (Hn.out.ext HR1.out)).mono ?_; rintro r wh2 ⟨rfl, x1⟩; have HR2 := Lib.hid (HR1.out.trans x1); have hk2 := And.intro (HVa.out.ext HR2.out).cells (And.intro (HVs.out.ext HR2.out).cells ((HVe.out.ext HR2.out).cells)); clear x1)
        | (have hgo := HR0.out; clear hgo; go_at_call 31; refine (Number_any list (wOf cells list) [] old _ _ _ (Hs.out.ext HR0.out) (Ho.out.ext HR0.out)).mono ?_; rintro r wh1 ⟨rfl, x1⟩; have HR1 := Lib.hid (HR0.out.trans x1); have hk1 := And.intro (HVa.out.ext HR1.out).cells (And.intro (HVs.out.ext HR1.out).cells ((HVe.out.ext HR1.out).cells)); clear x1)))
    replace HX := Lib.hid (HX.out.trans HR4.out)
    go_wp2_with fail
    exact bodyPost_ret (v := .bool true) (by simp [results, Tryd.results8, go_sem]) rfl ⟨rfl, HX.out⟩
  · rw [if_neg hz] at hr
    obtain ⟨k, hk⟩ : ∃ k, k = relErr cells list e := ⟨_, rfl⟩
    rw [← hk] at hr hz
    have hk0 : (k != 0) = true := by simpa using hz
    clear hk hz
    obtain ⟨v, rfl, ov, x1⟩ := hr
    obtain ⟨a1, a2, a3, a4, a5, a6, a7, a8, a9, rfl⟩ := ov.relV.shape'
    have Ha := Lib.hid ov.relV
    replace HX := Lib.hid (HX.out.trans x1); replace HDe := Lib.hid (HDe.out.ext x1); replace HMk := Lib.hid (HMk.out.ext x1); replace HVe := Lib.hid (HVe.out.ext x1); replace Hc := Lib.hid (Hc.out.ext x1); replace Hl := Lib.hid (Hl.out.ext x1); replace He := Lib.hid (He.out.ext x1); replace Ho := Lib.hid (Ho.out.ext x1); replace Hn := Lib.hid (Hn.out.ext x1)
    clear x1 ov
    go_upto_region 5 with fail
    obtain ⟨Wk, hWk⟩ : ∃ Wk, Wk = wo.alloc (.cells #[.slice a1 a2 a3, .slice a4 a5 a6, .slice a7 a8 a9] 25) := ⟨_, rfl⟩
    have x1 : Ext wo Wk := by rw [hWk]; exact (Ext.refl _).alloc _
    have HVa : Hid (Var3 25 Wk wo.heap.size (.slice a1 a2 a3) (.slice a4 a5 a6) (.slice a7 a8 a9)) := by rw [hWk]; exact Var3.new _ _ _ _ _
    rw [← hWk]
    replace HX := Lib.hid (HX.out.trans x1); replace HDe := Lib.hid (HDe.out.ext x1); replace HMk := Lib.hid (HMk.out.ext x1); replace HVe := Lib.hid (HVe.out.ext x1); replace Hc := Lib.hid (Hc.out.ext x1); replace Hl := Lib.hid (Hl.out.ext x1); replace He := Lib.hid (He.out.ext x1); replace Ho := Lib.hid (Ho.out.ext x1); replace Hn := Lib.hid (Hn.out.ext x1); replace Ha := Lib.hid (Ha.out.ext x1)
    clear x1 hWk
    generalize wo.heap.size = ba at *
    obtain rfl : a8 = 0 := relv_len (P := []) Ha.out
    obtain ⟨qa0, qa1, qa2⟩ := HVa.out.cells
    go_wp2_with fail
    exact bodyPost_ret (v := .bool true) (by simp [results, Tryd.results8, go_sem]) rfl ⟨rfl, HX.out⟩
end Go.Proofs.YtlnahhlddekhoaaDoor
