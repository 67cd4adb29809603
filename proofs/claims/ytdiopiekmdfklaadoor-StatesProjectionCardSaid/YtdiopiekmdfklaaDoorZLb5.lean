/-
  The walk of StatesProjection. Printed by gen_law10.py.
-/
import Derived.Test.YtdiopiekmdfklaaDoorMPjl
import Derived.Test.YtdiopiekmdfklaaDoorMApp
import Derived.Test.YtdiopiekmdfklaaDoorMHb
import Derived.Test.YtdiopiekmdfklaaDoorMAlg
import Derived.Deep.RegionHeld3
namespace Go.Proofs.YtdiopiekmdfklaaDoor
open Go.RowKit

theorem sameS_self3 {cs ws is cs2 ws2 js : List Int} (h1 : cs2 = cs) (h2 : ws2 = ws) (h3 : js = is) : sameS cs ws is cs2 ws2 js = true := by subst h1 h2 h3; simp [sameS]
theorem setc_all {w : World} {a1 a4 a7 : Option Addr} {a2 a3 a5 a6 a8 a9 : Nat} {cs ws is : List Int} (h : SetC w (.agg #[.slice a1 a2 a3, .slice a4 a5 a6, .slice a7 a8 a9]) cs ws is) : (Ints w (.slice a1 a2 a3) cs ∧ Ints w (.slice a4 a5 a6) ws ∧ Ints w (.slice a7 a8 a9) is) ∧ a2 = cs.length ∧ a5 = ws.length ∧ a8 = is.length := by
  obtain ⟨_, _, _, e, h1, h2, h3⟩ := h
  cases e
  obtain ⟨_, _, e1, _⟩ := h1.2
  obtain ⟨_, _, e2, _⟩ := h2.2
  obtain ⟨_, _, e3, _⟩ := h3.2
  cases e1; cases e2; cases e3; exact ⟨⟨h1.1, h2.1, h3.1⟩, rfl, rfl, rfl⟩
theorem Project_ok {cs ws list : List Int} {S : List Nat} (h : ValidS cs ws S) (hi : incB list = true) (hs : subB cs list = true) (hb : list.length ≤ 1000000) (va vl : Value) (w : World) (ha : SetV w va cs ws (castL S)) (hl : Ints w vl list) (hT : DeB w) : Calls Tryd.prog 29 #[va, vl] w (RetC 0 list (wPr cs ws list) (castL (prL cs ws S list)) w) := by
  refine (Project_any cs ws (castL S) list va vl w ha hl hb hT).mono fun r w' hr => ?_
  unfold ProjPost at hr
  have hp : prB cs ws (castL S) list = true := by unfold prB; rw [valid_of h, hi, hs]; rfl
  rw [hp, if_pos rfl, natL_cast] at hr
  exact hr.retC
theorem comb_parts2 {cs ws cs2 ws2 js : List Int} {S : List Nat} (hS : ValidS cs ws S) (h : combB cs ws (castL S) cs2 ws2 js = true) : cs2 = cs ∧ ws2 = ws ∧ ∃ T, js = castL T ∧ ValidS cs ws T := by
  unfold combB at h
  simp only [Bool.and_eq_true, decide_eq_true_eq] at h
  obtain ⟨⟨⟨_, h2⟩, rfl⟩, rfl⟩ := h
  obtain ⟨e2, v2⟩ := valid_nat h2
  exact ⟨rfl, rfl, _, e2.symm, v2⟩
theorem comb_no {g : Nat → Nat → Nat} {cs ws is cs2 ws2 js : List Int} {w : World} {r : Ending} {w' : World} (h : combB cs ws is cs2 ws2 js = false) (hr : CombPost g cs ws is cs2 ws2 js w r w') : RetC 1 [] [] [] w r w' := by
  unfold CombPost at hr; rw [h] at hr; exact SetRes.retC hr
theorem comb_yes {g : Nat → Nat → Nat} {cs ws : List Int} {S T : List Nat} {w : World} {r : Ending} {w' : World} (hS : ValidS cs ws S) (hT : ValidS cs ws T) (hr : CombPost g cs ws (castL S) cs ws (castL T) w r w') : RetC 0 cs ws (castL (cmbL g S T)) w r w' := by
  unfold CombPost at hr; rw [comb_back hS hT, if_pos rfl] at hr
  have := hr.retC
  unfold combL at this
  rw [natL_cast, natL_cast] at this; exact this
set_option maxRecDepth 100000 in
set_option maxHeartbeats 16000000 in
theorem StatesProjection_any (cs ws is cs2 ws2 js : List Int) (keep also : List Bool) (st : List Int) (va vb vk vo vs : Value) (w : World) (ha : SetC w va cs ws is) (hb : SetC w vb cs2 ws2 js) (hk : Bools w vk keep) (ho : Bools w vo also) (hs : Ints w vs st) (hT : DeB w) (hM : Masks w) (hN : Names w) (hP : Pow10 w) :
    Calls Tryd.prog 6 #[va, vb, vk, vo, vs] w fun r w' => r = .returned (.bool true) ∧ Ext w w' := by
  obtain ⟨a1, a2, a3, a4, a5, a6, a7, a8, a9, rfl⟩ := ha.shape'
  obtain ⟨b1, b2, b3, b4, b5, b6, b7, b8, b9, rfl⟩ := hb.shape'
  obtain ⟨ka, kc, rfl⟩ := hk.shape
  obtain ⟨oa, oc, rfl⟩ := ho.shape
  obtain ⟨sa, sc, rfl⟩ := hs.shape
  obtain ⟨W, hW⟩ : ∃ W, Boxes w W (.cells #[.slice a1 a2 a3, .slice a4 a5 a6, .slice a7 a8 a9] 31) (.cells #[.slice b1 b2 b3, .slice b4 b5 b6, .slice b7 b8 b9] 31) := ⟨_, Boxes.mk' _ _ _⟩
  have hx := hW.ext
  have HVa : Hid (Var3 31 W w.heap.size (.slice a1 a2 a3) (.slice a4 a5 a6) (.slice a7 a8 a9)) := hW.b0
  have HVb : Hid (Var3 31 W (w.heap.size + 1) (.slice b1 b2 b3) (.slice b4 b5 b6) (.slice b7 b8 b9)) := hW.b1
  have Ha := Lib.hid (ha.ext hx)
  have Hb := Lib.hid (hb.ext hx)
  have Hk := Lib.hid (hk.ext hx)
  have Ho := Lib.hid (ho.ext hx)
  have Hs := Lib.hid (hs.ext hx)
  have HX := Lib.hid hx; have HDe := Lib.hid (hT.ext hx); have HMk := Lib.hid (hM.ext hx); have HNm := Lib.hid (hN.ext hx); have HPw := Lib.hid (hP.ext hx); have HW := Lib.hid hW.eq
  clear hW hx hT hM hN hP ha hb hk ho hs
  go_enter Tryd.func6, Tryd.ntmps6
  go_upto_region 1 with fail
  rw [← HW.out]
  clear HW
  generalize w.heap.size + 1 = bb at *
  generalize w.heap.size = ba at *
  go_wp2_with fail
  refine (head_any W HDe.out HMk.out HNm.out HPw.out).mono ?_
  rintro r wk1 ⟨rfl, x1⟩
  replace HX := Lib.hid (HX.out.trans x1); replace HDe := Lib.hid (HDe.out.ext x1); replace HMk := Lib.hid (HMk.out.ext x1); replace HNm := Lib.hid (HNm.out.ext x1); replace HPw := Lib.hid (HPw.out.ext x1); replace HVa := Lib.hid (HVa.out.ext x1); replace HVb := Lib.hid (HVb.out.ext x1); replace Ha := Lib.hid (Ha.out.ext x1); replace Hb := Lib.hid (Hb.out.ext x1); replace Hk := Lib.hid (Hk.out.ext x1); replace Ho := Lib.hid (Ho.out.ext x1); replace Hs := Lib.hid (Hs.out.ext x1)
  clear x1
  obtain ⟨qa0, qa1, qa2⟩ := HVa.out.cells
  go_wp2_with fail
  refine (Short10_any cs ws is _ _ Ha.out.setV).mono ?_
  rintro r wk2 ⟨rfl, x1⟩
  replace HX := Lib.hid (HX.out.trans x1); replace HDe := Lib.hid (HDe.out.ext x1); replace HMk := Lib.hid (HMk.out.ext x1); replace HNm := Lib.hid (HNm.out.ext x1); replace HPw := Lib.hid (HPw.out.ext x1); replace HVa := Lib.hid (HVa.out.ext x1); replace HVb := Lib.hid (HVb.out.ext x1); replace Ha := Lib.hid (Ha.out.ext x1); replace Hb := Lib.hid (Hb.out.ext x1); replace Hk := Lib.hid (Hk.out.ext x1); replace Ho := Lib.hid (Ho.out.ext x1); replace Hs := Lib.hid (Hs.out.ext x1)
  clear x1 qa0 qa1 qa2
  cases h1 : shortB cs.length ws.length is.length with
  | false =>
    clear h1
    go_wp2_with fail
    exact bodyPost_ret (v := .bool true) (by simp [results, Tryd.results6, go_sem]) rfl ⟨rfl, HX.out⟩
  | true =>
  have HF1 := Lib.hid h1; clear h1
  clear HF1
  obtain ⟨qb0, qb1, qb2⟩ := HVb.out.cells
  go_wp2_with fail
  refine (Short10_any cs2 ws2 js _ _ Hb.out.setV).mono ?_
  rintro r wk3 ⟨rfl, x1⟩
  replace HX := Lib.hid (HX.out.trans x1); replace HDe := Lib.hid (HDe.out.ext x1); replace HMk := Lib.hid (HMk.out.ext x1); replace HNm := Lib.hid (HNm.out.ext x1); replace HPw := Lib.hid (HPw.out.ext x1); replace HVa := Lib.hid (HVa.out.ext x1); replace HVb := Lib.hid (HVb.out.ext x1); replace Ha := Lib.hid (Ha.out.ext x1); replace Hb := Lib.hid (Hb.out.ext x1); replace Hk := Lib.hid (Hk.out.ext x1); replace Ho := Lib.hid (Ho.out.ext x1); replace Hs := Lib.hid (Hs.out.ext x1)
  clear x1 qb0 qb1 qb2
  cases h1 : shortB cs2.length ws2.length js.length with
  | false =>
    clear h1
    go_wp2_with fail
    exact bodyPost_ret (v := .bool true) (by simp [results, Tryd.results6, go_sem]) rfl ⟨rfl, HX.out⟩
  | true =>
  have HF1 := Lib.hid h1; clear h1
  clear HF1
  obtain ⟨qa0, qa1, qa2⟩ := HVa.out.cells
  go_wp2_with fail
  refine (RSValid_any cs ws is _ _ Ha.out.setV).mono ?_
  rintro r wk4 ⟨rfl, x1⟩
  replace HX := Lib.hid (HX.out.trans x1); replace HDe := Lib.hid (HDe.out.ext x1); replace HMk := Lib.hid (HMk.out.ext x1); replace HNm := Lib.hid (HNm.out.ext x1); replace HPw := Lib.hid (HPw.out.ext x1); replace HVa := Lib.hid (HVa.out.ext x1); replace HVb := Lib.hid (HVb.out.ext x1); replace Ha := Lib.hid (Ha.out.ext x1); replace Hb := Lib.hid (Hb.out.ext x1); replace Hk := Lib.hid (Hk.out.ext x1); replace Ho := Lib.hid (Ho.out.ext x1); replace Hs := Lib.hid (Hs.out.ext x1)
  clear x1 qa0 qa1 qa2
  cases h1 : validB cs ws is with
  | false =>
    clear h1
    go_wp2_with fail
    exact bodyPost_ret (v := .bool true) (by simp [results, Tryd.results6, go_sem]) rfl ⟨rfl, HX.out⟩
  | true =>
  have HF1 := Lib.hid h1; clear h1
  obtain ⟨hcast, hvs⟩ := valid_nat HF1.out
  generalize natL is = S at *
  subst hcast
  have HS := Lib.hid hvs
  clear HF1 hvs
  by_cases t1 : 60 < st.length
  · go_wp2_with fail
    exact bodyPost_ret (v := .bool true) (by simp [results, Tryd.results6, go_sem]) rfl ⟨rfl, HX.out⟩
  have hc32 := shape_len (small_sum HS.out.small).1
  have HC32 := Lib.hid hc32; clear hc32
  obtain ⟨qa0, qa1, qa2⟩ := HVa.out.cells
  go_wp2_with fail
  refine (picked_any cs keep _ _ _ (setc_all Ha.out).1.1 Hk.out (by have := HC32.out; omega)).mono ?_
  rintro r wk5 ⟨v, rfl, o1, x1⟩
  obtain ⟨la, lc, rfl⟩ := o1.ints.shape
  have Hl := Lib.hid o1.ints
  have HIl := Lib.hid (pick_inc (shape_iff.1 (small_sum HS.out.small).1).2.1 keep)
  have HUl := Lib.hid (pick_sub cs keep)
  have HLL : Hid ((pickL cs keep).length ≤ 32) := Nat.le_trans (pickTo_len _ _ _) HC32.out
  generalize pickL cs keep = list at *
  replace HX := Lib.hid (HX.out.trans x1); replace HDe := Lib.hid (HDe.out.ext x1); replace HMk := Lib.hid (HMk.out.ext x1); replace HNm := Lib.hid (HNm.out.ext x1); replace HPw := Lib.hid (HPw.out.ext x1); replace HVa := Lib.hid (HVa.out.ext x1); replace HVb := Lib.hid (HVb.out.ext x1); replace Ha := Lib.hid (Ha.out.ext x1); replace Hb := Lib.hid (Hb.out.ext x1); replace Hk := Lib.hid (Hk.out.ext x1); replace Ho := Lib.hid (Ho.out.ext x1); replace Hs := Lib.hid (Hs.out.ext x1)
  clear x1 o1 qa0 qa1 qa2
  go_wp2_with fail
  refine (picked_any list also _ _ _ Hl.out Ho.out (by have := HLL.out; omega)).mono ?_
  rintro r wk6 ⟨v, rfl, o1, x1⟩
  obtain ⟨ma, mc, rfl⟩ := o1.ints.shape
  have Hm := Lib.hid o1.ints
  have HIm := Lib.hid (pick_inc HIl.out also)
  have HUm := Lib.hid (pick_sub list also)
  have HLL2 : Hid ((pickL list also).length ≤ 32) := Nat.le_trans (pickTo_len _ _ _) HLL.out
  generalize pickL list also = less at *
  replace HX := Lib.hid (HX.out.trans x1); replace HDe := Lib.hid (HDe.out.ext x1); replace HMk := Lib.hid (HMk.out.ext x1); replace HNm := Lib.hid (HNm.out.ext x1); replace HPw := Lib.hid (HPw.out.ext x1); replace HVa := Lib.hid (HVa.out.ext x1); replace HVb := Lib.hid (HVb.out.ext x1); replace Ha := Lib.hid (Ha.out.ext x1); replace Hb := Lib.hid (Hb.out.ext x1); replace Hk := Lib.hid (Hk.out.ext x1); replace Ho := Lib.hid (Ho.out.ext x1); replace Hs := Lib.hid (Hs.out.ext x1); replace Hl := Lib.hid (Hl.out.ext x1)
  clear x1 o1 
  have HSMl := Lib.hid (pr_small HS.out.small HIl.out HUl.out)
  have HUm2 := Lib.hid (sub_trans' HUl.out HUm.out)
  have HVP := Lib.hid (pr_valid HSMl.out S)
  have HTW := Lib.hid (prL_twice HS.out.small HIl.out HUl.out HIm.out HUm.out S)
  have HTWw := Lib.hid (wPr_twice HIl.out HUm.out (cs := cs) (ws := ws))
  have hl6 : list.length ≤ 1000000 := by have := HLL.out; omega
  have hm6 : less.length ≤ 1000000 := by have := HLL2.out; omega
  obtain ⟨qa0, qa1, qa2⟩ := HVa.out.cells
  go_wp2_with fail
  refine (Project_ok HS.out HIl.out HUl.out hl6 _ _ _ Ha.out.setV Hl.out HDe.out).mono ?_
  rintro r wk7 ⟨p1, p2, p3, p4, p5, p6, p7, p8, p9, rfl, e, x1⟩
  have Hp := Lib.hid e; clear e
  replace HX := Lib.hid (HX.out.trans x1); replace HDe := Lib.hid (HDe.out.ext x1); replace HMk := Lib.hid (HMk.out.ext x1); replace HNm := Lib.hid (HNm.out.ext x1); replace HPw := Lib.hid (HPw.out.ext x1); replace HVa := Lib.hid (HVa.out.ext x1); replace HVb := Lib.hid (HVb.out.ext x1); replace Ha := Lib.hid (Ha.out.ext x1); replace Hb := Lib.hid (Hb.out.ext x1); replace Hk := Lib.hid (Hk.out.ext x1); replace Ho := Lib.hid (Ho.out.ext x1); replace Hs := Lib.hid (Hs.out.ext x1); replace Hl := Lib.hid (Hl.out.ext x1); replace Hm := Lib.hid (Hm.out.ext x1)
  clear x1 qa0 qa1 qa2
  go_upto_region 7 with fail
  obtain ⟨Wk7, hWk⟩ : ∃ Wk, Wk = wk7.alloc (.cells #[.slice p1 p2 p3, .slice p4 p5 p6, .slice p7 p8 p9] 31) := ⟨_, rfl⟩
  have x1 : Ext wk7 Wk7 := by rw [hWk]; exact (Ext.refl _).alloc _
  have HVp : Hid (Var3 31 Wk7 wk7.heap.size (.slice p1 p2 p3) (.slice p4 p5 p6) (.slice p7 p8 p9)) := by rw [hWk]; exact Var3.new _ _ _ _ _
  rw [← hWk]
  replace HX := Lib.hid (HX.out.trans x1); replace HDe := Lib.hid (HDe.out.ext x1); replace HMk := Lib.hid (HMk.out.ext x1); replace HNm := Lib.hid (HNm.out.ext x1); replace HPw := Lib.hid (HPw.out.ext x1); replace HVa := Lib.hid (HVa.out.ext x1); replace HVb := Lib.hid (HVb.out.ext x1); replace Ha := Lib.hid (Ha.out.ext x1); replace Hb := Lib.hid (Hb.out.ext x1); replace Hk := Lib.hid (Hk.out.ext x1); replace Ho := Lib.hid (Ho.out.ext x1); replace Hs := Lib.hid (Hs.out.ext x1); replace Hl := Lib.hid (Hl.out.ext x1); replace Hm := Lib.hid (Hm.out.ext x1); replace Hp := Lib.hid (Hp.out.ext x1)
  clear x1 hWk
  generalize wk7.heap.size = bp at *
  obtain ⟨qp0, qp1, qp2⟩ := HVp.out.cells
  go_wp2_with fail
  refine (Project_ok HVP.out HIm.out HUm.out hm6 _ _ _ Hp.out.setV Hm.out HDe.out).mono ?_
  rintro r wk8 ⟨q1, q2, q3, q4, q5, q6, q7, q8, q9, rfl, e, x1⟩
  have Hq := Lib.hid e; clear e
  replace HX := Lib.hid (HX.out.trans x1); replace HDe := Lib.hid (HDe.out.ext x1); replace HMk := Lib.hid (HMk.out.ext x1); replace HNm := Lib.hid (HNm.out.ext x1); replace HPw := Lib.hid (HPw.out.ext x1); replace HVa := Lib.hid (HVa.out.ext x1); replace HVb := Lib.hid (HVb.out.ext x1); replace Ha := Lib.hid (Ha.out.ext x1); replace Hb := Lib.hid (Hb.out.ext x1); replace Hk := Lib.hid (Hk.out.ext x1); replace Ho := Lib.hid (Ho.out.ext x1); replace Hs := Lib.hid (Hs.out.ext x1); replace Hl := Lib.hid (Hl.out.ext x1); replace Hm := Lib.hid (Hm.out.ext x1); replace Hp := Lib.hid (Hp.out.ext x1); replace HVp := Lib.hid (HVp.out.ext x1)
  clear x1 qp0 qp1 qp2
  go_upto_region 8 with fail
  obtain ⟨Wk8, hWk⟩ : ∃ Wk, Wk = wk8.alloc (.cells #[.slice q1 q2 q3, .slice q4 q5 q6, .slice q7 q8 q9] 31) := ⟨_, rfl⟩
  have x1 : Ext wk8 Wk8 := by rw [hWk]; exact (Ext.refl _).alloc _
  have HVq : Hid (Var3 31 Wk8 wk8.heap.size (.slice q1 q2 q3) (.slice q4 q5 q6) (.slice q7 q8 q9)) := by rw [hWk]; exact Var3.new _ _ _ _ _
  rw [← hWk]
  replace HX := Lib.hid (HX.out.trans x1); replace HDe := Lib.hid (HDe.out.ext x1); replace HMk := Lib.hid (HMk.out.ext x1); replace HNm := Lib.hid (HNm.out.ext x1); replace HPw := Lib.hid (HPw.out.ext x1); replace HVa := Lib.hid (HVa.out.ext x1); replace HVb := Lib.hid (HVb.out.ext x1); replace Ha := Lib.hid (Ha.out.ext x1); replace Hb := Lib.hid (Hb.out.ext x1); replace Hk := Lib.hid (Hk.out.ext x1); replace Ho := Lib.hid (Ho.out.ext x1); replace Hs := Lib.hid (Hs.out.ext x1); replace Hl := Lib.hid (Hl.out.ext x1); replace Hm := Lib.hid (Hm.out.ext x1); replace Hp := Lib.hid (Hp.out.ext x1); replace HVp := Lib.hid (HVp.out.ext x1); replace Hq := Lib.hid (Hq.out.ext x1)
  clear x1 hWk
  generalize wk8.heap.size = bq at *
  obtain ⟨qa0, qa1, qa2⟩ := HVa.out.cells
  go_wp2_with fail
  refine (Project_ok HS.out HIm.out HUm2.out hm6 _ _ _ Ha.out.setV Hm.out HDe.out).mono ?_
  rintro r wk9 ⟨r1, r2, r3, r4, r5, r6, r7, r8, r9, rfl, e, x1⟩
  have Hr := Lib.hid e; clear e
  replace HX := Lib.hid (HX.out.trans x1); replace HDe := Lib.hid (HDe.out.ext x1); replace HMk := Lib.hid (HMk.out.ext x1); replace HNm := Lib.hid (HNm.out.ext x1); replace HPw := Lib.hid (HPw.out.ext x1); replace HVa := Lib.hid (HVa.out.ext x1); replace HVb := Lib.hid (HVb.out.ext x1); replace Ha := Lib.hid (Ha.out.ext x1); replace Hb := Lib.hid (Hb.out.ext x1); replace Hk := Lib.hid (Hk.out.ext x1); replace Ho := Lib.hid (Ho.out.ext x1); replace Hs := Lib.hid (Hs.out.ext x1); replace Hl := Lib.hid (Hl.out.ext x1); replace Hm := Lib.hid (Hm.out.ext x1); replace Hp := Lib.hid (Hp.out.ext x1); replace HVp := Lib.hid (HVp.out.ext x1); replace Hq := Lib.hid (Hq.out.ext x1); replace HVq := Lib.hid (HVq.out.ext x1)
  clear x1 qa0 qa1 qa2
  go_upto_region 9 with fail
  obtain ⟨Wk9, hWk⟩ : ∃ Wk, Wk = wk9.alloc (.cells #[.slice r1 r2 r3, .slice r4 r5 r6, .slice r7 r8 r9] 31) := ⟨_, rfl⟩
  have x1 : Ext wk9 Wk9 := by rw [hWk]; exact (Ext.refl _).alloc _
  have HVr : Hid (Var3 31 Wk9 wk9.heap.size (.slice r1 r2 r3) (.slice r4 r5 r6) (.slice r7 r8 r9)) := by rw [hWk]; exact Var3.new _ _ _ _ _
  rw [← hWk]
  replace HX := Lib.hid (HX.out.trans x1); replace HDe := Lib.hid (HDe.out.ext x1); replace HMk := Lib.hid (HMk.out.ext x1); replace HNm := Lib.hid (HNm.out.ext x1); replace HPw := Lib.hid (HPw.out.ext x1); replace HVa := Lib.hid (HVa.out.ext x1); replace HVb := Lib.hid (HVb.out.ext x1); replace Ha := Lib.hid (Ha.out.ext x1); replace Hb := Lib.hid (Hb.out.ext x1); replace Hk := Lib.hid (Hk.out.ext x1); replace Ho := Lib.hid (Ho.out.ext x1); replace Hs := Lib.hid (Hs.out.ext x1); replace Hl := Lib.hid (Hl.out.ext x1); replace Hm := Lib.hid (Hm.out.ext x1); replace Hp := Lib.hid (Hp.out.ext x1); replace HVp := Lib.hid (HVp.out.ext x1); replace Hq := Lib.hid (Hq.out.ext x1); replace HVq := Lib.hid (HVq.out.ext x1); replace Hr := Lib.hid (Hr.out.ext x1)
  clear x1 hWk
  generalize wk9.heap.size = br at *
  have HQR := Lib.hid (sameS_self3 (cs := less) (cs2 := less) (ws := wPr list (wPr cs ws list) less) (ws2 := wPr cs ws less) (is := castL (prL list (wPr cs ws list) (prL cs ws S list) less)) (js := castL (prL cs ws S less)) rfl HTWw.out.symm (by rw [HTW.out]))
  have hp5 : p5 = list.length := ((setc_all Hp.out).2.2.1).trans (wPr_len _ _ _)
  have hr5' := hp5
  subst hp5
  have HP5 : Hid (list.length = list.length) := rfl
  clear hr5'
  obtain ⟨qq0, qq1, qq2⟩ := HVq.out.cells
  obtain ⟨qr0, qr1, qr2⟩ := HVr.out.cells
  go_wp2_with fail
  refine (RSame10_any less _ _ less _ _ _ _ _ Hq.out.setV Hr.out.setV).mono ?_
  rintro r wk10 ⟨rfl, x1⟩
  rw [HQR.out]
  replace HX := Lib.hid (HX.out.trans x1); replace HDe := Lib.hid (HDe.out.ext x1); replace HMk := Lib.hid (HMk.out.ext x1); replace HNm := Lib.hid (HNm.out.ext x1); replace HPw := Lib.hid (HPw.out.ext x1); replace HVa := Lib.hid (HVa.out.ext x1); replace HVb := Lib.hid (HVb.out.ext x1); replace Ha := Lib.hid (Ha.out.ext x1); replace Hb := Lib.hid (Hb.out.ext x1); replace Hk := Lib.hid (Hk.out.ext x1); replace Ho := Lib.hid (Ho.out.ext x1); replace Hs := Lib.hid (Hs.out.ext x1); replace Hl := Lib.hid (Hl.out.ext x1); replace Hm := Lib.hid (Hm.out.ext x1); replace Hp := Lib.hid (Hp.out.ext x1); replace HVp := Lib.hid (HVp.out.ext x1); replace Hq := Lib.hid (Hq.out.ext x1); replace HVq := Lib.hid (HVq.out.ext x1); replace Hr := Lib.hid (Hr.out.ext x1); replace HVr := Lib.hid (HVr.out.ext x1)
  clear x1 qq0 qq1 qq2 qr0 qr1 qr2
  obtain ⟨qp0, qp1, qp2⟩ := HVp.out.cells
  go_upto_region 13 with fail
  clear qp0 qp1 qp2
  have ha8 : a8 = S.length := ((setc_all Ha.out).2.2.2).trans (castL_len _)
  have hS4 : S.length ≤ 4096 := sorted_len HS.out.sorted HS.out.lt4096
  subst ha8
  have HEND := Lib.hid (prj_contains HS.out.small HIl.out HUl.out S st)
  go_loopw [20, 21] (fun s i wr => ∃ k : Nat, k ≤ S.length ∧ i = .int .i64 k ∧ s = .bool ((S.take k).any (agreeB cs ws list st)) ∧ Ext wk10 wr) (fun _ i _ => S.length - (intOf i).toNat)
  case atStart => exact ⟨0, Nat.zero_le _, rfl, rfl, Ext.refl _⟩
  case round =>
    obtain ⟨k, hk, rfl, rfl, x1⟩ := hrel
    have HXr := Lib.hid x1
    replace HX := Lib.hid (HX.out.trans x1); replace HDe := Lib.hid (HDe.out.ext x1); replace HMk := Lib.hid (HMk.out.ext x1); replace HNm := Lib.hid (HNm.out.ext x1); replace HPw := Lib.hid (HPw.out.ext x1); replace HVa := Lib.hid (HVa.out.ext x1); replace HVb := Lib.hid (HVb.out.ext x1); replace Ha := Lib.hid (Ha.out.ext x1); replace Hb := Lib.hid (Hb.out.ext x1); replace Hk := Lib.hid (Hk.out.ext x1); replace Ho := Lib.hid (Ho.out.ext x1); replace Hs := Lib.hid (Hs.out.ext x1); replace Hl := Lib.hid (Hl.out.ext x1); replace Hm := Lib.hid (Hm.out.ext x1); replace Hp := Lib.hid (Hp.out.ext x1); replace HVp := Lib.hid (HVp.out.ext x1); replace Hq := Lib.hid (Hq.out.ext x1); replace HVq := Lib.hid (HVq.out.ext x1); replace Hr := Lib.hid (Hr.out.ext x1); replace HVr := Lib.hid (HVr.out.ext x1)
    clear x1
    generalize wr = wy at *
    by_cases hlt : k < S.length
    · have HANY := Lib.hid (any_succ (agreeB cs ws list st) hlt)
      obtain ⟨ib, io, hia, g⟩ := ints_at (setc_all Ha.out).1.2.2 k (by rw [castL_len]; exact hlt)
      subst hia
      have hn : (castL S).getD k 0 = ((S[k] : Nat) : Int) := by
        have := castL_get S hlt
        rw [← this]; simp [List.getD, castL_len, hlt]
      rw [hn] at g
      have hnlt := HS.out.lt S[k] (List.getElem_mem hlt)
      clear hn
      generalize S[k] = n at *
      have HNL := Lib.hid hnlt; clear hnlt
      have HL32 : Hid ((stateS cs ws (n : Int) zeros32).length = 32) := (state_len HS.out.small (n : Int) (by simp [zeros32])).trans (by simp [zeros32])
      have HFk : Hid (∀ V : World, Ext wy V → (V.cell? ⟨ba, 0, none⟩ = some (.slice a1 a2 a3) ∧ V.cell? ⟨ba, 1, none⟩ = some (.slice a4 a5 a6) ∧ V.cell? ⟨ba, 2, none⟩ = some (.slice (some ⟨ib, io, none⟩) S.length a9)) ∧ V.cell? ⟨ib, io + k, none⟩ = some (.int .i64 (n : Int))) := fun V hx => ⟨(HVa.out.ext hx).cells, hx.cell g⟩
      obtain ⟨⟨z0, z1, z2⟩, z3⟩ := HFk.out wy (Ext.refl _)
      have hmk := makeState32
      go_upto_region 15 with fail
      go_region_held3 (fun w' => (w'.cell? ⟨ba, 0, none⟩ = some (.slice a1 a2 a3) ∧ w'.cell? ⟨ba, 1, none⟩ = some (.slice a4 a5 a6) ∧ w'.cell? ⟨ba, 2, none⟩ = some (.slice (some ⟨ib, io, none⟩) S.length a9)) ∧ w'.cell? ⟨ib, io + k, none⟩ = some (.int .i64 (n : Int)))
        ((first
          | exact ⟨⟨z0, z1, z2⟩, z3⟩
          | (refine HFk.out _ ?_; repeat (first | exact Ext.refl _ | exact HR1.out | apply Ext.drew | apply Ext.alloc)
             done)
          | fail))
        ((first
          | (go_at_call 30
             refine (RState_any cs ws (castL S) zeros32 n _ _ _ (Ha.out.setV.ext (by repeat (first | exact Ext.refl _ | apply Ext.drew | apply Ext.alloc))) (by first | exact ints32_at (heap_new _ _)) HS.out.small HNL.out (by simp [zeros32]) (by simp [zeros32])).mono ?_
             rintro r wf ⟨v, rfl, o1, x1⟩
             obtain ⟨xa, xc, rfl⟩ := o1.ints.shape
             have HV : Hid (Ints wf (.slice xa 32 xc) (stN cs ws n)) := by have := o1.ints; rw [HL32.out] at this; exact this
             rw [HL32.out]
             have HR1 : Hid (Ext wy wf) := Ext.trans (by repeat (first | exact Ext.refl _ | apply Ext.drew | apply Ext.alloc)) x1
             clear o1 x1)))
      clear z0 z1 z2 z3 hmk g
      have x1 := HR1.out
      replace HX := Lib.hid (HX.out.trans x1); replace HDe := Lib.hid (HDe.out.ext x1); replace HMk := Lib.hid (HMk.out.ext x1); replace HNm := Lib.hid (HNm.out.ext x1); replace HPw := Lib.hid (HPw.out.ext x1); replace HVa := Lib.hid (HVa.out.ext x1); replace HVb := Lib.hid (HVb.out.ext x1); replace Ha := Lib.hid (Ha.out.ext x1); replace Hb := Lib.hid (Hb.out.ext x1); replace Hk := Lib.hid (Hk.out.ext x1); replace Ho := Lib.hid (Ho.out.ext x1); replace Hs := Lib.hid (Hs.out.ext x1); replace Hl := Lib.hid (Hl.out.ext x1); replace Hm := Lib.hid (Hm.out.ext x1); replace Hp := Lib.hid (Hp.out.ext x1); replace HVp := Lib.hid (HVp.out.ext x1); replace Hq := Lib.hid (Hq.out.ext x1); replace HVq := Lib.hid (HVq.out.ext x1); replace Hr := Lib.hid (Hr.out.ext x1); replace HVr := Lib.hid (HVr.out.ext x1)
      clear x1
      replace HXr := Lib.hid (HXr.out.trans HR1.out)
      go_wp2_with fail
      go_loopw [23, 24] (fun s i wr => ∃ q : Nat, q ≤ list.length ∧ i = .int .i64 q ∧ s = .bool (agreeTo cs ws list st n q) ∧ Ext wf wr) (fun _ i _ => list.length - (intOf i).toNat)
      case atStart => exact ⟨0, Nat.zero_le _, rfl, rfl, Ext.refl _⟩
      case round =>
        obtain ⟨q, hq, rfl, rfl, x1⟩ := hrel
        have HXq := Lib.hid x1
        replace HX := Lib.hid (HX.out.trans x1); replace HDe := Lib.hid (HDe.out.ext x1); replace HMk := Lib.hid (HMk.out.ext x1); replace HNm := Lib.hid (HNm.out.ext x1); replace HPw := Lib.hid (HPw.out.ext x1); replace HVa := Lib.hid (HVa.out.ext x1); replace HVb := Lib.hid (HVb.out.ext x1); replace Ha := Lib.hid (Ha.out.ext x1); replace Hb := Lib.hid (Hb.out.ext x1); replace Hk := Lib.hid (Hk.out.ext x1); replace Ho := Lib.hid (Ho.out.ext x1); replace Hs := Lib.hid (Hs.out.ext x1); replace Hl := Lib.hid (Hl.out.ext x1); replace Hm := Lib.hid (Hm.out.ext x1); replace Hp := Lib.hid (Hp.out.ext x1); replace HVp := Lib.hid (HVp.out.ext x1); replace Hq := Lib.hid (Hq.out.ext x1); replace HVq := Lib.hid (HVq.out.ext x1); replace Hr := Lib.hid (Hr.out.ext x1); replace HVr := Lib.hid (HVr.out.ext x1); replace HV := Lib.hid (HV.out.ext x1)
        clear x1
        generalize wr = wx at *
        by_cases hl2 : q < list.length
        · have HAG := Lib.hid (agreeTo_succ cs ws list st n q)
          obtain ⟨ci, hci, ec, ew⟩ := pr_cell (ws := ws) (shape_iff.1 (small_sum HS.out.small).1).2.1 HUl.out hl2
          have hbd := (shape_iff.1 (small_sum HS.out.small).1).2.2 ci hci
          rw [ec, ← ew] at hbd
          clear ec ew hci
          obtain ⟨lb, lo, hlb, g1⟩ := ints_at Hl.out q hl2
          obtain ⟨pb, po, hpb, g2⟩ := ints_at (setc_all Hp.out).1.2.1 q (by rw [wPr_len]; exact hl2)
          obtain ⟨cN, hcN⟩ := Int.eq_ofNat_of_zero_le hbd.1
          have hc32 : cN < 32 := by omega
          obtain ⟨vb, vo, hvb, g3⟩ := ints_at HV.out cN (by rw [show (stN cs ws n).length = 32 from HL32.out]; exact hc32)
          subst hlb hpb hvb
          have HAt : Hid (∀ m : Nat, Calls Tryd.prog 27 #[.slice sa st.length sc, .int .i64 (list.getD q 0), .int .i64 ((wPr cs ws list).getD q 0)] (wx.drewN m) fun e w' => e = .returned (.int .i64 (elemS st (list.getD q 0) % pw ((wPr cs ws list).getD q 0))) ∧ ∃ u, w' = (wx.drewN m).drewN u) := fun m => At_q st _ _ _ _ (Hs.out.ext ((Ext.refl _).drewN m)) hbd.1 hbd.2.2.1 hbd.2.2.2
          have hel : elemS (stN cs ws n) (list.getD q 0) = (stN cs ws n).getD cN 0 := by unfold elemS; rw [hcN, Int.toNat_natCast]
          rw [hel] at HAG
          obtain ⟨_, _, w1, w8⟩ := hbd
          generalize (stN cs ws n).getD cN 0 = y at *
          generalize elemS st (list.getD q 0) % pw ((wPr cs ws list).getD q 0) = z at *
          generalize list.getD q 0 = c at *
          generalize (wPr cs ws list).getD q 0 = wd at *
          subst hcN
          clear hel w1 w8
          obtain ⟨zp0, zp1, zp2⟩ := HVp.out.cells
          have q0 : (0 : Int) ≤ (q : Int) := by omega
          have q1' : (q : Int) < (list.length : Int) := by omega
          have c0 : (0 : Int) ≤ (cN : Int) := by omega
          have c1 : (cN : Int) < 32 := by omega
          cases hb : agreeTo cs ws list st n q with
          | false =>
            rw [hb] at HAG
            have HAG2 : Hid (agreeTo cs ws list st n (q + 1) = false) := HAG.out
            clear hb HAG
            go_wp2_with fail
            go_quiet (fail)
            go_wp2_with fail
            exact ⟨⟨q + 1, by omega, by go_num, by rw [HAG2.out], HXq.out.drewN _⟩, by simp [intOf]; omega⟩
          | true =>
            rw [hb, Bool.true_and] at HAG
            clear hb
            by_cases hyz : y = z
            · rw [decide_eq_true hyz] at HAG
              subst hyz
              have hbb : (y == y) = true := by simp
              go_wp2_with fail
              go_quiet ((go_at_call 27; exact Calls.quiet_of (HAt.out _)))
              go_wp2_with fail
              exact ⟨⟨q + 1, by omega, by go_num, by rw [HAG.out], HXq.out.drewN _⟩, by simp [intOf]; omega⟩
            · rw [decide_eq_false hyz] at HAG
              have hbb : (y == z) = false := by simp [hyz]
              clear hyz
              go_wp2_with fail
              go_quiet ((go_at_call 27; exact Calls.quiet_of (HAt.out _)))
              go_wp2_with fail
              exact ⟨⟨q + 1, by omega, by go_num, by rw [HAG.out], HXq.out.drewN _⟩, by simp [intOf]; omega⟩
        · obtain rfl : q = list.length := by omega
          have HAN2 : Hid ((S.take (k + 1)).any (agreeB cs ws list st) = ((S.take k).any (agreeB cs ws list st) || agreeTo cs ws list st n list.length)) := HANY.out
          have HXe := Lib.hid (HXr.out.trans HXq.out)
          clear HANY
          generalize agreeTo cs ws list st n list.length = Y at *
          generalize (S.take k).any (agreeB cs ws list st) = X at *
          cases X <;> cases Y
          all_goals
            go_wp2_with fail
            exact ⟨⟨k + 1, by omega, by go_num, by rw [HAN2.out]; rfl, HXe.out⟩, by simp [intOf]; omega⟩
    · have hks : k = S.length := by omega
      subst hks
      rw [List.take_length]
      clear HXr
      obtain ⟨qp0, qp1, qp2⟩ := HVp.out.cells
      obtain ⟨qa0, qa1, qa2⟩ := HVa.out.cells
      go_wp2_with fail
      refine (StContains_any list (wPr cs ws list) (castL (prL cs ws S list)) st _ _ _ Hp.out.setV Hs.out).mono ?_
      rintro r wk11 ⟨rfl, x1⟩
      rw [HEND.out]
      generalize S.any (agreeB cs ws list st) = X at *
      replace HX := Lib.hid (HX.out.trans x1); replace HDe := Lib.hid (HDe.out.ext x1); replace HMk := Lib.hid (HMk.out.ext x1); replace HNm := Lib.hid (HNm.out.ext x1); replace HPw := Lib.hid (HPw.out.ext x1); replace HVa := Lib.hid (HVa.out.ext x1); replace HVb := Lib.hid (HVb.out.ext x1); replace Ha := Lib.hid (Ha.out.ext x1); replace Hb := Lib.hid (Hb.out.ext x1); replace Hk := Lib.hid (Hk.out.ext x1); replace Ho := Lib.hid (Ho.out.ext x1); replace Hs := Lib.hid (Hs.out.ext x1); replace Hl := Lib.hid (Hl.out.ext x1); replace Hm := Lib.hid (Hm.out.ext x1); replace Hp := Lib.hid (Hp.out.ext x1); replace HVp := Lib.hid (HVp.out.ext x1); replace Hq := Lib.hid (Hq.out.ext x1); replace HVq := Lib.hid (HVq.out.ext x1); replace Hr := Lib.hid (Hr.out.ext x1); replace HVr := Lib.hid (HVr.out.ext x1)
      clear x1 qp0 qp1 qp2 qa0 qa1 qa2
      have hxx : (X != X) = false := by cases X <;> rfl
      cases hcb : combB cs ws (castL S) cs2 ws2 js with
      | false =>
        have HCB := Lib.hid hcb; clear hcb
        obtain ⟨qa0, qa1, qa2⟩ := HVa.out.cells
        obtain ⟨qb0, qb1, qb2⟩ := HVb.out.cells
        go_wp2_with fail
        refine ((Join_any cs ws (castL S) cs2 ws2 js _ _ _ Ha.out.setV Hb.out.setV HDe.out).mono fun r w' h => comb_no HCB.out h).mono ?_
        rintro r wk12 ⟨j1, j2, j3, j4, j5, j6, j7, j8, j9, rfl, e, x1⟩
        have Hj := Lib.hid e; clear e
        replace HX := Lib.hid (HX.out.trans x1); replace HDe := Lib.hid (HDe.out.ext x1); replace HMk := Lib.hid (HMk.out.ext x1); replace HNm := Lib.hid (HNm.out.ext x1); replace HPw := Lib.hid (HPw.out.ext x1); replace HVa := Lib.hid (HVa.out.ext x1); replace HVb := Lib.hid (HVb.out.ext x1); replace Ha := Lib.hid (Ha.out.ext x1); replace Hb := Lib.hid (Hb.out.ext x1); replace Hk := Lib.hid (Hk.out.ext x1); replace Ho := Lib.hid (Ho.out.ext x1); replace Hs := Lib.hid (Hs.out.ext x1); replace Hl := Lib.hid (Hl.out.ext x1); replace Hm := Lib.hid (Hm.out.ext x1); replace Hp := Lib.hid (Hp.out.ext x1); replace HVp := Lib.hid (HVp.out.ext x1); replace Hq := Lib.hid (Hq.out.ext x1); replace HVq := Lib.hid (HVq.out.ext x1); replace Hr := Lib.hid (Hr.out.ext x1); replace HVr := Lib.hid (HVr.out.ext x1)
        clear x1 qa0 qa1 qa2 qb0 qb1 qb2
        go_upto_region 25 with fail
        obtain ⟨Wk12, hWk⟩ : ∃ Wk, Wk = wk12.alloc (.cells #[.slice j1 j2 j3, .slice j4 j5 j6, .slice j7 j8 j9] 31) := ⟨_, rfl⟩
        have x1 : Ext wk12 Wk12 := by rw [hWk]; exact (Ext.refl _).alloc _
        have HVj : Hid (Var3 31 Wk12 wk12.heap.size (.slice j1 j2 j3) (.slice j4 j5 j6) (.slice j7 j8 j9)) := by rw [hWk]; exact Var3.new _ _ _ _ _
        rw [← hWk]
        replace HX := Lib.hid (HX.out.trans x1); replace HDe := Lib.hid (HDe.out.ext x1); replace HMk := Lib.hid (HMk.out.ext x1); replace HNm := Lib.hid (HNm.out.ext x1); replace HPw := Lib.hid (HPw.out.ext x1); replace HVa := Lib.hid (HVa.out.ext x1); replace HVb := Lib.hid (HVb.out.ext x1); replace Ha := Lib.hid (Ha.out.ext x1); replace Hb := Lib.hid (Hb.out.ext x1); replace Hk := Lib.hid (Hk.out.ext x1); replace Ho := Lib.hid (Ho.out.ext x1); replace Hs := Lib.hid (Hs.out.ext x1); replace Hl := Lib.hid (Hl.out.ext x1); replace Hm := Lib.hid (Hm.out.ext x1); replace Hp := Lib.hid (Hp.out.ext x1); replace HVp := Lib.hid (HVp.out.ext x1); replace Hq := Lib.hid (Hq.out.ext x1); replace HVq := Lib.hid (HVq.out.ext x1); replace Hr := Lib.hid (Hr.out.ext x1); replace HVr := Lib.hid (HVr.out.ext x1); replace Hj := Lib.hid (Hj.out.ext x1)
        clear x1 hWk
        generalize wk12.heap.size = bj at *
        go_wp2_with fail
        exact bodyPost_ret (v := .bool true) (by simp [results, Tryd.results6, go_sem]) rfl ⟨rfl, HX.out⟩
      | true =>
        obtain ⟨e1, e2, T, e4, hT⟩ := comb_parts2 HS.out hcb
        subst e1 e2 e4
        have HT := Lib.hid hT
        clear hT hcb
        have HJ := Lib.hid (joi_ok HS.out HT.out)
        have HVP2 := Lib.hid (pr_valid HSMl.out T)
        have HJN := Lib.hid (prL_join HS.out HT.out HIl.out HUl.out)
        obtain ⟨qa0, qa1, qa2⟩ := HVa.out.cells
        obtain ⟨qb0, qb1, qb2⟩ := HVb.out.cells
        go_wp2_with fail
        refine ((Join_any cs2 ws2 (castL S) cs2 ws2 (castL T) _ _ _ Ha.out.setV Hb.out.setV HDe.out).mono fun r w' h => comb_yes HS.out HT.out h).mono ?_
        rintro r wk12 ⟨j1, j2, j3, j4, j5, j6, j7, j8, j9, rfl, e, x1⟩
        have Hj := Lib.hid e; clear e
        replace HX := Lib.hid (HX.out.trans x1); replace HDe := Lib.hid (HDe.out.ext x1); replace HMk := Lib.hid (HMk.out.ext x1); replace HNm := Lib.hid (HNm.out.ext x1); replace HPw := Lib.hid (HPw.out.ext x1); replace HVa := Lib.hid (HVa.out.ext x1); replace HVb := Lib.hid (HVb.out.ext x1); replace Ha := Lib.hid (Ha.out.ext x1); replace Hb := Lib.hid (Hb.out.ext x1); replace Hk := Lib.hid (Hk.out.ext x1); replace Ho := Lib.hid (Ho.out.ext x1); replace Hs := Lib.hid (Hs.out.ext x1); replace Hl := Lib.hid (Hl.out.ext x1); replace Hm := Lib.hid (Hm.out.ext x1); replace Hp := Lib.hid (Hp.out.ext x1); replace HVp := Lib.hid (HVp.out.ext x1); replace Hq := Lib.hid (Hq.out.ext x1); replace HVq := Lib.hid (HVq.out.ext x1); replace Hr := Lib.hid (Hr.out.ext x1); replace HVr := Lib.hid (HVr.out.ext x1)
        clear x1 qa0 qa1 qa2 qb0 qb1 qb2
        go_upto_region 25 with fail
        obtain ⟨Wk12, hWk⟩ : ∃ Wk, Wk = wk12.alloc (.cells #[.slice j1 j2 j3, .slice j4 j5 j6, .slice j7 j8 j9] 31) := ⟨_, rfl⟩
        have x1 : Ext wk12 Wk12 := by rw [hWk]; exact (Ext.refl _).alloc _
        have HVj : Hid (Var3 31 Wk12 wk12.heap.size (.slice j1 j2 j3) (.slice j4 j5 j6) (.slice j7 j8 j9)) := by rw [hWk]; exact Var3.new _ _ _ _ _
        rw [← hWk]
        replace HX := Lib.hid (HX.out.trans x1); replace HDe := Lib.hid (HDe.out.ext x1); replace HMk := Lib.hid (HMk.out.ext x1); replace HNm := Lib.hid (HNm.out.ext x1); replace HPw := Lib.hid (HPw.out.ext x1); replace HVa := Lib.hid (HVa.out.ext x1); replace HVb := Lib.hid (HVb.out.ext x1); replace Ha := Lib.hid (Ha.out.ext x1); replace Hb := Lib.hid (Hb.out.ext x1); replace Hk := Lib.hid (Hk.out.ext x1); replace Ho := Lib.hid (Ho.out.ext x1); replace Hs := Lib.hid (Hs.out.ext x1); replace Hl := Lib.hid (Hl.out.ext x1); replace Hm := Lib.hid (Hm.out.ext x1); replace Hp := Lib.hid (Hp.out.ext x1); replace HVp := Lib.hid (HVp.out.ext x1); replace Hq := Lib.hid (Hq.out.ext x1); replace HVq := Lib.hid (HVq.out.ext x1); replace Hr := Lib.hid (Hr.out.ext x1); replace HVr := Lib.hid (HVr.out.ext x1); replace Hj := Lib.hid (Hj.out.ext x1)
        clear x1 hWk
        generalize wk12.heap.size = bj at *
        obtain ⟨qj0, qj1, qj2⟩ := HVj.out.cells
        go_wp2_with fail
        refine (Project_ok HJ.out HIl.out HUl.out hl6 _ _ _ Hj.out.setV Hl.out HDe.out).mono ?_
        rintro r wk13 ⟨d1, d2, d3, d4, d5, d6, d7, d8, d9, rfl, e, x1⟩
        have Hd := Lib.hid e; clear e
        replace HX := Lib.hid (HX.out.trans x1); replace HDe := Lib.hid (HDe.out.ext x1); replace HMk := Lib.hid (HMk.out.ext x1); replace HNm := Lib.hid (HNm.out.ext x1); replace HPw := Lib.hid (HPw.out.ext x1); replace HVa := Lib.hid (HVa.out.ext x1); replace HVb := Lib.hid (HVb.out.ext x1); replace Ha := Lib.hid (Ha.out.ext x1); replace Hb := Lib.hid (Hb.out.ext x1); replace Hk := Lib.hid (Hk.out.ext x1); replace Ho := Lib.hid (Ho.out.ext x1); replace Hs := Lib.hid (Hs.out.ext x1); replace Hl := Lib.hid (Hl.out.ext x1); replace Hm := Lib.hid (Hm.out.ext x1); replace Hp := Lib.hid (Hp.out.ext x1); replace HVp := Lib.hid (HVp.out.ext x1); replace Hq := Lib.hid (Hq.out.ext x1); replace HVq := Lib.hid (HVq.out.ext x1); replace Hr := Lib.hid (Hr.out.ext x1); replace HVr := Lib.hid (HVr.out.ext x1); replace Hj := Lib.hid (Hj.out.ext x1); replace HVj := Lib.hid (HVj.out.ext x1)
        clear x1 qj0 qj1 qj2
        go_upto_region 28 with fail
        obtain ⟨Wk13, hWk⟩ : ∃ Wk, Wk = wk13.alloc (.cells #[.slice d1 d2 d3, .slice d4 d5 d6, .slice d7 d8 d9] 31) := ⟨_, rfl⟩
        have x1 : Ext wk13 Wk13 := by rw [hWk]; exact (Ext.refl _).alloc _
        have HVd : Hid (Var3 31 Wk13 wk13.heap.size (.slice d1 d2 d3) (.slice d4 d5 d6) (.slice d7 d8 d9)) := by rw [hWk]; exact Var3.new _ _ _ _ _
        rw [← hWk]
        replace HX := Lib.hid (HX.out.trans x1); replace HDe := Lib.hid (HDe.out.ext x1); replace HMk := Lib.hid (HMk.out.ext x1); replace HNm := Lib.hid (HNm.out.ext x1); replace HPw := Lib.hid (HPw.out.ext x1); replace HVa := Lib.hid (HVa.out.ext x1); replace HVb := Lib.hid (HVb.out.ext x1); replace Ha := Lib.hid (Ha.out.ext x1); replace Hb := Lib.hid (Hb.out.ext x1); replace Hk := Lib.hid (Hk.out.ext x1); replace Ho := Lib.hid (Ho.out.ext x1); replace Hs := Lib.hid (Hs.out.ext x1); replace Hl := Lib.hid (Hl.out.ext x1); replace Hm := Lib.hid (Hm.out.ext x1); replace Hp := Lib.hid (Hp.out.ext x1); replace HVp := Lib.hid (HVp.out.ext x1); replace Hq := Lib.hid (Hq.out.ext x1); replace HVq := Lib.hid (HVq.out.ext x1); replace Hr := Lib.hid (Hr.out.ext x1); replace HVr := Lib.hid (HVr.out.ext x1); replace Hj := Lib.hid (Hj.out.ext x1); replace HVj := Lib.hid (HVj.out.ext x1); replace Hd := Lib.hid (Hd.out.ext x1)
        clear x1 hWk
        generalize wk13.heap.size = bd at *
        obtain ⟨qb0, qb1, qb2⟩ := HVb.out.cells
        go_wp2_with fail
        refine (Project_ok HT.out HIl.out HUl.out hl6 _ _ _ Hb.out.setV Hl.out HDe.out).mono ?_
        rintro r wk14 ⟨f1, f2, f3, f4, f5, f6, f7, f8, f9, rfl, e, x1⟩
        have Hf := Lib.hid e; clear e
        replace HX := Lib.hid (HX.out.trans x1); replace HDe := Lib.hid (HDe.out.ext x1); replace HMk := Lib.hid (HMk.out.ext x1); replace HNm := Lib.hid (HNm.out.ext x1); replace HPw := Lib.hid (HPw.out.ext x1); replace HVa := Lib.hid (HVa.out.ext x1); replace HVb := Lib.hid (HVb.out.ext x1); replace Ha := Lib.hid (Ha.out.ext x1); replace Hb := Lib.hid (Hb.out.ext x1); replace Hk := Lib.hid (Hk.out.ext x1); replace Ho := Lib.hid (Ho.out.ext x1); replace Hs := Lib.hid (Hs.out.ext x1); replace Hl := Lib.hid (Hl.out.ext x1); replace Hm := Lib.hid (Hm.out.ext x1); replace Hp := Lib.hid (Hp.out.ext x1); replace HVp := Lib.hid (HVp.out.ext x1); replace Hq := Lib.hid (Hq.out.ext x1); replace HVq := Lib.hid (HVq.out.ext x1); replace Hr := Lib.hid (Hr.out.ext x1); replace HVr := Lib.hid (HVr.out.ext x1); replace Hj := Lib.hid (Hj.out.ext x1); replace HVj := Lib.hid (HVj.out.ext x1); replace Hd := Lib.hid (Hd.out.ext x1); replace HVd := Lib.hid (HVd.out.ext x1)
        clear x1 qb0 qb1 qb2
        go_upto_region 29 with fail
        obtain ⟨Wk14, hWk⟩ : ∃ Wk, Wk = wk14.alloc (.cells #[.slice f1 f2 f3, .slice f4 f5 f6, .slice f7 f8 f9] 31) := ⟨_, rfl⟩
        have x1 : Ext wk14 Wk14 := by rw [hWk]; exact (Ext.refl _).alloc _
        have HVf : Hid (Var3 31 Wk14 wk14.heap.size (.slice f1 f2 f3) (.slice f4 f5 f6) (.slice f7 f8 f9)) := by rw [hWk]; exact Var3.new _ _ _ _ _
        rw [← hWk]
        replace HX := Lib.hid (HX.out.trans x1); replace HDe := Lib.hid (HDe.out.ext x1); replace HMk := Lib.hid (HMk.out.ext x1); replace HNm := Lib.hid (HNm.out.ext x1); replace HPw := Lib.hid (HPw.out.ext x1); replace HVa := Lib.hid (HVa.out.ext x1); replace HVb := Lib.hid (HVb.out.ext x1); replace Ha := Lib.hid (Ha.out.ext x1); replace Hb := Lib.hid (Hb.out.ext x1); replace Hk := Lib.hid (Hk.out.ext x1); replace Ho := Lib.hid (Ho.out.ext x1); replace Hs := Lib.hid (Hs.out.ext x1); replace Hl := Lib.hid (Hl.out.ext x1); replace Hm := Lib.hid (Hm.out.ext x1); replace Hp := Lib.hid (Hp.out.ext x1); replace HVp := Lib.hid (HVp.out.ext x1); replace Hq := Lib.hid (Hq.out.ext x1); replace HVq := Lib.hid (HVq.out.ext x1); replace Hr := Lib.hid (Hr.out.ext x1); replace HVr := Lib.hid (HVr.out.ext x1); replace Hj := Lib.hid (Hj.out.ext x1); replace HVj := Lib.hid (HVj.out.ext x1); replace Hd := Lib.hid (Hd.out.ext x1); replace HVd := Lib.hid (HVd.out.ext x1); replace Hf := Lib.hid (Hf.out.ext x1)
        clear x1 hWk
        generalize wk14.heap.size = bf at *
        obtain ⟨qp0, qp1, qp2⟩ := HVp.out.cells
        obtain ⟨qf0, qf1, qf2⟩ := HVf.out.cells
        go_wp2_with fail
        refine ((Join_any list (wPr cs2 ws2 list) (castL (prL cs2 ws2 S list)) list (wPr cs2 ws2 list) (castL (prL cs2 ws2 T list)) _ _ _ Hp.out.setV Hf.out.setV HDe.out).mono fun r w' h => comb_yes HVP.out HVP2.out h).mono ?_
        rintro r wk15 ⟨g1, g2, g3, g4, g5, g6, g7, g8, g9, rfl, e, x1⟩
        have Hg := Lib.hid e; clear e
        replace HX := Lib.hid (HX.out.trans x1); replace HDe := Lib.hid (HDe.out.ext x1); replace HMk := Lib.hid (HMk.out.ext x1); replace HNm := Lib.hid (HNm.out.ext x1); replace HPw := Lib.hid (HPw.out.ext x1); replace HVa := Lib.hid (HVa.out.ext x1); replace HVb := Lib.hid (HVb.out.ext x1); replace Ha := Lib.hid (Ha.out.ext x1); replace Hb := Lib.hid (Hb.out.ext x1); replace Hk := Lib.hid (Hk.out.ext x1); replace Ho := Lib.hid (Ho.out.ext x1); replace Hs := Lib.hid (Hs.out.ext x1); replace Hl := Lib.hid (Hl.out.ext x1); replace Hm := Lib.hid (Hm.out.ext x1); replace Hp := Lib.hid (Hp.out.ext x1); replace HVp := Lib.hid (HVp.out.ext x1); replace Hq := Lib.hid (Hq.out.ext x1); replace HVq := Lib.hid (HVq.out.ext x1); replace Hr := Lib.hid (Hr.out.ext x1); replace HVr := Lib.hid (HVr.out.ext x1); replace Hj := Lib.hid (Hj.out.ext x1); replace HVj := Lib.hid (HVj.out.ext x1); replace Hd := Lib.hid (Hd.out.ext x1); replace HVd := Lib.hid (HVd.out.ext x1); replace Hf := Lib.hid (Hf.out.ext x1); replace HVf := Lib.hid (HVf.out.ext x1)
        clear x1 qp0 qp1 qp2 qf0 qf1 qf2
        go_upto_region 30 with fail
        obtain ⟨Wk15, hWk⟩ : ∃ Wk, Wk = wk15.alloc (.cells #[.slice g1 g2 g3, .slice g4 g5 g6, .slice g7 g8 g9] 31) := ⟨_, rfl⟩
        have x1 : Ext wk15 Wk15 := by rw [hWk]; exact (Ext.refl _).alloc _
        have HVg : Hid (Var3 31 Wk15 wk15.heap.size (.slice g1 g2 g3) (.slice g4 g5 g6) (.slice g7 g8 g9)) := by rw [hWk]; exact Var3.new _ _ _ _ _
        rw [← hWk]
        replace HX := Lib.hid (HX.out.trans x1); replace HDe := Lib.hid (HDe.out.ext x1); replace HMk := Lib.hid (HMk.out.ext x1); replace HNm := Lib.hid (HNm.out.ext x1); replace HPw := Lib.hid (HPw.out.ext x1); replace HVa := Lib.hid (HVa.out.ext x1); replace HVb := Lib.hid (HVb.out.ext x1); replace Ha := Lib.hid (Ha.out.ext x1); replace Hb := Lib.hid (Hb.out.ext x1); replace Hk := Lib.hid (Hk.out.ext x1); replace Ho := Lib.hid (Ho.out.ext x1); replace Hs := Lib.hid (Hs.out.ext x1); replace Hl := Lib.hid (Hl.out.ext x1); replace Hm := Lib.hid (Hm.out.ext x1); replace Hp := Lib.hid (Hp.out.ext x1); replace HVp := Lib.hid (HVp.out.ext x1); replace Hq := Lib.hid (Hq.out.ext x1); replace HVq := Lib.hid (HVq.out.ext x1); replace Hr := Lib.hid (Hr.out.ext x1); replace HVr := Lib.hid (HVr.out.ext x1); replace Hj := Lib.hid (Hj.out.ext x1); replace HVj := Lib.hid (HVj.out.ext x1); replace Hd := Lib.hid (Hd.out.ext x1); replace HVd := Lib.hid (HVd.out.ext x1); replace Hf := Lib.hid (Hf.out.ext x1); replace HVf := Lib.hid (HVf.out.ext x1); replace Hg := Lib.hid (Hg.out.ext x1)
        clear x1 hWk
        generalize wk15.heap.size = bg at *
        have HXZ := Lib.hid (sameS_self3 (cs := list) (cs2 := list) (ws := wPr cs2 ws2 list) (ws2 := wPr cs2 ws2 list) (is := castL (prL cs2 ws2 (cmbL (· ||| ·) S T) list)) (js := castL (cmbL (· ||| ·) (prL cs2 ws2 S list) (prL cs2 ws2 T list))) rfl rfl (by rw [HJN.out]))
        obtain ⟨qd0, qd1, qd2⟩ := HVd.out.cells
        obtain ⟨qg0, qg1, qg2⟩ := HVg.out.cells
        go_wp2_with fail
        refine (RSame10_any list _ _ list _ _ _ _ _ Hd.out.setV Hg.out.setV).mono ?_
        rintro r wk16 ⟨rfl, x1⟩
        rw [HXZ.out]
        replace HX := Lib.hid (HX.out.trans x1); replace HDe := Lib.hid (HDe.out.ext x1); replace HMk := Lib.hid (HMk.out.ext x1); replace HNm := Lib.hid (HNm.out.ext x1); replace HPw := Lib.hid (HPw.out.ext x1); replace HVa := Lib.hid (HVa.out.ext x1); replace HVb := Lib.hid (HVb.out.ext x1); replace Ha := Lib.hid (Ha.out.ext x1); replace Hb := Lib.hid (Hb.out.ext x1); replace Hk := Lib.hid (Hk.out.ext x1); replace Ho := Lib.hid (Ho.out.ext x1); replace Hs := Lib.hid (Hs.out.ext x1); replace Hl := Lib.hid (Hl.out.ext x1); replace Hm := Lib.hid (Hm.out.ext x1); replace Hp := Lib.hid (Hp.out.ext x1); replace HVp := Lib.hid (HVp.out.ext x1); replace Hq := Lib.hid (Hq.out.ext x1); replace HVq := Lib.hid (HVq.out.ext x1); replace Hr := Lib.hid (Hr.out.ext x1); replace HVr := Lib.hid (HVr.out.ext x1); replace Hj := Lib.hid (Hj.out.ext x1); replace HVj := Lib.hid (HVj.out.ext x1); replace Hd := Lib.hid (Hd.out.ext x1); replace HVd := Lib.hid (HVd.out.ext x1); replace Hf := Lib.hid (Hf.out.ext x1); replace HVf := Lib.hid (HVf.out.ext x1); replace Hg := Lib.hid (Hg.out.ext x1); replace HVg := Lib.hid (HVg.out.ext x1)
        clear x1 qd0 qd1 qd2 qg0 qg1 qg2
        go_wp2_with fail
        exact bodyPost_ret (v := .bool true) (by simp [results, Tryd.results6, go_sem]) rfl ⟨rfl, HX.out⟩
end Go.Proofs.YtdiopiekmdfklaaDoor
