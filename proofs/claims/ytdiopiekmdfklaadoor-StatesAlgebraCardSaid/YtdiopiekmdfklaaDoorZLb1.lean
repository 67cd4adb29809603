/-
  The walk of StatesAlgebra. Printed by gen_law10.py.
-/
import Derived.Test.YtdiopiekmdfklaaDoorMAlg
import Derived.Test.YtdiopiekmdfklaaDoorMHb
import Derived.Deep.RegionHeld3
namespace Go.Proofs.YtdiopiekmdfklaaDoor
open Go.RowKit

theorem wrap_add (a b : Nat) (h : a + b ≤ 4096 + 4096) : wrap64 ((a : Int) + (b : Int)) = (a : Int) + (b : Int) := by unfold wrap64; omega
theorem CombPost.no {g : Nat → Nat → Nat} {cs ws is cs2 ws2 js : List Int} {w : World} {r : Ending} {w' : World} (h : combB cs ws is cs2 ws2 js = false) (hr : CombPost g cs ws is cs2 ws2 js w r w') : RetC 1 [] [] [] w r w' := by
  unfold CombPost at hr; rw [h] at hr; exact SetRes.retC hr
theorem CombPost.yes {g : Nat → Nat → Nat} {cs ws : List Int} {S T : List Nat} {w : World} {r : Ending} {w' : World} (hS : ValidS cs ws S) (hT : ValidS cs ws T) (hr : CombPost g cs ws (castL S) cs ws (castL T) w r w') : RetC 0 cs ws (castL (cmbL g S T)) w r w' := by
  unfold CombPost at hr; rw [comb_back hS hT, if_pos rfl] at hr
  have := hr.retC
  unfold combL at this
  rw [natL_cast, natL_cast] at this; exact this
set_option maxRecDepth 100000 in
set_option maxHeartbeats 16000000 in
theorem StatesAlgebra_any (cs ws is cs2 ws2 js st : List Int) (va vb vs : Value) (w : World) (ha : SetC w va cs ws is) (hb : SetC w vb cs2 ws2 js) (hs : Ints w vs st) (hT : DeB w) (hM : Masks w) (hN : Names w) (hP : Pow10 w) :
    Calls Tryd.prog 7 #[va, vb, vs] w fun r w' => r = .returned (.bool true) ∧ Ext w w' := by
  obtain ⟨a1, a2, a3, a4, a5, a6, a7, a8, a9, rfl⟩ := ha.shape'
  obtain ⟨b1, b2, b3, b4, b5, b6, b7, b8, b9, rfl⟩ := hb.shape'
  obtain ⟨sa, sc, rfl⟩ := hs.shape
  obtain ⟨W, hW⟩ : ∃ W, Boxes w W (.cells #[.slice a1 a2 a3, .slice a4 a5 a6, .slice a7 a8 a9] 31) (.cells #[.slice b1 b2 b3, .slice b4 b5 b6, .slice b7 b8 b9] 31) := ⟨_, Boxes.mk' _ _ _⟩
  have hx := hW.ext
  have HVa : Hid (Var3 31 W w.heap.size (.slice a1 a2 a3) (.slice a4 a5 a6) (.slice a7 a8 a9)) := hW.b0
  have HVb : Hid (Var3 31 W (w.heap.size + 1) (.slice b1 b2 b3) (.slice b4 b5 b6) (.slice b7 b8 b9)) := hW.b1
  have Ha := Lib.hid (ha.ext hx)
  have Hb := Lib.hid (hb.ext hx)
  have Hs := Lib.hid (hs.ext hx)
  have HX := Lib.hid hx; have HDe := Lib.hid (hT.ext hx); have HMk := Lib.hid (hM.ext hx); have HNm := Lib.hid (hN.ext hx); have HPw := Lib.hid (hP.ext hx); have HW := Lib.hid hW.eq
  clear hW hx hT hM hN hP ha hb hs
  go_enter Tryd.func7, Tryd.ntmps7
  go_upto_region 1 with fail
  rw [← HW.out]
  clear HW
  generalize w.heap.size + 1 = bb at *
  generalize w.heap.size = ba at *
  go_wp2_with fail
  refine (head_any W HDe.out HMk.out HNm.out HPw.out).mono ?_
  rintro r wk1 ⟨rfl, x1⟩
  replace HX := Lib.hid (HX.out.trans x1); replace HDe := Lib.hid (HDe.out.ext x1); replace HMk := Lib.hid (HMk.out.ext x1); replace HNm := Lib.hid (HNm.out.ext x1); replace HPw := Lib.hid (HPw.out.ext x1); replace HVa := Lib.hid (HVa.out.ext x1); replace HVb := Lib.hid (HVb.out.ext x1); replace Ha := Lib.hid (Ha.out.ext x1); replace Hb := Lib.hid (Hb.out.ext x1); replace Hs := Lib.hid (Hs.out.ext x1)
  clear x1
  obtain ⟨qa0, qa1, qa2⟩ := HVa.out.cells
  go_wp2_with fail
  refine (Short10_any cs ws is _ _ Ha.out.setV).mono ?_
  rintro r wk2 ⟨rfl, x1⟩
  replace HX := Lib.hid (HX.out.trans x1); replace HDe := Lib.hid (HDe.out.ext x1); replace HMk := Lib.hid (HMk.out.ext x1); replace HNm := Lib.hid (HNm.out.ext x1); replace HPw := Lib.hid (HPw.out.ext x1); replace HVa := Lib.hid (HVa.out.ext x1); replace HVb := Lib.hid (HVb.out.ext x1); replace Ha := Lib.hid (Ha.out.ext x1); replace Hb := Lib.hid (Hb.out.ext x1); replace Hs := Lib.hid (Hs.out.ext x1)
  clear x1 qa0 qa1 qa2
  cases h1 : shortB cs.length ws.length is.length with
  | false =>
    clear h1
    go_wp2_with fail
    exact bodyPost_ret (v := .bool true) (by simp [results, Tryd.results7, go_sem]) rfl ⟨rfl, HX.out⟩
  | true =>
  have HF1 := Lib.hid h1; clear h1
  clear HF1
  obtain ⟨qb0, qb1, qb2⟩ := HVb.out.cells
  go_wp2_with fail
  refine (Short10_any cs2 ws2 js _ _ Hb.out.setV).mono ?_
  rintro r wk3 ⟨rfl, x1⟩
  replace HX := Lib.hid (HX.out.trans x1); replace HDe := Lib.hid (HDe.out.ext x1); replace HMk := Lib.hid (HMk.out.ext x1); replace HNm := Lib.hid (HNm.out.ext x1); replace HPw := Lib.hid (HPw.out.ext x1); replace HVa := Lib.hid (HVa.out.ext x1); replace HVb := Lib.hid (HVb.out.ext x1); replace Ha := Lib.hid (Ha.out.ext x1); replace Hb := Lib.hid (Hb.out.ext x1); replace Hs := Lib.hid (Hs.out.ext x1)
  clear x1 qb0 qb1 qb2
  cases h1 : shortB cs2.length ws2.length js.length with
  | false =>
    clear h1
    go_wp2_with fail
    exact bodyPost_ret (v := .bool true) (by simp [results, Tryd.results7, go_sem]) rfl ⟨rfl, HX.out⟩
  | true =>
  have HF1 := Lib.hid h1; clear h1
  clear HF1
  by_cases t1 : 60 < st.length
  · go_wp2_with fail
    exact bodyPost_ret (v := .bool true) (by simp [results, Tryd.results7, go_sem]) rfl ⟨rfl, HX.out⟩
  cases hcb : combB cs ws is cs2 ws2 js with
  | false =>
    have HCB := Lib.hid hcb; clear hcb
    obtain ⟨qa0, qa1, qa2⟩ := HVa.out.cells
    obtain ⟨qb0, qb1, qb2⟩ := HVb.out.cells
    go_wp2_with fail
    refine ((Meet_any cs ws is cs2 ws2 js _ _ _ Ha.out.setV Hb.out.setV HDe.out).mono fun r w' h => CombPost.no HCB.out h).mono ?_
    rintro r wk4 ⟨m1, m2, m3, m4, m5, m6, m7, m8, m9, rfl, e, x1⟩
    have Hm := Lib.hid e; clear e
    replace HX := Lib.hid (HX.out.trans x1); replace HDe := Lib.hid (HDe.out.ext x1); replace HMk := Lib.hid (HMk.out.ext x1); replace HNm := Lib.hid (HNm.out.ext x1); replace HPw := Lib.hid (HPw.out.ext x1); replace HVa := Lib.hid (HVa.out.ext x1); replace HVb := Lib.hid (HVb.out.ext x1); replace Ha := Lib.hid (Ha.out.ext x1); replace Hb := Lib.hid (Hb.out.ext x1); replace Hs := Lib.hid (Hs.out.ext x1)
    clear x1 qa0 qa1 qa2 qb0 qb1 qb2
    go_upto_region 5 with fail
    obtain ⟨Wk4, hWk⟩ : ∃ Wk, Wk = wk4.alloc (.cells #[.slice m1 m2 m3, .slice m4 m5 m6, .slice m7 m8 m9] 31) := ⟨_, rfl⟩
    have x1 : Ext wk4 Wk4 := by rw [hWk]; exact (Ext.refl _).alloc _
    have HVm : Hid (Var3 31 Wk4 wk4.heap.size (.slice m1 m2 m3) (.slice m4 m5 m6) (.slice m7 m8 m9)) := by rw [hWk]; exact Var3.new _ _ _ _ _
    rw [← hWk]
    replace HX := Lib.hid (HX.out.trans x1); replace HDe := Lib.hid (HDe.out.ext x1); replace HMk := Lib.hid (HMk.out.ext x1); replace HNm := Lib.hid (HNm.out.ext x1); replace HPw := Lib.hid (HPw.out.ext x1); replace HVa := Lib.hid (HVa.out.ext x1); replace HVb := Lib.hid (HVb.out.ext x1); replace Ha := Lib.hid (Ha.out.ext x1); replace Hb := Lib.hid (Hb.out.ext x1); replace Hs := Lib.hid (Hs.out.ext x1); replace Hm := Lib.hid (Hm.out.ext x1)
    clear x1 hWk
    generalize wk4.heap.size = bm at *
    obtain ⟨qa0, qa1, qa2⟩ := HVa.out.cells
    obtain ⟨qb0, qb1, qb2⟩ := HVb.out.cells
    go_wp2_with fail
    refine ((Join_any cs ws is cs2 ws2 js _ _ _ Ha.out.setV Hb.out.setV HDe.out).mono fun r w' h => CombPost.no HCB.out h).mono ?_
    rintro r wk5 ⟨j1, j2, j3, j4, j5, j6, j7, j8, j9, rfl, e, x1⟩
    have Hj := Lib.hid e; clear e
    replace HX := Lib.hid (HX.out.trans x1); replace HDe := Lib.hid (HDe.out.ext x1); replace HMk := Lib.hid (HMk.out.ext x1); replace HNm := Lib.hid (HNm.out.ext x1); replace HPw := Lib.hid (HPw.out.ext x1); replace HVa := Lib.hid (HVa.out.ext x1); replace HVb := Lib.hid (HVb.out.ext x1); replace Ha := Lib.hid (Ha.out.ext x1); replace Hb := Lib.hid (Hb.out.ext x1); replace Hs := Lib.hid (Hs.out.ext x1); replace Hm := Lib.hid (Hm.out.ext x1); replace HVm := Lib.hid (HVm.out.ext x1)
    clear x1 qa0 qa1 qa2 qb0 qb1 qb2
    go_upto_region 6 with fail
    obtain ⟨Wk5, hWk⟩ : ∃ Wk, Wk = wk5.alloc (.cells #[.slice j1 j2 j3, .slice j4 j5 j6, .slice j7 j8 j9] 31) := ⟨_, rfl⟩
    have x1 : Ext wk5 Wk5 := by rw [hWk]; exact (Ext.refl _).alloc _
    have HVj : Hid (Var3 31 Wk5 wk5.heap.size (.slice j1 j2 j3) (.slice j4 j5 j6) (.slice j7 j8 j9)) := by rw [hWk]; exact Var3.new _ _ _ _ _
    rw [← hWk]
    replace HX := Lib.hid (HX.out.trans x1); replace HDe := Lib.hid (HDe.out.ext x1); replace HMk := Lib.hid (HMk.out.ext x1); replace HNm := Lib.hid (HNm.out.ext x1); replace HPw := Lib.hid (HPw.out.ext x1); replace HVa := Lib.hid (HVa.out.ext x1); replace HVb := Lib.hid (HVb.out.ext x1); replace Ha := Lib.hid (Ha.out.ext x1); replace Hb := Lib.hid (Hb.out.ext x1); replace Hs := Lib.hid (Hs.out.ext x1); replace Hm := Lib.hid (Hm.out.ext x1); replace HVm := Lib.hid (HVm.out.ext x1); replace Hj := Lib.hid (Hj.out.ext x1)
    clear x1 hWk
    generalize wk5.heap.size = bj at *
    obtain ⟨qa0, qa1, qa2⟩ := HVa.out.cells
    obtain ⟨qb0, qb1, qb2⟩ := HVb.out.cells
    go_wp2_with fail
    refine ((Minus_any cs ws is cs2 ws2 js _ _ _ Ha.out.setV Hb.out.setV HDe.out).mono fun r w' h => CombPost.no HCB.out h).mono ?_
    rintro r wk6 ⟨d1, d2, d3, d4, d5, d6, d7, d8, d9, rfl, e, x1⟩
    have Hd := Lib.hid e; clear e
    replace HX := Lib.hid (HX.out.trans x1); replace HDe := Lib.hid (HDe.out.ext x1); replace HMk := Lib.hid (HMk.out.ext x1); replace HNm := Lib.hid (HNm.out.ext x1); replace HPw := Lib.hid (HPw.out.ext x1); replace HVa := Lib.hid (HVa.out.ext x1); replace HVb := Lib.hid (HVb.out.ext x1); replace Ha := Lib.hid (Ha.out.ext x1); replace Hb := Lib.hid (Hb.out.ext x1); replace Hs := Lib.hid (Hs.out.ext x1); replace Hm := Lib.hid (Hm.out.ext x1); replace HVm := Lib.hid (HVm.out.ext x1); replace Hj := Lib.hid (Hj.out.ext x1); replace HVj := Lib.hid (HVj.out.ext x1)
    clear x1 qa0 qa1 qa2 qb0 qb1 qb2
    go_upto_region 7 with fail
    obtain ⟨Wk6, hWk⟩ : ∃ Wk, Wk = wk6.alloc (.cells #[.slice d1 d2 d3, .slice d4 d5 d6, .slice d7 d8 d9] 31) := ⟨_, rfl⟩
    have x1 : Ext wk6 Wk6 := by rw [hWk]; exact (Ext.refl _).alloc _
    have HVd : Hid (Var3 31 Wk6 wk6.heap.size (.slice d1 d2 d3) (.slice d4 d5 d6) (.slice d7 d8 d9)) := by rw [hWk]; exact Var3.new _ _ _ _ _
    rw [← hWk]
    replace HX := Lib.hid (HX.out.trans x1); replace HDe := Lib.hid (HDe.out.ext x1); replace HMk := Lib.hid (HMk.out.ext x1); replace HNm := Lib.hid (HNm.out.ext x1); replace HPw := Lib.hid (HPw.out.ext x1); replace HVa := Lib.hid (HVa.out.ext x1); replace HVb := Lib.hid (HVb.out.ext x1); replace Ha := Lib.hid (Ha.out.ext x1); replace Hb := Lib.hid (Hb.out.ext x1); replace Hs := Lib.hid (Hs.out.ext x1); replace Hm := Lib.hid (Hm.out.ext x1); replace HVm := Lib.hid (HVm.out.ext x1); replace Hj := Lib.hid (Hj.out.ext x1); replace HVj := Lib.hid (HVj.out.ext x1); replace Hd := Lib.hid (Hd.out.ext x1)
    clear x1 hWk
    generalize wk6.heap.size = bd at *
    go_wp2_with fail
    exact bodyPost_ret (v := .bool true) (by simp [results, Tryd.results7, go_sem]) rfl ⟨rfl, HX.out⟩
  | true =>
    obtain ⟨e1, e2, S, T, e3, e4, hS, hT⟩ := comb_parts hcb
    subst e1 e2 e3 e4
    have HS := Lib.hid hS; have HT := Lib.hid hT
    clear hS hT hcb
    obtain ⟨qa0, qa1, qa2⟩ := HVa.out.cells
    obtain ⟨qb0, qb1, qb2⟩ := HVb.out.cells
    go_wp2_with fail
    refine ((Meet_any cs2 ws2 (castL S) cs2 ws2 (castL T) _ _ _ Ha.out.setV Hb.out.setV HDe.out).mono fun r w' h => CombPost.yes HS.out HT.out h).mono ?_
    rintro r wk4 ⟨m1, m2, m3, m4, m5, m6, m7, m8, m9, rfl, e, x1⟩
    have Hm := Lib.hid e; clear e
    replace HX := Lib.hid (HX.out.trans x1); replace HDe := Lib.hid (HDe.out.ext x1); replace HMk := Lib.hid (HMk.out.ext x1); replace HNm := Lib.hid (HNm.out.ext x1); replace HPw := Lib.hid (HPw.out.ext x1); replace HVa := Lib.hid (HVa.out.ext x1); replace HVb := Lib.hid (HVb.out.ext x1); replace Ha := Lib.hid (Ha.out.ext x1); replace Hb := Lib.hid (Hb.out.ext x1); replace Hs := Lib.hid (Hs.out.ext x1)
    clear x1 qa0 qa1 qa2 qb0 qb1 qb2
    go_upto_region 5 with fail
    obtain ⟨Wk4, hWk⟩ : ∃ Wk, Wk = wk4.alloc (.cells #[.slice m1 m2 m3, .slice m4 m5 m6, .slice m7 m8 m9] 31) := ⟨_, rfl⟩
    have x1 : Ext wk4 Wk4 := by rw [hWk]; exact (Ext.refl _).alloc _
    have HVm : Hid (Var3 31 Wk4 wk4.heap.size (.slice m1 m2 m3) (.slice m4 m5 m6) (.slice m7 m8 m9)) := by rw [hWk]; exact Var3.new _ _ _ _ _
    rw [← hWk]
    replace HX := Lib.hid (HX.out.trans x1); replace HDe := Lib.hid (HDe.out.ext x1); replace HMk := Lib.hid (HMk.out.ext x1); replace HNm := Lib.hid (HNm.out.ext x1); replace HPw := Lib.hid (HPw.out.ext x1); replace HVa := Lib.hid (HVa.out.ext x1); replace HVb := Lib.hid (HVb.out.ext x1); replace Ha := Lib.hid (Ha.out.ext x1); replace Hb := Lib.hid (Hb.out.ext x1); replace Hs := Lib.hid (Hs.out.ext x1); replace Hm := Lib.hid (Hm.out.ext x1)
    clear x1 hWk
    generalize wk4.heap.size = bm at *
    obtain ⟨qa0, qa1, qa2⟩ := HVa.out.cells
    obtain ⟨qb0, qb1, qb2⟩ := HVb.out.cells
    go_wp2_with fail
    refine ((Join_any cs2 ws2 (castL S) cs2 ws2 (castL T) _ _ _ Ha.out.setV Hb.out.setV HDe.out).mono fun r w' h => CombPost.yes HS.out HT.out h).mono ?_
    rintro r wk5 ⟨j1, j2, j3, j4, j5, j6, j7, j8, j9, rfl, e, x1⟩
    have Hj := Lib.hid e; clear e
    replace HX := Lib.hid (HX.out.trans x1); replace HDe := Lib.hid (HDe.out.ext x1); replace HMk := Lib.hid (HMk.out.ext x1); replace HNm := Lib.hid (HNm.out.ext x1); replace HPw := Lib.hid (HPw.out.ext x1); replace HVa := Lib.hid (HVa.out.ext x1); replace HVb := Lib.hid (HVb.out.ext x1); replace Ha := Lib.hid (Ha.out.ext x1); replace Hb := Lib.hid (Hb.out.ext x1); replace Hs := Lib.hid (Hs.out.ext x1); replace Hm := Lib.hid (Hm.out.ext x1); replace HVm := Lib.hid (HVm.out.ext x1)
    clear x1 qa0 qa1 qa2 qb0 qb1 qb2
    go_upto_region 6 with fail
    obtain ⟨Wk5, hWk⟩ : ∃ Wk, Wk = wk5.alloc (.cells #[.slice j1 j2 j3, .slice j4 j5 j6, .slice j7 j8 j9] 31) := ⟨_, rfl⟩
    have x1 : Ext wk5 Wk5 := by rw [hWk]; exact (Ext.refl _).alloc _
    have HVj : Hid (Var3 31 Wk5 wk5.heap.size (.slice j1 j2 j3) (.slice j4 j5 j6) (.slice j7 j8 j9)) := by rw [hWk]; exact Var3.new _ _ _ _ _
    rw [← hWk]
    replace HX := Lib.hid (HX.out.trans x1); replace HDe := Lib.hid (HDe.out.ext x1); replace HMk := Lib.hid (HMk.out.ext x1); replace HNm := Lib.hid (HNm.out.ext x1); replace HPw := Lib.hid (HPw.out.ext x1); replace HVa := Lib.hid (HVa.out.ext x1); replace HVb := Lib.hid (HVb.out.ext x1); replace Ha := Lib.hid (Ha.out.ext x1); replace Hb := Lib.hid (Hb.out.ext x1); replace Hs := Lib.hid (Hs.out.ext x1); replace Hm := Lib.hid (Hm.out.ext x1); replace HVm := Lib.hid (HVm.out.ext x1); replace Hj := Lib.hid (Hj.out.ext x1)
    clear x1 hWk
    generalize wk5.heap.size = bj at *
    obtain ⟨qa0, qa1, qa2⟩ := HVa.out.cells
    obtain ⟨qb0, qb1, qb2⟩ := HVb.out.cells
    go_wp2_with fail
    refine ((Minus_any cs2 ws2 (castL S) cs2 ws2 (castL T) _ _ _ Ha.out.setV Hb.out.setV HDe.out).mono fun r w' h => CombPost.yes HS.out HT.out h).mono ?_
    rintro r wk6 ⟨d1, d2, d3, d4, d5, d6, d7, d8, d9, rfl, e, x1⟩
    have Hd := Lib.hid e; clear e
    replace HX := Lib.hid (HX.out.trans x1); replace HDe := Lib.hid (HDe.out.ext x1); replace HMk := Lib.hid (HMk.out.ext x1); replace HNm := Lib.hid (HNm.out.ext x1); replace HPw := Lib.hid (HPw.out.ext x1); replace HVa := Lib.hid (HVa.out.ext x1); replace HVb := Lib.hid (HVb.out.ext x1); replace Ha := Lib.hid (Ha.out.ext x1); replace Hb := Lib.hid (Hb.out.ext x1); replace Hs := Lib.hid (Hs.out.ext x1); replace Hm := Lib.hid (Hm.out.ext x1); replace HVm := Lib.hid (HVm.out.ext x1); replace Hj := Lib.hid (Hj.out.ext x1); replace HVj := Lib.hid (HVj.out.ext x1)
    clear x1 qa0 qa1 qa2 qb0 qb1 qb2
    go_upto_region 7 with fail
    obtain ⟨Wk6, hWk⟩ : ∃ Wk, Wk = wk6.alloc (.cells #[.slice d1 d2 d3, .slice d4 d5 d6, .slice d7 d8 d9] 31) := ⟨_, rfl⟩
    have x1 : Ext wk6 Wk6 := by rw [hWk]; exact (Ext.refl _).alloc _
    have HVd : Hid (Var3 31 Wk6 wk6.heap.size (.slice d1 d2 d3) (.slice d4 d5 d6) (.slice d7 d8 d9)) := by rw [hWk]; exact Var3.new _ _ _ _ _
    rw [← hWk]
    replace HX := Lib.hid (HX.out.trans x1); replace HDe := Lib.hid (HDe.out.ext x1); replace HMk := Lib.hid (HMk.out.ext x1); replace HNm := Lib.hid (HNm.out.ext x1); replace HPw := Lib.hid (HPw.out.ext x1); replace HVa := Lib.hid (HVa.out.ext x1); replace HVb := Lib.hid (HVb.out.ext x1); replace Ha := Lib.hid (Ha.out.ext x1); replace Hb := Lib.hid (Hb.out.ext x1); replace Hs := Lib.hid (Hs.out.ext x1); replace Hm := Lib.hid (Hm.out.ext x1); replace HVm := Lib.hid (HVm.out.ext x1); replace Hj := Lib.hid (Hj.out.ext x1); replace HVj := Lib.hid (HVj.out.ext x1); replace Hd := Lib.hid (Hd.out.ext x1)
    clear x1 hWk
    generalize wk6.heap.size = bd at *
    obtain ⟨l1, l2, l3, l4, l5, l6, l7⟩ := alg_law HS.out HT.out st
    have L1 := Lib.hid l1; have L2 := Lib.hid l2; have L3 := Lib.hid l3
    have k1 : m8 = (cmbL (· &&& ·) S T).length := (setc_len Hm.out).trans (castL_len _)
    have k2 : j8 = (cmbL (· ||| ·) S T).length := (setc_len Hj.out).trans (castL_len _)
    have k3 : d8 = (cmbL dif S T).length := (setc_len Hd.out).trans (castL_len _)
    have k4 : a8 = S.length := (setc_len Ha.out).trans (castL_len _)
    have k5 : b8 = T.length := (setc_len Hb.out).trans (castL_len _)
    rw [← k1, ← k2, ← k4, ← k5] at l4
    rw [← k1, ← k3, ← k4] at l5
    rw [← k4] at l6
    rw [← k5] at l7
    have w1 := wrap_add m8 j8 (by rw [l4]; exact Nat.add_le_add l6 l7)
    have w2 : wrap64 ((a8 : Int) + (b8 : Int)) = (m8 : Int) + (j8 : Int) := by rw [wrap_add a8 b8 (Nat.add_le_add l6 l7)]; exact_mod_cast l4.symm
    have w3 : wrap64 ((m8 : Int) + (d8 : Int)) = (a8 : Int) := by rw [wrap_add m8 d8 (by rw [l5]; exact Nat.le_trans l6 (by decide))]; exact_mod_cast l5
    clear l1 l2 l3 l4 l5 l6 l7 k1 k2 k3 k4 k5
    obtain ⟨qa0, qa1, qa2⟩ := HVa.out.cells
    go_wp2_with fail
    refine (StContains_any cs2 ws2 (castL S) st _ _ _ Ha.out.setV Hs.out).mono ?_
    rintro r wk7 ⟨rfl, x1⟩
    replace HX := Lib.hid (HX.out.trans x1); replace HDe := Lib.hid (HDe.out.ext x1); replace HMk := Lib.hid (HMk.out.ext x1); replace HNm := Lib.hid (HNm.out.ext x1); replace HPw := Lib.hid (HPw.out.ext x1); replace HVa := Lib.hid (HVa.out.ext x1); replace HVb := Lib.hid (HVb.out.ext x1); replace Ha := Lib.hid (Ha.out.ext x1); replace Hb := Lib.hid (Hb.out.ext x1); replace Hs := Lib.hid (Hs.out.ext x1); replace Hm := Lib.hid (Hm.out.ext x1); replace HVm := Lib.hid (HVm.out.ext x1); replace Hj := Lib.hid (Hj.out.ext x1); replace HVj := Lib.hid (HVj.out.ext x1); replace Hd := Lib.hid (Hd.out.ext x1); replace HVd := Lib.hid (HVd.out.ext x1)
    clear x1 qa0 qa1 qa2
    obtain ⟨qb0, qb1, qb2⟩ := HVb.out.cells
    go_wp2_with fail
    refine (StContains_any cs2 ws2 (castL T) st _ _ _ Hb.out.setV Hs.out).mono ?_
    rintro r wk8 ⟨rfl, x1⟩
    replace HX := Lib.hid (HX.out.trans x1); replace HDe := Lib.hid (HDe.out.ext x1); replace HMk := Lib.hid (HMk.out.ext x1); replace HNm := Lib.hid (HNm.out.ext x1); replace HPw := Lib.hid (HPw.out.ext x1); replace HVa := Lib.hid (HVa.out.ext x1); replace HVb := Lib.hid (HVb.out.ext x1); replace Ha := Lib.hid (Ha.out.ext x1); replace Hb := Lib.hid (Hb.out.ext x1); replace Hs := Lib.hid (Hs.out.ext x1); replace Hm := Lib.hid (Hm.out.ext x1); replace HVm := Lib.hid (HVm.out.ext x1); replace Hj := Lib.hid (Hj.out.ext x1); replace HVj := Lib.hid (HVj.out.ext x1); replace Hd := Lib.hid (Hd.out.ext x1); replace HVd := Lib.hid (HVd.out.ext x1)
    clear x1 qb0 qb1 qb2
    generalize containsS cs2 ws2 (castL S) st = X at *
    generalize containsS cs2 ws2 (castL T) st = Y at *
    cases X <;> cases Y
    all_goals
      obtain ⟨qm0, qm1, qm2⟩ := HVm.out.cells
      go_wp2_with fail
      refine (StContains_any cs2 ws2 (castL (cmbL (· &&& ·) S T)) st _ _ _ Hm.out.setV Hs.out).mono ?_
      rintro r wk9 ⟨rfl, x1⟩
      rw [L1.out]
      replace HX := Lib.hid (HX.out.trans x1); replace HDe := Lib.hid (HDe.out.ext x1); replace HMk := Lib.hid (HMk.out.ext x1); replace HNm := Lib.hid (HNm.out.ext x1); replace HPw := Lib.hid (HPw.out.ext x1); replace HVa := Lib.hid (HVa.out.ext x1); replace HVb := Lib.hid (HVb.out.ext x1); replace Ha := Lib.hid (Ha.out.ext x1); replace Hb := Lib.hid (Hb.out.ext x1); replace Hs := Lib.hid (Hs.out.ext x1); replace Hm := Lib.hid (Hm.out.ext x1); replace HVm := Lib.hid (HVm.out.ext x1); replace Hj := Lib.hid (Hj.out.ext x1); replace HVj := Lib.hid (HVj.out.ext x1); replace Hd := Lib.hid (Hd.out.ext x1); replace HVd := Lib.hid (HVd.out.ext x1)
      clear x1 qm0 qm1 qm2
      obtain ⟨qj0, qj1, qj2⟩ := HVj.out.cells
      go_wp2_with fail
      refine (StContains_any cs2 ws2 (castL (cmbL (· ||| ·) S T)) st _ _ _ Hj.out.setV Hs.out).mono ?_
      rintro r wk10 ⟨rfl, x1⟩
      rw [L2.out]
      replace HX := Lib.hid (HX.out.trans x1); replace HDe := Lib.hid (HDe.out.ext x1); replace HMk := Lib.hid (HMk.out.ext x1); replace HNm := Lib.hid (HNm.out.ext x1); replace HPw := Lib.hid (HPw.out.ext x1); replace HVa := Lib.hid (HVa.out.ext x1); replace HVb := Lib.hid (HVb.out.ext x1); replace Ha := Lib.hid (Ha.out.ext x1); replace Hb := Lib.hid (Hb.out.ext x1); replace Hs := Lib.hid (Hs.out.ext x1); replace Hm := Lib.hid (Hm.out.ext x1); replace HVm := Lib.hid (HVm.out.ext x1); replace Hj := Lib.hid (Hj.out.ext x1); replace HVj := Lib.hid (HVj.out.ext x1); replace Hd := Lib.hid (Hd.out.ext x1); replace HVd := Lib.hid (HVd.out.ext x1)
      clear x1 qj0 qj1 qj2
      obtain ⟨qd0, qd1, qd2⟩ := HVd.out.cells
      go_wp2_with fail
      refine (StContains_any cs2 ws2 (castL (cmbL dif S T)) st _ _ _ Hd.out.setV Hs.out).mono ?_
      rintro r wk11 ⟨rfl, x1⟩
      rw [L3.out]
      replace HX := Lib.hid (HX.out.trans x1); replace HDe := Lib.hid (HDe.out.ext x1); replace HMk := Lib.hid (HMk.out.ext x1); replace HNm := Lib.hid (HNm.out.ext x1); replace HPw := Lib.hid (HPw.out.ext x1); replace HVa := Lib.hid (HVa.out.ext x1); replace HVb := Lib.hid (HVb.out.ext x1); replace Ha := Lib.hid (Ha.out.ext x1); replace Hb := Lib.hid (Hb.out.ext x1); replace Hs := Lib.hid (Hs.out.ext x1); replace Hm := Lib.hid (Hm.out.ext x1); replace HVm := Lib.hid (HVm.out.ext x1); replace Hj := Lib.hid (Hj.out.ext x1); replace HVj := Lib.hid (HVj.out.ext x1); replace Hd := Lib.hid (Hd.out.ext x1); replace HVd := Lib.hid (HVd.out.ext x1)
      clear x1 qd0 qd1 qd2
      obtain ⟨qm0, qm1, qm2⟩ := HVm.out.cells
      obtain ⟨qj0, qj1, qj2⟩ := HVj.out.cells
      obtain ⟨qd0, qd1, qd2⟩ := HVd.out.cells
      obtain ⟨qa0, qa1, qa2⟩ := HVa.out.cells
      obtain ⟨qb0, qb1, qb2⟩ := HVb.out.cells
      go_wp2_with fail
      exact bodyPost_ret (v := .bool true) (by simp [results, Tryd.results7, go_sem]) rfl ⟨rfl, HX.out⟩
end Go.Proofs.YtdiopiekmdfklaaDoor
