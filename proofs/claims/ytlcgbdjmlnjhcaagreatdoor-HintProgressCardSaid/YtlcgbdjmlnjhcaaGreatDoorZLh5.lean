/-
  The walk of HintProgress. Printed by gen_law32.py.
-/
import Derived.Test.YtlcgbdjmlnjhcaaGreatDoorG42
import Derived.Test.YtlcgbdjmlnjhcaaGreatDoorG41
namespace Go.Proofs.YtlcgbdjmlnjhcaaGreatDoor
open Go.RowKit
attribute [local go_sem] Oper.semAt_some

set_option maxRecDepth 100000 in
set_option maxHeartbeats 16000000 in
theorem HintProgress_any (cells : List CellD) (c : CondS) (a : E) (kv cv av : Value) (w : World) (hC : Cells w kv cells) (hc : CondV w cv c) (ha : EVal w av a) (hM : Masks w) (hN : Names w) (hP : Pow10 w) :
    Calls Tryz.prog 7 #[kv, cv, av] w fun r w' => r = .returned (.bool true) ∧ Ext w w' := by
  have hcV := hc
  obtain ⟨ca1, ca2, ca3, ca4, ca5, ca6, rfl, _, _⟩ := hc
  have haV := ha
  obtain ⟨a1, a3, rfl, _⟩ := ha.shape'
  obtain ⟨a2, ha2⟩ : ∃ n, a.kids.length = n := ⟨_, rfl⟩
  rw [ha2] at haV ⊢
  clear ha2
  obtain ⟨ka, kc, rfl⟩ := SliceAt.shape hC
  have hkl := SliceAt.len_le hC
  obtain ⟨W, hW⟩ : ∃ W, Boxes w W (.cells (condCells c ca1 ca2 ca3 ca4 ca5 ca6) 27) (.cells #[.int .i64 a.op, .int .i64 a.wd, .int .i64 a.n, .slice a1 a2 a3] 25) := ⟨_, Boxes.mk' _ _ _⟩
  have hx := hW.ext
  have HVc : Hid (CondAt W w.heap.size c ca1 ca2 ca3 ca4 ca5 ca6) := hW.b0
  have Hc := Lib.hid (hcV.ext hx)
  have HVa : Hid (VarE W (w.heap.size + 1) a.op a.wd a.n (.slice a1 a2 a3)) := hW.b1
  have Ha := Lib.hid (haV.ext hx)
  have HX := Lib.hid hx; have HC := Lib.hid (hC.ext hx); have HM := Lib.hid (hM.ext hx); have HN := Lib.hid (hN.ext hx); have HP := Lib.hid (hP.ext hx); have HW := Lib.hid hW.eq
  clear hW hx hM hN hP hC hcV haV ha 
  unfold condCells at *
  go_enter Tryz.func7, Tryz.ntmps7
  go_upto_region 1 with fail
  rw [← HW.out]
  clear HW
  generalize w.heap.size + 1 = ba at *
  generalize w.heap.size = bc at *
  go_wp2_with fail
  refine (head_any W HM.out HN.out HP.out).mono ?_
  rintro r wk1 ⟨rfl, x1⟩
  replace HX := Lib.hid (HX.out.trans x1); replace HC := Lib.hid (HC.out.ext x1); replace HM := Lib.hid (HM.out.ext x1); replace HVc := Lib.hid (HVc.out.ext x1); replace Hc := Lib.hid (Hc.out.ext x1); replace HVa := Lib.hid (HVa.out.ext x1); replace Ha := Lib.hid (Ha.out.ext x1)
  clear x1
  clear HN HP
  obtain ⟨qc0, qc1, qc2, qc3, qc4, qc5, qc6, qc7, qc8, qc9, qc10, qc11, qc12, qc13⟩ := HVc.out.all
  go_wp2_with fail
  refine (small32_any cells c _ _ _ HC.out Hc.out).mono ?_
  rintro r wk2 ⟨rfl, x1⟩
  replace HX := Lib.hid (HX.out.trans x1); replace HC := Lib.hid (HC.out.ext x1); replace HM := Lib.hid (HM.out.ext x1); replace HVc := Lib.hid (HVc.out.ext x1); replace Hc := Lib.hid (Hc.out.ext x1); replace HVa := Lib.hid (HVa.out.ext x1); replace Ha := Lib.hid (Ha.out.ext x1)
  clear x1 qc0 qc1 qc2 qc3 qc4 qc5 qc6 qc7 qc8 qc9 qc10 qc11 qc12 qc13
  cases hb1 : small32 cells c with
  | false =>
    clear hb1
    go_wp2_with fail
    exact bodyPost_ret (v := .bool true) (by simp [results, Tryz.results7, go_sem]) rfl ⟨rfl, by first | exact HX.out | exact HX.out.alloc _⟩
  | true =>
  have HS := Lib.hid (sm_of hb1)
  clear hb1
  obtain ⟨qa0, qa1, qa2, qa3⟩ := HVa.out.cells
  go_wp2_with fail
  refine (RSmall_any a _ _ 40 Ha.out (by omega) (by omega)).mono ?_
  rintro r wk3 ⟨rfl, x1⟩
  replace HX := Lib.hid (HX.out.trans x1); replace HC := Lib.hid (HC.out.ext x1); replace HM := Lib.hid (HM.out.ext x1); replace HVc := Lib.hid (HVc.out.ext x1); replace Hc := Lib.hid (Hc.out.ext x1); replace HVa := Lib.hid (HVa.out.ext x1); replace Ha := Lib.hid (Ha.out.ext x1)
  clear x1 qa0 qa1 qa2 qa3
  cases hb1 : decide ((a.size : Int) ≤ 40) with
  | false =>
    clear hb1
    go_wp2_with fail
    exact bodyPost_ret (v := .bool true) (by simp [results, Tryz.results7, go_sem]) rfl ⟨rfl, by first | exact HX.out | exact HX.out.alloc _⟩
  | true =>
  clear hb1
  by_cases hz : (weak0 cells c.hyp c.goal).op = 0
  · have HWK : Hid (weakR cells c.hyp c.goal = (.mk 0 0 0 [], 2)) := by rw [Hid, HS.out.weak, if_pos hz]
    clear hz
    generalize E.mk 0 0 0 [] = e at *
    obtain ⟨qc0, qc1, qc2, qc3, qc4, qc5, qc6, qc7, qc8, qc9, qc10, qc11, qc12, qc13⟩ := HVc.out.all
    go_wp2_with fail
    refine (Weak_s HS.out HWK.out _ _ _ Hc.out HC.out HM.out).mono ?_
    rintro r wk4 ⟨e1, e2, e3, rfl, he, x1⟩
    have He := Lib.hid he; clear he
    replace HX := Lib.hid (HX.out.trans x1); replace HC := Lib.hid (HC.out.ext x1); replace HM := Lib.hid (HM.out.ext x1); replace HVc := Lib.hid (HVc.out.ext x1); replace Hc := Lib.hid (Hc.out.ext x1); replace HVa := Lib.hid (HVa.out.ext x1); replace Ha := Lib.hid (Ha.out.ext x1)
    clear x1 qc0 qc1 qc2 qc3 qc4 qc5 qc6 qc7 qc8 qc9 qc10 qc11 qc12 qc13
    go_wp2_with fail
    exact bodyPost_ret (v := .bool true) (by simp [results, Tryz.results7, go_sem]) rfl ⟨rfl, by first | exact HX.out | exact HX.out.alloc _⟩
  have HWK : Hid (weakR cells c.hyp c.goal = (weakE cells c.hyp c.goal, 0)) := by rw [Hid, HS.out.weak, if_neg hz]
  have HOWN := Lib.hid (own_law HS.out hz)
  have HPRG := Lib.hid (fun Sd hzd hst hl => prog_law (a := a) HS.out hz Sd hzd hst hl)
  clear hz
  generalize weakE cells c.hyp c.goal = e at *
  obtain ⟨o, ho⟩ : ∃ o, strC c e = o := ⟨_, rfl⟩
  rw [ho] at HOWN
  have HOE := Lib.hid ho
  obtain ⟨d, hd⟩ : ∃ d, strC c a = d := ⟨_, rfl⟩
  rw [hd] at HPRG
  have HDE := Lib.hid hd
  clear ho hd
  obtain ⟨qc0, qc1, qc2, qc3, qc4, qc5, qc6, qc7, qc8, qc9, qc10, qc11, qc12, qc13⟩ := HVc.out.all
  go_wp2_with fail
  refine (Weak_s HS.out HWK.out _ _ _ Hc.out HC.out HM.out).mono ?_
  rintro r wk4 ⟨e1, e2, e3, rfl, he, x1⟩
  have He := Lib.hid he; clear he
  replace HX := Lib.hid (HX.out.trans x1); replace HC := Lib.hid (HC.out.ext x1); replace HM := Lib.hid (HM.out.ext x1); replace HVc := Lib.hid (HVc.out.ext x1); replace Hc := Lib.hid (Hc.out.ext x1); replace HVa := Lib.hid (HVa.out.ext x1); replace Ha := Lib.hid (Ha.out.ext x1)
  clear x1 qc0 qc1 qc2 qc3 qc4 qc5 qc6 qc7 qc8 qc9 qc10 qc11 qc12 qc13
  go_upto_region 5 with fail
  obtain ⟨Wk4, hWk⟩ : ∃ Wk, Wk = wk4.alloc (.cells #[.int .i64 e.op, .int .i64 e.wd, .int .i64 e.n, .slice e1 e2 e3] 25) := ⟨_, rfl⟩
  have x1 : Ext wk4 Wk4 := by rw [hWk]; exact (Ext.refl _).alloc _
  have HVe : Hid (VarE Wk4 wk4.heap.size e.op e.wd e.n (.slice e1 e2 e3)) := by rw [hWk]; exact heap_new _ _
  rw [← hWk]
  replace HX := Lib.hid (HX.out.trans x1); replace HC := Lib.hid (HC.out.ext x1); replace HM := Lib.hid (HM.out.ext x1); replace HVc := Lib.hid (HVc.out.ext x1); replace Hc := Lib.hid (Hc.out.ext x1); replace HVa := Lib.hid (HVa.out.ext x1); replace Ha := Lib.hid (Ha.out.ext x1); replace He := Lib.hid (He.out.ext x1)
  clear x1 hWk
  generalize wk4.heap.size = be at *
  obtain ⟨qc0, qc1, qc2, qc3, qc4, qc5, qc6, qc7, qc8, qc9, qc10, qc11, qc12, qc13⟩ := HVc.out.all
  obtain ⟨qe0, qe1, qe2, qe3⟩ := HVe.out.cells
  go_wp2_with fail
  refine (Str_s (by have := HS.out.s2; omega) HOE.out _ _ _ Hc.out He.out HM.out).mono ?_
  rintro r wk5 ⟨oa1, oa2, oa3, oa4, oa5, oa6, rfl, hv, x1⟩
  have Ho := Lib.hid hv; clear hv
  unfold condCells at Ho
  replace HX := Lib.hid (HX.out.trans x1); replace HC := Lib.hid (HC.out.ext x1); replace HM := Lib.hid (HM.out.ext x1); replace HVc := Lib.hid (HVc.out.ext x1); replace Hc := Lib.hid (Hc.out.ext x1); replace HVa := Lib.hid (HVa.out.ext x1); replace Ha := Lib.hid (Ha.out.ext x1); replace He := Lib.hid (He.out.ext x1); replace HVe := Lib.hid (HVe.out.ext x1)
  clear x1 qc0 qc1 qc2 qc3 qc4 qc5 qc6 qc7 qc8 qc9 qc10 qc11 qc12 qc13 qe0 qe1 qe2 qe3
  go_upto_region 8 with fail
  obtain ⟨Wk5, hWk⟩ : ∃ Wk, Wk = wk5.alloc (.cells #[.string ⟨o.id.toArray⟩, .int .i64 o.k1, .int .i64 o.k2, .int .i64 o.k3, .int .i64 o.k4, .int .i64 o.k5, .int .i64 o.hyp.op, .int .i64 o.hyp.wd, .int .i64 o.hyp.n, .slice oa1 oa2 oa3, .int .i64 o.goal.op, .int .i64 o.goal.wd, .int .i64 o.goal.n, .slice oa4 oa5 oa6] 27) := ⟨_, rfl⟩
  have x1 : Ext wk5 Wk5 := by rw [hWk]; exact (Ext.refl _).alloc _
  have HVo : Hid (CondAt Wk5 wk5.heap.size o oa1 oa2 oa3 oa4 oa5 oa6) := by rw [hWk]; exact heap_new _ _
  rw [← hWk]
  replace HX := Lib.hid (HX.out.trans x1); replace HC := Lib.hid (HC.out.ext x1); replace HM := Lib.hid (HM.out.ext x1); replace HVc := Lib.hid (HVc.out.ext x1); replace Hc := Lib.hid (Hc.out.ext x1); replace HVa := Lib.hid (HVa.out.ext x1); replace Ha := Lib.hid (Ha.out.ext x1); replace He := Lib.hid (He.out.ext x1); replace HVe := Lib.hid (HVe.out.ext x1); replace Ho := Lib.hid (Ho.out.ext x1)
  clear x1 hWk
  generalize wk5.heap.size = bo at *
  obtain ⟨qo0, qo1, qo2, qo3, qo4, qo5, qo6, qo7, qo8, qo9, qo10, qo11, qo12, qo13⟩ := HVo.out.all
  go_wp2_with fail
  refine (small32_any cells o _ _ _ HC.out Ho.out).mono ?_
  rintro r wk6 ⟨rfl, x1⟩
  replace HX := Lib.hid (HX.out.trans x1); replace HC := Lib.hid (HC.out.ext x1); replace HM := Lib.hid (HM.out.ext x1); replace HVc := Lib.hid (HVc.out.ext x1); replace Hc := Lib.hid (Hc.out.ext x1); replace HVa := Lib.hid (HVa.out.ext x1); replace Ha := Lib.hid (Ha.out.ext x1); replace He := Lib.hid (He.out.ext x1); replace HVe := Lib.hid (HVe.out.ext x1); replace Ho := Lib.hid (Ho.out.ext x1); replace HVo := Lib.hid (HVo.out.ext x1)
  clear x1 qo0 qo1 qo2 qo3 qo4 qo5 qo6 qo7 qo8 qo9 qo10 qo11 qo12 qo13
  go_upto_if 55 with fail
  go_cut [] (fun W => Ext wk6 W)
  case first =>
    have HXb : Hid (Ext wk6 wk6) := Ext.refl _
    cases hso : small32 cells o with
    | false =>
      go_wp2_with fail
      go_meet
      exact HXb.out
    | true =>
      have HSo := Lib.hid (sm_of hso)
      have HWO := Lib.hid (HOWN.out HSo.out)
      clear hso HOWN
      obtain ⟨u, hu⟩ : ∃ u, E.mk 1 1 1 [] = u := ⟨_, rfl⟩
      rw [hu] at HWO
      have HUE := Lib.hid hu
      clear hu
      obtain ⟨qo0, qo1, qo2, qo3, qo4, qo5, qo6, qo7, qo8, qo9, qo10, qo11, qo12, qo13⟩ := HVo.out.all
      go_wp2_with fail
      refine (Weak_s HSo.out HWO.out _ _ _ Ho.out HC.out HM.out).mono ?_
      rintro r wk7 ⟨u1, u2, u3, rfl, he, x1⟩
      have Hu := Lib.hid he; clear he
      replace HX := Lib.hid (HX.out.trans x1); replace HC := Lib.hid (HC.out.ext x1); replace HM := Lib.hid (HM.out.ext x1); replace HVc := Lib.hid (HVc.out.ext x1); replace Hc := Lib.hid (Hc.out.ext x1); replace HVa := Lib.hid (HVa.out.ext x1); replace Ha := Lib.hid (Ha.out.ext x1); replace He := Lib.hid (He.out.ext x1); replace HVe := Lib.hid (HVe.out.ext x1); replace Ho := Lib.hid (Ho.out.ext x1); replace HVo := Lib.hid (HVo.out.ext x1); replace HXb := Lib.hid (HXb.out.trans x1)
      clear x1 qo0 qo1 qo2 qo3 qo4 qo5 qo6 qo7 qo8 qo9 qo10 qo11 qo12 qo13
      go_upto_region 10 with fail
      obtain ⟨Wk7, hWk⟩ : ∃ Wk, Wk = wk7.alloc (.cells #[.int .i64 u.op, .int .i64 u.wd, .int .i64 u.n, .slice u1 u2 u3] 25) := ⟨_, rfl⟩
      have x1 : Ext wk7 Wk7 := by rw [hWk]; exact (Ext.refl _).alloc _
      have HVu : Hid (VarE Wk7 wk7.heap.size u.op u.wd u.n (.slice u1 u2 u3)) := by rw [hWk]; exact heap_new _ _
      rw [← hWk]
      replace HX := Lib.hid (HX.out.trans x1); replace HC := Lib.hid (HC.out.ext x1); replace HM := Lib.hid (HM.out.ext x1); replace HVc := Lib.hid (HVc.out.ext x1); replace Hc := Lib.hid (Hc.out.ext x1); replace HVa := Lib.hid (HVa.out.ext x1); replace Ha := Lib.hid (Ha.out.ext x1); replace He := Lib.hid (He.out.ext x1); replace HVe := Lib.hid (HVe.out.ext x1); replace Ho := Lib.hid (Ho.out.ext x1); replace HVo := Lib.hid (HVo.out.ext x1); replace Hu := Lib.hid (Hu.out.ext x1); replace HXb := Lib.hid (HXb.out.trans x1)
      clear x1 hWk
      generalize wk7.heap.size = bu at *
      obtain ⟨qu0, qu1, qu2, qu3⟩ := HVu.out.cells
      go_wp2_with fail
      refine (RIs_any u 1 1 _ _ Hu.out).mono ?_
      rintro r wk8 ⟨rfl, x1⟩
      rw [show ((u.op == 1) && (u.n == 1) && (u.wd == 1)) = true by rw [← HUE.out]; rfl]
      replace HX := Lib.hid (HX.out.trans x1); replace HC := Lib.hid (HC.out.ext x1); replace HM := Lib.hid (HM.out.ext x1); replace HVc := Lib.hid (HVc.out.ext x1); replace Hc := Lib.hid (Hc.out.ext x1); replace HVa := Lib.hid (HVa.out.ext x1); replace Ha := Lib.hid (Ha.out.ext x1); replace He := Lib.hid (He.out.ext x1); replace HVe := Lib.hid (HVe.out.ext x1); replace Ho := Lib.hid (Ho.out.ext x1); replace HVo := Lib.hid (HVo.out.ext x1); replace Hu := Lib.hid (Hu.out.ext x1); replace HVu := Lib.hid (HVu.out.ext x1); replace HXb := Lib.hid (HXb.out.trans x1)
      clear x1 qu0 qu1 qu2 qu3
      go_wp2_with fail
      go_meet
      exact HXb.out
  case rest =>
    have x1 := hcut
    generalize wc = U at *
    replace HX := Lib.hid (HX.out.trans x1); replace HC := Lib.hid (HC.out.ext x1); replace HM := Lib.hid (HM.out.ext x1); replace HVc := Lib.hid (HVc.out.ext x1); replace Hc := Lib.hid (Hc.out.ext x1); replace HVa := Lib.hid (HVa.out.ext x1); replace Ha := Lib.hid (Ha.out.ext x1); replace He := Lib.hid (He.out.ext x1); replace HVe := Lib.hid (HVe.out.ext x1); replace Ho := Lib.hid (Ho.out.ext x1); replace HVo := Lib.hid (HVo.out.ext x1)
    clear x1 hcut HOWN
    obtain ⟨qc0, qc1, qc2, qc3, qc4, qc5, qc6, qc7, qc8, qc9, qc10, qc11, qc12, qc13⟩ := HVc.out.all
    obtain ⟨qa0, qa1, qa2, qa3⟩ := HVa.out.cells
    go_wp2_with fail
    refine (Str_s (by have := HS.out.s2; omega) HDE.out _ _ _ Hc.out Ha.out HM.out).mono ?_
    rintro r wk7 ⟨da1, da2, da3, da4, da5, da6, rfl, hv, x1⟩
    have Hd := Lib.hid hv; clear hv
    unfold condCells at Hd
    replace HX := Lib.hid (HX.out.trans x1); replace HC := Lib.hid (HC.out.ext x1); replace HM := Lib.hid (HM.out.ext x1); replace HVc := Lib.hid (HVc.out.ext x1); replace Hc := Lib.hid (Hc.out.ext x1); replace HVa := Lib.hid (HVa.out.ext x1); replace Ha := Lib.hid (Ha.out.ext x1); replace He := Lib.hid (He.out.ext x1); replace HVe := Lib.hid (HVe.out.ext x1); replace Ho := Lib.hid (Ho.out.ext x1); replace HVo := Lib.hid (HVo.out.ext x1)
    clear x1 qc0 qc1 qc2 qc3 qc4 qc5 qc6 qc7 qc8 qc9 qc10 qc11 qc12 qc13 qa0 qa1 qa2 qa3
    go_upto_region 13 with fail
    obtain ⟨Wk7, hWk⟩ : ∃ Wk, Wk = wk7.alloc (.cells #[.string ⟨d.id.toArray⟩, .int .i64 d.k1, .int .i64 d.k2, .int .i64 d.k3, .int .i64 d.k4, .int .i64 d.k5, .int .i64 d.hyp.op, .int .i64 d.hyp.wd, .int .i64 d.hyp.n, .slice da1 da2 da3, .int .i64 d.goal.op, .int .i64 d.goal.wd, .int .i64 d.goal.n, .slice da4 da5 da6] 27) := ⟨_, rfl⟩
    have x1 : Ext wk7 Wk7 := by rw [hWk]; exact (Ext.refl _).alloc _
    have HVd : Hid (CondAt Wk7 wk7.heap.size d da1 da2 da3 da4 da5 da6) := by rw [hWk]; exact heap_new _ _
    rw [← hWk]
    replace HX := Lib.hid (HX.out.trans x1); replace HC := Lib.hid (HC.out.ext x1); replace HM := Lib.hid (HM.out.ext x1); replace HVc := Lib.hid (HVc.out.ext x1); replace Hc := Lib.hid (Hc.out.ext x1); replace HVa := Lib.hid (HVa.out.ext x1); replace Ha := Lib.hid (Ha.out.ext x1); replace He := Lib.hid (He.out.ext x1); replace HVe := Lib.hid (HVe.out.ext x1); replace Ho := Lib.hid (Ho.out.ext x1); replace HVo := Lib.hid (HVo.out.ext x1); replace Hd := Lib.hid (Hd.out.ext x1)
    clear x1 hWk
    generalize wk7.heap.size = bd at *
    obtain ⟨qd0, qd1, qd2, qd3, qd4, qd5, qd6, qd7, qd8, qd9, qd10, qd11, qd12, qd13⟩ := HVd.out.all
    go_wp2_with fail
    refine (small32_any cells d _ _ _ HC.out Hd.out).mono ?_
    rintro r wk8 ⟨rfl, x1⟩
    replace HX := Lib.hid (HX.out.trans x1); replace HC := Lib.hid (HC.out.ext x1); replace HM := Lib.hid (HM.out.ext x1); replace HVc := Lib.hid (HVc.out.ext x1); replace Hc := Lib.hid (Hc.out.ext x1); replace HVa := Lib.hid (HVa.out.ext x1); replace Ha := Lib.hid (Ha.out.ext x1); replace He := Lib.hid (He.out.ext x1); replace HVe := Lib.hid (HVe.out.ext x1); replace Ho := Lib.hid (Ho.out.ext x1); replace HVo := Lib.hid (HVo.out.ext x1); replace Hd := Lib.hid (Hd.out.ext x1); replace HVd := Lib.hid (HVd.out.ext x1)
    clear x1 qd0 qd1 qd2 qd3 qd4 qd5 qd6 qd7 qd8 qd9 qd10 qd11 qd12 qd13
    cases hb1 : small32 cells d with
    | false =>
      clear hb1
      go_wp2_with fail
      exact bodyPost_ret (v := .bool true) (by simp [results, Tryz.results7, go_sem]) rfl ⟨rfl, by first | exact HX.out | exact HX.out.alloc _⟩
    | true =>
    have HSd := Lib.hid (sm_of hb1)
    clear hb1
    obtain ⟨qc0, qc1, qc2, qc3, qc4, qc5, qc6, qc7, qc8, qc9, qc10, qc11, qc12, qc13⟩ := HVc.out.all
    go_wp2_with fail
    refine (Parts_s HS.out _ _ Hc.out).mono ?_
    rintro r wk9 ⟨⟨p1, p3, p4, p5, p6, rfl, _⟩, x1⟩
    replace HX := Lib.hid (HX.out.trans x1); replace HC := Lib.hid (HC.out.ext x1); replace HM := Lib.hid (HM.out.ext x1); replace HVc := Lib.hid (HVc.out.ext x1); replace Hc := Lib.hid (Hc.out.ext x1); replace HVa := Lib.hid (HVa.out.ext x1); replace Ha := Lib.hid (Ha.out.ext x1); replace He := Lib.hid (He.out.ext x1); replace HVe := Lib.hid (HVe.out.ext x1); replace Ho := Lib.hid (Ho.out.ext x1); replace HVo := Lib.hid (HVo.out.ext x1); replace Hd := Lib.hid (Hd.out.ext x1); replace HVd := Lib.hid (HVd.out.ext x1)
    clear x1 qc0 qc1 qc2 qc3 qc4 qc5 qc6 qc7 qc8 qc9 qc10 qc11 qc12 qc13
    obtain ⟨qd0, qd1, qd2, qd3, qd4, qd5, qd6, qd7, qd8, qd9, qd10, qd11, qd12, qd13⟩ := HVd.out.all
    go_wp2_with fail
    refine (Parts_s HSd.out _ _ Hd.out).mono ?_
    rintro r wk10 ⟨⟨r1, r3, r4, r5, r6, rfl, _⟩, x1⟩
    replace HX := Lib.hid (HX.out.trans x1); replace HC := Lib.hid (HC.out.ext x1); replace HM := Lib.hid (HM.out.ext x1); replace HVc := Lib.hid (HVc.out.ext x1); replace Hc := Lib.hid (Hc.out.ext x1); replace HVa := Lib.hid (HVa.out.ext x1); replace Ha := Lib.hid (Ha.out.ext x1); replace He := Lib.hid (He.out.ext x1); replace HVe := Lib.hid (HVe.out.ext x1); replace Ho := Lib.hid (Ho.out.ext x1); replace HVo := Lib.hid (HVo.out.ext x1); replace Hd := Lib.hid (Hd.out.ext x1); replace HVd := Lib.hid (HVd.out.ext x1)
    clear x1 qd0 qd1 qd2 qd3 qd4 qd5 qd6 qd7 qd8 qd9 qd10 qd11 qd12 qd13
    obtain ⟨sb, hsb⟩ : ∃ sb, stepB cells c.hyp c.goal = sb := ⟨_, rfl⟩
    obtain ⟨tb, htb⟩ : ∃ tb, stepB cells d.hyp d.goal = tb := ⟨_, rfl⟩
    obtain ⟨pn, hpn⟩ : ∃ pn, (cP cells c.hyp c.goal).length = pn := ⟨_, rfl⟩
    obtain ⟨qn, hqn⟩ : ∃ qn, (cP cells d.hyp d.goal).length = qn := ⟨_, rfl⟩
    rw [hsb, hpn, htb, hqn]
    rw [hsb, htb, hpn, hqn] at HPRG
    clear hsb htb hpn hqn
    by_cases hz : (weak0 cells d.hyp d.goal).op = 0
    · have HWKd : Hid (weakR cells d.hyp d.goal = (.mk 0 0 0 [], 2)) := by rw [Hid, HSd.out.weak, if_pos hz]
      clear hz HPRG
      generalize E.mk 0 0 0 [] = m at *
      obtain ⟨qd0, qd1, qd2, qd3, qd4, qd5, qd6, qd7, qd8, qd9, qd10, qd11, qd12, qd13⟩ := HVd.out.all
      go_wp2_with fail
      refine (Weak_s HSd.out HWKd.out _ _ _ Hd.out HC.out HM.out).mono ?_
      rintro r wk11 ⟨m1, m2, m3, rfl, he, x1⟩
      have Hm := Lib.hid he; clear he
      replace HX := Lib.hid (HX.out.trans x1); replace HC := Lib.hid (HC.out.ext x1); replace HM := Lib.hid (HM.out.ext x1); replace HVc := Lib.hid (HVc.out.ext x1); replace Hc := Lib.hid (Hc.out.ext x1); replace HVa := Lib.hid (HVa.out.ext x1); replace Ha := Lib.hid (Ha.out.ext x1); replace He := Lib.hid (He.out.ext x1); replace HVe := Lib.hid (HVe.out.ext x1); replace Ho := Lib.hid (Ho.out.ext x1); replace HVo := Lib.hid (HVo.out.ext x1); replace Hd := Lib.hid (Hd.out.ext x1); replace HVd := Lib.hid (HVd.out.ext x1)
      clear x1 qd0 qd1 qd2 qd3 qd4 qd5 qd6 qd7 qd8 qd9 qd10 qd11 qd12 qd13
      go_upto_region 18 with fail
      obtain ⟨Wk11, hWk⟩ : ∃ Wk, Wk = wk11.alloc (.cells #[.int .i64 m.op, .int .i64 m.wd, .int .i64 m.n, .slice m1 m2 m3] 25) := ⟨_, rfl⟩
      have x1 : Ext wk11 Wk11 := by rw [hWk]; exact (Ext.refl _).alloc _
      have HVm : Hid (VarE Wk11 wk11.heap.size m.op m.wd m.n (.slice m1 m2 m3)) := by rw [hWk]; exact heap_new _ _
      rw [← hWk]
      replace HX := Lib.hid (HX.out.trans x1); replace HC := Lib.hid (HC.out.ext x1); replace HM := Lib.hid (HM.out.ext x1); replace HVc := Lib.hid (HVc.out.ext x1); replace Hc := Lib.hid (Hc.out.ext x1); replace HVa := Lib.hid (HVa.out.ext x1); replace Ha := Lib.hid (Ha.out.ext x1); replace He := Lib.hid (He.out.ext x1); replace HVe := Lib.hid (HVe.out.ext x1); replace Ho := Lib.hid (Ho.out.ext x1); replace HVo := Lib.hid (HVo.out.ext x1); replace Hd := Lib.hid (Hd.out.ext x1); replace HVd := Lib.hid (HVd.out.ext x1); replace Hm := Lib.hid (Hm.out.ext x1)
      clear x1 hWk
      generalize wk11.heap.size = bm at *
      by_cases hst : sb = tb
      · subst hst
        by_cases hln : pn = qn
        · subst hln
          go_wp2_with fail
          exact bodyPost_ret (v := .bool true) (by simp [results, Tryz.results7, go_sem]) rfl ⟨rfl, by first | exact HX.out | exact HX.out.alloc _⟩
        · have hlb : ((pn : Int) != (qn : Int)) = true := by simp; omega
          go_wp2_with fail
          exact bodyPost_ret (v := .bool true) (by simp [results, Tryz.results7, go_sem]) rfl ⟨rfl, by first | exact HX.out | exact HX.out.alloc _⟩
      · cases sb <;> cases tb <;> first | exact absurd rfl hst | skip
        all_goals
          go_wp2_with fail
          exact bodyPost_ret (v := .bool true) (by simp [results, Tryz.results7, go_sem]) rfl ⟨rfl, by first | exact HX.out | exact HX.out.alloc _⟩
    have HWKd : Hid (weakR cells d.hyp d.goal = (weakE cells d.hyp d.goal, 0)) := by rw [Hid, HSd.out.weak, if_neg hz]
    have HPR := Lib.hid (HPRG.out HSd.out hz)
    clear hz HPRG
    generalize weakE cells d.hyp d.goal = m at *
    obtain ⟨qd0, qd1, qd2, qd3, qd4, qd5, qd6, qd7, qd8, qd9, qd10, qd11, qd12, qd13⟩ := HVd.out.all
    go_wp2_with fail
    refine (Weak_s HSd.out HWKd.out _ _ _ Hd.out HC.out HM.out).mono ?_
    rintro r wk11 ⟨m1, m2, m3, rfl, he, x1⟩
    have Hm := Lib.hid he; clear he
    replace HX := Lib.hid (HX.out.trans x1); replace HC := Lib.hid (HC.out.ext x1); replace HM := Lib.hid (HM.out.ext x1); replace HVc := Lib.hid (HVc.out.ext x1); replace Hc := Lib.hid (Hc.out.ext x1); replace HVa := Lib.hid (HVa.out.ext x1); replace Ha := Lib.hid (Ha.out.ext x1); replace He := Lib.hid (He.out.ext x1); replace HVe := Lib.hid (HVe.out.ext x1); replace Ho := Lib.hid (Ho.out.ext x1); replace HVo := Lib.hid (HVo.out.ext x1); replace Hd := Lib.hid (Hd.out.ext x1); replace HVd := Lib.hid (HVd.out.ext x1)
    clear x1 qd0 qd1 qd2 qd3 qd4 qd5 qd6 qd7 qd8 qd9 qd10 qd11 qd12 qd13
    go_upto_region 18 with fail
    obtain ⟨Wk11, hWk⟩ : ∃ Wk, Wk = wk11.alloc (.cells #[.int .i64 m.op, .int .i64 m.wd, .int .i64 m.n, .slice m1 m2 m3] 25) := ⟨_, rfl⟩
    have x1 : Ext wk11 Wk11 := by rw [hWk]; exact (Ext.refl _).alloc _
    have HVm : Hid (VarE Wk11 wk11.heap.size m.op m.wd m.n (.slice m1 m2 m3)) := by rw [hWk]; exact heap_new _ _
    rw [← hWk]
    replace HX := Lib.hid (HX.out.trans x1); replace HC := Lib.hid (HC.out.ext x1); replace HM := Lib.hid (HM.out.ext x1); replace HVc := Lib.hid (HVc.out.ext x1); replace Hc := Lib.hid (Hc.out.ext x1); replace HVa := Lib.hid (HVa.out.ext x1); replace Ha := Lib.hid (Ha.out.ext x1); replace He := Lib.hid (He.out.ext x1); replace HVe := Lib.hid (HVe.out.ext x1); replace Ho := Lib.hid (Ho.out.ext x1); replace HVo := Lib.hid (HVo.out.ext x1); replace Hd := Lib.hid (Hd.out.ext x1); replace HVd := Lib.hid (HVd.out.ext x1); replace Hm := Lib.hid (Hm.out.ext x1)
    clear x1 hWk
    generalize wk11.heap.size = bm at *
    by_cases hst : sb = tb
    · subst hst
      by_cases hln : pn = qn
      · subst hln
        have HY := Lib.hid (HPR.out rfl rfl)
        clear HPR
        obtain ⟨qe0, qe1, qe2, qe3⟩ := HVe.out.cells
        obtain ⟨qm0, qm1, qm2, qm3⟩ := HVm.out.cells
        go_wp2_with fail
        refine (Dec_yes (c := ⟨[], 0, 0, 0, 0, 0, e, m⟩) HY.out.1 HY.out.2.1 HY.out.2.2.1 HY.out.2.2.2 HS.out.len _ _ _ ⟨_, _, _, _, _, _, rfl, He.out, Hm.out⟩ HC.out HM.out).mono ?_
        rintro r wk12 ⟨rfl, x1⟩
        replace HX := Lib.hid (HX.out.trans x1); replace HC := Lib.hid (HC.out.ext x1); replace HM := Lib.hid (HM.out.ext x1); replace HVc := Lib.hid (HVc.out.ext x1); replace Hc := Lib.hid (Hc.out.ext x1); replace HVa := Lib.hid (HVa.out.ext x1); replace Ha := Lib.hid (Ha.out.ext x1); replace He := Lib.hid (He.out.ext x1); replace HVe := Lib.hid (HVe.out.ext x1); replace Ho := Lib.hid (Ho.out.ext x1); replace HVo := Lib.hid (HVo.out.ext x1); replace Hd := Lib.hid (Hd.out.ext x1); replace HVd := Lib.hid (HVd.out.ext x1); replace Hm := Lib.hid (Hm.out.ext x1); replace HVm := Lib.hid (HVm.out.ext x1)
        clear x1 qe0 qe1 qe2 qe3 qm0 qm1 qm2 qm3
        go_wp2_with fail
        exact bodyPost_ret (v := .bool true) (by simp [results, Tryz.results7, go_sem]) rfl ⟨rfl, by first | exact HX.out | exact HX.out.alloc _⟩
      · have hlb : ((pn : Int) != (qn : Int)) = true := by simp; omega
        go_wp2_with fail
        exact bodyPost_ret (v := .bool true) (by simp [results, Tryz.results7, go_sem]) rfl ⟨rfl, by first | exact HX.out | exact HX.out.alloc _⟩
    · cases sb <;> cases tb <;> first | exact absurd rfl hst | skip
      all_goals
        go_wp2_with fail
        exact bodyPost_ret (v := .bool true) (by simp [results, Tryz.results7, go_sem]) rfl ⟨rfl, by first | exact HX.out | exact HX.out.alloc _⟩
end Go.Proofs.YtlcgbdjmlnjhcaaGreatDoor
