/-
  The walk of HintSufficient. Printed by gen_law32.py.
-/
import Derived.Test.YtlcgbdjmlnjhcaaGreatDoorG42
import Derived.Test.YtlcgbdjmlnjhcaaGreatDoorG41
namespace Go.Proofs.YtlcgbdjmlnjhcaaGreatDoor
open Go.RowKit
attribute [local go_sem] Oper.semAt_some

set_option maxRecDepth 100000 in
set_option maxHeartbeats 16000000 in
theorem HintSufficient_any (cells : List CellD) (c : CondS) (kv cv : Value) (w : World) (hC : Cells w kv cells) (hc : CondV w cv c) (hM : Masks w) (hN : Names w) (hP : Pow10 w) :
    Calls Tryz.prog 3 #[kv, cv] w fun r w' => r = .returned (.bool true) ∧ Ext w w' := by
  have hcV := hc
  obtain ⟨ca1, ca2, ca3, ca4, ca5, ca6, rfl, _, _⟩ := hc
  obtain ⟨ka, kc, rfl⟩ := SliceAt.shape hC
  have hkl := SliceAt.len_le hC
  obtain ⟨W, hW⟩ : ∃ W, W = w.alloc (.cells (condCells c ca1 ca2 ca3 ca4 ca5 ca6) 27) := ⟨_, rfl⟩
  have hx : Ext w W := by rw [hW]; exact (Ext.refl _).alloc _
  have HVc : Hid (CondAt W w.heap.size c ca1 ca2 ca3 ca4 ca5 ca6) := (by rw [hW]; exact heap_new _ _)
  have Hc := Lib.hid (hcV.ext hx)
  have HX := Lib.hid hx; have HC := Lib.hid (hC.ext hx); have HM := Lib.hid (hM.ext hx); have HN := Lib.hid (hN.ext hx); have HP := Lib.hid (hP.ext hx); have HW := Lib.hid hW
  clear hW hx hM hN hP hC hcV  
  unfold condCells at *
  go_enter Tryz.func3, Tryz.ntmps3
  go_upto_region 1 with fail
  rw [← HW.out]
  clear HW
  generalize w.heap.size = bc at *
  go_wp2_with fail
  refine (head_any W HM.out HN.out HP.out).mono ?_
  rintro r wk1 ⟨rfl, x1⟩
  replace HX := Lib.hid (HX.out.trans x1); replace HC := Lib.hid (HC.out.ext x1); replace HM := Lib.hid (HM.out.ext x1); replace HVc := Lib.hid (HVc.out.ext x1); replace Hc := Lib.hid (Hc.out.ext x1)
  clear x1
  clear HN HP
  obtain ⟨qc0, qc1, qc2, qc3, qc4, qc5, qc6, qc7, qc8, qc9, qc10, qc11, qc12, qc13⟩ := HVc.out.all
  go_wp2_with fail
  refine (small32_any cells c _ _ _ HC.out Hc.out).mono ?_
  rintro r wk2 ⟨rfl, x1⟩
  replace HX := Lib.hid (HX.out.trans x1); replace HC := Lib.hid (HC.out.ext x1); replace HM := Lib.hid (HM.out.ext x1); replace HVc := Lib.hid (HVc.out.ext x1); replace Hc := Lib.hid (Hc.out.ext x1)
  clear x1 qc0 qc1 qc2 qc3 qc4 qc5 qc6 qc7 qc8 qc9 qc10 qc11 qc12 qc13
  cases hb1 : small32 cells c with
  | false =>
    clear hb1
    go_wp2_with fail
    exact bodyPost_ret (v := .bool true) (by simp [results, Tryz.results3, go_sem]) rfl ⟨rfl, by first | exact HX.out | exact HX.out.alloc _⟩
  | true =>
  have HS := Lib.hid (sm_of hb1)
  clear hb1
  by_cases hz : (weak0 cells c.hyp c.goal).op = 0
  · have HWK : Hid (weakR cells c.hyp c.goal = (.mk 0 0 0 [], 2)) := by rw [Hid, HS.out.weak, if_pos hz]
    clear hz
    generalize E.mk 0 0 0 [] = e at *
    obtain ⟨qc0, qc1, qc2, qc3, qc4, qc5, qc6, qc7, qc8, qc9, qc10, qc11, qc12, qc13⟩ := HVc.out.all
    go_wp2_with fail
    refine (Weak_s HS.out HWK.out _ _ _ Hc.out HC.out HM.out).mono ?_
    rintro r wk3 ⟨e1, e2, e3, rfl, he, x1⟩
    have He := Lib.hid he; clear he
    replace HX := Lib.hid (HX.out.trans x1); replace HC := Lib.hid (HC.out.ext x1); replace HM := Lib.hid (HM.out.ext x1); replace HVc := Lib.hid (HVc.out.ext x1); replace Hc := Lib.hid (Hc.out.ext x1)
    clear x1 qc0 qc1 qc2 qc3 qc4 qc5 qc6 qc7 qc8 qc9 qc10 qc11 qc12 qc13
    go_wp2_with fail
    exact bodyPost_ret (v := .bool true) (by simp [results, Tryz.results3, go_sem]) rfl ⟨rfl, by first | exact HX.out | exact HX.out.alloc _⟩
  have HWK : Hid (weakR cells c.hyp c.goal = (weakE cells c.hyp c.goal, 0)) := by rw [Hid, HS.out.weak, if_neg hz]
  have hsl := suff_law HS.out hz
  clear hz
  generalize weakE cells c.hyp c.goal = e at *
  obtain ⟨d, hd⟩ : ∃ d, strC c e = d := ⟨_, rfl⟩
  rw [hd] at hsl
  have HDE := Lib.hid hd; have HSL := Lib.hid hsl
  clear hd hsl
  obtain ⟨qc0, qc1, qc2, qc3, qc4, qc5, qc6, qc7, qc8, qc9, qc10, qc11, qc12, qc13⟩ := HVc.out.all
  go_wp2_with fail
  refine (Weak_s HS.out HWK.out _ _ _ Hc.out HC.out HM.out).mono ?_
  rintro r wk3 ⟨e1, e2, e3, rfl, he, x1⟩
  have He := Lib.hid he; clear he
  replace HX := Lib.hid (HX.out.trans x1); replace HC := Lib.hid (HC.out.ext x1); replace HM := Lib.hid (HM.out.ext x1); replace HVc := Lib.hid (HVc.out.ext x1); replace Hc := Lib.hid (Hc.out.ext x1)
  clear x1 qc0 qc1 qc2 qc3 qc4 qc5 qc6 qc7 qc8 qc9 qc10 qc11 qc12 qc13
  go_upto_region 5 with fail
  obtain ⟨Wk3, hWk⟩ : ∃ Wk, Wk = wk3.alloc (.cells #[.int .i64 e.op, .int .i64 e.wd, .int .i64 e.n, .slice e1 e2 e3] 25) := ⟨_, rfl⟩
  have x1 : Ext wk3 Wk3 := by rw [hWk]; exact (Ext.refl _).alloc _
  have HVe : Hid (VarE Wk3 wk3.heap.size e.op e.wd e.n (.slice e1 e2 e3)) := by rw [hWk]; exact heap_new _ _
  rw [← hWk]
  replace HX := Lib.hid (HX.out.trans x1); replace HC := Lib.hid (HC.out.ext x1); replace HM := Lib.hid (HM.out.ext x1); replace HVc := Lib.hid (HVc.out.ext x1); replace Hc := Lib.hid (Hc.out.ext x1); replace He := Lib.hid (He.out.ext x1)
  clear x1 hWk
  generalize wk3.heap.size = be at *
  obtain ⟨qc0, qc1, qc2, qc3, qc4, qc5, qc6, qc7, qc8, qc9, qc10, qc11, qc12, qc13⟩ := HVc.out.all
  obtain ⟨qe0, qe1, qe2, qe3⟩ := HVe.out.cells
  go_wp2_with fail
  refine (Str_s (by have := HS.out.s2; omega) HDE.out _ _ _ Hc.out He.out HM.out).mono ?_
  rintro r wk4 ⟨da1, da2, da3, da4, da5, da6, rfl, hv, x1⟩
  have Hd := Lib.hid hv; clear hv
  unfold condCells at Hd
  replace HX := Lib.hid (HX.out.trans x1); replace HC := Lib.hid (HC.out.ext x1); replace HM := Lib.hid (HM.out.ext x1); replace HVc := Lib.hid (HVc.out.ext x1); replace Hc := Lib.hid (Hc.out.ext x1); replace He := Lib.hid (He.out.ext x1); replace HVe := Lib.hid (HVe.out.ext x1)
  clear x1 qc0 qc1 qc2 qc3 qc4 qc5 qc6 qc7 qc8 qc9 qc10 qc11 qc12 qc13 qe0 qe1 qe2 qe3
  go_upto_region 8 with fail
  obtain ⟨Wk4, hWk⟩ : ∃ Wk, Wk = wk4.alloc (.cells #[.string ⟨d.id.toArray⟩, .int .i64 d.k1, .int .i64 d.k2, .int .i64 d.k3, .int .i64 d.k4, .int .i64 d.k5, .int .i64 d.hyp.op, .int .i64 d.hyp.wd, .int .i64 d.hyp.n, .slice da1 da2 da3, .int .i64 d.goal.op, .int .i64 d.goal.wd, .int .i64 d.goal.n, .slice da4 da5 da6] 27) := ⟨_, rfl⟩
  have x1 : Ext wk4 Wk4 := by rw [hWk]; exact (Ext.refl _).alloc _
  have HVd : Hid (CondAt Wk4 wk4.heap.size d da1 da2 da3 da4 da5 da6) := by rw [hWk]; exact heap_new _ _
  rw [← hWk]
  replace HX := Lib.hid (HX.out.trans x1); replace HC := Lib.hid (HC.out.ext x1); replace HM := Lib.hid (HM.out.ext x1); replace HVc := Lib.hid (HVc.out.ext x1); replace Hc := Lib.hid (Hc.out.ext x1); replace He := Lib.hid (He.out.ext x1); replace HVe := Lib.hid (HVe.out.ext x1); replace Hd := Lib.hid (Hd.out.ext x1)
  clear x1 hWk
  generalize wk4.heap.size = bd at *
  obtain ⟨qe0, qe1, qe2, qe3⟩ := HVe.out.cells
  go_wp2_with fail
  refine (Valid_any e _ _ cells true _ He.out HC.out HM.out).mono ?_
  rintro r wk5 ⟨rfl, x1⟩
  rw [HSL.out.1]
  replace HX := Lib.hid (HX.out.trans x1); replace HC := Lib.hid (HC.out.ext x1); replace HM := Lib.hid (HM.out.ext x1); replace HVc := Lib.hid (HVc.out.ext x1); replace Hc := Lib.hid (Hc.out.ext x1); replace He := Lib.hid (He.out.ext x1); replace HVe := Lib.hid (HVe.out.ext x1); replace Hd := Lib.hid (Hd.out.ext x1); replace HVd := Lib.hid (HVd.out.ext x1)
  clear x1 qe0 qe1 qe2 qe3
  by_cases hop : d.hyp.op = 0
  · have qz := HVd.out.hyp.1
    rw [hop] at qz
    go_wp2_with fail
    exact bodyPost_ret (v := .bool true) (by simp [results, Tryz.results3, go_sem]) rfl ⟨rfl, by first | exact HX.out | exact HX.out.alloc _⟩
  have hob : (d.hyp.op == 0) = false := by simp [hop]
  have HY := Lib.hid (HSL.out.2 hop)
  clear hop
  obtain ⟨qd0, qd1, qd2, qd3, qd4, qd5, qd6, qd7, qd8, qd9, qd10, qd11, qd12, qd13⟩ := HVd.out.all
  go_wp2_with fail
  refine (Dec_yes HY.out.1.1 HY.out.1.2 HY.out.2.1 HY.out.2.2 HS.out.len _ _ _ Hd.out HC.out HM.out).mono ?_
  rintro r wk6 ⟨rfl, x1⟩
  replace HX := Lib.hid (HX.out.trans x1); replace HC := Lib.hid (HC.out.ext x1); replace HM := Lib.hid (HM.out.ext x1); replace HVc := Lib.hid (HVc.out.ext x1); replace Hc := Lib.hid (Hc.out.ext x1); replace He := Lib.hid (He.out.ext x1); replace HVe := Lib.hid (HVe.out.ext x1); replace Hd := Lib.hid (Hd.out.ext x1); replace HVd := Lib.hid (HVd.out.ext x1)
  clear x1 qd0 qd1 qd2 qd3 qd4 qd5 qd6 qd7 qd8 qd9 qd10 qd11 qd12 qd13
  go_wp2_with fail
  exact bodyPost_ret (v := .bool true) (by simp [results, Tryz.results3, go_sem]) rfl ⟨rfl, by first | exact HX.out | exact HX.out.alloc _⟩
end Go.Proofs.YtlcgbdjmlnjhcaaGreatDoor
