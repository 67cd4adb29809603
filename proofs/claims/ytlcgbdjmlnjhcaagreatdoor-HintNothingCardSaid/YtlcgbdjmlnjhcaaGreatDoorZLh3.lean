/-
  The walk of HintNothing. Printed by gen_law32.py.
-/
import Derived.Test.YtlcgbdjmlnjhcaaGreatDoorG42
import Derived.Test.YtlcgbdjmlnjhcaaGreatDoorG41
namespace Go.Proofs.YtlcgbdjmlnjhcaaGreatDoor
open Go.RowKit
attribute [local go_sem] Oper.semAt_some

set_option maxRecDepth 100000 in
set_option maxHeartbeats 16000000 in
theorem HintNothing_any (cells : List CellD) (c : CondS) (kv cv : Value) (w : World) (hC : Cells w kv cells) (hc : CondV w cv c) (hM : Masks w) (hN : Names w) (hP : Pow10 w) :
    Calls Tryz.prog 5 #[kv, cv] w fun r w' => r = .returned (.bool true) ∧ Ext w w' := by
  have hcV := hc
  obtain ⟨ca1, ca2, ca3, ca4, ca5, ca6, rfl, _, _⟩ := hc
  obtain ⟨ka, kc, rfl⟩ := SliceAt.shape hC
  have hkl := SliceAt.len_le hC
  obtain ⟨W, hW⟩ : ∃ W, W = w.alloc (.cells (condCells c ca1 ca2 ca3 ca4 ca5 ca6) 27) := ⟨_, rfl⟩
  have hx : Ext w W := by rw [hW]; exact (Ext.refl _).alloc _
  have HVc : Hid (CondAt W w.heap.size c ca1 ca2 ca3 ca4 ca5 ca6) := (by rw [hW]; exact heap_new _ _)
  have Hc := Lib.hid (hcV.ext hx)
  have HX := Lib.hid hx; have HC := Lib.hid (hC.ext hx); have HM := Lib.hid (hM.ext hx); have HN := Lib.hid (hN.ext hx); have HP := Lib.hid (hP.ext hx); have HW := Lib.hid hW
  clear hW hx hM hN hP hC hcV  
  unfold condCells at *
  go_enter Tryz.func5, Tryz.ntmps5
  go_upto_region 1 with fail
  rw [← HW.out]
  clear HW
  generalize w.heap.size = bc at *
  go_wp2_with fail
  refine (head_any W HM.out HN.out HP.out).mono ?_
  rintro r wk1 ⟨rfl, x1⟩
  replace HX := Lib.hid (HX.out.trans x1); replace HC := Lib.hid (HC.out.ext x1); replace HM := Lib.hid (HM.out.ext x1); replace HVc := Lib.hid (HVc.out.ext x1); replace Hc := Lib.hid (Hc.out.ext x1)
  clear x1
  clear HN HP
  obtain ⟨qc0, qc1, qc2, qc3, qc4, qc5, qc6, qc7, qc8, qc9, qc10, qc11, qc12, qc13⟩ := HVc.out.all
  go_wp2_with fail
  refine (small32_any cells c _ _ _ HC.out Hc.out).mono ?_
  rintro r wk2 ⟨rfl, x1⟩
  replace HX := Lib.hid (HX.out.trans x1); replace HC := Lib.hid (HC.out.ext x1); replace HM := Lib.hid (HM.out.ext x1); replace HVc := Lib.hid (HVc.out.ext x1); replace Hc := Lib.hid (Hc.out.ext x1)
  clear x1 qc0 qc1 qc2 qc3 qc4 qc5 qc6 qc7 qc8 qc9 qc10 qc11 qc12 qc13
  cases hb1 : small32 cells c with
  | false =>
    clear hb1
    go_wp2_with fail
    exact bodyPost_ret (v := .bool true) (by simp [results, Tryz.results5, go_sem]) rfl ⟨rfl, by first | exact HX.out | exact HX.out.alloc _⟩
  | true =>
  have HS := Lib.hid (sm_of hb1)
  clear hb1
  by_cases hz : (weak0 cells c.hyp c.goal).op = 0
  · have HWK : Hid (weakR cells c.hyp c.goal = (.mk 0 0 0 [], 2)) := by rw [Hid, HS.out.weak, if_pos hz]
    clear hz
    generalize E.mk 0 0 0 [] = e at *
    obtain ⟨qc0, qc1, qc2, qc3, qc4, qc5, qc6, qc7, qc8, qc9, qc10, qc11, qc12, qc13⟩ := HVc.out.all
    go_wp2_with fail
    refine (Weak_s HS.out HWK.out _ _ _ Hc.out HC.out HM.out).mono ?_
    rintro r wk3 ⟨e1, e2, e3, rfl, he, x1⟩
    have He := Lib.hid he; clear he
    replace HX := Lib.hid (HX.out.trans x1); replace HC := Lib.hid (HC.out.ext x1); replace HM := Lib.hid (HM.out.ext x1); replace HVc := Lib.hid (HVc.out.ext x1); replace Hc := Lib.hid (Hc.out.ext x1)
    clear x1 qc0 qc1 qc2 qc3 qc4 qc5 qc6 qc7 qc8 qc9 qc10 qc11 qc12 qc13
    go_wp2_with fail
    exact bodyPost_ret (v := .bool true) (by simp [results, Tryz.results5, go_sem]) rfl ⟨rfl, by first | exact HX.out | exact HX.out.alloc _⟩
  have HWK : Hid (weakR cells c.hyp c.goal = (weakE cells c.hyp c.goal, 0)) := by rw [Hid, HS.out.weak, if_neg hz]
  have HNO := Lib.hid (fun o n (hv : violB c.hyp c.goal o n = true) => none_no HS.out hz hv)
  have HYE : Hid ((∀ old now, violB c.hyp c.goal old now = false) → weakE cells c.hyp c.goal = .mk 1 1 1 []) := fun hv => (none_yes HS.out hv).2
  clear hz
  generalize weakE cells c.hyp c.goal = e at *
  obtain ⟨qc0, qc1, qc2, qc3, qc4, qc5, qc6, qc7, qc8, qc9, qc10, qc11, qc12, qc13⟩ := HVc.out.all
  go_wp2_with fail
  refine (Weak_s HS.out HWK.out _ _ _ Hc.out HC.out HM.out).mono ?_
  rintro r wk3 ⟨e1, e2, e3, rfl, he, x1⟩
  have He := Lib.hid he; clear he
  replace HX := Lib.hid (HX.out.trans x1); replace HC := Lib.hid (HC.out.ext x1); replace HM := Lib.hid (HM.out.ext x1); replace HVc := Lib.hid (HVc.out.ext x1); replace Hc := Lib.hid (Hc.out.ext x1)
  clear x1 qc0 qc1 qc2 qc3 qc4 qc5 qc6 qc7 qc8 qc9 qc10 qc11 qc12 qc13
  go_upto_region 5 with fail
  obtain ⟨Wk3, hWk⟩ : ∃ Wk, Wk = wk3.alloc (.cells #[.int .i64 e.op, .int .i64 e.wd, .int .i64 e.n, .slice e1 e2 e3] 25) := ⟨_, rfl⟩
  have x1 : Ext wk3 Wk3 := by rw [hWk]; exact (Ext.refl _).alloc _
  have HVe : Hid (VarE Wk3 wk3.heap.size e.op e.wd e.n (.slice e1 e2 e3)) := by rw [hWk]; exact heap_new _ _
  rw [← hWk]
  replace HX := Lib.hid (HX.out.trans x1); replace HC := Lib.hid (HC.out.ext x1); replace HM := Lib.hid (HM.out.ext x1); replace HVc := Lib.hid (HVc.out.ext x1); replace Hc := Lib.hid (Hc.out.ext x1); replace He := Lib.hid (He.out.ext x1)
  clear x1 hWk
  generalize wk3.heap.size = be at *
  obtain ⟨qc0, qc1, qc2, qc3, qc4, qc5, qc6, qc7, qc8, qc9, qc10, qc11, qc12, qc13⟩ := HVc.out.all
  go_wp2_with fail
  refine (Dec_any HS.out.f1 HS.out.f2 (by have := HS.out.bits; omega) HS.out.len _ _ _ Hc.out HC.out HM.out).mono ?_
  rintro r wk4 ⟨hr, x1⟩
  replace HX := Lib.hid (HX.out.trans x1); replace HC := Lib.hid (HC.out.ext x1); replace HM := Lib.hid (HM.out.ext x1); replace HVc := Lib.hid (HVc.out.ext x1); replace Hc := Lib.hid (Hc.out.ext x1); replace He := Lib.hid (He.out.ext x1); replace HVe := Lib.hid (HVe.out.ext x1)
  clear x1 qc0 qc1 qc2 qc3 qc4 qc5 qc6 qc7 qc8 qc9 qc10 qc11 qc12 qc13
  rcases hr with ⟨hv, rfl⟩ | ⟨st1, st2, s1, s3, t1, t3, hv, hi1, hi2, rfl⟩
  · have HE1 := Lib.hid (HYE.out hv)
    clear hv HNO HYE
    obtain ⟨qe0, qe1, qe2, qe3⟩ := HVe.out.cells
    go_wp2_with fail
    refine (RIs_any e 1 1 _ _ He.out).mono ?_
    rintro r wk5 ⟨rfl, x1⟩
    rw [show ((e.op == 1) && (e.n == 1) && (e.wd == 1)) = true by rw [HE1.out]; rfl]
    replace HX := Lib.hid (HX.out.trans x1); replace HC := Lib.hid (HC.out.ext x1); replace HM := Lib.hid (HM.out.ext x1); replace HVc := Lib.hid (HVc.out.ext x1); replace Hc := Lib.hid (Hc.out.ext x1); replace He := Lib.hid (He.out.ext x1); replace HVe := Lib.hid (HVe.out.ext x1)
    clear x1 qe0 qe1 qe2 qe3
    go_wp2_with fail
    exact bodyPost_ret (v := .bool true) (by simp [results, Tryz.results5, go_sem]) rfl ⟨rfl, by first | exact HX.out | exact HX.out.alloc _⟩
  · obtain ⟨n1, n2⟩ := HNO.out st1 st2 hv
    have HN1 := Lib.hid n1; have HN2 := Lib.hid n2; have HI1 := Lib.hid hi1; have HI2 := Lib.hid hi2
    clear n1 n2 hv hi1 hi2 HNO HYE
    obtain ⟨qe0, qe1, qe2, qe3⟩ := HVe.out.cells
    go_wp2_with fail
    refine (RIs_any e 1 1 _ _ He.out).mono ?_
    rintro r wk5 ⟨rfl, x1⟩
    rw [HN1.out]
    replace HX := Lib.hid (HX.out.trans x1); replace HC := Lib.hid (HC.out.ext x1); replace HM := Lib.hid (HM.out.ext x1); replace HVc := Lib.hid (HVc.out.ext x1); replace Hc := Lib.hid (Hc.out.ext x1); replace He := Lib.hid (He.out.ext x1); replace HVe := Lib.hid (HVe.out.ext x1); replace HI1 := Lib.hid (HI1.out.ext x1); replace HI2 := Lib.hid (HI2.out.ext x1)
    clear x1 qe0 qe1 qe2 qe3
    obtain ⟨qc0, qc1, qc2, qc3, qc4, qc5, qc6, qc7, qc8, qc9, qc10, qc11, qc12, qc13⟩ := HVc.out.all
    go_wp2_with fail
    refine (Parts_s HS.out _ _ Hc.out).mono ?_
    rintro r wk6 ⟨⟨p1, p3, p4, p5, p6, rfl, _⟩, x1⟩
    replace HX := Lib.hid (HX.out.trans x1); replace HC := Lib.hid (HC.out.ext x1); replace HM := Lib.hid (HM.out.ext x1); replace HVc := Lib.hid (HVc.out.ext x1); replace Hc := Lib.hid (Hc.out.ext x1); replace He := Lib.hid (He.out.ext x1); replace HVe := Lib.hid (HVe.out.ext x1); replace HI1 := Lib.hid (HI1.out.ext x1); replace HI2 := Lib.hid (HI2.out.ext x1)
    clear x1 qc0 qc1 qc2 qc3 qc4 qc5 qc6 qc7 qc8 qc9 qc10 qc11 qc12 qc13
    cases hs : stepB cells c.hyp c.goal with
    | true =>
      rw [hs] at HN2
      have HN3 : Hid (e.eval st1 st1 = 0) := HN2.out
      clear hs
      obtain ⟨qe0, qe1, qe2, qe3⟩ := HVe.out.cells
      go_wp2_with fail
      refine (Eval_any e _ _ _ st1 st1 _ He.out HI1.out HI1.out HM.out).mono ?_
      rintro r wk7 ⟨rfl, x1⟩
      rw [HN3.out]
      replace HX := Lib.hid (HX.out.trans x1); replace HC := Lib.hid (HC.out.ext x1); replace HM := Lib.hid (HM.out.ext x1); replace HVc := Lib.hid (HVc.out.ext x1); replace Hc := Lib.hid (Hc.out.ext x1); replace He := Lib.hid (He.out.ext x1); replace HVe := Lib.hid (HVe.out.ext x1); replace HI1 := Lib.hid (HI1.out.ext x1); replace HI2 := Lib.hid (HI2.out.ext x1)
      clear x1 qe0 qe1 qe2 qe3
      go_wp2_with fail
      exact bodyPost_ret (v := .bool true) (by simp [results, Tryz.results5, go_sem]) rfl ⟨rfl, by first | exact HX.out | exact HX.out.alloc _⟩
    | false =>
      rw [hs] at HN2
      have HN3 : Hid (e.eval st2 st2 = 0) := HN2.out
      clear hs
      obtain ⟨qe0, qe1, qe2, qe3⟩ := HVe.out.cells
      go_wp2_with fail
      refine (Eval_any e _ _ _ st2 st2 _ He.out HI2.out HI2.out HM.out).mono ?_
      rintro r wk7 ⟨rfl, x1⟩
      rw [HN3.out]
      replace HX := Lib.hid (HX.out.trans x1); replace HC := Lib.hid (HC.out.ext x1); replace HM := Lib.hid (HM.out.ext x1); replace HVc := Lib.hid (HVc.out.ext x1); replace Hc := Lib.hid (Hc.out.ext x1); replace He := Lib.hid (He.out.ext x1); replace HVe := Lib.hid (HVe.out.ext x1); replace HI1 := Lib.hid (HI1.out.ext x1); replace HI2 := Lib.hid (HI2.out.ext x1)
      clear x1 qe0 qe1 qe2 qe3
      go_wp2_with fail
      exact bodyPost_ret (v := .bool true) (by simp [results, Tryz.results5, go_sem]) rfl ⟨rfl, by first | exact HX.out | exact HX.out.alloc _⟩
end Go.Proofs.YtlcgbdjmlnjhcaaGreatDoor
