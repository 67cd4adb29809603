/-
  The walk of RelationClosure. Printed by gen_law15.py.
-/
import Derived.Test.YtlnahhlddekhoaaDoorMLw
namespace Go.Proofs.YtlnahhlddekhoaaDoor
open Go.RowKit

set_option maxRecDepth 100000 in
set_option maxHeartbeats 16000000 in
theorem RelationClosure_any (cs ws : List Int) (P : List (Int × Int)) (cs2 ws2 : List Int) (Q : List (Int × Int)) (va vb : Value) (w : World) (ha : RelV w va cs ws P) (hb : RelV w vb cs2 ws2 Q) (hM : Masks w) (hT : DeB w) :
    Calls Tryd.prog 6 #[va, vb] w fun r w' => r = .returned (.bool true) ∧ Ext w w' := by
  obtain ⟨a1, a2, a3, a4, a5, a6, a7, a8, a9, rfl⟩ := ha.shape'
  obtain ⟨b1, b2, b3, b4, b5, b6, b7, b8, b9, rfl⟩ := hb.shape'
  obtain ⟨W, hW⟩ : ∃ W, Boxes w W (.cells #[.slice a1 a2 a3, .slice a4 a5 a6, .slice a7 a8 a9] 25) (.cells #[.slice b1 b2 b3, .slice b4 b5 b6, .slice b7 b8 b9] 25) := ⟨_, Boxes.mk' _ _ _⟩
  have hx := hW.ext
  have HVa : Hid (Var3 25 W w.heap.size (.slice a1 a2 a3) (.slice a4 a5 a6) (.slice a7 a8 a9)) := hW.b0
  have Ha := Lib.hid (ha.ext hx)
  have HVb : Hid (Var3 25 W (w.heap.size + 1) (.slice b1 b2 b3) (.slice b4 b5 b6) (.slice b7 b8 b9)) := hW.b1
  have Hb := Lib.hid (hb.ext hx)
  have HX := Lib.hid hx; have HDe := Lib.hid (hT.ext hx); have HMk := Lib.hid (hM.ext hx); have HW := Lib.hid hW.eq
  clear hW hx hT hM ha hb
  go_enter Tryd.func6, Tryd.ntmps6
  go_upto_region 1 with fail
  rw [← HW.out]
  clear HW
  generalize w.heap.size + 1 = bb at *
  generalize w.heap.size = ba at *
  go_wp2_with fail
  refine (head_any W HDe.out HMk.out).mono ?_
  rintro r wk1 ⟨rfl, x1⟩
  replace HX := Lib.hid (HX.out.trans x1); replace HDe := Lib.hid (HDe.out.ext x1); replace HMk := Lib.hid (HMk.out.ext x1); replace HVa := Lib.hid (HVa.out.ext x1); replace Ha := Lib.hid (Ha.out.ext x1); replace HVb := Lib.hid (HVb.out.ext x1); replace Hb := Lib.hid (Hb.out.ext x1)
  clear x1
  obtain ⟨qa0, qa1, qa2⟩ := HVa.out.cells
  go_wp2_with fail
  refine (Light_any cs ws P _ _ Ha.out).mono ?_
  rintro r wk2 ⟨rfl, x1⟩
  replace HX := Lib.hid (HX.out.trans x1); replace HDe := Lib.hid (HDe.out.ext x1); replace HMk := Lib.hid (HMk.out.ext x1); replace HVa := Lib.hid (HVa.out.ext x1); replace Ha := Lib.hid (Ha.out.ext x1); replace HVb := Lib.hid (HVb.out.ext x1); replace Hb := Lib.hid (Hb.out.ext x1)
  clear x1 qa0 qa1 qa2
  cases h1 : lightB cs ws P with
  | false =>
    clear h1
    go_wp2_with fail
    exact bodyPost_ret (v := .bool true) (by simp [results, Tryd.results6, go_sem]) rfl ⟨rfl, HX.out⟩
  | true =>
  have HL := Lib.hid h1; clear h1
  obtain ⟨p, rfl, hp, h5⟩ := light_parts HL.out
  have HP := Lib.hid hp; clear hp h5 HL
  obtain ⟨qb0, qb1, qb2⟩ := HVb.out.cells
  go_wp2_with fail
  refine (Light_any cs2 ws2 Q _ _ Hb.out).mono ?_
  rintro r wk3 ⟨rfl, x1⟩
  replace HX := Lib.hid (HX.out.trans x1); replace HDe := Lib.hid (HDe.out.ext x1); replace HMk := Lib.hid (HMk.out.ext x1); replace HVa := Lib.hid (HVa.out.ext x1); replace Ha := Lib.hid (Ha.out.ext x1); replace HVb := Lib.hid (HVb.out.ext x1); replace Hb := Lib.hid (Hb.out.ext x1)
  clear x1 qb0 qb1 qb2
  cases h1 : lightB cs2 ws2 Q with
  | false =>
    clear h1
    go_wp2_with fail
    exact bodyPost_ret (v := .bool true) (by simp [results, Tryd.results6, go_sem]) rfl ⟨rfl, HX.out⟩
  | true =>
  have HL := Lib.hid h1; clear h1
  clear HL
  obtain ⟨qa0, qa1, qa2⟩ := HVa.out.cells
  obtain ⟨qb0, qb1, qb2⟩ := HVb.out.cells
  go_wp2_with fail
  refine (RAlike_any cs ws (castP p) cs2 ws2 Q _ _ _ Ha.out Hb.out).mono ?_
  rintro r wk4 ⟨rfl, x1⟩
  replace HX := Lib.hid (HX.out.trans x1); replace HDe := Lib.hid (HDe.out.ext x1); replace HMk := Lib.hid (HMk.out.ext x1); replace HVa := Lib.hid (HVa.out.ext x1); replace Ha := Lib.hid (Ha.out.ext x1); replace HVb := Lib.hid (HVb.out.ext x1); replace Hb := Lib.hid (Hb.out.ext x1)
  clear x1 qa0 qa1 qa2 qb0 qb1 qb2
  cases h1 : alikeR cs ws (castP p) cs2 ws2 Q with
  | false =>
    clear h1
    go_wp2_with fail
    exact bodyPost_ret (v := .bool true) (by simp [results, Tryd.results6, go_sem]) rfl ⟨rfl, HX.out⟩
  | true =>
  have HF1 := Lib.hid h1; clear h1
  obtain ⟨e1, e2, q, e3, hq⟩ := alikeR_parts HF1.out
  replace e1 := e1.symm; replace e2 := e2.symm
  subst e1 e2 e3
  have HQ := Lib.hid hq; clear hq HF1
  obtain ⟨qa0, qa1, qa2⟩ := HVa.out.cells
  go_wp2_with fail
  refine (Closure_ok HP.out _ _ Ha.out HDe.out).mono ?_
  rintro r wk5 ⟨c1, c2, c3, c4, c5, c6, c7, c8, c9, rfl, e, x1⟩
  have Hc := Lib.hid e
  replace HX := Lib.hid (HX.out.trans x1); replace HDe := Lib.hid (HDe.out.ext x1); replace HMk := Lib.hid (HMk.out.ext x1); replace HVa := Lib.hid (HVa.out.ext x1); replace Ha := Lib.hid (Ha.out.ext x1); replace HVb := Lib.hid (HVb.out.ext x1); replace Hb := Lib.hid (Hb.out.ext x1)
  clear x1 e qa0 qa1 qa2
  go_upto_region 5 with fail
  obtain ⟨Wk5, hWk⟩ : ∃ Wk, Wk = wk5.alloc (.cells #[.slice c1 c2 c3, .slice c4 c5 c6, .slice c7 c8 c9] 25) := ⟨_, rfl⟩
  have x1 : Ext wk5 Wk5 := by rw [hWk]; exact (Ext.refl _).alloc _
  have HVc : Hid (Var3 25 Wk5 wk5.heap.size (.slice c1 c2 c3) (.slice c4 c5 c6) (.slice c7 c8 c9)) := by rw [hWk]; exact Var3.new _ _ _ _ _
  rw [← hWk]
  replace HX := Lib.hid (HX.out.trans x1); replace HDe := Lib.hid (HDe.out.ext x1); replace HMk := Lib.hid (HMk.out.ext x1); replace HVa := Lib.hid (HVa.out.ext x1); replace Ha := Lib.hid (Ha.out.ext x1); replace HVb := Lib.hid (HVb.out.ext x1); replace Hb := Lib.hid (Hb.out.ext x1); replace Hc := Lib.hid (Hc.out.ext x1)
  clear x1 hWk
  generalize wk5.heap.size = bc at *
  obtain ⟨qc0, qc1, qc2⟩ := HVc.out.cells
  go_wp2_with fail
  refine (Compose_ok (clo_valid HP.out) (clo_valid HP.out) _ _ _ Hc.out Hc.out HDe.out).mono ?_
  rintro r wk6 ⟨d1, d2, d3, d4, d5, d6, d7, d8, d9, rfl, e, x1⟩
  have Hd := Lib.hid e
  replace HX := Lib.hid (HX.out.trans x1); replace HDe := Lib.hid (HDe.out.ext x1); replace HMk := Lib.hid (HMk.out.ext x1); replace HVa := Lib.hid (HVa.out.ext x1); replace Ha := Lib.hid (Ha.out.ext x1); replace HVb := Lib.hid (HVb.out.ext x1); replace Hb := Lib.hid (Hb.out.ext x1); replace Hc := Lib.hid (Hc.out.ext x1); replace HVc := Lib.hid (HVc.out.ext x1)
  clear x1 e qc0 qc1 qc2
  go_upto_region 6 with fail
  obtain ⟨Wk6, hWk⟩ : ∃ Wk, Wk = wk6.alloc (.cells #[.slice d1 d2 d3, .slice d4 d5 d6, .slice d7 d8 d9] 25) := ⟨_, rfl⟩
  have x1 : Ext wk6 Wk6 := by rw [hWk]; exact (Ext.refl _).alloc _
  have HVd : Hid (Var3 25 Wk6 wk6.heap.size (.slice d1 d2 d3) (.slice d4 d5 d6) (.slice d7 d8 d9)) := by rw [hWk]; exact Var3.new _ _ _ _ _
  rw [← hWk]
  replace HX := Lib.hid (HX.out.trans x1); replace HDe := Lib.hid (HDe.out.ext x1); replace HMk := Lib.hid (HMk.out.ext x1); replace HVa := Lib.hid (HVa.out.ext x1); replace Ha := Lib.hid (Ha.out.ext x1); replace HVb := Lib.hid (HVb.out.ext x1); replace Hb := Lib.hid (Hb.out.ext x1); replace Hc := Lib.hid (Hc.out.ext x1); replace HVc := Lib.hid (HVc.out.ext x1); replace Hd := Lib.hid (Hd.out.ext x1)
  clear x1 hWk
  generalize wk6.heap.size = bd at *
  obtain ⟨qc0, qc1, qc2⟩ := HVc.out.cells
  go_wp2_with fail
  refine (Closure_ok (clo_valid HP.out) _ _ Hc.out HDe.out).mono ?_
  rintro r wk7 ⟨g1, g2, g3, g4, g5, g6, g7, g8, g9, rfl, e, x1⟩
  have Hg := Lib.hid e
  replace HX := Lib.hid (HX.out.trans x1); replace HDe := Lib.hid (HDe.out.ext x1); replace HMk := Lib.hid (HMk.out.ext x1); replace HVa := Lib.hid (HVa.out.ext x1); replace Ha := Lib.hid (Ha.out.ext x1); replace HVb := Lib.hid (HVb.out.ext x1); replace Hb := Lib.hid (Hb.out.ext x1); replace Hc := Lib.hid (Hc.out.ext x1); replace HVc := Lib.hid (HVc.out.ext x1); replace Hd := Lib.hid (Hd.out.ext x1); replace HVd := Lib.hid (HVd.out.ext x1)
  clear x1 e qc0 qc1 qc2
  go_upto_region 7 with fail
  obtain ⟨Wk7, hWk⟩ : ∃ Wk, Wk = wk7.alloc (.cells #[.slice g1 g2 g3, .slice g4 g5 g6, .slice g7 g8 g9] 25) := ⟨_, rfl⟩
  have x1 : Ext wk7 Wk7 := by rw [hWk]; exact (Ext.refl _).alloc _
  have HVg : Hid (Var3 25 Wk7 wk7.heap.size (.slice g1 g2 g3) (.slice g4 g5 g6) (.slice g7 g8 g9)) := by rw [hWk]; exact Var3.new _ _ _ _ _
  rw [← hWk]
  replace HX := Lib.hid (HX.out.trans x1); replace HDe := Lib.hid (HDe.out.ext x1); replace HMk := Lib.hid (HMk.out.ext x1); replace HVa := Lib.hid (HVa.out.ext x1); replace Ha := Lib.hid (Ha.out.ext x1); replace HVb := Lib.hid (HVb.out.ext x1); replace Hb := Lib.hid (Hb.out.ext x1); replace Hc := Lib.hid (Hc.out.ext x1); replace HVc := Lib.hid (HVc.out.ext x1); replace Hd := Lib.hid (Hd.out.ext x1); replace HVd := Lib.hid (HVd.out.ext x1); replace Hg := Lib.hid (Hg.out.ext x1)
  clear x1 hWk
  generalize wk7.heap.size = bg at *
  have HL1 : Hid (inFrom (castP p) (castP (cloP (nn ws) p)) = true) := (in_iff HP.out.sorted (clo_valid HP.out).sorted).2 (clo_is HP.out).has
  have HL2 : Hid (sameR cs ws (castP (cloP (nn ws) p)) cs ws (castP (cmpP (cloP (nn ws) p) (cloP (nn ws) p))) = true) := by unfold Hid; rw [clo_cmp HP.out]; exact sameR_self _ _ _
  have HL3 : Hid (sameR cs ws (castP (cloP (nn ws) p)) cs ws (castP (cloP (nn ws) (cloP (nn ws) p))) = true) := by unfold Hid; rw [clo_clo HP.out]; exact sameR_self _ _ _
  have HL4 : Hid (inFrom (castP (cloP (nn ws) p)) (castP (cloP (nn ws) (uniP p q))) = true) := (in_iff (clo_valid HP.out).sorted (clo_valid (uni_valid HP.out HQ.out)).sorted).2 (clo_sub HP.out (clo_self (uni_valid HP.out HQ.out)) fun x y h => (clo_is (uni_valid HP.out HQ.out)).has x y ((mem_uniP HP.out.b64 HQ.out.b64).2 (.inl h)))
  have HL5 : Hid (inFrom (castP p) (castP (cloP (nn ws) q)) = true → inFrom (castP (cloP (nn ws) p)) (castP (cloP (nn ws) q)) = true) := fun h => (in_iff (clo_valid HP.out).sorted (clo_valid HQ.out).sorted).2 (clo_sub HP.out (clo_self HQ.out) ((in_iff HP.out.sorted (clo_valid HQ.out).sorted).1 h))
  have HL6 : Hid (∀ x : Nat, x < nn ws → leadsB (castP (cloP (nn ws) p)) x x = true) := fun x h => decide_eq_true (mem_castP.2 ((clo_is HP.out).refl x h))
  obtain ⟨qa0, qa1, qa2⟩ := HVa.out.cells
  obtain ⟨qc0, qc1, qc2⟩ := HVc.out.cells
  go_wp2_with fail
  refine (RIn_any _ _ (castP p) _ _ (castP (cloP (nn ws) p)) _ _ _ Ha.out Hc.out).mono ?_
  rintro r wk8 ⟨rfl, x1⟩
  rw [HL1.out]
  replace HX := Lib.hid (HX.out.trans x1); replace HDe := Lib.hid (HDe.out.ext x1); replace HMk := Lib.hid (HMk.out.ext x1); replace HVa := Lib.hid (HVa.out.ext x1); replace Ha := Lib.hid (Ha.out.ext x1); replace HVb := Lib.hid (HVb.out.ext x1); replace Hb := Lib.hid (Hb.out.ext x1); replace Hc := Lib.hid (Hc.out.ext x1); replace HVc := Lib.hid (HVc.out.ext x1); replace Hd := Lib.hid (Hd.out.ext x1); replace HVd := Lib.hid (HVd.out.ext x1); replace Hg := Lib.hid (Hg.out.ext x1); replace HVg := Lib.hid (HVg.out.ext x1)
  clear x1 qa0 qa1 qa2 qc0 qc1 qc2
  obtain ⟨qc0, qc1, qc2⟩ := HVc.out.cells
  obtain ⟨qd0, qd1, qd2⟩ := HVd.out.cells
  go_wp2_with fail
  refine (RSame15_any _ _ (castP (cloP (nn ws) p)) _ _ (castP (cmpP (cloP (nn ws) p) (cloP (nn ws) p))) _ _ _ Hc.out Hd.out).mono ?_
  rintro r wk9 ⟨rfl, x1⟩
  rw [HL2.out]
  replace HX := Lib.hid (HX.out.trans x1); replace HDe := Lib.hid (HDe.out.ext x1); replace HMk := Lib.hid (HMk.out.ext x1); replace HVa := Lib.hid (HVa.out.ext x1); replace Ha := Lib.hid (Ha.out.ext x1); replace HVb := Lib.hid (HVb.out.ext x1); replace Hb := Lib.hid (Hb.out.ext x1); replace Hc := Lib.hid (Hc.out.ext x1); replace HVc := Lib.hid (HVc.out.ext x1); replace Hd := Lib.hid (Hd.out.ext x1); replace HVd := Lib.hid (HVd.out.ext x1); replace Hg := Lib.hid (Hg.out.ext x1); replace HVg := Lib.hid (HVg.out.ext x1)
  clear x1 qc0 qc1 qc2 qd0 qd1 qd2
  obtain ⟨qc0, qc1, qc2⟩ := HVc.out.cells
  obtain ⟨qg0, qg1, qg2⟩ := HVg.out.cells
  go_wp2_with fail
  refine (RSame15_any _ _ (castP (cloP (nn ws) p)) _ _ (castP (cloP (nn ws) (cloP (nn ws) p))) _ _ _ Hc.out Hg.out).mono ?_
  rintro r wk10 ⟨rfl, x1⟩
  rw [HL3.out]
  replace HX := Lib.hid (HX.out.trans x1); replace HDe := Lib.hid (HDe.out.ext x1); replace HMk := Lib.hid (HMk.out.ext x1); replace HVa := Lib.hid (HVa.out.ext x1); replace Ha := Lib.hid (Ha.out.ext x1); replace HVb := Lib.hid (HVb.out.ext x1); replace Hb := Lib.hid (Hb.out.ext x1); replace Hc := Lib.hid (Hc.out.ext x1); replace HVc := Lib.hid (HVc.out.ext x1); replace Hd := Lib.hid (Hd.out.ext x1); replace HVd := Lib.hid (HVd.out.ext x1); replace Hg := Lib.hid (Hg.out.ext x1); replace HVg := Lib.hid (HVg.out.ext x1)
  clear x1 qc0 qc1 qc2 qg0 qg1 qg2
  have HN : Hid (pw (sumI ws) = (nn ws : Int)) := by unfold Hid nn; have := @pw_pos (sumI ws); omega
  have HWD := Lib.hid (small_sum HP.out.small).2.1
  have hs6 := HP.out.six
  have hN64 := HP.out.nn64
  go_wp2_with fail
  go_loopw [12] (fun iv wr => ∃ n : Nat, n ≤ nn ws ∧ iv = .int .i64 n ∧ Ext wk10 wr) (fun iv _ => nn ws - (intOf iv).toNat)
  case atStart => exact ⟨0, Nat.zero_le _, rfl, Ext.refl _⟩
  case round =>
    obtain ⟨n, hn, rfl, x1⟩ := hrel
    have HXr := Lib.hid x1
    replace HX := Lib.hid (HX.out.trans x1); replace HDe := Lib.hid (HDe.out.ext x1); replace HMk := Lib.hid (HMk.out.ext x1); replace HVa := Lib.hid (HVa.out.ext x1); replace Ha := Lib.hid (Ha.out.ext x1); replace HVb := Lib.hid (HVb.out.ext x1); replace Hb := Lib.hid (Hb.out.ext x1); replace Hc := Lib.hid (Hc.out.ext x1); replace HVc := Lib.hid (HVc.out.ext x1); replace Hd := Lib.hid (Hd.out.ext x1); replace HVd := Lib.hid (HVd.out.ext x1); replace Hg := Lib.hid (Hg.out.ext x1); replace HVg := Lib.hid (HVg.out.ext x1)
    clear x1
    generalize wr = wx at *
    obtain ⟨qa0, qa1, qa2⟩ := HVa.out.cells
    go_wp2_with fail
    refine (RSum_any ws _ _ (relv_ws Ha.out) HWD.out).mono ?_
    rintro r w8 ⟨rfl, hw8⟩
    rw [hw8]; clear hw8 w8
    go_wp2_with fail
    refine (Power_any _ _ (by omega)).mono ?_
    rintro r w8 ⟨rfl, hw8⟩
    rw [← hw8]; clear hw8 w8
    rw [HN.out]
    clear qa0 qa1 qa2
    by_cases hlt : n < nn ws
    · have hti : (n : Int) < (nn ws : Int) := by omega
      have HLL := Lib.hid (HL6.out n hlt)
      obtain ⟨qc0, qc1, qc2⟩ := HVc.out.cells
      go_wp2_with fail
      refine (leads_any _ _ (castP (cloP (nn ws) p)) n n _ _ Hc.out).mono ?_
      rintro r wk11 ⟨rfl, x1⟩
      rw [HLL.out]
      have HXl := Lib.hid x1; replace HX := Lib.hid (HX.out.trans x1); replace HDe := Lib.hid (HDe.out.ext x1); replace HMk := Lib.hid (HMk.out.ext x1); replace HVa := Lib.hid (HVa.out.ext x1); replace Ha := Lib.hid (Ha.out.ext x1); replace HVb := Lib.hid (HVb.out.ext x1); replace Hb := Lib.hid (Hb.out.ext x1); replace Hc := Lib.hid (Hc.out.ext x1); replace HVc := Lib.hid (HVc.out.ext x1); replace Hd := Lib.hid (Hd.out.ext x1); replace HVd := Lib.hid (HVd.out.ext x1); replace Hg := Lib.hid (Hg.out.ext x1); replace HVg := Lib.hid (HVg.out.ext x1)
      clear x1 qc0 qc1 qc2
      go_wp2_with fail
      exact ⟨⟨n + 1, by omega, by go_num, HXr.out.trans HXl.out⟩, by simp [intOf]; omega⟩
    · have hti : decide ((n : Int) < (nn ws : Int)) = false := decide_eq_false (by omega)
      obtain ⟨qa0, qa1, qa2⟩ := HVa.out.cells
      obtain ⟨qb0, qb1, qb2⟩ := HVb.out.cells
      go_wp2_with fail
      refine (Union_ok HP.out HQ.out _ _ _ Ha.out Hb.out HDe.out).mono ?_
      rintro r wk12 ⟨t1, t2, t3, t4, t5, t6, t7, t8, t9, rfl, e, x1⟩
      have Ht := Lib.hid e
      replace HX := Lib.hid (HX.out.trans x1); replace HDe := Lib.hid (HDe.out.ext x1); replace HMk := Lib.hid (HMk.out.ext x1); replace HVa := Lib.hid (HVa.out.ext x1); replace Ha := Lib.hid (Ha.out.ext x1); replace HVb := Lib.hid (HVb.out.ext x1); replace Hb := Lib.hid (Hb.out.ext x1); replace Hc := Lib.hid (Hc.out.ext x1); replace HVc := Lib.hid (HVc.out.ext x1); replace Hd := Lib.hid (Hd.out.ext x1); replace HVd := Lib.hid (HVd.out.ext x1); replace Hg := Lib.hid (Hg.out.ext x1); replace HVg := Lib.hid (HVg.out.ext x1)
      clear x1 e qa0 qa1 qa2 qb0 qb1 qb2
      go_upto_region 15 with fail
      obtain ⟨Wk12, hWk⟩ : ∃ Wk, Wk = wk12.alloc (.cells #[.slice t1 t2 t3, .slice t4 t5 t6, .slice t7 t8 t9] 25) := ⟨_, rfl⟩
      have x1 : Ext wk12 Wk12 := by rw [hWk]; exact (Ext.refl _).alloc _
      have HVt : Hid (Var3 25 Wk12 wk12.heap.size (.slice t1 t2 t3) (.slice t4 t5 t6) (.slice t7 t8 t9)) := by rw [hWk]; exact Var3.new _ _ _ _ _
      rw [← hWk]
      replace HX := Lib.hid (HX.out.trans x1); replace HDe := Lib.hid (HDe.out.ext x1); replace HMk := Lib.hid (HMk.out.ext x1); replace HVa := Lib.hid (HVa.out.ext x1); replace Ha := Lib.hid (Ha.out.ext x1); replace HVb := Lib.hid (HVb.out.ext x1); replace Hb := Lib.hid (Hb.out.ext x1); replace Hc := Lib.hid (Hc.out.ext x1); replace HVc := Lib.hid (HVc.out.ext x1); replace Hd := Lib.hid (Hd.out.ext x1); replace HVd := Lib.hid (HVd.out.ext x1); replace Hg := Lib.hid (Hg.out.ext x1); replace HVg := Lib.hid (HVg.out.ext x1); replace Ht := Lib.hid (Ht.out.ext x1)
      clear x1 hWk
      generalize wk12.heap.size = bt at *
      obtain ⟨qt0, qt1, qt2⟩ := HVt.out.cells
      go_wp2_with fail
      refine (Closure_ok (uni_valid HP.out HQ.out) _ _ Ht.out HDe.out).mono ?_
      rintro r wk13 ⟨f1, f2, f3, f4, f5, f6, f7, f8, f9, rfl, e, x1⟩
      have Hf := Lib.hid e
      replace HX := Lib.hid (HX.out.trans x1); replace HDe := Lib.hid (HDe.out.ext x1); replace HMk := Lib.hid (HMk.out.ext x1); replace HVa := Lib.hid (HVa.out.ext x1); replace Ha := Lib.hid (Ha.out.ext x1); replace HVb := Lib.hid (HVb.out.ext x1); replace Hb := Lib.hid (Hb.out.ext x1); replace Hc := Lib.hid (Hc.out.ext x1); replace HVc := Lib.hid (HVc.out.ext x1); replace Hd := Lib.hid (Hd.out.ext x1); replace HVd := Lib.hid (HVd.out.ext x1); replace Hg := Lib.hid (Hg.out.ext x1); replace HVg := Lib.hid (HVg.out.ext x1); replace Ht := Lib.hid (Ht.out.ext x1); replace HVt := Lib.hid (HVt.out.ext x1)
      clear x1 e qt0 qt1 qt2
      go_upto_region 16 with fail
      obtain ⟨Wk13, hWk⟩ : ∃ Wk, Wk = wk13.alloc (.cells #[.slice f1 f2 f3, .slice f4 f5 f6, .slice f7 f8 f9] 25) := ⟨_, rfl⟩
      have x1 : Ext wk13 Wk13 := by rw [hWk]; exact (Ext.refl _).alloc _
      have HVf : Hid (Var3 25 Wk13 wk13.heap.size (.slice f1 f2 f3) (.slice f4 f5 f6) (.slice f7 f8 f9)) := by rw [hWk]; exact Var3.new _ _ _ _ _
      rw [← hWk]
      replace HX := Lib.hid (HX.out.trans x1); replace HDe := Lib.hid (HDe.out.ext x1); replace HMk := Lib.hid (HMk.out.ext x1); replace HVa := Lib.hid (HVa.out.ext x1); replace Ha := Lib.hid (Ha.out.ext x1); replace HVb := Lib.hid (HVb.out.ext x1); replace Hb := Lib.hid (Hb.out.ext x1); replace Hc := Lib.hid (Hc.out.ext x1); replace HVc := Lib.hid (HVc.out.ext x1); replace Hd := Lib.hid (Hd.out.ext x1); replace HVd := Lib.hid (HVd.out.ext x1); replace Hg := Lib.hid (Hg.out.ext x1); replace HVg := Lib.hid (HVg.out.ext x1); replace Ht := Lib.hid (Ht.out.ext x1); replace HVt := Lib.hid (HVt.out.ext x1); replace Hf := Lib.hid (Hf.out.ext x1)
      clear x1 hWk
      generalize wk13.heap.size = bf at *
      obtain ⟨qb0, qb1, qb2⟩ := HVb.out.cells
      go_wp2_with fail
      refine (Closure_ok HQ.out _ _ Hb.out HDe.out).mono ?_
      rintro r wk14 ⟨k1, k2, k3, k4, k5, k6, k7, k8, k9, rfl, e, x1⟩
      have Hk := Lib.hid e
      replace HX := Lib.hid (HX.out.trans x1); replace HDe := Lib.hid (HDe.out.ext x1); replace HMk := Lib.hid (HMk.out.ext x1); replace HVa := Lib.hid (HVa.out.ext x1); replace Ha := Lib.hid (Ha.out.ext x1); replace HVb := Lib.hid (HVb.out.ext x1); replace Hb := Lib.hid (Hb.out.ext x1); replace Hc := Lib.hid (Hc.out.ext x1); replace HVc := Lib.hid (HVc.out.ext x1); replace Hd := Lib.hid (Hd.out.ext x1); replace HVd := Lib.hid (HVd.out.ext x1); replace Hg := Lib.hid (Hg.out.ext x1); replace HVg := Lib.hid (HVg.out.ext x1); replace Ht := Lib.hid (Ht.out.ext x1); replace HVt := Lib.hid (HVt.out.ext x1); replace Hf := Lib.hid (Hf.out.ext x1); replace HVf := Lib.hid (HVf.out.ext x1)
      clear x1 e qb0 qb1 qb2
      go_upto_region 17 with fail
      obtain ⟨Wk14, hWk⟩ : ∃ Wk, Wk = wk14.alloc (.cells #[.slice k1 k2 k3, .slice k4 k5 k6, .slice k7 k8 k9] 25) := ⟨_, rfl⟩
      have x1 : Ext wk14 Wk14 := by rw [hWk]; exact (Ext.refl _).alloc _
      have HVk : Hid (Var3 25 Wk14 wk14.heap.size (.slice k1 k2 k3) (.slice k4 k5 k6) (.slice k7 k8 k9)) := by rw [hWk]; exact Var3.new _ _ _ _ _
      rw [← hWk]
      replace HX := Lib.hid (HX.out.trans x1); replace HDe := Lib.hid (HDe.out.ext x1); replace HMk := Lib.hid (HMk.out.ext x1); replace HVa := Lib.hid (HVa.out.ext x1); replace Ha := Lib.hid (Ha.out.ext x1); replace HVb := Lib.hid (HVb.out.ext x1); replace Hb := Lib.hid (Hb.out.ext x1); replace Hc := Lib.hid (Hc.out.ext x1); replace HVc := Lib.hid (HVc.out.ext x1); replace Hd := Lib.hid (Hd.out.ext x1); replace HVd := Lib.hid (HVd.out.ext x1); replace Hg := Lib.hid (Hg.out.ext x1); replace HVg := Lib.hid (HVg.out.ext x1); replace Ht := Lib.hid (Ht.out.ext x1); replace HVt := Lib.hid (HVt.out.ext x1); replace Hf := Lib.hid (Hf.out.ext x1); replace HVf := Lib.hid (HVf.out.ext x1); replace Hk := Lib.hid (Hk.out.ext x1)
      clear x1 hWk
      generalize wk14.heap.size = bk at *
      obtain ⟨qc0, qc1, qc2⟩ := HVc.out.cells
      obtain ⟨qf0, qf1, qf2⟩ := HVf.out.cells
      go_wp2_with fail
      refine (RIn_any _ _ (castP (cloP (nn ws) p)) _ _ (castP (cloP (nn ws) (uniP p q))) _ _ _ Hc.out Hf.out).mono ?_
      rintro r wk15 ⟨rfl, x1⟩
      rw [HL4.out]
      replace HX := Lib.hid (HX.out.trans x1); replace HDe := Lib.hid (HDe.out.ext x1); replace HMk := Lib.hid (HMk.out.ext x1); replace HVa := Lib.hid (HVa.out.ext x1); replace Ha := Lib.hid (Ha.out.ext x1); replace HVb := Lib.hid (HVb.out.ext x1); replace Hb := Lib.hid (Hb.out.ext x1); replace Hc := Lib.hid (Hc.out.ext x1); replace HVc := Lib.hid (HVc.out.ext x1); replace Hd := Lib.hid (Hd.out.ext x1); replace HVd := Lib.hid (HVd.out.ext x1); replace Hg := Lib.hid (Hg.out.ext x1); replace HVg := Lib.hid (HVg.out.ext x1); replace Ht := Lib.hid (Ht.out.ext x1); replace HVt := Lib.hid (HVt.out.ext x1); replace Hf := Lib.hid (Hf.out.ext x1); replace HVf := Lib.hid (HVf.out.ext x1); replace Hk := Lib.hid (Hk.out.ext x1); replace HVk := Lib.hid (HVk.out.ext x1)
      clear x1 qc0 qc1 qc2 qf0 qf1 qf2
      obtain ⟨qa0, qa1, qa2⟩ := HVa.out.cells
      obtain ⟨qk0, qk1, qk2⟩ := HVk.out.cells
      go_wp2_with fail
      refine (RIn_any _ _ (castP p) _ _ (castP (cloP (nn ws) q)) _ _ _ Ha.out Hk.out).mono ?_
      rintro r wk16 ⟨rfl, x1⟩
      replace HX := Lib.hid (HX.out.trans x1); replace HDe := Lib.hid (HDe.out.ext x1); replace HMk := Lib.hid (HMk.out.ext x1); replace HVa := Lib.hid (HVa.out.ext x1); replace Ha := Lib.hid (Ha.out.ext x1); replace HVb := Lib.hid (HVb.out.ext x1); replace Hb := Lib.hid (Hb.out.ext x1); replace Hc := Lib.hid (Hc.out.ext x1); replace HVc := Lib.hid (HVc.out.ext x1); replace Hd := Lib.hid (Hd.out.ext x1); replace HVd := Lib.hid (HVd.out.ext x1); replace Hg := Lib.hid (Hg.out.ext x1); replace HVg := Lib.hid (HVg.out.ext x1); replace Ht := Lib.hid (Ht.out.ext x1); replace HVt := Lib.hid (HVt.out.ext x1); replace Hf := Lib.hid (Hf.out.ext x1); replace HVf := Lib.hid (HVf.out.ext x1); replace Hk := Lib.hid (Hk.out.ext x1); replace HVk := Lib.hid (HVk.out.ext x1)
      clear x1 qa0 qa1 qa2 qk0 qk1 qk2
      cases h1 : inFrom (castP p) (castP (cloP (nn ws) q)) with
      | false =>
        clear h1
        go_wp2_with fail
        exact bodyPost_ret (v := .bool true) (by simp [results, Tryd.results6, go_sem]) rfl ⟨rfl, HX.out⟩
      | true =>
      have HL7 := Lib.hid (HL5.out h1); clear h1
      obtain ⟨qc0, qc1, qc2⟩ := HVc.out.cells
      obtain ⟨qk0, qk1, qk2⟩ := HVk.out.cells
      go_wp2_with fail
      refine (RIn_any _ _ (castP (cloP (nn ws) p)) _ _ (castP (cloP (nn ws) q)) _ _ _ Hc.out Hk.out).mono ?_
      rintro r wk17 ⟨rfl, x1⟩
      rw [HL7.out]
      replace HX := Lib.hid (HX.out.trans x1); replace HDe := Lib.hid (HDe.out.ext x1); replace HMk := Lib.hid (HMk.out.ext x1); replace HVa := Lib.hid (HVa.out.ext x1); replace Ha := Lib.hid (Ha.out.ext x1); replace HVb := Lib.hid (HVb.out.ext x1); replace Hb := Lib.hid (Hb.out.ext x1); replace Hc := Lib.hid (Hc.out.ext x1); replace HVc := Lib.hid (HVc.out.ext x1); replace Hd := Lib.hid (Hd.out.ext x1); replace HVd := Lib.hid (HVd.out.ext x1); replace Hg := Lib.hid (Hg.out.ext x1); replace HVg := Lib.hid (HVg.out.ext x1); replace Ht := Lib.hid (Ht.out.ext x1); replace HVt := Lib.hid (HVt.out.ext x1); replace Hf := Lib.hid (Hf.out.ext x1); replace HVf := Lib.hid (HVf.out.ext x1); replace Hk := Lib.hid (Hk.out.ext x1); replace HVk := Lib.hid (HVk.out.ext x1)
      clear x1 qc0 qc1 qc2 qk0 qk1 qk2
      go_wp2_with fail
      exact bodyPost_ret (v := .bool true) (by simp [results, Tryd.results6, go_sem]) rfl ⟨rfl, HX.out⟩
end Go.Proofs.YtlnahhlddekhoaaDoor
