/-
  The walk of ExprRing. Printed by gen_exprring.py.
-/
import Derived.Test.YtdancokndklpnaaDoorMRg
namespace Go.Proofs.YtdancokndklpnaaDoor
open Go.RowKit

theorem three_val {w W : World} {K : Nat} {a b c : E} {ka kb kc : Value} (hx : Ext w W) (h1 : Kids w ka a.kids) (h2 : Kids w kb b.kids) (h3 : Kids w kc c.kids)
    (hb : W.heap[K]? = some (.cells #[.int .i64 a.op, .int .i64 a.wd, .int .i64 a.n, ka, .int .i64 b.op, .int .i64 b.wd, .int .i64 b.n, kb, .int .i64 c.op, .int .i64 c.wd, .int .i64 c.n, kc] 24 (0, 0))) : Kids W (.slice (some ⟨K, 0, none⟩) 3 3) [a, b, c] := by
  refine .inr ⟨K, 0, 3, rfl, by simp, fun i h => ?_⟩
  have : i = 0 ∨ i = 1 ∨ i = 2 := by simp at h; omega
  rcases this with rfl | rfl | rfl
  · exact IsE.of_cells (v := ka) (by simp [World.cell?, hb]) (by simp [World.cell?, hb]) (by simp [World.cell?, hb]) (by simp [World.cell?, hb]) (h1.ext hx)
  · exact IsE.of_cells (v := kb) (by simp [World.cell?, hb]) (by simp [World.cell?, hb]) (by simp [World.cell?, hb]) (by simp [World.cell?, hb]) (h2.ext hx)
  · exact IsE.of_cells (v := kc) (by simp [World.cell?, hb]) (by simp [World.cell?, hb]) (by simp [World.cell?, hb]) (by simp [World.cell?, hb]) (h3.ext hx)

theorem EVal.kids {w : World} {op wd n : Int} {kv : Value} {e : E} (h : EVal w (.agg #[.int .i64 op, .int .i64 wd, .int .i64 n, kv]) e) : Kids w kv e.kids := by
  obtain ⟨k, h1, h2⟩ := h
  simp only [Value.agg.injEq, Array.mk.injEq, List.cons.injEq, and_true] at h1
  rw [h1.2.2.2]; exact h2

set_option maxRecDepth 100000 in
set_option maxHeartbeats 16000000 in
theorem ExprRing_any (a b c : E) (old now : List Int) (va vb vc vo vn : Value) (w : World) (ha : EVal w va a) (hb : EVal w vb b) (hc : EVal w vc c) (hO : Ints w vo old) (hN : Ints w vn now) (hM : Masks w) (hNm : Names w) (hP : Pow10 w) :
    Calls Tryd.prog 6 #[va, vb, vc, vo, vn] w fun r w' => r = .returned (.bool true) ∧ Ext w w' := by
  obtain ⟨aa, al, ac, rfl, _⟩ := ha.shape
  obtain ⟨ba, bl, bc, rfl, _⟩ := hb.shape
  obtain ⟨ca, cl, cc, rfl, _⟩ := hc.shape
  obtain ⟨oa, ocap, rfl⟩ := hO.shape
  obtain ⟨na, ncap, rfl⟩ := hN.shape
  obtain ⟨W, hW⟩ : ∃ W, W = ((w.alloc (.cells #[.int .i64 a.op, .int .i64 a.wd, .int .i64 a.n, .slice aa al ac] 24)).alloc (.cells #[.int .i64 b.op, .int .i64 b.wd, .int .i64 b.n, .slice ba bl bc] 24)).alloc (.cells #[.int .i64 c.op, .int .i64 c.wd, .int .i64 c.n, .slice ca cl cc] 24) := ⟨_, rfl⟩
  have hx : Ext w W := by rw [hW]; exact (((Ext.refl w).alloc _).alloc _).alloc _
  obtain ⟨hv1, hv2, hv3⟩ := heap_of3 w (.cells #[.int .i64 a.op, .int .i64 a.wd, .int .i64 a.n, .slice aa al ac] 24) (.cells #[.int .i64 b.op, .int .i64 b.wd, .int .i64 b.n, .slice ba bl bc] 24) (.cells #[.int .i64 c.op, .int .i64 c.wd, .int .i64 c.n, .slice ca cl cc] 24)
  rw [← hW] at hv1 hv2 hv3
  have HW := Lib.hid hW; have HX := Lib.hid hx
  have HV1 : Hid (VarE W w.heap.size a.op a.wd a.n (.slice aa al ac)) := hv1
  have HV2 : Hid (VarE W (w.heap.size + 1) b.op b.wd b.n (.slice ba bl bc)) := hv2
  have HV3 : Hid (VarE W (w.heap.size + 1 + 1) c.op c.wd c.n (.slice ca cl cc)) := hv3
  have HA := Lib.hid (ha.ext hx); have HB := Lib.hid (hb.ext hx); have HC := Lib.hid (hc.ext hx); have HO := Lib.hid (hO.ext hx); have HN := Lib.hid (hN.ext hx); have HM := Lib.hid (hM.ext hx)
  have HNm := Lib.hid (hNm.ext hx); have HP := Lib.hid (hP.ext hx)
  clear hW hx hv1 hv2 hv3 ha hb hc hO hN hM hNm hP
  go_enter Tryd.func6, Tryd.ntmps6
  go_wp2_with fail
  rw [← HW.out]
  clear HW
  generalize w.heap.size + 1 + 1 = b3 at *
  generalize w.heap.size + 1 = b2 at *
  generalize w.heap.size = b1 at *
  refine (head_any W HM.out HNm.out HP.out).mono ?_
  rintro r w1 ⟨rfl, x1⟩
  replace HX := Lib.hid (HX.out.trans x1); replace HV1 := Lib.hid (HV1.out.ext x1); replace HV2 := Lib.hid (HV2.out.ext x1); replace HV3 := Lib.hid (HV3.out.ext x1); replace HA := Lib.hid (HA.out.ext x1); replace HB := Lib.hid (HB.out.ext x1); replace HC := Lib.hid (HC.out.ext x1); replace HO := Lib.hid (HO.out.ext x1); replace HN := Lib.hid (HN.out.ext x1); replace HM := Lib.hid (HM.out.ext x1)
  clear x1 HNm HP
  obtain ⟨q0, q1, q2, q3⟩ := HV1.out.cells
  go_wp2_with fail
  refine (sound_any a _ _ 30 HA.out (by omega) (by omega)).mono ?_
  rintro r w2 ⟨rfl, x1⟩
  replace HX := Lib.hid (HX.out.trans x1); replace HV1 := Lib.hid (HV1.out.ext x1); replace HV2 := Lib.hid (HV2.out.ext x1); replace HV3 := Lib.hid (HV3.out.ext x1); replace HA := Lib.hid (HA.out.ext x1); replace HB := Lib.hid (HB.out.ext x1); replace HC := Lib.hid (HC.out.ext x1); replace HO := Lib.hid (HO.out.ext x1); replace HN := Lib.hid (HN.out.ext x1); replace HM := Lib.hid (HM.out.ext x1)
  clear x1 q0 q1 q2 q3
  cases h1 : (decide ((a.size : Int) ≤ 30) && a.wf) with
  | false =>
    clear h1
    go_wp2_with fail
    exact bodyPost_ret (v := .bool true) (by simp [results, Tryd.results6, go_sem]) rfl ⟨rfl, HX.out⟩
  | true =>
  simp only [Bool.and_eq_true, decide_eq_true_eq] at h1
  have HSa := Lib.hid h1; clear h1
  obtain ⟨q0, q1, q2, q3⟩ := HV2.out.cells
  go_wp2_with fail
  refine (sound_any b _ _ 30 HB.out (by omega) (by omega)).mono ?_
  rintro r w3 ⟨rfl, x1⟩
  replace HX := Lib.hid (HX.out.trans x1); replace HV1 := Lib.hid (HV1.out.ext x1); replace HV2 := Lib.hid (HV2.out.ext x1); replace HV3 := Lib.hid (HV3.out.ext x1); replace HA := Lib.hid (HA.out.ext x1); replace HB := Lib.hid (HB.out.ext x1); replace HC := Lib.hid (HC.out.ext x1); replace HO := Lib.hid (HO.out.ext x1); replace HN := Lib.hid (HN.out.ext x1); replace HM := Lib.hid (HM.out.ext x1)
  clear x1 q0 q1 q2 q3
  cases h1 : (decide ((b.size : Int) ≤ 30) && b.wf) with
  | false =>
    clear h1
    go_wp2_with fail
    exact bodyPost_ret (v := .bool true) (by simp [results, Tryd.results6, go_sem]) rfl ⟨rfl, HX.out⟩
  | true =>
  simp only [Bool.and_eq_true, decide_eq_true_eq] at h1
  have HSb := Lib.hid h1; clear h1
  obtain ⟨q0, q1, q2, q3⟩ := HV3.out.cells
  go_wp2_with fail
  refine (sound_any c _ _ 30 HC.out (by omega) (by omega)).mono ?_
  rintro r w4 ⟨rfl, x1⟩
  replace HX := Lib.hid (HX.out.trans x1); replace HV1 := Lib.hid (HV1.out.ext x1); replace HV2 := Lib.hid (HV2.out.ext x1); replace HV3 := Lib.hid (HV3.out.ext x1); replace HA := Lib.hid (HA.out.ext x1); replace HB := Lib.hid (HB.out.ext x1); replace HC := Lib.hid (HC.out.ext x1); replace HO := Lib.hid (HO.out.ext x1); replace HN := Lib.hid (HN.out.ext x1); replace HM := Lib.hid (HM.out.ext x1)
  clear x1 q0 q1 q2 q3
  cases h1 : (decide ((c.size : Int) ≤ 30) && c.wf) with
  | false =>
    clear h1
    go_wp2_with fail
    exact bodyPost_ret (v := .bool true) (by simp [results, Tryd.results6, go_sem]) rfl ⟨rfl, HX.out⟩
  | true =>
  simp only [Bool.and_eq_true, decide_eq_true_eq] at h1
  have HSc := Lib.hid h1; clear h1
  obtain ⟨q0, q1, q2, q3⟩ := HV1.out.cells
  obtain ⟨p0, p1, p2, p3⟩ := HV2.out.cells
  obtain ⟨s0, s1, s2, s3⟩ := HV3.out.cells
  cases hab : (a.wd != b.wd) with
  | true =>
    go_wp2_with fail
    exact bodyPost_ret (v := .bool true) (by simp [results, Tryd.results6, go_sem]) rfl ⟨rfl, HX.out⟩
  | false =>
  cases hbc : (b.wd != c.wd) with
  | true =>
    go_wp2_with fail
    exact bodyPost_ret (v := .bool true) (by simp [results, Tryd.results6, go_sem]) rfl ⟨rfl, HX.out⟩
  | false =>
  by_cases hlo : 40 < old.length
  · go_wp2_with fail
    exact bodyPost_ret (v := .bool true) (by simp [results, Tryd.results6, go_sem]) rfl ⟨rfl, HX.out⟩
  by_cases hln : 40 < now.length
  · go_wp2_with fail
    exact bodyPost_ret (v := .bool true) (by simp [results, Tryd.results6, go_sem]) rfl ⟨rfl, HX.out⟩
  have eab : b.wd = a.wd := (by simpa using hab : a.wd = b.wd).symm
  have ebc : c.wd = a.wd := by rw [← eab]; exact (by simpa using hbc : b.wd = c.wd).symm
  have HGA : Hid (Good a.wd 30 30 a) := good_of_wf HSa.out.2 (by have := HSa.out.1; omega)
  have HGB : Hid (Good a.wd 30 30 b) := by
    have := good_of_wf (s := 30) HSb.out.2 (by have := HSb.out.1; omega)
    rw [eab] at this; exact this
  have HGC : Hid (Good a.wd 30 30 c) := by
    have := good_of_wf (s := 30) HSc.out.2 (by have := HSc.out.1; omega)
    rw [ebc] at this; exact this
  have HLT := Lib.hid (o_lt HGA.out HGB.out old now); have HLE := Lib.hid (o_le HGA.out HGB.out old now); have HEQ := Lib.hid (o_eq HGA.out HGB.out old now); have HPK := Lib.hid (o_pick HGA.out HGB.out old now)
  have hr0 := (o_range HGA.out old now).1
  have hr1 := (o_range HGA.out old now).2
  have hwd := HGA.out.width
  have hw20 : a.wd ≤ 20 := by omega
  clear eab ebc hwd
  obtain ⟨x, hx⟩ : ∃ x, x = a.eval old now := ⟨_, rfl⟩
  obtain ⟨y, hy⟩ : ∃ y, y = b.eval old now := ⟨_, rfl⟩
  obtain ⟨L, hL⟩ : ∃ L, L = (E.mk 12 1 0 [a, b]).eval old now := ⟨_, rfl⟩
  obtain ⟨M, hM⟩ : ∃ M, M = (E.mk 13 1 0 [a, b]).eval old now := ⟨_, rfl⟩
  obtain ⟨Q, hQ⟩ : ∃ Q, Q = (E.mk 11 1 0 [a, b]).eval old now := ⟨_, rfl⟩
  obtain ⟨PK, hPK⟩ : ∃ PK, PK = (E.mk 14 a.wd 0 [E.mk 12 1 0 [a, b], a, b]).eval old now := ⟨_, rfl⟩
  rw [← hL, ← hx, ← hy] at HLT
  rw [← hM, ← hx, ← hy] at HLE
  rw [← hQ, ← hx, ← hy] at HEQ
  rw [← hPK, ← hx, ← hy] at HPK
  rw [← hx] at hr0 hr1
  have EX := Lib.hid hx; have EY := Lib.hid hy; have EL := Lib.hid hL; have EM := Lib.hid hM; have EQ := Lib.hid hQ; have EP := Lib.hid hPK
  clear hx hy hL hM hQ hPK
  go_wp2_with fail
  refine (Eval_any a _ _ _ old now _ HA.out HO.out HN.out HM.out).mono ?_
  rintro r w5 ⟨rfl, x1⟩
  rw [← EX.out]
  replace HX := Lib.hid (HX.out.trans x1); replace HV1 := Lib.hid (HV1.out.ext x1); replace HV2 := Lib.hid (HV2.out.ext x1); replace HV3 := Lib.hid (HV3.out.ext x1); replace HA := Lib.hid (HA.out.ext x1); replace HB := Lib.hid (HB.out.ext x1); replace HC := Lib.hid (HC.out.ext x1); replace HO := Lib.hid (HO.out.ext x1); replace HN := Lib.hid (HN.out.ext x1); replace HM := Lib.hid (HM.out.ext x1)
  clear x1 q0 q1 q2 q3 p0 p1 p2 p3 s0 s1 s2 s3 hab hbc
  obtain ⟨p0, p1, p2, p3⟩ := HV2.out.cells
  go_wp2_with fail
  refine (Eval_any b _ _ _ old now _ HB.out HO.out HN.out HM.out).mono ?_
  rintro r w6 ⟨rfl, x1⟩
  rw [← EY.out]
  replace HX := Lib.hid (HX.out.trans x1); replace HV1 := Lib.hid (HV1.out.ext x1); replace HV2 := Lib.hid (HV2.out.ext x1); replace HV3 := Lib.hid (HV3.out.ext x1); replace HA := Lib.hid (HA.out.ext x1); replace HB := Lib.hid (HB.out.ext x1); replace HC := Lib.hid (HC.out.ext x1); replace HO := Lib.hid (HO.out.ext x1); replace HN := Lib.hid (HN.out.ext x1); replace HM := Lib.hid (HM.out.ext x1)
  clear x1 p0 p1 p2 p3
  obtain ⟨q0, q1, q2, q3⟩ := HV1.out.cells
  obtain ⟨p0, p1, p2, p3⟩ := HV2.out.cells
  go_wp2_with fail
  refine (RTwo_any 12 1 a b _ _ _ HA.out HB.out).mono ?_
  rintro r w7 ⟨⟨v, rfl, e⟩, x1⟩
  obtain ⟨la, ll, lc, rfl, e'⟩ := EVal.shapeN e
  replace HX := Lib.hid (HX.out.trans x1); replace HV1 := Lib.hid (HV1.out.ext x1); replace HV2 := Lib.hid (HV2.out.ext x1); replace HV3 := Lib.hid (HV3.out.ext x1); replace HA := Lib.hid (HA.out.ext x1); replace HB := Lib.hid (HB.out.ext x1); replace HC := Lib.hid (HC.out.ext x1); replace HO := Lib.hid (HO.out.ext x1); replace HN := Lib.hid (HN.out.ext x1); replace HM := Lib.hid (HM.out.ext x1)
  have HL := Lib.hid e'
  clear x1 e e' q0 q1 q2 q3 p0 p1 p2 p3
  go_upto_region 7 with fail
  obtain ⟨W8, hW8⟩ : ∃ W8, W8 = w7.alloc (.cells #[.int .i64 12, .int .i64 1, .int .i64 0, .slice la ll lc] 24) := ⟨_, rfl⟩
  have x1 : Ext w7 W8 := by rw [hW8]; exact (Ext.refl _).alloc _
  have HV4 : Hid (VarE W8 w7.heap.size 12 1 0 (.slice la ll lc)) := by rw [hW8]; exact VarE.new _ _ _ _ _
  rw [← hW8]
  replace HX := Lib.hid (HX.out.trans x1); replace HV1 := Lib.hid (HV1.out.ext x1); replace HV2 := Lib.hid (HV2.out.ext x1); replace HV3 := Lib.hid (HV3.out.ext x1); replace HA := Lib.hid (HA.out.ext x1); replace HB := Lib.hid (HB.out.ext x1); replace HC := Lib.hid (HC.out.ext x1); replace HO := Lib.hid (HO.out.ext x1); replace HN := Lib.hid (HN.out.ext x1); replace HM := Lib.hid (HM.out.ext x1); replace HL := Lib.hid (HL.out.ext x1)
  clear x1 hW8
  generalize w7.heap.size = b4 at *
  obtain ⟨q0, q1, q2, q3⟩ := HV4.out.cells
  have h3 : x < y ∨ x = y ∨ y < x := by omega
  have hcases : ((L == 1) = true ∧ (M == 1) = true ∧ (Q == 1) = false ∧ x = PK ∧ x < y) ∨ ((L == 1) = false ∧ (M == 1) = true ∧ (Q == 1) = true ∧ x = PK ∧ x = y) ∨ ((L == 1) = false ∧ (M == 1) = false ∧ (Q == 1) = false ∧ y = PK ∧ y < x) := by
    rcases h3 with h | h | h
    · exact .inl ⟨by rw [HLT.out]; simpa using h, by rw [HLE.out]; simpa using Int.le_of_lt h, by rw [HEQ.out]; simp; omega, by rw [HPK.out]; omega, h⟩
    · exact .inr (.inl ⟨by rw [HLT.out]; simp; omega, by rw [HLE.out]; simp; omega, by rw [HEQ.out]; simpa using h, by rw [HPK.out]; omega, h⟩)
    · exact .inr (.inr ⟨by rw [HLT.out]; simp; omega, by rw [HLE.out]; simp; omega, by rw [HEQ.out]; simp; omega, by rw [HPK.out]; omega, h⟩)
  clear h3 HLT HLE HEQ HPK
  rcases hcases with ⟨hl, hm, hq, rfl, hxy⟩ | ⟨hl, hm, hq, rfl, hxy⟩ | ⟨hl, hm, hq, rfl, hxy⟩
  all_goals
    go_wp2_with fail
    refine (Eval_any (.mk 12 1 0 [a, b]) _ _ _ old now _ HL.out HO.out HN.out HM.out).mono ?_
    rintro r w9 ⟨rfl, x1⟩
    rw [← EL.out]
    replace HX := Lib.hid (HX.out.trans x1); replace HV1 := Lib.hid (HV1.out.ext x1); replace HV2 := Lib.hid (HV2.out.ext x1); replace HV3 := Lib.hid (HV3.out.ext x1); replace HA := Lib.hid (HA.out.ext x1); replace HB := Lib.hid (HB.out.ext x1); replace HC := Lib.hid (HC.out.ext x1); replace HO := Lib.hid (HO.out.ext x1); replace HN := Lib.hid (HN.out.ext x1); replace HM := Lib.hid (HM.out.ext x1); replace HL := Lib.hid (HL.out.ext x1); replace HV4 := Lib.hid (HV4.out.ext x1)
    clear x1 q0 q1 q2 q3
    obtain ⟨q0, q1, q2, q3⟩ := HV1.out.cells
    obtain ⟨p0, p1, p2, p3⟩ := HV2.out.cells
    go_wp2_with fail
    refine (RTwo_any 13 1 a b _ _ _ HA.out HB.out).mono ?_
    rintro r w10 ⟨⟨v, rfl, e⟩, x1⟩
    obtain ⟨ma, ml, mc, rfl, e'⟩ := EVal.shapeN e
    replace HX := Lib.hid (HX.out.trans x1); replace HV1 := Lib.hid (HV1.out.ext x1); replace HV2 := Lib.hid (HV2.out.ext x1); replace HV3 := Lib.hid (HV3.out.ext x1); replace HA := Lib.hid (HA.out.ext x1); replace HB := Lib.hid (HB.out.ext x1); replace HC := Lib.hid (HC.out.ext x1); replace HO := Lib.hid (HO.out.ext x1); replace HN := Lib.hid (HN.out.ext x1); replace HM := Lib.hid (HM.out.ext x1); replace HL := Lib.hid (HL.out.ext x1); replace HV4 := Lib.hid (HV4.out.ext x1)
    have HT := Lib.hid e'
    clear x1 e e' q0 q1 q2 q3 p0 p1 p2 p3
    go_wp2_with fail
    refine (Eval_any (.mk 13 1 0 [a, b]) _ _ _ old now _ HT.out HO.out HN.out HM.out).mono ?_
    rintro r w11 ⟨rfl, x1⟩
    rw [← EM.out]
    replace HX := Lib.hid (HX.out.trans x1); replace HV1 := Lib.hid (HV1.out.ext x1); replace HV2 := Lib.hid (HV2.out.ext x1); replace HV3 := Lib.hid (HV3.out.ext x1); replace HA := Lib.hid (HA.out.ext x1); replace HB := Lib.hid (HB.out.ext x1); replace HC := Lib.hid (HC.out.ext x1); replace HO := Lib.hid (HO.out.ext x1); replace HN := Lib.hid (HN.out.ext x1); replace HM := Lib.hid (HM.out.ext x1); replace HL := Lib.hid (HL.out.ext x1); replace HV4 := Lib.hid (HV4.out.ext x1)
    clear x1 HT
    obtain ⟨q0, q1, q2, q3⟩ := HV1.out.cells
    obtain ⟨p0, p1, p2, p3⟩ := HV2.out.cells
    go_wp2_with fail
    refine (RTwo_any 11 1 a b _ _ _ HA.out HB.out).mono ?_
    rintro r w12 ⟨⟨v, rfl, e⟩, x1⟩
    obtain ⟨ka, kl, kc, rfl, e'⟩ := EVal.shapeN e
    replace HX := Lib.hid (HX.out.trans x1); replace HV1 := Lib.hid (HV1.out.ext x1); replace HV2 := Lib.hid (HV2.out.ext x1); replace HV3 := Lib.hid (HV3.out.ext x1); replace HA := Lib.hid (HA.out.ext x1); replace HB := Lib.hid (HB.out.ext x1); replace HC := Lib.hid (HC.out.ext x1); replace HO := Lib.hid (HO.out.ext x1); replace HN := Lib.hid (HN.out.ext x1); replace HM := Lib.hid (HM.out.ext x1); replace HL := Lib.hid (HL.out.ext x1); replace HV4 := Lib.hid (HV4.out.ext x1)
    have HT := Lib.hid e'
    clear x1 e e' q0 q1 q2 q3 p0 p1 p2 p3
    go_wp2_with fail
    refine (Eval_any (.mk 11 1 0 [a, b]) _ _ _ old now _ HT.out HO.out HN.out HM.out).mono ?_
    rintro r w13 ⟨rfl, x1⟩
    rw [← EQ.out]
    replace HX := Lib.hid (HX.out.trans x1); replace HV1 := Lib.hid (HV1.out.ext x1); replace HV2 := Lib.hid (HV2.out.ext x1); replace HV3 := Lib.hid (HV3.out.ext x1); replace HA := Lib.hid (HA.out.ext x1); replace HB := Lib.hid (HB.out.ext x1); replace HC := Lib.hid (HC.out.ext x1); replace HO := Lib.hid (HO.out.ext x1); replace HN := Lib.hid (HN.out.ext x1); replace HM := Lib.hid (HM.out.ext x1); replace HL := Lib.hid (HL.out.ext x1); replace HV4 := Lib.hid (HV4.out.ext x1)
    clear x1 HT
    obtain ⟨q0, q1, q2, q3⟩ := HV1.out.cells
    obtain ⟨p0, p1, p2, p3⟩ := HV2.out.cells
    obtain ⟨s0, s1, s2, s3⟩ := HV4.out.cells
    go_wp2_with fail
    obtain ⟨W14, hW14⟩ : ∃ W14, W14 = w13.alloc (.cells #[.int .i64 12, .int .i64 1, .int .i64 0, .slice la ll lc, .int .i64 a.op, .int .i64 a.wd, .int .i64 a.n, .slice aa al ac, .int .i64 b.op, .int .i64 b.wd, .int .i64 b.n, .slice ba bl bc] 24) := ⟨_, rfl⟩
    have x1 : Ext w13 W14 := by rw [hW14]; exact (Ext.refl _).alloc _
    have HT : Hid (EVal W14 (.agg #[.int .i64 14, .int .i64 a.wd, .int .i64 0, .slice (some ⟨w13.heap.size, 0, none⟩) 3 3]) (.mk 14 a.wd 0 [.mk 12 1 0 [a, b], a, b])) := by
      refine ⟨_, rfl, three_val (a := .mk 12 1 0 [a, b]) (b := a) (c := b) x1 HL.out.kids HA.out.kids HB.out.kids ?_⟩
      rw [hW14]; exact heap_new _ _
    rw [← hW14]
    replace HX := Lib.hid (HX.out.trans x1); replace HV1 := Lib.hid (HV1.out.ext x1); replace HV2 := Lib.hid (HV2.out.ext x1); replace HV3 := Lib.hid (HV3.out.ext x1); replace HA := Lib.hid (HA.out.ext x1); replace HB := Lib.hid (HB.out.ext x1); replace HC := Lib.hid (HC.out.ext x1); replace HO := Lib.hid (HO.out.ext x1); replace HN := Lib.hid (HN.out.ext x1); replace HM := Lib.hid (HM.out.ext x1)
    clear x1 hW14 q0 q1 q2 q3 p0 p1 p2 p3 s0 s1 s2 s3 HL HV4
    refine (Eval_any (.mk 14 a.wd 0 [.mk 12 1 0 [a, b], a, b]) _ _ _ old now _ HT.out HO.out HN.out HM.out).mono ?_
    rintro r w15 ⟨rfl, x1⟩
    rw [← EP.out]
    replace HX := Lib.hid (HX.out.trans x1); replace HV1 := Lib.hid (HV1.out.ext x1); replace HV2 := Lib.hid (HV2.out.ext x1); replace HV3 := Lib.hid (HV3.out.ext x1); replace HA := Lib.hid (HA.out.ext x1); replace HB := Lib.hid (HB.out.ext x1); replace HC := Lib.hid (HC.out.ext x1); replace HO := Lib.hid (HO.out.ext x1); replace HN := Lib.hid (HN.out.ext x1); replace HM := Lib.hid (HM.out.ext x1)
    clear x1 HT
    obtain ⟨q0, q1, q2, q3⟩ := HV1.out.cells
    have HR0 := Lib.hid hr0; have HR1 := Lib.hid hr1; have HXY := Lib.hid hxy
    first
    | (have t1 : decide (x < y) = true := decide_eq_true HXY.out
       have t2 : decide (x ≤ y) = true := decide_eq_true (Int.le_of_lt HXY.out)
       have t3 : (x == y) = false := by have := HXY.out; simp; omega
       have t4 : min x y = x := by have := HXY.out; omega)
    | (have t1 : decide (x < y) = false := decide_eq_false (by have := HXY.out; omega)
       have t2 : decide (x ≤ y) = false := decide_eq_false (by have := HXY.out; omega)
       have t3 : (x == y) = false := by have := HXY.out; simp; omega
       have t4 : min x y = y := by have := HXY.out; omega)
    | (clear HXY; obtain rfl := hxy; have hxy := 0)
    have t5 : decide (0 ≤ x) = true := decide_eq_true HR0.out
    have t6 : decide (x < pw a.wd) = true := decide_eq_true HR1.out
    clear hr0 hr1 hxy
    go_wp2_with fail
    refine (Power_any a.wd _ hw20).mono ?_
    rintro r w16 ⟨rfl, rfl⟩
    clear q0 q1 q2 q3
    obtain ⟨q0, q1, q2, q3⟩ := HV1.out.cells
    obtain ⟨p0, p1, p2, p3⟩ := HV2.out.cells
    obtain ⟨s0, s1, s2, s3⟩ := HV3.out.cells
    go_wp2_with fail
    refine (ring_any a b c _ _ _ _ _ old now _ HA.out HB.out HC.out HO.out HN.out HM.out HGA.out HGB.out HGC.out).mono ?_
    rintro r w17 ⟨rfl, x1⟩
    replace HX := Lib.hid (HX.out.trans x1)
    clear x1
    go_wp2_with fail
    exact bodyPost_ret (v := .bool true) (by simp [results, Tryd.results6, go_sem]) rfl ⟨rfl, HX.out⟩
end Go.Proofs.YtdancokndklpnaaDoor
