/-
  The walk of the law CertificateRoundTrip. (Printed by gen_law27.py.)
-/
import Derived.Test.YtoopoljchhdobaaDoorOpenT
namespace Go.Proofs.YtoopoljchhdobaaDoor
open Go.RowKit

set_option maxRecDepth 100000 in
set_option maxHeartbeats 8000000 in
theorem CertificateRoundTrip_any (x : CertS) (t : List UInt8) (vx : Value) (w : World) (hx : CertV w vx x) (ht : t.length ≤ 9223372036854775807) (hL : LTab w) :
    Calls Tryd.prog 3 #[vx, .string ⟨t.toArray⟩] w fun r w' => r = .returned (.bool true) ∧ Ext w w' := by
  obtain ⟨pa, pc, oa, oc, na, nc, rfl, hin⟩ := hx
  obtain ⟨W, hW⟩ : ∃ W, W = w.alloc (.cells (certCells x pa pc oa oc na nc) 25) := ⟨_, rfl⟩
  have hX : Ext w W := by rw [hW]; exact (Ext.refl _).alloc _
  have hC : CertAt W w.heap.size x pa pc oa oc na nc := by rw [hW]; exact heap_new _ _
  have HC := Lib.hid hC; have HX := Lib.hid hX; have HWE := Lib.hid hW; have HIN := Lib.hid (hin.ext hX); have HL := Lib.hid (hL.ext hX)
  obtain ⟨q0, q1, q2, q3, q4, q5⟩ := hC.cells
  clear hC hX hW hin hL
  unfold certCells at HWE ⊢
  go_enter Tryd.func3, Tryd.ntmps3
  go_upto_region 1 with fail
  rw [← HWE.out]
  clear HWE
  generalize w.heap.size = b at *
  go_wp2_with fail
  refine (headL W HL.out).mono ?_
  rintro r w1 ⟨rfl, x1⟩
  replace HX := Lib.hid (HX.out.trans x1); replace HC := Lib.hid (HC.out.ext x1); replace HIN := Lib.hid (HIN.out.ext x1); replace HL := Lib.hid (HL.out.ext x1); replace q0 := x1.cell q0; replace q1 := x1.cell q1; replace q2 := x1.cell q2; replace q3 := x1.cell q3; replace q4 := x1.cell q4; replace q5 := x1.cell q5
  clear x1
  go_wp2_with fail
  refine (RSmallC_any x _ w1 ⟨pa, pc, oa, oc, na, nc, rfl, HIN.out⟩).mono ?_
  rintro r w2 ⟨rfl, x1⟩
  replace HX := Lib.hid (HX.out.trans x1); replace HC := Lib.hid (HC.out.ext x1); replace HIN := Lib.hid (HIN.out.ext x1); replace HL := Lib.hid (HL.out.ext x1); replace q0 := x1.cell q0; replace q1 := x1.cell q1; replace q2 := x1.cell q2; replace q3 := x1.cell q3; replace q4 := x1.cell q4; replace q5 := x1.cell q5
  clear x1
  cases hs : smallC x with
  | false =>
    go_wp2_with fail
    go_ret
    exact ⟨rfl, HX.out⟩
  | true =>
  have HS := Lib.hid (smallC_parts hs)
  clear hs
  by_cases hg : (20000 : Int) < (t.length : Int)
  · go_wp2_with fail
    go_ret
    exact ⟨rfl, HX.out⟩
  have HG : Hid (t.length ≤ 20000) := by unfold Hid; omega
  go_wp2_with fail
  refine (textL27 x HS.out _ w2 ⟨pa, pc, oa, oc, na, nc, rfl, HIN.out⟩ HL.out).mono ?_
  rintro r w3 ⟨rfl, x1⟩
  replace HX := Lib.hid (HX.out.trans x1); replace HC := Lib.hid (HC.out.ext x1); replace HIN := Lib.hid (HIN.out.ext x1); replace HL := Lib.hid (HL.out.ext x1); replace q0 := x1.cell q0; replace q1 := x1.cell q1; replace q2 := x1.cell q2; replace q3 := x1.cell q3; replace q4 := x1.cell q4; replace q5 := x1.cell q5
  clear x1 hg
  have HTL := Lib.hid (certText_small HS.out.len HS.out.prf)
  have HTC := Lib.hid (small_count HS.out)
  go_wp2_with fail
  refine (CParse_any (textC x) w3 (by have := HTL.out; omega) (by have := HTC.out; omega) HL.out.ws HL.out.p).mono ?_
  rintro r w4 ⟨x1, hq⟩
  replace HX := Lib.hid (HX.out.trans x1); replace HC := Lib.hid (HC.out.ext x1); replace HIN := Lib.hid (HIN.out.ext x1); replace HL := Lib.hid (HL.out.ext x1); replace q0 := x1.cell q0; replace q1 := x1.cell q1; replace q2 := x1.cell q2; replace q3 := x1.cell q3; replace q4 := x1.cell q4; replace q5 := x1.cell q5
  clear x1
  cases hu : usableB x with
  | true =>
    obtain ⟨z, v, h, rfl, hv⟩ := hq.resolve_left (fun ⟨h, _⟩ => by rw [parse_textC hu] at h; cases h)
    obtain rfl : x = z := by rw [parse_textC hu] at h; cases h; rfl
    obtain ⟨pa2, pc2, oa2, oc2, na2, nc2, rfl, hin2⟩ := hv
    have hne : (textC x).isEmpty = false := by
      cases h : textC x with
      | nil => exact absurd h (text_ne hu)
      | cons _ _ => rfl
    have hne2 : (textC x == []) = false := by simpa using text_ne hu
    have HU := Lib.hid hu
    clear h hu hq
    unfold certCells
    obtain ⟨W5, hW5⟩ : ∃ W5, W5 = w4.alloc (.cells (certCells x pa2 pc2 oa2 oc2 na2 nc2) 25) := ⟨_, rfl⟩
    have x1 : Ext w4 W5 := by rw [hW5]; exact (Ext.refl _).alloc _
    have hD : CertAt W5 w4.heap.size x pa2 pc2 oa2 oc2 na2 nc2 := by rw [hW5]; exact heap_new _ _
    have HIN2 := Lib.hid (hin2.ext x1); have HD := Lib.hid hD
    have HW5 : Hid (w4.alloc (.cells #[.string ⟨x.id.toArray⟩, .string ⟨x.dig.toArray⟩, .int .i64 x.ver, .slice pa2 x.prf.length pc2, .slice oa2 x.old.length oc2, .slice na2 x.now.length nc2] 25) = W5) := hW5.symm
    replace HX := Lib.hid (HX.out.trans x1); replace HC := Lib.hid (HC.out.ext x1); replace HIN := Lib.hid (HIN.out.ext x1); replace HL := Lib.hid (HL.out.ext x1); replace q0 := x1.cell q0; replace q1 := x1.cell q1; replace q2 := x1.cell q2; replace q3 := x1.cell q3; replace q4 := x1.cell q4; replace q5 := x1.cell q5
    clear x1 hW5 hD hin2
    go_upto_region 6 with fail
    rw [HW5.out]
    clear HW5
    generalize w4.heap.size = b4 at *
    generalize textC x = u at *
    go_wp2_with fail
    refine (RUsable_any x _ W5 ⟨pa, pc, oa, oc, na, nc, rfl, HIN.out⟩ HS.out).mono ?_
    rintro r w6 ⟨rfl, x1⟩
    rw [HU.out]
    replace HX := Lib.hid (HX.out.trans x1); replace HC := Lib.hid (HC.out.ext x1); replace HIN := Lib.hid (HIN.out.ext x1); replace HL := Lib.hid (HL.out.ext x1); replace HD := Lib.hid (HD.out.ext x1); replace HIN2 := Lib.hid (HIN2.out.ext x1); replace q0 := x1.cell q0; replace q1 := x1.cell q1; replace q2 := x1.cell q2; replace q3 := x1.cell q3; replace q4 := x1.cell q4; replace q5 := x1.cell q5
    obtain ⟨p0, p1, p2, p3, p4, p5⟩ := HD.out.cells
    clear x1
    go_wp2_with fail
    refine (RSameC_self x _ _ w6 ⟨pa, pc, oa, oc, na, nc, rfl, HIN.out⟩ ⟨pa2, pc2, oa2, oc2, na2, nc2, rfl, HIN2.out⟩).mono ?_
    rintro r w7 ⟨rfl, x1⟩
    replace HX := Lib.hid (HX.out.trans x1); replace HC := Lib.hid (HC.out.ext x1); replace HIN := Lib.hid (HIN.out.ext x1); replace HL := Lib.hid (HL.out.ext x1); replace q0 := x1.cell q0; replace q1 := x1.cell q1; replace q2 := x1.cell q2; replace q3 := x1.cell q3; replace q4 := x1.cell q4; replace q5 := x1.cell q5
    clear x1 p0 p1 p2 p3 p4 p5
    go_wp2_with fail
    refine (RUsable_any x _ w7 ⟨pa, pc, oa, oc, na, nc, rfl, HIN.out⟩ HS.out).mono ?_
    rintro r w8 ⟨rfl, x1⟩
    rw [HU.out]
    replace HX := Lib.hid (HX.out.trans x1); replace HC := Lib.hid (HC.out.ext x1); replace HIN := Lib.hid (HIN.out.ext x1); replace HL := Lib.hid (HL.out.ext x1); replace q0 := x1.cell q0; replace q1 := x1.cell q1; replace q2 := x1.cell q2; replace q3 := x1.cell q3; replace q4 := x1.cell q4; replace q5 := x1.cell q5
    clear x1 q0 q1 q2 q3 q4 q5 hne hne2
    go_wp2_with fail
    refine (CParse_any t w8 (by have := HG.out; omega) (by have h1 := HG.out; have h2 : t.count 10 ≤ t.length := List.count_le_length; omega) HL.out.ws HL.out.p).mono ?_
    rintro r w9 ⟨x1, hq⟩
    replace HX := Lib.hid (HX.out.trans x1); replace HL := Lib.hid (HL.out.ext x1)
    clear x1
    rcases hq with ⟨_, v, rfl, hv⟩ | ⟨z, v, hz, rfl, hv⟩
    · obtain ⟨pa3, pc3, oa3, oc3, na3, nc3, rfl, hin3⟩ := hv
      unfold certCells
      obtain ⟨W10, hW10⟩ : ∃ W10, W10 = w9.alloc (.cells (certCells cert0 pa3 pc3 oa3 oc3 na3 nc3) 25) := ⟨_, rfl⟩
      have x1 : Ext w9 W10 := by rw [hW10]; exact (Ext.refl _).alloc _
      have hD : CertAt W10 w9.heap.size cert0 pa3 pc3 oa3 oc3 na3 nc3 := by rw [hW10]; exact heap_new _ _
      have HIN3 := Lib.hid (hin3.ext x1)
      have HW10 : Hid (w9.alloc (.cells #[.string ⟨cert0.id.toArray⟩, .string ⟨cert0.dig.toArray⟩, .int .i64 cert0.ver, .slice pa3 cert0.prf.length pc3, .slice oa3 cert0.old.length oc3, .slice na3 cert0.now.length nc3] 25) = W10) := hW10.symm
      replace HX := Lib.hid (HX.out.trans x1)
      obtain ⟨q0, q1, q2, q3, q4, q5⟩ := hD.cells
      clear x1 hW10 hD hin3
      go_upto_region 11 with fail
      rw [HW10.out]
      clear HW10
      go_wp2_with fail
      refine (RSameC_self cert0 _ _ W10 ⟨pa3, pc3, oa3, oc3, na3, nc3, rfl, HIN3.out⟩ (cert0_val _)).mono ?_
      rintro r w11 ⟨rfl, x1⟩
      replace HX := Lib.hid (HX.out.trans x1)
      clear x1
      go_wp2_with fail
      go_ret
      exact ⟨rfl, HX.out⟩
    · obtain ⟨pa3, pc3, oa3, oc3, na3, nc3, rfl, hin3⟩ := hv
      have HZ := Lib.hid hz
      unfold certCells
      obtain ⟨W10, hW10⟩ : ∃ W10, W10 = w9.alloc (.cells (certCells z pa3 pc3 oa3 oc3 na3 nc3) 25) := ⟨_, rfl⟩
      have x1 : Ext w9 W10 := by rw [hW10]; exact (Ext.refl _).alloc _
      have hD : CertAt W10 w9.heap.size z pa3 pc3 oa3 oc3 na3 nc3 := by rw [hW10]; exact heap_new _ _
      have HIN3 := Lib.hid (hin3.ext x1)
      have HW10 : Hid (w9.alloc (.cells #[.string ⟨z.id.toArray⟩, .string ⟨z.dig.toArray⟩, .int .i64 z.ver, .slice pa3 z.prf.length pc3, .slice oa3 z.old.length oc3, .slice na3 z.now.length nc3] 25) = W10) := hW10.symm
      replace HX := Lib.hid (HX.out.trans x1); replace HL := Lib.hid (HL.out.ext x1)
      obtain ⟨q0, q1, q2, q3, q4, q5⟩ := hD.cells
      clear x1 hW10 hD hin3 hz
      go_upto_region 11 with fail
      rw [HW10.out]
      clear HW10
      go_wp2_with fail
      refine (textR27 t z HZ.out (by have := HG.out; omega) _ W10 ⟨pa3, pc3, oa3, oc3, na3, nc3, rfl, HIN3.out⟩ HL.out).mono ?_
      rintro r w11 ⟨rfl, x1⟩
      replace HX := Lib.hid (HX.out.trans x1)
      clear x1
      go_wp2_with fail
      go_ret
      exact ⟨rfl, HX.out⟩
  | false =>
    have hnil : textC x = [] := by unfold textC; rw [if_neg (by rw [hu]; decide)]
    obtain ⟨_, v, rfl, hv⟩ := hq.resolve_right (fun ⟨z, v, h, _⟩ => by rw [hnil, parse_nil] at h; cases h)
    obtain ⟨pa2, pc2, oa2, oc2, na2, nc2, rfl, hin2⟩ := hv
    have HU := Lib.hid hu
    clear hu hq
    rw [hnil]
    clear hnil HTL HTC
    unfold certCells
    obtain ⟨W5, hW5⟩ : ∃ W5, W5 = w4.alloc (.cells (certCells cert0 pa2 pc2 oa2 oc2 na2 nc2) 25) := ⟨_, rfl⟩
    have x1 : Ext w4 W5 := by rw [hW5]; exact (Ext.refl _).alloc _
    have HW5 : Hid (w4.alloc (.cells #[.string ⟨cert0.id.toArray⟩, .string ⟨cert0.dig.toArray⟩, .int .i64 cert0.ver, .slice pa2 cert0.prf.length pc2, .slice oa2 cert0.old.length oc2, .slice na2 cert0.now.length nc2] 25) = W5) := hW5.symm
    replace HX := Lib.hid (HX.out.trans x1); replace HC := Lib.hid (HC.out.ext x1); replace HIN := Lib.hid (HIN.out.ext x1); replace HL := Lib.hid (HL.out.ext x1); replace q0 := x1.cell q0; replace q1 := x1.cell q1; replace q2 := x1.cell q2; replace q3 := x1.cell q3; replace q4 := x1.cell q4; replace q5 := x1.cell q5
    clear x1 hW5 hin2
    go_upto_region 6 with fail
    rw [HW5.out]
    clear HW5
    generalize w4.heap.size = b4 at *
    go_wp2_with fail
    refine (RUsable_any x _ W5 ⟨pa, pc, oa, oc, na, nc, rfl, HIN.out⟩ HS.out).mono ?_
    rintro r w6 ⟨rfl, x1⟩
    rw [HU.out]
    replace HX := Lib.hid (HX.out.trans x1); replace HC := Lib.hid (HC.out.ext x1); replace HIN := Lib.hid (HIN.out.ext x1); replace HL := Lib.hid (HL.out.ext x1); replace q0 := x1.cell q0; replace q1 := x1.cell q1; replace q2 := x1.cell q2; replace q3 := x1.cell q3; replace q4 := x1.cell q4; replace q5 := x1.cell q5
    clear x1
    go_wp2_with fail
    refine (RUsable_any x _ w6 ⟨pa, pc, oa, oc, na, nc, rfl, HIN.out⟩ HS.out).mono ?_
    rintro r w8 ⟨rfl, x1⟩
    rw [HU.out]
    replace HX := Lib.hid (HX.out.trans x1); replace HC := Lib.hid (HC.out.ext x1); replace HIN := Lib.hid (HIN.out.ext x1); replace HL := Lib.hid (HL.out.ext x1); replace q0 := x1.cell q0; replace q1 := x1.cell q1; replace q2 := x1.cell q2; replace q3 := x1.cell q3; replace q4 := x1.cell q4; replace q5 := x1.cell q5
    clear x1 q0 q1 q2 q3 q4 q5
    go_wp2_with fail
    refine (CParse_any t w8 (by have := HG.out; omega) (by have h1 := HG.out; have h2 : t.count 10 ≤ t.length := List.count_le_length; omega) HL.out.ws HL.out.p).mono ?_
    rintro r w9 ⟨x1, hq⟩
    replace HX := Lib.hid (HX.out.trans x1); replace HL := Lib.hid (HL.out.ext x1)
    clear x1
    rcases hq with ⟨_, v, rfl, hv⟩ | ⟨z, v, hz, rfl, hv⟩
    · obtain ⟨pa3, pc3, oa3, oc3, na3, nc3, rfl, hin3⟩ := hv
      unfold certCells
      obtain ⟨W10, hW10⟩ : ∃ W10, W10 = w9.alloc (.cells (certCells cert0 pa3 pc3 oa3 oc3 na3 nc3) 25) := ⟨_, rfl⟩
      have x1 : Ext w9 W10 := by rw [hW10]; exact (Ext.refl _).alloc _
      have hD : CertAt W10 w9.heap.size cert0 pa3 pc3 oa3 oc3 na3 nc3 := by rw [hW10]; exact heap_new _ _
      have HIN3 := Lib.hid (hin3.ext x1)
      have HW10 : Hid (w9.alloc (.cells #[.string ⟨cert0.id.toArray⟩, .string ⟨cert0.dig.toArray⟩, .int .i64 cert0.ver, .slice pa3 cert0.prf.length pc3, .slice oa3 cert0.old.length oc3, .slice na3 cert0.now.length nc3] 25) = W10) := hW10.symm
      replace HX := Lib.hid (HX.out.trans x1)
      obtain ⟨q0, q1, q2, q3, q4, q5⟩ := hD.cells
      clear x1 hW10 hD hin3
      go_upto_region 11 with fail
      rw [HW10.out]
      clear HW10
      go_wp2_with fail
      refine (RSameC_self cert0 _ _ W10 ⟨pa3, pc3, oa3, oc3, na3, nc3, rfl, HIN3.out⟩ (cert0_val _)).mono ?_
      rintro r w11 ⟨rfl, x1⟩
      replace HX := Lib.hid (HX.out.trans x1)
      clear x1
      go_wp2_with fail
      go_ret
      exact ⟨rfl, HX.out⟩
    · obtain ⟨pa3, pc3, oa3, oc3, na3, nc3, rfl, hin3⟩ := hv
      have HZ := Lib.hid hz
      unfold certCells
      obtain ⟨W10, hW10⟩ : ∃ W10, W10 = w9.alloc (.cells (certCells z pa3 pc3 oa3 oc3 na3 nc3) 25) := ⟨_, rfl⟩
      have x1 : Ext w9 W10 := by rw [hW10]; exact (Ext.refl _).alloc _
      have hD : CertAt W10 w9.heap.size z pa3 pc3 oa3 oc3 na3 nc3 := by rw [hW10]; exact heap_new _ _
      have HIN3 := Lib.hid (hin3.ext x1)
      have HW10 : Hid (w9.alloc (.cells #[.string ⟨z.id.toArray⟩, .string ⟨z.dig.toArray⟩, .int .i64 z.ver, .slice pa3 z.prf.length pc3, .slice oa3 z.old.length oc3, .slice na3 z.now.length nc3] 25) = W10) := hW10.symm
      replace HX := Lib.hid (HX.out.trans x1); replace HL := Lib.hid (HL.out.ext x1)
      obtain ⟨q0, q1, q2, q3, q4, q5⟩ := hD.cells
      clear x1 hW10 hD hin3 hz
      go_upto_region 11 with fail
      rw [HW10.out]
      clear HW10
      go_wp2_with fail
      refine (textR27 t z HZ.out (by have := HG.out; omega) _ W10 ⟨pa3, pc3, oa3, oc3, na3, nc3, rfl, HIN3.out⟩ HL.out).mono ?_
      rintro r w11 ⟨rfl, x1⟩
      replace HX := Lib.hid (HX.out.trans x1)
      clear x1
      go_wp2_with fail
      go_ret
      exact ⟨rfl, HX.out⟩
theorem CertificateRoundTrip_card (x : CertS) (s : ByteArray) (vx : Value) (w : World) (hx : CertV w vx x) (hs : s.size ≤ maxLen) (hT : LTab w) :
    Calls Tryd.prog 3 #[vx, .string s] w fun r w' => r = .returned (.bool true) ∧ Ext w w' := by
  have hm : maxLen ≤ 9223372036854775807 := by decide
  have hz : s.data.toList.length = s.size := Array.length_toList
  rw [bytes_list s]
  exact CertificateRoundTrip_any x s.data.toList vx w hx (by omega) hT
end Go.Proofs.YtoopoljchhdobaaDoor
