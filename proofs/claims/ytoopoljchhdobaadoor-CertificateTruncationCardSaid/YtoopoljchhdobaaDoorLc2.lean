/-
  The walk of the law CertificateTruncation. (Printed by gen_law27.py.)
-/
import Derived.Test.YtoopoljchhdobaaDoorOpenT
namespace Go.Proofs.YtoopoljchhdobaaDoor
open Go.RowKit

theorem take_bytes (u : List UInt8) (r : Nat) : ((⟨u.toArray⟩ : ByteArray).extract 0 r) = ⟨(u.take r).toArray⟩ := by
  apply ByteArray.ext; simp
theorem take_count (u : List UInt8) (r : Nat) : (u.take r).count 10 ≤ u.count 10 := (List.take_sublist r u).count_le 10
set_option maxRecDepth 100000 in
set_option maxHeartbeats 8000000 in
theorem CertificateTruncation_any (x : CertS) (c : Nat) (m : UInt8) (vx : Value) (w : World) (hx : CertV w vx x) (hc : c ≤ 65535) (hL : LTab w) :
    Calls Tryd.prog 4 #[vx, .int .u16 (c : Int), .int .u8 ((m.toNat : Nat) : Int)] w fun r w' => r = .returned (.bool true) ∧ Ext w w' := by
  obtain ⟨pa, pc, oa, oc, na, nc, rfl, hin⟩ := hx
  obtain ⟨W, hW⟩ : ∃ W, W = w.alloc (.cells (certCells x pa pc oa oc na nc) 25) := ⟨_, rfl⟩
  have hX : Ext w W := by rw [hW]; exact (Ext.refl _).alloc _
  have hC : CertAt W w.heap.size x pa pc oa oc na nc := by rw [hW]; exact heap_new _ _
  have HC := Lib.hid hC; have HX := Lib.hid hX; have HWE := Lib.hid hW; have HIN := Lib.hid (hin.ext hX); have HL := Lib.hid (hL.ext hX)
  obtain ⟨q0, q1, q2, q3, q4, q5⟩ := hC.cells
  clear hC hX hW hin hL
  unfold certCells at HWE ⊢
  go_enter Tryd.func4, Tryd.ntmps4
  go_upto_region 1 with fail
  rw [← HWE.out]
  clear HWE
  generalize w.heap.size = b at *
  go_wp2_with fail
  refine (headL W HL.out).mono ?_
  rintro r w1 ⟨rfl, x1⟩
  replace HX := Lib.hid (HX.out.trans x1); replace HC := Lib.hid (HC.out.ext x1); replace HIN := Lib.hid (HIN.out.ext x1); replace HL := Lib.hid (HL.out.ext x1); replace q0 := x1.cell q0; replace q1 := x1.cell q1; replace q2 := x1.cell q2; replace q3 := x1.cell q3; replace q4 := x1.cell q4; replace q5 := x1.cell q5
  clear x1
  go_wp2_with fail
  refine (RSmallC_any x _ w1 ⟨pa, pc, oa, oc, na, nc, rfl, HIN.out⟩).mono ?_
  rintro r w2 ⟨rfl, x1⟩
  replace HX := Lib.hid (HX.out.trans x1); replace HC := Lib.hid (HC.out.ext x1); replace HIN := Lib.hid (HIN.out.ext x1); replace HL := Lib.hid (HL.out.ext x1); replace q0 := x1.cell q0; replace q1 := x1.cell q1; replace q2 := x1.cell q2; replace q3 := x1.cell q3; replace q4 := x1.cell q4; replace q5 := x1.cell q5
  clear x1
  cases hs : smallC x with
  | false =>
    go_wp2_with fail
    go_ret
    exact ⟨rfl, HX.out⟩
  | true =>
  have HS := Lib.hid (smallC_parts hs)
  clear hs
  go_wp2_with fail
  refine (textL27 x HS.out _ w2 ⟨pa, pc, oa, oc, na, nc, rfl, HIN.out⟩ HL.out).mono ?_
  rintro r w3 ⟨rfl, x1⟩
  replace HX := Lib.hid (HX.out.trans x1); replace HL := Lib.hid (HL.out.ext x1)
  clear x1 q0 q1 q2 q3 q4 q5
  have htl := certText_small HS.out.len HS.out.prf
  have HTC := Lib.hid (small_count HS.out)
  by_cases hu : usableB x = true
  case neg =>
    have hnil : textC x = [] := by unfold textC; rw [if_neg hu]
    rw [hnil]
    clear hnil htl HTC hu
    go_wp2_with fail
    go_ret
    exact ⟨rfl, HX.out⟩
  have HPT : Hid (∀ m, m < (textC x).length → parseC ((textC x).take m) = none) := fun m hm => parse_take hu hm
  have HPM : Hid (∀ b, parseC (textC x ++ [b]) = none) := fun b => parse_more hu b
  have hne : textC x ≠ [] := text_ne hu
  clear hu HC HIN HS
  generalize textC x = u at *
  have hemp : u.isEmpty = false := by
    cases u with
    | nil => exact absurd rfl hne
    | cons _ _ => rfl
  have hemp2 : (u == []) = false := by simpa using hne
  have hlen : 0 < u.length := List.length_pos_iff.2 hne
  have hl0 : ¬ u.length = 0 := by omega
  have hcw : IntKind.i64.wrap (c : Int) = (c : Int) := by rw [IntKind.wrap_i64]; omega
  obtain ⟨rr, hrr⟩ : ∃ rr : Nat, c % u.length = rr := ⟨_, rfl⟩
  have hrl : rr < u.length := by rw [← hrr]; exact Nat.mod_lt _ hlen
  have hri : (c : Int) % (u.length : Int) = (rr : Int) := by rw [← hrr]; simp
  have i0 : (0 : Int) ≤ (rr : Int) := by omega
  have i1 : (rr : Int) ≤ (u.length : Int) := by omega
  have P1 := Lib.hid (HPT.out rr hrl)
  have HTK := Lib.hid (take_bytes u rr)
  clear hne hrr
  go_wp2_with fail
  rw [HTK.out]
  refine (CParse_any (u.take rr) w3 (by rw [List.length_take]; omega) (by have h1 := HTC.out; have h2 := take_count u rr; omega) HL.out.ws HL.out.p).mono ?_
  rintro r w4 ⟨x1, hq⟩
  obtain ⟨_, v, rfl, hv⟩ := hq.resolve_right (fun ⟨z, v, h, _⟩ => by rw [P1.out] at h; cases h)
  obtain ⟨pa2, pc2, oa2, oc2, na2, nc2, rfl, _⟩ := hv
  replace HX := Lib.hid (HX.out.trans x1); replace HL := Lib.hid (HL.out.ext x1)
  unfold certCells
  obtain ⟨W5, hW5⟩ : ∃ X, X = w4.alloc (.cells (certCells cert0 pa2 pc2 oa2 oc2 na2 nc2) 25) := ⟨_, rfl⟩
  have x2 : Ext w4 W5 := by rw [hW5]; exact (Ext.refl _).alloc _
  have HW5 : Hid (w4.alloc (.cells #[.string ⟨cert0.id.toArray⟩, .string ⟨cert0.dig.toArray⟩, .int .i64 cert0.ver, .slice pa2 cert0.prf.length pc2, .slice oa2 cert0.old.length oc2, .slice na2 cert0.now.length nc2] 25) = W5) := hW5.symm
  replace HX := Lib.hid (HX.out.trans x2); replace HL := Lib.hid (HL.out.ext x2)
  clear x1 x2 hW5 hq
  go_upto_region 8 with fail
  rw [HW5.out]
  clear HW5
  clear HTK P1 hri i0 i1
  have P2 := Lib.hid (HPM.out m)
  have hcv : (convert 35 9 (.slice (some ⟨W5.heap.size, 0, none⟩) 1 1)).run Tryd.prog (W5.alloc (.cells #[.int .u8 ((m.toNat : Nat) : Int)] 5)) = .ok (.string ⟨[m].toArray⟩) (W5.alloc (.cells #[.int .u8 ((m.toNat : Nat) : Int)] 5)) :=
    run_convert_bytes_back (P := Tryd.prog) (W5.alloc (.cells #[.int .u8 ((m.toNat : Nat) : Int)] 5)) 35 9 5 ⟨W5.heap.size, 0, none⟩ 1 [m] (by kernel_rfl) (by kernel_rfl) (by kernel_rfl) (fun j hj => by
      obtain rfl : j = 0 := by simp at hj; omega
      exact one_new W5 (.int .u8 ((m.toNat : Nat) : Int)) 5 0 _ rfl)
  have f1 : ¬ (9223372036854775807 < u.length + 1) := by omega
  have x5 : Ext W5 (W5.alloc (.cells #[.int .u8 ((m.toNat : Nat) : Int)] 5)) := (Ext.refl _).alloc _
  have HAP : Hid ((⟨u.toArray⟩ ++ ⟨[m].toArray⟩ : ByteArray) = ⟨(u ++ [m]).toArray⟩) := by unfold Hid; rw [ByteArray.mk_append_mk]
  replace HX := Lib.hid (HX.out.trans x5); replace HL := Lib.hid (HL.out.ext x5)
  clear x5
  go_wp2_with (rw [hcv])
  rw [HAP.out]
  refine (CParse_any (u ++ [m]) _ (by simp; omega) (by have h1 := HTC.out; rw [List.count_append]; have h2 : [m].count 10 ≤ [m].length := List.count_le_length; simp at h2; omega) HL.out.ws HL.out.p).mono ?_
  rintro r w6 ⟨x1, hq⟩
  obtain ⟨_, v, rfl, hv⟩ := hq.resolve_right (fun ⟨z, v, h, _⟩ => by rw [P2.out] at h; cases h)
  obtain ⟨pa2, pc2, oa2, oc2, na2, nc2, rfl, _⟩ := hv
  replace HX := Lib.hid (HX.out.trans x1); replace HL := Lib.hid (HL.out.ext x1)
  unfold certCells
  obtain ⟨W7, hW7⟩ : ∃ X, X = w6.alloc (.cells (certCells cert0 pa2 pc2 oa2 oc2 na2 nc2) 25) := ⟨_, rfl⟩
  have x2 : Ext w6 W7 := by rw [hW7]; exact (Ext.refl _).alloc _
  have HW7 : Hid (w6.alloc (.cells #[.string ⟨cert0.id.toArray⟩, .string ⟨cert0.dig.toArray⟩, .int .i64 cert0.ver, .slice pa2 cert0.prf.length pc2, .slice oa2 cert0.old.length oc2, .slice na2 cert0.now.length nc2] 25) = W7) := hW7.symm
  replace HX := Lib.hid (HX.out.trans x2); replace HL := Lib.hid (HL.out.ext x2)
  clear x1 x2 hW7 hq
  go_upto_region 9 with fail
  rw [HW7.out]
  clear HW7
  clear hcv HAP P2 f1
  obtain ⟨r1, hr1⟩ : ∃ r1, u.length = r1 + 1 := ⟨u.length - 1, by omega⟩
  have P3 := Lib.hid (HPT.out r1 (by omega))
  have HTK := Lib.hid (take_bytes u r1)
  have hw1 : (u.length : Int) - 1 = (r1 : Int) := by omega
  have i0 : (0 : Int) ≤ (r1 : Int) := by omega
  have i1 : (r1 : Int) ≤ (u.length : Int) := by omega
  have hr1l : r1 ≤ 600000 := by omega
  clear hr1
  go_wp2_with fail
  rw [HTK.out]
  refine (CParse_any (u.take r1) W7 (by rw [List.length_take]; omega) (by have h1 := HTC.out; have h2 := take_count u r1; omega) HL.out.ws HL.out.p).mono ?_
  rintro r w8 ⟨x1, hq⟩
  obtain ⟨_, v, rfl, hv⟩ := hq.resolve_right (fun ⟨z, v, h, _⟩ => by rw [P3.out] at h; cases h)
  obtain ⟨pa2, pc2, oa2, oc2, na2, nc2, rfl, _⟩ := hv
  replace HX := Lib.hid (HX.out.trans x1); replace HL := Lib.hid (HL.out.ext x1)
  unfold certCells
  obtain ⟨W9, hW9⟩ : ∃ X, X = w8.alloc (.cells (certCells cert0 pa2 pc2 oa2 oc2 na2 nc2) 25) := ⟨_, rfl⟩
  have x2 : Ext w8 W9 := by rw [hW9]; exact (Ext.refl _).alloc _
  have HW9 : Hid (w8.alloc (.cells #[.string ⟨cert0.id.toArray⟩, .string ⟨cert0.dig.toArray⟩, .int .i64 cert0.ver, .slice pa2 cert0.prf.length pc2, .slice oa2 cert0.old.length oc2, .slice na2 cert0.now.length nc2] 25) = W9) := hW9.symm
  replace HX := Lib.hid (HX.out.trans x2); replace HL := Lib.hid (HL.out.ext x2)
  clear x1 x2 hW9 hq
  go_upto_region 10 with fail
  rw [HW9.out]
  clear HW9
  go_wp2_with fail
  go_ret
  exact ⟨rfl, HX.out⟩
theorem CertificateTruncation_card (x : CertS) (c m : Int) (vx : Value) (w : World) (hx : CertV w vx x) (hc : (Lit.int .u16 c).wf = true) (hm : (Lit.int .u8 m).wf = true) (hT : LTab w) :
    Calls Tryd.prog 4 #[vx, .int .u16 c, .int .u8 m] w fun r w' => r = .returned (.bool true) ∧ Ext w w' := by
  have e1 : IntKind.u8.min = 0 := rfl
  have e2 : IntKind.u8.max = 255 := rfl
  have e3 : IntKind.u16.min = 0 := rfl
  have e4 : IntKind.u16.max = 65535 := rfl
  simp [Lit.wf, e1, e2] at hm
  simp [Lit.wf, e3, e4] at hc
  have h1 : m = (((UInt8.ofNat m.toNat).toNat : Nat) : Int) := by
    rw [UInt8.toNat_ofNat']; omega
  have h2 : c = ((c.toNat : Nat) : Int) := by omega
  rw [h1, h2]
  exact CertificateTruncation_any x c.toNat (UInt8.ofNat m.toNat) vx w hx (by omega) hT
end Go.Proofs.YtoopoljchhdobaaDoor
