/-
  The walk of the law CertificateMatching. (Printed by gen_law27m.py.)
-/
import Derived.Test.YtoopoljchhdobaaDoorOpenT
namespace Go.Proofs.YtoopoljchhdobaaDoor
open Go.RowKit

theorem top_len {e : E} (h : (e.size : Int) ≤ 100) : e.textTop.length ≤ 1000000 := by
  by_cases hw : e.wf = true
  · have := text_len e 40 (wf_deep hw)
    rw [E.textTop, if_pos hw]; omega
  · rw [E.textTop, if_neg hw]; simp
theorem smallE_parts {c : CondS} (h : smallE c 100 = true) : (c.hyp.size : Int) ≤ 100 ∧ (c.goal.size : Int) ≤ 100 ∧ c.id.length ≤ 200 := by
  unfold smallE at h
  simp only [Bool.and_eq_true, decide_eq_true_eq] at h
  exact ⟨h.1, h.2.1, h.2.2⟩
def swapS (d : List UInt8) (k : Nat) (y : UInt8) : List UInt8 := d.take k ++ [y] ++ d.drop (k + 1)
theorem swap_get {d : List UInt8} {k : Nat} (h : k < d.length) (y : UInt8) : (swapS d k y)[k]? = some y := by
  unfold swapS
  rw [List.append_assoc, List.getElem?_append_right (by simp; omega)]
  simp [Nat.min_eq_left (Nat.le_of_lt h)]
theorem swap_two {d : List UInt8} {k : Nat} (h : k < d.length) (e : swapS d k 48 = d) : swapS d k 49 ≠ d := fun f => by
  have h1 := swap_get h 48
  have h2 := swap_get h 49
  rw [e] at h1; rw [f, h1] at h2
  cases h2
theorem swap_bytes (d : List UInt8) (k : Nat) (y : UInt8) : (((⟨d.toArray⟩ : ByteArray).extract 0 k ++ ⟨#[y]⟩) ++ (⟨d.toArray⟩ : ByteArray).extract (k + 1) d.length) = ⟨(swapS d k y).toArray⟩ := by
  apply ByteArray.ext
  simp [swapS, List.extract_eq_take_drop]
  rw [List.take_of_length_le]
  simp
theorem append_ne (l : List UInt8) (y : UInt8) : l ++ [y] ≠ l := fun h => by
  have := congrArg List.length h
  simp at this
theorem dig_len {a b : E} (h : digE a b ≠ []) : (digE a b).length = 16 := by
  unfold digE at h ⊢
  split
  · rename_i hq; rw [if_pos hq] at h; exact absurd rfl h
  · unfold digestS; exact hexLow_len 16 _
def withID (x : CertS) (i : List UInt8) : CertS := { x with id := i }
def withDig (x : CertS) (d : List UInt8) : CertS := { x with dig := d }
theorem certIn_id {w : World} {x : CertS} {pa : Option Addr} {pc : Nat} {oa : Option Addr} {oc : Nat} {na : Option Addr} {nc : Nat} (h : CertIn w x pa pc oa oc na nc) (i d : List UInt8) : CertIn w (withDig (withID x i) d) pa pc oa oc na nc := h
theorem putID {w : World} {b : Nat} {x : CertS} {pa : Option Addr} {pc : Nat} {oa : Option Addr} {oc : Nat} {na : Option Addr} {nc : Nat} (h : CertAt w b x pa pc oa oc na nc) (i : List UInt8) : CertAt (w.setCell ⟨b, 0, none⟩ (.string ⟨i.toArray⟩)) b (withID x i) pa pc oa oc na nc := heap_setCell_same w b 0 _ _ (.string ⟨i.toArray⟩) h
theorem putDig {w : World} {b : Nat} {x : CertS} {pa : Option Addr} {pc : Nat} {oa : Option Addr} {oc : Nat} {na : Option Addr} {nc : Nat} (h : CertAt w b x pa pc oa oc na nc) (i : List UInt8) : CertAt (w.setCell ⟨b, 1, none⟩ (.string ⟨i.toArray⟩)) b (withDig x i) pa pc oa oc na nc := heap_setCell_same w b 1 _ _ (.string ⟨i.toArray⟩) h
theorem CertAt.other {w : World} {b k i : Nat} {v : Value} {x : CertS} {pa : Option Addr} {pc : Nat} {oa : Option Addr} {oc : Nat} {na : Option Addr} {nc : Nat} (h : CertAt w b x pa pc oa oc na nc) (hne : b ≠ k) : CertAt (w.setCell ⟨k, i, none⟩ v) b x pa pc oa oc na nc := (heap_setCell_other w ⟨k, i, none⟩ b v hne).trans h
theorem CondAt.other {w : World} {b k i : Nat} {v : Value} {c : CondS} {ha : Option Addr} {hl hc : Nat} {ga : Option Addr} {gl gc : Nat} (h : CondAt w b c ha hl hc ga gl gc) (hne : b ≠ k) : CondAt (w.setCell ⟨k, i, none⟩ v) b c ha hl hc ga gl gc := (heap_setCell_other w ⟨k, i, none⟩ b v hne).trans h
def condID (c : CondS) (i : List UInt8) : CondS := { c with id := i }
theorem putCID {w : World} {b : Nat} {c : CondS} {ha : Option Addr} {hl hc : Nat} {ga : Option Addr} {gl gc : Nat} (h : CondAt w b c ha hl hc ga gl gc) (i : List UInt8) : CondAt (w.setCell ⟨b, 0, none⟩ (.string ⟨i.toArray⟩)) b (condID c i) ha hl hc ga gl gc := heap_setCell_same w b 0 _ _ (.string ⟨i.toArray⟩) h

set_option maxRecDepth 100000 in
set_option maxHeartbeats 8000000 in
theorem CertificateMatching_any (x : CertS) (c : CondS) (m : Nat) (vx vc : Value) (w : World) (hx : CertV w vx x) (hc : CondV w vc c) (hm : m ≤ 255) (hL : LTab w) :
    Calls Tryd.prog 6 #[vx, vc, .int .u8 (m : Int)] w fun r w' => r = .returned (.bool true) ∧ Ext w w' := by
  obtain ⟨pa, pc, oa, oc, na, nc, rfl, hin⟩ := hx
  obtain ⟨ha, hl, hcc, ga, gl, gc, rfl, he1, he2⟩ := hc
  obtain ⟨W, hW⟩ : ∃ W, W = (w.alloc (.cells (certCells x pa pc oa oc na nc) 25)).alloc (.cells (condCells c ha hl hcc ga gl gc) 45) := ⟨_, rfl⟩
  have hX : Ext w W := by rw [hW]; exact ((Ext.refl _).alloc _).alloc _
  have hC : CertAt W w.heap.size x pa pc oa oc na nc := by rw [hW]; exact (heap_alloc_old _ _ (by simp)).trans (heap_new _ _)
  have hD : CondAt W (w.heap.size + 1) c ha hl hcc ga gl gc := by
    have := heap_new (w.alloc (.cells (certCells x pa pc oa oc na nc) 25)) (.cells (condCells c ha hl hcc ga gl gc) 45)
    rw [World.size_alloc] at this; rw [hW]; exact this
  have HC := Lib.hid hC; have HD := Lib.hid hD; have HX := Lib.hid hX; have HWE := Lib.hid hW; have HIN := Lib.hid hin; have HE1 := Lib.hid he1; have HE2 := Lib.hid he2; have HL := Lib.hid hL
  have HB : Hid (w.heap.size ≤ w.heap.size) := Nat.le_refl _
  clear hC hD hX hW hin he1 he2 hL
  unfold certCells condCells at HWE
  unfold certCells condCells
  go_enter Tryd.func6, Tryd.ntmps6
  go_upto_region 1 with fail
  rw [← HWE.out]
  clear HWE
  obtain ⟨b, hb⟩ : ∃ b, b = w.heap.size := ⟨_, rfl⟩
  rw [← hb] at HC HD ⊢
  have HB : Hid (w.heap.size ≤ b) := by unfold Hid; omega
  clear hb
  go_wp2_with fail
  refine (headL W (HL.out.ext HX.out)).mono ?_
  rintro r w1 ⟨rfl, x1⟩
  replace HX := Lib.hid (HX.out.trans x1); replace HC := Lib.hid (HC.out.ext x1); replace HD := Lib.hid (HD.out.ext x1)
  clear x1
  obtain ⟨q0, q1, q2, q3, q4, q5⟩ := HC.out.cells
  go_wp2_with fail
  refine (RSmallC_any x _ w1 ⟨pa, pc, oa, oc, na, nc, rfl, HIN.out.ext HX.out⟩).mono ?_
  rintro r w2 ⟨rfl, x1⟩
  replace HX := Lib.hid (HX.out.trans x1); replace HC := Lib.hid (HC.out.ext x1); replace HD := Lib.hid (HD.out.ext x1)
  clear x1 q0 q1 q2 q3 q4 q5
  cases hs : smallC x with
  | false =>
    go_wp2_with fail
    go_ret
    exact ⟨rfl, HX.out⟩
  | true =>
  clear hs
  obtain ⟨p0, p1, p2, p3, p4, p5, p6, p7, p8, p9, p10, p11, p12, p13⟩ := HD.out.all
  go_wp2_with fail
  refine (small27_any c _ 100 w2 ⟨ha, hl, hcc, ga, gl, gc, rfl, HE1.out.ext HX.out, HE2.out.ext HX.out⟩ (by decide) (by decide)).mono ?_
  rintro r w3 ⟨rfl, x1⟩
  replace HX := Lib.hid (HX.out.trans x1); replace HC := Lib.hid (HC.out.ext x1); replace HD := Lib.hid (HD.out.ext x1)
  clear x1 p0 p1 p2 p3 p4 p5 p6 p7 p8 p9 p10 p11 p12 p13
  cases hs : smallE c 100 with
  | false =>
    go_wp2_with fail
    go_ret
    exact ⟨rfl, HX.out⟩
  | true =>
  have HT1 := Lib.hid (top_len (smallE_parts hs).1)
  have HT2 := Lib.hid (top_len (smallE_parts hs).2.1)
  have hidl := (smallE_parts hs).2.2
  clear hs
  obtain ⟨d, hd⟩ : ∃ d, d = digE c.hyp c.goal := ⟨_, rfl⟩
  have HDG := Lib.hid hd
  clear hd
  have HMT : Hid (∀ (y : CertS) (e : CondS) (vy ve : Value) (w' : World), CertV w' vy y → CondV w' ve e → e.hyp = c.hyp → e.goal = c.goal → Ext w w' → Calls Tryd.prog 18 #[vy, ve] w' fun r w2 => r = .returned (.bool (decide (d ≠ []) && (decide (y.id = e.id) && decide (y.dig = d)))) ∧ Ext w' w2) := fun y e vy ve w' h1 h2 h3 h4 h5 => by
    have := Matches_any y e vy ve w' h1 h2 (by rw [h3]; exact HT1.out) (by rw [h4]; exact HT2.out) (HL.out.ext h5).c
    unfold matchB at this
    rw [h3, h4, ← HDG.out] at this
    exact this
  obtain ⟨p0, p1, p2, p3, p4, p5, p6, p7, p8, p9, p10, p11, p12, p13⟩ := HD.out.all
  go_wp2_with fail
  refine (Digest_any c _ w3 ⟨ha, hl, hcc, ga, gl, gc, rfl, HE1.out.ext HX.out, HE2.out.ext HX.out⟩ HT1.out HT2.out (HL.out.ext HX.out).c.masks (HL.out.ext HX.out).c.names (HL.out.ext HX.out).c.pow (HL.out.ext HX.out).c.deb).mono ?_
  rintro r w4 ⟨rfl, x1⟩
  rw [← HDG.out]
  replace HX := Lib.hid (HX.out.trans x1); replace HC := Lib.hid (HC.out.ext x1); replace HD := Lib.hid (HD.out.ext x1)
  clear x1 p0 p1 p2 p3 p4 p5 p6 p7 p8 p9 p10 p11 p12 p13
  obtain ⟨q0, q1, q2, q3, q4, q5⟩ := HC.out.cells
  obtain ⟨p0, p1, p2, p3, p4, p5, p6, p7, p8, p9, p10, p11, p12, p13⟩ := HD.out.all
  have f0 := frozen_of_row w4 b 0 _ _ HC.out
  have f1 := frozen_of_row w4 b 1 _ _ HC.out
  go_upto_region 6 with fail
  obtain ⟨W5, hW5⟩ : ∃ V, V = (w4.setCell ⟨b, 0, none⟩ (.string ⟨c.id.toArray⟩)).setCell ⟨b, 1, none⟩ (.string ⟨d.toArray⟩) := ⟨_, rfl⟩
  rw [← hW5]
  replace HX : Hid (Ext w W5) := by unfold Hid; rw [hW5]; exact (HX.out.setCell (p := ⟨b, 0, none⟩) HB.out _).setCell (p := ⟨b, 1, none⟩) HB.out _
  replace HC : Hid (CertAt W5 b (withDig (withID x c.id) d) pa pc oa oc na nc) := by unfold Hid; rw [hW5]; exact putDig (putID HC.out c.id) d
  replace HD : Hid (CondAt W5 (b + 1) c ha hl hcc ga gl gc) := by unfold Hid; rw [hW5]; exact (HD.out.other (by omega)).other (by omega)
  clear hW5 f0 f1 p0 p1 p2 p3 p4 p5 p6 p7 p8 p9 p10 p11 p12 p13 q0 q1 q2 q3 q4 q5
  obtain ⟨q0, q1, q2, q3, q4, q5⟩ := HC.out.cells
  obtain ⟨p0, p1, p2, p3, p4, p5, p6, p7, p8, p9, p10, p11, p12, p13⟩ := HD.out.all
  replace HIN : Hid (CertIn w (withDig (withID x c.id) d) pa pc oa oc na nc) := HIN.out
  have hxi : (withDig (withID x c.id) d).id = c.id := rfl
  have hxd : (withDig (withID x c.id) d).dig = d := rfl
  rw [hxi] at q0
  rw [hxd] at q1
  have HXI := Lib.hid hxi; have HXD := Lib.hid hxd
  clear hxi hxd
  generalize withDig (withID x c.id) d = y at *
  have VY : Hid (∀ w', Ext w w' → CertV w' (.agg #[.string ⟨c.id.toArray⟩, .string ⟨d.toArray⟩, .int .i64 y.ver, .slice pa y.prf.length pc, .slice oa y.old.length oc, .slice na y.now.length nc]) y) := fun w' he => ⟨pa, pc, oa, oc, na, nc, by unfold certCells; rw [HXI.out, HXD.out], HIN.out.ext he⟩
  have VCC : Hid (∀ w', Ext w w' → CondV w' (.agg (condCells c ha hl hcc ga gl gc)) c) := fun w' he => ⟨ha, hl, hcc, ga, gl, gc, rfl, HE1.out.ext he, HE2.out.ext he⟩
  by_cases hdn : d = []
  · subst hdn
    go_wp2_with fail
    refine (HMT.out y c _ _ W5 (VY.out _ HX.out) (VCC.out _ HX.out) rfl rfl HX.out).mono ?_
    rintro r w6 ⟨rfl, x1⟩
    replace HX := Lib.hid (HX.out.trans x1)
    rw [show (decide (([] : List UInt8) ≠ []) && (decide (y.id = c.id) && decide (y.dig = []))) = false from rfl]
    clear x1 p0 p1 p2 p3 p4 p5 p6 p7 p8 p9 p10 p11 p12 p13 q0 q1 q2 q3 q4 q5
    go_wp2_with fail
    go_ret
    exact ⟨rfl, HX.out⟩
  have hde : d.isEmpty = false := by cases d with
    | nil => exact absurd rfl hdn
    | cons _ _ => rfl
  have hdb : (d == []) = false := by simpa using hdn
  have hd16 : d.length = 16 := by rw [HDG.out]; exact dig_len (by rw [← HDG.out]; exact hdn)
  have HDN := Lib.hid (decide_eq_true (p := d ≠ []) hdn)
  clear hdn
  go_wp2_with fail
  refine (HMT.out y c _ _ W5 (VY.out _ HX.out) (VCC.out _ HX.out) rfl rfl HX.out).mono ?_
  rintro r w6 ⟨rfl, x1⟩
  rw [HDN.out, decide_eq_true (p := y.id = c.id) HXI.out, decide_eq_true (p := y.dig = d) HXD.out]
  replace HX := Lib.hid (HX.out.trans x1); replace HC := Lib.hid (HC.out.ext x1); replace HD := Lib.hid (HD.out.ext x1)
  simp only [Bool.and_true]
  clear x1 p0 p1 p2 p3 p4 p5 p6 p7 p8 p9 p10 p11 p12 p13 q0 q1 q2 q3 q4 q5
  obtain ⟨q0, q1, q2, q3, q4, q5⟩ := HC.out.cells
  obtain ⟨p0, p1, p2, p3, p4, p5, p6, p7, p8, p9, p10, p11, p12, p13⟩ := HD.out.all
  rw [HXI.out] at q0
  rw [HXD.out] at q1
  have HIDL := Lib.hid hidl
  have fx : ¬ (9223372036854775807 < c.id.length + 1) := by omega
  -- the copy y of the certificate: another ID
  go_upto_region 11 with fail
  obtain ⟨W7, hW7⟩ : ∃ V, V = w6.alloc (.cells #[.string ⟨c.id.toArray⟩, .string ⟨d.toArray⟩, .int .i64 y.ver, .slice pa y.prf.length pc, .slice oa y.old.length oc, .slice na y.now.length nc] 25) := ⟨_, rfl⟩
  rw [← hW7]
  have x1 : Ext w6 W7 := by rw [hW7]; exact (Ext.refl _).alloc _
  have HY0 : Hid (CertAt W7 w6.heap.size y pa pc oa oc na nc) := by
    unfold Hid CertAt certCells; rw [hW7, HXI.out, HXD.out]; exact heap_new _ _
  have HB2 : Hid (b + 1 < w6.heap.size) := (Array.getElem?_eq_some_iff.1 HD.out).1
  replace HX := Lib.hid (HX.out.trans x1); replace HC := Lib.hid (HC.out.ext x1); replace HD := Lib.hid (HD.out.ext x1)
  clear x1 hW7 p0 p1 p2 p3 p4 p5 p6 p7 p8 p9 p10 p11 p12 p13 q0 q1 q2 q3 q4 q5
  generalize w6.heap.size = by1 at *
  have hb2 := HB2.out
  obtain ⟨q0, _⟩ := HC.out.cells
  rw [HXI.out] at q0
  have e0 := HY0.out.cells.1
  have f0 := frozen_of_row W7 by1 0 _ _ HY0.out
  go_upto_region 12 with fail
  have HAP : Hid ((⟨c.id.toArray⟩ ++ ⟨#[120]⟩ : ByteArray) = ⟨(c.id ++ [120]).toArray⟩) := by unfold Hid; rw [show (⟨#[120]⟩ : ByteArray) = ⟨[120].toArray⟩ from rfl, ByteArray.mk_append_mk]
  rw [HAP.out]
  obtain ⟨W8, hW8⟩ : ∃ V, V = W7.setCell ⟨by1, 0, none⟩ (.string ⟨(c.id ++ [120]).toArray⟩) := ⟨_, rfl⟩
  rw [← hW8]
  replace HX : Hid (Ext w W8) := by unfold Hid; rw [hW8]; exact HX.out.setCell (p := ⟨by1, 0, none⟩) (by have := HB.out; show w.heap.size ≤ by1; omega) _
  replace HC : Hid (CertAt W8 b y pa pc oa oc na nc) := by unfold Hid; rw [hW8]; exact HC.out.other (by omega)
  replace HD : Hid (CondAt W8 (b + 1) c ha hl hcc ga gl gc) := by unfold Hid; rw [hW8]; exact HD.out.other (by omega)
  have HY : Hid (CertAt W8 by1 (withID y (c.id ++ [120])) pa pc oa oc na nc) := by unfold Hid; rw [hW8]; exact putID HY0.out _
  clear hW8 HY0 HAP q0 e0 f0
  -- the copy z: another digit
  obtain ⟨k, hk⟩ : ∃ k : Nat, m % 16 = k := ⟨_, rfl⟩
  have hk16 : k < 16 := by omega
  have hki : (m : Int) % 16 = (k : Int) := by omega
  have hmw : IntKind.i64.wrap (m : Int) = (m : Int) := by rw [IntKind.wrap_i64]; omega
  obtain ⟨q0, q1, q2, q3, q4, q5⟩ := HC.out.cells
  rw [HXI.out] at q0
  rw [HXD.out] at q1
  go_upto_region 14 with fail
  rw [hki]
  clear hki hmw hk
  obtain ⟨W9, hW9⟩ : ∃ V, V = W8.alloc (.cells #[.string ⟨c.id.toArray⟩, .string ⟨d.toArray⟩, .int .i64 y.ver, .slice pa y.prf.length pc, .slice oa y.old.length oc, .slice na y.now.length nc] 25) := ⟨_, rfl⟩
  rw [← hW9]
  have x1 : Ext W8 W9 := by rw [hW9]; exact (Ext.refl _).alloc _
  have HZ0 : Hid (CertAt W9 W8.heap.size y pa pc oa oc na nc) := by
    unfold Hid CertAt certCells; rw [hW9, HXI.out, HXD.out]; exact heap_new _ _
  have HB3 : Hid (by1 < W8.heap.size) := (Array.getElem?_eq_some_iff.1 HY.out).1
  replace HX := Lib.hid (HX.out.trans x1); replace HC := Lib.hid (HC.out.ext x1); replace HD := Lib.hid (HD.out.ext x1); replace HY := Lib.hid (HY.out.ext x1)
  clear x1 hW9 q0 q1 q2 q3 q4 q5
  generalize W8.heap.size = bz at *
  have hb3 := HB3.out
  obtain ⟨u1, hu1⟩ : ∃ u1, u1 = d.take k := ⟨_, rfl⟩
  obtain ⟨u2, hu2⟩ : ∃ u2, u2 = d.drop (k + 1) := ⟨_, rfl⟩
  have hx1 : ((⟨d.toArray⟩ : ByteArray).extract 0 k) = ⟨u1.toArray⟩ := by rw [hu1]; apply ByteArray.ext; simp
  have hx2 : ((⟨d.toArray⟩ : ByteArray).extract (k + 1) 16) = ⟨u2.toArray⟩ := by
    rw [hu2]; apply ByteArray.ext; simp [List.extract_eq_take_drop]
    rw [List.take_of_length_le]; simp; omega
  have hl1 : u1.length ≤ 16 := by rw [hu1]; simp; omega
  have hl2 : u2.length ≤ 16 := by rw [hu2]; simp; omega
  have HSW : Hid (∀ v : UInt8, (⟨u1.toArray⟩ ++ ⟨#[v]⟩ ++ ⟨u2.toArray⟩ : ByteArray) = ⟨(swapS d k v).toArray⟩) := fun v => by
    rw [show (⟨#[v]⟩ : ByteArray) = ⟨[v].toArray⟩ from rfl, ByteArray.mk_append_mk, ByteArray.mk_append_mk, hu1, hu2]; rfl
  have HS2 : Hid (swapS d k 48 = d → swapS d k 49 ≠ d) := swap_two (by omega)
  have i0 : (0 : Int) ≤ (k : Int) := by omega
  have i1 : (k : Int) ≤ 16 := by omega
  have i2 : (0 : Int) ≤ (k : Int) + 1 := by omega
  have i3 : (k : Int) + 1 ≤ 16 := by omega
  have g1 : ¬ (9223372036854775807 < u1.length + 1) := by omega
  have g2 : ¬ (9223372036854775807 < u1.length + 1 + u2.length) := by omega
  have e1 := HZ0.out.cells.2.1
  have f1 := frozen_of_row W9 bz 1 _ _ HZ0.out
  clear hu1 hu2
  go_region
  rw [HSW.out 48]
  obtain ⟨WA, hWA⟩ : ∃ V, V = (W9.setCell ⟨bz, 1, none⟩ (.string ⟨(swapS d k 48).toArray⟩)).drew := ⟨_, rfl⟩
  rw [← hWA]
  have hdr : ∀ V : World, Ext V V.drew := fun V => (Ext.refl V).drew
  replace HX : Hid (Ext w WA) := by unfold Hid; rw [hWA]; exact (HX.out.setCell (p := ⟨bz, 1, none⟩) (by have := HB.out; show w.heap.size ≤ bz; omega) _).trans (hdr _)
  replace HC : Hid (CertAt WA b y pa pc oa oc na nc) := by unfold Hid; rw [hWA]; exact (HC.out.other (by omega)).ext (hdr _)
  replace HD : Hid (CondAt WA (b + 1) c ha hl hcc ga gl gc) := by unfold Hid; rw [hWA]; exact (HD.out.other (by omega)).ext (hdr _)
  replace HY : Hid (CertAt WA by1 (withID y (c.id ++ [120])) pa pc oa oc na nc) := by unfold Hid; rw [hWA]; exact (HY.out.other (by omega)).ext (hdr _)
  have HZ : Hid (CertAt WA bz (withDig y (swapS d k 48)) pa pc oa oc na nc) := by unfold Hid; rw [hWA]; exact (putDig HZ0.out _).ext (hdr _)
  clear hWA HZ0 e1 f1 hdr
  have e1 : WA.cell? ⟨bz, 1, none⟩ = some (.string ⟨(swapS d k 48).toArray⟩) := HZ.out.cells.2.1
  by_cases hsw : swapS d k 48 = d
  · have HNE := Lib.hid (decide_eq_false (p := swapS d k 49 = d) (HS2.out hsw))
    have hsb : (swapS d k 48 == d) = true := by rw [hsw]; simp
    have hsb2 : (d == swapS d k 48) = true := by rw [hsw]; simp
    have f1 := frozen_of_row WA bz 1 _ _ HZ.out
    clear hsw
    go_upto_region 16 with fail
    go_region
    rw [HSW.out 49]
    obtain ⟨WB, hWB⟩ : ∃ V, V = (WA.setCell ⟨bz, 1, none⟩ (.string ⟨(swapS d k 49).toArray⟩)).drew := ⟨_, rfl⟩
    rw [← hWB]
    have hdr : ∀ V : World, Ext V V.drew := fun V => (Ext.refl V).drew
    replace HX : Hid (Ext w WB) := by unfold Hid; rw [hWB]; exact (HX.out.setCell (p := ⟨bz, 1, none⟩) (by have := HB.out; show w.heap.size ≤ bz; omega) _).trans (hdr _)
    replace HC : Hid (CertAt WB b y pa pc oa oc na nc) := by unfold Hid; rw [hWB]; exact (HC.out.other (by omega)).ext (hdr _)
    replace HD : Hid (CondAt WB (b + 1) c ha hl hcc ga gl gc) := by unfold Hid; rw [hWB]; exact (HD.out.other (by omega)).ext (hdr _)
    replace HY : Hid (CertAt WB by1 (withID y (c.id ++ [120])) pa pc oa oc na nc) := by unfold Hid; rw [hWB]; exact (HY.out.other (by omega)).ext (hdr _)
    replace HZ : Hid (CertAt WB bz (withDig y (swapS d k 49)) pa pc oa oc na nc) := by unfold Hid; rw [hWB]; exact (putDig HZ.out _).ext (hdr _)
    clear hWB e1 f1 hdr HS2 HSW i0 i1 i2 i3 g1 g2 hx1 hx2 hsb hsb2
    generalize swapS d k 49 = zd at *
    generalize WB = W10 at *
    go_upto_region 17 with fail
    obtain ⟨p0, p1, p2, p3, p4, p5, p6, p7, p8, p9, p10, p11, p12, p13⟩ := HD.out.all
    have fx2 : ¬ (9223372036854775807 < c.id.length + 1) := fx
    -- the copy of the condition: another ID
    go_upto_region 18 with fail
    obtain ⟨W11, hW11⟩ : ∃ V, V = W10.alloc (.cells (condCells c ha hl hcc ga gl gc) 45) := ⟨_, rfl⟩
    have hW11' : W10.alloc (.cells #[.string ⟨c.id.toArray⟩, .int .i64 c.k1, .int .i64 c.k2, .int .i64 c.k3, .int .i64 c.k4, .int .i64 c.k5, .int .i64 c.hyp.op, .int .i64 c.hyp.wd, .int .i64 c.hyp.n, .slice ha hl hcc, .int .i64 c.goal.op, .int .i64 c.goal.wd, .int .i64 c.goal.n, .slice ga gl gc] 45) = W11 := hW11.symm
    rw [hW11']
    have x1 : Ext W10 W11 := by rw [hW11]; exact (Ext.refl _).alloc _
    have HD0 : Hid (CondAt W11 W10.heap.size c ha hl hcc ga gl gc) := by unfold Hid; rw [hW11]; exact heap_new _ _
    have HB4 : Hid (bz < W10.heap.size) := (Array.getElem?_eq_some_iff.1 HZ.out).1
    replace HX := Lib.hid (HX.out.trans x1); replace HC := Lib.hid (HC.out.ext x1); replace HD := Lib.hid (HD.out.ext x1); replace HY := Lib.hid (HY.out.ext x1); replace HZ := Lib.hid (HZ.out.ext x1)
    clear x1 hW11 hW11' p0 p1 p2 p3 p4 p5 p6 p7 p8 p9 p10 p11 p12 p13
    generalize W10.heap.size = bd at *
    have hb4 := HB4.out
    have p0 := HD.out.all.1
    have e0 := HD0.out.all.1
    have f0 := frozen_of_row W11 bd 0 _ _ HD0.out
    go_upto_region 19 with fail
    have HAP : Hid ((⟨c.id.toArray⟩ ++ ⟨#[47]⟩ : ByteArray) = ⟨(c.id ++ [47]).toArray⟩) := by unfold Hid; rw [show (⟨#[47]⟩ : ByteArray) = ⟨[47].toArray⟩ from rfl, ByteArray.mk_append_mk]
    rw [HAP.out]
    obtain ⟨W12, hW12⟩ : ∃ V, V = W11.setCell ⟨bd, 0, none⟩ (.string ⟨(c.id ++ [47]).toArray⟩) := ⟨_, rfl⟩
    rw [← hW12]
    replace HX : Hid (Ext w W12) := by unfold Hid; rw [hW12]; exact HX.out.setCell (p := ⟨bd, 0, none⟩) (by have := HB.out; show w.heap.size ≤ bd; omega) _
    replace HC : Hid (CertAt W12 b y pa pc oa oc na nc) := by unfold Hid; rw [hW12]; exact HC.out.other (by omega)
    replace HD : Hid (CondAt W12 (b + 1) c ha hl hcc ga gl gc) := by unfold Hid; rw [hW12]; exact HD.out.other (by omega)
    replace HY : Hid (CertAt W12 by1 (withID y (c.id ++ [120])) pa pc oa oc na nc) := by unfold Hid; rw [hW12]; exact HY.out.other (by omega)
    replace HZ : Hid (CertAt W12 bz (withDig y zd) pa pc oa oc na nc) := by unfold Hid; rw [hW12]; exact HZ.out.other (by omega)
    have HK : Hid (CondAt W12 bd (condID c (c.id ++ [47])) ha hl hcc ga gl gc) := by unfold Hid; rw [hW12]; exact putCID HD0.out _
    clear hW12 HD0 HAP p0 e0 f0
    -- the copy without a digest
    obtain ⟨q0, q1, q2, q3, q4, q5⟩ := HC.out.cells
    rw [HXI.out] at q0
    rw [HXD.out] at q1
    go_upto_region 20 with fail
    obtain ⟨W13, hW13⟩ : ∃ V, V = W12.alloc (.cells #[.string ⟨c.id.toArray⟩, .string ⟨d.toArray⟩, .int .i64 y.ver, .slice pa y.prf.length pc, .slice oa y.old.length oc, .slice na y.now.length nc] 25) := ⟨_, rfl⟩
    rw [← hW13]
    have x1 : Ext W12 W13 := by rw [hW13]; exact (Ext.refl _).alloc _
    have HV0 : Hid (CertAt W13 W12.heap.size y pa pc oa oc na nc) := by
      unfold Hid CertAt certCells; rw [hW13, HXI.out, HXD.out]; exact heap_new _ _
    have HB5 : Hid (bd < W12.heap.size) := (Array.getElem?_eq_some_iff.1 HK.out).1
    replace HX := Lib.hid (HX.out.trans x1); replace HC := Lib.hid (HC.out.ext x1); replace HD := Lib.hid (HD.out.ext x1); replace HY := Lib.hid (HY.out.ext x1); replace HZ := Lib.hid (HZ.out.ext x1); replace HK := Lib.hid (HK.out.ext x1)
    clear x1 hW13 q0 q1 q2 q3 q4 q5
    generalize W12.heap.size = bw at *
    have hb5 := HB5.out
    have e1 := HV0.out.cells.2.1
    have f1 := frozen_of_row W13 bw 1 _ _ HV0.out
    go_upto_region 21 with fail
    obtain ⟨W14, hW14⟩ : ∃ V, V = W13.setCell ⟨bw, 1, none⟩ (.string ⟨#[]⟩) := ⟨_, rfl⟩
    rw [← hW14]
    replace HX : Hid (Ext w W14) := by unfold Hid; rw [hW14]; exact HX.out.setCell (p := ⟨bw, 1, none⟩) (by have := HB.out; show w.heap.size ≤ bw; omega) _
    replace HC : Hid (CertAt W14 b y pa pc oa oc na nc) := by unfold Hid; rw [hW14]; exact HC.out.other (by omega)
    replace HD : Hid (CondAt W14 (b + 1) c ha hl hcc ga gl gc) := by unfold Hid; rw [hW14]; exact HD.out.other (by omega)
    replace HY : Hid (CertAt W14 by1 (withID y (c.id ++ [120])) pa pc oa oc na nc) := by unfold Hid; rw [hW14]; exact HY.out.other (by omega)
    replace HZ : Hid (CertAt W14 bz (withDig y zd) pa pc oa oc na nc) := by unfold Hid; rw [hW14]; exact HZ.out.other (by omega)
    replace HK : Hid (CondAt W14 bd (condID c (c.id ++ [47])) ha hl hcc ga gl gc) := by unfold Hid; rw [hW14]; exact HK.out.other (by omega)
    have HV : Hid (CertAt W14 bw (withDig y []) pa pc oa oc na nc) := by unfold Hid; rw [hW14]; exact putDig HV0.out []
    clear hW14 HV0 e1 f1
    -- the four calls
    have C1 := Lib.hid (Proofs.YtoopoljchhdobaaDoor.append_ne c.id 120)
    have C2 : Hid (c.id ≠ c.id ++ [47]) := fun e => append_ne c.id 47 e.symm
    obtain ⟨q0, q1, q2, q3, q4, q5⟩ := HY.out.cells
    obtain ⟨p0, p1, p2, p3, p4, p5, p6, p7, p8, p9, p10, p11, p12, p13⟩ := HD.out.all
    go_wp2_with fail
    refine (HMT.out (withID y (c.id ++ [120])) c _ _ W14 ⟨pa, pc, oa, oc, na, nc, rfl, HIN.out.ext HX.out⟩ (VCC.out _ HX.out) rfl rfl HX.out).mono ?_
    rintro r w15 ⟨rfl, x1⟩
    rw [decide_eq_false (p := (withID y (c.id ++ [120])).id = c.id) C1.out]
    simp only [Bool.false_and, Bool.and_false]
    replace HX := Lib.hid (HX.out.trans x1); replace HC := Lib.hid (HC.out.ext x1); replace HD := Lib.hid (HD.out.ext x1); replace HY := Lib.hid (HY.out.ext x1); replace HZ := Lib.hid (HZ.out.ext x1); replace HK := Lib.hid (HK.out.ext x1); replace HV := Lib.hid (HV.out.ext x1)
    clear x1 p0 p1 p2 p3 p4 p5 p6 p7 p8 p9 p10 p11 p12 p13 q0 q1 q2 q3 q4 q5
    obtain ⟨q0, q1, q2, q3, q4, q5⟩ := HZ.out.cells
    obtain ⟨p0, p1, p2, p3, p4, p5, p6, p7, p8, p9, p10, p11, p12, p13⟩ := HD.out.all
    go_wp2_with fail
    refine (HMT.out (withDig y zd) c _ _ w15 ⟨pa, pc, oa, oc, na, nc, rfl, HIN.out.ext HX.out⟩ (VCC.out _ HX.out) rfl rfl HX.out).mono ?_
    rintro r w16 ⟨rfl, x1⟩
    rw [show decide ((withDig y zd).dig = d) = false from HNE.out]
    simp only [Bool.and_false]
    replace HX := Lib.hid (HX.out.trans x1); replace HC := Lib.hid (HC.out.ext x1); replace HD := Lib.hid (HD.out.ext x1); replace HY := Lib.hid (HY.out.ext x1); replace HZ := Lib.hid (HZ.out.ext x1); replace HK := Lib.hid (HK.out.ext x1); replace HV := Lib.hid (HV.out.ext x1)
    clear x1 p0 p1 p2 p3 p4 p5 p6 p7 p8 p9 p10 p11 p12 p13 q0 q1 q2 q3 q4 q5
    obtain ⟨q0, q1, q2, q3, q4, q5⟩ := HC.out.cells
    obtain ⟨p0, p1, p2, p3, p4, p5, p6, p7, p8, p9, p10, p11, p12, p13⟩ := HK.out.all
    go_wp2_with fail
    refine (HMT.out y (condID c (c.id ++ [47])) _ _ w16 ⟨pa, pc, oa, oc, na, nc, rfl, HIN.out.ext HX.out⟩ ⟨ha, hl, hcc, ga, gl, gc, rfl, HE1.out.ext HX.out, HE2.out.ext HX.out⟩ rfl rfl HX.out).mono ?_
    rintro r w17 ⟨rfl, x1⟩
    rw [decide_eq_false (p := y.id = (condID c (c.id ++ [47])).id) (by rw [HXI.out]; exact C2.out)]
    simp only [Bool.false_and, Bool.and_false]
    replace HX := Lib.hid (HX.out.trans x1); replace HC := Lib.hid (HC.out.ext x1); replace HD := Lib.hid (HD.out.ext x1); replace HY := Lib.hid (HY.out.ext x1); replace HZ := Lib.hid (HZ.out.ext x1); replace HK := Lib.hid (HK.out.ext x1); replace HV := Lib.hid (HV.out.ext x1)
    clear x1 p0 p1 p2 p3 p4 p5 p6 p7 p8 p9 p10 p11 p12 p13 q0 q1 q2 q3 q4 q5
    obtain ⟨q0, q1, q2, q3, q4, q5⟩ := HV.out.cells
    obtain ⟨p0, p1, p2, p3, p4, p5, p6, p7, p8, p9, p10, p11, p12, p13⟩ := HD.out.all
    go_wp2_with fail
    refine (HMT.out (withDig y []) c _ _ w17 ⟨pa, pc, oa, oc, na, nc, rfl, HIN.out.ext HX.out⟩ (VCC.out _ HX.out) rfl rfl HX.out).mono ?_
    rintro r w18 ⟨rfl, x1⟩
    rw [decide_eq_false (p := (withDig y []).dig = d) (fun e => by have := HDN.out; rw [decide_eq_true_eq] at this; exact this e.symm)]
    simp only [Bool.and_false]
    replace HX := Lib.hid (HX.out.trans x1)
    clear x1 p0 p1 p2 p3 p4 p5 p6 p7 p8 p9 p10 p11 p12 p13 q0 q1 q2 q3 q4 q5
    go_wp2_with fail
    go_ret
    exact ⟨rfl, HX.out⟩
  · have HNE := Lib.hid (decide_eq_false (p := swapS d k 48 = d) hsw)
    have hsb : (swapS d k 48 == d) = false := by simpa using hsw
    have hsb2 : (d == swapS d k 48) = false := by simpa using fun e => hsw e.symm
    clear hsw HS2 HSW i0 i1 i2 i3 g1 g2 hx1 hx2
    go_upto_region 17 with fail
    clear e1 hsb hsb2
    generalize swapS d k 48 = zd at *
    generalize WA = W10 at *
    go_upto_region 17 with fail
    obtain ⟨p0, p1, p2, p3, p4, p5, p6, p7, p8, p9, p10, p11, p12, p13⟩ := HD.out.all
    have fx2 : ¬ (9223372036854775807 < c.id.length + 1) := fx
    -- the copy of the condition: another ID
    go_upto_region 18 with fail
    obtain ⟨W11, hW11⟩ : ∃ V, V = W10.alloc (.cells (condCells c ha hl hcc ga gl gc) 45) := ⟨_, rfl⟩
    have hW11' : W10.alloc (.cells #[.string ⟨c.id.toArray⟩, .int .i64 c.k1, .int .i64 c.k2, .int .i64 c.k3, .int .i64 c.k4, .int .i64 c.k5, .int .i64 c.hyp.op, .int .i64 c.hyp.wd, .int .i64 c.hyp.n, .slice ha hl hcc, .int .i64 c.goal.op, .int .i64 c.goal.wd, .int .i64 c.goal.n, .slice ga gl gc] 45) = W11 := hW11.symm
    rw [hW11']
    have x1 : Ext W10 W11 := by rw [hW11]; exact (Ext.refl _).alloc _
    have HD0 : Hid (CondAt W11 W10.heap.size c ha hl hcc ga gl gc) := by unfold Hid; rw [hW11]; exact heap_new _ _
    have HB4 : Hid (bz < W10.heap.size) := (Array.getElem?_eq_some_iff.1 HZ.out).1
    replace HX := Lib.hid (HX.out.trans x1); replace HC := Lib.hid (HC.out.ext x1); replace HD := Lib.hid (HD.out.ext x1); replace HY := Lib.hid (HY.out.ext x1); replace HZ := Lib.hid (HZ.out.ext x1)
    clear x1 hW11 hW11' p0 p1 p2 p3 p4 p5 p6 p7 p8 p9 p10 p11 p12 p13
    generalize W10.heap.size = bd at *
    have hb4 := HB4.out
    have p0 := HD.out.all.1
    have e0 := HD0.out.all.1
    have f0 := frozen_of_row W11 bd 0 _ _ HD0.out
    go_upto_region 19 with fail
    have HAP : Hid ((⟨c.id.toArray⟩ ++ ⟨#[47]⟩ : ByteArray) = ⟨(c.id ++ [47]).toArray⟩) := by unfold Hid; rw [show (⟨#[47]⟩ : ByteArray) = ⟨[47].toArray⟩ from rfl, ByteArray.mk_append_mk]
    rw [HAP.out]
    obtain ⟨W12, hW12⟩ : ∃ V, V = W11.setCell ⟨bd, 0, none⟩ (.string ⟨(c.id ++ [47]).toArray⟩) := ⟨_, rfl⟩
    rw [← hW12]
    replace HX : Hid (Ext w W12) := by unfold Hid; rw [hW12]; exact HX.out.setCell (p := ⟨bd, 0, none⟩) (by have := HB.out; show w.heap.size ≤ bd; omega) _
    replace HC : Hid (CertAt W12 b y pa pc oa oc na nc) := by unfold Hid; rw [hW12]; exact HC.out.other (by omega)
    replace HD : Hid (CondAt W12 (b + 1) c ha hl hcc ga gl gc) := by unfold Hid; rw [hW12]; exact HD.out.other (by omega)
    replace HY : Hid (CertAt W12 by1 (withID y (c.id ++ [120])) pa pc oa oc na nc) := by unfold Hid; rw [hW12]; exact HY.out.other (by omega)
    replace HZ : Hid (CertAt W12 bz (withDig y zd) pa pc oa oc na nc) := by unfold Hid; rw [hW12]; exact HZ.out.other (by omega)
    have HK : Hid (CondAt W12 bd (condID c (c.id ++ [47])) ha hl hcc ga gl gc) := by unfold Hid; rw [hW12]; exact putCID HD0.out _
    clear hW12 HD0 HAP p0 e0 f0
    -- the copy without a digest
    obtain ⟨q0, q1, q2, q3, q4, q5⟩ := HC.out.cells
    rw [HXI.out] at q0
    rw [HXD.out] at q1
    go_upto_region 20 with fail
    obtain ⟨W13, hW13⟩ : ∃ V, V = W12.alloc (.cells #[.string ⟨c.id.toArray⟩, .string ⟨d.toArray⟩, .int .i64 y.ver, .slice pa y.prf.length pc, .slice oa y.old.length oc, .slice na y.now.length nc] 25) := ⟨_, rfl⟩
    rw [← hW13]
    have x1 : Ext W12 W13 := by rw [hW13]; exact (Ext.refl _).alloc _
    have HV0 : Hid (CertAt W13 W12.heap.size y pa pc oa oc na nc) := by
      unfold Hid CertAt certCells; rw [hW13, HXI.out, HXD.out]; exact heap_new _ _
    have HB5 : Hid (bd < W12.heap.size) := (Array.getElem?_eq_some_iff.1 HK.out).1
    replace HX := Lib.hid (HX.out.trans x1); replace HC := Lib.hid (HC.out.ext x1); replace HD := Lib.hid (HD.out.ext x1); replace HY := Lib.hid (HY.out.ext x1); replace HZ := Lib.hid (HZ.out.ext x1); replace HK := Lib.hid (HK.out.ext x1)
    clear x1 hW13 q0 q1 q2 q3 q4 q5
    generalize W12.heap.size = bw at *
    have hb5 := HB5.out
    have e1 := HV0.out.cells.2.1
    have f1 := frozen_of_row W13 bw 1 _ _ HV0.out
    go_upto_region 21 with fail
    obtain ⟨W14, hW14⟩ : ∃ V, V = W13.setCell ⟨bw, 1, none⟩ (.string ⟨#[]⟩) := ⟨_, rfl⟩
    rw [← hW14]
    replace HX : Hid (Ext w W14) := by unfold Hid; rw [hW14]; exact HX.out.setCell (p := ⟨bw, 1, none⟩) (by have := HB.out; show w.heap.size ≤ bw; omega) _
    replace HC : Hid (CertAt W14 b y pa pc oa oc na nc) := by unfold Hid; rw [hW14]; exact HC.out.other (by omega)
    replace HD : Hid (CondAt W14 (b + 1) c ha hl hcc ga gl gc) := by unfold Hid; rw [hW14]; exact HD.out.other (by omega)
    replace HY : Hid (CertAt W14 by1 (withID y (c.id ++ [120])) pa pc oa oc na nc) := by unfold Hid; rw [hW14]; exact HY.out.other (by omega)
    replace HZ : Hid (CertAt W14 bz (withDig y zd) pa pc oa oc na nc) := by unfold Hid; rw [hW14]; exact HZ.out.other (by omega)
    replace HK : Hid (CondAt W14 bd (condID c (c.id ++ [47])) ha hl hcc ga gl gc) := by unfold Hid; rw [hW14]; exact HK.out.other (by omega)
    have HV : Hid (CertAt W14 bw (withDig y []) pa pc oa oc na nc) := by unfold Hid; rw [hW14]; exact putDig HV0.out []
    clear hW14 HV0 e1 f1
    -- the four calls
    have C1 := Lib.hid (Proofs.YtoopoljchhdobaaDoor.append_ne c.id 120)
    have C2 : Hid (c.id ≠ c.id ++ [47]) := fun e => append_ne c.id 47 e.symm
    obtain ⟨q0, q1, q2, q3, q4, q5⟩ := HY.out.cells
    obtain ⟨p0, p1, p2, p3, p4, p5, p6, p7, p8, p9, p10, p11, p12, p13⟩ := HD.out.all
    go_wp2_with fail
    refine (HMT.out (withID y (c.id ++ [120])) c _ _ W14 ⟨pa, pc, oa, oc, na, nc, rfl, HIN.out.ext HX.out⟩ (VCC.out _ HX.out) rfl rfl HX.out).mono ?_
    rintro r w15 ⟨rfl, x1⟩
    rw [decide_eq_false (p := (withID y (c.id ++ [120])).id = c.id) C1.out]
    simp only [Bool.false_and, Bool.and_false]
    replace HX := Lib.hid (HX.out.trans x1); replace HC := Lib.hid (HC.out.ext x1); replace HD := Lib.hid (HD.out.ext x1); replace HY := Lib.hid (HY.out.ext x1); replace HZ := Lib.hid (HZ.out.ext x1); replace HK := Lib.hid (HK.out.ext x1); replace HV := Lib.hid (HV.out.ext x1)
    clear x1 p0 p1 p2 p3 p4 p5 p6 p7 p8 p9 p10 p11 p12 p13 q0 q1 q2 q3 q4 q5
    obtain ⟨q0, q1, q2, q3, q4, q5⟩ := HZ.out.cells
    obtain ⟨p0, p1, p2, p3, p4, p5, p6, p7, p8, p9, p10, p11, p12, p13⟩ := HD.out.all
    go_wp2_with fail
    refine (HMT.out (withDig y zd) c _ _ w15 ⟨pa, pc, oa, oc, na, nc, rfl, HIN.out.ext HX.out⟩ (VCC.out _ HX.out) rfl rfl HX.out).mono ?_
    rintro r w16 ⟨rfl, x1⟩
    rw [show decide ((withDig y zd).dig = d) = false from HNE.out]
    simp only [Bool.and_false]
    replace HX := Lib.hid (HX.out.trans x1); replace HC := Lib.hid (HC.out.ext x1); replace HD := Lib.hid (HD.out.ext x1); replace HY := Lib.hid (HY.out.ext x1); replace HZ := Lib.hid (HZ.out.ext x1); replace HK := Lib.hid (HK.out.ext x1); replace HV := Lib.hid (HV.out.ext x1)
    clear x1 p0 p1 p2 p3 p4 p5 p6 p7 p8 p9 p10 p11 p12 p13 q0 q1 q2 q3 q4 q5
    obtain ⟨q0, q1, q2, q3, q4, q5⟩ := HC.out.cells
    obtain ⟨p0, p1, p2, p3, p4, p5, p6, p7, p8, p9, p10, p11, p12, p13⟩ := HK.out.all
    go_wp2_with fail
    refine (HMT.out y (condID c (c.id ++ [47])) _ _ w16 ⟨pa, pc, oa, oc, na, nc, rfl, HIN.out.ext HX.out⟩ ⟨ha, hl, hcc, ga, gl, gc, rfl, HE1.out.ext HX.out, HE2.out.ext HX.out⟩ rfl rfl HX.out).mono ?_
    rintro r w17 ⟨rfl, x1⟩
    rw [decide_eq_false (p := y.id = (condID c (c.id ++ [47])).id) (by rw [HXI.out]; exact C2.out)]
    simp only [Bool.false_and, Bool.and_false]
    replace HX := Lib.hid (HX.out.trans x1); replace HC := Lib.hid (HC.out.ext x1); replace HD := Lib.hid (HD.out.ext x1); replace HY := Lib.hid (HY.out.ext x1); replace HZ := Lib.hid (HZ.out.ext x1); replace HK := Lib.hid (HK.out.ext x1); replace HV := Lib.hid (HV.out.ext x1)
    clear x1 p0 p1 p2 p3 p4 p5 p6 p7 p8 p9 p10 p11 p12 p13 q0 q1 q2 q3 q4 q5
    obtain ⟨q0, q1, q2, q3, q4, q5⟩ := HV.out.cells
    obtain ⟨p0, p1, p2, p3, p4, p5, p6, p7, p8, p9, p10, p11, p12, p13⟩ := HD.out.all
    go_wp2_with fail
    refine (HMT.out (withDig y []) c _ _ w17 ⟨pa, pc, oa, oc, na, nc, rfl, HIN.out.ext HX.out⟩ (VCC.out _ HX.out) rfl rfl HX.out).mono ?_
    rintro r w18 ⟨rfl, x1⟩
    rw [decide_eq_false (p := (withDig y []).dig = d) (fun e => by have := HDN.out; rw [decide_eq_true_eq] at this; exact this e.symm)]
    simp only [Bool.and_false]
    replace HX := Lib.hid (HX.out.trans x1)
    clear x1 p0 p1 p2 p3 p4 p5 p6 p7 p8 p9 p10 p11 p12 p13 q0 q1 q2 q3 q4 q5
    go_wp2_with fail
    go_ret
    exact ⟨rfl, HX.out⟩
theorem CertificateMatching_card (x : CertS) (c : CondS) (m : Int) (vx vc : Value) (w : World) (hx : CertV w vx x) (hc : CondV w vc c) (hm : (Lit.int .u8 m).wf = true) (hT : LTab w) :
    Calls Tryd.prog 6 #[vx, vc, .int .u8 m] w fun r w' => r = .returned (.bool true) ∧ Ext w w' := by
  have e1 : IntKind.u8.min = 0 := rfl
  have e2 : IntKind.u8.max = 255 := rfl
  simp [Lit.wf, e1, e2] at hm
  have h1 : m = ((m.toNat : Nat) : Int) := by omega
  rw [h1]
  exact CertificateMatching_any x c m.toNat vx vc w hx hc (by omega) hT
end Go.Proofs.YtoopoljchhdobaaDoor
