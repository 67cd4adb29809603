/-
  The walk of HintWeakest. Printed by gen_law32.py.
-/
import Derived.Test.YtlcgbdjmlnjhcaaGreatDoorG42
import Derived.Test.YtlcgbdjmlnjhcaaGreatDoorG41
namespace Go.Proofs.YtlcgbdjmlnjhcaaGreatDoor
open Go.RowKit
attribute [local go_sem] Oper.semAt_some

set_option maxRecDepth 100000 in
set_option maxHeartbeats 16000000 in
theorem HintWeakest_any (cells : List CellD) (c : CondS) (e : E) (kv cv ev : Value) (w : World) (hC : Cells w kv cells) (hc : CondV w cv c) (he : EVal w ev e) (hM : Masks w) (hN : Names w) (hP : Pow10 w) :
    Calls Tryz.prog 4 #[kv, cv, ev] w fun r w' => r = .returned (.bool true) ∧ Ext w w' := by
  have hcV := hc
  obtain ⟨ca1, ca2, ca3, ca4, ca5, ca6, rfl, _, _⟩ := hc
  have heV := he
  obtain ⟨e1, e3, rfl, _⟩ := he.shape'
  obtain ⟨e2, he2⟩ : ∃ n, e.kids.length = n := ⟨_, rfl⟩
  rw [he2] at heV ⊢
  clear he2
  obtain ⟨ka, kc, rfl⟩ := SliceAt.shape hC
  have hkl := SliceAt.len_le hC
  obtain ⟨W, hW⟩ : ∃ W, Boxes w W (.cells (condCells c ca1 ca2 ca3 ca4 ca5 ca6) 27) (.cells #[.int .i64 e.op, .int .i64 e.wd, .int .i64 e.n, .slice e1 e2 e3] 25) := ⟨_, Boxes.mk' _ _ _⟩
  have hx := hW.ext
  have HVc : Hid (CondAt W w.heap.size c ca1 ca2 ca3 ca4 ca5 ca6) := hW.b0
  have Hc := Lib.hid (hcV.ext hx)
  have HVe : Hid (VarE W (w.heap.size + 1) e.op e.wd e.n (.slice e1 e2 e3)) := hW.b1
  have He := Lib.hid (heV.ext hx)
  have HX := Lib.hid hx; have HC := Lib.hid (hC.ext hx); have HM := Lib.hid (hM.ext hx); have HN := Lib.hid (hN.ext hx); have HP := Lib.hid (hP.ext hx); have HW := Lib.hid hW.eq
  have HC0 := Lib.hid hC; have HM0 := Lib.hid hM; have Hc0 := Lib.hid hcV
  clear hW hx hM hN hP hC hcV heV he 
  unfold condCells at *
  go_enter Tryz.func4, Tryz.ntmps4
  go_upto_region 1 with fail
  rw [← HW.out]
  clear HW
  obtain ⟨be, hbe⟩ : ∃ b, b = w.heap.size + 1 := ⟨_, rfl⟩
  obtain ⟨bc, hbc⟩ : ∃ b, b = w.heap.size := ⟨_, rfl⟩
  have HBe : Hid (w.heap.size ≤ be) := by unfold Hid; omega
  have HNE : Hid (bc ≠ be) := by unfold Hid; omega
  rw [← hbe] at HVe ⊢
  rw [← hbc] at HVc ⊢
  clear hbe hbc
  go_wp2_with fail
  refine (head_any W HM.out HN.out HP.out).mono ?_
  rintro r wk1 ⟨rfl, x1⟩
  replace HX := Lib.hid (HX.out.trans x1); replace HC := Lib.hid (HC.out.ext x1); replace HM := Lib.hid (HM.out.ext x1); replace HVc := Lib.hid (HVc.out.ext x1); replace Hc := Lib.hid (Hc.out.ext x1); replace HVe := Lib.hid (HVe.out.ext x1); replace He := Lib.hid (He.out.ext x1)
  clear x1
  clear HN HP
  obtain ⟨qc0, qc1, qc2, qc3, qc4, qc5, qc6, qc7, qc8, qc9, qc10, qc11, qc12, qc13⟩ := HVc.out.all
  go_wp2_with fail
  refine (small32_any cells c _ _ _ HC.out Hc.out).mono ?_
  rintro r wk2 ⟨rfl, x1⟩
  replace HX := Lib.hid (HX.out.trans x1); replace HC := Lib.hid (HC.out.ext x1); replace HM := Lib.hid (HM.out.ext x1); replace HVc := Lib.hid (HVc.out.ext x1); replace Hc := Lib.hid (Hc.out.ext x1); replace HVe := Lib.hid (HVe.out.ext x1); replace He := Lib.hid (He.out.ext x1)
  clear x1 qc0 qc1 qc2 qc3 qc4 qc5 qc6 qc7 qc8 qc9 qc10 qc11 qc12 qc13
  cases hb1 : small32 cells c with
  | false =>
    clear hb1
    go_wp2_with fail
    exact bodyPost_ret (v := .bool true) (by simp [results, Tryz.results4, go_sem]) rfl ⟨rfl, by first | exact HX.out | exact HX.out.alloc _⟩
  | true =>
  have HS := Lib.hid (sm_of hb1)
  clear hb1
  obtain ⟨qe0, qe1, qe2, qe3⟩ := HVe.out.cells
  go_wp2_with fail
  refine (RSmall_any e _ _ 40 He.out (by omega) (by omega)).mono ?_
  rintro r wk3 ⟨rfl, x1⟩
  replace HX := Lib.hid (HX.out.trans x1); replace HC := Lib.hid (HC.out.ext x1); replace HM := Lib.hid (HM.out.ext x1); replace HVc := Lib.hid (HVc.out.ext x1); replace Hc := Lib.hid (Hc.out.ext x1); replace HVe := Lib.hid (HVe.out.ext x1); replace He := Lib.hid (He.out.ext x1)
  clear x1 qe0 qe1 qe2 qe3
  cases hb1 : decide ((e.size : Int) ≤ 40) with
  | false =>
    clear hb1
    go_wp2_with fail
    exact bodyPost_ret (v := .bool true) (by simp [results, Tryz.results4, go_sem]) rfl ⟨rfl, by first | exact HX.out | exact HX.out.alloc _⟩
  | true =>
  clear hb1
  obtain ⟨qe0, qe1, qe2, qe3⟩ := HVe.out.cells
  go_wp2_with fail
  refine (RValid_any e cells _ _ false _ He.out HC.out).mono ?_
  rintro r wk4 ⟨rfl, x1⟩
  replace HX := Lib.hid (HX.out.trans x1); replace HC := Lib.hid (HC.out.ext x1); replace HM := Lib.hid (HM.out.ext x1); replace HVc := Lib.hid (HVc.out.ext x1); replace Hc := Lib.hid (Hc.out.ext x1); replace HVe := Lib.hid (HVe.out.ext x1); replace He := Lib.hid (He.out.ext x1)
  clear x1 qe0 qe1 qe2 qe3
  cases hb1 : e.valid cells false with
  | false =>
    clear hb1
    go_wp2_with fail
    exact bodyPost_ret (v := .bool true) (by simp [results, Tryz.results4, go_sem]) rfl ⟨rfl, by first | exact HX.out | exact HX.out.alloc _⟩
  | true =>
  have HVL := Lib.hid hb1
  clear hb1
  by_cases hw1 : e.wd = 1
  case neg =>
    have hwb : (e.wd != 1) = true := by simp [hw1]
    obtain ⟨qe0, qe1, qe2, qe3⟩ := HVe.out.cells
    go_wp2_with fail
    exact bodyPost_ret (v := .bool true) (by simp [results, Tryz.results4, go_sem]) rfl ⟨rfl, by first | exact HX.out | exact HX.out.alloc _⟩
  obtain ⟨qe0, qe1, qe2, qe3⟩ := HVe.out.cells
  rw [hw1] at qe1
  have HW1 := Lib.hid hw1
  clear hw1
  obtain ⟨qc0, qc1, qc2, qc3, qc4, qc5, qc6, qc7, qc8, qc9, qc10, qc11, qc12, qc13⟩ := HVc.out.all
  go_wp2_with fail
  refine (Parts_s HS.out _ _ Hc.out).mono ?_
  rintro r wk5 ⟨⟨p1, p3, p4, p5, p6, rfl, hI⟩, x1⟩
  have HI := Lib.hid hI; clear hI
  obtain ⟨PL, hPL⟩ : ∃ PL, cP cells c.hyp c.goal = PL := ⟨_, rfl⟩
  rw [hPL] at HI ⊢
  have HPL := Lib.hid hPL
  clear hPL
  obtain ⟨sb, hsb⟩ : ∃ sb, stepB cells c.hyp c.goal = sb := ⟨_, rfl⟩
  rw [hsb]
  have HSB := Lib.hid hsb
  clear hsb
  replace HX := Lib.hid (HX.out.trans x1); replace HC := Lib.hid (HC.out.ext x1); replace HM := Lib.hid (HM.out.ext x1); replace HVc := Lib.hid (HVc.out.ext x1); replace Hc := Lib.hid (Hc.out.ext x1); replace HVe := Lib.hid (HVe.out.ext x1); replace He := Lib.hid (He.out.ext x1)
  clear x1 qe0 qe1 qe2 qe3 qc0 qc1 qc2 qc3 qc4 qc5 qc6 qc7 qc8 qc9 qc10 qc11 qc12 qc13
  obtain ⟨qe0, qe1, qe2, qe3⟩ := HVe.out.cells
  go_wp2_with fail
  refine (RSupport_any e _ _ He.out).mono ?_
  rintro r wk6 ⟨⟨v1, v2, rfl, i1, i2⟩, x1⟩
  obtain ⟨o1, o3, rfl⟩ := SliceAt.shape i1
  obtain ⟨n1, n3, rfl⟩ := SliceAt.shape i2
  have HSu := Lib.hid i2; clear i1 i2
  obtain ⟨SU, hSU⟩ : ∃ SU, e.supNow = SU := ⟨_, rfl⟩
  rw [hSU] at HSu ⊢
  have HSU := Lib.hid hSU
  clear hSU
  generalize e.supOld.length = ol at *
  replace HX := Lib.hid (HX.out.trans x1); replace HC := Lib.hid (HC.out.ext x1); replace HM := Lib.hid (HM.out.ext x1); replace HVc := Lib.hid (HVc.out.ext x1); replace Hc := Lib.hid (Hc.out.ext x1); replace HVe := Lib.hid (HVe.out.ext x1); replace He := Lib.hid (He.out.ext x1); replace HI := Lib.hid (HI.out.ext x1)
  clear x1 qe0 qe1 qe2 qe3
  go_wp2_with fail
  go_loopw [13] (fun i wr => ∃ k : Nat, k ≤ SU.length ∧ i = .int .i64 k ∧ Ext wk6 wr ∧ ∀ (j : Nat) (h : j < SU.length), j < k → SU[j] ∈ PL) (fun i _ => SU.length - (intOf i).toNat)
  case atStart => exact ⟨0, Nat.zero_le _, rfl, Ext.refl _, fun j _ h => absurd h (Nat.not_lt_zero _)⟩
  case round =>
    obtain ⟨k, hk, rfl, x1, hR⟩ := hrel
    have HR := Lib.hid hR; have HXr := Lib.hid x1
    replace HX := Lib.hid (HX.out.trans x1); replace HC := Lib.hid (HC.out.ext x1); replace HM := Lib.hid (HM.out.ext x1); replace HVc := Lib.hid (HVc.out.ext x1); replace Hc := Lib.hid (Hc.out.ext x1); replace HVe := Lib.hid (HVe.out.ext x1); replace He := Lib.hid (He.out.ext x1); replace HI := Lib.hid (HI.out.ext x1); replace HSu := Lib.hid (HSu.out.ext x1)
    clear x1 hR
    generalize wr = wy at *
    by_cases hlt : k < SU.length
    · obtain ⟨ib, io, hia, g⟩ := ints_at1 HSu.out hlt
      have hsl := SliceAt.len_le HSu.out
      subst hia
      obtain ⟨x, hx⟩ : ∃ x, SU[k] = x := ⟨_, rfl⟩
      rw [hx] at g
      have HXE := Lib.hid hx
      have HG : Hid (∀ V : World, Ext wy V → V.cell? ⟨ib, io + k, none⟩ = some (.int .i64 x)) := fun V h => h.cell g
      clear g hx
      go_wp2_with fail
      go_loopw [14, 15] (fun s i wr => ∃ q : Nat, q ≤ PL.length ∧ i = .int .i64 q ∧ s = .bool ((PL.take q).contains x) ∧ Ext wy wr) (fun _ i _ => PL.length - (intOf i).toNat)
      case atStart => exact ⟨0, Nat.zero_le _, rfl, by simp, Ext.refl _⟩
      case round =>
        obtain ⟨q, hq, rfl, rfl, x1⟩ := hrel
        have HXq := Lib.hid x1
        have HIq := Lib.hid (HI.out.ext x1)
        clear x1
        generalize wr = wx at *
        by_cases hl2 : q < PL.length
        · obtain ⟨pb, po, hpb, g2⟩ := ints_at1 HIq.out hl2
          have hpl := SliceAt.len_le HIq.out
          subst hpb
          have g1 := HG.out _ HXq.out
          obtain ⟨y, hy⟩ : ∃ y, PL[q] = y := ⟨_, rfl⟩
          have HTK : Hid ((PL.take (q + 1)).contains x = ((PL.take q).contains x || (x == y))) := by
            rw [Hid, List.take_succ_eq_append_getElem hl2, hy, List.contains_append, List.contains_cons, List.contains_nil, Bool.or_false]
          rw [hy] at g2
          clear hy
          cases hb : (PL.take q).contains x with
          | true =>
            rw [hb, Bool.true_or] at HTK
            clear hb
            go_wp2_with fail
            go_quiet (fail)
            go_wp2_with fail
            exact ⟨⟨q + 1, by omega, by go_num, by rw [HTK.out], by first | exact HXq.out | exact HXq.out.drewN _⟩, by simp [intOf]; omega⟩
          | false =>
            rw [hb, Bool.false_or] at HTK
            clear hb
            by_cases hyx : y = x
            · subst hyx
              have HT2 : Hid ((PL.take (q + 1)).contains y = true) := by rw [Hid, HTK.out]; simp
              clear HTK
              go_wp2_with fail
              go_quiet (fail)
              go_wp2_with fail
              exact ⟨⟨q + 1, by omega, by go_num, by rw [HT2.out], by first | exact HXq.out | exact HXq.out.drewN _⟩, by simp [intOf]; omega⟩
            · have hbb : (y == x) = false := by simp [hyx]
              have HT2 : Hid ((PL.take (q + 1)).contains x = false) := by rw [Hid, HTK.out]; simp; exact fun h => hyx h.symm
              clear HTK hyx
              go_wp2_with fail
              go_quiet (fail)
              go_wp2_with fail
              exact ⟨⟨q + 1, by omega, by go_num, by rw [HT2.out], by first | exact HXq.out | exact HXq.out.drewN _⟩, by simp [intOf]; omega⟩
        · have hT : PL.take q = PL := List.take_of_length_le (by omega)
          rw [hT]
          clear hT
          cases hb : PL.contains x with
          | false =>
            clear hb
            have HXe := Lib.hid (HX.out.trans HXq.out)
            go_wp2_with fail
            exact bodyPost_ret (v := .bool true) (by simp [results, Tryz.results4, go_sem]) rfl ⟨rfl, HXe.out⟩
          | true =>
            have HMX : Hid (x ∈ PL) := by rw [List.contains_iff_mem] at hb; exact hb
            have HXn := Lib.hid (HXr.out.trans HXq.out)
            clear hb
            go_wp2_with fail
            refine ⟨⟨k + 1, by omega, by go_num, HXn.out, fun j h hj => ?_⟩, by simp [intOf]; omega⟩
            by_cases hjk : j = k
            · subst hjk; rw [HXE.out]; exact HMX.out
            · exact HR.out j h (by omega)
    · obtain rfl : k = SU.length := by omega
      have hall : ∀ x ∈ e.supNow, x ∈ cP cells c.hyp c.goal := fun x hx => by
        rw [HSU.out] at hx
        rw [HPL.out]
        obtain ⟨j, hj, rfl⟩ := List.mem_iff_getElem.1 hx
        exact HR.out j hj hj
      have hwf : e.wf = true := by have := HVL.out; simp only [E.valid, Bool.and_eq_true] at this; exact this.1
      have hwd := fun hop => weak_dec HS.out HVL.out HW1.out hall hop
      have hwi := fun hz hop hy => weak_imp HS.out hz HVL.out HW1.out hall hop hy
      rw [HSB.out] at hwd hwi
      have HWF := Lib.hid hwf; have HWD := Lib.hid hwd; have HWI := Lib.hid hwi
      clear hall hwf hwd hwi HR hlt hk HXr HSU HPL HSB HVL HW1 HI HSu
      cases sb with
      | false =>
        rw [show befIf false e = e from rfl] at HWD HWI
        obtain ⟨d, hd⟩ : ∃ d, strC c e = d := ⟨_, rfl⟩
        rw [hd] at HWD HWI
        have HDE := Lib.hid hd
        clear hd
        by_cases hz : (weak0 cells c.hyp c.goal).op = 0
        · have HWK : Hid (weakR cells c.hyp c.goal = (.mk 0 0 0 [], 2)) := by rw [Hid, HS.out.weak, if_pos hz]
          clear hz HWI HWD
          generalize E.mk 0 0 0 [] = m at *
          obtain ⟨qc0, qc1, qc2, qc3, qc4, qc5, qc6, qc7, qc8, qc9, qc10, qc11, qc12, qc13⟩ := HVc.out.all
          go_wp2_with fail
          refine (Weak_s HS.out HWK.out _ _ _ Hc.out HC.out HM.out).mono ?_
          rintro r wk7 ⟨m1, m2, m3, rfl, he, x1⟩
          have Hm := Lib.hid he; clear he
          replace HX := Lib.hid (HX.out.trans x1); replace HC := Lib.hid (HC.out.ext x1); replace HM := Lib.hid (HM.out.ext x1); replace HVc := Lib.hid (HVc.out.ext x1); replace Hc := Lib.hid (Hc.out.ext x1); replace HVe := Lib.hid (HVe.out.ext x1); replace He := Lib.hid (He.out.ext x1)
          clear x1 qc0 qc1 qc2 qc3 qc4 qc5 qc6 qc7 qc8 qc9 qc10 qc11 qc12 qc13
          go_upto_region 19 with fail
          obtain ⟨Wk7, hWk⟩ : ∃ Wk, Wk = wk7.alloc (.cells #[.int .i64 m.op, .int .i64 m.wd, .int .i64 m.n, .slice m1 m2 m3] 25) := ⟨_, rfl⟩
          have x1 : Ext wk7 Wk7 := by rw [hWk]; exact (Ext.refl _).alloc _
          have HVm : Hid (VarE Wk7 wk7.heap.size m.op m.wd m.n (.slice m1 m2 m3)) := by rw [hWk]; exact heap_new _ _
          rw [← hWk]
          replace HX := Lib.hid (HX.out.trans x1); replace HC := Lib.hid (HC.out.ext x1); replace HM := Lib.hid (HM.out.ext x1); replace HVc := Lib.hid (HVc.out.ext x1); replace Hc := Lib.hid (Hc.out.ext x1); replace HVe := Lib.hid (HVe.out.ext x1); replace He := Lib.hid (He.out.ext x1); replace Hm := Lib.hid (Hm.out.ext x1)
          clear x1 hWk
          generalize wk7.heap.size = bm at *
          obtain ⟨qc0, qc1, qc2, qc3, qc4, qc5, qc6, qc7, qc8, qc9, qc10, qc11, qc12, qc13⟩ := HVc.out.all
          obtain ⟨qe0, qe1, qe2, qe3⟩ := HVe.out.cells
          go_wp2_with fail
          refine (Str_s (by have := HS.out.s2; omega) HDE.out _ _ _ Hc.out He.out HM.out).mono ?_
          rintro r wk8 ⟨da1, da2, da3, da4, da5, da6, rfl, hv, x1⟩
          have Hd := Lib.hid hv; clear hv
          unfold condCells at Hd
          replace HX := Lib.hid (HX.out.trans x1); replace HC := Lib.hid (HC.out.ext x1); replace HM := Lib.hid (HM.out.ext x1); replace HVc := Lib.hid (HVc.out.ext x1); replace Hc := Lib.hid (Hc.out.ext x1); replace HVe := Lib.hid (HVe.out.ext x1); replace He := Lib.hid (He.out.ext x1); replace Hm := Lib.hid (Hm.out.ext x1); replace HVm := Lib.hid (HVm.out.ext x1)
          clear x1 qc0 qc1 qc2 qc3 qc4 qc5 qc6 qc7 qc8 qc9 qc10 qc11 qc12 qc13 qe0 qe1 qe2 qe3
          go_upto_region 20 with fail
          obtain ⟨Wk8, hWk⟩ : ∃ Wk, Wk = wk8.alloc (.cells #[.string ⟨d.id.toArray⟩, .int .i64 d.k1, .int .i64 d.k2, .int .i64 d.k3, .int .i64 d.k4, .int .i64 d.k5, .int .i64 d.hyp.op, .int .i64 d.hyp.wd, .int .i64 d.hyp.n, .slice da1 da2 da3, .int .i64 d.goal.op, .int .i64 d.goal.wd, .int .i64 d.goal.n, .slice da4 da5 da6] 27) := ⟨_, rfl⟩
          have x1 : Ext wk8 Wk8 := by rw [hWk]; exact (Ext.refl _).alloc _
          have HVd : Hid (CondAt Wk8 wk8.heap.size d da1 da2 da3 da4 da5 da6) := by rw [hWk]; exact heap_new _ _
          rw [← hWk]
          replace HX := Lib.hid (HX.out.trans x1); replace HC := Lib.hid (HC.out.ext x1); replace HM := Lib.hid (HM.out.ext x1); replace HVc := Lib.hid (HVc.out.ext x1); replace Hc := Lib.hid (Hc.out.ext x1); replace HVe := Lib.hid (HVe.out.ext x1); replace He := Lib.hid (He.out.ext x1); replace Hm := Lib.hid (Hm.out.ext x1); replace HVm := Lib.hid (HVm.out.ext x1); replace Hd := Lib.hid (Hd.out.ext x1)
          clear x1 hWk
          generalize wk8.heap.size = bd at *
          go_wp2_with fail
          exact bodyPost_ret (v := .bool true) (by simp [results, Tryz.results4, go_sem]) rfl ⟨rfl, by first | exact HX.out | exact HX.out.alloc _⟩
        have HWK : Hid (weakR cells c.hyp c.goal = (weakE cells c.hyp c.goal, 0)) := by rw [Hid, HS.out.weak, if_neg hz]
        have HWJ := Lib.hid (HWI.out hz)
        clear hz HWI
        generalize weakE cells c.hyp c.goal = m at *
        obtain ⟨qc0, qc1, qc2, qc3, qc4, qc5, qc6, qc7, qc8, qc9, qc10, qc11, qc12, qc13⟩ := HVc.out.all
        go_wp2_with fail
        refine (Weak_s HS.out HWK.out _ _ _ Hc.out HC.out HM.out).mono ?_
        rintro r wk7 ⟨m1, m2, m3, rfl, he, x1⟩
        have Hm := Lib.hid he; clear he
        replace HX := Lib.hid (HX.out.trans x1); replace HC := Lib.hid (HC.out.ext x1); replace HM := Lib.hid (HM.out.ext x1); replace HVc := Lib.hid (HVc.out.ext x1); replace Hc := Lib.hid (Hc.out.ext x1); replace HVe := Lib.hid (HVe.out.ext x1); replace He := Lib.hid (He.out.ext x1)
        clear x1 qc0 qc1 qc2 qc3 qc4 qc5 qc6 qc7 qc8 qc9 qc10 qc11 qc12 qc13
        go_upto_region 19 with fail
        obtain ⟨Wk7, hWk⟩ : ∃ Wk, Wk = wk7.alloc (.cells #[.int .i64 m.op, .int .i64 m.wd, .int .i64 m.n, .slice m1 m2 m3] 25) := ⟨_, rfl⟩
        have x1 : Ext wk7 Wk7 := by rw [hWk]; exact (Ext.refl _).alloc _
        have HVm : Hid (VarE Wk7 wk7.heap.size m.op m.wd m.n (.slice m1 m2 m3)) := by rw [hWk]; exact heap_new _ _
        rw [← hWk]
        replace HX := Lib.hid (HX.out.trans x1); replace HC := Lib.hid (HC.out.ext x1); replace HM := Lib.hid (HM.out.ext x1); replace HVc := Lib.hid (HVc.out.ext x1); replace Hc := Lib.hid (Hc.out.ext x1); replace HVe := Lib.hid (HVe.out.ext x1); replace He := Lib.hid (He.out.ext x1); replace Hm := Lib.hid (Hm.out.ext x1)
        clear x1 hWk
        generalize wk7.heap.size = bm at *
        obtain ⟨qc0, qc1, qc2, qc3, qc4, qc5, qc6, qc7, qc8, qc9, qc10, qc11, qc12, qc13⟩ := HVc.out.all
        obtain ⟨qe0, qe1, qe2, qe3⟩ := HVe.out.cells
        go_wp2_with fail
        refine (Str_s (by have := HS.out.s2; omega) HDE.out _ _ _ Hc.out He.out HM.out).mono ?_
        rintro r wk8 ⟨da1, da2, da3, da4, da5, da6, rfl, hv, x1⟩
        have Hd := Lib.hid hv; clear hv
        unfold condCells at Hd
        replace HX := Lib.hid (HX.out.trans x1); replace HC := Lib.hid (HC.out.ext x1); replace HM := Lib.hid (HM.out.ext x1); replace HVc := Lib.hid (HVc.out.ext x1); replace Hc := Lib.hid (Hc.out.ext x1); replace HVe := Lib.hid (HVe.out.ext x1); replace He := Lib.hid (He.out.ext x1); replace Hm := Lib.hid (Hm.out.ext x1); replace HVm := Lib.hid (HVm.out.ext x1)
        clear x1 qc0 qc1 qc2 qc3 qc4 qc5 qc6 qc7 qc8 qc9 qc10 qc11 qc12 qc13 qe0 qe1 qe2 qe3
        go_upto_region 20 with fail
        obtain ⟨Wk8, hWk⟩ : ∃ Wk, Wk = wk8.alloc (.cells #[.string ⟨d.id.toArray⟩, .int .i64 d.k1, .int .i64 d.k2, .int .i64 d.k3, .int .i64 d.k4, .int .i64 d.k5, .int .i64 d.hyp.op, .int .i64 d.hyp.wd, .int .i64 d.hyp.n, .slice da1 da2 da3, .int .i64 d.goal.op, .int .i64 d.goal.wd, .int .i64 d.goal.n, .slice da4 da5 da6] 27) := ⟨_, rfl⟩
        have x1 : Ext wk8 Wk8 := by rw [hWk]; exact (Ext.refl _).alloc _
        have HVd : Hid (CondAt Wk8 wk8.heap.size d da1 da2 da3 da4 da5 da6) := by rw [hWk]; exact heap_new _ _
        rw [← hWk]
        replace HX := Lib.hid (HX.out.trans x1); replace HC := Lib.hid (HC.out.ext x1); replace HM := Lib.hid (HM.out.ext x1); replace HVc := Lib.hid (HVc.out.ext x1); replace Hc := Lib.hid (Hc.out.ext x1); replace HVe := Lib.hid (HVe.out.ext x1); replace He := Lib.hid (He.out.ext x1); replace Hm := Lib.hid (Hm.out.ext x1); replace HVm := Lib.hid (HVm.out.ext x1); replace Hd := Lib.hid (Hd.out.ext x1)
        clear x1 hWk
        generalize wk8.heap.size = bd at *
        by_cases hop : d.hyp.op = 0
        · have qz := HVd.out.hyp.1
          rw [hop] at qz
          go_wp2_with fail
          exact bodyPost_ret (v := .bool true) (by simp [results, Tryz.results4, go_sem]) rfl ⟨rfl, by first | exact HX.out | exact HX.out.alloc _⟩
        have hob : (d.hyp.op == 0) = false := by simp [hop]
        have HY := Lib.hid (HWD.out hop); have HZ := Lib.hid (HWJ.out hop)
        clear hop HWD HWJ
        obtain ⟨qd0, qd1, qd2, qd3, qd4, qd5, qd6, qd7, qd8, qd9, qd10, qd11, qd12, qd13⟩ := HVd.out.all
        go_wp2_with fail
        refine (Dec_any HY.out.1.1 HY.out.1.2 HY.out.2 HS.out.len _ _ _ Hd.out HC.out HM.out).mono ?_
        rintro r wk9 ⟨hr, x1⟩
        replace HX := Lib.hid (HX.out.trans x1); replace HC := Lib.hid (HC.out.ext x1); replace HM := Lib.hid (HM.out.ext x1); replace HVc := Lib.hid (HVc.out.ext x1); replace Hc := Lib.hid (Hc.out.ext x1); replace HVe := Lib.hid (HVe.out.ext x1); replace He := Lib.hid (He.out.ext x1); replace Hm := Lib.hid (Hm.out.ext x1); replace HVm := Lib.hid (HVm.out.ext x1); replace Hd := Lib.hid (Hd.out.ext x1); replace HVd := Lib.hid (HVd.out.ext x1)
        clear x1 hob qd0 qd1 qd2 qd3 qd4 qd5 qd6 qd7 qd8 qd9 qd10 qd11 qd12 qd13
        rcases hr with ⟨hv, rfl⟩ | ⟨st1, st2, s1, s3, t1, t3, _, _, _, rfl⟩
        · have HQ := Lib.hid (HZ.out hv)
          clear hv
          obtain ⟨qe0, qe1, qe2, qe3⟩ := HVe.out.cells
          obtain ⟨qm0, qm1, qm2, qm3⟩ := HVm.out.cells
          go_wp2_with fail
          refine (Dec_yes (c := ⟨[], 0, 0, 0, 0, 0, e, m⟩) HQ.out.1 HQ.out.2.1 HQ.out.2.2.1 HQ.out.2.2.2 HS.out.len _ _ _ ⟨_, _, _, _, _, _, rfl, He.out, Hm.out⟩ HC.out HM.out).mono ?_
          rintro r wk10 ⟨rfl, x1⟩
          replace HX := Lib.hid (HX.out.trans x1); replace HC := Lib.hid (HC.out.ext x1); replace HM := Lib.hid (HM.out.ext x1); replace HVc := Lib.hid (HVc.out.ext x1); replace Hc := Lib.hid (Hc.out.ext x1); replace HVe := Lib.hid (HVe.out.ext x1); replace He := Lib.hid (He.out.ext x1); replace Hm := Lib.hid (Hm.out.ext x1); replace HVm := Lib.hid (HVm.out.ext x1); replace Hd := Lib.hid (Hd.out.ext x1); replace HVd := Lib.hid (HVd.out.ext x1)
          clear x1 qe0 qe1 qe2 qe3 qm0 qm1 qm2 qm3
          go_wp2_with fail
          exact bodyPost_ret (v := .bool true) (by simp [results, Tryz.results4, go_sem]) rfl ⟨rfl, by first | exact HX.out | exact HX.out.alloc _⟩
        · skip
          go_wp2_with fail
          exact bodyPost_ret (v := .bool true) (by simp [results, Tryz.results4, go_sem]) rfl ⟨rfl, by first | exact HX.out | exact HX.out.alloc _⟩
      | true =>
        obtain ⟨f, hf⟩ : ∃ f, befIf true e = f := ⟨_, rfl⟩
        rw [hf] at HWD HWI
        have HFE : Hid (e.before = f) := hf
        clear hf
        obtain ⟨qe0, qe1, qe2, qe3⟩ := HVe.out.cells
        go_wp2_with fail
        refine (RBefore_any e _ _ He.out HWF.out).mono ?_
        rintro r wb ⟨⟨v, rfl, hv⟩, x1⟩
        rw [HFE.out] at hv
        obtain ⟨f1, f2, f3, rfl, hk⟩ := hv.shape
        have HLe : Hid (be < wy.heap.size) := lt_heap HVe.out
        replace HX := Lib.hid (HX.out.trans x1); replace HC := Lib.hid (HC.out.ext x1); replace HM := Lib.hid (HM.out.ext x1); replace HVc := Lib.hid (HVc.out.ext x1); replace Hc := Lib.hid (Hc.out.ext x1); replace HVe := Lib.hid (HVe.out.ext x1); replace He := Lib.hid (He.out.ext x1)
        clear x1 hv qe0 qe1 qe2 qe3
        obtain ⟨c0, c1, c2, c3, f0', f1', f2', f3'⟩ := cells_of_block HVe.out
        go_upto_region 18 with fail
        obtain ⟨V, hV⟩ : ∃ V, V = (((wb.setCell ⟨be, 0, none⟩ (.int .i64 f.op)).setCell ⟨be, 1, none⟩ (.int .i64 f.wd)).setCell ⟨be, 2, none⟩ (.int .i64 f.n)).setCell ⟨be, 3, none⟩ (.slice f1 f2 f3) := ⟨_, rfl⟩
        rw [← hV]
        have hP : V = put4 wb be 0 (.int .i64 f.op) (.int .i64 f.wd) (.int .i64 f.n) (.slice f1 f2 f3) := hV
        have HVf : Hid (VarE V be f.op f.wd f.n (.slice f1 f2 f3)) := by rw [hP]; exact put4_new HVe.out
        have Hf : Hid (EVal V (.agg #[.int .i64 f.op, .int .i64 f.wd, .int .i64 f.n, .slice f1 f2 f3]) f) := ⟨_, rfl, (hk.keep (w' := V) fun k hk _ => by rw [hP]; exact put4_heap k (by have := HLe.out; omega)).kids⟩
        have HVc' : Hid (CondAt V bc c ca1 ca2 ca3 ca4 ca5 ca6) := by rw [hP]; exact (put4_heap bc HNE.out).trans HVc.out
        replace HVc := HVc'
        replace HX : Hid (Ext w V) := by rw [hP]; exact Below.trans HX.out (below_put4 HBe.out)
        replace HC := Lib.hid (HC0.out.ext HX.out); replace HM := Lib.hid (HM0.out.ext HX.out); replace Hc := Lib.hid (Hc0.out.ext HX.out)
        clear hV hP HVc' HVe He hk c0 c1 c2 c3 f0' f1' f2' f3' HLe HFE
        obtain ⟨d, hd⟩ : ∃ d, strC c f = d := ⟨_, rfl⟩
        rw [hd] at HWD HWI
        have HDE := Lib.hid hd
        clear hd
        by_cases hz : (weak0 cells c.hyp c.goal).op = 0
        · have HWK : Hid (weakR cells c.hyp c.goal = (.mk 0 0 0 [], 2)) := by rw [Hid, HS.out.weak, if_pos hz]
          clear hz HWI HWD
          generalize E.mk 0 0 0 [] = m at *
          obtain ⟨qc0, qc1, qc2, qc3, qc4, qc5, qc6, qc7, qc8, qc9, qc10, qc11, qc12, qc13⟩ := HVc.out.all
          go_wp2_with fail
          refine (Weak_s HS.out HWK.out _ _ _ Hc.out HC.out HM.out).mono ?_
          rintro r wk7 ⟨m1, m2, m3, rfl, he, x1⟩
          have Hm := Lib.hid he; clear he
          replace HX := Lib.hid (HX.out.trans x1); replace HC := Lib.hid (HC.out.ext x1); replace HM := Lib.hid (HM.out.ext x1); replace HVc := Lib.hid (HVc.out.ext x1); replace Hc := Lib.hid (Hc.out.ext x1); replace HVf := Lib.hid (HVf.out.ext x1); replace Hf := Lib.hid (Hf.out.ext x1)
          clear x1 qc0 qc1 qc2 qc3 qc4 qc5 qc6 qc7 qc8 qc9 qc10 qc11 qc12 qc13
          go_upto_region 19 with fail
          obtain ⟨Wk7, hWk⟩ : ∃ Wk, Wk = wk7.alloc (.cells #[.int .i64 m.op, .int .i64 m.wd, .int .i64 m.n, .slice m1 m2 m3] 25) := ⟨_, rfl⟩
          have x1 : Ext wk7 Wk7 := by rw [hWk]; exact (Ext.refl _).alloc _
          have HVm : Hid (VarE Wk7 wk7.heap.size m.op m.wd m.n (.slice m1 m2 m3)) := by rw [hWk]; exact heap_new _ _
          rw [← hWk]
          replace HX := Lib.hid (HX.out.trans x1); replace HC := Lib.hid (HC.out.ext x1); replace HM := Lib.hid (HM.out.ext x1); replace HVc := Lib.hid (HVc.out.ext x1); replace Hc := Lib.hid (Hc.out.ext x1); replace HVf := Lib.hid (HVf.out.ext x1); replace Hf := Lib.hid (Hf.out.ext x1); replace Hm := Lib.hid (Hm.out.ext x1)
          clear x1 hWk
          generalize wk7.heap.size = bm at *
          obtain ⟨qc0, qc1, qc2, qc3, qc4, qc5, qc6, qc7, qc8, qc9, qc10, qc11, qc12, qc13⟩ := HVc.out.all
          obtain ⟨qf0, qf1, qf2, qf3⟩ := HVf.out.cells
          go_wp2_with fail
          refine (Str_s (by have := HS.out.s2; omega) HDE.out _ _ _ Hc.out Hf.out HM.out).mono ?_
          rintro r wk8 ⟨da1, da2, da3, da4, da5, da6, rfl, hv, x1⟩
          have Hd := Lib.hid hv; clear hv
          unfold condCells at Hd
          replace HX := Lib.hid (HX.out.trans x1); replace HC := Lib.hid (HC.out.ext x1); replace HM := Lib.hid (HM.out.ext x1); replace HVc := Lib.hid (HVc.out.ext x1); replace Hc := Lib.hid (Hc.out.ext x1); replace HVf := Lib.hid (HVf.out.ext x1); replace Hf := Lib.hid (Hf.out.ext x1); replace Hm := Lib.hid (Hm.out.ext x1); replace HVm := Lib.hid (HVm.out.ext x1)
          clear x1 qc0 qc1 qc2 qc3 qc4 qc5 qc6 qc7 qc8 qc9 qc10 qc11 qc12 qc13 qf0 qf1 qf2 qf3
          go_upto_region 20 with fail
          obtain ⟨Wk8, hWk⟩ : ∃ Wk, Wk = wk8.alloc (.cells #[.string ⟨d.id.toArray⟩, .int .i64 d.k1, .int .i64 d.k2, .int .i64 d.k3, .int .i64 d.k4, .int .i64 d.k5, .int .i64 d.hyp.op, .int .i64 d.hyp.wd, .int .i64 d.hyp.n, .slice da1 da2 da3, .int .i64 d.goal.op, .int .i64 d.goal.wd, .int .i64 d.goal.n, .slice da4 da5 da6] 27) := ⟨_, rfl⟩
          have x1 : Ext wk8 Wk8 := by rw [hWk]; exact (Ext.refl _).alloc _
          have HVd : Hid (CondAt Wk8 wk8.heap.size d da1 da2 da3 da4 da5 da6) := by rw [hWk]; exact heap_new _ _
          rw [← hWk]
          replace HX := Lib.hid (HX.out.trans x1); replace HC := Lib.hid (HC.out.ext x1); replace HM := Lib.hid (HM.out.ext x1); replace HVc := Lib.hid (HVc.out.ext x1); replace Hc := Lib.hid (Hc.out.ext x1); replace HVf := Lib.hid (HVf.out.ext x1); replace Hf := Lib.hid (Hf.out.ext x1); replace Hm := Lib.hid (Hm.out.ext x1); replace HVm := Lib.hid (HVm.out.ext x1); replace Hd := Lib.hid (Hd.out.ext x1)
          clear x1 hWk
          generalize wk8.heap.size = bd at *
          go_wp2_with fail
          exact bodyPost_ret (v := .bool true) (by simp [results, Tryz.results4, go_sem]) rfl ⟨rfl, by first | exact HX.out | exact HX.out.alloc _⟩
        have HWK : Hid (weakR cells c.hyp c.goal = (weakE cells c.hyp c.goal, 0)) := by rw [Hid, HS.out.weak, if_neg hz]
        have HWJ := Lib.hid (HWI.out hz)
        clear hz HWI
        generalize weakE cells c.hyp c.goal = m at *
        obtain ⟨qc0, qc1, qc2, qc3, qc4, qc5, qc6, qc7, qc8, qc9, qc10, qc11, qc12, qc13⟩ := HVc.out.all
        go_wp2_with fail
        refine (Weak_s HS.out HWK.out _ _ _ Hc.out HC.out HM.out).mono ?_
        rintro r wk7 ⟨m1, m2, m3, rfl, he, x1⟩
        have Hm := Lib.hid he; clear he
        replace HX := Lib.hid (HX.out.trans x1); replace HC := Lib.hid (HC.out.ext x1); replace HM := Lib.hid (HM.out.ext x1); replace HVc := Lib.hid (HVc.out.ext x1); replace Hc := Lib.hid (Hc.out.ext x1); replace HVf := Lib.hid (HVf.out.ext x1); replace Hf := Lib.hid (Hf.out.ext x1)
        clear x1 qc0 qc1 qc2 qc3 qc4 qc5 qc6 qc7 qc8 qc9 qc10 qc11 qc12 qc13
        go_upto_region 19 with fail
        obtain ⟨Wk7, hWk⟩ : ∃ Wk, Wk = wk7.alloc (.cells #[.int .i64 m.op, .int .i64 m.wd, .int .i64 m.n, .slice m1 m2 m3] 25) := ⟨_, rfl⟩
        have x1 : Ext wk7 Wk7 := by rw [hWk]; exact (Ext.refl _).alloc _
        have HVm : Hid (VarE Wk7 wk7.heap.size m.op m.wd m.n (.slice m1 m2 m3)) := by rw [hWk]; exact heap_new _ _
        rw [← hWk]
        replace HX := Lib.hid (HX.out.trans x1); replace HC := Lib.hid (HC.out.ext x1); replace HM := Lib.hid (HM.out.ext x1); replace HVc := Lib.hid (HVc.out.ext x1); replace Hc := Lib.hid (Hc.out.ext x1); replace HVf := Lib.hid (HVf.out.ext x1); replace Hf := Lib.hid (Hf.out.ext x1); replace Hm := Lib.hid (Hm.out.ext x1)
        clear x1 hWk
        generalize wk7.heap.size = bm at *
        obtain ⟨qc0, qc1, qc2, qc3, qc4, qc5, qc6, qc7, qc8, qc9, qc10, qc11, qc12, qc13⟩ := HVc.out.all
        obtain ⟨qf0, qf1, qf2, qf3⟩ := HVf.out.cells
        go_wp2_with fail
        refine (Str_s (by have := HS.out.s2; omega) HDE.out _ _ _ Hc.out Hf.out HM.out).mono ?_
        rintro r wk8 ⟨da1, da2, da3, da4, da5, da6, rfl, hv, x1⟩
        have Hd := Lib.hid hv; clear hv
        unfold condCells at Hd
        replace HX := Lib.hid (HX.out.trans x1); replace HC := Lib.hid (HC.out.ext x1); replace HM := Lib.hid (HM.out.ext x1); replace HVc := Lib.hid (HVc.out.ext x1); replace Hc := Lib.hid (Hc.out.ext x1); replace HVf := Lib.hid (HVf.out.ext x1); replace Hf := Lib.hid (Hf.out.ext x1); replace Hm := Lib.hid (Hm.out.ext x1); replace HVm := Lib.hid (HVm.out.ext x1)
        clear x1 qc0 qc1 qc2 qc3 qc4 qc5 qc6 qc7 qc8 qc9 qc10 qc11 qc12 qc13 qf0 qf1 qf2 qf3
        go_upto_region 20 with fail
        obtain ⟨Wk8, hWk⟩ : ∃ Wk, Wk = wk8.alloc (.cells #[.string ⟨d.id.toArray⟩, .int .i64 d.k1, .int .i64 d.k2, .int .i64 d.k3, .int .i64 d.k4, .int .i64 d.k5, .int .i64 d.hyp.op, .int .i64 d.hyp.wd, .int .i64 d.hyp.n, .slice da1 da2 da3, .int .i64 d.goal.op, .int .i64 d.goal.wd, .int .i64 d.goal.n, .slice da4 da5 da6] 27) := ⟨_, rfl⟩
        have x1 : Ext wk8 Wk8 := by rw [hWk]; exact (Ext.refl _).alloc _
        have HVd : Hid (CondAt Wk8 wk8.heap.size d da1 da2 da3 da4 da5 da6) := by rw [hWk]; exact heap_new _ _
        rw [← hWk]
        replace HX := Lib.hid (HX.out.trans x1); replace HC := Lib.hid (HC.out.ext x1); replace HM := Lib.hid (HM.out.ext x1); replace HVc := Lib.hid (HVc.out.ext x1); replace Hc := Lib.hid (Hc.out.ext x1); replace HVf := Lib.hid (HVf.out.ext x1); replace Hf := Lib.hid (Hf.out.ext x1); replace Hm := Lib.hid (Hm.out.ext x1); replace HVm := Lib.hid (HVm.out.ext x1); replace Hd := Lib.hid (Hd.out.ext x1)
        clear x1 hWk
        generalize wk8.heap.size = bd at *
        by_cases hop : d.hyp.op = 0
        · have qz := HVd.out.hyp.1
          rw [hop] at qz
          go_wp2_with fail
          exact bodyPost_ret (v := .bool true) (by simp [results, Tryz.results4, go_sem]) rfl ⟨rfl, by first | exact HX.out | exact HX.out.alloc _⟩
        have hob : (d.hyp.op == 0) = false := by simp [hop]
        have HY := Lib.hid (HWD.out hop); have HZ := Lib.hid (HWJ.out hop)
        clear hop HWD HWJ
        obtain ⟨qd0, qd1, qd2, qd3, qd4, qd5, qd6, qd7, qd8, qd9, qd10, qd11, qd12, qd13⟩ := HVd.out.all
        go_wp2_with fail
        refine (Dec_any HY.out.1.1 HY.out.1.2 HY.out.2 HS.out.len _ _ _ Hd.out HC.out HM.out).mono ?_
        rintro r wk9 ⟨hr, x1⟩
        replace HX := Lib.hid (HX.out.trans x1); replace HC := Lib.hid (HC.out.ext x1); replace HM := Lib.hid (HM.out.ext x1); replace HVc := Lib.hid (HVc.out.ext x1); replace Hc := Lib.hid (Hc.out.ext x1); replace HVf := Lib.hid (HVf.out.ext x1); replace Hf := Lib.hid (Hf.out.ext x1); replace Hm := Lib.hid (Hm.out.ext x1); replace HVm := Lib.hid (HVm.out.ext x1); replace Hd := Lib.hid (Hd.out.ext x1); replace HVd := Lib.hid (HVd.out.ext x1)
        clear x1 hob qd0 qd1 qd2 qd3 qd4 qd5 qd6 qd7 qd8 qd9 qd10 qd11 qd12 qd13
        rcases hr with ⟨hv, rfl⟩ | ⟨st1, st2, s1, s3, t1, t3, _, _, _, rfl⟩
        · have HQ := Lib.hid (HZ.out hv)
          clear hv
          obtain ⟨qf0, qf1, qf2, qf3⟩ := HVf.out.cells
          obtain ⟨qm0, qm1, qm2, qm3⟩ := HVm.out.cells
          go_wp2_with fail
          refine (Dec_yes (c := ⟨[], 0, 0, 0, 0, 0, f, m⟩) HQ.out.1 HQ.out.2.1 HQ.out.2.2.1 HQ.out.2.2.2 HS.out.len _ _ _ ⟨_, _, _, _, _, _, rfl, Hf.out, Hm.out⟩ HC.out HM.out).mono ?_
          rintro r wk10 ⟨rfl, x1⟩
          replace HX := Lib.hid (HX.out.trans x1); replace HC := Lib.hid (HC.out.ext x1); replace HM := Lib.hid (HM.out.ext x1); replace HVc := Lib.hid (HVc.out.ext x1); replace Hc := Lib.hid (Hc.out.ext x1); replace HVf := Lib.hid (HVf.out.ext x1); replace Hf := Lib.hid (Hf.out.ext x1); replace Hm := Lib.hid (Hm.out.ext x1); replace HVm := Lib.hid (HVm.out.ext x1); replace Hd := Lib.hid (Hd.out.ext x1); replace HVd := Lib.hid (HVd.out.ext x1)
          clear x1 qf0 qf1 qf2 qf3 qm0 qm1 qm2 qm3
          go_wp2_with fail
          exact bodyPost_ret (v := .bool true) (by simp [results, Tryz.results4, go_sem]) rfl ⟨rfl, by first | exact HX.out | exact HX.out.alloc _⟩
        · skip
          go_wp2_with fail
          exact bodyPost_ret (v := .bool true) (by simp [results, Tryz.results4, go_sem]) rfl ⟨rfl, by first | exact HX.out | exact HX.out.alloc _⟩
end Go.Proofs.YtlcgbdjmlnjhcaaGreatDoor
