/-
  The walk of CnfModels.
-/
import Derived.Test.YtnkhaobokmmnjaaDoorLgL
namespace Go.Proofs.YtnkhaobokmmnjaaDoor
open Go.RowKit Go.Shelf
attribute [local go_sem] Oper.semAt_some

set_option maxRecDepth 100000 in
set_option maxHeartbeats 8000000 in
theorem CnfModels_any (vars : Int) (cl : List (List Int)) (vs : List Bool) (vf vv : Value) (w : World) (hf : CnfV w vf vars cl) (hn : CnfN vars cl) (hv : Bools w vv vs) (hT : CTab w) :
    Calls Tryd.prog 3 #[vf, vv] w fun r w' => r = .returned (.bool true) ∧ Ext w w' := by
  obtain ⟨fa, fc, rfl, hcl⟩ := hf.shape
  obtain ⟨va, vc, rfl⟩ := SliceAt.shape hv
  obtain ⟨W, hW⟩ : ∃ W, W = w.alloc (.cells #[.int .i64 vars, .slice fa cl.length fc] 24) := ⟨_, rfl⟩
  have hx : Ext w W := by rw [hW]; exact (Ext.refl w).alloc _
  have hA : W.heap[w.heap.size]? = some (.cells #[.int .i64 vars, .slice fa cl.length fc] 24 (0, 0)) := by rw [hW]; exact heap_new _ _
  have HF := Lib.hid hf; have HX := Lib.hid hx; have HW := Lib.hid hW; have HN := Lib.hid hn; have HV := Lib.hid hv; have HT := Lib.hid (hT.ext hx); have HA := Lib.hid (CnfAt.cells hA)
  have hvl := SliceAt.len_le hv
  clear hf hx hW hn hv hT hcl hA
  go_enter Tryd.func3, Tryd.ntmps3
  go_upto_region 1 with fail
  rw [← HW.out]
  clear HW
  generalize w.heap.size = b0 at *
  go_wp2_with fail
  refine (head_any W HT.out).mono ?_
  rintro r w2 ⟨rfl, x2⟩
  have HX2 := Lib.hid x2
  obtain ⟨p0, p1⟩ := HA.out
  replace p0 := x2.cell p0; replace p1 := x2.cell p1
  clear x2
  go_wp2_with fail
  refine (LSmall_any vars cl _ w2 (HF.out.ext (HX.out.trans HX2.out))).mono ?_
  rintro r w3 ⟨rfl, x3⟩
  have HX3 := Lib.hid (HX2.out.trans x3)
  replace p0 := x3.cell p0; replace p1 := x3.cell p1
  clear x3
  cases hsm : smallC cl with
  | false =>
    go_wp2_with fail
    go_ret
    exact ⟨rfl, HX.out.trans HX3.out⟩
  | true =>
  have HTM := Lib.hid (HN.out.tame hsm)
  have HSM := Lib.hid (small_len hsm)
  clear hsm
  by_cases h100 : 100 < vs.length
  · have h100' : (100 : Int) < (vs.length : Int) := by omega
    go_wp2_with fail
    go_ret
    exact ⟨rfl, HX.out.trans HX3.out⟩
  have h100' : ¬ (100 : Int) < (vs.length : Int) := by omega
  go_wp2_with fail
  refine (RValid_any vars cl _ w3 (HF.out.ext (HX.out.trans HX3.out)) HTM.out).mono ?_
  rintro r w4 ⟨rfl, x4⟩
  have HX4 := Lib.hid (HX.out.trans (HX3.out.trans x4))
  replace p0 := x4.cell p0; replace p1 := x4.cell p1
  clear x4
  cases hvd : validC vars cl with
  | false =>
    go_wp2_with fail
    go_ret
    exact ⟨rfl, HX4.out⟩
  | true =>
  have HVD := Lib.hid hvd
  clear hvd
  have HL4 := Lib.hid (HF.out.ext HX4.out)
  have HV4 := Lib.hid (SliceAt.ext BoolAt.keeps HV.out HX4.out)
  have P0 := Lib.hid p0; have P1 := Lib.hid p1
  clear HF HV HA HT HX HX2 HX3 hvl
  go_wp2_with fail
  refine (CNormal_any vars cl _ w4 HL4.out HTM.out HVD.out).mono ?_
  rintro r w5 ⟨x5, N, u, rfl, hN, hNl, hNn, hNb⟩
  obtain ⟨ua, uc, rfl⟩ := SliceAt.shape hNl
  have HN5 := Lib.hid hN; have HX5 := Lib.hid x5
  have HVN := Lib.hid (normF_valid hN HVD.out hNn); have HEN := Lib.hid (normF_eval hN HVD.out hNn vs); have HTN := Lib.hid (normF_tame hN HTM.out hNn hNb)
  have HNL5 := Lib.hid hNl; have HNB := Lib.hid hNb
  have hN60 : N.length ≤ 60 := by have := HSM.out.1; omega
  clear x5 hN hNl hNn hNb p0 p1
  go_upto_region 5 with fail
  have x6 : Ext w5 (w5.alloc (.cells #[.int .i64 vars, .slice ua N.length uc] 24)) := (Ext.refl _).alloc _
  have HG := Lib.hid (CnfAt.cells (heap_new w5 (.cells #[.int .i64 vars, .slice ua N.length uc] 24)))
  have HX6 := Lib.hid (HX5.out.trans x6); have HNL := Lib.hid (HNL5.out.ext x6)
  clear x6
  generalize w5.alloc (.cells #[.int .i64 vars, .slice ua N.length uc] 24) = w6 at *
  generalize w5.heap.size = bg at *
  go_wp2_with fail
  go_loopw [7] (fun v wr => ∃ k : Nat, k ≤ N.length ∧ v = .int .i64 k ∧ Ext w6 wr) (fun v _ => N.length - (intOf v).toNat)
  case atStart => exact ⟨0, Nat.zero_le _, rfl, Ext.refl _⟩
  case round =>
    obtain ⟨k, hk, rfl, hX⟩ := hrel
    have HXr := Lib.hid hX; clear hX
    have g1 := HXr.out.cell HG.out.2
    by_cases hlt : k < N.length
    · have hlt' : (k : Int) < (N.length : Int) := by omega
      have k0 : (0 : Int) ≤ (k : Int) := by omega
      obtain ⟨b, o, c1, c2, e, gk, HC⟩ := lists_at HNL.out hlt
      subst e
      obtain ⟨n, hn⟩ : ∃ n, n = N[k] := ⟨_, rfl⟩
      rw [← hn] at gk HC
      have GK := Lib.hid gk; have HC := Lib.hid HC
      have HNL2 := Lib.hid HNL.out
      replace gk := HXr.out.cell gk
      have HIN : Hid (∀ q, (h : q + 1 < n.length) → absI n[q] < absI n[q + 1]) := by subst hn; exact fun q h => normF_inner HN5.out hlt h
      have HLB : Hid (∀ x ∈ n, InI x ∧ x ≠ -9223372036854775808) := fun x hx => by
        rw [hn] at hx
        have h1 := lit_in (validC_vars HVN.out).2 (validC_lit HVN.out (List.getElem_mem hlt) hx)
        unfold InI; omega
      have hlk : n.length ≤ 100000 := by rw [hn]; exact HNB.out _ (List.getElem_mem hlt)
      rcases Nat.eq_zero_or_pos k with h0 | h0
      · subst h0
        clear hn
        simp only [Nat.add_zero] at gk GK
        go_upto_region 8 with fail
        go_quiet (fail)
        go_wp2_with fail
        clear g1 gk
        go_loopw [8] (fun v wx => ∃ q : Nat, v = .int .i64 ((q : Int) + 1) ∧ (q + 1 ≤ n.length ∨ q = 0) ∧ Ext w6 wx) (fun v _ => n.length - (intOf v).toNat)
        case atStart => exact ⟨0, rfl, .inr rfl, HXr.out.drewN _⟩
        case round =>
          obtain ⟨q, rfl, hq, hX⟩ := hrel
          have HXq := Lib.hid hX; clear hX
          have g1 := HXq.out.cell HG.out.2
          have gk := HXq.out.cell GK.out
          by_cases hlq : q + 1 < n.length
          · have hi1 : (q : Int) + 1 < (n.length : Int) := by omega
            obtain ⟨b3, o3, h3, g3⟩ := ints_at (HC.out.ext HXq.out) q (by omega)
            cases h3
            obtain ⟨b4, o4, h4, g4⟩ := ints_at (HC.out.ext HXq.out) (q + 1) hlq
            cases h4
            rw [show n.getD q 0 = n[q] by simp [List.getD, show q < n.length by omega]] at g3
            rw [show n.getD (q + 1) 0 = n[q + 1] by simp [List.getD, hlq]] at g4
            have hlt2 := HIN.out q hlq
            have HB1 := Lib.hid (HLB.out _ (List.getElem_mem (show q < n.length by omega)))
            have HB2 := Lib.hid (HLB.out _ (List.getElem_mem hlq))
            generalize n[q] = x at *
            generalize n[q + 1] = y at *
            have HA1 : Hid (∀ u : Nat, Calls Tryd.prog 14 #[.int .i64 x] (wr.drewN u) fun e w' => e = .returned (.int .i64 (absI x)) ∧ ∃ u, w' = wr.drewN u) := fun u => Calls.quiet_of_same (RAbs_any x _ HB1.out.1 HB1.out.2)
            have HA2 : Hid (∀ u : Nat, Calls Tryd.prog 14 #[.int .i64 y] (wr.drewN u) fun e w' => e = .returned (.int .i64 (absI y)) ∧ ∃ u, w' = wr.drewN u) := fun u => Calls.quiet_of_same (RAbs_any y _ HB2.out.1 HB2.out.2)
            have hge : ¬ absI y ≤ absI x := by omega
            clear hlt2
            generalize absI x = ax at *
            generalize absI y = ay at *
            obtain ⟨q1, hq1⟩ : ∃ q1 : Int, q1 = (q : Int) + 1 := ⟨_, rfl⟩
            have e0 : wrap64 ((q : Int) + 1 - 1) = (q : Int) := by unfold wrap64; omega
            have e1 : IntKind.i64.wrap ((q : Int) + 1 - 1) = (q : Int) := by rw [IntKind.wrap_i64]; omega
            have q0 : (0 : Int) ≤ (q : Int) := by omega
            have q2 : (q : Int) < (n.length : Int) := by omega
            have q3 : (0 : Int) ≤ (q : Int) + 1 := by omega
            clear hq1
            go_upto_region 13 with fail
            go_quiet ((go_at_call 14; (first | with_reducible exact HA1.out _ | with_reducible exact HA2.out _)))
            go_wp2_with fail
            exact ⟨⟨q + 1, by go_num, .inl (by omega), HXq.out.drewN _⟩, by simp [intOf]; omega⟩
          · go_wp2_with fail
            exact ⟨⟨1, by omega, by go_num, HXq.out⟩, by simp [intOf]; omega⟩
      · obtain ⟨m, hm⟩ : ∃ m, k = m + 1 := ⟨k - 1, by omega⟩
        have hml : m < N.length := by omega
        obtain ⟨b', o', d1, d2, e, gm, hd⟩ := lists_at HNL.out hml
        cases e
        replace gm := HXr.out.cell gm
        have HORD : Hid (ordC N[m] n < 0) := by rw [hn]; subst hm; exact normF_order HN5.out hlt
        have HRO : Hid (∀ u : Nat, Calls Tryd.prog 13 #[.slice d1 N[m].length d2, .slice c1 n.length c2] (wr.drewN u) fun e w' => e = .returned (.int .i64 (ordC N[m] n)) ∧ ∃ u, w' = wr.drewN u) := fun u => Calls.quiet_of (ROrder_any _ _ _ _ _ (hd.ext (HXr.out.drewN u)) (HC.out.ext (HXr.out.drewN u)) (by have := HNB.out _ (List.getElem_mem hml); omega))
        have hge : ¬ 0 ≤ ordC N[m] n := by have := HORD.out; omega
        generalize ordC N[m] n = od at *
        have hgt : (0 : Int) < (k : Int) := by omega
        have e0 : wrap64 ((k : Int) - 1) = (m : Int) := by unfold wrap64; omega
        have e1 : IntKind.i64.wrap ((k : Int) - 1) = (m : Int) := by rw [IntKind.wrap_i64]; omega
        have m0 : (0 : Int) ≤ (m : Int) := by omega
        have m1 : (m : Int) < (N.length : Int) := by omega
        clear hd hm HORD hn
        generalize N[m].length = l1 at *
        go_upto_region 8 with fail
        go_quiet ((go_at_call 13; with_reducible exact HRO.out _))
        clear e0 e1 HRO gm
        go_wp2_with fail
        clear g1 gk
        go_loopw [8] (fun v wx => ∃ q : Nat, v = .int .i64 ((q : Int) + 1) ∧ (q + 1 ≤ n.length ∨ q = 0) ∧ Ext w6 wx) (fun v _ => n.length - (intOf v).toNat)
        case atStart => exact ⟨0, rfl, .inr rfl, HXr.out.drewN _⟩
        case round =>
          obtain ⟨q, rfl, hq, hX⟩ := hrel
          have HXq := Lib.hid hX; clear hX
          have g1 := HXq.out.cell HG.out.2
          have gk := HXq.out.cell GK.out
          by_cases hlq : q + 1 < n.length
          · have hi1 : (q : Int) + 1 < (n.length : Int) := by omega
            obtain ⟨b3, o3, h3, g3⟩ := ints_at (HC.out.ext HXq.out) q (by omega)
            cases h3
            obtain ⟨b4, o4, h4, g4⟩ := ints_at (HC.out.ext HXq.out) (q + 1) hlq
            cases h4
            rw [show n.getD q 0 = n[q] by simp [List.getD, show q < n.length by omega]] at g3
            rw [show n.getD (q + 1) 0 = n[q + 1] by simp [List.getD, hlq]] at g4
            have hlt2 := HIN.out q hlq
            have HB1 := Lib.hid (HLB.out _ (List.getElem_mem (show q < n.length by omega)))
            have HB2 := Lib.hid (HLB.out _ (List.getElem_mem hlq))
            generalize n[q] = x at *
            generalize n[q + 1] = y at *
            have HA1 : Hid (∀ u : Nat, Calls Tryd.prog 14 #[.int .i64 x] (wr.drewN u) fun e w' => e = .returned (.int .i64 (absI x)) ∧ ∃ u, w' = wr.drewN u) := fun u => Calls.quiet_of_same (RAbs_any x _ HB1.out.1 HB1.out.2)
            have HA2 : Hid (∀ u : Nat, Calls Tryd.prog 14 #[.int .i64 y] (wr.drewN u) fun e w' => e = .returned (.int .i64 (absI y)) ∧ ∃ u, w' = wr.drewN u) := fun u => Calls.quiet_of_same (RAbs_any y _ HB2.out.1 HB2.out.2)
            have hge : ¬ absI y ≤ absI x := by omega
            clear hlt2
            generalize absI x = ax at *
            generalize absI y = ay at *
            obtain ⟨q1, hq1⟩ : ∃ q1 : Int, q1 = (q : Int) + 1 := ⟨_, rfl⟩
            have e0 : wrap64 ((q : Int) + 1 - 1) = (q : Int) := by unfold wrap64; omega
            have e1 : IntKind.i64.wrap ((q : Int) + 1 - 1) = (q : Int) := by rw [IntKind.wrap_i64]; omega
            have q0 : (0 : Int) ≤ (q : Int) := by omega
            have q2 : (q : Int) < (n.length : Int) := by omega
            have q3 : (0 : Int) ≤ (q : Int) + 1 := by omega
            clear hq1
            go_upto_region 13 with fail
            go_quiet ((go_at_call 14; (first | with_reducible exact HA1.out _ | with_reducible exact HA2.out _)))
            go_wp2_with fail
            exact ⟨⟨q + 1, by go_num, .inl (by omega), HXq.out.drewN _⟩, by simp [intOf]; omega⟩
          · go_wp2_with fail
            exact ⟨⟨k + 1, by omega, by go_num, HXq.out⟩, by simp [intOf]; omega⟩
    · have hkl : k = N.length := by omega
      subst hkl
      have HE0 : Hid (∀ w', Ext wr w' → Calls Tryd.prog 15 #[.agg #[.int .i64 vars, .slice ua N.length uc]] w' fun e w3 => e = .returned (.bool true) ∧ Ext w' w3) := fun w' he => by
        have := CValid_any vars N _ w' ⟨_, rfl, HNL.out.ext (HXr.out.trans he)⟩ HTN.out
        rw [HVN.out] at this; exact this
      have HE1 : Hid (∀ w', Ext wr w' → Calls Tryd.prog 16 #[.agg #[.int .i64 vars, .slice ua N.length uc], .slice va vs.length vc] w' fun e w3 => e = .returned (.bool (evalC vars cl vs)) ∧ Ext w' w3) := fun w' he => by
        have := CEval_any vars N vs _ _ w' ⟨_, rfl, HNL.out.ext (HXr.out.trans he)⟩ HTN.out (SliceAt.ext BoolAt.keeps HV4.out (HX6.out.trans (HXr.out.trans he)))
        rw [HEN.out] at this; exact this
      have HE2 : Hid (∀ w', Ext wr w' → Calls Tryd.prog 16 #[.agg #[.int .i64 vars, .slice fa cl.length fc], .slice va vs.length vc] w' fun e w3 => e = .returned (.bool (evalC vars cl vs)) ∧ Ext w' w3) := fun w' he => CEval_any vars cl vs _ _ w' (HL4.out.ext (HX6.out.trans (HXr.out.trans he))) HTM.out (SliceAt.ext BoolAt.keeps HV4.out (HX6.out.trans (HXr.out.trans he)))
      have HCE : Hid (∀ w', Ext wr w' → w'.cell? ⟨b0, 0, none⟩ = some (.int .i64 vars) ∧ w'.cell? ⟨b0, 1, none⟩ = some (.slice fa cl.length fc) ∧ w'.cell? ⟨bg, 0, none⟩ = some (.int .i64 vars) ∧ w'.cell? ⟨bg, 1, none⟩ = some (.slice ua N.length uc)) := fun w' he =>
        ⟨(HX6.out.trans (HXr.out.trans he)).cell P0.out, (HX6.out.trans (HXr.out.trans he)).cell P1.out, (HXr.out.trans he).cell HG.out.1, (HXr.out.trans he).cell HG.out.2⟩
      have HXR := Lib.hid (HX4.out.trans (HX6.out.trans HXr.out))
      clear HEN HVN HTN HNL HNL5 HN5 HL4 HV4
      generalize evalC vars cl vs = e0 at *
      go_upto_region 15 with fail
      go_region_held3 (fun w' => w'.cell? ⟨b0, 0, none⟩ = some (.int .i64 vars) ∧ w'.cell? ⟨b0, 1, none⟩ = some (.slice fa cl.length fc) ∧ w'.cell? ⟨bg, 0, none⟩ = some (.int .i64 vars) ∧ w'.cell? ⟨bg, 1, none⟩ = some (.slice ua N.length uc))
        ((first
          | assumption
          | (refine HCE.out _ ?_; repeat (first | exact Ext.refl _ | exact Y3.out | apply Ext.drew | apply Ext.alloc)
             done)
          | (refine HCE.out _ ?_; repeat (first | exact Ext.refl _ | exact Y2.out | apply Ext.drew | apply Ext.alloc)
             done)
          | (refine HCE.out _ ?_; repeat (first | exact Ext.refl _ | exact Y1.out | apply Ext.drew | apply Ext.alloc)
             done)
          | (refine HCE.out _ ?_; repeat (first | exact Ext.refl _ | apply Ext.drew | apply Ext.alloc)
             done)
          | fail))
        ((first
          | (go_at_call 16
             have hg0 := Y2.out
             clear hg0
             refine (HE2.out _ (by repeat (first | exact Y2.out | apply Ext.drew | apply Ext.alloc))).mono ?_
             rintro r y3 ⟨rfl, x3⟩
             have Y3 : Hid (Ext wr y3) := Ext.trans (by repeat (first | exact Y2.out | apply Ext.drew | apply Ext.alloc)) x3
             clear x3)
          | (go_at_call 16
             have hg0 := Y1.out
             clear hg0
             refine (HE1.out _ (by repeat (first | exact Y1.out | apply Ext.drew | apply Ext.alloc))).mono ?_
             rintro r y2 ⟨rfl, x2⟩
             have Y2 : Hid (Ext wr y2) := Ext.trans (by repeat (first | exact Y1.out | apply Ext.drew | apply Ext.alloc)) x2
             clear x2)
          | (go_at_call 15
             refine (HE0.out _ (by repeat (first | exact Ext.refl _ | apply Ext.drew | apply Ext.alloc))).mono ?_
             rintro r y1 ⟨rfl, x1⟩
             have Y1 : Hid (Ext wr y1) := Ext.trans (by repeat (first | exact Ext.refl _ | apply Ext.drew | apply Ext.alloc)) x1
             clear x1)
          | fail))
      have HXE := Lib.hid (HXR.out.trans Y3.out)
      go_wp2_with fail
      go_ret
      exact ⟨rfl, HXE.out⟩
end Go.Proofs.YtnkhaobokmmnjaaDoor
