/-
  The walk of the law ProofTrims.
-/
import Derived.Test.YteclcnbaaiidbaaDoorLp0
namespace Go.Proofs.YteclcnbaaiidbaaDoor
open Go.RowKit

/-- Whether a step behind k and ahead of i has step k as a hint. -/
def usedTo (T : List St) (n k i : Nat) : Bool := (List.range i).any fun q => decide (k < q) && decide (((n + k : Nat) : Int) ∈ (T.getD q st0).hints)
theorem usedTo_start (T : List St) (n k : Nat) : usedTo T n k (k + 1) = false := by
  unfold usedTo
  rw [List.any_eq_false]
  intro q hq
  have := List.mem_range.1 hq
  rw [decide_eq_false (by omega)]; simp
theorem usedTo_succ (T : List St) (n k i : Nat) (h : k < i) : usedTo T n k (i + 1) = (usedTo T n k i || decide (((n + k : Nat) : Int) ∈ (T.getD i st0).hints)) := by
  unfold usedTo
  rw [List.range_succ, List.any_append, List.any_cons, List.any_nil, decide_eq_true h, Bool.true_and, Bool.or_false]
theorem usedTo_yes {T : List St} {n k i : Nat} (h : ∃ q, k < q ∧ q < i ∧ ((n + k : Nat) : Int) ∈ (T.getD q st0).hints) : usedTo T n k i = true := by
  obtain ⟨q, h1, h2, h3⟩ := h
  unfold usedTo
  rw [List.any_eq_true]
  exact ⟨q, List.mem_range.2 h2, by rw [decide_eq_true h1, decide_eq_true h3]; rfl⟩
theorem mem_take_succ (hs : List Int) (x : Int) (j : Nat) (h : j < hs.length) : decide (x ∈ hs.take (j + 1)) = (decide (x ∈ hs.take j) || (hs.getD j 0 == x)) := by
  have e : hs.getD j 0 = hs[j] := by simp [List.getD, h]
  rw [e, List.take_succ_eq_append_getElem h, Bool.eq_iff_iff]
  simp only [decide_eq_true_eq, Bool.or_eq_true, List.mem_append, List.mem_singleton, beq_iff_eq]
  exact or_congr_right eq_comm
theorem keep4 {w w' : World} {p q r s : Addr} {u v x y : Value} (hx : Ext w w') (h : w.cell? p = some u) (k : w.cell? q = some v) (l : w.cell? r = some x) (m : w.cell? s = some y) : w'.cell? p = some u ∧ w'.cell? q = some v ∧ w'.cell? r = some x ∧ w'.cell? s = some y := ⟨hx.cell h, hx.cell k, hx.cell l, hx.cell m⟩
set_option maxRecDepth 100000 in
set_option maxHeartbeats 8000000 in
theorem ProofTrims_any (vars : Int) (cl : List (List Int)) (l : List St) (vf vl : Value) (w : World) (hf : CnfV w vf vars cl) (hl : Steps w vl l) (hi : Inp vars l) (hT : PTab w) :
    Calls Tryd.prog 4 #[vf, vl] w fun r w' => r = .returned (.bool true) ∧ Ext w w' := by
  obtain ⟨fa, fc, rfl, hcl⟩ := hf.shape
  obtain ⟨la, lc, rfl⟩ := SliceAt.shape hl
  obtain ⟨W, hW⟩ : ∃ W, W = w.alloc (.cells #[.int .i64 vars, .slice fa cl.length fc] 27) := ⟨_, rfl⟩
  have hx : Ext w W := by rw [hW]; exact (Ext.refl w).alloc _
  have hB : W.heap[w.heap.size]? = some (.cells #[.int .i64 vars, .slice fa cl.length fc] 27 (0, 0)) := by rw [hW]; exact heap_new _ _
  have HX := Lib.hid hx; have HB := Lib.hid hB; have HW := Lib.hid hW; have HF := Lib.hid (hf.ext hx); have HL := Lib.hid (hl.ext hx); have HI := Lib.hid hi; have HT := Lib.hid (hT.ext hx)
  clear hf hl hcl hx hB hW hi hT
  go_enter Tryd.func4, Tryd.ntmps4
  go_upto_region 1 with fail
  rw [← HW.out]
  clear HW
  generalize w.heap.size = b0 at *
  go_wp2_with fail
  refine (head_any W HT.out).mono ?_
  rintro r w1 ⟨rfl, x1⟩
  have X1 := Lib.hid x1
  have g0 : w1.cell? ⟨b0, 0, none⟩ = some (.int .i64 vars) := by rw [Lib.cell_of_heap ((x1.block _ (lt_heap HB.out)).trans HB.out)]; rfl
  have g1 : w1.cell? ⟨b0, 1, none⟩ = some (.slice fa cl.length fc) := by rw [Lib.cell_of_heap ((x1.block _ (lt_heap HB.out)).trans HB.out)]; rfl
  clear x1
  go_wp2_with fail
  refine (PSmall_any vars cl l _ _ w1 (HF.out.ext X1.out) (HL.out.ext X1.out)).mono ?_
  rintro r w2 ⟨rfl, x2⟩
  have X2 := Lib.hid (X1.out.trans x2)
  replace g0 := x2.cell g0; replace g1 := x2.cell g1
  clear x2
  cases hs : smallP cl l with
  | false =>
    go_wp2_with fail
    go_ret
    exact ⟨rfl, HX.out.trans X2.out⟩
  | true =>
    have HS := Lib.hid (small_iff hs).1
    go_wp2_with fail
    refine (PValid_any vars cl l _ _ w2 (HF.out.ext X2.out) (HL.out.ext X2.out) (HS.out.tame HI.out)).mono ?_
    rintro r w3 ⟨rfl, x3⟩
    have X3 := Lib.hid (X2.out.trans x3)
    replace g0 := x3.cell g0; replace g1 := x3.cell g1
    clear x3
    cases hv : validP vars cl.length l with
    | false =>
      go_wp2_with fail
      go_ret
      exact ⟨rfl, HX.out.trans X3.out⟩
    | true =>
      have HV := Lib.hid hv
      by_cases h0 : l.length = 0
      · have hz : ((l.length : Int) == 0) = true := by rw [h0]; rfl
        clear h0
        go_wp2_with fail
        go_ret
        exact ⟨rfl, HX.out.trans X3.out⟩
      have hz : ((l.length : Int) == 0) = false := by rw [beq_eq_false_iff_ne]; omega
      have hvp := valid_iff.1 hv
      have hne : l ≠ [] := fun e => h0 (by rw [e]; rfl)
      have HVT : Hid (validP vars cl.length (trimL cl.length l) = true) := valid_iff.2 (trim_valid hvp)
      have HLA := Lib.hid (trim_last (n := cl.length) hne)
      have HUS : Hid (∀ p, p + 1 < (trimL cl.length l).length → ∃ q, p < q ∧ q < (trimL cl.length l).length ∧ ((cl.length + p : Nat) : Int) ∈ ((trimL cl.length l).getD q st0).hints) := fun p hp => trim_used hvp hp
      have HTW : Hid (trimL cl.length (trimL cl.length l) = trimL cl.length l) := trim_twice hvp
      have HLE := Lib.hid (trim_le cl.length l)
      have HSM : Hid (SmallI cl (trimL cl.length l)) := HS.out.trim
      have HIP : Hid (Inp vars (trimL cl.length l)) := HI.out.trim
      clear hvp hne hv hs
      go_wp2_with fail
      refine (Trim_ok (HF.out.ext X3.out) (HL.out.ext X3.out) (HS.out.tame HI.out) HV.out).mono ?_
      rintro r w5 ⟨ta, tc, rfl, ht, x5⟩
      have X5 := Lib.hid (X3.out.trans x5); have T5 := Lib.hid ht
      replace g0 := x5.cell g0; replace g1 := x5.cell g1
      clear x5 ht
      generalize trimL cl.length l = T at *
      obtain ⟨M1, hM1⟩ : ∃ M1, T.length = M1 + 1 := ⟨T.length - 1, by have := HLA.out.1; omega⟩
      obtain ⟨L1, hL1⟩ : ∃ L1, l.length = L1 + 1 := ⟨l.length - 1, by omega⟩
      have HLQ : Hid ((T.getD M1 st0).lits = (l.getD L1 st0).lits) := by
        have := HLA.out.2
        rw [hM1, hL1] at this; exact this
      have hcn := HS.out.clen
      have hML : T.length ≤ l.length := HLE.out
      have hMB : decide (l.length < T.length) = false := decide_eq_false (by omega)
      have hM0 : ((T.length : Int) == 0) = false := by rw [beq_eq_false_iff_ne]; omega
      have hmw : IntKind.i64.wrap ((T.length : Int) - 1) = (M1 : Int) := by rw [IntKind.wrap_i64]; have := HSM.out.len; omega
      have hlw : IntKind.i64.wrap ((l.length : Int) - 1) = (L1 : Int) := by rw [IntKind.wrap_i64]; have := HS.out.len; omega
      have hmw2 : wrap64 ((T.length : Int) - 1) = (M1 : Int) := by unfold wrap64; have := HSM.out.len; omega
      have m0 : (0 : Int) ≤ (M1 : Int) := by omega
      have m1 : (M1 : Int) < (T.length : Int) := by omega
      have l0' : (0 : Int) ≤ (L1 : Int) := by omega
      have l1 : (L1 : Int) < (l.length : Int) := by omega
      have HM1 := Lib.hid hM1
      have HLEN := Lib.hid HSM.out.len
      obtain ⟨tb, to, a1, c1, a2, c2, hta, d0, d1, i1, i2⟩ := T5.out.getD_at (k := M1) (by omega)
      obtain ⟨lb, lo, a3, c3, a4, c4, hla, d2, d3, i3, i4⟩ := (HL.out.ext X5.out).getD_at (k := L1) (by omega)
      subst hta hla
      have I1 := Lib.hid i1; have I3 := Lib.hid i3
      clear d1 d3 i1 i2 i3 i4 h0 hM1 hL1 HLA
      rw [HLQ.out] at d0 I1
      clear HLQ
      generalize (l.getD L1 st0).lits = lits at *
      have G0 := Lib.hid g0; have G1 := Lib.hid g1
      have HFD := Lib.hid ((HF.out.ext X5.out).ext (Ext.refl w5).drew); have TD := Lib.hid (T5.out.ext (Ext.refl w5).drew)
      have HTM : Hid (Tame vars cl T) := HSM.out.tame HIP.out
      go_upto_region 5 with fail
      go_region_held3 (fun w' => w'.cell? ⟨b0, 0, none⟩ = some (.int .i64 vars) ∧ w'.cell? ⟨b0, 1, none⟩ = some (.slice fa cl.length fc) ∧ w'.cell? ⟨tb, to + M1 * 2, none⟩ = some (.slice a1 lits.length c1) ∧ w'.cell? ⟨lb, lo + L1 * 2, none⟩ = some (.slice a3 lits.length c3))
        (first | exact ⟨g0, g1, d0, d2⟩ | (with_reducible exact keep4 hx1 g0 g1 d0 d2) | (with_reducible exact keep4 hx2 g0 g1 d0 d2) | fail)
        (first
          | (go_at_call 14; refine (PValid_any vars cl T _ _ _ HFD.out TD.out HTM.out).mono ?_; rintro r w6 ⟨rfl, hx1'⟩; rw [HVT.out]; have hx1 : Ext w5 w6 := (Ext.refl w5).drew.trans hx1'; clear hx1')
          | (go_at_call 16; refine (RInts_q lits lits _ _ _ (I1.out.ext hx1) (I3.out.ext hx1)).mono ?_; rintro r w7 ⟨rfl, hq⟩; rw [show decide (lits = lits) = true from decide_eq_true rfl]; have hx2 : Ext w5 w7 := hx1.trans (by obtain ⟨q, rfl⟩ := hq; exact (Ext.refl _).drewN q); clear hq))
      have HX7 := Lib.hid (X5.out.trans hx2)
      have HX5 := Lib.hid hx2
      have g1' := hx2.cell g1
      clear hx1 hx2 g0 g1 d0 d2 HFD TD I1 I3 hML hMB hM0 hlw l0' l1 hmw
      generalize hMT : T.length = M at *
      have HMT2 := Lib.hid hMT
      clear hMT
      go_wp2_with fail
      go_loopw [8] (fun p wr => ∃ k : Nat, k ≤ M1 ∧ p = .int .i64 k ∧ Ext w5 wr) (fun p _ => M1 - (intOf p).toNat)
      case atStart => exact ⟨0, Nat.zero_le _, rfl, HX5.out⟩
      case round =>
        obtain ⟨k, hk, rfl, hXr⟩ := hrel
        have HXr := Lib.hid hXr; clear hXr g1'
        by_cases hlt : k < M1
        · have hlt' : (k : Int) < (M1 : Int) := by omega
          have HMX : Hid (M ≤ 61) := HLEN.out
          have hkw : wrap64 ((k : Int) + 1) = ((k + 1 : Nat) : Int) := by unfold wrap64; have := HMX.out; have := HM1.out; omega
          have HKW := Lib.hid hkw
          clear hkw
          have HU0 : Hid (usedTo T cl.length k (k + 1) = false) := usedTo_start _ _ _
          have HUM : Hid (usedTo T cl.length k M = true) := usedTo_yes (HUS.out k (by have := HM1.out; omega))
          go_wp2_with fail
          go_loopw [9, 10] (fun u p wr => ∃ i : Nat, k + 1 ≤ i ∧ i ≤ M ∧ p = .int .i64 i ∧ u = .bool (usedTo T cl.length k i) ∧ Ext w5 wr) (fun _ p _ => M - (intOf p).toNat)
          case atStart => exact ⟨k + 1, Nat.le_refl _, by have := HM1.out; omega, by rw [HKW.out], by rw [HU0.out], HXr.out⟩
          case round =>
            obtain ⟨i, hi1, hi2, rfl, rfl, hXi⟩ := hrel
            have HXi := Lib.hid hXi; clear hXi
            by_cases hli : i < M
            · obtain ⟨tb', to', a5, c5, a6, c6, hta', e0, e1, j1, j2⟩ := (T5.out.ext HXi.out).getD_at (k := i) (by have := HMT2.out; omega)
              cases hta'
              have HSU := Lib.hid (usedTo_succ T cl.length k i (by omega))
              have J2 := Lib.hid j2
              have hlh := SliceAt.len_le j2
              have i0 : (0 : Int) ≤ (i : Int) := by omega
              have i1 : (i : Int) < (M : Int) := by omega
              have HE1 : Hid (∀ wx, Ext wr wx → wx.cell? ⟨tb, to + i * 2 + 1, none⟩ = some (.slice a6 (T.getD i st0).hints.length c6)) := fun wx hx => hx.cell e1
              have HHL : Hid ((T.getD i st0).hints.length ≤ 24) := HSM.out.hints _ (getD_mem (by have := HMT2.out; omega))
              clear e0 e1 j1 j2
              have hiw : wrap64 ((i : Int) + 1) = ((i + 1 : Nat) : Int) := by unfold wrap64; have := HMX.out; omega
              have HIW := Lib.hid hiw
              clear hiw
              generalize (T.getD i st0).hints = hs at *
              generalize usedTo T cl.length k i = u0 at *
              go_wp2_with fail
              go_loopw [9, 11] (fun u p wx => ∃ j : Nat, j ≤ hs.length ∧ p = .int .i64 j ∧ u = .bool (u0 || decide (((cl.length + k : Nat) : Int) ∈ hs.take j)) ∧ Ext wr wx) (fun _ p _ => hs.length - (intOf p).toNat)
              case atStart => exact ⟨0, Nat.zero_le _, rfl, by simp, Ext.refl _⟩
              case round =>
                obtain ⟨j, hj, rfl, rfl, hXj⟩ := hrel
                have HXj := Lib.hid hXj; clear hXj
                have d1 := HE1.out _ HXj.out
                have HXX := Lib.hid (HXi.out.trans HXj.out)
                have gB := HXX.out.cell G1.out
                by_cases hlj : j < hs.length
                · have hJ : Ints wr (.slice a6 hs.length c6) hs := J2.out.ext HXj.out
                  obtain ⟨bh, oh, rfl, ch⟩ := ints_at hJ j hlj
                  have HMT := Lib.hid (mem_take_succ hs ((cl.length + k : Nat) : Int) j hlj)
                  have hjl := HHL.out
                  have j0 : (0 : Int) ≤ (j : Int) := by omega
                  have j1 : (j : Int) < (hs.length : Int) := by omega
                  have hnk : IntKind.i64.wrap ((cl.length : Int) + (k : Int)) = ((cl.length + k : Nat) : Int) := by rw [IntKind.wrap_i64]; have := HMX.out; have := HM1.out; omega
                  have hnk2 : wrap64 ((cl.length : Int) + (k : Int)) = ((cl.length + k : Nat) : Int) := by unfold wrap64; have := HMX.out; have := HM1.out; omega
                  clear hJ
                  generalize hs.getD j 0 = h at *
                  generalize decide (((cl.length + k : Nat) : Int) ∈ hs.take j) = u1 at *
                  generalize ((cl.length + k : Nat) : Int) = y at *
                  cases hu : (u0 || u1) with
                  | true =>
                    have HR : Hid ((u0 || decide (y ∈ hs.take (j + 1))) = true) := by
                      unfold Hid; rw [HMT.out]; cases u0 <;> cases u1 <;> simp_all
                    go_upto_region 17 with fail
                    go_quiet (fail)
                    go_wp2_with fail
                    exact ⟨⟨j + 1, by omega, by go_num, by rw [HR.out], HXj.out.drewN _⟩, by simp [intOf]; omega⟩
                  | false =>
                    have HR : Hid ((u0 || decide (y ∈ hs.take (j + 1))) = (h == y)) := by
                      unfold Hid; rw [HMT.out]; cases u0 <;> cases u1 <;> simp_all
                    go_upto_region 17 with fail
                    go_quiet (fail)
                    go_wp2_with fail
                    exact ⟨⟨j + 1, by omega, by go_num, by rw [HR.out], HXj.out.drewN _⟩, by simp [intOf]; omega⟩
                · obtain rfl : j = hs.length := by omega
                  rw [List.take_length, ← HSU.out]
                  go_wp2_with fail
                  exact ⟨⟨i + 1, by omega, by omega, by rw [HIW.out], rfl, HXX.out⟩, by rw [HIW.out]; simp [intOf]; omega⟩
            · obtain rfl : i = M := by omega
              rw [HUM.out]
              clear hmw2 m0 m1
              go_wp2_with fail
              exact ⟨⟨k + 1, by omega, by rw [HKW.out], HXi.out⟩, by rw [HKW.out]; simp [intOf]; omega⟩
        · obtain rfl : k = M1 := by omega
          have gA := HXr.out.cell G0.out; have gB := HXr.out.cell G1.out
          go_wp2_with fail
          refine (Trim_ok ((HF.out.ext X5.out).ext HXr.out) (T5.out.ext HXr.out) HTM.out HVT.out).mono ?_
          rintro r w9 ⟨ua, uc, rfl, hu, x9⟩
          rw [HTW.out] at hu ⊢
          have X9 := Lib.hid (HXr.out.trans x9); have U9 := Lib.hid hu
          clear x9 hu gA gB
          go_wp2_with fail
          refine (RSame_any T T _ _ w9 U9.out (T5.out.ext X9.out)).mono ?_
          rintro r w10 ⟨rfl, x10⟩
          rw [show sameP T T = true from sameP_iff.2 rfl]
          have X10 := Lib.hid (X9.out.trans x10)
          clear x10
          go_wp2_with fail
          go_ret
          exact ⟨rfl, HX.out.trans (X5.out.trans X10.out)⟩
end Go.Proofs.YteclcnbaaiidbaaDoor
