/-
  law32's small; the parts of a formed condition.
-/
import Derived.Test.YtlcgbdjmlnjhcaaGreatDoorG34
import Derived.Test.YtlcgbdjmlnjhcaaGreatDoorG38
namespace Go.Proofs.YtlcgbdjmlnjhcaaGreatDoor
open Go.RowKit
attribute [local go_sem] Oper.semAt_some

theorem formCC_iff {cells : List CellD} {c : CondS} : formCC cells c = true ↔ formC cells c.hyp ∧ formC cells c.goal := by
  unfold formCC formC
  simp only [Bool.and_eq_true, beq_iff_eq]
  constructor
  · rintro ⟨a, b, x, y⟩; exact ⟨⟨a, x⟩, b, y⟩
  · rintro ⟨⟨a, x⟩, b, y⟩; exact ⟨a, b, x, y⟩
theorem occ_choose {cells : List CellD} {a b : List Int} (h : ∀ x, x ∈ a ∨ x ∈ b → ∃ j : Nat, x = (j : Int) ∧ j < cells.length) : occL a b = chooseL cells a b := by
  unfold occL chooseL
  refine upTo_congr fun j _ => ?_
  cases h1 : a.contains (j : Int) || b.contains (j : Int) with
  | false => simp
  | true =>
    simp only [Bool.or_eq_true, List.contains_iff_mem] at h1
    obtain ⟨i, hi, hl⟩ := h _ h1
    have : j < cells.length := by omega
    simp [this]
section
variable {cells : List CellD} {h g : E} (hh : formC cells h) (hg : formC cells g)
include hh hg
theorem occ_old : occL h.supOld g.supOld = hOld cells h g := by
  have key : ∀ e : E, formC cells e → ∀ x ∈ e.supOld, ∃ j : Nat, x = (j : Int) ∧ j < cells.length := fun e he x hx => by
    obtain ⟨y, hy, h3, hn⟩ := sup_leaf.2 hx
    obtain ⟨j, hj, h32, hl, _⟩ := form_leaf he hy (.inr h3)
    exact ⟨j, by rw [← hn, hj], hl⟩
  exact occ_choose fun x hx => hx.elim (key h hh x) (key g hg x)
theorem occ_now : occL h.supNow g.supNow = hNow cells h g := by
  have key : ∀ e : E, formC cells e → ∀ x ∈ e.supNow, ∃ j : Nat, x = (j : Int) ∧ j < cells.length := fun e he x hx => by
    obtain ⟨y, hy, h3, hn⟩ := sup_leaf.1 hx
    obtain ⟨j, hj, h32, hl, _⟩ := form_leaf he hy (.inl h3)
    exact ⟨j, by rw [← hn, hj], hl⟩
  exact occ_choose fun x hx => hx.elim (key h hh x) (key g hg x)
end
theorem parts_eq {cells : List CellD} {c : CondS} (hh : formC cells c.hyp) (hg : formC cells c.goal) : partP c = cP cells c.hyp c.goal ∧ partQ c = cQ cells c.hyp c.goal ∧ partS c = stepB cells c.hyp c.goal := by
  unfold partP partQ partS cP cQ stepB
  rw [occ_old hh hg, occ_now hh hg]
  cases hOld cells c.hyp c.goal with
  | nil => exact ⟨rfl, rfl, rfl⟩
  | cons a r => exact ⟨rfl, rfl, rfl⟩
def small32 (cells : List CellD) (c : CondS) : Bool := small22S cells c 60 && (formCC cells c && decide (sumI (wOf cells (partP c)) + sumI (wOf cells (partQ c)) ≤ 10))

set_option maxRecDepth 100000 in
set_option maxHeartbeats 4000000 in
theorem small32_any (cells : List CellD) (c : CondS) (kv v : Value) (w : World) (hC : Cells w kv cells) (hv : CondV w v c) :
    Calls Tryz.prog 9 #[kv, v] w fun r w' => r = .returned (.bool (small32 cells c)) ∧ Ext w w' := by
  have HCV := hv
  obtain ⟨ha, hl, hcp, ga, gl, gc, rfl, e1, e2⟩ := hv
  obtain ⟨ka, kc, rfl⟩ := SliceAt.shape hC
  have hcl := SliceAt.len_le hC
  obtain ⟨W, hW⟩ : ∃ W, W = w.alloc (.cells (condCells c ha hl hcp ga gl gc) 27) := ⟨_, rfl⟩
  have hX : Ext w W := by rw [hW]; exact (Ext.refl _).alloc _
  have hat : CondAt W w.heap.size c ha hl hcp ga gl gc := by rw [hW]; exact heap_new _ _
  have HAT := Lib.hid hat
  obtain ⟨⟨d0, d1, d2, d3, d4, d5, d6, d7, d8, d9, d10, d11, d12, d13⟩, _⟩ := blocks14 hat
  have HC := Lib.hid (hC.ext hX); have HV := Lib.hid (HCV.ext hX)
  have HX := Lib.hid hX; have HW := Lib.hid hW
  have HS1 := Lib.hid (RSmall22_any cells c _ _ 60 W HC.out HV.out (by omega) (by omega))
  have HF : Hid (small32 cells c = (small22S cells c 60 && (formCC cells c && decide (sumI (wOf cells (partP c)) + sumI (wOf cells (partQ c)) ≤ 10)))) := rfl
  clear hC HCV hX hat e1 e2 hW
  unfold condCells at *
  go_enter Tryz.func9, Tryz.ntmps9
  go_upto_region 1 with fail
  rw [← HW.out]
  clear HW
  generalize w.heap.size = b at *
  go_wp2_with fail
  refine HS1.out.mono ?_
  rintro r w1 ⟨rfl, x1⟩
  have X1 := Lib.hid x1
  clear x1 d0 d1 d2 d3 d4 d5 d6 d7 d8 d9 d10 d11 d12 d13 HS1
  obtain ⟨⟨d0, d1, d2, d3, d4, d5, d6, d7, d8, d9, d10, d11, d12, d13⟩, _⟩ := blocks14 ((X1.out.block _ (lt_heap HAT.out)).trans HAT.out)
  cases hz1 : small22S cells c 60 with
  | false =>
    rw [hz1] at HF
    clear hz1
    go_wp2_with fail
    go_ret
    rw [HF.out]; exact ⟨rfl, HX.out.trans X1.out⟩
  | true =>
    have hcl40 : cells.length ≤ 40 := by
      unfold small22S at hz1
      simp only [Bool.and_eq_true, decide_eq_true_eq] at hz1
      exact hz1.1
    rw [hz1] at HF
    clear hz1
    have HV2 := Lib.hid (RFormed32_any cells c _ _ w1 (HC.out.ext X1.out) (HV.out.ext X1.out))
    go_wp2_with fail
    refine HV2.out.mono ?_
    rintro r w2 ⟨rfl, x2⟩
    have X2 := Lib.hid (X1.out.trans x2)
    clear x2 HV2 d0 d1 d2 d3 d4 d5 d6 d7 d8 d9 d10 d11 d12 d13
    obtain ⟨⟨d0, d1, d2, d3, d4, d5, d6, d7, d8, d9, d10, d11, d12, d13⟩, _⟩ := blocks14 ((X2.out.block _ (lt_heap HAT.out)).trans HAT.out)
    cases hz2 : formCC cells c with
    | false =>
      rw [hz2] at HF
      clear hz2
      go_wp2_with fail
      go_ret
      rw [HF.out]; exact ⟨rfl, HX.out.trans X2.out⟩
    | true =>
      have hform := formCC_iff.1 hz2
      rw [hz2] at HF
      have hpq := parts_eq hform.1 hform.2
      have HB1 : Hid (∀ x ∈ partP c, 0 ≤ x ∧ x < (cells.length : Int) ∧ 1 ≤ wAt cells x ∧ wAt cells x ≤ 8) := fun x hx => by
        rw [hpq.1] at hx; unfold cP at hx
        split at hx
        · have := old_w hform.1 hform.2 hx; omega
        · have := now_w hform.1 hform.2 hx; omega
      have HB2 : Hid (∀ x ∈ partQ c, 0 ≤ x ∧ x < (cells.length : Int) ∧ 1 ≤ wAt cells x ∧ wAt cells x ≤ 8) := fun x hx => by
        rw [hpq.2.1] at hx; unfold cQ at hx
        split at hx
        · have := now_w hform.1 hform.2 hx; omega
        · have := old_w hform.1 hform.2 hx; omega
      have hl1 : (partP c).length ≤ 32 := by
        unfold partP; split
        · exact occL_len _ _
        · exact occL_len _ _
      have hl2 : (partQ c).length ≤ 32 := by
        unfold partQ; split
        · exact Nat.zero_le _
        · exact occL_len _ _
      have HPT := Lib.hid (RParts_any c _ w2 (HV.out.ext X2.out))
      clear hz2 hform hpq
      generalize partP c = P at *
      generalize partQ c = Q at *
      generalize partS c = S at *
      go_wp2_with fail
      refine HPT.out.mono ?_
      rintro r w3 ⟨⟨v1, v2, rfl, i1, i2⟩, x3⟩
      obtain ⟨a1, b1, rfl⟩ := i1.shape
      obtain ⟨a2, b2, rfl⟩ := i2.shape
      have HI1 := Lib.hid i1; have HI2 := Lib.hid i2; have X3 := Lib.hid (X2.out.trans x3)
      clear i1 i2 x3 HPT d0 d1 d2 d3 d4 d5 d6 d7 d8 d9 d10 d11 d12 d13
      go_wp2_with fail
      go_loopw [9, 8] (fun iv nv wr => ∃ k : Nat, k ≤ P.length ∧ iv = .int .i64 k ∧ nv = .int .i64 (sumI (wOf cells (P.take k))) ∧ Ext w3 wr) (fun iv _ _ => P.length - (intOf iv).toNat)
      case atStart => exact ⟨0, Nat.zero_le _, rfl, by simp [wOf, sumI], Ext.refl _⟩
      case round =>
        obtain ⟨k, hk, rfl, rfl, hX⟩ := hrel
        have HXi := Lib.hid hX
        clear hX
        by_cases hlt : k < P.length
        · rcases HI1.out with ⟨_, ee⟩ | ⟨b3, o3, cap3, ee, _, hcl3⟩
          · rw [ee] at hlt; simp at hlt
          cases ee
          have g0 : wr.cell? ⟨b3, o3 + k, none⟩ = some (.int .i64 P[k]) := by have := HXi.out.cell (hcl3 k hlt); rw [Nat.mul_one] at this; exact this
          have hbd := HB1.out _ (List.getElem_mem hlt)
          have hst := sums_take (fun c hc => (HB1.out c hc).2.2) k
          have HSN : Hid (sumI (wOf cells (P.take (k + 1))) = sumI (wOf cells (P.take k)) + wAt cells P[k]) := by unfold Hid; rw [List.take_succ_eq_append_getElem hlt, wOf_app, sumI_snoc]
          obtain ⟨cN, hcN⟩ := Int.eq_ofNat_of_zero_le hbd.1
          have hcL : cN < cells.length := by omega
          have hxc : ∃ (cb co : Nat), ka = some ⟨cb, co, none⟩ ∧ wr.cell? ⟨cb, co + cN * 6 + 1, none⟩ = some (.int .i64 (wAt cells P[k])) := by
            rcases HC.out with ⟨_, ee⟩ | ⟨cb, co, cap', ee, _, hcc⟩
            · rw [ee] at hcL; simp at hcL
            cases ee
            refine ⟨cb, co, rfl, ?_⟩
            rw [(X3.out.trans HXi.out).cell (hcc cN hcL).2.1]
            congr 2
            unfold wAt
            rw [hcN]
            simp [hcL]
          obtain ⟨cb, co, rfl, hcW⟩ := hxc
          rw [hcN] at g0 hbd HSN hcW
          clear hcl3 hcN
          generalize wAt cells (cN : Int) = wd at *
          generalize hsk : sumI (wOf cells (P.take k)) = sk at *
          clear hsk
          have hcI : (cN : Int) < (cells.length : Int) := by omega
          have hc0 : (0 : Int) ≤ (cN : Int) := by omega
          have hwr : wrap64 (sk + wd) = sk + wd := by unfold wrap64; omega
          go_wp2_with fail
          exact ⟨⟨k + 1, by omega, by go_num, by rw [HSN.out], HXi.out⟩, by simp [intOf]; omega⟩
        · obtain rfl : k = P.length := by omega
          rw [List.take_length]
          have hst := sums_take (fun c hc => (HB1.out c hc).2.2) P.length
          rw [List.take_length] at hst
          generalize sumI (wOf cells P) = bo at *
          have HX1 := HXi
          clear HXi
          go_wp2_with fail
          go_loopw [10, 8] (fun iv nv wr => ∃ k : Nat, k ≤ Q.length ∧ iv = .int .i64 k ∧ nv = .int .i64 (bo + sumI (wOf cells (Q.take k))) ∧ Ext w3 wr) (fun iv _ _ => Q.length - (intOf iv).toNat)
          case atStart => exact ⟨0, Nat.zero_le _, rfl, by simp [wOf, sumI], HX1.out⟩
          case round =>
            obtain ⟨k, hk, rfl, rfl, hX⟩ := hrel
            have HXi := Lib.hid hX
            clear hX
            by_cases hlt : k < Q.length
            · rcases HI2.out with ⟨_, ee⟩ | ⟨b3, o3, cap3, ee, _, hcl3⟩
              · rw [ee] at hlt; simp at hlt
              cases ee
              have g0 : wr.cell? ⟨b3, o3 + k, none⟩ = some (.int .i64 Q[k]) := by have := HXi.out.cell (hcl3 k hlt); rw [Nat.mul_one] at this; exact this
              have hbd := HB2.out _ (List.getElem_mem hlt)
              have hst := sums_take (fun c hc => (HB2.out c hc).2.2) k
              have HSN : Hid (sumI (wOf cells (Q.take (k + 1))) = sumI (wOf cells (Q.take k)) + wAt cells Q[k]) := by unfold Hid; rw [List.take_succ_eq_append_getElem hlt, wOf_app, sumI_snoc]
              obtain ⟨cN, hcN⟩ := Int.eq_ofNat_of_zero_le hbd.1
              have hcL : cN < cells.length := by omega
              have hxc : ∃ (cb co : Nat), ka = some ⟨cb, co, none⟩ ∧ wr.cell? ⟨cb, co + cN * 6 + 1, none⟩ = some (.int .i64 (wAt cells Q[k])) := by
                rcases HC.out with ⟨_, ee⟩ | ⟨cb, co, cap', ee, _, hcc⟩
                · rw [ee] at hcL; simp at hcL
                cases ee
                refine ⟨cb, co, rfl, ?_⟩
                rw [(X3.out.trans HXi.out).cell (hcc cN hcL).2.1]
                congr 2
                unfold wAt
                rw [hcN]
                simp [hcL]
              obtain ⟨cb, co, rfl, hcW⟩ := hxc
              rw [hcN] at g0 hbd HSN hcW
              clear hcl3 hcN
              generalize wAt cells (cN : Int) = wd at *
              generalize hsk : sumI (wOf cells (Q.take k)) = sk at *
              clear hsk
              have hcI : (cN : Int) < (cells.length : Int) := by omega
              have hc0 : (0 : Int) ≤ (cN : Int) := by omega
              have hwr : wrap64 (bo + sk + wd) = bo + sk + wd := by unfold wrap64; omega
              go_wp2_with fail
              exact ⟨⟨k + 1, by omega, by go_num, by rw [HSN.out]; simp [Int.add_assoc], HXi.out⟩, by simp [intOf]; omega⟩
            · obtain rfl : k = Q.length := by omega
              rw [List.take_length]
              go_wp2_with fail
              go_ret
              rw [HF.out]; exact ⟨by simp, HX.out.trans (X3.out.trans HXi.out)⟩
end Go.Proofs.YtlcgbdjmlnjhcaaGreatDoor
