/-
  The walks of the reference's Abs, Order, SameInts, Has.
-/
import Derived.Test.YtnkhaobokmmnjaaDoorCn3
namespace Go.Proofs.YtnkhaobokmmnjaaDoor
open Go.RowKit

theorem ordC_drop {a b : List Int} {k : Nat} (ha : k < a.length) (hb : k < b.length) : ordC (a.drop k) (b.drop k) = if a[k] < b[k] then -1 else if b[k] < a[k] then 1 else ordC (a.drop (k + 1)) (b.drop (k + 1)) := by
  rw [List.drop_eq_getElem_cons ha, List.drop_eq_getElem_cons hb]; rfl
theorem ordC_end_a {a b : List Int} {k : Nat} (ha : a.length ≤ k) (hb : k < b.length) : ordC (a.drop k) (b.drop k) = -1 := by
  rw [List.drop_eq_nil_of_le ha, List.drop_eq_getElem_cons hb]; rfl
theorem ordC_end_b {a b : List Int} {k : Nat} (ha : k < a.length) (hb : b.length ≤ k) : ordC (a.drop k) (b.drop k) = 1 := by
  rw [List.drop_eq_nil_of_le hb, List.drop_eq_getElem_cons ha]; rfl
theorem ordC_end {a b : List Int} {k : Nat} (ha : a.length ≤ k) (hb : b.length ≤ k) : ordC (a.drop k) (b.drop k) = 0 := by
  rw [List.drop_eq_nil_of_le hb, List.drop_eq_nil_of_le ha]; rfl

set_option maxHeartbeats 1000000 in
theorem RAbs_any (l : Int) (w : World) (h : InI l) (h1 : l ≠ -9223372036854775808) : Calls Tryd.prog 14 #[.int .i64 l] w fun r w' => r = .returned (.int .i64 (absI l)) ∧ w' = w := by
  have HA : Hid (absI l = if l < 0 then -l else l) := rfl
  unfold InI at h
  go_enter Tryd.func14, Tryd.ntmps14
  by_cases h0 : l < 0
  · have hw : wrap64 (-l) = -l := by unfold wrap64; omega
    rw [if_pos h0] at HA
    go_wp2_with fail
    go_ret
    exact ⟨by rw [HA.out]; rfl, rfl⟩
  · rw [if_neg h0] at HA
    go_wp2_with fail
    go_ret
    exact ⟨by rw [HA.out]; rfl, rfl⟩

set_option maxRecDepth 100000 in
set_option maxHeartbeats 4000000 in
theorem ROrder_any (a b : List Int) (va vb : Value) (w : World) (ha : Ints w va a) (hb : Ints w vb b) (la : a.length ≤ 1000000) : Calls Tryd.prog 13 #[va, vb] w fun r w' => r = .returned (.int .i64 (ordC a b)) ∧ ∃ q, w' = w.drewN q := by
  obtain ⟨aa, ac, rfl⟩ := ha.shape
  obtain ⟨ba, bc, rfl⟩ := hb.shape
  have HA := Lib.hid ha; have HB := Lib.hid hb
  clear ha hb
  go_enter Tryd.func13, Tryd.ntmps13
  go_wp2_with fail
  go_loopw [5] (fun i wr => ∃ k : Nat, k ≤ a.length ∧ k ≤ b.length ∧ i = .int .i64 k ∧ (∃ q, wr = w.drewN q) ∧ ordC a b = ordC (a.drop k) (b.drop k)) (fun i _ => a.length - (intOf i).toNat)
  case atStart => exact ⟨0, Nat.zero_le _, Nat.zero_le _, rfl, ⟨0, rfl⟩, rfl⟩
  case round =>
    obtain ⟨k, hk, hk2, rfl, hX, hO⟩ := hrel
    obtain ⟨q, hq0⟩ := hX
    have HX : Hid (Ext w wr) := by unfold Hid; rw [hq0]; exact (Ext.refl w).drewN q
    have HD : Hid (∀ m : Nat, ∃ u, wr.drewN m = w.drewN u) := fun m => ⟨q + m, by rw [hq0, World.drewN_drewN]⟩
    have HO := Lib.hid hO; clear hO hq0
    by_cases h1 : k < a.length
    · by_cases h2 : k < b.length
      · rcases HA.out.ext HX.out with ⟨_, e⟩ | ⟨b1, o1, cap1, e, _, c1⟩
        · rw [e] at h1; simp at h1
        cases e
        rcases HB.out.ext HX.out with ⟨_, e⟩ | ⟨b2, o2, cap2, e, _, c2⟩
        · rw [e] at h2; simp at h2
        cases e
        have g1 : wr.cell? ⟨b1, o1 + k, none⟩ = some (.int .i64 a[k]) := by have := c1 k h1; rw [Nat.mul_one] at this; exact this
        have g2 : wr.cell? ⟨b2, o2 + k, none⟩ = some (.int .i64 b[k]) := by have := c2 k h2; rw [Nat.mul_one] at this; exact this
        have HO2 := Lib.hid (HO.out.trans (ordC_drop h1 h2))
        clear c1 c2 HO
        generalize a[k] = x at *
        generalize b[k] = y at *
        by_cases h3 : x < y
        · rw [if_pos h3] at HO2
          go_wp2_with fail
          go_region
          go_wp2_with fail
          go_ret
          exact ⟨by rw [HO2.out]; rfl, HD.out 1⟩
        by_cases h4 : y < x
        · rw [if_neg h3, if_pos h4] at HO2
          go_wp2_with fail
          go_region
          go_wp2_with fail
          go_region
          go_wp2_with fail
          go_ret
          exact ⟨by rw [HO2.out]; rfl, HD.out 2⟩
        rw [if_neg h3, if_neg h4] at HO2
        go_wp2_with fail
        go_region
        go_wp2_with fail
        go_region
        go_wp2_with fail
        exact ⟨⟨k + 1, by omega, by omega, by go_num, HD.out 2, HO2.out⟩, by simp [intOf]; omega⟩
      · have HO2 := Lib.hid (HO.out.trans (ordC_end_b h1 (by omega)))
        have h3 : b.length < a.length := by omega
        go_wp2_with fail
        all_goals (go_ret; exact ⟨by rw [HO2.out]; rfl, HD.out 0⟩)
    · by_cases h2 : k < b.length
      · have HO2 := Lib.hid (HO.out.trans (ordC_end_a (by omega) h2))
        have h3 : a.length < b.length := by omega
        go_wp2_with fail
        all_goals (go_ret; exact ⟨by rw [HO2.out]; rfl, HD.out 0⟩)
      · have HO2 := Lib.hid (HO.out.trans (ordC_end (by omega) (by omega)))
        have h3 : a.length = b.length := by omega
        go_wp2_with fail
        all_goals (go_ret; exact ⟨by rw [HO2.out]; rfl, HD.out 0⟩)
set_option maxHeartbeats 1000000 in
theorem RSameInts_any (a b : List Int) (va vb : Value) (w : World) (ha : Ints w va a) (hb : Ints w vb b) (la : a.length ≤ 1000000) : Calls Tryd.prog 30 #[va, vb] w fun r w' => r = .returned (.bool (decide (a = b))) ∧ ∃ q, w' = w.drewN q := by
  obtain ⟨aa, ac, rfl⟩ := ha.shape
  obtain ⟨ba, bc, rfl⟩ := hb.shape
  have HA := Lib.hid ha; have HB := Lib.hid hb
  clear ha hb
  have HQ : Hid (decide (ordC a b = 0) = decide (a = b)) := by unfold Hid; exact decide_eq_decide.2 ordC_eq
  go_enter Tryd.func30, Tryd.ntmps30
  go_wp2_with fail
  refine (ROrder_any a b _ _ w HA.out HB.out la).mono ?_
  rintro r w1 ⟨rfl, q, x1⟩
  have HX : Hid (∃ q, w1 = w.drewN q) := ⟨q, x1⟩
  clear x1
  generalize ordC a b = o at *
  by_cases h : o = 0
  · subst h
    have HQ2 := Lib.hid (HQ.out.symm)
    go_wp2_with fail
    go_ret
    exact ⟨by rw [HQ2.out]; rfl, HX.out⟩
  · have HQ2 : Hid (decide (a = b) = false) := by unfold Hid; rw [← HQ.out]; exact decide_eq_false h
    have h2 : (o == 0) = false := by simpa using h
    go_wp2_with fail
    go_ret
    exact ⟨by rw [HQ2.out]; simp, HX.out⟩

set_option maxRecDepth 100000 in
set_option maxHeartbeats 4000000 in
theorem RHas_any (c : List Int) (l : Int) (vc : Value) (w : World) (hc : Ints w vc c) (hl : c.length ≤ 1000000) : Calls Tryd.prog 21 #[vc, .int .i64 l] w fun r w' => r = .returned (.bool (decide (l ∈ c))) ∧ Ext w w' := by
  obtain ⟨a, cp, rfl⟩ := hc.shape
  have HC := Lib.hid hc
  clear hc
  go_enter Tryd.func21, Tryd.ntmps21
  go_wp2_with fail
  go_loopw [5] (fun i wr => ∃ k : Nat, k ≤ c.length ∧ i = .int .i64 k ∧ Ext w wr ∧ l ∉ c.take k) (fun i _ => c.length - (intOf i).toNat)
  case atStart => exact ⟨0, Nat.zero_le _, rfl, Ext.refl _, by simp⟩
  case round =>
    obtain ⟨k, hk, rfl, hX, hO⟩ := hrel
    have HX := Lib.hid hX; have HO := Lib.hid hO; clear hX hO
    by_cases h1 : k < c.length
    · rcases HC.out.ext HX.out with ⟨_, e⟩ | ⟨b1, o1, cap1, e, _, c1⟩
      · rw [e] at h1; simp at h1
      cases e
      have g1 : wr.cell? ⟨b1, o1 + k, none⟩ = some (.int .i64 c[k]) := by have := c1 k h1; rw [Nat.mul_one] at this; exact this
      clear c1
      have HY : Hid (c[k] = l → decide (l ∈ c) = true) := fun e => decide_eq_true (e ▸ List.getElem_mem h1)
      have HN : Hid (c[k] ≠ l → l ∉ c.take (k + 1)) := fun e => by
        rw [List.take_succ_eq_append_getElem h1, List.mem_append, List.mem_singleton]
        rintro (h | h)
        · exact HO.out h
        · exact e h.symm
      generalize c[k] = x at *
      by_cases h2 : x = l
      · have HY2 := Lib.hid (HY.out h2)
        subst h2
        clear HY HN
        go_wp2_with fail
        go_ret
        exact ⟨by rw [HY2.out]; rfl, HX.out⟩
      · have HN2 := Lib.hid (HN.out h2)
        have h3 : (x == l) = false := by simpa using h2
        clear HY HN
        go_wp2_with fail
        exact ⟨⟨k + 1, by omega, by go_num, HX.out, HN2.out⟩, by simp [intOf]; omega⟩
    · have HN2 : Hid (decide (l ∈ c) = false) := by
        have := HO.out; rw [List.take_of_length_le (by omega)] at this; exact decide_eq_false this
      go_wp2_with fail
      go_ret
      exact ⟨by rw [HN2.out]; rfl, HX.out⟩
end Go.Proofs.YtnkhaobokmmnjaaDoor
