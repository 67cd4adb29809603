/-
  The walk of cnf.compare.
-/
import Derived.Test.YtnkhaobokmmnjaaDoorCn6
import Derived.Test.YtnkhaobokmmnjaaDoorShelf
import Derived.BigQuiet
namespace Go.Proofs.YtnkhaobokmmnjaaDoor
open Go.RowKit

set_option maxRecDepth 100000 in
set_option maxHeartbeats 4000000 in
theorem compare_any (a b : List Int) (va vb : Value) (w : World) (ha : Ints w va a) (hb : Ints w vb b) (la : a.length ≤ 1000000) : Calls Tryd.prog 24 #[va, vb] w fun r w' => r = .returned (.int .i64 (ordC a b)) ∧ ∃ q, w' = w.drewN q := by
  obtain ⟨aa, ac, rfl⟩ := ha.shape
  obtain ⟨ba, bc, rfl⟩ := hb.shape
  have HA := Lib.hid ha; have HB := Lib.hid hb
  clear ha hb
  go_enter Tryd.func24, Tryd.ntmps24
  go_wp2_with fail
  go_loopw [12] (fun i wr => ∃ k : Nat, k ≤ a.length ∧ k ≤ b.length ∧ i = .int .i64 k ∧ (∃ q, wr = w.drewN q) ∧ ordC a b = ordC (a.drop k) (b.drop k)) (fun i _ => a.length - (intOf i).toNat)
  case atStart => exact ⟨0, Nat.zero_le _, Nat.zero_le _, rfl, ⟨0, rfl⟩, rfl⟩
  case round =>
    obtain ⟨k, hk, hk2, rfl, hX, hO⟩ := hrel
    obtain ⟨q, hq0⟩ := hX
    have HX : Hid (Ext w wr) := by unfold Hid; rw [hq0]; exact (Ext.refl w).drewN q
    have HD : Hid (∀ m : Nat, ∃ u, wr.drewN m = w.drewN u) := fun m => ⟨q + m, by rw [hq0, World.drewN_drewN]⟩
    have HO := Lib.hid hO; clear hO hq0
    by_cases h1 : k < a.length ∧ k < b.length
    · obtain ⟨h1, h2⟩ := h1
      rcases HA.out.ext HX.out with ⟨_, e⟩ | ⟨b1, o1, cap1, e, _, c1⟩
      · rw [e] at h1; simp at h1
      cases e
      rcases HB.out.ext HX.out with ⟨_, e⟩ | ⟨b2, o2, cap2, e, _, c2⟩
      · rw [e] at h2; simp at h2
      cases e
      have g1 : wr.cell? ⟨b1, o1 + k, none⟩ = some (.int .i64 a[k]) := by have := c1 k h1; rw [Nat.mul_one] at this; exact this
      have g2 : wr.cell? ⟨b2, o2 + k, none⟩ = some (.int .i64 b[k]) := by have := c2 k h2; rw [Nat.mul_one] at this; exact this
      have HO2 := Lib.hid (HO.out.trans (ordC_drop h1 h2))
      have HC : Hid (∀ q : Nat, Calls Tryd.prog 43 #[.int .i64 a[k], .int .i64 b[k]] (wr.drewN q) fun e w' => e = .returned (.int .i64 (Lib.compareInt a[k] b[k])) ∧ ∃ u, w' = wr.drewN u) := fun q => Calls.quiet_of_same (Tryd.cmp_Compare_int _ _ _)
      have hlt : (k : Int) < min (a.length : Int) (b.length : Int) := by omega
      have i1 : (k : Int) < (a.length : Int) := by omega
      have i2 : (k : Int) < (b.length : Int) := by omega
      clear c1 c2 HO
      generalize a[k] = x at *
      generalize b[k] = y at *
      obtain ⟨z, hz⟩ : ∃ z, z = Lib.compareInt x y := ⟨_, rfl⟩
      rw [← hz] at HC
      by_cases h3 : x < y
      · rw [if_pos h3] at HO2
        have h5 : z = -1 := by rw [hz]; unfold Lib.compareInt; simp [h3]
        subst h5
        clear hz
        go_upto_region 4 with fail
        go_quiet ((go_at_call 43; with_reducible exact HC.out _))
        go_wp2_with fail
        go_ret
        exact ⟨by rw [HO2.out]; rfl, HD.out _⟩
      by_cases h4 : y < x
      · rw [if_neg h3, if_pos h4] at HO2
        have h5 : z = 1 := by rw [hz]; unfold Lib.compareInt; simp [h3, h4]
        subst h5
        clear hz
        go_upto_region 4 with fail
        go_quiet ((go_at_call 43; with_reducible exact HC.out _))
        go_wp2_with fail
        go_ret
        exact ⟨by rw [HO2.out]; rfl, HD.out _⟩
      rw [if_neg h3, if_neg h4] at HO2
      have h5 : z = 0 := by rw [hz]; unfold Lib.compareInt; simp [h3, h4]
      subst h5
      clear hz
      go_upto_region 4 with fail
      go_quiet ((go_at_call 43; with_reducible exact HC.out _))
      go_wp2_with fail
      exact ⟨⟨k + 1, by omega, by omega, by go_num, HD.out _, HO2.out⟩, by simp [intOf]; omega⟩
    · have HE : Hid (ordC a b = Lib.compareInt (a.length : Int) (b.length : Int)) := by
        unfold Hid; rw [HO.out]; unfold Lib.compareInt
        by_cases h2 : k < a.length
        · rw [ordC_end_b h2 (by omega)]; simp; omega
        · by_cases h3 : k < b.length
          · rw [ordC_end_a (by omega) h3]; simp; omega
          · rw [ordC_end (by omega) (by omega)]; simp; omega
      have hge : ¬ (k : Int) < min (a.length : Int) (b.length : Int) := by omega
      go_wp2_with fail
      refine (Tryd.cmp_Compare_int _ _ _).mono ?_
      rintro r w2 ⟨rfl, rfl⟩
      go_wp2_with fail
      go_ret
      exact ⟨by rw [HE.out]; rfl, HD.out 0⟩
end Go.Proofs.YtnkhaobokmmnjaaDoor
