/-
  The walks of the reference's Ints and Var, of law25's has, ranged and clause.
-/
import Derived.Test.YtoopoljchhdobaaDoorPs1
import Derived.Test.YtoopoljchhdobaaDoorPl2
import Derived.BigQuiet
namespace Go.Proofs.YtoopoljchhdobaaDoor
open Go.RowKit

set_option maxHeartbeats 1000000 in
/-- Equal lists. -/
theorem RInts_q (l m : List Int) (vl vm : Value) (w : World) (hl : Ints w vl l) (hm : Ints w vm m) : Calls Tryd.prog 34 #[vl, vm] w fun r w' => r = .returned (.bool (decide (l = m))) ∧ ∃ q, w' = w.drewN q := by
  obtain ⟨la, lc, rfl⟩ := hl.shape
  obtain ⟨ma, mc, rfl⟩ := hm.shape
  have hlen := SliceAt.len_le hl
  have hlen2 := SliceAt.len_le hm
  have HL := Lib.hid hl; have HM := Lib.hid hm; clear hl hm
  by_cases he : l.length = m.length
  · have heb : (((l.length : Nat) : Int) != ((m.length : Nat) : Int)) = false := by rw [he]; simp
    have HEQ := Lib.hid he; clear he
    go_enter Tryd.func34, Tryd.ntmps34
    go_wp2_with fail
    go_loopw [5] (fun i wr => ∃ k : Nat, k ≤ l.length ∧ i = .int .i64 k ∧ (∃ q, wr = w.drewN q) ∧ ∀ j, j < k → l.getD j 0 = m.getD j 0) (fun i _ => l.length - (intOf i).toNat)
    case atStart => exact ⟨0, Nat.zero_le _, rfl, ⟨0, rfl⟩, fun j h => absurd h (by omega)⟩
    case round =>
      obtain ⟨k, hk, rfl, hX, hR⟩ := hrel
      obtain ⟨q, hq0⟩ := hX
      have HQ := Lib.hid hq0
      have HX : Hid (Ext w wr) := by unfold Hid; rw [hq0]; exact (Ext.refl w).drewN q
      have HR := Lib.hid hR; clear hq0 hR
      have HD : Hid (∀ m : Nat, ∃ u, wr.drewN m = w.drewN u) := fun m => ⟨q + m, by rw [HQ.out, World.drewN_drewN]⟩
      by_cases hlt : k < l.length
      · rcases HL.out with ⟨_, e⟩ | ⟨b, o, cap', e, _, hc⟩
        · rw [e] at hlt; simp at hlt
        cases e
        rcases HM.out with ⟨_, e⟩ | ⟨b2, o2, cap2, e, _, hc2⟩
        · have := HEQ.out; rw [e] at this; simp at this; rw [this] at hlt; simp at hlt
        cases e
        have hlt2 : k < m.length := by have := HEQ.out; omega
        have g0 : wr.cell? ⟨b, o + k, none⟩ = some (.int .i64 (l.getD k 0)) := by have := HX.out.cell (hc k hlt); rw [Nat.mul_one] at this; rw [this]; simp [List.getD, hlt]
        have g1 : wr.cell? ⟨b2, o2 + k, none⟩ = some (.int .i64 (m.getD k 0)) := by have := HX.out.cell (hc2 k hlt2); rw [Nat.mul_one] at this; rw [this]; simp [List.getD, hlt2]
        clear hc hc2
        have HS : Hid (l = m → l.getD k 0 = m.getD k 0) := fun h => by rw [h]
        generalize ex : l.getD k 0 = x at *
        generalize ey : m.getD k 0 = y at *
        have EX := Lib.hid ex; have EY := Lib.hid ey; clear ex ey
        have i0 : (0 : Int) ≤ (k : Int) := by omega
        have i1 : (k : Int) < (l.length : Int) := by omega
        have i2 : (k : Int) < (m.length : Int) := by omega
        cases hq : (x != y) with
        | true =>
          have HF : Hid (decide (l = m) = false) := decide_eq_false fun h => by
            have := HS.out h; rw [this] at hq; simp at hq
          clear HS
          go_upto_region 6 with fail
          go_quiet (fail)
          go_wp2_with fail
          go_ret
          exact ⟨by rw [HF.out]; rfl, HD.out _⟩
        | false =>
          have HF : Hid (x = y) := by unfold Hid; simpa using hq
          clear HS
          go_upto_region 6 with fail
          go_quiet (fail)
          go_wp2_with fail
          refine ⟨⟨k + 1, by omega, by go_num, HD.out _, fun j hj => ?_⟩, by simp [intOf]; omega⟩
          by_cases c : j = k
          · subst c; rw [EX.out, EY.out]; exact HF.out
          · exact HR.out j (by omega)
      · have HF : Hid (decide (l = m) = true) := decide_eq_true (List.ext_getElem HEQ.out fun i h1 h2 => by
          have := HR.out i (by omega)
          simpa [List.getD, h1, h2] using this)
        go_wp2_with fail
        go_ret
        exact ⟨by rw [HF.out]; rfl, q, HQ.out⟩
  · have heb : (((l.length : Nat) : Int) != ((m.length : Nat) : Int)) = true := by rw [bne_iff_ne]; omega
    have HF : Hid (decide (l = m) = false) := decide_eq_false fun h => he (by rw [h])
    go_enter Tryd.func34, Tryd.ntmps34
    go_wp2_with fail
    go_ret
    exact ⟨by rw [HF.out]; rfl, 0, rfl⟩

theorem ints_at {w : World} {a : Option Addr} {n c : Nat} {l : List Int} (h : Ints w (.slice a n c) l) (k : Nat) (hk : k < l.length) : ∃ b o, a = some ⟨b, o, none⟩ ∧ w.cell? ⟨b, o + k, none⟩ = some (.int .i64 (l.getD k 0)) := by
  rcases h with ⟨_, e⟩ | ⟨b, o, cc, e, hm, hcell⟩
  · subst e; simp at hk
  · cases e
    refine ⟨b, o, rfl, ?_⟩
    have := hcell k hk
    rw [List.getD_eq_getElem?_getD, List.getElem?_eq_getElem hk]
    simpa [IntAt] using this
def varS (x : Int) : Int := if x < 0 then wrap64 (-x) else x
end Go.Proofs.YtoopoljchhdobaaDoor
