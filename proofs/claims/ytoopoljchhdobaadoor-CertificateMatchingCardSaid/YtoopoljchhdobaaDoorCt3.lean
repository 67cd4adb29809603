/-
  The walk of certificate.usable.
-/
import Derived.Test.YtoopoljchhdobaaDoorCt2
import Derived.BigQuiet
namespace Go.Proofs.YtoopoljchhdobaaDoor
open Go.RowKit

theorem len0 (n : Nat) : (((n : Nat) : Int) == 0) = decide (n = 0) := by rw [Bool.eq_iff_iff, beq_iff_eq, decide_eq_true_eq]; omega
/-- Few parts: what the walks want. -/
structure Few (x : CertS) : Prop where
  id : x.id.length ≤ 1000000
  dig : x.dig.length ≤ 1000000
  prf : ∀ s ∈ x.prf, s.lits.length ≤ 1000000 ∧ s.hints.length ≤ 1000000
  old : x.old.length ≤ 1000000
  now : x.now.length ≤ 1000000

set_option maxHeartbeats 4000000 in
set_option maxRecDepth 100000 in
theorem usable_any (x : CertS) (vx : Value) (w : World) (hx : CertV w vx x) (hf : Few x) : Calls Tryd.prog 22 #[vx] w fun r w' => r = .returned (.bool (usableB x)) ∧ Ext w w' := by
  obtain ⟨pa, pc, oa, oc, na, nc, rfl, hx⟩ := hx
  have HI : Hid (∀ w, Calls Tryd.prog 43 #[.string ⟨x.id.toArray⟩] w fun e w' => e = .returned (.bool (idB x.id)) ∧ w' = w) := fun w => isID_any _ w (by have := hf.id; omega)
  have HD : Hid (∀ w, Calls Tryd.prog 44 #[.string ⟨x.dig.toArray⟩] w fun e w' => e = .returned (.bool (digB x.dig)) ∧ w' = w) := fun w => isDigest_any _ w (by have := hf.dig; omega)
  have HIN := Lib.hid hx
  have HP : Hid (∀ w', Ext w w' → Calls Tryd.prog 45 #[.slice pa x.prf.length pc] w' fun e w2 => e = .returned (.bool (prfB x.prf)) ∧ Ext w' w2) := fun w' he => usableProof_any _ _ _ (hx.1.ext he) (fun s hs => by have := hf.prf s hs; omega)
  have HO : Hid (∀ w', Ext w w' → Calls Tryd.prog 46 #[.slice oa x.old.length oc] w' fun e w2 => e = .returned (.bool (stB x.old)) ∧ Ext w' w2) := fun w' he => usableState_any _ _ _ (hx.2.1.ext he) (by have := hf.old; omega)
  have HW : Hid (∀ w', Ext w w' → Calls Tryd.prog 46 #[.slice na x.now.length nc] w' fun e w2 => e = .returned (.bool (stB x.now)) ∧ Ext w' w2) := fun w' he => usableState_any _ _ _ (hx.2.2.ext he) (by have := hf.now; omega)
  have hl1 := SliceAt.len_le hx.1
  have hl2 := SliceAt.len_le hx.2.1
  have hl3 := SliceAt.len_le hx.2.2
  clear hx hf
  have HU : Hid (usableB x = (idB x.id && digB x.dig && restB x)) := rfl
  obtain ⟨W, hW⟩ : ∃ W, W = w.alloc (.cells (certCells x pa pc oa oc na nc) 25) := ⟨_, rfl⟩
  have hX : Ext w W := by rw [hW]; exact (Ext.refl _).alloc _
  have hC : CertAt W w.heap.size x pa pc oa oc na nc := by rw [hW]; exact heap_new _ _
  obtain ⟨q0, q1, q2, q3, q4, q5⟩ := hC.cells
  have HC := Lib.hid hC; have HX := Lib.hid hX; have HWE := Lib.hid hW
  clear hC hX hW
  unfold certCells at *
  go_enter Tryd.func22, Tryd.ntmps22
  go_upto_region 1 with fail
  rw [← HWE.out]
  clear HWE
  generalize w.heap.size = b at *
  cases hi : idB x.id with
  | false =>
    rw [hi] at HI HU
    go_wp2_with (go_at_call 43; refine (HI.out _).mono ?_; rintro r w1 ⟨rfl, rfl⟩)
    go_ret
    rw [HU.out]; exact ⟨rfl, HX.out⟩
  | true =>
  rw [hi] at HI HU
  cases hd : digB x.dig with
  | false =>
    rw [hd] at HD HU
    go_wp2_with (first
      | (go_at_call 43; refine (HI.out _).mono ?_; rintro r w1 ⟨rfl, rfl⟩)
      | (go_at_call 44; refine (HD.out _).mono ?_; rintro r w1 ⟨rfl, rfl⟩))
    go_ret
    rw [HU.out]; exact ⟨rfl, HX.out⟩
  | true =>
  rw [hd] at HD HU
  clear hi hd
  go_upto_region 3 with (first
      | (go_at_call 43; refine (HI.out _).mono ?_; rintro r w1 ⟨rfl, rfl⟩)
      | (go_at_call 44; refine (HD.out _).mono ?_; rintro r w1 ⟨rfl, rfl⟩))
  have HR : Hid (usableB x = restB x) := by unfold Hid; rw [HU.out]; simp
  clear HI HD HU
  by_cases v0 : x.ver = 0
  · have HR0 : Hid (usableB x = (decide (x.prf.length = 0) && decide (x.old.length = 0) && decide (x.now.length = 0))) := by unfold Hid; rw [HR.out]; unfold restB; rw [if_pos v0]
    rw [v0] at q2 ⊢
    clear v0 HR
    by_cases p0 : x.prf.length = 0
    · by_cases o0 : x.old.length = 0
      · have HR1 : Hid (usableB x = decide (x.now.length = 0)) := by unfold Hid; rw [HR0.out, p0, o0]; simp
        go_wp2_with fail
        go_ret
        rw [HR1.out, ← len0]; exact ⟨rfl, HX.out⟩
      · have HR1 : Hid (usableB x = false) := by unfold Hid; rw [HR0.out, decide_eq_false o0]; simp
        have hb := len0 x.old.length
        rw [decide_eq_false o0] at hb
        go_wp2_with fail
        go_ret
        rw [HR1.out]; exact ⟨rfl, HX.out⟩
    · have HR1 : Hid (usableB x = false) := by unfold Hid; rw [HR0.out, decide_eq_false p0]; simp
      have hb := len0 x.prf.length
      rw [decide_eq_false p0] at hb
      go_wp2_with fail
      go_ret
      rw [HR1.out]; exact ⟨rfl, HX.out⟩
  have vb0 : (x.ver == 0) = false := by simpa using v0
  by_cases v1 : x.ver = 1
  · have HR0 : Hid (usableB x = (prfB x.prf && decide (x.old.length = 0) && decide (x.now.length = 0))) := by unfold Hid; rw [HR.out]; unfold restB; rw [if_neg v0, if_pos v1]
    rw [v1] at q2 ⊢
    clear v0 vb0 v1 HR
    cases hp : prfB x.prf with
    | false =>
      rw [hp] at HP
      have HR1 : Hid (usableB x = false) := by unfold Hid; rw [HR0.out, hp]; simp
      clear hp
      go_wp2_with (go_at_call 45; refine (HP.out _ HX.out).mono ?_; rintro r w2 ⟨rfl, x2⟩)
      go_ret
      rw [HR1.out]; exact ⟨rfl, HX.out.trans x2⟩
    | true =>
    rw [hp] at HP
    by_cases o0 : x.old.length = 0
    · have HR1 : Hid (usableB x = decide (x.now.length = 0)) := by unfold Hid; rw [HR0.out, hp, o0]; simp
      clear hp
      go_wp2_with (go_at_call 45; refine (HP.out _ HX.out).mono ?_; rintro r w2 ⟨rfl, x2⟩; replace HX := Lib.hid (HX.out.trans x2); obtain ⟨q0, q1, q2, q3, q4, q5⟩ := (HC.out.ext x2).cells; clear x2)
      go_ret
      rw [HR1.out, ← len0]; exact ⟨rfl, HX.out⟩
    · have HR1 : Hid (usableB x = false) := by unfold Hid; rw [HR0.out, decide_eq_false o0]; simp
      have hb := len0 x.old.length
      rw [decide_eq_false o0] at hb
      clear hp
      go_wp2_with (go_at_call 45; refine (HP.out _ HX.out).mono ?_; rintro r w2 ⟨rfl, x2⟩; replace HX := Lib.hid (HX.out.trans x2); obtain ⟨q0, q1, q2, q3, q4, q5⟩ := (HC.out.ext x2).cells; clear x2)
      go_ret
      rw [HR1.out]; exact ⟨rfl, HX.out⟩
  have vb1 : (x.ver == 1) = false := by simpa using v1
  by_cases v2 : x.ver = 2
  · have HR0 : Hid (usableB x = (decide (x.prf.length = 0) && decide (x.old.length = x.now.length) && stB x.old && stB x.now)) := by unfold Hid; rw [HR.out]; unfold restB; rw [if_neg v0, if_neg v1, if_pos v2]
    rw [v2] at q2 ⊢
    clear v0 vb0 v1 vb1 v2 HR
    by_cases p0 : x.prf.length = 0
    case neg =>
      have HR1 : Hid (usableB x = false) := by unfold Hid; rw [HR0.out, decide_eq_false p0]; simp
      have hb := len0 x.prf.length
      rw [decide_eq_false p0] at hb
      go_wp2_with fail
      go_ret
      rw [HR1.out]; exact ⟨rfl, HX.out⟩
    by_cases o0 : x.old.length = x.now.length
    case neg =>
      have HR1 : Hid (usableB x = false) := by unfold Hid; rw [HR0.out, decide_eq_false o0]; simp
      have hb : ((x.old.length : Int) == (x.now.length : Int)) = false := by rw [beq_eq_false_iff_ne]; omega
      clear o0
      go_wp2_with fail
      go_ret
      rw [HR1.out]; exact ⟨rfl, HX.out⟩
    have hb : ((x.old.length : Int) == (x.now.length : Int)) = true := by rw [beq_iff_eq]; omega
    cases ho : stB x.old with
    | false =>
      have HR1 : Hid (usableB x = false) := by unfold Hid; rw [HR0.out, ho]; simp
      rw [ho] at HO
      clear ho o0
      go_wp2_with (go_at_call 46; refine (HO.out _ HX.out).mono ?_; rintro r w2 ⟨rfl, x2⟩)
      go_ret
      rw [HR1.out]; exact ⟨rfl, HX.out.trans x2⟩
    | true =>
    have HR1 : Hid (usableB x = stB x.now) := by unfold Hid; rw [HR0.out, ho, p0, o0]; simp
    rw [ho] at HO
    clear ho o0
    go_wp2_with (first
      | (go_at_call 46; with_reducible refine (HO.out _ HX.out).mono ?_; rintro r w2 ⟨rfl, x2⟩; replace HX := Lib.hid (HX.out.trans x2); obtain ⟨q0, q1, q2, q3, q4, q5⟩ := (HC.out.ext x2).cells; clear x2)
      | (go_at_call 46; with_reducible refine (HW.out _ HX.out).mono ?_; rintro r w2 ⟨rfl, x2⟩; replace HX := Lib.hid (HX.out.trans x2); clear x2))
    go_ret
    rw [HR1.out]; exact ⟨rfl, HX.out⟩
  have HR1 : Hid (usableB x = false) := by unfold Hid; rw [HR.out]; unfold restB; rw [if_neg v0, if_neg v1, if_neg v2]
  have vb2 : (x.ver == 2) = false := by simpa using v2
  clear v0 v1 v2
  go_wp2_with fail
  go_ret
  rw [HR1.out]; exact ⟨rfl, HX.out⟩
end Go.Proofs.YtoopoljchhdobaaDoor
