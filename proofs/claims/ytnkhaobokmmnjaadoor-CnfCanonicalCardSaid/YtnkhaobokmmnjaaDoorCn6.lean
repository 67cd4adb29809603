/-
  The walks of law21.Small and cnf.abs.
-/
import Derived.Test.YtnkhaobokmmnjaaDoorCn5
namespace Go.Proofs.YtnkhaobokmmnjaaDoor
open Go.RowKit

def smallC (cl : List (List Int)) : Bool := decide (cl.length ≤ 60) && cl.all fun c => decide (c.length ≤ 20)

set_option maxHeartbeats 1000000 in
theorem Cabs_any (l : Int) (w : World) (h : InI l) (h1 : l ≠ -9223372036854775808) : Calls Tryd.prog 28 #[.int .i64 l] w fun r w' => r = .returned (.int .i64 (absI l)) ∧ w' = w := by
  have HA : Hid (absI l = if l < 0 then -l else l) := rfl
  unfold InI at h
  go_enter Tryd.func28, Tryd.ntmps28
  by_cases h0 : l < 0
  · have hw : wrap64 (-l) = -l := by unfold wrap64; omega
    rw [if_pos h0] at HA
    go_wp2_with fail
    go_ret
    exact ⟨by rw [HA.out]; rfl, rfl⟩
  · rw [if_neg h0] at HA
    go_wp2_with fail
    go_ret
    exact ⟨by rw [HA.out]; rfl, rfl⟩

set_option maxRecDepth 100000 in
set_option maxHeartbeats 4000000 in
theorem LSmall_any (vars : Int) (cl : List (List Int)) (vf : Value) (w : World) (hf : CnfV w vf vars cl) : Calls Tryd.prog 10 #[vf] w fun r w' => r = .returned (.bool (smallC cl)) ∧ Ext w w' := by
  obtain ⟨fa, fc, rfl, hcl⟩ := hf.shape
  have hln := SliceAt.len_le hcl
  obtain ⟨W, hW⟩ : ∃ W, W = w.alloc (.cells #[.int .i64 vars, .slice fa cl.length fc] 24) := ⟨_, rfl⟩
  have hx : Ext w W := by rw [hW]; exact (Ext.refl w).alloc _
  have hB : W.heap[w.heap.size]? = some (.cells #[.int .i64 vars, .slice fa cl.length fc] 24 (0, 0)) := by rw [hW]; exact heap_new _ _
  obtain ⟨p0, p1⟩ := CnfAt.cells hB
  have HX := Lib.hid hx; have HW := Lib.hid hW; have HL := Lib.hid (hcl.ext hx)
  clear hf hcl hB hx hW p0
  go_enter Tryd.func10, Tryd.ntmps10
  go_upto_region 1 with fail
  rw [← HW.out]
  clear HW
  generalize w.heap.size = b0 at *
  by_cases h0 : 60 < cl.length
  · have HN : Hid (smallC cl = false) := by unfold Hid smallC; rw [decide_eq_false (show ¬ cl.length ≤ 60 by omega)]; rfl
    go_wp2_with fail
    go_ret
    exact ⟨by rw [HN.out]; rfl, HX.out⟩
  go_wp2_with fail
  go_loopw [3] (fun i wr => ∃ k : Nat, k ≤ cl.length ∧ i = .int .i64 k ∧ W = wr ∧ ∀ j, j < k → (cl.getD j []).length ≤ 20) (fun i _ => cl.length - (intOf i).toNat)
  case atStart => exact ⟨0, Nat.zero_le _, rfl, rfl, fun j hj => by omega⟩
  case round =>
    obtain ⟨k, hk, rfl, rfl, hO⟩ := hrel
    have HO := Lib.hid hO; clear hO
    by_cases hlt : k < cl.length
    · rcases HL.out with ⟨_, e⟩ | ⟨b, o, cap, e, _, hc⟩
      · rw [e] at hlt; simp at hlt
      cases e
      obtain ⟨v1, g1, i1⟩ := hc k hlt
      rw [Nat.mul_one] at g1
      obtain ⟨a1, c1, rfl⟩ := i1.shape
      have hlen := SliceAt.len_le i1
      clear hc i1
      have HNO : Hid (20 < cl[k].length → smallC cl = false) := fun h => by
        rw [Bool.eq_false_iff]; intro h'
        unfold smallC at h'
        rw [Bool.and_eq_true, List.all_eq_true] at h'
        have := h'.2 _ (List.getElem_mem hlt)
        simp at this; omega
      have HYES : Hid (cl[k].length ≤ 20 → ∀ j, j < k + 1 → (cl.getD j []).length ≤ 20) := fun h j hj => by
        by_cases e : j = k
        · subst e; simpa [List.getD, hlt] using h
        · exact HO.out j (by omega)
      generalize cl[k].length = n at *
      by_cases h2 : 20 < n
      · have HN := Lib.hid (HNO.out h2)
        go_wp2_with fail
        go_ret
        exact ⟨by rw [HN.out]; rfl, HX.out⟩
      · have HY := Lib.hid (HYES.out (by omega))
        go_wp2_with fail
        exact ⟨⟨k + 1, by omega, by go_num, trivial, HY.out⟩, by simp [intOf]; omega⟩
    · have hkl : k = cl.length := by omega
      have HN : Hid (smallC cl = true) := by
        unfold Hid smallC
        rw [decide_eq_true (show cl.length ≤ 60 by omega), Bool.true_and, List.all_eq_true]
        intro c hc
        obtain ⟨j, hj, rfl⟩ := List.mem_iff_getElem.1 hc
        simpa [List.getD, hj] using HO.out j (by omega)
      go_wp2_with fail
      go_ret
      exact ⟨by rw [HN.out]; rfl, HX.out⟩
end Go.Proofs.YtnkhaobokmmnjaaDoor
