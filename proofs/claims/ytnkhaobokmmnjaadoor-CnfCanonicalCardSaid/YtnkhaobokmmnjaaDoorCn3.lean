/-
  The walk of the reference's Valid.
-/
import Derived.Test.YtnkhaobokmmnjaaDoorCn2
namespace Go.Proofs.YtnkhaobokmmnjaaDoor
open Go.RowKit

set_option maxRecDepth 100000 in
set_option maxHeartbeats 4000000 in
theorem RValid_any (vars : Int) (cl : List (List Int)) (vf : Value) (w : World) (hf : CnfV w vf vars cl) (ht : TameC vars cl) : Calls Tryd.prog 11 #[vf] w fun r w' => r = .returned (.bool (validC vars cl)) ∧ Ext w w' := by
  obtain ⟨fa, fc, rfl, hcl⟩ := hf.shape
  have HT := Lib.hid ht
  have hvr := ht.vars; have hln := ht.len
  unfold InI at hvr
  obtain ⟨W, hW⟩ : ∃ W, W = w.alloc (.cells #[.int .i64 vars, .slice fa cl.length fc] 24) := ⟨_, rfl⟩
  have hx : Ext w W := by rw [hW]; exact (Ext.refl w).alloc _
  have hB : W.heap[w.heap.size]? = some (.cells #[.int .i64 vars, .slice fa cl.length fc] 24 (0, 0)) := by rw [hW]; exact heap_new _ _
  have p0 : W.cell? ⟨w.heap.size, 0, none⟩ = some (.int .i64 vars) := by simp [World.cell?, hB]
  have p1 : W.cell? ⟨w.heap.size, 1, none⟩ = some (.slice fa cl.length fc) := by simp [World.cell?, hB]
  have HX := Lib.hid hx; have HW := Lib.hid hW; have HL := Lib.hid (hcl.ext hx)
  clear hf ht hcl hB hx hW
  go_enter Tryd.func11, Tryd.ntmps11
  go_upto_region 1 with fail
  rw [← HW.out]
  clear HW
  generalize w.heap.size = b0 at *
  by_cases h0 : vars < 0
  · have HN : Hid (validC vars cl = false) := by unfold Hid validC; rw [decide_eq_false (show ¬ 0 ≤ vars by omega)]; rfl
    go_wp2_with fail
    go_ret
    exact ⟨by rw [HN.out]; rfl, HX.out⟩
  by_cases h1 : 8000 < vars
  · have HN : Hid (validC vars cl = false) := by unfold Hid validC; rw [decide_eq_false (show ¬ vars ≤ 8000 by omega)]; simp
    go_wp2_with fail
    go_ret
    exact ⟨by rw [HN.out]; rfl, HX.out⟩
  by_cases h2 : 40000 < cl.length
  · have HN : Hid (validC vars cl = false) := by unfold Hid validC; rw [decide_eq_false (show ¬ cl.length ≤ 40000 by omega)]; simp
    go_wp2_with fail
    go_ret
    exact ⟨by rw [HN.out]; rfl, HX.out⟩
  have hneg : wrap64 (-vars) = -vars := by unfold wrap64; omega
  go_wp2_with fail
  go_loopw [3] (fun i wr => ∃ k : Nat, k ≤ cl.length ∧ i = .int .i64 k ∧ W = wr ∧ okC vars cl k) (fun i _ => cl.length - (intOf i).toNat)
  case atStart => exact ⟨0, Nat.zero_le _, rfl, rfl, fun j hj => by omega⟩
  case round =>
    obtain ⟨k, hk, rfl, rfl, hO⟩ := hrel
    have HO := Lib.hid hO; clear hO
    by_cases hlt : k < cl.length
    · rcases HL.out with ⟨_, e⟩ | ⟨b, o, cap, e, _, hc⟩
      · rw [e] at hlt; simp at hlt
      cases e
      obtain ⟨v1, g1, i1⟩ := hc k hlt
      rw [Nat.mul_one] at g1
      obtain ⟨a1, c1, rfl⟩ := i1.shape
      clear hc
      obtain ⟨hl1, hl2⟩ := HT.out.lits _ (List.getElem_mem hlt)
      have HNO : Hid (∀ i, (h : i < cl[k].length) → litOk vars cl[k][i] = false → validC vars cl = false) := fun i h h' => okC_no hlt h h'
      have HYES : Hid (cl[k].all (litOk vars) = true → okC vars cl (k + 1)) := fun h => okC_succ HO.out hlt h
      have I1 := Lib.hid i1; have HR := Lib.hid hl2
      clear i1 hl2
      generalize cl[k] = c at *
      go_wp2_with fail
      go_loopw [4] (fun i wr => ∃ j : Nat, j ≤ c.length ∧ i = .int .i64 j ∧ W = wr ∧ (c.take j).all (litOk vars) = true) (fun i _ => c.length - (intOf i).toNat)
      case atStart => exact ⟨0, Nat.zero_le _, rfl, rfl, rfl⟩
      case round =>
        obtain ⟨j, hj, rfl, rfl, hh⟩ := hrel
        have HH := Lib.hid hh; clear hh
        by_cases hlj : j < c.length
        · rcases I1.out with ⟨_, e⟩ | ⟨b3, o3, cap3, e, _, hc3⟩
          · rw [e] at hlj; simp at hlj
          cases e
          have g2 : W.cell? ⟨b3, o3 + j, none⟩ = some (.int .i64 c[j]) := by have := hc3 j hlj; rw [Nat.mul_one] at this; exact this
          clear hc3
          have HN3 : Hid (litOk vars c[j] = false → validC vars cl = false) := fun h => HNO.out j hlj h
          have HY3 : Hid (litOk vars c[j] = true → (c.take (j + 1)).all (litOk vars) = true) := fun h => by
            rw [List.take_succ_eq_append_getElem hlj, List.all_append, HH.out]
            simp [h]
          generalize c[j] = x at *
          by_cases h3 : x = 0 ∨ vars < x ∨ x < -vars
          · have HN := Lib.hid (HN3.out (by unfold litOk; simp; omega))
            clear HY3 HN3
            rcases h3 with rfl | h3 | h3
            all_goals (go_wp2_with fail; go_ret; exact ⟨by rw [HN.out]; rfl, HX.out⟩)
          · have HY4 := Lib.hid (HY3.out (by unfold litOk; simp; omega))
            have h4 : ¬ x = 0 := by omega
            have h5 : ¬ vars < x := by omega
            have h6 : ¬ x < -vars := by omega
            clear HY3 HN3 h3
            go_wp2_with fail
            exact ⟨⟨j + 1, by omega, by go_num, trivial, HY4.out⟩, by simp [intOf]; omega⟩
        · have HTk : Hid (c.take j = c) := List.take_of_length_le (by omega)
          rw [HTk.out] at HH
          have HOk := Lib.hid (HYES.out HH.out)
          go_wp2_with fail
          exact ⟨⟨k + 1, by omega, by go_num, trivial, HOk.out⟩, by simp [intOf]; omega⟩
    · have hkl : k = cl.length := by omega
      have HN : Hid (validC vars cl = true) := okC_yes (by omega) (by omega) (by omega) (by rw [← hkl]; exact HO.out)
      go_wp2_with fail
      go_ret
      exact ⟨by rw [HN.out]; rfl, HX.out⟩
end Go.Proofs.YtnkhaobokmmnjaaDoor
