/-
  The walk of cnf.Eval.
-/
import Derived.Test.YtnkhaobokmmnjaaDoorCn9
namespace Go.Proofs.YtnkhaobokmmnjaaDoor
open Go.RowKit

set_option maxRecDepth 100000 in
set_option maxHeartbeats 4000000 in
theorem CEval_any (vars : Int) (cl : List (List Int)) (vs : List Bool) (vf vv : Value) (w : World) (hf : CnfV w vf vars cl) (ht : TameC vars cl) (hv : Bools w vv vs) : Calls Tryd.prog 16 #[vf, vv] w fun r w' => r = .returned (.bool (evalC vars cl vs)) ∧ Ext w w' := by
  obtain ⟨fa, fc, rfl, hcl⟩ := hf.shape
  obtain ⟨va, vc, rfl⟩ := SliceAt.shape hv
  have HL := Lib.hid hcl; have HT := Lib.hid ht; have HV := Lib.hid hv
  obtain ⟨W, hW⟩ : ∃ W, W = (w.alloc (.cells #[.int .i64 vars, .slice fa cl.length fc] 24)).alloc (.cells #[.slice va vs.length vc] 25) := ⟨_, rfl⟩
  have hx : Ext w W := by rw [hW]; exact ((Ext.refl w).alloc _).alloc _
  have hA : W.heap[w.heap.size]? = some (.cells #[.int .i64 vars, .slice fa cl.length fc] 24 (0, 0)) := by rw [hW]; exact (heap_alloc_old _ _ (by simp)).trans (heap_new _ _)
  have hB : W.heap[w.heap.size + 1]? = some (.cells #[.slice va vs.length vc] 25 (0, 0)) := by
    have := heap_new (w.alloc (.cells #[.int .i64 vars, .slice fa cl.length fc] 24)) (.cells #[.slice va vs.length vc] 25)
    rw [World.size_alloc] at this; rw [hW]; exact this
  obtain ⟨p0, p1⟩ := CnfAt.cells hA
  have q0 : W.cell? ⟨w.heap.size + 1, 0, none⟩ = some (.slice va vs.length vc) := by simp [World.cell?, hB]
  have HX := Lib.hid hx; have HW := Lib.hid hW; have P0 := Lib.hid p0; have P1 := Lib.hid p1; have Q0 := Lib.hid q0
  clear hf hcl ht hv hx hW hA hB p0 p1 q0
  go_enter Tryd.func16, Tryd.ntmps16
  go_upto_region 1 with fail
  rw [← HW.out]
  clear HW
  generalize w.heap.size = b0 at *
  have p0 := P0.out; have p1 := P1.out; have q0 := Q0.out
  go_wp2_with fail
  refine (CValid_any vars cl _ W ⟨_, rfl, HL.out.ext HX.out⟩ HT.out).mono ?_
  rintro r w2 ⟨rfl, x2⟩
  have HX2 := Lib.hid x2
  clear p0 p1 q0 x2
  cases hvl : validC vars cl with
  | false =>
    have HE : Hid (evalC vars cl vs = false) := by unfold Hid evalC; rw [hvl]; rfl
    go_wp2_with fail
    go_ret
    exact ⟨by rw [HE.out]; rfl, HX.out.trans HX2.out⟩
  | true =>
  have HVL := Lib.hid hvl
  clear hvl
  have p1 := HX2.out.cell P1.out
  go_wp2_with fail
  have HLIT : Hid (∀ c ∈ cl, ∀ x ∈ c, litOk vars x = true) := by
    have := HVL.out; unfold validC at this
    simp only [Bool.and_eq_true, decide_eq_true_eq, List.all_eq_true] at this
    exact this.2
  have HV8 : Hid (vars ≤ 8000) := by
    have := HVL.out; unfold validC at this
    simp only [Bool.and_eq_true, decide_eq_true_eq] at this
    exact this.1.1.2
  have hln := SliceAt.len_le HL.out
  go_loopw [15] (fun i wr => ∃ k : Nat, k ≤ cl.length ∧ i = .int .i64 k ∧ Ext w2 wr ∧ ∀ j, j < k → clauseT vs (cl.getD j []) = true) (fun i _ => cl.length - (intOf i).toNat)
  case atStart => exact ⟨0, Nat.zero_le _, rfl, Ext.refl _, fun j hj => by omega⟩
  case round =>
    obtain ⟨k, hk, rfl, hX, hO⟩ := hrel
    have HXr := Lib.hid (HX2.out.trans hX); have HXw := Lib.hid (HX.out.trans (HX2.out.trans hX)); have HO := Lib.hid hO; have HX3 := Lib.hid hX; clear hO hX p1
    by_cases hlt : k < cl.length
    · rcases HL.out.ext HXw.out with ⟨_, e⟩ | ⟨b, o, cap, e, _, hc⟩
      · rw [e] at hlt; simp at hlt
      cases e
      obtain ⟨v1, g1, i1⟩ := hc k hlt
      rw [Nat.mul_one] at g1
      obtain ⟨a1, c1, rfl⟩ := i1.shape
      clear hc
      have hq := HXr.out.cell Q0.out
      have HR : Hid (ReadsP wr (b0 + 1) (litT vs) cl[k]) := fun x hx q => by
        have h1 := absI_ok (HLIT.out _ (List.getElem_mem hlt) x hx)
        have h2 := HV8.out
        exact Eval1_any x (b0 + 1) _ vs wr hq (SliceAt.ext BoolAt.keeps HV.out HXw.out) (by unfold absI at h1; split at h1 <;> omega) h1.2.2 q
      have I1 := Lib.hid i1
      have HNO : Hid (clauseT vs cl[k] = false → evalC vars cl vs = false) := fun h => by
        unfold evalC
        rw [Bool.and_eq_false_iff]; right
        rw [List.all_eq_false]
        exact ⟨_, List.getElem_mem hlt, by rw [h]; simp⟩
      have HYES : Hid (clauseT vs cl[k] = true → ∀ j, j < k + 1 → clauseT vs (cl.getD j []) = true) := fun h j hj => by
        by_cases e : j = k
        · subst e; simpa [List.getD, hlt] using h
        · exact HO.out j (by omega)
      clear i1 hq
      generalize cl[k] = c at *
      go_wp2_with fail
      refine (ContainsF_any c (b0 + 1) (litT vs) _ wr I1.out HR.out).mono ?_
      rintro r w3 ⟨rfl, q, rfl⟩
      have HT2 : Hid (clauseT vs c = c.any (litT vs)) := rfl
      cases hq : c.any (litT vs) with
      | true =>
        have HY := Lib.hid (HYES.out (HT2.out.trans hq))
        clear hq
        go_wp2_with fail
        exact ⟨⟨k + 1, by omega, by go_num, HX3.out.drewN q, HY.out⟩, by simp [intOf]; omega⟩
      | false =>
        have HN := Lib.hid (HNO.out (HT2.out.trans hq))
        clear hq
        go_wp2_with fail
        go_ret
        exact ⟨by rw [HN.out]; rfl, HXw.out.drewN q⟩
    · have HE : Hid (evalC vars cl vs = true) := by
        unfold Hid evalC
        rw [HVL.out, Bool.true_and, List.all_eq_true]
        intro c hc
        obtain ⟨j, hj, rfl⟩ := List.mem_iff_getElem.1 hc
        simpa [List.getD, hj] using HO.out j (by omega)
      go_wp2_with fail
      go_ret
      exact ⟨by rw [HE.out]; rfl, HXw.out⟩
end Go.Proofs.YtnkhaobokmmnjaaDoor
