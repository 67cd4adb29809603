/-
  The walks of law25's Small and ranged.
-/
import Derived.Test.YteclcnbaaiidbaaDoorPj2
namespace Go.Proofs.YteclcnbaaiidbaaDoor
open Go.RowKit

def smallP (cl : List (List Int)) (l : List St) : Bool := decide (cl.length ≤ 60) && decide (l.length ≤ 60) && (cl.all fun c => decide (c.length ≤ 24)) && l.all fun s => decide (s.lits.length ≤ 24) && decide (s.hints.length ≤ 24)
set_option maxRecDepth 100000 in
set_option maxHeartbeats 4000000 in
theorem PSmall_any (vars : Int) (cl : List (List Int)) (l : List St) (vf vl : Value) (w : World) (hf : CnfV w vf vars cl) (hl : Steps w vl l) : Calls Tryd.prog 9 #[vf, vl] w fun r w' => r = .returned (.bool (smallP cl l)) ∧ Ext w w' := by
  obtain ⟨fa, fc, rfl, hcl⟩ := hf.shape
  obtain ⟨la, lc, rfl⟩ := SliceAt.shape hl
  have hl1 := SliceAt.len_le hcl
  have hl2 := SliceAt.len_le hl
  obtain ⟨W, hW⟩ : ∃ W, W = w.alloc (.cells #[.int .i64 vars, .slice fa cl.length fc] 27) := ⟨_, rfl⟩
  have hx : Ext w W := by rw [hW]; exact (Ext.refl w).alloc _
  have hB : W.heap[w.heap.size]? = some (.cells #[.int .i64 vars, .slice fa cl.length fc] 27 (0, 0)) := by rw [hW]; exact heap_new _ _
  have p1 : W.cell? ⟨w.heap.size, 1, none⟩ = some (.slice fa cl.length fc) := by simp [World.cell?, hB]
  have HL := Lib.hid (hl.ext hx); have HCl := Lib.hid (hcl.ext hx); have HX := Lib.hid hx; have HW := Lib.hid hW
  clear hf hl hcl hB hx hW
  go_enter Tryd.func9, Tryd.ntmps9
  go_upto_region 1 with fail
  rw [← HW.out]
  clear HW
  generalize w.heap.size = b0 at *
  by_cases t1 : 60 < cl.length
  · have HN : Hid (smallP cl l = false) := by unfold Hid smallP; rw [decide_eq_false (show ¬ cl.length ≤ 60 by omega)]; rfl
    go_wp2_with fail
    go_ret
    exact ⟨by rw [HN.out]; rfl, HX.out⟩
  by_cases t2 : 60 < l.length
  · have HN : Hid (smallP cl l = false) := by unfold Hid smallP; rw [decide_eq_false (show ¬ l.length ≤ 60 by omega)]; simp
    go_wp2_with fail
    go_ret
    exact ⟨by rw [HN.out]; rfl, HX.out⟩
  have HS : Hid (smallP cl l = ((cl.all fun c => decide (c.length ≤ 24)) && l.all fun s => decide (s.lits.length ≤ 24) && decide (s.hints.length ≤ 24))) := by unfold Hid smallP; rw [decide_eq_true (show cl.length ≤ 60 by omega), decide_eq_true (show l.length ≤ 60 by omega)]; rfl
  go_wp2_with fail
  go_loop [5] (fun i => ∃ k : Nat, k ≤ cl.length ∧ i = .int .i64 k ∧ ∀ j, j < k → (cl.getD j []).length ≤ 24) (fun i => cl.length - (intOf i).toNat)
  case atStart => exact ⟨0, Nat.zero_le _, rfl, fun j h => by omega⟩
  case round =>
    obtain ⟨k, hk, rfl, hj⟩ := hrel
    have HJ := Lib.hid hj; clear hj
    by_cases hlt : k < cl.length
    · obtain ⟨b, o, a1, c1, rfl, g, _⟩ := HCl.out.at hlt
      have hmem : cl.getD k [] ∈ cl := by rw [List.getD_eq_getElem?_getD, List.getElem?_eq_getElem hlt]; exact List.getElem_mem hlt
      have HNO : Hid (¬ (cl.getD k []).length ≤ 24 → smallP cl l = false) := fun h => by
        rw [HS.out]
        have : (cl.all fun c => decide (c.length ≤ 24)) = false := by
          rw [Bool.eq_false_iff]; intro c
          rw [List.all_eq_true] at c
          exact h (by simpa using c _ hmem)
        rw [this]; rfl
      have HY : Hid ((cl.getD k []).length ≤ 24 → ∀ j, j < k + 1 → (cl.getD j []).length ≤ 24) := fun h j hj => by
        by_cases e : j = k
        · rw [e]; exact h
        · exact HJ.out j (by omega)
      clear hmem
      generalize (cl.getD k []).length = n at *
      by_cases h : 24 < n
      · have HN := Lib.hid (HNO.out (by omega))
        clear HY HNO
        go_wp2_with fail
        go_ret
        exact ⟨by rw [HN.out]; rfl, HX.out⟩
      · have HYY := Lib.hid (HY.out (by omega))
        clear HY HNO
        go_wp2_with fail
        exact ⟨⟨k + 1, by omega, by go_num, HYY.out⟩, by simp [intOf]; omega⟩
    · have HA : Hid ((cl.all fun c => decide (c.length ≤ 24)) = true) := by
        unfold Hid
        rw [List.all_eq_true]
        intro c hc
        obtain ⟨i, hi, rfl⟩ := List.getElem_of_mem hc
        have := HJ.out i (by omega)
        rw [decide_eq_true_eq]
        simpa [List.getD, hi] using this
      have HS2 : Hid (smallP cl l = l.all fun s => decide (s.lits.length ≤ 24) && decide (s.hints.length ≤ 24)) := by unfold Hid; rw [HS.out, HA.out, Bool.true_and]
      clear HA HJ HS
      go_wp2_with fail
      go_loop [6] (fun i => ∃ q : Nat, q ≤ l.length ∧ i = .int .i64 q ∧ ∀ j, j < q → (l.getD j st0).lits.length ≤ 24 ∧ (l.getD j st0).hints.length ≤ 24) (fun i => l.length - (intOf i).toNat)
      case atStart => exact ⟨0, Nat.zero_le _, rfl, fun j h => by omega⟩
      case round =>
        obtain ⟨q, hq, rfl, hj⟩ := hrel
        have HJ := Lib.hid hj; clear hj
        by_cases hlq : q < l.length
        · obtain ⟨b, o, a1, c1, a2, c2, rfl, g0, g1, _, _⟩ := HL.out.getD_at hlq
          have hmem : l.getD q st0 ∈ l := by rw [List.getD_eq_getElem?_getD, List.getElem?_eq_getElem hlq]; exact List.getElem_mem hlq
          have HNO : Hid (¬ ((l.getD q st0).lits.length ≤ 24 ∧ (l.getD q st0).hints.length ≤ 24) → smallP cl l = false) := fun h => by
            rw [HS2.out, Bool.eq_false_iff]; intro c
            rw [List.all_eq_true] at c
            exact h (by simpa using c _ hmem)
          have HY : Hid ((l.getD q st0).lits.length ≤ 24 → (l.getD q st0).hints.length ≤ 24 → ∀ j, j < q + 1 → (l.getD j st0).lits.length ≤ 24 ∧ (l.getD j st0).hints.length ≤ 24) := fun h1 h2 j hj => by
            by_cases e : j = q
            · rw [e]; exact ⟨h1, h2⟩
            · exact HJ.out j (by omega)
          clear hmem
          generalize (l.getD q st0).lits.length = n at *
          generalize (l.getD q st0).hints.length = m at *
          by_cases h : 24 < n
          · have HN := Lib.hid (HNO.out (by omega))
            clear HY HNO
            go_wp2_with fail
            go_ret
            exact ⟨by rw [HN.out]; rfl, HX.out⟩
          by_cases h' : 24 < m
          · have HN := Lib.hid (HNO.out (by omega))
            clear HY HNO
            go_wp2_with fail
            go_ret
            exact ⟨by rw [HN.out]; rfl, HX.out⟩
          · have HYY := Lib.hid (HY.out (by omega) (by omega))
            clear HY HNO
            go_wp2_with fail
            exact ⟨⟨q + 1, by omega, by go_num, HYY.out⟩, by simp [intOf]; omega⟩
        · have HN : Hid (smallP cl l = true) := by
            unfold Hid
            rw [HS2.out, List.all_eq_true]
            intro s hs
            obtain ⟨i, hi, rfl⟩ := List.getElem_of_mem hs
            have := HJ.out i (by omega)
            rw [show l.getD i st0 = l[i] by simp [List.getD, hi]] at this
            rw [decide_eq_true this.1, decide_eq_true this.2]; rfl
          go_wp2_with fail
          go_ret
          exact ⟨by rw [HN.out]; rfl, HX.out⟩
def rangedB (l : List Int) : Bool := l.all fun x => decide (-1000000000 ≤ x) && decide (x ≤ 1000000000)
set_option maxHeartbeats 2000000 in
theorem ranged_any (l : List Int) (v : Value) (w : World) (hl : Ints w v l) : Calls Tryd.prog 12 #[v] w fun r w' => r = .returned (.bool (rangedB l)) ∧ w' = w := by
  obtain ⟨a, c, rfl⟩ := hl.shape
  have hlen := SliceAt.len_le hl
  have HL := Lib.hid hl; clear hl
  go_enter Tryd.func12, Tryd.ntmps12
  go_wp2_with fail
  go_loop [3] (fun i => ∃ k : Nat, k ≤ l.length ∧ i = .int .i64 k ∧ rangedB (l.take k) = true) (fun i => l.length - (intOf i).toNat)
  case atStart => exact ⟨0, Nat.zero_le _, rfl, rfl⟩
  case round =>
    obtain ⟨k, hk, rfl, hr⟩ := hrel
    have HR := Lib.hid hr; clear hr
    by_cases hlt : k < l.length
    · obtain ⟨b, o, rfl, g⟩ := ints_at HL.out k hlt
      have hg : l.getD k 0 = l[k] := by simp [List.getD, hlt]
      rw [hg] at g
      have hmem : l[k] ∈ l := List.getElem_mem hlt
      have HNO : Hid (¬ (-1000000000 ≤ l[k] ∧ l[k] ≤ 1000000000) → rangedB l = false) := fun h => by
        rw [Bool.eq_false_iff]; intro c
        unfold rangedB at c
        rw [List.all_eq_true] at c
        exact h (by simpa using c _ hmem)
      have HY : Hid (-1000000000 ≤ l[k] → l[k] ≤ 1000000000 → rangedB (l.take (k + 1)) = true) := fun h1 h2 => by
        unfold rangedB
        rw [List.take_succ_eq_append_getElem hlt, List.all_append]
        have := HR.out
        unfold rangedB at this
        rw [this]; simp [h1, h2]
      clear hg hmem
      generalize l[k] = x at *
      by_cases h1 : x < -1000000000
      · have HN := Lib.hid (HNO.out (by omega))
        clear HY HNO
        go_wp2_with fail
        go_ret
        exact ⟨by rw [HN.out]; rfl, rfl⟩
      by_cases h2 : x > 1000000000
      · have HN := Lib.hid (HNO.out (by omega))
        clear HY HNO
        go_wp2_with fail
        go_ret
        exact ⟨by rw [HN.out]; rfl, rfl⟩
      · have HYY := Lib.hid (HY.out (by omega) (by omega))
        clear HY HNO
        go_wp2_with fail
        exact ⟨⟨k + 1, by omega, by go_num, HYY.out⟩, by simp [intOf]; omega⟩
    · have HT : Hid (rangedB l = true) := by have := HR.out; rwa [List.take_of_length_le (show l.length ≤ k by omega)] at this
      go_wp2_with fail
      go_ret
      exact ⟨by rw [HT.out]; rfl, rfl⟩
end Go.Proofs.YteclcnbaaiidbaaDoor
