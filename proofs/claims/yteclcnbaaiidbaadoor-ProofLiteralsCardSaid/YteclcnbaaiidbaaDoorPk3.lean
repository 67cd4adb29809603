/-
  The walk of the reference's Valid.
-/
import Derived.Test.YteclcnbaaiidbaaDoorPk2
namespace Go.Proofs.YteclcnbaaiidbaaDoor
open Go.RowKit

set_option maxRecDepth 100000 in
set_option maxHeartbeats 4000000 in
theorem RValid_any (vars : Int) (cl : List (List Int)) (l : List St) (vf vl : Value) (w : World) (hf : CnfV w vf vars cl) (hl : Steps w vl l) (ht : Tame vars cl l) : Calls Tryd.prog 17 #[vf, vl] w fun r w' => r = .returned (.bool (validP vars cl.length l)) ∧ Ext w w' := by
  obtain ⟨fa, fc, rfl, hcl⟩ := hf.shape
  obtain ⟨la, lc, rfl⟩ := SliceAt.shape hl
  obtain ⟨W, hW⟩ : ∃ W, W = w.alloc (.cells #[.int .i64 vars, .slice fa cl.length fc] 27) := ⟨_, rfl⟩
  have hx : Ext w W := by rw [hW]; exact (Ext.refl w).alloc _
  have hB : W.heap[w.heap.size]? = some (.cells #[.int .i64 vars, .slice fa cl.length fc] 27 (0, 0)) := by rw [hW]; exact heap_new _ _
  have p0 : W.cell? ⟨w.heap.size, 0, none⟩ = some (.int .i64 vars) := by simp [World.cell?, hB]
  have p1 : W.cell? ⟨w.heap.size, 1, none⟩ = some (.slice fa cl.length fc) := by simp [World.cell?, hB]
  have P0 := Lib.hid p0; have P1 := Lib.hid p1; have HL := Lib.hid (hl.ext hx); have HT := Lib.hid ht; have HX := Lib.hid hx; have HW := Lib.hid hW
  have hcl1 := ht.cl; have hll := ht.len
  clear hf hl ht hcl hB p0 p1 hx hW
  go_enter Tryd.func17, Tryd.ntmps17
  go_upto_region 1 with fail
  rw [← HW.out]
  clear HW
  generalize w.heap.size = b0 at *
  by_cases h20 : 20000 < l.length
  · have HN : Hid (validP vars cl.length l = false) := by unfold Hid validP; rw [decide_eq_false (show ¬ l.length ≤ 20000 by omega)]; rfl
    go_wp2_with fail
    go_ret
    exact ⟨by rw [HN.out]; rfl, HX.out⟩
  go_wp2_with fail
  go_loopw [5] (fun i wr => ∃ k : Nat, k ≤ l.length ∧ i = .int .i64 k ∧ Ext W wr ∧ okTo vars cl.length l k) (fun i _ => l.length - (intOf i).toNat)
  case atStart => exact ⟨0, Nat.zero_le _, rfl, Ext.refl _, fun j hj => by omega⟩
  case round =>
    obtain ⟨k, hk, rfl, hX, hO⟩ := hrel
    have HXr := Lib.hid hX; have HO := Lib.hid hO; clear hX hO
    by_cases hlt : k < l.length
    · obtain ⟨b, o, a1, c1, a2, c2, hla, g0, g1, i1, i2⟩ := (HL.out.ext HXr.out).getD_at hlt
      subst hla
      have hgd : l.getD k st0 = l[k] := by simp [List.getD, hlt]
      have hmem : l.getD k st0 ∈ l := by rw [hgd]; exact List.getElem_mem hlt
      obtain ⟨_, hl2⟩ := HT.out.lits _ hmem
      have HNO : Hid ((litsOk vars (l.getD k st0).lits && hintsOk ((cl.length : Int) + k) (l.getD k st0).hints) = false → validP vars cl.length l = false) := fun h => valid_no hlt (by rw [Bool.and_eq_false_iff] at h; exact h)
      have HYES : Hid ((litsOk vars (l.getD k st0).lits && hintsOk ((cl.length : Int) + k) (l.getD k st0).hints) = true → okTo vars cl.length l (k + 1)) := fun h j hj => by
        rw [Bool.and_eq_true] at h
        by_cases e : j = k
        · subst e; exact h
        · exact HO.out j (by omega)
      have I1 := Lib.hid i1; have I2 := Lib.hid i2; have HR := Lib.hid hl2
      have hwr : wrap64 ((cl.length : Int) + (k : Int)) = (cl.length : Int) + (k : Int) := by unfold wrap64; omega
      have hwr2 : IntKind.i64.wrap ((cl.length : Int) + (k : Int)) = (cl.length : Int) + (k : Int) := by rw [IntKind.wrap_i64]; omega
      have k0 : (0 : Int) ≤ (k : Int) := by omega
      have k1 : (k : Int) < (l.length : Int) := by omega
      clear hgd hmem i1 i2 hl2
      generalize (l.getD k st0).lits = lits at *
      generalize (l.getD k st0).hints = hints at *
      have HFk : Hid (∀ V : World, Ext wr V → (V.cell? ⟨b0, 0, none⟩ = some (.int .i64 vars) ∧ V.cell? ⟨b0, 1, none⟩ = some (.slice fa cl.length fc)) ∧ V.cell? ⟨b, o + k * 2, none⟩ = some (.slice a1 lits.length c1) ∧ V.cell? ⟨b, o + k * 2 + 1, none⟩ = some (.slice a2 hints.length c2)) := fun V hx => ⟨⟨(HXr.out.trans hx).cell P0.out, (HXr.out.trans hx).cell P1.out⟩, hx.cell g0, hx.cell g1⟩
      obtain ⟨⟨z0, z1⟩, z2, z3⟩ := HFk.out wr (Ext.refl _)
      clear g0 g1
      go_upto_region 6 with fail
      go_region_held3 (fun w' => (w'.cell? ⟨b0, 0, none⟩ = some (.int .i64 vars) ∧ w'.cell? ⟨b0, 1, none⟩ = some (.slice fa cl.length fc)) ∧ w'.cell? ⟨b, o + k * 2, none⟩ = some (.slice a1 lits.length c1) ∧ w'.cell? ⟨b, o + k * 2 + 1, none⟩ = some (.slice a2 hints.length c2))
        ((first
          | exact ⟨⟨z0, z1⟩, z2, z3⟩
          | (refine HFk.out _ ?_; repeat (first | exact Ext.refl _ | exact HR1.out | apply Ext.drew | apply Ext.alloc)
             done)
          | fail))
        ((first
          | (go_at_call 30
             refine (Step_any vars _ lits hints a1 a2 c1 c2 _ (I1.out.ext (by repeat (first | exact Ext.refl _ | apply Ext.drew))) (I2.out.ext (by repeat (first | exact Ext.refl _ | apply Ext.drew))) HR.out HT.out.vars).mono ?_
             rintro r wf ⟨rfl, x1⟩
             try rw [hwr2]
             try rw [hwr]
             have HR1 : Hid (Ext wr wf) := Ext.trans (by repeat (first | exact Ext.refl _ | apply Ext.drew)) x1
             clear x1)))
      clear z0 z1 z2 z3
      try rw [hwr2]
      try rw [hwr]
      clear hwr hwr2
      have HX2 := Lib.hid (HXr.out.trans HR1.out)
      generalize litsOk vars lits = q1 at *
      generalize hintsOk ((cl.length : Int) + (k : Int)) hints = q2 at *
      obtain ⟨rfl, rfl⟩ | hq : (q1 = true ∧ q2 = true) ∨ (q1 && q2) = false := by cases q1 <;> cases q2 <;> simp
      · have HY := Lib.hid (HYES.out rfl)
        go_wp2_with fail
        exact ⟨⟨k + 1, by omega, by go_num, HX2.out, HY.out⟩, by simp [intOf]; omega⟩
      · have HN := Lib.hid (HNO.out hq)
        first
          | rw [hq]
          | (cases q1 <;> cases q2 <;> simp at hq ⊢)
        all_goals go_wp2_with fail
        all_goals first
          | (go_ret
             exact ⟨by rw [HN.out]; rfl, HX.out.trans HX2.out⟩)
          | (rename_i hc
             exact absurd hc (by cases q1 <;> cases q2 <;> first | exact absurd hq (by decide) | decide))
    · have hkl : k = l.length := by omega
      have HN : Hid (validP vars cl.length l = true) := valid_yes (by omega) (by rw [← hkl]; exact HO.out)
      go_wp2_with fail
      go_ret
      exact ⟨by rw [HN.out]; rfl, HX.out.trans HXr.out⟩
end Go.Proofs.YteclcnbaaiidbaaDoor
