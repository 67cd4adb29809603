/-
  The walk of the reference's Same.
-/
import Derived.Test.YtnkhaobokmmnjaaDoorCn4
import Derived.BigQuiet
namespace Go.Proofs.YtnkhaobokmmnjaaDoor
open Go.RowKit

theorem CnfAt.cells {w : World} {b : Nat} {x v : Value} (h : w.heap[b]? = some (.cells #[x, v] 24 (0, 0))) : w.cell? ⟨b, 0, none⟩ = some x ∧ w.cell? ⟨b, 1, none⟩ = some v := by
  constructor <;> simp [World.cell?, h]
theorem getD_snoc_eq {α : Type} {d : α} {l m : List α} (hlen : l.length = m.length) (h : ∀ j, j < l.length → l.getD j d = m.getD j d) : l = m := by
  apply List.ext_getElem hlen
  intro i h1 h2
  have := h i h1
  simpa [List.getD, h1, h2] using this

set_option maxRecDepth 100000 in
set_option maxHeartbeats 4000000 in
theorem RSame_any (va vb : Int) (a b : List (List Int)) (fa fb : Value) (w : World) (ha : CnfV w fa va a) (hb : CnfV w fb vb b) (ta : ∀ c ∈ a, c.length ≤ 1000000) : Calls Tryd.prog 18 #[fa, fb] w fun r w' => r = .returned (.bool (decide (va = vb ∧ a = b))) ∧ Ext w w' := by
  obtain ⟨aa, ac, rfl, la⟩ := ha.shape
  obtain ⟨ba, bc, rfl, lb⟩ := hb.shape
  have hla := SliceAt.len_le la
  have hlb := SliceAt.len_le lb
  obtain ⟨W, hW⟩ : ∃ W, W = (w.alloc (.cells #[.int .i64 va, .slice aa a.length ac] 24)).alloc (.cells #[.int .i64 vb, .slice ba b.length bc] 24) := ⟨_, rfl⟩
  have hx : Ext w W := by rw [hW]; exact ((Ext.refl w).alloc _).alloc _
  have hA : W.heap[w.heap.size]? = some (.cells #[.int .i64 va, .slice aa a.length ac] 24 (0, 0)) := by rw [hW]; exact (heap_alloc_old _ _ (by simp)).trans (heap_new _ _)
  have hB : W.heap[w.heap.size + 1]? = some (.cells #[.int .i64 vb, .slice ba b.length bc] 24 (0, 0)) := by
    have := heap_new (w.alloc (.cells #[.int .i64 va, .slice aa a.length ac] 24)) (.cells #[.int .i64 vb, .slice ba b.length bc] 24)
    rw [World.size_alloc] at this; rw [hW]; exact this
  have HX := Lib.hid hx; have HWE := Lib.hid hW; have HA := Lib.hid hA; have HB := Lib.hid hB; have LA := Lib.hid (la.ext hx); have LB := Lib.hid (lb.ext hx); have TA := Lib.hid ta
  clear ha hb hA hB la lb hx hW ta
  go_enter Tryd.func18, Tryd.ntmps18
  go_upto_region 1 with fail
  rw [← HWE.out]
  clear HWE
  generalize w.heap.size = b0 at *
  obtain ⟨p0, p1⟩ := CnfAt.cells HA.out
  obtain ⟨q0, q1⟩ := CnfAt.cells HB.out
  by_cases h1 : va = vb
  case neg =>
    have HN : Hid (decide (va = vb ∧ a = b) = false) := decide_eq_false (fun h => h1 h.1)
    have h1b : (va != vb) = true := by simpa using h1
    go_wp2_with fail
    go_ret
    exact ⟨by rw [HN.out]; rfl, HX.out⟩
  subst h1
  have h1b : (va != va) = false := by simp
  by_cases h2 : a.length = b.length
  case neg =>
    have HN : Hid (decide (a = b) = false) := decide_eq_false (fun h => h2 (by rw [h]))
    have h2b : ((a.length : Int) != (b.length : Int)) = true := by simp; omega
    go_wp2_with fail
    go_ret
    exact ⟨by rw [HN.out]; rfl, HX.out⟩
  have h2b : ((a.length : Int) != (b.length : Int)) = false := by simp; omega
  go_wp2_with fail
  go_loopw [5] (fun i wr => ∃ k : Nat, k ≤ a.length ∧ i = .int .i64 k ∧ Ext W wr ∧ ∀ j, j < k → a.getD j [] = b.getD j []) (fun i _ => a.length - (intOf i).toNat)
  case atStart => exact ⟨0, Nat.zero_le _, rfl, Ext.refl _, fun j h => absurd h (by omega)⟩
  case round =>
    obtain ⟨k, hk, rfl, hX, hR⟩ := hrel
    have HR := Lib.hid hR; have HXr := Lib.hid hX; clear hX hR
    replace p0 := HXr.out.cell p0; replace p1 := HXr.out.cell p1; replace q0 := HXr.out.cell q0; replace q1 := HXr.out.cell q1
    by_cases h3 : k < a.length
    · have h4 : k < b.length := by omega
      rcases LA.out.ext HXr.out with ⟨_, e⟩ | ⟨b1, o1, cap1, e, _, c1⟩
      · rw [e] at h3; simp at h3
      cases e
      rcases LB.out.ext HXr.out with ⟨_, e⟩ | ⟨b2, o2, cap2, e, _, c2⟩
      · rw [e] at h4; simp at h4
      cases e
      obtain ⟨v1, g1, i1⟩ := c1 k h3
      obtain ⟨v2, g2, i2⟩ := c2 k h4
      rw [Nat.mul_one] at g1 g2
      obtain ⟨x1, y1, rfl⟩ := i1.shape
      obtain ⟨x2, y2, rfl⟩ := i2.shape
      have I1 := Lib.hid i1; have I2 := Lib.hid i2
      have hl1 := TA.out _ (List.getElem_mem h3)
      have HE : Hid (a[k] = b[k] → ∀ j, j < k + 1 → a.getD j [] = b.getD j []) := fun e j hj => by
        by_cases h : j = k
        · subst h; simpa [List.getD, h3, h4] using e
        · exact HR.out j (by omega)
      have HN : Hid (a[k] ≠ b[k] → decide (a = b) = false) := fun h => decide_eq_false (fun h' => h (by subst h'; rfl))
      have HC : Hid (∀ q : Nat, Calls Tryd.prog 30 #[.slice x1 a[k].length y1, .slice x2 b[k].length y2] (wr.drewN q) fun e w' => e = .returned (.bool (decide (a[k] = b[k]))) ∧ ∃ u, w' = wr.drewN u) := fun q => Calls.quiet_of (RSameInts_any _ _ _ _ _ (i1.ext ((Ext.refl _).drewN q)) (i2.ext ((Ext.refl _).drewN q)) hl1)
      clear c1 c2 i1 i2 I1 I2
      generalize a[k] = s at *
      generalize b[k] = t at *
      by_cases h5 : s = t
      · have HE2 := Lib.hid (HE.out h5)
        rw [decide_eq_true h5] at HC
        clear h5 HE HN
        generalize s.length = n1 at *
        generalize t.length = n2 at *
        go_upto_region 6 with fail
        go_quiet ((go_at_call 30; with_reducible exact HC.out _))
        go_wp2_with fail
        exact ⟨⟨k + 1, by omega, by go_num, HXr.out.drewN _, HE2.out⟩, by simp [intOf]; omega⟩
      · have HN2 := Lib.hid (HN.out h5)
        rw [decide_eq_false h5] at HC
        clear h5 HE HN
        generalize s.length = n1 at *
        generalize t.length = n2 at *
        go_upto_region 6 with fail
        go_quiet ((go_at_call 30; with_reducible exact HC.out _))
        go_wp2_with fail
        go_ret
        exact ⟨by rw [HN2.out]; rfl, (HX.out.trans HXr.out).drewN _⟩
    · have hkl : k = a.length := by omega
      have HY : Hid (decide (a = b) = true) := decide_eq_true (getD_snoc_eq h2 (by rw [← hkl]; exact HR.out))
      go_wp2_with fail
      go_ret
      exact ⟨by rw [HY.out]; rfl, HX.out.trans HXr.out⟩
end Go.Proofs.YtnkhaobokmmnjaaDoor
