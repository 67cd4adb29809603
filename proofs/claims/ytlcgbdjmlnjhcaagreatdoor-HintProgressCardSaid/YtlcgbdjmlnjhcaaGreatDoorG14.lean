/-
  The walks of clone, Before.
-/
import Derived.Test.YtlcgbdjmlnjhcaaGreatDoorG13
namespace Go.Proofs.YtlcgbdjmlnjhcaaGreatDoor
open Go.RowKit

theorem kidsB_nil (N : Nat) (w : World) : KidsB N w (.slice none 0 0) [] := .inl ⟨rfl, rfl⟩

mutual
theorem rebuild_id : (e : E) → e.rebuild E.bare = e
  | .mk op wd n ks => by
    by_cases h : ks = []
    · subst h; rw [rebuild_nil]; rfl
    · rw [rebuild_cons _ h, ← rebuildAll_eq, rebuildAll_id ks]
theorem rebuildAll_id : (ks : List E) → rebuildAll E.bare ks = ks
  | [] => rfl
  | e :: r => by rw [rebuildAll, rebuild_id e, rebuildAll_id r]
end

/-- An expression in new memory: what a call gives back. -/
def NewE (e : E) (w : World) (r : Ending) (w' : World) : Prop := (∃ v, r = .returned v ∧ EValB w.heap.size w' v e) ∧ Ext w w'
/-- After a call that may have drawn or made a block: by value, with its shape. -/
theorem EValB.shape {N : Nat} {w : World} {v : Value} {e : E} (h : EValB N w v e) : ∃ a n c, v = .agg #[.int .i64 e.op, .int .i64 e.wd, .int .i64 e.n, .slice a n c] ∧ KidsB N w (.slice a n c) e.kids := by
  obtain ⟨k, rfl, hk⟩ := h
  obtain ⟨a, c, rfl⟩ := SliceAt.shape hk.kids
  exact ⟨a, _, c, rfl, hk⟩
theorem EVal.shape {w : World} {v : Value} {e : E} (h : EVal w v e) : ∃ a n c, v = .agg #[.int .i64 e.op, .int .i64 e.wd, .int .i64 e.n, .slice a n c] ∧ Kids w (.slice a n c) e.kids := by
  obtain ⟨k, rfl, hk⟩ := h
  obtain ⟨a, c, rfl⟩ := SliceAt.shape hk
  exact ⟨a, _, c, rfl, hk⟩

theorem zeroExpr4 : (#[.int .i64 0, .int .i64 0, .int .i64 0, .slice none 0 0] : Array Value).size = 4 := rfl

set_option maxHeartbeats 1000000 in
theorem clone_any (e : E) (v : Value) (w : World) (he : EVal w v e) (hs : e.size ≤ 100000) : Calls Tryz.prog 93 #[v] w (NewE e w) := by
  obtain ⟨a, n, c, rfl, hk⟩ := he.shape
  have hE := IsE.box (w := w) (e := e) (t := 25) hk
  generalize hw0 : w.alloc (.cells #[.int .i64 e.op, .int .i64 e.wd, .int .i64 e.n, .slice a n c] 25) = w0 at hE
  have hx0 : Ext w w0 := by rw [← hw0]; exact (Ext.refl w).alloc _
  have hs0 : w0.heap.size = w.heap.size + 1 := by rw [← hw0]; simp
  have H0 := Lib.hid hw0; have HX0 := Lib.hid hx0; have HS0 := Lib.hid hs0; have HE := Lib.hid hE
  clear hw0 hx0 hs0 hE hk
  go_enter Tryz.func93, Tryz.ntmps93
  go_wp2_with fail
  rw [H0.out]
  have e1 : w.heap.size + 1 = w0.heap.size := HS0.out.symm
  rw [e1]
  refine (rebuild_same w0 none w0.heap.size (fun _ h => by cases h) E.bare (fun _ => True) (fun _ _ => True) (fun _ _ _ _ _ => trivial)
    (fun x w b o acc _ h2 h3 _ _ => (same_any x w b o (h2.ext h3)).mono fun r w' ⟨h4, h5⟩ => ⟨⟨_, h4, ⟨_, rfl, kidsB_nil _ _⟩⟩, h5.grownBy _, trivial⟩)
    100000 (Nat.le_refl _) e _ _ _ [] hs (fun _ _ => trivial) HE.out ((Ext.refl w0).alloc _) (by simp) trivial).mono ?_
  rintro r w1 ⟨⟨v1, rfl, hv1⟩, hgr, _⟩
  rw [rebuild_id] at hv1
  have hR : w1.heap[w0.heap.size]? = some (.cells #[.int .i64 0, .int .i64 0, .int .i64 0, .slice none 0 0] 25 (0, 0)) := by
    rw [hgr.block w0.heap.size (by simp) (by simp)]; exact heap_new _ _
  obtain ⟨ka, kn, kc, rfl, hkv⟩ := hv1.shape
  have hkv' : KidsB (w0.heap.size + 1) w1 (.slice ka kn kc) e.kids := by simpa using hkv
  have HF : Hid (NewE e w (.returned (.agg #[.int .i64 e.op, .int .i64 e.wd, .int .i64 e.n, .slice ka kn kc])) (put4 w1 w0.heap.size 0 (.int .i64 e.op) (.int .i64 e.wd) (.int .i64 e.n) (.slice ka kn kc))) := by
    refine ⟨⟨_, rfl, _, rfl, (hkv'.keep (fun q hq _ => put4_heap q (by omega))).mono (by omega)⟩, ?_⟩
    have hx1 : Ext w w1 := (HX0.out.alloc _).grown hgr (fun k hk => by cases hk)
    exact Below.trans hx1 (below_put4 (by omega))
  have HB := Lib.hid (put4_new (x := .int .i64 e.op) (y := .int .i64 e.wd) (z := .int .i64 e.n) (u := .slice ka kn kc) hR)
  obtain ⟨c0, c1, c2, c3, f0, f1, f2, f3⟩ := cells_of_block hR
  clear hR hgr hv1 hkv hkv' e1
  go_wp2_with fail
  exact bodyPost_ret (v := .agg #[.int .i64 e.op, .int .i64 e.wd, .int .i64 e.n, .slice ka kn kc]) (results_cell_row Tryz.results93 _ _ w0.heap.size 25 _ (0, 0) _ rfl HB.out Tryz.underlying25 rfl sizeExpr) rfl HF.out

/-- A leaf before the step. -/
def beforeLeaf (x : E) : E := if x.op = 2 then .mk 3 x.wd x.n [] else x.bare

set_option maxHeartbeats 1000000 in
theorem Before1_any (x : E) (w : World) (b o : Nat) (hE : IsE w b o x) : Calls Tryz.prog 67 #[.pointer (some ⟨b, o, none⟩)] w fun r w' => r = .returned (.agg #[.int .i64 (beforeLeaf x).op, .int .i64 (beforeLeaf x).wd, .int .i64 (beforeLeaf x).n, .slice none 0 0]) ∧ Ext w w' := by
  obtain ⟨h0, _, _, _, _, _⟩ := hE.cells
  have hbs : b < w.heap.size := block_lt h0
  by_cases hop : x.op = 2
  · have hb : (x.op == (2 : Int)) = true := by simp [hop]
    have HF : Hid (beforeLeaf x = .mk 3 x.wd x.n []) := by simp [Hid, beforeLeaf, hop]
    clear hop
    go_enter Tryz.func67, Tryz.ntmps67
    go_wp2_with fail
    refine (same_any x _ b o (hE.ext ((Ext.refl w).alloc _))).mono ?_
    rintro r w1 ⟨rfl, hx1⟩
    have g0 : w1.cell? ⟨b, o, none⟩ = some (.int .i64 x.op) := hx1.cell (Ext.cell ((Ext.refl w).alloc _) h0)
    have hs1 : w.heap.size < w1.heap.size := by have := hx1.size; simp at this; omega
    have hbs1 : b < w1.heap.size := by omega
    have hR : w1.heap[w.heap.size]? = some (.cells #[.int .i64 0, .int .i64 0, .int .i64 0, .slice none 0 0] 25 (0, 0)) := by
      rw [hx1.block w.heap.size (by simp)]; exact heap_new _ _
    obtain ⟨c0, c1, c2, c3, f0, f1, f2, f3⟩ := cells_of_block hR
    have hxw : Ext w w1 := ((Ext.refl w).alloc _).trans hx1
    have HX1 := Lib.hid hxw; have HR := Lib.hid hR; clear hx1 hR hxw
    have HB : Hid (((put4 w1 w.heap.size 0 (.int .i64 (3)) (.int .i64 x.wd) (.int .i64 x.n) (.slice none 0 0)).alloc (.cells #[.int .i64 (3), .int .i64 x.wd, .int .i64 x.n, .slice none 0 0] 25)).heap[w.heap.size]? = some (.cells #[.int .i64 (3), .int .i64 x.wd, .int .i64 x.n, .slice none 0 0] 25 (0, 0))) := by
      rw [Below.heap_alloc _ _ _ (by rw [put4_size]; exact hs1)]; exact put4_new HR.out
    have HZ : Hid (Ext w ((put4 w1 w.heap.size 0 (.int .i64 (3)) (.int .i64 x.wd) (.int .i64 x.n) (.slice none 0 0)).alloc (.cells #[.int .i64 (3), .int .i64 x.wd, .int .i64 x.n, .slice none 0 0] 25))) := Ext.alloc (Below.trans HX1.out (below_put4 (Nat.le_refl _))) _
    go_wp2_with fail
    exact bodyPost_ret (v := .agg #[.int .i64 (3), .int .i64 x.wd, .int .i64 x.n, .slice none 0 0]) (results_cell_row Tryz.results67 _ _ w.heap.size 25 _ (0, 0) _ rfl HB.out Tryz.underlying25 rfl sizeExpr) rfl ⟨by rw [HF.out]; rfl, HZ.out⟩
  · have hb : (x.op == (2 : Int)) = false := by rw [beq_eq_false_iff_ne]; exact hop
    have HF : Hid (beforeLeaf x = .mk x.op x.wd x.n []) := by simp [Hid, beforeLeaf, hop, E.bare]
    clear hop
    go_enter Tryz.func67, Tryz.ntmps67
    go_wp2_with fail
    refine (same_any x _ b o (hE.ext ((Ext.refl w).alloc _))).mono ?_
    rintro r w1 ⟨rfl, hx1⟩
    have g0 : w1.cell? ⟨b, o, none⟩ = some (.int .i64 x.op) := hx1.cell (Ext.cell ((Ext.refl w).alloc _) h0)
    have hs1 : w.heap.size < w1.heap.size := by have := hx1.size; simp at this; omega
    have hbs1 : b < w1.heap.size := by omega
    have hR : w1.heap[w.heap.size]? = some (.cells #[.int .i64 0, .int .i64 0, .int .i64 0, .slice none 0 0] 25 (0, 0)) := by
      rw [hx1.block w.heap.size (by simp)]; exact heap_new _ _
    obtain ⟨c0, c1, c2, c3, f0, f1, f2, f3⟩ := cells_of_block hR
    have hxw : Ext w w1 := ((Ext.refl w).alloc _).trans hx1
    have HX1 := Lib.hid hxw; have HR := Lib.hid hR; clear hx1 hR hxw
    have HB : Hid (((put4 w1 w.heap.size 0 (.int .i64 (x.op)) (.int .i64 x.wd) (.int .i64 x.n) (.slice none 0 0)).alloc (.cells #[.int .i64 (x.op), .int .i64 x.wd, .int .i64 x.n, .slice none 0 0] 25)).heap[w.heap.size]? = some (.cells #[.int .i64 (x.op), .int .i64 x.wd, .int .i64 x.n, .slice none 0 0] 25 (0, 0))) := by
      rw [Below.heap_alloc _ _ _ (by rw [put4_size]; exact hs1)]; exact put4_new HR.out
    have HZ : Hid (Ext w ((put4 w1 w.heap.size 0 (.int .i64 (x.op)) (.int .i64 x.wd) (.int .i64 x.n) (.slice none 0 0)).alloc (.cells #[.int .i64 (x.op), .int .i64 x.wd, .int .i64 x.n, .slice none 0 0] 25))) := Ext.alloc (Below.trans HX1.out (below_put4 (Nat.le_refl _))) _
    go_wp2_with fail
    exact bodyPost_ret (v := .agg #[.int .i64 (x.op), .int .i64 x.wd, .int .i64 x.n, .slice none 0 0]) (results_cell_row Tryz.results67 _ _ w.heap.size 25 _ (0, 0) _ rfl HB.out Tryz.underlying25 rfl sizeExpr) rfl ⟨by rw [HF.out]; rfl, HZ.out⟩

/-- Before's answer. -/
def E.before (e : E) : E := if e.wf then e.rebuild beforeLeaf else .mk 0 0 0 []
theorem beforeLeaf_kids (x : E) : (beforeLeaf x).kids = [] := by unfold beforeLeaf; split <;> rfl
theorem wf_size {e : E} (h : e.wf = true) : e.size ≤ 600 := by simp only [E.wf, Bool.and_eq_true, decide_eq_true_eq] at h; exact h.1

set_option maxHeartbeats 1000000 in
theorem Before_any (e : E) (v : Value) (w : World) (he : EVal w v e) (hM : Masks w) : Calls Tryz.prog 38 #[v] w (NewE e.before w) := by
  obtain ⟨a, n, c, rfl, hk⟩ := he.shape
  have hE := IsE.box (w := w) (e := e) (t := 25) hk
  generalize hw0 : w.alloc (.cells #[.int .i64 e.op, .int .i64 e.wd, .int .i64 e.n, .slice a n c] 25) = w0 at hE
  have hx0 : Ext w w0 := by rw [← hw0]; exact (Ext.refl w).alloc _
  have hs0 : w0.heap.size = w.heap.size + 1 := by rw [← hw0]; simp
  have hv0 : EVal w0 (.agg #[.int .i64 e.op, .int .i64 e.wd, .int .i64 e.n, .slice a n c]) e := ⟨_, rfl, hk.ext hx0⟩
  have H0 := Lib.hid hw0; have HX0 := Lib.hid hx0; have HS0 := Lib.hid hs0; have HE := Lib.hid hE; have HV0 := Lib.hid hv0; have HM0 := Lib.hid (hM.ext hx0)
  clear hw0 hx0 hs0 hE hk hv0 hM
  cases hw : e.wf with
  | false =>
    have HW := Lib.hid hw; clear hw
    have HB : Hid (e.before = .mk 0 0 0 []) := by simp [Hid, E.before, HW.out]
    go_enter Tryz.func38, Tryz.ntmps38
    go_wp2_with fail
    rw [H0.out]
    have e1 : w.heap.size + 1 = w0.heap.size := HS0.out.symm
    rw [e1]
    refine (wellFormed_any e _ _ (HV0.out.ext ((Ext.refl w0).alloc _)) (HM0.out.ext ((Ext.refl w0).alloc _))).mono ?_
    rintro r w1 ⟨rfl, hx1⟩
    rw [HW.out]
    have hR : w1.heap[w0.heap.size]? = some (.cells #[.int .i64 0, .int .i64 0, .int .i64 0, .slice none 0 0] 25 (0, 0)) := by
      rw [hx1.block w0.heap.size (by simp)]; exact heap_new _ _
    obtain ⟨c0, c1, c2, c3, f0, f1, f2, f3⟩ := cells_of_block hR
    have HZ : Hid (NewE (.mk 0 0 0 []) w (.returned (.agg #[.int .i64 0, .int .i64 0, .int .i64 0, .slice none 0 0])) (put4 w1 w0.heap.size 0 (.int .i64 0) (.int .i64 0) (.int .i64 0) (.slice none 0 0))) :=
      ⟨⟨_, rfl, _, rfl, kidsB_nil _ _⟩, Below.trans (HX0.out.trans (((Ext.refl w0).alloc _).trans hx1)) (below_put4 (by omega))⟩
    have HB2 := Lib.hid (put4_new (x := .int .i64 0) (y := .int .i64 0) (z := .int .i64 0) (u := .slice none 0 0) hR)
    clear hx1 hR e1
    go_wp2_with fail
    exact bodyPost_ret (v := .agg #[.int .i64 0, .int .i64 0, .int .i64 0, .slice none 0 0]) (results_cell_row Tryz.results38 _ _ w0.heap.size 25 _ (0, 0) _ rfl HB2.out Tryz.underlying25 rfl sizeExpr) rfl (by rw [HB.out]; exact HZ.out)
  | true =>
    have HW := Lib.hid hw; clear hw
    have HB : Hid (e.before = e.rebuild beforeLeaf) := by simp [Hid, E.before, HW.out]
    go_enter Tryz.func38, Tryz.ntmps38
    go_wp2_with fail
    rw [H0.out]
    have e1 : w.heap.size + 1 = w0.heap.size := HS0.out.symm
    rw [e1]
    refine (wellFormed_any e _ _ (HV0.out.ext ((Ext.refl w0).alloc _)) (HM0.out.ext ((Ext.refl w0).alloc _))).mono ?_
    rintro r w1 ⟨rfl, hx1⟩
    rw [HW.out]
    have hR : w1.heap[w0.heap.size]? = some (.cells #[.int .i64 0, .int .i64 0, .int .i64 0, .slice none 0 0] 25 (0, 0)) := by
      rw [hx1.block w0.heap.size (by simp)]; exact heap_new _ _
    have hx01 : Ext w0 w1 := ((Ext.refl w0).alloc _).trans hx1
    have hs01 : w0.heap.size < w1.heap.size := by have := hx1.size; simp at this; omega
    have HX1 := Lib.hid hx01; have HR := Lib.hid hR
    clear hx1 hR e1 hx01
    go_wp2_with fail
    refine (rebuild_before w0 none w0.heap.size (fun _ h => by cases h) beforeLeaf (fun _ => True) (fun _ _ => True) (fun _ _ _ _ _ => trivial)
      (fun x w b o acc _ h2 h3 _ _ => (Before1_any x w b o (h2.ext h3)).mono fun r w' ⟨h4, h5⟩ => ⟨⟨_, h4, ⟨_, rfl, by rw [beforeLeaf_kids]; exact kidsB_nil _ _⟩⟩, h5.grownBy _, trivial⟩)
      100000 (Nat.le_refl _) e _ _ _ [] (by have := wf_size HW.out; omega) (fun _ _ => trivial) HE.out HX1.out (by omega) trivial).mono ?_
    rintro r w2 ⟨⟨v1, rfl, hv1⟩, hgr, _⟩
    have hR2 : w2.heap[w0.heap.size]? = some (.cells #[.int .i64 0, .int .i64 0, .int .i64 0, .slice none 0 0] 25 (0, 0)) := by
      rw [hgr.block w0.heap.size hs01 (by simp)]; exact HR.out
    rw [← HB.out] at hv1
    obtain ⟨ka, kn, kc, rfl, hkv⟩ := hv1.shape
    have HF : Hid (NewE e.before w (.returned (.agg #[.int .i64 e.before.op, .int .i64 e.before.wd, .int .i64 e.before.n, .slice ka kn kc])) (put4 w2 w0.heap.size 0 (.int .i64 e.before.op) (.int .i64 e.before.wd) (.int .i64 e.before.n) (.slice ka kn kc))) := by
      refine ⟨⟨_, rfl, _, rfl, (((hkv.mono (by omega) : KidsB (w0.heap.size + 1) _ _ _)).keep (fun q hq _ => put4_heap q (by omega))).mono (by have := HS0.out; omega)⟩, ?_⟩
      have hx1 : Ext w w2 := (HX0.out.trans HX1.out).grown hgr (fun k hk => by cases hk)
      exact Below.trans hx1 (below_put4 (by have := HS0.out; omega))
    have HB2 := Lib.hid (put4_new (x := .int .i64 e.before.op) (y := .int .i64 e.before.wd) (z := .int .i64 e.before.n) (u := .slice ka kn kc) hR2)
    obtain ⟨c0, c1, c2, c3, f0, f1, f2, f3⟩ := cells_of_block hR2
    clear hR2 hgr hv1 hkv
    go_wp2_with fail
    exact bodyPost_ret (v := .agg #[.int .i64 e.before.op, .int .i64 e.before.wd, .int .i64 e.before.n, .slice ka kn kc]) (results_cell_row Tryz.results38 _ _ w0.heap.size 25 _ (0, 0) _ rfl HB2.out Tryz.underlying25 rfl sizeExpr) rfl HF.out
end Go.Proofs.YtlcgbdjmlnjhcaaGreatDoor
