/-
  The walks of clone, Before.
  The walk of states.tree.
  The walk of states.member.
-/
import Derived.Test.YtlcgbdjmlnjhcaaGreatDoorG14
import Derived.Test.YtlcgbdjmlnjhcaaGreatDoorG01
namespace Go.Proofs.YtlcgbdjmlnjhcaaGreatDoor
open Go.RowKit

theorem kidsB_nil (N : Nat) (w : World) : KidsB N w (.slice none 0 0) [] := .inl ⟨rfl, rfl⟩

mutual
theorem rebuild_id : (e : E) → e.rebuild E.bare = e
  | .mk op wd n ks => by
    by_cases h : ks = []
    · subst h; rw [rebuild_nil]; rfl
    · rw [rebuild_cons _ h, ← rebuildAll_eq, rebuildAll_id ks]
theorem rebuildAll_id : (ks : List E) → rebuildAll E.bare ks = ks
  | [] => rfl
  | e :: r => by rw [rebuildAll, rebuild_id e, rebuildAll_id r]
end

/-- An expression in new memory: what a call gives back. -/
def NewE (e : E) (w : World) (r : Ending) (w' : World) : Prop := (∃ v, r = .returned v ∧ EValB w.heap.size w' v e) ∧ Ext w w'
/-- After a call that may have drawn or made a block: by value, with its shape. -/
theorem EValB.shape {N : Nat} {w : World} {v : Value} {e : E} (h : EValB N w v e) : ∃ a n c, v = .agg #[.int .i64 e.op, .int .i64 e.wd, .int .i64 e.n, .slice a n c] ∧ KidsB N w (.slice a n c) e.kids := by
  obtain ⟨k, rfl, hk⟩ := h
  obtain ⟨a, c, rfl⟩ := SliceAt.shape hk.kids
  exact ⟨a, _, c, rfl, hk⟩
theorem EVal.shape {w : World} {v : Value} {e : E} (h : EVal w v e) : ∃ a n c, v = .agg #[.int .i64 e.op, .int .i64 e.wd, .int .i64 e.n, .slice a n c] ∧ Kids w (.slice a n c) e.kids := by
  obtain ⟨k, rfl, hk⟩ := h
  obtain ⟨a, c, rfl⟩ := SliceAt.shape hk
  exact ⟨a, _, c, rfl, hk⟩

theorem zeroExpr4 : (#[.int .i64 0, .int .i64 0, .int .i64 0, .slice none 0 0] : Array Value).size = 4 := rfl

set_option maxHeartbeats 1000000 in
theorem clone_any (e : E) (v : Value) (w : World) (he : EVal w v e) (hs : e.size ≤ 100000) : Calls Tryz.prog 93 #[v] w (NewE e w) := by
  obtain ⟨a, n, c, rfl, hk⟩ := he.shape
  have hE := IsE.box (w := w) (e := e) (t := 25) hk
  generalize hw0 : w.alloc (.cells #[.int .i64 e.op, .int .i64 e.wd, .int .i64 e.n, .slice a n c] 25) = w0 at hE
  have hx0 : Ext w w0 := by rw [← hw0]; exact (Ext.refl w).alloc _
  have hs0 : w0.heap.size = w.heap.size + 1 := by rw [← hw0]; simp
  have H0 := Lib.hid hw0; have HX0 := Lib.hid hx0; have HS0 := Lib.hid hs0; have HE := Lib.hid hE
  clear hw0 hx0 hs0 hE hk
  go_enter Tryz.func93, Tryz.ntmps93
  go_wp2_with fail
  rw [H0.out]
  have e1 : w.heap.size + 1 = w0.heap.size := HS0.out.symm
  rw [e1]
  refine (rebuild_same w0 none w0.heap.size (fun _ h => by cases h) E.bare (fun _ => True) (fun _ _ => True) (fun _ _ _ _ _ => trivial)
    (fun x w b o acc _ h2 h3 _ _ => (same_any x w b o (h2.ext h3)).mono fun r w' ⟨h4, h5⟩ => ⟨⟨_, h4, ⟨_, rfl, kidsB_nil _ _⟩⟩, h5.grownBy _, trivial⟩)
    100000 (Nat.le_refl _) e _ _ _ [] hs (fun _ _ => trivial) HE.out ((Ext.refl w0).alloc _) (by simp) trivial).mono ?_
  rintro r w1 ⟨⟨v1, rfl, hv1⟩, hgr, _⟩
  rw [rebuild_id] at hv1
  have hR : w1.heap[w0.heap.size]? = some (.cells #[.int .i64 0, .int .i64 0, .int .i64 0, .slice none 0 0] 25 (0, 0)) := by
    rw [hgr.block w0.heap.size (by simp) (by simp)]; exact heap_new _ _
  obtain ⟨ka, kn, kc, rfl, hkv⟩ := hv1.shape
  have hkv' : KidsB (w0.heap.size + 1) w1 (.slice ka kn kc) e.kids := by simpa using hkv
  have HF : Hid (NewE e w (.returned (.agg #[.int .i64 e.op, .int .i64 e.wd, .int .i64 e.n, .slice ka kn kc])) (put4 w1 w0.heap.size 0 (.int .i64 e.op) (.int .i64 e.wd) (.int .i64 e.n) (.slice ka kn kc))) := by
    refine ⟨⟨_, rfl, _, rfl, (hkv'.keep (fun q hq _ => put4_heap q (by omega))).mono (by omega)⟩, ?_⟩
    have hx1 : Ext w w1 := (HX0.out.alloc _).grown hgr (fun k hk => by cases hk)
    exact Below.trans hx1 (below_put4 (by omega))
  have HB := Lib.hid (put4_new (x := .int .i64 e.op) (y := .int .i64 e.wd) (z := .int .i64 e.n) (u := .slice ka kn kc) hR)
  obtain ⟨c0, c1, c2, c3, f0, f1, f2, f3⟩ := cells_of_block hR
  clear hR hgr hv1 hkv hkv' e1
  go_wp2_with fail
  exact bodyPost_ret (v := .agg #[.int .i64 e.op, .int .i64 e.wd, .int .i64 e.n, .slice ka kn kc]) (results_cell_row Tryz.results93 _ _ w0.heap.size 25 _ (0, 0) _ rfl HB.out Tryz.underlying25 rfl sizeExpr) rfl HF.out

/-- A leaf before the step. -/
def beforeLeaf (x : E) : E := if x.op = 2 then .mk 3 x.wd x.n [] else x.bare

set_option maxHeartbeats 1000000 in
theorem Before1_any (x : E) (w : World) (b o : Nat) (hE : IsE w b o x) : Calls Tryz.prog 67 #[.pointer (some ⟨b, o, none⟩)] w fun r w' => r = .returned (.agg #[.int .i64 (beforeLeaf x).op, .int .i64 (beforeLeaf x).wd, .int .i64 (beforeLeaf x).n, .slice none 0 0]) ∧ Ext w w' := by
  obtain ⟨h0, _, _, _, _, _⟩ := hE.cells
  have hbs : b < w.heap.size := block_lt h0
  by_cases hop : x.op = 2
  · have hb : (x.op == (2 : Int)) = true := by simp [hop]
    have HF : Hid (beforeLeaf x = .mk 3 x.wd x.n []) := by simp [Hid, beforeLeaf, hop]
    clear hop
    go_enter Tryz.func67, Tryz.ntmps67
    go_wp2_with fail
    refine (same_any x _ b o (hE.ext ((Ext.refl w).alloc _))).mono ?_
    rintro r w1 ⟨rfl, hx1⟩
    have g0 : w1.cell? ⟨b, o, none⟩ = some (.int .i64 x.op) := hx1.cell (Ext.cell ((Ext.refl w).alloc _) h0)
    have hs1 : w.heap.size < w1.heap.size := by have := hx1.size; simp at this; omega
    have hbs1 : b < w1.heap.size := by omega
    have hR : w1.heap[w.heap.size]? = some (.cells #[.int .i64 0, .int .i64 0, .int .i64 0, .slice none 0 0] 25 (0, 0)) := by
      rw [hx1.block w.heap.size (by simp)]; exact heap_new _ _
    obtain ⟨c0, c1, c2, c3, f0, f1, f2, f3⟩ := cells_of_block hR
    have hxw : Ext w w1 := ((Ext.refl w).alloc _).trans hx1
    have HX1 := Lib.hid hxw; have HR := Lib.hid hR; clear hx1 hR hxw
    have HB : Hid (((put4 w1 w.heap.size 0 (.int .i64 (3)) (.int .i64 x.wd) (.int .i64 x.n) (.slice none 0 0)).alloc (.cells #[.int .i64 (3), .int .i64 x.wd, .int .i64 x.n, .slice none 0 0] 25)).heap[w.heap.size]? = some (.cells #[.int .i64 (3), .int .i64 x.wd, .int .i64 x.n, .slice none 0 0] 25 (0, 0))) := by
      rw [Below.heap_alloc _ _ _ (by rw [put4_size]; exact hs1)]; exact put4_new HR.out
    have HZ : Hid (Ext w ((put4 w1 w.heap.size 0 (.int .i64 (3)) (.int .i64 x.wd) (.int .i64 x.n) (.slice none 0 0)).alloc (.cells #[.int .i64 (3), .int .i64 x.wd, .int .i64 x.n, .slice none 0 0] 25))) := Ext.alloc (Below.trans HX1.out (below_put4 (Nat.le_refl _))) _
    go_wp2_with fail
    exact bodyPost_ret (v := .agg #[.int .i64 (3), .int .i64 x.wd, .int .i64 x.n, .slice none 0 0]) (results_cell_row Tryz.results67 _ _ w.heap.size 25 _ (0, 0) _ rfl HB.out Tryz.underlying25 rfl sizeExpr) rfl ⟨by rw [HF.out]; rfl, HZ.out⟩
  · have hb : (x.op == (2 : Int)) = false := by rw [beq_eq_false_iff_ne]; exact hop
    have HF : Hid (beforeLeaf x = .mk x.op x.wd x.n []) := by simp [Hid, beforeLeaf, hop, E.bare]
    clear hop
    go_enter Tryz.func67, Tryz.ntmps67
    go_wp2_with fail
    refine (same_any x _ b o (hE.ext ((Ext.refl w).alloc _))).mono ?_
    rintro r w1 ⟨rfl, hx1⟩
    have g0 : w1.cell? ⟨b, o, none⟩ = some (.int .i64 x.op) := hx1.cell (Ext.cell ((Ext.refl w).alloc _) h0)
    have hs1 : w.heap.size < w1.heap.size := by have := hx1.size; simp at this; omega
    have hbs1 : b < w1.heap.size := by omega
    have hR : w1.heap[w.heap.size]? = some (.cells #[.int .i64 0, .int .i64 0, .int .i64 0, .slice none 0 0] 25 (0, 0)) := by
      rw [hx1.block w.heap.size (by simp)]; exact heap_new _ _
    obtain ⟨c0, c1, c2, c3, f0, f1, f2, f3⟩ := cells_of_block hR
    have hxw : Ext w w1 := ((Ext.refl w).alloc _).trans hx1
    have HX1 := Lib.hid hxw; have HR := Lib.hid hR; clear hx1 hR hxw
    have HB : Hid (((put4 w1 w.heap.size 0 (.int .i64 (x.op)) (.int .i64 x.wd) (.int .i64 x.n) (.slice none 0 0)).alloc (.cells #[.int .i64 (x.op), .int .i64 x.wd, .int .i64 x.n, .slice none 0 0] 25)).heap[w.heap.size]? = some (.cells #[.int .i64 (x.op), .int .i64 x.wd, .int .i64 x.n, .slice none 0 0] 25 (0, 0))) := by
      rw [Below.heap_alloc _ _ _ (by rw [put4_size]; exact hs1)]; exact put4_new HR.out
    have HZ : Hid (Ext w ((put4 w1 w.heap.size 0 (.int .i64 (x.op)) (.int .i64 x.wd) (.int .i64 x.n) (.slice none 0 0)).alloc (.cells #[.int .i64 (x.op), .int .i64 x.wd, .int .i64 x.n, .slice none 0 0] 25))) := Ext.alloc (Below.trans HX1.out (below_put4 (Nat.le_refl _))) _
    go_wp2_with fail
    exact bodyPost_ret (v := .agg #[.int .i64 (x.op), .int .i64 x.wd, .int .i64 x.n, .slice none 0 0]) (results_cell_row Tryz.results67 _ _ w.heap.size 25 _ (0, 0) _ rfl HB.out Tryz.underlying25 rfl sizeExpr) rfl ⟨by rw [HF.out]; rfl, HZ.out⟩

/-- Before's answer. -/
def E.before (e : E) : E := if e.wf then e.rebuild beforeLeaf else .mk 0 0 0 []
theorem beforeLeaf_kids (x : E) : (beforeLeaf x).kids = [] := by unfold beforeLeaf; split <;> rfl
theorem wf_size {e : E} (h : e.wf = true) : e.size ≤ 600 := by simp only [E.wf, Bool.and_eq_true, decide_eq_true_eq] at h; exact h.1

set_option maxHeartbeats 1000000 in
theorem Before_any (e : E) (v : Value) (w : World) (he : EVal w v e) (hM : Masks w) : Calls Tryz.prog 38 #[v] w (NewE e.before w) := by
  obtain ⟨a, n, c, rfl, hk⟩ := he.shape
  have hE := IsE.box (w := w) (e := e) (t := 25) hk
  generalize hw0 : w.alloc (.cells #[.int .i64 e.op, .int .i64 e.wd, .int .i64 e.n, .slice a n c] 25) = w0 at hE
  have hx0 : Ext w w0 := by rw [← hw0]; exact (Ext.refl w).alloc _
  have hs0 : w0.heap.size = w.heap.size + 1 := by rw [← hw0]; simp
  have hv0 : EVal w0 (.agg #[.int .i64 e.op, .int .i64 e.wd, .int .i64 e.n, .slice a n c]) e := ⟨_, rfl, hk.ext hx0⟩
  have H0 := Lib.hid hw0; have HX0 := Lib.hid hx0; have HS0 := Lib.hid hs0; have HE := Lib.hid hE; have HV0 := Lib.hid hv0; have HM0 := Lib.hid (hM.ext hx0)
  clear hw0 hx0 hs0 hE hk hv0 hM
  cases hw : e.wf with
  | false =>
    have HW := Lib.hid hw; clear hw
    have HB : Hid (e.before = .mk 0 0 0 []) := by simp [Hid, E.before, HW.out]
    go_enter Tryz.func38, Tryz.ntmps38
    go_wp2_with fail
    rw [H0.out]
    have e1 : w.heap.size + 1 = w0.heap.size := HS0.out.symm
    rw [e1]
    refine (wellFormed_any e _ _ (HV0.out.ext ((Ext.refl w0).alloc _)) (HM0.out.ext ((Ext.refl w0).alloc _))).mono ?_
    rintro r w1 ⟨rfl, hx1⟩
    rw [HW.out]
    have hR : w1.heap[w0.heap.size]? = some (.cells #[.int .i64 0, .int .i64 0, .int .i64 0, .slice none 0 0] 25 (0, 0)) := by
      rw [hx1.block w0.heap.size (by simp)]; exact heap_new _ _
    obtain ⟨c0, c1, c2, c3, f0, f1, f2, f3⟩ := cells_of_block hR
    have HZ : Hid (NewE (.mk 0 0 0 []) w (.returned (.agg #[.int .i64 0, .int .i64 0, .int .i64 0, .slice none 0 0])) (put4 w1 w0.heap.size 0 (.int .i64 0) (.int .i64 0) (.int .i64 0) (.slice none 0 0))) :=
      ⟨⟨_, rfl, _, rfl, kidsB_nil _ _⟩, Below.trans (HX0.out.trans (((Ext.refl w0).alloc _).trans hx1)) (below_put4 (by omega))⟩
    have HB2 := Lib.hid (put4_new (x := .int .i64 0) (y := .int .i64 0) (z := .int .i64 0) (u := .slice none 0 0) hR)
    clear hx1 hR e1
    go_wp2_with fail
    exact bodyPost_ret (v := .agg #[.int .i64 0, .int .i64 0, .int .i64 0, .slice none 0 0]) (results_cell_row Tryz.results38 _ _ w0.heap.size 25 _ (0, 0) _ rfl HB2.out Tryz.underlying25 rfl sizeExpr) rfl (by rw [HB.out]; exact HZ.out)
  | true =>
    have HW := Lib.hid hw; clear hw
    have HB : Hid (e.before = e.rebuild beforeLeaf) := by simp [Hid, E.before, HW.out]
    go_enter Tryz.func38, Tryz.ntmps38
    go_wp2_with fail
    rw [H0.out]
    have e1 : w.heap.size + 1 = w0.heap.size := HS0.out.symm
    rw [e1]
    refine (wellFormed_any e _ _ (HV0.out.ext ((Ext.refl w0).alloc _)) (HM0.out.ext ((Ext.refl w0).alloc _))).mono ?_
    rintro r w1 ⟨rfl, hx1⟩
    rw [HW.out]
    have hR : w1.heap[w0.heap.size]? = some (.cells #[.int .i64 0, .int .i64 0, .int .i64 0, .slice none 0 0] 25 (0, 0)) := by
      rw [hx1.block w0.heap.size (by simp)]; exact heap_new _ _
    have hx01 : Ext w0 w1 := ((Ext.refl w0).alloc _).trans hx1
    have hs01 : w0.heap.size < w1.heap.size := by have := hx1.size; simp at this; omega
    have HX1 := Lib.hid hx01; have HR := Lib.hid hR
    clear hx1 hR e1 hx01
    go_wp2_with fail
    refine (rebuild_before w0 none w0.heap.size (fun _ h => by cases h) beforeLeaf (fun _ => True) (fun _ _ => True) (fun _ _ _ _ _ => trivial)
      (fun x w b o acc _ h2 h3 _ _ => (Before1_any x w b o (h2.ext h3)).mono fun r w' ⟨h4, h5⟩ => ⟨⟨_, h4, ⟨_, rfl, by rw [beforeLeaf_kids]; exact kidsB_nil _ _⟩⟩, h5.grownBy _, trivial⟩)
      100000 (Nat.le_refl _) e _ _ _ [] (by have := wf_size HW.out; omega) (fun _ _ => trivial) HE.out HX1.out (by omega) trivial).mono ?_
    rintro r w2 ⟨⟨v1, rfl, hv1⟩, hgr, _⟩
    have hR2 : w2.heap[w0.heap.size]? = some (.cells #[.int .i64 0, .int .i64 0, .int .i64 0, .slice none 0 0] 25 (0, 0)) := by
      rw [hgr.block w0.heap.size hs01 (by simp)]; exact HR.out
    rw [← HB.out] at hv1
    obtain ⟨ka, kn, kc, rfl, hkv⟩ := hv1.shape
    have HF : Hid (NewE e.before w (.returned (.agg #[.int .i64 e.before.op, .int .i64 e.before.wd, .int .i64 e.before.n, .slice ka kn kc])) (put4 w2 w0.heap.size 0 (.int .i64 e.before.op) (.int .i64 e.before.wd) (.int .i64 e.before.n) (.slice ka kn kc))) := by
      refine ⟨⟨_, rfl, _, rfl, (((hkv.mono (by omega) : KidsB (w0.heap.size + 1) _ _ _)).keep (fun q hq _ => put4_heap q (by omega))).mono (by have := HS0.out; omega)⟩, ?_⟩
      have hx1 : Ext w w2 := (HX0.out.trans HX1.out).grown hgr (fun k hk => by cases hk)
      exact Below.trans hx1 (below_put4 (by have := HS0.out; omega))
    have HB2 := Lib.hid (put4_new (x := .int .i64 e.before.op) (y := .int .i64 e.before.wd) (z := .int .i64 e.before.n) (u := .slice ka kn kc) hR2)
    obtain ⟨c0, c1, c2, c3, f0, f1, f2, f3⟩ := cells_of_block hR2
    clear hR2 hgr hv1 hkv
    go_wp2_with fail
    exact bodyPost_ret (v := .agg #[.int .i64 e.before.op, .int .i64 e.before.wd, .int .i64 e.before.n, .slice ka kn kc]) (results_cell_row Tryz.results38 _ _ w0.heap.size 25 _ (0, 0) _ rfl HB2.out Tryz.underlying25 rfl sizeExpr) rfl HF.out
end Go.Proofs.YtlcgbdjmlnjhcaaGreatDoor
namespace Go.Proofs.YtlcgbdjmlnjhcaaGreatDoor
open Go.RowKit Go.Shelf
attribute [local go_sem] Oper.semAt_some

/-- member keeps its word for the first m cells. -/
def MemOk (cs ws : List Int) (m : Nat) : Prop := ∀ (is : List Nat) (vc vw vi : Value) (w : World), IntsC w vc (cs.take m) → IntsC w vw (ws.take m) → IntsC w vi (castL is) → is.Pairwise (· < ·) → (∀ x ∈ is, x < 2 ^ bitsN ws m) →
  Calls Tryz.prog 61 #[vc, vw, vi] w (NewE (memF cs ws m is) w)
theorem two_heap (w : World) (o0 o1 : Obj) : ((w.alloc o0).alloc o1).drew.heap[w.heap.size]? = some o0 ∧ ((w.alloc o0).alloc o1).drew.heap[w.heap.size + 1]? = some o1 := by
  refine ⟨?_, ?_⟩
  · show ((w.alloc o0).alloc o1).heap[w.heap.size]? = some o0
    rw [heap_alloc_old _ _ (by simp)]; exact heap_new _ _
  · have := heap_new (w.alloc o0) o1
    rw [World.size_alloc] at this
    exact this
theorem IsB.of_row {N : Nat} {w : World} {b o : Nat} {e : E} {k : Value} (c0 : w.cell? ⟨b, o, none⟩ = some (.int .i64 e.op)) (c1 : w.cell? ⟨b, o + 1, none⟩ = some (.int .i64 e.wd)) (c2 : w.cell? ⟨b, o + 2, none⟩ = some (.int .i64 e.n)) (c3 : w.cell? ⟨b, o + 3, none⟩ = some k) (hk : KidsB N w k e.kids) : IsB N w b o e := by
  obtain ⟨op, wd, n, ks⟩ := e
  rcases hk with ⟨rfl, hks⟩ | ⟨b', o', cap, rfl, hl, hb, h2⟩
  · simp at hks; subst hks; exact .leaf c0 c1 c2 c3
  · exact .node c0 c1 c2 c3 hl hb h2
theorem kidsB_two {N : Nat} {W : World} {K : Nat} {a b : E} {ka kb : Value} (hN : N ≤ K) (h1 : KidsB N W ka a.kids) (h2 : KidsB N W kb b.kids)
    (hb : W.heap[K]? = some (.cells #[.int .i64 a.op, .int .i64 a.wd, .int .i64 a.n, ka, .int .i64 b.op, .int .i64 b.wd, .int .i64 b.n, kb] 25 (0, 0))) : KidsB N W (.slice (some ⟨K, 0, none⟩) 2 2) [a, b] := by
  refine .inr ⟨K, 0, 2, rfl, by simp, hN, fun i h => ?_⟩
  have : i = 0 ∨ i = 1 := by simp at h; omega
  rcases this with rfl | rfl
  · exact IsB.of_row (k := ka) (by simp [World.cell?, hb]) (by simp [World.cell?, hb]) (by simp [World.cell?, hb]) (by simp [World.cell?, hb]) h1
  · exact IsB.of_row (k := kb) (by simp [World.cell?, hb]) (by simp [World.cell?, hb]) (by simp [World.cell?, hb]) (by simp [World.cell?, hb]) h2
theorem kidsB_three {N : Nat} {W : World} {K : Nat} {a b c : E} {ka kb kc : Value} (hN : N ≤ K) (h1 : KidsB N W ka a.kids) (h2 : KidsB N W kb b.kids) (h3 : KidsB N W kc c.kids)
    (hb : W.heap[K]? = some (.cells #[.int .i64 a.op, .int .i64 a.wd, .int .i64 a.n, ka, .int .i64 b.op, .int .i64 b.wd, .int .i64 b.n, kb, .int .i64 c.op, .int .i64 c.wd, .int .i64 c.n, kc] 25 (0, 0))) : KidsB N W (.slice (some ⟨K, 0, none⟩) 3 3) [a, b, c] := by
  refine .inr ⟨K, 0, 3, rfl, by simp, hN, fun i h => ?_⟩
  have : i = 0 ∨ i = 1 ∨ i = 2 := by simp at h; omega
  rcases this with rfl | rfl | rfl
  · exact IsB.of_row (k := ka) (by simp [World.cell?, hb]) (by simp [World.cell?, hb]) (by simp [World.cell?, hb]) (by simp [World.cell?, hb]) h1
  · exact IsB.of_row (k := kb) (by simp [World.cell?, hb]) (by simp [World.cell?, hb]) (by simp [World.cell?, hb]) (by simp [World.cell?, hb]) h2
  · exact IsB.of_row (k := kc) (by simp [World.cell?, hb]) (by simp [World.cell?, hb]) (by simp [World.cell?, hb]) (by simp [World.cell?, hb]) h3
theorem treeF_succ (leaf : List Nat → E) (wd c : Int) (f : Nat) (l : List (Nat × List Nat)) : treeF leaf wd c (f + 1) l = if l.length = 1 then leaf (l.getD 0 (0, [])).2 else
      .mk 14 1 0 [.mk 13 1 0 [.mk 2 wd c [], .mk 1 wd (l.getD ((l.length + 1) / 2 - 1) (0, [])).1 []], treeF leaf wd c f (l.take ((l.length + 1) / 2)), treeF leaf wd c f (l.drop ((l.length + 1) / 2))] := rfl
theorem len_wrap {m : Nat} (h : m ≤ 40) : wrap64 ((m : Int) + 1 - 1) = (m : Int) := by unfold wrap64; omega
set_option maxRecDepth 100000 in
set_option maxHeartbeats 4000000 in
theorem tree_any (cs ws : List Int) (m : Nat) (hc : m < cs.length) (hw : m < ws.length) (hm : m ≤ 40) (hok : MemOk cs ws m) : ∀ (f : Nat) (xs : List RunX) (vc vw vr : Value) (w : World), xs.length ≤ f → 0 < xs.length → f ≤ 1000 →
    IntsC w vc (cs.take (m + 1)) → IntsC w vw (ws.take (m + 1)) → RunsV w vr xs → (∀ x ∈ xs, x.l.Pairwise (· < ·) ∧ ∀ y ∈ x.l, y < 2 ^ bitsN ws m) →
    Calls Tryz.prog 84 #[vc, vw, vr] w (NewE (treeF (memF cs ws m) (ws.getD m 0) (cs.getD m 0) f (xs.map RunX.pr)) w) := by
  intro f
  induction f with
  | zero => intro xs vc vw vr w h1 h2; omega
  | succ f ih =>
    intro xs vc vw vr w hf hpos hf1 hvc hvw hvr hall
    obtain ⟨_, ca, cc, rfl, hcc⟩ := id hvc
    obtain ⟨_, wa, wcc, rfl, hwc⟩ := id hvw
    obtain ⟨ra, rc, rfl, hrc, _⟩ := id hvr
    have lc : (cs.take (m + 1)).length = m + 1 := by simp; omega
    have lw : (ws.take (m + 1)).length = m + 1 := by simp; omega
    rw [lc] at hvc hcc ⊢
    rw [lw] at hvw hwc ⊢
    have h1 := len_wrap hm
    obtain ⟨n, hn⟩ : ∃ n, n = xs.length := ⟨_, rfl⟩
    rw [← hn] at hvr hf hpos hrc ⊢
    have HOK := Lib.hid hok; have HVC := Lib.hid hvc; have HVW := Lib.hid hvw; have HVR := Lib.hid hvr; have HALL := Lib.hid hall; have HN := Lib.hid hn; have IH := Lib.hid ih
    clear hok hvc hvw hvr hall hn ih
    have HX : Hid (Ext w (w.alloc (.cells #[.int .i64 0, .int .i64 0, .int .i64 0, .slice none 0 0] 25))) := (Ext.refl w).alloc _
    by_cases hn1 : n = 1
    · subst hn1
      have h0 : 0 < xs.length := by have := HN.out; omega
      obtain ⟨g, o, rfl, _, q1, HI0⟩ := HVR.out.at 0 h0
      have HXS := HALL.out xs[0] (List.getElem_mem h0)
      have HXL : Hid (xs = [xs[0]]) := List.ext_getElem (by have := HN.out; simp; omega) fun i h1 h2 => by simp at h2; subst h2; rfl
      have HS0 := Lib.hid HXS; have HI0' := Lib.hid HI0
      generalize xs[0] = x at *
      clear HXS HI0
      have i1 : (0 : Int) ≤ (m : Int) := by omega
      have i2 : (m : Int) ≤ (cc : Int) := by omega
      have i3 : (m : Int) ≤ (wcc : Int) := by omega
      have q1' : w.cell? ⟨g, o + 1, none⟩ = some (.slice x.a (castL x.l).length x.c) := by simpa using q1
      have HR : Hid ((w.alloc (.cells #[.int .i64 0, .int .i64 0, .int .i64 0, .slice none 0 0] 25)).heap[w.heap.size]? = some (.cells #[.int .i64 0, .int .i64 0, .int .i64 0, .slice none 0 0] 25 (0, 0))) := heap_new _ _
      clear q1
      go_enter Tryz.func84, Tryz.ntmps84
      go_wp2
      obtain ⟨W1, hW1⟩ : ∃ W1, W1 = w.alloc (.cells #[.int .i64 0, .int .i64 0, .int .i64 0, .slice none 0 0] 25) := ⟨_, rfl⟩
      have WZ : Hid (W1.heap.size = w.heap.size + 1) := by unfold Hid; rw [hW1]; simp
      rw [← hW1] at HX HR ⊢
      clear hW1
      have q2 := HX.out.cell q1'
      have q2d := (HX.out.drew).cell q1'
      have TC := Lib.hid ((HVC.out.take m (by rw [lc]; omega)).ext HX.out); have TW := Lib.hid ((HVW.out.take m (by rw [lw]; omega)).ext HX.out); have TI := Lib.hid (HI0'.out.ext HX.out)
      rw [List.take_take, Nat.min_eq_left (Nat.le_succ m)] at TC TW
      go_region_held3 (fun w' => w'.cell? ⟨g, o + 1, none⟩ = some (.slice x.a (castL x.l).length x.c))
        (first | with_reducible exact hq1 | with_reducible exact hq2 | with_reducible exact q2d | fail)
        ((first
          | (go_at_call 61
             refine (HOK.out x.l _ _ _ _ (TC.out.ext (Ext.refl W1).drew) (TW.out.ext (Ext.refl W1).drew) (TI.out.ext (Ext.refl W1).drew) HS0.out.1 HS0.out.2).mono ?_
             rintro r w1 ⟨⟨v1, rfl, he⟩, hx1⟩
             obtain ⟨ka, kn, kc, rfl, hk⟩ := he.shape
             have hR1 := (hx1.block w.heap.size (by have := (Array.getElem?_eq_some_iff.1 HR.out).1; simpa using this)).trans HR.out
             obtain ⟨c0, c1, c2, c3, f0, f1, f2, f3⟩ := cells_of_block hR1
             have HB := Lib.hid (put4_new (x := .int .i64 (memF cs ws m x.l).op) (y := .int .i64 (memF cs ws m x.l).wd) (z := .int .i64 (memF cs ws m x.l).n) (u := .slice ka kn kc) hR1)
             have hwz : W1.drew.heap.size = w.heap.size + 1 := WZ.out
             have hkv : KidsB (w.heap.size + 1) w1 (.slice ka kn kc) (memF cs ws m x.l).kids := by rw [hwz] at hk; exact hk
             have HE := Lib.hid hkv
             have HX1 : Hid (Ext W1 w1) := (Ext.refl W1).drew.trans hx1
             have hq1 := HX1.out.cell q2
             have hxp : Ext w (put4 w1 w.heap.size 0 (.int .i64 (memF cs ws m x.l).op) (.int .i64 (memF cs ws m x.l).wd) (.int .i64 (memF cs ws m x.l).n) (.slice ka kn kc)) := Below.trans (HX.out.trans HX1.out) (below_put4 (Nat.le_refl _))
             have hq2 := hxp.cell q1'
             simp only [put4, Nat.zero_add] at hq2
             have HXP := Lib.hid hxp
             clear hR1 he hx1 hxp hk hkv hwz)))
      clear hq1 hq2
      go_wp2
      refine bodyPost_ret (v := .agg #[.int .i64 (memF cs ws m x.l).op, .int .i64 (memF cs ws m x.l).wd, .int .i64 (memF cs ws m x.l).n, .slice ka kn kc]) (results_cell_row Tryz.results84 _ _ w.heap.size 25 _ (0, 0) _ rfl HB.out Tryz.underlying25 rfl sizeExpr) rfl ?_
      refine ⟨⟨_, rfl, ?_⟩, HXP.out⟩
      have e1 : treeF (memF cs ws m) (ws.getD m 0) (cs.getD m 0) (f + 1) (xs.map RunX.pr) = memF cs ws m x.l := by
        rw [HXL.out]; rfl
      rw [e1]
      exact ⟨_, rfl, (HE.out.keep (fun q hq _ => put4_heap q (by omega))).mono (by omega)⟩
    · have hn2 : 2 ≤ n := by omega
      have hnb : n ≤ 1000 := by omega
      obtain ⟨k, hk⟩ : ∃ k, k + 1 = (n + 1) / 2 := ⟨(n + 1) / 2 - 1, by omega⟩
      have hkn : k + 1 < n := by omega
      have hne1 : decide (n = 1) = false := decide_eq_false hn1
      obtain ⟨mid, hh⟩ : ∃ mid, mid = k + 1 := ⟨_, rfl⟩
      have hq : ((n : Int) + 1) / 2 = (mid : Int) := by omega
      have hhn : mid < n := by omega
      have HK := Lib.hid hk; have HQ := Lib.hid hq; have HH := Lib.hid hh
      have i5 : IntKind.i64.wrap ((mid : Int) - 1) = (k : Int) := by rw [wrap_eq]; unfold wrap64; omega
      have i6 : wrap64 ((mid : Int) - 1) = (k : Int) := by unfold wrap64; omega
      clear hn1 hk hq hh
      have hkx : k < xs.length := by have := HN.out; omega
      obtain ⟨g, o, rfl, q1, q1b, q1c⟩ := HVR.out.at k hkx
      clear q1b q1c
      obtain ⟨cb, co, rfl, q2⟩ := HVC.out.at m (by rw [lc]; omega)
      obtain ⟨wb, wo, rfl, q3⟩ := HVW.out.at m (by rw [lw]; omega)
      have gc : (cs.take (m + 1)).getD m 0 = cs.getD m 0 := by simp [List.getD_eq_getElem?_getD]
      have gw : (ws.take (m + 1)).getD m 0 = ws.getD m 0 := by simp [List.getD_eq_getElem?_getD]
      rw [gc] at q2; rw [gw] at q3
      have hlast : Hid ((xs.map RunX.pr).getD k (0, []) = (xs[k].last, xs[k].l)) := by
        unfold Hid
        rw [List.getD_eq_getElem?_getD, List.getElem?_eq_getElem (by rw [List.length_map]; exact hkx), List.getElem_map]; rfl
      obtain ⟨lst, hlst⟩ : ∃ lst, lst = xs[k].last := ⟨_, rfl⟩
      rw [← hlst] at q1 hlast
      generalize xs[k].l = xl at hlast
      obtain ⟨cm, hcm⟩ : ∃ cm, cm = cs.getD m 0 := ⟨_, rfl⟩
      obtain ⟨wm, hwm⟩ : ∃ wm, wm = ws.getD m 0 := ⟨_, rfl⟩
      rw [← hcm] at q2 ⊢; rw [← hwm] at q3 ⊢
      rw [← hcm] at IH; rw [← hwm] at IH
      obtain ⟨M1, hM1⟩ : ∃ M1, M1 = m + 1 := ⟨_, rfl⟩
      rw [← hM1] at HVC HVW hcc hwc lc lw ⊢
      have h1' : wrap64 ((M1 : Int) - 1) = (m : Int) := by rw [hM1]; push_cast; exact h1
      have i1 : (0 : Int) ≤ (m : Int) := by omega
      have i2 : (m : Int) < (M1 : Int) := by omega
      have i3 : (0 : Int) ≤ (k : Int) := by omega
      have i4 : (k : Int) < (n : Int) := by omega
      have j1 : (0 : Int) ≤ (mid : Int) := by omega
      have j2 : (mid : Int) ≤ (rc : Int) := by omega
      have j3 : (mid : Int) ≤ (n : Int) := by omega
      have LCW : Hid ((cs.take M1).length = M1 ∧ (ws.take M1).length = M1) := ⟨lc, lw⟩
      have HM1 := Lib.hid hM1
      clear hlst gc gw hcm hwm lc lw hM1 h1
      have HR : Hid ((w.alloc (.cells #[.int .i64 0, .int .i64 0, .int .i64 0, .slice none 0 0] 25)).heap[w.heap.size]? = some (.cells #[.int .i64 0, .int .i64 0, .int .i64 0, .slice none 0 0] 25 (0, 0))) := heap_new _ _
      go_enter Tryz.func84, Tryz.ntmps84
      go_wp2
      rw [HQ.out]
      try rw [h1']
      obtain ⟨W1, hW1⟩ : ∃ W1, W1 = w.alloc (.cells #[.int .i64 0, .int .i64 0, .int .i64 0, .slice none 0 0] 25) := ⟨_, rfl⟩
      have WZ : Hid (W1.heap.size = w.heap.size + 1) := by unfold Hid; rw [hW1]; simp
      rw [← hW1] at HX HR ⊢
      clear hW1
      have HALL1 : Hid (∀ w', Ext W1 w' → w'.cell? ⟨g, o + k * 2, none⟩ = some (.int .i64 lst) ∧ w'.cell? ⟨cb, co + m, none⟩ = some (.int .i64 cm) ∧ w'.cell? ⟨wb, wo + m, none⟩ = some (.int .i64 wm)) :=
        fun w' hx => ⟨(HX.out.trans hx).cell q1, (HX.out.trans hx).cell q2, (HX.out.trans hx).cell q3⟩
      clear q1 q2 q3
      go_cut [9] (fun s9 W => ∃ b9 K : Nat, s9 = .pointer (some ⟨b9, 0, none⟩) ∧ W.heap[b9]? = some (.cells #[.int .i64 13, .int .i64 1, .int .i64 0, .slice (some ⟨K, 0, none⟩) 2 2] 25 (0, 0)) ∧ W.heap[K]? = some (.cells #[.int .i64 2, .int .i64 wm, .int .i64 cm, .slice none 0 0, .int .i64 1, .int .i64 wm, .int .i64 lst, .slice none 0 0] 25 (0, 0)) ∧ W1.heap.size ≤ b9 ∧ W1.heap.size ≤ K ∧ Ext W1 W)
      case first =>
        go_region_held3 (fun w' => w'.cell? ⟨g, o + k * 2, none⟩ = some (.int .i64 lst) ∧ w'.cell? ⟨cb, co + m, none⟩ = some (.int .i64 cm) ∧ w'.cell? ⟨wb, wo + m, none⟩ = some (.int .i64 wm))
          ((first
            | (refine HALL1.out _ ?_; repeat (first | exact Ext.refl _ | apply Ext.drew | apply Ext.alloc)
               done)
            | fail))
          (fail)
        · go_wp2
          go_meet
          exact ⟨W1.heap.size + 1, W1.heap.size, rfl, (two_heap W1 _ _).2, (two_heap W1 _ _).1, Nat.le_succ _, Nat.le_refl _, ((Ext.refl W1).alloc _).alloc _ |>.drew⟩
        · go_wp2
          go_meet
          exact ⟨W1.heap.size, W1.heap.size + 1, rfl, (two_heap W1 _ _).1, (two_heap W1 _ _).2, Nat.le_refl _, Nat.le_succ _, ((Ext.refl W1).alloc _).alloc _ |>.drew⟩
      case rest =>
        obtain ⟨b9, K9, rfl, h9, hK9, hb9, hbK, hx9⟩ := hcut
        generalize wc = W2 at *
        have HX2 := Lib.hid hx9
        obtain ⟨z0, z1, z2, z3, _⟩ := cells_of_block h9
        have HALL2 : Hid (∀ w', Ext W2 w' → w'.cell? ⟨b9, 0, none⟩ = some (.int .i64 13) ∧ w'.cell? ⟨b9, 1, none⟩ = some (.int .i64 1) ∧ w'.cell? ⟨b9, 2, none⟩ = some (.int .i64 0) ∧ w'.cell? ⟨b9, 3, none⟩ = some (.slice (some ⟨K9, 0, none⟩) 2 2)) :=
          fun w' hx => ⟨hx.cell z0, hx.cell z1, hx.cell z2, hx.cell z3⟩
        have HK9 := Lib.hid hK9; have HBK := Lib.hid hbK; have HB9 := Lib.hid hb9
        clear h9 hK9 hb9 hbK hx9 z0 z1 z2 z3
        clear i1 i2 i3 i4 i5 i6 h1' hkn hkx
        have hX2w := HX.out.trans HX2.out
        have HVC2 : Hid (IntsC W2 (.slice (some ⟨cb, co, none⟩) M1 cc) (cs.take (m + 1))) := by unfold Hid; rw [← HM1.out]; exact HVC.out.ext hX2w
        have HVW2 : Hid (IntsC W2 (.slice (some ⟨wb, wo, none⟩) M1 wcc) (ws.take (m + 1))) := by unfold Hid; rw [← HM1.out]; exact HVW.out.ext hX2w
        have hnx : xs.length = n := HN.out.symm
        have HT : Hid (RunsV W2 (.slice (some ⟨g, o, none⟩) mid rc) (xs.take mid)) := (HVR.out.ext hX2w).take mid (by omega)
        have HD : Hid (RunsV W2 (.slice (some ⟨g, o + mid * 2, none⟩) (n - mid) (rc - mid)) (xs.drop mid)) := (HVR.out.ext hX2w).drop mid (by omega)
        have HAT : Hid (∀ x ∈ xs.take mid, x.l.Pairwise (· < ·) ∧ ∀ y ∈ x.l, y < 2 ^ bitsN ws m) := fun x hx => HALL.out x (List.mem_of_mem_take hx)
        have HAD : Hid (∀ x ∈ xs.drop mid, x.l.Pairwise (· < ·) ∧ ∀ y ∈ x.l, y < 2 ^ bitsN ws m) := fun x hx => HALL.out x (List.mem_of_mem_drop hx)
        have hh1 : mid = k + 1 := HH.out
        have PT : Hid ((xs.take mid).length ≤ f ∧ 0 < (xs.take mid).length) := by unfold Hid; rw [List.length_take, hnx]; omega
        have PD : Hid ((xs.drop mid).length ≤ f ∧ 0 < (xs.drop mid).length) := by unfold Hid; rw [List.length_drop, hnx]; omega
        have PF : Hid (f ≤ 1000) := by unfold Hid; omega
        have HRW2 := Lib.hid ((HX2.out.block w.heap.size (by rw [WZ.out]; omega)).trans HR.out)
        have HWS : Hid (w.heap.size < W2.heap.size) := by have := HX2.out.size; have := WZ.out; unfold Hid; omega
        obtain ⟨e1, he1⟩ : ∃ e1, e1 = treeF (memF cs ws m) wm cm f ((xs.take mid).map RunX.pr) := ⟨_, rfl⟩
        obtain ⟨e2, he2⟩ : ∃ e2, e2 = treeF (memF cs ws m) wm cm f ((xs.drop mid).map RunX.pr) := ⟨_, rfl⟩
        have C1 : Hid (∀ V, Ext W2 V → Calls Tryz.prog 84 #[.slice (some ⟨cb, co, none⟩) M1 cc, .slice (some ⟨wb, wo, none⟩) M1 wcc, .slice (some ⟨g, o, none⟩) mid rc] V (NewE e1 V)) := fun V hV => by
          rw [he1]; exact IH.out (xs.take mid) _ _ _ V PT.out.1 PT.out.2 PF.out (HVC2.out.ext hV) (HVW2.out.ext hV) (HT.out.ext hV) HAT.out
        have C2 : Hid (∀ V, Ext W2 V → Calls Tryz.prog 84 #[.slice (some ⟨cb, co, none⟩) M1 cc, .slice (some ⟨wb, wo, none⟩) M1 wcc, .slice (some ⟨g, o + mid * 2, none⟩) (n - mid) (rc - mid)] V (NewE e2 V)) := fun V hV => by
          rw [he2]; exact IH.out (xs.drop mid) _ _ _ V PD.out.1 PD.out.2 PF.out (HVC2.out.ext hV) (HVW2.out.ext hV) (HD.out.ext hV) HAD.out
        have hfin : treeF (memF cs ws m) wm cm (f + 1) (xs.map RunX.pr) = .mk 14 1 0 [.mk 13 1 0 [.mk 2 wm cm [], .mk 1 wm lst []], e1, e2] := by
          rw [he1, he2]
          have hlm : (xs.map RunX.pr).length = n := by rw [List.length_map]; exact hnx
          have hmid : (n + 1) / 2 = mid := by have := HK.out; omega
          rw [treeF_succ, if_neg (by rw [hlm]; omega), hlm, hmid, show mid - 1 = k by omega, hlast.out, List.map_take, List.map_drop]
        have HFIN := Lib.hid hfin
        clear hX2w hnx hh1 he1 he2 hfin HAT HAD PT PD PF HT HD HVC2 HVW2 hlast HVC HVW HVR HALL IH HOK
        go_upto_region 6 with fail
        go_region_held3 (fun w' => w'.cell? ⟨b9, 0, none⟩ = some (.int .i64 13) ∧ w'.cell? ⟨b9, 1, none⟩ = some (.int .i64 1) ∧ w'.cell? ⟨b9, 2, none⟩ = some (.int .i64 0) ∧ w'.cell? ⟨b9, 3, none⟩ = some (.slice (some ⟨K9, 0, none⟩) 2 2))
          ((first
            | (with_reducible exact hs3)
            | (with_reducible exact hs4)
            | (with_reducible exact HALL2.out _ (Ext.refl W2).drew)
            | (with_reducible exact hs5 _)
            | (with_reducible exact hs6 _)
            | fail))
          ((first
            | (go_at_call 84
               first
               | (refine (C2.out w3 HX3.out).mono ?_
                  rintro r w4 ⟨⟨v2, rfl, he2⟩, hx4⟩
                  obtain ⟨la, ln, lc, rfl, hk2⟩ := he2.shape
                  have HE2 := Lib.hid hk2
                  have HX4 : Hid (Ext w3 w4) := hx4
                  have hs4 := HALL2.out _ (HX3.out.trans HX4.out)
                  have hR4 := ((HX3.out.trans HX4.out).block w.heap.size HWS.out).trans HRW2.out
                  have hls : w.heap.size < w4.heap.size := (Array.getElem?_eq_some_iff.1 hR4).1
                  obtain ⟨c0, c1, c2, c3, f0, f1, f2, f3⟩ := cells_of_block hR4
                  have HR4 := Lib.hid hR4
                  have hs5 := fun oo => HALL2.out (w4.alloc oo) ((HX3.out.trans HX4.out).alloc oo)
                  have hP : ∀ (j : Nat) (u : Value), w4.cell? ⟨b9, j, none⟩ = some u → ∀ oo : Obj, ((put4 w4 w.heap.size 0 (.int .i64 14) (.int .i64 1) (.int .i64 0) (.slice (some ⟨w4.heap.size, 0, none⟩) 3 3)).alloc oo).cell? ⟨b9, j, none⟩ = some u := fun j u hu oo =>
                    ((Ext.refl _).alloc oo).cell ((put4_other _ (.inl (by have := HB9.out; have := WZ.out; show b9 ≠ w.heap.size; omega))).trans hu)
                  have hs6 := fun oo => And.intro (hP 0 _ hs4.1 oo) (And.intro (hP 1 _ hs4.2.1 oo) (And.intro (hP 2 _ hs4.2.2.1 oo) (hP 3 _ hs4.2.2.2 oo)))
                  simp only [put4, Nat.zero_add] at hs6
                  clear he2 hx4 hk2 hR4 hP)
               | (refine (C1.out W2.drew (Ext.refl W2).drew).mono ?_
                  rintro r w3 ⟨⟨v1, rfl, he1⟩, hx3⟩
                  obtain ⟨ka, kn, kc, rfl, hk1⟩ := he1.shape
                  have HE1 := Lib.hid hk1
                  have HX3 : Hid (Ext W2 w3) := (Ext.refl W2).drew.trans hx3
                  have hs3 := HALL2.out _ HX3.out
                  clear he1 hx3 hk1))))
        clear hs3 hs4 hs5 hs6 c0 c1 c2 c3 f0 f1 f2 f3
        go_wp2_with fail
        obtain ⟨V, hV⟩ : ∃ V, V = (put4 w4 w.heap.size 0 (.int .i64 14) (.int .i64 1) (.int .i64 0) (.slice (some ⟨w4.heap.size, 0, none⟩) 3 3)).alloc (.cells #[.int .i64 13, .int .i64 1, .int .i64 0, .slice (some ⟨K9, 0, none⟩) 2 2, .int .i64 e1.op, .int .i64 e1.wd, .int .i64 e1.n, .slice ka kn kc, .int .i64 e2.op, .int .i64 e2.wd, .int .i64 e2.n, .slice la ln lc] 25) := ⟨_, rfl⟩
        have hz : (put4 w4 w.heap.size 0 (.int .i64 14) (.int .i64 1) (.int .i64 0) (.slice (some ⟨w4.heap.size, 0, none⟩) 3 3)).heap.size = w4.heap.size := put4_size
        have hrow : V.heap[w.heap.size]? = some (.cells #[.int .i64 14, .int .i64 1, .int .i64 0, .slice (some ⟨w4.heap.size, 0, none⟩) 3 3] 25 (0, 0)) := by
          rw [hV, heap_alloc_old _ _ (by rw [hz]; exact hls)]; exact put4_new HR4.out
        have hkids : V.heap[w4.heap.size]? = some (.cells #[.int .i64 13, .int .i64 1, .int .i64 0, .slice (some ⟨K9, 0, none⟩) 2 2, .int .i64 e1.op, .int .i64 e1.wd, .int .i64 e1.n, .slice ka kn kc, .int .i64 e2.op, .int .i64 e2.wd, .int .i64 e2.n, .slice la ln lc] 25 (0, 0)) := by
          rw [hV]
          have := heap_new (put4 w4 w.heap.size 0 (.int .i64 14) (.int .i64 1) (.int .i64 0) (.slice (some ⟨w4.heap.size, 0, none⟩) 3 3)) (.cells #[.int .i64 13, .int .i64 1, .int .i64 0, .slice (some ⟨K9, 0, none⟩) 2 2, .int .i64 e1.op, .int .i64 e1.wd, .int .i64 e1.n, .slice ka kn kc, .int .i64 e2.op, .int .i64 e2.wd, .int .i64 e2.n, .slice la ln lc] 25)
          rw [hz] at this
          exact this
        have hold : ∀ q, w.heap.size < q → q < w4.heap.size → V.heap[q]? = w4.heap[q]? := fun q h1 h2 => by
          rw [hV, heap_alloc_old _ _ (by rw [hz]; exact h2)]; exact put4_heap q (by omega)
        have hVx : Ext w V := by rw [hV]; exact Ext.alloc (Below.trans (((HX.out.trans HX2.out).trans HX3.out).trans HX4.out) (below_put4 (Nat.le_refl _))) _
        change bodyPost Tryz.prog Tryz.f84 _ _ _ ((put4 w4 w.heap.size 0 (.int .i64 14) (.int .i64 1) (.int .i64 0) (.slice (some ⟨w4.heap.size, 0, none⟩) 3 3)).alloc (.cells #[.int .i64 13, .int .i64 1, .int .i64 0, .slice (some ⟨K9, 0, none⟩) 2 2, .int .i64 e1.op, .int .i64 e1.wd, .int .i64 e1.n, .slice ka kn kc, .int .i64 e2.op, .int .i64 e2.wd, .int .i64 e2.n, .slice la ln lc] 25))
        rw [← hV, HFIN.out]
        clear hV
        have s1 := WZ.out; have s2 := HX2.out.size; have s3 := HX3.out.size; have s4 := HX4.out.size; have s5 := HBK.out; have s6 := HB9.out
        refine bodyPost_ret (v := .agg #[.int .i64 14, .int .i64 1, .int .i64 0, .slice (some ⟨w4.heap.size, 0, none⟩) 3 3]) (results_cell_row Tryz.results84 _ _ w.heap.size 25 _ (0, 0) _ rfl hrow Tryz.underlying25 rfl sizeExpr) rfl ⟨⟨_, rfl, _, rfl, ?_⟩, hVx⟩
        have k9 : V.heap[K9]? = W2.heap[K9]? := by
          have hl : K9 < W2.heap.size := (Array.getElem?_eq_some_iff.1 HK9.out).1
          rw [hold K9 (by omega) (by omega), (HX3.out.trans HX4.out).block K9 hl]
        have q1 : KidsB (w.heap.size + 1) V (.slice (some ⟨K9, 0, none⟩) 2 2) [.mk 2 wm cm [], .mk 1 wm lst []] :=
          kidsB_two (a := .mk 2 wm cm []) (b := .mk 1 wm lst []) (by omega) (kidsB_nil _ _) (kidsB_nil _ _) (k9.trans HK9.out)
        have q2 : KidsB (w.heap.size + 1) V (.slice ka kn kc) e1.kids := (HE1.out.keep (fun q h1 h2 => by
          have h1' : W2.heap.size ≤ q := h1
          rw [hold q (by omega) (by omega), HX4.out.block q h2])).mono (by show w.heap.size + 1 ≤ W2.heap.size; omega)
        have q3 : KidsB (w.heap.size + 1) V (.slice la ln lc) e2.kids := (HE2.out.keep (fun q h1 h2 => hold q (by omega) h2)).mono (by omega)
        exact (kidsB_three (a := .mk 13 1 0 [.mk 2 wm cm [], .mk 1 wm lst []]) (by omega) q1 q2 q3 hkids).mono (by omega)
end Go.Proofs.YtlcgbdjmlnjhcaaGreatDoor
namespace Go.Proofs.YtlcgbdjmlnjhcaaGreatDoor
open Go.RowKit Go.Shelf
attribute [local go_sem] Oper.semAt_some

theorem part_ok {low : Nat} {is : List Nat} (h : is.Pairwise (· < ·)) (v : Nat) : (part low is v).Pairwise (· < ·) ∧ ∀ y ∈ part low is v, y < 2 ^ low := by
  have hp := Nat.two_pow_pos low
  refine ⟨?_, fun y hy => ?_⟩
  · unfold part
    rw [List.pairwise_map]
    have hg : (grp low is v).Pairwise (· < ·) := h.filter _
    refine hg.imp_of_mem ?_
    intro a b ha hb hab
    unfold grp at ha hb
    rw [List.mem_filter, decide_eq_true_eq] at ha hb
    have e1 := Nat.div_add_mod a (2 ^ low)
    have e2 := Nat.div_add_mod b (2 ^ low)
    rw [ha.2] at e1; rw [hb.2] at e2
    omega
  · unfold part at hy
    rw [List.mem_map] at hy
    obtain ⟨x, _, rfl⟩ := hy
    exact Nat.mod_lt _ hp
theorem runsF_ok (low : Nat) (is : List Nat) (Q : Nat × List Nat → Prop) (hq : ∀ v, Q (v, part low is v)) : ∀ (m v : Nat) (cur : Nat × List Nat), Q cur → ∀ p ∈ runsF low is m v cur, Q p := by
  intro m
  induction m with
  | zero => intro v cur hc p hp; simp [runsF] at hp; subst hp; exact hc
  | succ m ih =>
    intro v cur hc p hp
    unfold runsF at hp
    split at hp
    · exact ih _ _ (hq _) p hp
    · rcases List.mem_cons.1 hp with rfl | hp
      · exact hc
      · exact ih _ _ (hq _) p hp
theorem runsL_ok {low w : Nat} {is : List Nat} (h : is.Pairwise (· < ·)) : ∀ p ∈ runsL low w is, p.2.Pairwise (· < ·) ∧ ∀ y ∈ p.2, y < 2 ^ low :=
  runsF_ok low is (fun p => p.2.Pairwise (· < ·) ∧ ∀ y ∈ p.2, y < 2 ^ low) (fun v => part_ok h v) _ _ _ (part_ok h 0)
theorem runsL_len (low w : Nat) (is : List Nat) : (runsL low w is).length ≤ 2 ^ w ∧ 0 < (runsL low w is).length := by
  have h1 := runsF_len low is (2 ^ w - 1) 1 (0, part low is 0)
  have h2 := runsF_pos low is (2 ^ w - 1) 1 (0, part low is 0)
  have := Nat.two_pow_pos w
  unfold runsL; omega
theorem bits_succ {ws : List Int} (hW : ∀ x ∈ ws, 1 ≤ x ∧ x ≤ 8) {m : Nat} (hm : m < ws.length) : bitsN ws (m + 1) = bitsN ws m + (ws.getD m 0).toNat ∧ (sumI (ws.take (m + 1)) = (bitsN ws (m + 1) : Int)) ∧ 1 ≤ (ws.getD m 0) ∧ (ws.getD m 0) ≤ 8 := by
  have h1 := sum_bound hW m (Nat.le_of_lt hm)
  have h2 := sum_bound hW (m + 1) hm
  have h3 := sum_take hm
  have h4 := hW ws[m] (List.getElem_mem hm)
  have h5 : ws.getD m 0 = ws[m] := by rw [List.getD_eq_getElem?_getD, List.getElem?_eq_getElem hm]; rfl
  unfold bitsN
  rw [h5]
  refine ⟨by omega, by omega, h4.1, h4.2⟩
theorem ext_step {V w0 W : World} {Bin : Nat} (h : Ext V w0) (hst : StepX (fun k => k = Bin) w0 W) (hb : V.heap.size ≤ Bin) : Ext V W :=
  ⟨hst.os.trans h.os, hst.tape.trans h.tape, hst.output.trans h.output, Nat.le_trans h.size hst.size, fun k hk => (hst.block k (Nat.lt_of_lt_of_le hk h.size) (by omega)).trans (h.block k hk)⟩

set_option maxRecDepth 100000 in
set_option maxHeartbeats 4000000 in
theorem member_any (cs ws : List Int) (hW : ∀ x ∈ ws, 1 ≤ x ∧ x ≤ 8) (hlen : cs.length = ws.length) (hl40 : ws.length ≤ 40) (hb12 : ∀ m, m ≤ ws.length → bitsN ws m ≤ 12) : ∀ m, m ≤ ws.length → MemOk cs ws m := by
  intro m
  induction m with
  | zero =>
    intro _ is vc vw vi w hvc hvw hvi hs hb
    obtain ⟨_, ca, cc, rfl, hcc⟩ := id hvc
    obtain ⟨_, wa, wcc, rfl, hwc⟩ := id hvw
    obtain ⟨_, ia, icc, rfl, hic⟩ := id hvi
    have hbz : bitsN ws 0 = 0 := by unfold bitsN; rw [List.take_zero]; rfl
    have hW0 : Widths (ws.take 0) := ⟨by simp, fun x hx => by simp at hx⟩
    have hil : is.length ≤ 1 := by
      rw [hbz] at hb
      rcases is with _ | ⟨a, _ | ⟨b, r⟩⟩
      · simp
      · simp
      · have h1 := hb a (by simp)
        have h2 := hb b (by simp)
        rw [List.pairwise_cons] at hs
        have h3 := hs.1 b (by simp)
        omega
    have SUM : Hid (∀ W, Ext w W → Calls Tryz.prog 83 #[.slice wa 0 wcc] W fun r w' => r = .returned (.int .i64 0) ∧ w' = W) := fun W hx => by
      have := sum_any (ws.take 0) _ W (hvw.1.ext hx) hW0
      exact this
    have HX : Hid (Ext w (w.alloc (.cells #[.int .i64 0, .int .i64 0, .int .i64 0, .slice none 0 0] 25))) := (Ext.refl w).alloc _
    have HR : Hid ((w.alloc (.cells #[.int .i64 0, .int .i64 0, .int .i64 0, .slice none 0 0] 25)).heap[w.heap.size]? = some (.cells #[.int .i64 0, .int .i64 0, .int .i64 0, .slice none 0 0] 25 (0, 0))) := heap_new _ _
    obtain ⟨c0, c1, c2, c3, f0, f1, f2, f3⟩ := cells_of_block HR.out
    have hmem : memF cs ws 0 is = if is.length = 0 then .mk 1 1 0 [] else if is.length = 2 ^ bitsN ws 0 then .mk 1 1 1 [] else .mk 0 0 0 [] := rfl
    rw [hbz] at hmem
    have li : (castL is).length = is.length := by simp [castL]
    have e0 : (List.take 0 ws).length = 0 := rfl
    have e1 : (List.take 0 cs).length = 0 := rfl
    rw [li, e0, e1]
    obtain ⟨N, hN⟩ : ∃ N, N = is.length := ⟨_, rfl⟩
    rw [← hN] at hmem hil ⊢
    have HM := Lib.hid hmem
    clear hvc hvw hvi hs hb hcc hwc hic hmem hbz hW0 li e0 e1 hN
    by_cases h0 : N = 0
    · subst h0
      go_enter Tryz.func61, Tryz.ntmps61
      go_wp2_with fail
      refine (SUM.out _ HX.out).mono ?_
      rintro r w1 ⟨rfl, rfl⟩
      go_wp2_with fail
      refine bodyPost_ret (v := .agg #[.int .i64 1, .int .i64 1, .int .i64 0, .slice none 0 0]) (results_cell_row Tryz.results61 _ _ w.heap.size 25 _ (0, 0) _ rfl (heap_new _ _) Tryz.underlying25 rfl sizeExpr) rfl ⟨⟨_, rfl, ?_⟩, (Ext.refl w).alloc _⟩
      rw [HM.out, if_pos trivial]
      exact ⟨_, rfl, kidsB_nil _ _⟩
    · obtain rfl : N = 1 := by omega
      clear h0
      go_enter Tryz.func61, Tryz.ntmps61
      go_wp2_with fail
      refine (SUM.out _ HX.out).mono ?_
      rintro r w1 ⟨rfl, rfl⟩
      go_wp2_with fail
      refine bodyPost_ret (v := .agg #[.int .i64 1, .int .i64 1, .int .i64 1, .slice none 0 0]) (results_cell_row Tryz.results61 _ _ w.heap.size 25 _ (0, 0) _ rfl (heap_new _ _) Tryz.underlying25 rfl sizeExpr) rfl ⟨⟨_, rfl, ?_⟩, (Ext.refl w).alloc _⟩
      have e : memF cs ws 0 is = .mk 1 1 1 [] := by rw [HM.out]; rfl
      rw [e]
      exact ⟨_, rfl, kidsB_nil _ _⟩
  | succ m ih =>
    intro hm is vc vw vi w hvc hvw hvi hs hb
    have hok := ih (by omega)
    have htree := tree_any cs ws m (by omega) (by omega) (by omega) hok
    obtain ⟨hb1, hb2, hb3, hb4⟩ := bits_succ hW (show m < ws.length by omega)
    have hbits := hb12 (m + 1) hm
    obtain ⟨_, ca, cc, rfl, hcc⟩ := id hvc
    obtain ⟨_, wa, wcc, rfl, hwc⟩ := id hvw
    obtain ⟨_, ia, icc, rfl, hic⟩ := id hvi
    have lc : (cs.take (m + 1)).length = m + 1 := by simp; omega
    have lw : (ws.take (m + 1)).length = m + 1 := by simp; omega
    have li : (castL is).length = is.length := by simp [castL]
    have hil := SliceAt.len_le hvi.1
    have hWt : Widths (ws.take (m + 1)) := ⟨by rw [lw]; omega, fun x hx => hW x (List.mem_of_mem_take hx)⟩
    obtain ⟨wb, wo, rfl, q3⟩ := hvw.at m (by rw [lw]; omega)
    have gw : (ws.take (m + 1)).getD m 0 = ws.getD m 0 := by simp [List.getD_eq_getElem?_getD]
    rw [gw] at q3
    obtain ⟨wm, hwm⟩ : ∃ wm : Nat, ws.getD m 0 = (wm : Int) := ⟨(ws.getD m 0).toNat, by omega⟩
    have hmem : ∀ is, memF cs ws (m + 1) is = if is.length = 0 then .mk 1 1 0 [] else if is.length = 2 ^ bitsN ws (m + 1) then .mk 1 1 1 [] else treeF (memF cs ws m) (ws.getD m 0) (cs.getD m 0) (2 ^ (ws.getD m 0).toNat) (runsL (bitsN ws m) (ws.getD m 0).toNat is) := fun is => rfl
    have hmi := hmem is
    rw [hwm] at hb1 hb3 hb4 q3 htree hmi
    simp only [Int.toNat_natCast] at hb1 hmi
    obtain ⟨low, hlow⟩ : ∃ low, low = bitsN ws m := ⟨_, rfl⟩
    obtain ⟨bits, hbitsE⟩ : ∃ bits, bits = bitsN ws (m + 1) := ⟨_, rfl⟩
    rw [← hlow] at hb1 hmi
    rw [← hbitsE] at hb1 hb2 hb hbits hmi
    rw [lc, lw, li]
    rw [lw] at hvw
    rw [lc] at hvc
    rw [li] at hvi hil
    have HX : Hid (Ext w (w.alloc (.cells #[.int .i64 0, .int .i64 0, .int .i64 0, .slice none 0 0] 25))) := (Ext.refl w).alloc _
    have HR : Hid ((w.alloc (.cells #[.int .i64 0, .int .i64 0, .int .i64 0, .slice none 0 0] 25)).heap[w.heap.size]? = some (.cells #[.int .i64 0, .int .i64 0, .int .i64 0, .slice none 0 0] 25 (0, 0))) := heap_new _ _
    obtain ⟨c0, c1, c2, c3, f0, f1, f2, f3⟩ := cells_of_block HR.out
    have hbit : wrap64 (2 ^ min bits 64) = ((2 ^ bits : Nat) : Int) := by
      have h2 : 2 ^ bits ≤ 4096 := by
        have := Nat.pow_le_pow_right (show 0 < 2 by decide) hbits
        simpa using this
      rw [show min bits 64 = bits by omega, show (2 : Int) ^ bits = ((2 ^ bits : Nat) : Int) by push_cast; rfl]
      have h3 := Nat.two_pow_pos bits
      generalize 2 ^ bits = Z at *
      unfold wrap64; omega
    have hmin : min bits 64 = bits := by omega
    have hw2 : wrap64 (2 ^ bits) = ((2 ^ bits : Nat) : Int) := by rw [← hbit, hmin]
    obtain ⟨P, hP⟩ : ∃ P, P = 2 ^ bits := ⟨_, rfl⟩
    rw [← hP] at hw2 hb hmi
    obtain ⟨N, hN⟩ : ∃ N, N = is.length := ⟨_, rfl⟩
    rw [← hN] at hmi hil hvi ⊢
    have HVC := Lib.hid hvc; have HVW := Lib.hid hvw; have HVI := Lib.hid hvi; have HS := Lib.hid hs; have HB := Lib.hid hb; have HMI := Lib.hid hmi; have HT := Lib.hid htree; have HWT := Lib.hid hWt
    have HSUM := Lib.hid hb2; have HLOW := Lib.hid hlow; have HBE := Lib.hid hbitsE; have HB1 := Lib.hid hb1; have HP := Lib.hid hP; have HN := Lib.hid hN; have HOK := Lib.hid hok
    have HW40 : Hid (m + 1 ≤ 40) := by unfold Hid; omega
    clear hvc hvw hvi hs hb hmi htree hWt hb2 hlow hbitsE hb1 hP hN hok hmem hwm gw hW hb12 ih hbit lc lw li hic hcc hwc hil
    by_cases h0 : N = 0
    · subst h0
      go_enter Tryz.func61, Tryz.ntmps61
      go_wp2_with fail
      refine (sum_any (ws.take (m + 1)) _ _ (HVW.out.1.ext HX.out) HWT.out).mono ?_
      rintro r w1 ⟨rfl, rfl⟩
      rw [HSUM.out]
      go_wp2_with fail
      refine bodyPost_ret (v := .agg #[.int .i64 1, .int .i64 1, .int .i64 0, .slice none 0 0]) (results_cell_row Tryz.results61 _ _ w.heap.size 25 _ (0, 0) _ rfl (heap_new _ _) Tryz.underlying25 rfl sizeExpr) rfl ⟨⟨_, rfl, ?_⟩, (Ext.refl w).alloc _⟩
      rw [HMI.out, if_pos trivial]
      exact ⟨_, rfl, kidsB_nil _ _⟩
    · have h0n : decide (N = 0) = false := decide_eq_false h0
      have h0i : ((N : Int) == 0) = false := by rw [beq_eq_false_iff_ne]; omega
      have H0 := Lib.hid h0
      clear h0
      by_cases h1 : N = P
      · subst h1
        go_enter Tryz.func61, Tryz.ntmps61
        go_wp2_with fail
        refine (sum_any (ws.take (m + 1)) _ _ (HVW.out.1.ext HX.out) HWT.out).mono ?_
        rintro r w1 ⟨rfl, rfl⟩
        rw [HSUM.out]
        go_wp2_with fail
        refine bodyPost_ret (v := .agg #[.int .i64 1, .int .i64 1, .int .i64 1, .slice none 0 0]) (results_cell_row Tryz.results61 _ _ w.heap.size 25 _ (0, 0) _ rfl (heap_new _ _) Tryz.underlying25 rfl sizeExpr) rfl ⟨⟨_, rfl, ?_⟩, (Ext.refl w).alloc _⟩
        rw [HMI.out, if_neg H0.out, if_pos trivial]
        exact ⟨_, rfl, kidsB_nil _ _⟩
      · have h1n : decide (N = P) = false := decide_eq_false h1
        have h1i : ((N : Int) == (P : Int)) = false := by rw [beq_eq_false_iff_ne]; omega
        have H1 := Lib.hid h1
        have hk1 := len_wrap (show m ≤ 40 by have := HW40.out; omega)
        have hbl := HB1.out
        have i5 : IntKind.i64.wrap ((bits : Int) - (wm : Int)) = (low : Int) := by rw [wrap_eq]; unfold wrap64; omega
        have i6 : wrap64 ((bits : Int) - (wm : Int)) = (low : Int) := by unfold wrap64; omega
        have eN : (castL is).length = N := by have := HN.out; simp [castL]; omega
        have hcapN : N ≤ icc := by obtain ⟨_, _, _, e, hc⟩ := HVI.out; cases e; omega
        have hlow12 : low ≤ 12 := by omega
        have hwm8 : wm ≤ 8 := by omega
        have h4096 : ∀ x ∈ is, x < 4096 := fun x hx => by
          have h2 : 2 ^ bits ≤ 4096 := by
            have := Nat.pow_le_pow_right (show 0 < 2 by decide) hbits
            simpa using this
          have := HB.out x hx
          have := HP.out
          omega
        have C1 : Hid (∀ V, Calls Tryz.prog 86 #[.slice ia N icc, .int .i64 low, .int .i64 wm] V fun r W => r = .returned (.func (.func 108) #[] #[.pointer (some ⟨V.heap.size + 2, 0, none⟩), .pointer (some ⟨V.heap.size, 0, none⟩), .pointer (some ⟨V.heap.size + 1, 0, none⟩)]) ∧ Ext V W ∧ W.heap.size = V.heap.size + 3 ∧
            RunB W W.heap.size (V.heap.size + 2) V.heap.size (V.heap.size + 1) (.slice ia N icc) wm low) := fun V => (callsIn_wide (n := 4)).1 (runs_any 4 ia N icc wm low V)
        have C2 : Hid (∀ (q : Nat) (w0 : World), RunB w0 w0.heap.size (q + 2) q (q + 1) (.slice ia N icc) wm low → Ext w w0 → Calls Tryz.prog 85 #[.func (.func 108) #[] #[.pointer (some ⟨q + 2, 0, none⟩), .pointer (some ⟨q, 0, none⟩), .pointer (some ⟨q + 1, 0, none⟩)]] w0 fun r W =>
            ∃ v xs, r = .returned v ∧ xs.map RunX.pr = runsL low wm is ∧ OwnRuns W w0.heap.size v xs ∧ StepX (fun k => k = q) w0 W) := fun q w0 hB hx => by
          refine (callsIn_wide (n := 4)).1 (Collect_runs 4 (by omega) (q + 2) q (q + 1) wm low hlow12 hwm8 is HS.out h4096 ia icc w0 (by rw [eN]; exact hB) ?_ (by rw [eN]; exact hcapN) ⟨by omega, by omega⟩)
          rw [eN]; exact (HVI.out.ext hx).1
        obtain ⟨e, he⟩ : ∃ e, e = treeF (memF cs ws m) (wm : Int) (cs.getD m 0) (2 ^ wm) (runsL low wm is) := ⟨_, rfl⟩
        have hfin : memF cs ws (m + 1) is = e := by rw [HMI.out, if_neg H0.out, if_neg H1.out, he]
        have C3 : Hid (∀ (V W : World) (v : Value) (xs : List RunX), Ext w W → xs.map RunX.pr = runsL low wm is → OwnRuns W V.heap.size v xs → Calls Tryz.prog 84 #[.slice ca (m + 1) cc, .slice (some ⟨wb, wo, none⟩) (m + 1) wcc, v] W (NewE e W)) := fun V W v xs hx hxs ho => by
          have hl := runsL_len low wm is
          rw [← hxs, List.length_map] at hl
          have h256 : 2 ^ wm ≤ 256 := by
            have := Nat.pow_le_pow_right (show 0 < 2 by decide) hwm8
            simpa using this
          rw [he, ← hxs]
          refine HT.out (2 ^ wm) xs _ _ _ W hl.1 hl.2 (by omega) (HVC.out.ext hx) (HVW.out.ext hx) ho.runs fun x hmx => ?_
          have := runsL_ok (low := low) (w := wm) HS.out x.pr (by rw [← hxs]; exact List.mem_map_of_mem hmx)
          rw [← HLOW.out]
          exact this
        rw [hfin]
        obtain ⟨M1, hM1⟩ : ∃ M1, M1 = m + 1 := ⟨_, rfl⟩
        have hk2 : wrap64 ((M1 : Int) - 1) = (m : Int) := by rw [hM1]; push_cast; exact hk1
        have i1 : (0 : Int) ≤ (m : Int) := by omega
        have i2 : (m : Int) < (M1 : Int) := by omega
        have SUM : Hid (∀ W, Ext w W → Calls Tryz.prog 83 #[.slice (some ⟨wb, wo, none⟩) M1 wcc] W fun r w' => r = .returned (.int .i64 bits) ∧ w' = W) := fun W hx => by
          rw [hM1, ← HSUM.out]; exact sum_any (ws.take (m + 1)) _ _ (HVW.out.1.ext hx) HWT.out
        rw [← hM1] at C3 ⊢
        clear h1 hk1 hbl eN hcapN hlow12 hwm8 h4096 he hfin hM1 HVC HVW HVI HS HB HMI HT HWT HSUM HLOW HBE HB1 HP HN HOK HW40 c0 c1 c2 c3 f0 f1 f2 f3
        go_enter Tryz.func61, Tryz.ntmps61
        go_wp2_with fail
        refine (SUM.out _ HX.out).mono ?_
        rintro r w1 ⟨rfl, rfl⟩
        go_upto_region 7 with fail
        obtain ⟨W1, hW1⟩ : ∃ W1, W1 = w.alloc (.cells #[.int .i64 0, .int .i64 0, .int .i64 0, .slice none 0 0] 25) := ⟨_, rfl⟩
        have WZ : Hid (W1.heap.size = w.heap.size + 1) := by unfold Hid; rw [hW1]; simp
        rw [← hW1] at HX HR ⊢
        clear hW1
        have hd0 := HX.out.drew.cell q3
        have HQ3 := Lib.hid q3
        clear q3
        go_region_held3 (fun w' => w'.cell? ⟨wb, wo + m, none⟩ = some (.int .i64 wm))
          ((first
            | (with_reducible exact hd5)
            | (with_reducible exact hd4)
            | (with_reducible exact hd3)
            | (with_reducible exact hd2)
            | (with_reducible exact hd0)
            | fail))
          ((first
            | (go_at_call 86
               refine (C1.out W1.drew).mono ?_
               rintro r w2 ⟨rfl, hx2, hz2, hB2⟩
               have HX2 : Hid (Ext W1 w2) := (Ext.refl W1).drew.trans hx2
               have HB2 := Lib.hid hB2
               have hd2 := (HX.out.trans HX2.out).cell HQ3.out
               clear hx2 hz2 hB2)
            | (go_at_call 85
               refine (C2.out W1.drew.heap.size w2 HB2.out (HX.out.trans HX2.out)).mono ?_
               rintro r w3 ⟨v3, xs, rfl, hxs, ho3, hst3⟩
               have HX3 : Hid (Ext W1 w3) := ext_step HX2.out hst3 (Nat.le_refl _)
               have HO3 := Lib.hid ho3; have HXS := Lib.hid hxs
               have hd3 := (HX.out.trans HX3.out).cell HQ3.out
               clear hxs ho3 hst3)
            | (go_at_call 84
               refine (C3.out w2 w3 v3 xs (HX.out.trans HX3.out) HXS.out HO3.out).mono ?_
               rintro r w4 ⟨⟨v4, rfl, he4⟩, hx4⟩
               obtain ⟨ka, kn, kc, rfl, hk4⟩ := he4.shape
               have HX4 : Hid (Ext W1 w4) := HX3.out.trans hx4
               have HE4 := Lib.hid (hk4.mono HX3.out.size)
               have hd4 := (HX.out.trans HX4.out).cell HQ3.out
               have hR4 := (HX4.out.block w.heap.size (by rw [WZ.out]; omega)).trans HR.out
               obtain ⟨c0, c1, c2, c3, f0, f1, f2, f3⟩ := cells_of_block hR4
               have HBF := Lib.hid (put4_new (x := .int .i64 e.op) (y := .int .i64 e.wd) (z := .int .i64 e.n) (u := .slice ka kn kc) hR4)
               have hxp : Ext w (put4 w4 w.heap.size 0 (.int .i64 e.op) (.int .i64 e.wd) (.int .i64 e.n) (.slice ka kn kc)) := Below.trans (HX.out.trans HX4.out) (below_put4 (Nat.le_refl _))
               have hd5 := hxp.cell HQ3.out
               simp only [put4, Nat.zero_add] at hd5
               have HXP := Lib.hid hxp
               clear he4 hx4 hk4 hR4 hxp)))
        clear hd0 hd2 hd3 hd4 hd5
        go_wp2_with fail
        refine bodyPost_ret (v := .agg #[.int .i64 e.op, .int .i64 e.wd, .int .i64 e.n, .slice ka kn kc]) (results_cell_row Tryz.results61 _ _ w.heap.size 25 _ (0, 0) _ rfl HBF.out Tryz.underlying25 rfl sizeExpr) rfl ⟨⟨_, rfl, _, rfl, ?_⟩, HXP.out⟩
        exact (HE4.out.keep (fun q h1 _ => put4_heap q (by have := WZ.out; omega))).mono (by have := WZ.out; omega)
end Go.Proofs.YtlcgbdjmlnjhcaaGreatDoor
