/-
  The walk of states.tree.
-/
import Derived.Test.YtlcgbdjmlnjhcaaGreatDoorG12
import Derived.Test.YtlcgbdjmlnjhcaaGreatDoorG14
namespace Go.Proofs.YtlcgbdjmlnjhcaaGreatDoor
open Go.RowKit Go.Shelf
attribute [local go_sem] Oper.semAt_some

/-- member keeps its word for the first m cells. -/
def MemOk (cs ws : List Int) (m : Nat) : Prop := ∀ (is : List Nat) (vc vw vi : Value) (w : World), IntsC w vc (cs.take m) → IntsC w vw (ws.take m) → IntsC w vi (castL is) → is.Pairwise (· < ·) → (∀ x ∈ is, x < 2 ^ bitsN ws m) →
  Calls Tryz.prog 61 #[vc, vw, vi] w (NewE (memF cs ws m is) w)
theorem two_heap (w : World) (o0 o1 : Obj) : ((w.alloc o0).alloc o1).drew.heap[w.heap.size]? = some o0 ∧ ((w.alloc o0).alloc o1).drew.heap[w.heap.size + 1]? = some o1 := by
  refine ⟨?_, ?_⟩
  · show ((w.alloc o0).alloc o1).heap[w.heap.size]? = some o0
    rw [heap_alloc_old _ _ (by simp)]; exact heap_new _ _
  · have := heap_new (w.alloc o0) o1
    rw [World.size_alloc] at this
    exact this
theorem IsB.of_row {N : Nat} {w : World} {b o : Nat} {e : E} {k : Value} (c0 : w.cell? ⟨b, o, none⟩ = some (.int .i64 e.op)) (c1 : w.cell? ⟨b, o + 1, none⟩ = some (.int .i64 e.wd)) (c2 : w.cell? ⟨b, o + 2, none⟩ = some (.int .i64 e.n)) (c3 : w.cell? ⟨b, o + 3, none⟩ = some k) (hk : KidsB N w k e.kids) : IsB N w b o e := by
  obtain ⟨op, wd, n, ks⟩ := e
  rcases hk with ⟨rfl, hks⟩ | ⟨b', o', cap, rfl, hl, hb, h2⟩
  · simp at hks; subst hks; exact .leaf c0 c1 c2 c3
  · exact .node c0 c1 c2 c3 hl hb h2
theorem kidsB_two {N : Nat} {W : World} {K : Nat} {a b : E} {ka kb : Value} (hN : N ≤ K) (h1 : KidsB N W ka a.kids) (h2 : KidsB N W kb b.kids)
    (hb : W.heap[K]? = some (.cells #[.int .i64 a.op, .int .i64 a.wd, .int .i64 a.n, ka, .int .i64 b.op, .int .i64 b.wd, .int .i64 b.n, kb] 25 (0, 0))) : KidsB N W (.slice (some ⟨K, 0, none⟩) 2 2) [a, b] := by
  refine .inr ⟨K, 0, 2, rfl, by simp, hN, fun i h => ?_⟩
  have : i = 0 ∨ i = 1 := by simp at h; omega
  rcases this with rfl | rfl
  · exact IsB.of_row (k := ka) (by simp [World.cell?, hb]) (by simp [World.cell?, hb]) (by simp [World.cell?, hb]) (by simp [World.cell?, hb]) h1
  · exact IsB.of_row (k := kb) (by simp [World.cell?, hb]) (by simp [World.cell?, hb]) (by simp [World.cell?, hb]) (by simp [World.cell?, hb]) h2
theorem kidsB_three {N : Nat} {W : World} {K : Nat} {a b c : E} {ka kb kc : Value} (hN : N ≤ K) (h1 : KidsB N W ka a.kids) (h2 : KidsB N W kb b.kids) (h3 : KidsB N W kc c.kids)
    (hb : W.heap[K]? = some (.cells #[.int .i64 a.op, .int .i64 a.wd, .int .i64 a.n, ka, .int .i64 b.op, .int .i64 b.wd, .int .i64 b.n, kb, .int .i64 c.op, .int .i64 c.wd, .int .i64 c.n, kc] 25 (0, 0))) : KidsB N W (.slice (some ⟨K, 0, none⟩) 3 3) [a, b, c] := by
  refine .inr ⟨K, 0, 3, rfl, by simp, hN, fun i h => ?_⟩
  have : i = 0 ∨ i = 1 ∨ i = 2 := by simp at h; omega
  rcases this with rfl | rfl | rfl
  · exact IsB.of_row (k := ka) (by simp [World.cell?, hb]) (by simp [World.cell?, hb]) (by simp [World.cell?, hb]) (by simp [World.cell?, hb]) h1
  · exact IsB.of_row (k := kb) (by simp [World.cell?, hb]) (by simp [World.cell?, hb]) (by simp [World.cell?, hb]) (by simp [World.cell?, hb]) h2
  · exact IsB.of_row (k := kc) (by simp [World.cell?, hb]) (by simp [World.cell?, hb]) (by simp [World.cell?, hb]) (by simp [World.cell?, hb]) h3
theorem treeF_succ (leaf : List Nat → E) (wd c : Int) (f : Nat) (l : List (Nat × List Nat)) : treeF leaf wd c (f + 1) l = if l.length = 1 then leaf (l.getD 0 (0, [])).2 else
      .mk 14 1 0 [.mk 13 1 0 [.mk 2 wd c [], .mk 1 wd (l.getD ((l.length + 1) / 2 - 1) (0, [])).1 []], treeF leaf wd c f (l.take ((l.length + 1) / 2)), treeF leaf wd c f (l.drop ((l.length + 1) / 2))] := rfl
theorem len_wrap {m : Nat} (h : m ≤ 40) : wrap64 ((m : Int) + 1 - 1) = (m : Int) := by unfold wrap64; omega
set_option maxRecDepth 100000 in
set_option maxHeartbeats 4000000 in
theorem tree_any (cs ws : List Int) (m : Nat) (hc : m < cs.length) (hw : m < ws.length) (hm : m ≤ 40) (hok : MemOk cs ws m) : ∀ (f : Nat) (xs : List RunX) (vc vw vr : Value) (w : World), xs.length ≤ f → 0 < xs.length → f ≤ 1000 →
    IntsC w vc (cs.take (m + 1)) → IntsC w vw (ws.take (m + 1)) → RunsV w vr xs → (∀ x ∈ xs, x.l.Pairwise (· < ·) ∧ ∀ y ∈ x.l, y < 2 ^ bitsN ws m) →
    Calls Tryz.prog 84 #[vc, vw, vr] w (NewE (treeF (memF cs ws m) (ws.getD m 0) (cs.getD m 0) f (xs.map RunX.pr)) w) := by
  intro f
  induction f with
  | zero => intro xs vc vw vr w h1 h2; omega
  | succ f ih =>
    intro xs vc vw vr w hf hpos hf1 hvc hvw hvr hall
    obtain ⟨_, ca, cc, rfl, hcc⟩ := id hvc
    obtain ⟨_, wa, wcc, rfl, hwc⟩ := id hvw
    obtain ⟨ra, rc, rfl, hrc, _⟩ := id hvr
    have lc : (cs.take (m + 1)).length = m + 1 := by simp; omega
    have lw : (ws.take (m + 1)).length = m + 1 := by simp; omega
    rw [lc] at hvc hcc ⊢
    rw [lw] at hvw hwc ⊢
    have h1 := len_wrap hm
    obtain ⟨n, hn⟩ : ∃ n, n = xs.length := ⟨_, rfl⟩
    rw [← hn] at hvr hf hpos hrc ⊢
    have HOK := Lib.hid hok; have HVC := Lib.hid hvc; have HVW := Lib.hid hvw; have HVR := Lib.hid hvr; have HALL := Lib.hid hall; have HN := Lib.hid hn; have IH := Lib.hid ih
    clear hok hvc hvw hvr hall hn ih
    have HX : Hid (Ext w (w.alloc (.cells #[.int .i64 0, .int .i64 0, .int .i64 0, .slice none 0 0] 25))) := (Ext.refl w).alloc _
    by_cases hn1 : n = 1
    · subst hn1
      have h0 : 0 < xs.length := by have := HN.out; omega
      obtain ⟨g, o, rfl, _, q1, HI0⟩ := HVR.out.at 0 h0
      have HXS := HALL.out xs[0] (List.getElem_mem h0)
      have HXL : Hid (xs = [xs[0]]) := List.ext_getElem (by have := HN.out; simp; omega) fun i h1 h2 => by simp at h2; subst h2; rfl
      have HS0 := Lib.hid HXS; have HI0' := Lib.hid HI0
      generalize xs[0] = x at *
      clear HXS HI0
      have i1 : (0 : Int) ≤ (m : Int) := by omega
      have i2 : (m : Int) ≤ (cc : Int) := by omega
      have i3 : (m : Int) ≤ (wcc : Int) := by omega
      have q1' : w.cell? ⟨g, o + 1, none⟩ = some (.slice x.a (castL x.l).length x.c) := by simpa using q1
      have HR : Hid ((w.alloc (.cells #[.int .i64 0, .int .i64 0, .int .i64 0, .slice none 0 0] 25)).heap[w.heap.size]? = some (.cells #[.int .i64 0, .int .i64 0, .int .i64 0, .slice none 0 0] 25 (0, 0))) := heap_new _ _
      clear q1
      go_enter Tryz.func84, Tryz.ntmps84
      go_wp2
      obtain ⟨W1, hW1⟩ : ∃ W1, W1 = w.alloc (.cells #[.int .i64 0, .int .i64 0, .int .i64 0, .slice none 0 0] 25) := ⟨_, rfl⟩
      have WZ : Hid (W1.heap.size = w.heap.size + 1) := by unfold Hid; rw [hW1]; simp
      rw [← hW1] at HX HR ⊢
      clear hW1
      have q2 := HX.out.cell q1'
      have q2d := (HX.out.drew).cell q1'
      have TC := Lib.hid ((HVC.out.take m (by rw [lc]; omega)).ext HX.out); have TW := Lib.hid ((HVW.out.take m (by rw [lw]; omega)).ext HX.out); have TI := Lib.hid (HI0'.out.ext HX.out)
      rw [List.take_take, Nat.min_eq_left (Nat.le_succ m)] at TC TW
      go_region_held3 (fun w' => w'.cell? ⟨g, o + 1, none⟩ = some (.slice x.a (castL x.l).length x.c))
        (first | with_reducible exact hq1 | with_reducible exact hq2 | with_reducible exact q2d | fail)
        ((first
          | (go_at_call 61
             refine (HOK.out x.l _ _ _ _ (TC.out.ext (Ext.refl W1).drew) (TW.out.ext (Ext.refl W1).drew) (TI.out.ext (Ext.refl W1).drew) HS0.out.1 HS0.out.2).mono ?_
             rintro r w1 ⟨⟨v1, rfl, he⟩, hx1⟩
             obtain ⟨ka, kn, kc, rfl, hk⟩ := he.shape
             have hR1 := (hx1.block w.heap.size (by have := (Array.getElem?_eq_some_iff.1 HR.out).1; simpa using this)).trans HR.out
             obtain ⟨c0, c1, c2, c3, f0, f1, f2, f3⟩ := cells_of_block hR1
             have HB := Lib.hid (put4_new (x := .int .i64 (memF cs ws m x.l).op) (y := .int .i64 (memF cs ws m x.l).wd) (z := .int .i64 (memF cs ws m x.l).n) (u := .slice ka kn kc) hR1)
             have hwz : W1.drew.heap.size = w.heap.size + 1 := WZ.out
             have hkv : KidsB (w.heap.size + 1) w1 (.slice ka kn kc) (memF cs ws m x.l).kids := by rw [hwz] at hk; exact hk
             have HE := Lib.hid hkv
             have HX1 : Hid (Ext W1 w1) := (Ext.refl W1).drew.trans hx1
             have hq1 := HX1.out.cell q2
             have hxp : Ext w (put4 w1 w.heap.size 0 (.int .i64 (memF cs ws m x.l).op) (.int .i64 (memF cs ws m x.l).wd) (.int .i64 (memF cs ws m x.l).n) (.slice ka kn kc)) := Below.trans (HX.out.trans HX1.out) (below_put4 (Nat.le_refl _))
             have hq2 := hxp.cell q1'
             simp only [put4, Nat.zero_add] at hq2
             have HXP := Lib.hid hxp
             clear hR1 he hx1 hxp hk hkv hwz)))
      clear hq1 hq2
      go_wp2
      refine bodyPost_ret (v := .agg #[.int .i64 (memF cs ws m x.l).op, .int .i64 (memF cs ws m x.l).wd, .int .i64 (memF cs ws m x.l).n, .slice ka kn kc]) (results_cell_row Tryz.results84 _ _ w.heap.size 25 _ (0, 0) _ rfl HB.out Tryz.underlying25 rfl sizeExpr) rfl ?_
      refine ⟨⟨_, rfl, ?_⟩, HXP.out⟩
      have e1 : treeF (memF cs ws m) (ws.getD m 0) (cs.getD m 0) (f + 1) (xs.map RunX.pr) = memF cs ws m x.l := by
        rw [HXL.out]; rfl
      rw [e1]
      exact ⟨_, rfl, (HE.out.keep (fun q hq _ => put4_heap q (by omega))).mono (by omega)⟩
    · have hn2 : 2 ≤ n := by omega
      have hnb : n ≤ 1000 := by omega
      obtain ⟨k, hk⟩ : ∃ k, k + 1 = (n + 1) / 2 := ⟨(n + 1) / 2 - 1, by omega⟩
      have hkn : k + 1 < n := by omega
      have hne1 : decide (n = 1) = false := decide_eq_false hn1
      obtain ⟨mid, hh⟩ : ∃ mid, mid = k + 1 := ⟨_, rfl⟩
      have hq : ((n : Int) + 1) / 2 = (mid : Int) := by omega
      have hhn : mid < n := by omega
      have HK := Lib.hid hk; have HQ := Lib.hid hq; have HH := Lib.hid hh
      have i5 : IntKind.i64.wrap ((mid : Int) - 1) = (k : Int) := by rw [wrap_eq]; unfold wrap64; omega
      have i6 : wrap64 ((mid : Int) - 1) = (k : Int) := by unfold wrap64; omega
      clear hn1 hk hq hh
      have hkx : k < xs.length := by have := HN.out; omega
      obtain ⟨g, o, rfl, q1, q1b, q1c⟩ := HVR.out.at k hkx
      clear q1b q1c
      obtain ⟨cb, co, rfl, q2⟩ := HVC.out.at m (by rw [lc]; omega)
      obtain ⟨wb, wo, rfl, q3⟩ := HVW.out.at m (by rw [lw]; omega)
      have gc : (cs.take (m + 1)).getD m 0 = cs.getD m 0 := by simp [List.getD_eq_getElem?_getD]
      have gw : (ws.take (m + 1)).getD m 0 = ws.getD m 0 := by simp [List.getD_eq_getElem?_getD]
      rw [gc] at q2; rw [gw] at q3
      have hlast : Hid ((xs.map RunX.pr).getD k (0, []) = (xs[k].last, xs[k].l)) := by
        unfold Hid
        rw [List.getD_eq_getElem?_getD, List.getElem?_eq_getElem (by rw [List.length_map]; exact hkx), List.getElem_map]; rfl
      obtain ⟨lst, hlst⟩ : ∃ lst, lst = xs[k].last := ⟨_, rfl⟩
      rw [← hlst] at q1 hlast
      generalize xs[k].l = xl at hlast
      obtain ⟨cm, hcm⟩ : ∃ cm, cm = cs.getD m 0 := ⟨_, rfl⟩
      obtain ⟨wm, hwm⟩ : ∃ wm, wm = ws.getD m 0 := ⟨_, rfl⟩
      rw [← hcm] at q2 ⊢; rw [← hwm] at q3 ⊢
      rw [← hcm] at IH; rw [← hwm] at IH
      obtain ⟨M1, hM1⟩ : ∃ M1, M1 = m + 1 := ⟨_, rfl⟩
      rw [← hM1] at HVC HVW hcc hwc lc lw ⊢
      have h1' : wrap64 ((M1 : Int) - 1) = (m : Int) := by rw [hM1]; push_cast; exact h1
      have i1 : (0 : Int) ≤ (m : Int) := by omega
      have i2 : (m : Int) < (M1 : Int) := by omega
      have i3 : (0 : Int) ≤ (k : Int) := by omega
      have i4 : (k : Int) < (n : Int) := by omega
      have j1 : (0 : Int) ≤ (mid : Int) := by omega
      have j2 : (mid : Int) ≤ (rc : Int) := by omega
      have j3 : (mid : Int) ≤ (n : Int) := by omega
      have LCW : Hid ((cs.take M1).length = M1 ∧ (ws.take M1).length = M1) := ⟨lc, lw⟩
      have HM1 := Lib.hid hM1
      clear hlst gc gw hcm hwm lc lw hM1 h1
      have HR : Hid ((w.alloc (.cells #[.int .i64 0, .int .i64 0, .int .i64 0, .slice none 0 0] 25)).heap[w.heap.size]? = some (.cells #[.int .i64 0, .int .i64 0, .int .i64 0, .slice none 0 0] 25 (0, 0))) := heap_new _ _
      go_enter Tryz.func84, Tryz.ntmps84
      go_wp2
      rw [HQ.out]
      try rw [h1']
      obtain ⟨W1, hW1⟩ : ∃ W1, W1 = w.alloc (.cells #[.int .i64 0, .int .i64 0, .int .i64 0, .slice none 0 0] 25) := ⟨_, rfl⟩
      have WZ : Hid (W1.heap.size = w.heap.size + 1) := by unfold Hid; rw [hW1]; simp
      rw [← hW1] at HX HR ⊢
      clear hW1
      have HALL1 : Hid (∀ w', Ext W1 w' → w'.cell? ⟨g, o + k * 2, none⟩ = some (.int .i64 lst) ∧ w'.cell? ⟨cb, co + m, none⟩ = some (.int .i64 cm) ∧ w'.cell? ⟨wb, wo + m, none⟩ = some (.int .i64 wm)) :=
        fun w' hx => ⟨(HX.out.trans hx).cell q1, (HX.out.trans hx).cell q2, (HX.out.trans hx).cell q3⟩
      clear q1 q2 q3
      go_cut [9] (fun s9 W => ∃ b9 K : Nat, s9 = .pointer (some ⟨b9, 0, none⟩) ∧ W.heap[b9]? = some (.cells #[.int .i64 13, .int .i64 1, .int .i64 0, .slice (some ⟨K, 0, none⟩) 2 2] 25 (0, 0)) ∧ W.heap[K]? = some (.cells #[.int .i64 2, .int .i64 wm, .int .i64 cm, .slice none 0 0, .int .i64 1, .int .i64 wm, .int .i64 lst, .slice none 0 0] 25 (0, 0)) ∧ W1.heap.size ≤ b9 ∧ W1.heap.size ≤ K ∧ Ext W1 W)
      case first =>
        go_region_held3 (fun w' => w'.cell? ⟨g, o + k * 2, none⟩ = some (.int .i64 lst) ∧ w'.cell? ⟨cb, co + m, none⟩ = some (.int .i64 cm) ∧ w'.cell? ⟨wb, wo + m, none⟩ = some (.int .i64 wm))
          ((first
            | (refine HALL1.out _ ?_; repeat (first | exact Ext.refl _ | apply Ext.drew | apply Ext.alloc)
               done)
            | fail))
          (fail)
        · go_wp2
          go_meet
          exact ⟨W1.heap.size + 1, W1.heap.size, rfl, (two_heap W1 _ _).2, (two_heap W1 _ _).1, Nat.le_succ _, Nat.le_refl _, ((Ext.refl W1).alloc _).alloc _ |>.drew⟩
        · go_wp2
          go_meet
          exact ⟨W1.heap.size, W1.heap.size + 1, rfl, (two_heap W1 _ _).1, (two_heap W1 _ _).2, Nat.le_refl _, Nat.le_succ _, ((Ext.refl W1).alloc _).alloc _ |>.drew⟩
      case rest =>
        obtain ⟨b9, K9, rfl, h9, hK9, hb9, hbK, hx9⟩ := hcut
        generalize wc = W2 at *
        have HX2 := Lib.hid hx9
        obtain ⟨z0, z1, z2, z3, _⟩ := cells_of_block h9
        have HALL2 : Hid (∀ w', Ext W2 w' → w'.cell? ⟨b9, 0, none⟩ = some (.int .i64 13) ∧ w'.cell? ⟨b9, 1, none⟩ = some (.int .i64 1) ∧ w'.cell? ⟨b9, 2, none⟩ = some (.int .i64 0) ∧ w'.cell? ⟨b9, 3, none⟩ = some (.slice (some ⟨K9, 0, none⟩) 2 2)) :=
          fun w' hx => ⟨hx.cell z0, hx.cell z1, hx.cell z2, hx.cell z3⟩
        have HK9 := Lib.hid hK9; have HBK := Lib.hid hbK; have HB9 := Lib.hid hb9
        clear h9 hK9 hb9 hbK hx9 z0 z1 z2 z3
        clear i1 i2 i3 i4 i5 i6 h1' hkn hkx
        have hX2w := HX.out.trans HX2.out
        have HVC2 : Hid (IntsC W2 (.slice (some ⟨cb, co, none⟩) M1 cc) (cs.take (m + 1))) := by unfold Hid; rw [← HM1.out]; exact HVC.out.ext hX2w
        have HVW2 : Hid (IntsC W2 (.slice (some ⟨wb, wo, none⟩) M1 wcc) (ws.take (m + 1))) := by unfold Hid; rw [← HM1.out]; exact HVW.out.ext hX2w
        have hnx : xs.length = n := HN.out.symm
        have HT : Hid (RunsV W2 (.slice (some ⟨g, o, none⟩) mid rc) (xs.take mid)) := (HVR.out.ext hX2w).take mid (by omega)
        have HD : Hid (RunsV W2 (.slice (some ⟨g, o + mid * 2, none⟩) (n - mid) (rc - mid)) (xs.drop mid)) := (HVR.out.ext hX2w).drop mid (by omega)
        have HAT : Hid (∀ x ∈ xs.take mid, x.l.Pairwise (· < ·) ∧ ∀ y ∈ x.l, y < 2 ^ bitsN ws m) := fun x hx => HALL.out x (List.mem_of_mem_take hx)
        have HAD : Hid (∀ x ∈ xs.drop mid, x.l.Pairwise (· < ·) ∧ ∀ y ∈ x.l, y < 2 ^ bitsN ws m) := fun x hx => HALL.out x (List.mem_of_mem_drop hx)
        have hh1 : mid = k + 1 := HH.out
        have PT : Hid ((xs.take mid).length ≤ f ∧ 0 < (xs.take mid).length) := by unfold Hid; rw [List.length_take, hnx]; omega
        have PD : Hid ((xs.drop mid).length ≤ f ∧ 0 < (xs.drop mid).length) := by unfold Hid; rw [List.length_drop, hnx]; omega
        have PF : Hid (f ≤ 1000) := by unfold Hid; omega
        have HRW2 := Lib.hid ((HX2.out.block w.heap.size (by rw [WZ.out]; omega)).trans HR.out)
        have HWS : Hid (w.heap.size < W2.heap.size) := by have := HX2.out.size; have := WZ.out; unfold Hid; omega
        obtain ⟨e1, he1⟩ : ∃ e1, e1 = treeF (memF cs ws m) wm cm f ((xs.take mid).map RunX.pr) := ⟨_, rfl⟩
        obtain ⟨e2, he2⟩ : ∃ e2, e2 = treeF (memF cs ws m) wm cm f ((xs.drop mid).map RunX.pr) := ⟨_, rfl⟩
        have C1 : Hid (∀ V, Ext W2 V → Calls Tryz.prog 84 #[.slice (some ⟨cb, co, none⟩) M1 cc, .slice (some ⟨wb, wo, none⟩) M1 wcc, .slice (some ⟨g, o, none⟩) mid rc] V (NewE e1 V)) := fun V hV => by
          rw [he1]; exact IH.out (xs.take mid) _ _ _ V PT.out.1 PT.out.2 PF.out (HVC2.out.ext hV) (HVW2.out.ext hV) (HT.out.ext hV) HAT.out
        have C2 : Hid (∀ V, Ext W2 V → Calls Tryz.prog 84 #[.slice (some ⟨cb, co, none⟩) M1 cc, .slice (some ⟨wb, wo, none⟩) M1 wcc, .slice (some ⟨g, o + mid * 2, none⟩) (n - mid) (rc - mid)] V (NewE e2 V)) := fun V hV => by
          rw [he2]; exact IH.out (xs.drop mid) _ _ _ V PD.out.1 PD.out.2 PF.out (HVC2.out.ext hV) (HVW2.out.ext hV) (HD.out.ext hV) HAD.out
        have hfin : treeF (memF cs ws m) wm cm (f + 1) (xs.map RunX.pr) = .mk 14 1 0 [.mk 13 1 0 [.mk 2 wm cm [], .mk 1 wm lst []], e1, e2] := by
          rw [he1, he2]
          have hlm : (xs.map RunX.pr).length = n := by rw [List.length_map]; exact hnx
          have hmid : (n + 1) / 2 = mid := by have := HK.out; omega
          rw [treeF_succ, if_neg (by rw [hlm]; omega), hlm, hmid, show mid - 1 = k by omega, hlast.out, List.map_take, List.map_drop]
        have HFIN := Lib.hid hfin
        clear hX2w hnx hh1 he1 he2 hfin HAT HAD PT PD PF HT HD HVC2 HVW2 hlast HVC HVW HVR HALL IH HOK
        go_upto_region 6 with fail
        go_region_held3 (fun w' => w'.cell? ⟨b9, 0, none⟩ = some (.int .i64 13) ∧ w'.cell? ⟨b9, 1, none⟩ = some (.int .i64 1) ∧ w'.cell? ⟨b9, 2, none⟩ = some (.int .i64 0) ∧ w'.cell? ⟨b9, 3, none⟩ = some (.slice (some ⟨K9, 0, none⟩) 2 2))
          ((first
            | (with_reducible exact hs3)
            | (with_reducible exact hs4)
            | (with_reducible exact HALL2.out _ (Ext.refl W2).drew)
            | (with_reducible exact hs5 _)
            | (with_reducible exact hs6 _)
            | fail))
          ((first
            | (go_at_call 84
               first
               | (refine (C2.out w3 HX3.out).mono ?_
                  rintro r w4 ⟨⟨v2, rfl, he2⟩, hx4⟩
                  obtain ⟨la, ln, lc, rfl, hk2⟩ := he2.shape
                  have HE2 := Lib.hid hk2
                  have HX4 : Hid (Ext w3 w4) := hx4
                  have hs4 := HALL2.out _ (HX3.out.trans HX4.out)
                  have hR4 := ((HX3.out.trans HX4.out).block w.heap.size HWS.out).trans HRW2.out
                  have hls : w.heap.size < w4.heap.size := (Array.getElem?_eq_some_iff.1 hR4).1
                  obtain ⟨c0, c1, c2, c3, f0, f1, f2, f3⟩ := cells_of_block hR4
                  have HR4 := Lib.hid hR4
                  have hs5 := fun oo => HALL2.out (w4.alloc oo) ((HX3.out.trans HX4.out).alloc oo)
                  have hP : ∀ (j : Nat) (u : Value), w4.cell? ⟨b9, j, none⟩ = some u → ∀ oo : Obj, ((put4 w4 w.heap.size 0 (.int .i64 14) (.int .i64 1) (.int .i64 0) (.slice (some ⟨w4.heap.size, 0, none⟩) 3 3)).alloc oo).cell? ⟨b9, j, none⟩ = some u := fun j u hu oo =>
                    ((Ext.refl _).alloc oo).cell ((put4_other _ (.inl (by have := HB9.out; have := WZ.out; show b9 ≠ w.heap.size; omega))).trans hu)
                  have hs6 := fun oo => And.intro (hP 0 _ hs4.1 oo) (And.intro (hP 1 _ hs4.2.1 oo) (And.intro (hP 2 _ hs4.2.2.1 oo) (hP 3 _ hs4.2.2.2 oo)))
                  simp only [put4, Nat.zero_add] at hs6
                  clear he2 hx4 hk2 hR4 hP)
               | (refine (C1.out W2.drew (Ext.refl W2).drew).mono ?_
                  rintro r w3 ⟨⟨v1, rfl, he1⟩, hx3⟩
                  obtain ⟨ka, kn, kc, rfl, hk1⟩ := he1.shape
                  have HE1 := Lib.hid hk1
                  have HX3 : Hid (Ext W2 w3) := (Ext.refl W2).drew.trans hx3
                  have hs3 := HALL2.out _ HX3.out
                  clear he1 hx3 hk1))))
        clear hs3 hs4 hs5 hs6 c0 c1 c2 c3 f0 f1 f2 f3
        go_wp2_with fail
        obtain ⟨V, hV⟩ : ∃ V, V = (put4 w4 w.heap.size 0 (.int .i64 14) (.int .i64 1) (.int .i64 0) (.slice (some ⟨w4.heap.size, 0, none⟩) 3 3)).alloc (.cells #[.int .i64 13, .int .i64 1, .int .i64 0, .slice (some ⟨K9, 0, none⟩) 2 2, .int .i64 e1.op, .int .i64 e1.wd, .int .i64 e1.n, .slice ka kn kc, .int .i64 e2.op, .int .i64 e2.wd, .int .i64 e2.n, .slice la ln lc] 25) := ⟨_, rfl⟩
        have hz : (put4 w4 w.heap.size 0 (.int .i64 14) (.int .i64 1) (.int .i64 0) (.slice (some ⟨w4.heap.size, 0, none⟩) 3 3)).heap.size = w4.heap.size := put4_size
        have hrow : V.heap[w.heap.size]? = some (.cells #[.int .i64 14, .int .i64 1, .int .i64 0, .slice (some ⟨w4.heap.size, 0, none⟩) 3 3] 25 (0, 0)) := by
          rw [hV, heap_alloc_old _ _ (by rw [hz]; exact hls)]; exact put4_new HR4.out
        have hkids : V.heap[w4.heap.size]? = some (.cells #[.int .i64 13, .int .i64 1, .int .i64 0, .slice (some ⟨K9, 0, none⟩) 2 2, .int .i64 e1.op, .int .i64 e1.wd, .int .i64 e1.n, .slice ka kn kc, .int .i64 e2.op, .int .i64 e2.wd, .int .i64 e2.n, .slice la ln lc] 25 (0, 0)) := by
          rw [hV]
          have := heap_new (put4 w4 w.heap.size 0 (.int .i64 14) (.int .i64 1) (.int .i64 0) (.slice (some ⟨w4.heap.size, 0, none⟩) 3 3)) (.cells #[.int .i64 13, .int .i64 1, .int .i64 0, .slice (some ⟨K9, 0, none⟩) 2 2, .int .i64 e1.op, .int .i64 e1.wd, .int .i64 e1.n, .slice ka kn kc, .int .i64 e2.op, .int .i64 e2.wd, .int .i64 e2.n, .slice la ln lc] 25)
          rw [hz] at this
          exact this
        have hold : ∀ q, w.heap.size < q → q < w4.heap.size → V.heap[q]? = w4.heap[q]? := fun q h1 h2 => by
          rw [hV, heap_alloc_old _ _ (by rw [hz]; exact h2)]; exact put4_heap q (by omega)
        have hVx : Ext w V := by rw [hV]; exact Ext.alloc (Below.trans (((HX.out.trans HX2.out).trans HX3.out).trans HX4.out) (below_put4 (Nat.le_refl _))) _
        change bodyPost Tryz.prog Tryz.f84 _ _ _ ((put4 w4 w.heap.size 0 (.int .i64 14) (.int .i64 1) (.int .i64 0) (.slice (some ⟨w4.heap.size, 0, none⟩) 3 3)).alloc (.cells #[.int .i64 13, .int .i64 1, .int .i64 0, .slice (some ⟨K9, 0, none⟩) 2 2, .int .i64 e1.op, .int .i64 e1.wd, .int .i64 e1.n, .slice ka kn kc, .int .i64 e2.op, .int .i64 e2.wd, .int .i64 e2.n, .slice la ln lc] 25))
        rw [← hV, HFIN.out]
        clear hV
        have s1 := WZ.out; have s2 := HX2.out.size; have s3 := HX3.out.size; have s4 := HX4.out.size; have s5 := HBK.out; have s6 := HB9.out
        refine bodyPost_ret (v := .agg #[.int .i64 14, .int .i64 1, .int .i64 0, .slice (some ⟨w4.heap.size, 0, none⟩) 3 3]) (results_cell_row Tryz.results84 _ _ w.heap.size 25 _ (0, 0) _ rfl hrow Tryz.underlying25 rfl sizeExpr) rfl ⟨⟨_, rfl, _, rfl, ?_⟩, hVx⟩
        have k9 : V.heap[K9]? = W2.heap[K9]? := by
          have hl : K9 < W2.heap.size := (Array.getElem?_eq_some_iff.1 HK9.out).1
          rw [hold K9 (by omega) (by omega), (HX3.out.trans HX4.out).block K9 hl]
        have q1 : KidsB (w.heap.size + 1) V (.slice (some ⟨K9, 0, none⟩) 2 2) [.mk 2 wm cm [], .mk 1 wm lst []] :=
          kidsB_two (a := .mk 2 wm cm []) (b := .mk 1 wm lst []) (by omega) (kidsB_nil _ _) (kidsB_nil _ _) (k9.trans HK9.out)
        have q2 : KidsB (w.heap.size + 1) V (.slice ka kn kc) e1.kids := (HE1.out.keep (fun q h1 h2 => by
          have h1' : W2.heap.size ≤ q := h1
          rw [hold q (by omega) (by omega), HX4.out.block q h2])).mono (by show w.heap.size + 1 ≤ W2.heap.size; omega)
        have q3 : KidsB (w.heap.size + 1) V (.slice la ln lc) e2.kids := (HE2.out.keep (fun q h1 h2 => hold q (by omega) h2)).mono (by omega)
        exact (kidsB_three (a := .mk 13 1 0 [.mk 2 wm cm [], .mk 1 wm lst []]) (by omega) q1 q2 q3 hkids).mono (by omega)
end Go.Proofs.YtlcgbdjmlnjhcaaGreatDoor
