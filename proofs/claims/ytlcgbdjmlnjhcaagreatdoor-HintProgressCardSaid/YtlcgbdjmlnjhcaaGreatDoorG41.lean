/-
  The reference's Before; its Same of equal conditions.
  The program's functions on small conditions, for the walks of law32's statements.
-/
import Derived.Test.YtlcgbdjmlnjhcaaGreatDoorG39
import Derived.Test.YtlcgbdjmlnjhcaaGreatDoorG26
import Derived.Test.YtlcgbdjmlnjhcaaGreatDoorG40
namespace Go.Proofs.YtlcgbdjmlnjhcaaGreatDoor
open Go.RowKit
attribute [local go_sem] Oper.semAt_some

theorem IsT.and {S S' : Nat → Prop} {w : World} {b o : Nat} {e : E} (h : IsT S w b o e) : IsT S' w b o e → IsT (fun k => S k ∧ S' k) w b o e := by
  induction h with
  | leaf h0 h1 h2 h3 => exact fun _ => .leaf h0 h1 h2 h3
  | node h0 h1 h2 h3 hl hs hk ih =>
    intro k
    cases k with
    | leaf k0 k1 k2 k3 => exact .leaf h0 h1 h2 k3
    | node k0 k1 k2 k3 kl kb kk =>
      rw [h3] at k3
      injection k3 with k3
      injection k3 with ea _ _
      injection ea with ea
      injection ea with eb eo _
      subst eb; subst eo
      exact .node h0 h1 h2 h3 hl ⟨hs, kb⟩ fun i hi => ih i hi (kk i hi)
theorem KidsT.and {S S' : Nat → Prop} {w : World} {v : Value} {ks : List E} (h : KidsT S w v ks) (k : KidsT S' w v ks) : KidsT (fun b => S b ∧ S' b) w v ks := by
  rcases h with h | ⟨b, o, cap, rfl, hl, hs, hi⟩
  · exact .inl h
  · rcases k with ⟨_, rfl⟩ | ⟨b2, o2, cap2, e, hl2, hs2, hi2⟩
    · exact .inl ⟨⟨_, _, rfl⟩, rfl⟩
    · injection e with ea _ _
      injection ea with ea
      injection ea with eb eo _
      subst eb; subst eo
      exact .inr ⟨_, _, _, rfl, hl, ⟨hs, hs2⟩, fun i h => (hi i h).and (hi2 i h)⟩
/-- A row of expressions of the call's own; their kids lie from base on. -/
def OwnL (w : World) (base : Nat) (v : Value) (ps : List (E × Value)) : Prop :=
  OwnK w base v ps ∧ ∀ p ∈ ps, KidsT (fun b => base ≤ b ∧ some b ≠ v.ownBlock) w p.2 p.1.kids
theorem OwnL.nil (w : World) (base : Nat) : OwnL w base (.slice none 0 0) [] := ⟨OwnK.nil w base, fun _ h => by cases h⟩
theorem OwnL.ext {w w' : World} {base : Nat} {v : Value} {ps : List (E × Value)} (h : OwnL w base v ps) (hx : Ext w w') : OwnL w' base v ps :=
  ⟨h.1.ext hx, fun p hp => (h.2 p hp).keep fun k _ hk => hx.block k hk⟩
theorem OwnL.grow {w w' : World} {base : Nat} {v v' : Value} {ps : List (E × Value)} {e : E} {kv : Value} (h : OwnL w base v ps) (ho : OwnK w' base v' (ps ++ [(e, kv)])) (hg : w.grownBy w' v.ownBlock) (hk : KidsT (fun b => base ≤ b ∧ some b ≠ v.ownBlock) w kv e.kids) : OwnL w' base v' (ps ++ [(e, kv)]) := by
  refine ⟨ho, fun p hp => ?_⟩
  have key : ∀ (u : Value) (ks : List E), KidsT (fun b => base ≤ b ∧ some b ≠ v.ownBlock) w u ks → KidsT (fun b => base ≤ b) w' u ks := fun u ks hu =>
    (hu.keep (w' := w') fun k hs hk => hg.block k hk hs.2).mono fun k hs => hs.1
  have h1 : KidsT (fun b => base ≤ b) w' p.2 p.1.kids := by
    rcases List.mem_append.1 hp with hp | hp
    · exact key _ _ (h.2 p hp)
    · simp at hp; subst hp; exact key _ _ hk
  exact h1.and (ho.2 p hp)
theorem OwnL.kids {w : World} {base : Nat} {v : Value} {ps : List (E × Value)} (h : OwnL w base v ps) (hl : ps.length ≤ 1000000) : KidsT (fun b => base ≤ b) w v (ps.map (·.1)) := by
  rcases h.1.1.2 with ⟨rfl, e⟩ | ⟨g, cap, cur, rfl, hg, hh, hn, hc, hs, ht⟩
  · have : ps = [] := List.length_eq_zero_iff.1 e
    subst this
    exact .inl ⟨⟨_, _, rfl⟩, rfl⟩
  · have el : (ps.map (·.1)).length = ps.length := List.length_map _
    refine .inr ⟨g, 0, cap, by rw [el], by rw [el]; omega, hg, fun i hi => ?_⟩
    rw [el] at hi
    rw [Nat.zero_add]
    have cell : ∀ j, j < 4 → w.cell? ⟨g, i * 4 + j, none⟩ = (cells4' ps[i])[j]? := by
      intro j hj
      have e1 := congrArg (fun x => x[i * 4 + j]?) ht
      rw [List.getElem?_take_of_lt (by omega), flat4_get ps i j hi hj] at e1
      rw [← e1]
      simp [World.cell?, hh]
    have k := (h.2 ps[i] (List.getElem_mem hi)).mono (S' := fun b => base ≤ b) (fun k hk => hk.1)
    rw [List.getElem_map]
    have c0 := cell 0 (by omega); have c1 := cell 1 (by omega); have c2 := cell 2 (by omega); have c3 := cell 3 (by omega)
    simp only [cells4', Nat.add_zero, List.getElem?_cons_zero, List.getElem?_cons_succ] at c0 c1 c2 c3
    exact IsT.mk' c0 c1 c2 c3 k

set_option maxRecDepth 100000 in
set_option maxHeartbeats 4000000 in
theorem Rbefore_any (N : Nat) : N ≤ 1000 → ∀ (e : E) (d : Nat) (v : Value) (w : World), e.size ≤ N → e.deep d = true → EVal w v e →
    Calls Tryz.prog 52 #[v] w (RetT (fun b => w.heap.size ≤ b) (e.rebuild beforeLeaf) w) := by
  induction N with
  | zero => intro _ e d v w h; have := e.size_pos; omega
  | succ N ih =>
    intro hN6 e d v w hN hd he
    obtain ⟨kv, rfl, hk⟩ := he
    obtain ⟨op, wd, n, ks⟩ := e
    simp only [E.op_mk, E.wd_mk, E.n_mk, E.kids_mk] at hk ⊢
    obtain ⟨a, cap, rfl⟩ := SliceAt.shape hk
    obtain ⟨W, hW⟩ : ∃ W, W = (w.alloc (.cells #[.int .i64 op, .int .i64 wd, .int .i64 n, .slice a ks.length cap] 25)).alloc (.cells #[.int .i64 0, .int .i64 0, .int .i64 0, .slice none 0 0] 25) := ⟨_, rfl⟩
    have hx : Ext w W := by rw [hW]; exact ((Ext.refl w).alloc _).alloc _
    obtain ⟨hv1, hv2⟩ := heap_of2 w (.cells #[.int .i64 op, .int .i64 wd, .int .i64 n, .slice a ks.length cap] 25) (.cells #[.int .i64 0, .int .i64 0, .int .i64 0, .slice none 0 0] 25)
    have hsz : W.heap.size = w.heap.size + 2 := by rw [hW]; simp
    rw [← hW] at hv1 hv2
    have HB1 := Lib.hid hv1; have HB2 := Lib.hid hv2; have HX := Lib.hid hx; have HW := Lib.hid hW; have HSZ := Lib.hid hsz
    have HK := Lib.hid (hk.ext hx)
    have IH := Lib.hid (ih (by omega)); have HD := Lib.hid hd
    have hksl : ks.length ≤ 1000 := by
      have h1 := length_le_sizeAll ks
      simp only [E.size] at hN
      omega
    clear hx hv1 hv2 hk hW ih hsz
    by_cases h2 : op = 2
    · subst h2
      have hnil : ks = [] := by
        have := (shapedW_cell (deep_shape hd) (.inl rfl)).1
        simpa using this
      subst hnil
      rw [List.length_nil] at HW HB1
      obtain ⟨p0, p1, p2, p3⟩ := blocks4 HB1.out
      obtain ⟨c0, c1, c2, c3, f0, f1, f2, f3⟩ := cells_of_block HB2.out
      have HBN := Lib.hid (put4_new (x := .int .i64 3) (y := .int .i64 wd) (z := .int .i64 n) (u := .slice none 0 0) HB2.out)
      have HXE : Hid (Ext w (put4 W (w.heap.size + 1) 0 (.int .i64 3) (.int .i64 wd) (.int .i64 n) (.slice none 0 0))) := Below.trans HX.out (below_put4 (by omega))
      clear hd
      go_enter Tryz.func52, Tryz.ntmps52
      go_upto_region 1 with fail
      rw [← HW.out]; clear HW
      go_wp2_with fail
      refine bodyPost_ret (v := .agg #[.int .i64 3, .int .i64 wd, .int .i64 n, .slice none 0 0]) (results_cell_row Tryz.results52 _ _ (w.heap.size + 1) 25 _ (0, 0) _ rfl HBN.out Tryz.underlying25 rfl sizeExpr) rfl ⟨⟨_, rfl, ?_⟩, HXE.out⟩
      rw [rebuild_nil]
      exact ⟨_, rfl, .inl ⟨⟨_, _, rfl⟩, rfl⟩⟩
    · have h2b : (op == 2) = false := by simpa using h2
      have HREB : Hid ((E.mk op wd n ks).rebuild beforeLeaf = .mk op wd n (ks.map (E.rebuild beforeLeaf))) := by
        by_cases hks : ks = []
        · subst hks; rw [Hid, rebuild_nil]; unfold beforeLeaf; simp [h2]; rfl
        · exact rebuild_cons _ hks
      clear hd h2
      obtain ⟨p0, p1, p2, p3⟩ := blocks4 HB1.out
      go_enter Tryz.func52, Tryz.ntmps52
      go_upto_region 1 with fail
      rw [← HW.out]; clear HW
      go_wp2_with fail
      clear p0 p1 p2 p3
      go_loopw [3, 4] (fun kept i wr => ∃ (k : Nat) (ps : List (E × Value)), k ≤ ks.length ∧ i = .int .i64 k ∧ Ext W wr ∧ OwnL wr W.heap.size kept ps ∧ ps.map (·.1) = (ks.take k).map (E.rebuild beforeLeaf)) (fun _ i _ => ks.length - (intOf i).toNat)
      case atStart => exact ⟨0, [], Nat.zero_le _, rfl, Ext.refl _, OwnL.nil _ _, rfl⟩
      case round =>
        obtain ⟨k, ps, hkl, rfl, hX, hO, hps⟩ := hrel
        obtain ⟨pa, pc, rfl⟩ := hO.1.shape
        have hpl : ps.length ≤ 1000 := by
          have h1 := congrArg List.length hps
          rw [List.length_map, List.length_map] at h1
          have := List.length_take_le k ks
          omega
        have HXr := Lib.hid hX; have HOW := Lib.hid hO; have HPS := Lib.hid hps
        clear hX hO hps
        have hB1 := (HXr.out.block _ (lt_heap HB1.out)).trans HB1.out
        by_cases hlt : k < ks.length
        · rcases HK.out with ⟨_, e⟩ | ⟨b', o', cap', e, _, hk'⟩
          · rw [e] at hlt; simp at hlt
          cases e
          have hE := (hk' k hlt).ext HXr.out
          obtain ⟨g0, g1, g2, kv, g3, hkk⟩ := hE.cells
          obtain ⟨ka, kc, rfl⟩ := SliceAt.shape hkk
          have hin : ks[k] ∈ ks := List.getElem_mem hlt
          have hsk : ks[k].size ≤ N := by have := size_kid (op := op) (wd := wd) (n := n) hin; omega
          have HE : Hid (EVal wr (.agg #[.int .i64 ks[k].op, .int .i64 ks[k].wd, .int .i64 ks[k].n, .slice ka ks[k].kids.length kc]) ks[k]) := ⟨_, rfl, hkk⟩
          have HDK := Lib.hid (deep_kid HD.out hlt)
          have HTK : Hid ((ks.take (k + 1)).map (E.rebuild beforeLeaf) = (ks.take k).map (E.rebuild beforeLeaf) ++ [ks[k].rebuild beforeLeaf]) := by
            rw [Hid, List.take_succ_eq_append_getElem hlt, List.map_append]; rfl
          obtain ⟨p0, p1, p2, p3⟩ := blocks4 hB1
          clear hkk hk' hE hin hB1
          generalize hee : ks[k] = e at *
          clear hee
          go_wp2_with fail
          refine (IH.out e _ _ _ hsk HDK.out HE.out).mono ?_
          rintro r w2 ⟨⟨v, rfl, hv⟩, x2⟩
          obtain ⟨ya, yl, yc, rfl, hky⟩ := hv.shape
          generalize e.rebuild beforeLeaf = y at *
          have HOl := Lib.hid (ownA_block HOW.out.1.1)
          have HO2 := Lib.hid (HOW.out.ext x2)
          have HX2 := Lib.hid (HXr.out.trans x2)
          have HZ : Hid (W.heap.size ≤ wr.heap.size) := HXr.out.size
          have HKY := Lib.hid hky.there
          have HKA3 : Hid (KidsT (fun b => some b ≠ (Value.slice pa ps.length pc).ownBlock ∧ b < w2.heap.size) w2 (.slice ya yl yc) y.kids) := HKY.out.mono fun q hq => ⟨fun e => by
            have := (HOl.out q e.symm).2; omega, hq.2⟩
          have HKA4 : Hid (KidsT (fun b => W.heap.size ≤ b ∧ some b ≠ (Value.slice pa ps.length pc).ownBlock) w2 (.slice ya yl yc) y.kids) := HKY.out.mono fun q hq => ⟨by have := hq.1; have := HZ.out; omega, fun e => by
            have := (HOl.out q e.symm).2; omega⟩
          clear hv x2 hky p0 p1 p2 p3 g0 g1 g2 g3 hsk
          go_wp2_with (at_builtin; refine wpList_append_kid rfl (.tmp 20) (.tmp 27) rfl W.heap.size w2 _ ps y _ rfl rfl HO2.out.1 HKA3.out (by omega) HX2.out.size ?_)
          intro g cp w6 hO6 hgr hg
          have HO6 := Lib.hid (HO2.out.grow hO6 hgr HKA4.out); have HX6 := Lib.hid (HX2.out.grown hgr fun q hq => (ownA_block HO2.out.1.1 q hq).1)
          clear hO6 hgr hg
          go_wp2_with fail
          refine ⟨⟨k + 1, _, by omega, by go_num, HX6.out, HO6.out, ?_⟩, by simp [intOf]; omega⟩
          rw [HTK.out, List.map_append, HPS.out]; rfl
        · have HT : Hid (ks.take k = ks) := List.take_of_length_le (by omega)
          rw [HT.out] at HPS
          have HPL : Hid (ps.length = (ks.map (E.rebuild beforeLeaf)).length) := by rw [Hid, ← HPS.out, List.length_map]
          have HKF : Hid (KidsT (fun b => W.heap.size ≤ b) wr (.slice pa ps.length pc) (ks.map (E.rebuild beforeLeaf))) := by rw [← HPS.out]; exact HOW.out.kids (by omega)
          have hR := (HXr.out.block _ (lt_heap HB2.out)).trans HB2.out
          obtain ⟨p0, p1, p2, p3⟩ := blocks4 hB1
          obtain ⟨c0, c1, c2, c3, f0, f1, f2, f3⟩ := cells_of_block hR
          have HBN := Lib.hid (put4_new (x := .int .i64 op) (y := .int .i64 wd) (z := .int .i64 n) (u := .slice pa ps.length pc) hR)
          have HXE : Hid (Ext w (put4 wr (w.heap.size + 1) 0 (.int .i64 op) (.int .i64 wd) (.int .i64 n) (.slice pa ps.length pc))) := Below.trans (HX.out.trans HXr.out) (below_put4 (by omega))
          have HKE : Hid (KidsT (fun b => w.heap.size ≤ b) (put4 wr (w.heap.size + 1) 0 (.int .i64 op) (.int .i64 wd) (.int .i64 n) (.slice pa ps.length pc)) (.slice pa ps.length pc) (ks.map (E.rebuild beforeLeaf))) := (HKF.out.keep fun q hq _ => put4_heap q (by have := HSZ.out; omega)).mono fun q hq => by have := HSZ.out; omega
          clear hR hB1 hkl HKF
          go_wp2_with fail
          refine bodyPost_ret (v := .agg #[.int .i64 op, .int .i64 wd, .int .i64 n, .slice pa ps.length pc]) (results_cell_row Tryz.results52 _ _ (w.heap.size + 1) 25 _ (0, 0) _ rfl HBN.out Tryz.underlying25 rfl sizeExpr) rfl ⟨⟨_, rfl, ?_⟩, HXE.out⟩
          rw [HREB.out]; exact ⟨_, rfl, HKE.out⟩

set_option maxHeartbeats 1000000 in
/-- The reference's Before of a well-formed expression. -/
theorem RBefore_any (e : E) (v : Value) (w : World) (he : EVal w v e) (hw : e.wf = true) : Calls Tryz.prog 18 #[v] w (RetT (fun b => w.heap.size ≤ b) e.before w) := by
  obtain ⟨a, cap, rfl, hk⟩ := he.shape'
  obtain ⟨W, hW⟩ : ∃ W, W = (w.alloc (.cells #[.int .i64 e.op, .int .i64 e.wd, .int .i64 e.n, .slice a e.kids.length cap] 25)).alloc (.cells #[.int .i64 0, .int .i64 0, .int .i64 0, .slice none 0 0] 25) := ⟨_, rfl⟩
  have hx : Ext w W := by rw [hW]; exact ((Ext.refl w).alloc _).alloc _
  obtain ⟨hv1, hv2⟩ := heap_of2 w (.cells #[.int .i64 e.op, .int .i64 e.wd, .int .i64 e.n, .slice a e.kids.length cap] 25) (.cells #[.int .i64 0, .int .i64 0, .int .i64 0, .slice none 0 0] 25)
  have hsz : W.heap.size = w.heap.size + 2 := by rw [hW]; simp
  rw [← hW] at hv1 hv2
  have HB1 := Lib.hid hv1; have HB2 := Lib.hid hv2; have HX := Lib.hid hx; have HW := Lib.hid hW; have HSZ := Lib.hid hsz
  have HE : Hid (EVal W (.agg #[.int .i64 e.op, .int .i64 e.wd, .int .i64 e.n, .slice a e.kids.length cap]) e) := he.ext hx
  have HWF := Lib.hid hw
  have HS6 : Hid (e.size ≤ 1000) := by
    have := hw; simp only [E.wf, Bool.and_eq_true, decide_eq_true_eq] at this; unfold Hid; omega
  obtain ⟨p0, p1, p2, p3⟩ := blocks4 hv1
  clear hx hv1 hv2 hk hW he hw hsz
  go_enter Tryz.func18, Tryz.ntmps18
  go_upto_region 1 with fail
  rw [← HW.out]; clear HW
  go_wp2_with fail
  refine (RFormed_any e _ W HE.out).mono ?_
  rintro r w1 ⟨rfl, x1⟩
  rw [HWF.out]
  replace HB1 := Lib.hid ((x1.block _ (lt_heap HB1.out)).trans HB1.out); replace HB2 := Lib.hid ((x1.block _ (lt_heap HB2.out)).trans HB2.out)
  replace HX := Lib.hid (HX.out.trans x1); replace HE := Lib.hid (HE.out.ext x1)
  have HZ1 : Hid (W.heap.size ≤ w1.heap.size) := x1.size
  clear x1 p0 p1 p2 p3
  obtain ⟨p0, p1, p2, p3⟩ := blocks4 HB1.out
  go_wp2_with fail
  refine (Rbefore_any 1000 (Nat.le_refl _) e 40 _ _ HS6.out (wf_deep HWF.out) HE.out).mono ?_
  rintro r w2 ⟨⟨v, rfl, hv⟩, x2⟩
  have HBE : Hid (e.before = e.rebuild beforeLeaf) := before_eq HWF.out
  generalize e.rebuild beforeLeaf = y at *
  obtain ⟨ya, yl, yc, rfl, hky⟩ := hv.shape
  have hR := (x2.block _ (lt_heap HB2.out)).trans HB2.out
  obtain ⟨c0, c1, c2, c3, f0, f1, f2, f3⟩ := cells_of_block hR
  have HBN := Lib.hid (put4_new (x := .int .i64 y.op) (y := .int .i64 y.wd) (z := .int .i64 y.n) (u := .slice ya yl yc) hR)
  have HXE : Hid (Ext w (put4 w2 (w.heap.size + 1) 0 (.int .i64 y.op) (.int .i64 y.wd) (.int .i64 y.n) (.slice ya yl yc))) := Below.trans (HX.out.trans x2) (below_put4 (by omega))
  have HKE : Hid (KidsT (fun b => w1.heap.size ≤ b) (put4 w2 (w.heap.size + 1) 0 (.int .i64 y.op) (.int .i64 y.wd) (.int .i64 y.n) (.slice ya yl yc)) (.slice ya yl yc) y.kids) := hky.keep fun q hq _ => put4_heap q (by have := HSZ.out; have := HZ1.out; omega)
  clear hR hv hky x2
  go_wp2_with fail
  refine bodyPost_ret (v := .agg #[.int .i64 y.op, .int .i64 y.wd, .int .i64 y.n, .slice ya yl yc]) (results_cell_row Tryz.results18 _ _ (w.heap.size + 1) 25 _ (0, 0) _ rfl HBN.out Tryz.underlying25 rfl sizeExpr) rfl ⟨⟨_, rfl, ?_⟩, HXE.out⟩
  rw [HBE.out]; exact ⟨_, rfl, HKE.out.mono fun k hk => by have h1 := HSZ.out; have h2 := HZ1.out; omega⟩

set_option maxRecDepth 100000 in
set_option maxHeartbeats 4000000 in
/-- Same of equal conditions. -/
theorem RSame32_any (c : CondS) (v1 v2 : Value) (w : World) (h1 : CondV w v1 c) (h2 : CondV w v2 c) : Calls Tryz.prog 22 #[v1, v2] w fun r w' => r = .returned (.bool true) ∧ Ext w w' := by
  obtain ⟨ha, hl, hcp, ga, gl, gc, rfl, e1, e2⟩ := h1
  obtain ⟨ha', hl', hcp', ga', gl', gc', rfl, e1', e2'⟩ := h2
  obtain ⟨W, hW⟩ : ∃ W, Boxes w W (.cells (condCells c ha hl hcp ga gl gc) 27) (.cells (condCells c ha' hl' hcp' ga' gl' gc') 27) := ⟨_, Boxes.mk' _ _ _⟩
  have hX := hW.ext
  have HA1 : Hid (CondAt W w.heap.size c ha hl hcp ga gl gc) := hW.b0
  have HA2 : Hid (CondAt W (w.heap.size + 1) c ha' hl' hcp' ga' gl' gc') := hW.b1
  have HE1 := Lib.hid (e1.ext hX); have HE2 := Lib.hid (e2.ext hX); have HF1 := Lib.hid (e1'.ext hX); have HF2 := Lib.hid (e2'.ext hX)
  have HX := Lib.hid hX; have HW := Lib.hid hW.eq
  obtain ⟨d0, d1, d2, d3, d4, d5, d6, d7, d8, d9, d10, d11, d12, d13⟩ := HA1.out.all
  obtain ⟨u0, u1, u2, u3, u4, u5, u6, u7, u8, u9, u10, u11, u12, u13⟩ := HA2.out.all
  clear hX hW e1 e2 e1' e2'
  unfold condCells at *
  go_enter Tryz.func22, Tryz.ntmps22
  go_upto_region 1 with fail
  rw [← HW.out]; clear HW
  go_wp2_with fail
  refine (RSame_any c.hyp.size c.hyp c.hyp _ _ _ (Nat.le_refl _) HE1.out HF1.out).mono ?_
  rintro r w1 ⟨rfl, x1⟩
  rw [(eqB_iff c.hyp c.hyp).2 rfl]
  replace HA1 := Lib.hid (HA1.out.ext x1); replace HA2 := Lib.hid (HA2.out.ext x1)
  replace HE2 := Lib.hid (HE2.out.ext x1); replace HF2 := Lib.hid (HF2.out.ext x1); replace HX := Lib.hid (HX.out.trans x1)
  clear x1 d0 d1 d2 d3 d4 d5 d6 d7 d8 d9 d10 d11 d12 d13 u0 u1 u2 u3 u4 u5 u6 u7 u8 u9 u10 u11 u12 u13
  obtain ⟨q0, q1, q2, q3⟩ := HA1.out.goal
  obtain ⟨p0, p1, p2, p3⟩ := HA2.out.goal
  go_wp2_with fail
  refine (RSame_any c.goal.size c.goal c.goal _ _ _ (Nat.le_refl _) HE2.out HF2.out).mono ?_
  rintro r w2 ⟨rfl, x1⟩
  rw [(eqB_iff c.goal c.goal).2 rfl]
  replace HX := Lib.hid (HX.out.trans x1)
  clear x1 q0 q1 q2 q3 p0 p1 p2 p3
  go_wp2_with fail
  go_ret
  exact ⟨rfl, HX.out⟩
end Go.Proofs.YtlcgbdjmlnjhcaaGreatDoor
namespace Go.Proofs.YtlcgbdjmlnjhcaaGreatDoor
open Go.RowKit

theorem Weak_s {cells : List CellD} {c : CondS} (S : Sm cells c) {e : E} {k : Int} (hx : weakR cells c.hyp c.goal = (e, k)) (cv kv : Value) (w : World) (hc : CondV w cv c) (hC : Cells w kv cells) (hM : Masks w) :
    Calls Tryz.prog 10 #[kv, cv] w fun r w' => ∃ a n p, r = .returned (.tuple #[.agg #[.int .i64 e.op, .int .i64 e.wd, .int .i64 e.n, .slice a n p], .int .i64 k]) ∧ EVal w' (.agg #[.int .i64 e.op, .int .i64 e.wd, .int .i64 e.n, .slice a n p]) e ∧ Ext w w' := by
  refine (Weakest_any c cells cv kv w hc hC hM (fun _ _ => by have := S.bits; omega)).mono ?_
  rintro r w' ⟨⟨v, rfl, he⟩, x1⟩
  rw [hx] at he ⊢
  obtain ⟨a, p, rfl, hk⟩ := he.shape'
  exact ⟨a, _, p, rfl, ⟨_, rfl, hk⟩, x1⟩
theorem Str_s {c : CondS} {e : E} (hg : c.goal.size ≤ 100000) {d : CondS} (hd : strC c e = d) (cv ev : Value) (w : World) (hc : CondV w cv c) (he : EVal w ev e) (hM : Masks w) :
    Calls Tryz.prog 11 #[cv, ev] w fun r w' => ∃ a1 l1 c1 a2 l2 c2, r = .returned (.agg #[.string ⟨d.id.toArray⟩, .int .i64 d.k1, .int .i64 d.k2, .int .i64 d.k3, .int .i64 d.k4, .int .i64 d.k5, .int .i64 d.hyp.op, .int .i64 d.hyp.wd, .int .i64 d.hyp.n, .slice a1 l1 c1, .int .i64 d.goal.op, .int .i64 d.goal.wd, .int .i64 d.goal.n, .slice a2 l2 c2]) ∧ CondV w' (.agg (condCells d a1 l1 c1 a2 l2 c2)) d ∧ Ext w w' := by
  refine (Strengthen_any c e cv ev w hc he hM hg).mono ?_
  rintro r w' ⟨⟨v, rfl, hv⟩, x1⟩
  rw [hd] at hv
  have hv' := hv
  obtain ⟨a1, l1, c1, a2, l2, c2, rfl, _, _⟩ := hv
  exact ⟨a1, l1, c1, a2, l2, c2, rfl, hv', x1⟩
theorem Dec_yes {c : CondS} {cells : List CellD} (f1 : formC cells c.hyp) (f2 : formC cells c.goal) (hs : sumI (wOf cells (hOld cells c.hyp c.goal)) + sumI (wOf cells (hNow cells c.hyp c.goal)) ≤ 12) (hv : ∀ old now, violB c.hyp c.goal old now = false) (hL : cells.length ≤ 40) (cv kv : Value) (w : World) (hc : CondV w cv c) (hC : Cells w kv cells) (hM : Masks w) :
    Calls Tryz.prog 13 #[kv, cv] w fun r w' => r = .returned (.tuple #[.int .i64 1, .slice none 0 0, .slice none 0 0, .int .i64 0]) ∧ Ext w w' :=
  (Decide_any c cells cv kv w hc hC hM (by omega) (fun _ _ => hs)).mono fun _ _ h => dec_yes f1 f2 hv h
/-- Decide's answer: Yes, or No and a pair of states. -/
theorem Dec_any {c : CondS} {cells : List CellD} (f1 : formC cells c.hyp) (f2 : formC cells c.goal) (hs : sumI (wOf cells (hOld cells c.hyp c.goal)) + sumI (wOf cells (hNow cells c.hyp c.goal)) ≤ 12) (hL : cells.length ≤ 40) (cv kv : Value) (w : World) (hc : CondV w cv c) (hC : Cells w kv cells) (hM : Masks w) :
    Calls Tryz.prog 13 #[kv, cv] w fun r w' => (((∀ old now, violB c.hyp c.goal old now = false) ∧ r = .returned (.tuple #[.int .i64 1, .slice none 0 0, .slice none 0 0, .int .i64 0])) ∨
      ∃ st1 st2 a1 p1 a2 p2, violB c.hyp c.goal st1 st2 = true ∧ Ints w' (.slice a1 st1.length p1) st1 ∧ Ints w' (.slice a2 st2.length p2) st2 ∧ r = .returned (.tuple #[.int .i64 2, .slice a1 st1.length p1, .slice a2 st2.length p2, .int .i64 0])) ∧ Ext w w' :=
  (Decide_any c cells cv kv w hc hC hM (by omega) (fun _ _ => hs)).mono fun r w' h => by
    obtain ⟨h1, hx⟩ := dec_form f1 f2 h
    refine ⟨?_, hx⟩
    rcases h1 with h1 | ⟨st1, st2, v1, v2, h1, h2, h3, rfl⟩
    · exact .inl h1
    · obtain ⟨a1, p1, rfl⟩ := SliceAt.shape h2
      obtain ⟨a2, p2, rfl⟩ := SliceAt.shape h3
      exact .inr ⟨st1, st2, a1, p1, a2, p2, h1, h2, h3, rfl⟩
theorem Parts_s {cells : List CellD} {c : CondS} (S : Sm cells c) (v : Value) (w : World) (hv : CondV w v c) :
    Calls Tryz.prog 16 #[v] w fun r w' => (∃ a1 p1 a2 l2 p2, r = .returned (.tuple #[.slice a1 (cP cells c.hyp c.goal).length p1, .slice a2 l2 p2, .bool (stepB cells c.hyp c.goal)]) ∧ Ints w' (.slice a1 (cP cells c.hyp c.goal).length p1) (cP cells c.hyp c.goal)) ∧ Ext w w' := by
  refine (RParts_any c v w hv).mono ?_
  rintro r w' ⟨⟨v1, v2, rfl, h1, h2⟩, x1⟩
  obtain ⟨e1, _, e3⟩ := parts_eq S.f1 S.f2
  rw [e1] at h1
  rw [e3]
  obtain ⟨a1, p1, rfl⟩ := SliceAt.shape h1
  obtain ⟨a2, p2, rfl⟩ := SliceAt.shape h2
  exact ⟨⟨a1, p1, a2, _, p2, rfl, h1⟩, x1⟩
end Go.Proofs.YtlcgbdjmlnjhcaaGreatDoor
