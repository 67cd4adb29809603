/-
  The walk of the function that Subst hands to rebuild.
  The walk of Subst.
  The walk of Subst.
-/
import Derived.Test.YtdancokndklpnaaDoorMReb
import Derived.Test.YtdancokndklpnaaDoorMSup
namespace Go.Proofs.YtdancokndklpnaaDoor
open Go.RowKit

/-- What Subst puts in a leaf's place: 'to' gives the assigned expression of a cell. -/
def substLeaf (to : Nat → Option E) (x : E) : E :=
  if x.op = 2 then match to x.n.toNat with | some t => if t.wd = x.wd ∧ t.wf = true then t else x.bare | none => x.bare else x.bare
/-- The leaf may be replaced, or stays. -/
def substOk (to : Nat → Option E) (x : E) : Bool :=
  if x.op = 2 then match to x.n.toNat with | some t => decide (t.wd = x.wd) && t.wf | none => true else true

def SubInv (G : Nat) (to : Nat → Option E) (w : World) (acc : List E) : Prop := w.cell? ⟨G, 0, none⟩ = some (.bool (acc.all (substOk to))) ∧ w.frozen? ⟨G, 0, none⟩ = false
theorem SubInv.below {G M : Nat} {to : Nat → Option E} {w w' : World} {acc : List E} (h : SubInv G to w acc) (hG : G < M) (hb : Below M w w') : SubInv G to w' acc :=
  ⟨by rw [hb.cell (p := ⟨G, 0, none⟩) hG]; exact h.1, by rw [hb.frozen (p := ⟨G, 0, none⟩) hG]; exact h.2⟩

/-- What the closure finds: the marks, and the assigned expressions. -/
def SubEnv (w0 : World) (A B : Nat) (to : Nat → Option E) : Prop := BoolsAt w0 A (fun j => (to j).isSome) ∧ ∀ (j : Nat) (t : E), j < 32 → to j = some t → IsE w0 B (j * 4) t

theorem SubInv.snoc {G : Nat} {to : Nat → Option E} {w w' : World} {acc : List E} {x : E} (h : SubInv G to w acc) (ho : substOk to x = true) (hx : Ext w w') : SubInv G to w' (acc ++ [x]) :=
  ⟨by rw [List.all_append]; simp only [List.all_cons, List.all_nil, ho, Bool.and_true]; exact hx.cell h.1, by rw [hx.frozenEq (block_lt h.1)]; exact h.2⟩

/-- The end where the leaf may not be replaced. -/
theorem subst_bad {G : Nat} {to : Nat → Option E} {w wb w2 : World} {acc : List E} {x : E} {a b c d : Value} (hgr : w.grownBy wb (some G)) (hc : wb.cell? ⟨G, 0, none⟩ = some (.bool false)) (hf : wb.frozen? ⟨G, 0, none⟩ = false) (hx : Ext wb w2) (hG : G < w.heap.size) (ho : substOk to x = false) :
    w.grownBy (put4 w2 w.heap.size 0 a b c d) (some G) ∧ SubInv G to (put4 w2 w.heap.size 0 a b c d) (acc ++ [x]) := by
  have hGb : G < wb.heap.size := block_lt hc
  have hb2 : Below w.heap.size w2 (put4 w2 w.heap.size 0 a b c d) := below_put4 (Nat.le_refl _)
  refine ⟨grownBy_put4 (grownBy_trans hgr (hx.grownBy _)) (Nat.le_refl _), ?_, ?_⟩
  · rw [hb2.cell (p := ⟨G, 0, none⟩) hG, hx.cell hc, List.all_append]; simp [ho]
  · rw [hb2.frozen (p := ⟨G, 0, none⟩) hG, hx.frozenEq (p := ⟨G, 0, none⟩) hGb]; exact hf

set_option maxHeartbeats 2000000 in
theorem Subst1_any (w0 : World) (A B G : Nat) (to : Nat → Option E) (hG : w0.heap.size ≤ G) (hEnv : SubEnv w0 A B to) (hM : Masks w0) (x : E) (w : World) (b o : Nat) (acc : List E) (hs : shapedW x.op x.wd x.n [] = true) (hE : IsE w0 b o x) (hx : Ext w0 w) (hI : SubInv G to w acc) :
    Calls Tryd.prog 39 #[.pointer (some ⟨b, o, none⟩), .pointer (some ⟨A, 0, none⟩), .pointer (some ⟨B, 0, none⟩), .pointer (some ⟨G, 0, none⟩)] w fun r w' => (∃ v, r = .returned v ∧ EValB w.heap.size w' v (substLeaf to x)) ∧ w.grownBy w' (some G) ∧ SubInv G to w' (acc ++ [x]) := by
  obtain ⟨h0, h1, h2, kv, h3, hk⟩ := (hE.ext hx).cells
  obtain ⟨op, wd, n, ks⟩ := x
  simp only [E.op_mk, E.wd_mk, E.n_mk, E.kids_mk] at h0 h1 h2 hk hs
  obtain ⟨hop, hn0, hn32⟩ := shapedW_leaf hs
  have hbs : b < w.heap.size := block_lt h0
  have hGs : G < w.heap.size := block_lt hI.1
  clear hk h3
  have HX := Lib.hid hx; have HI := Lib.hid hI
  have hEE := hE.ext hx
  clear hx hI
  obtain ⟨m, rfl⟩ := Int.eq_ofNat_of_zero_le hn0
  by_cases c1 : op = 2
  · subst c1
    have hm : m < 32 := by have := hn32 (by decide); omega
    have k1 := (hEnv.1.ext HX.out).cell m hm
    cases ht : to m with
    | none =>
      rw [ht] at k1
      have HO : Hid (substOk to (.mk 2 wd m ks) = true) := by simp [Hid, substOk, ht]
      have HL : Hid (substLeaf to (.mk 2 wd m ks) = .mk 2 wd m []) := by simp [Hid, substLeaf, ht, E.bare]
      have hAs : A < w.heap.size := block_lt k1
      clear ht
      simp only [Option.isSome_none] at k1
      go_enter Tryd.func39, Tryd.ntmps39
      go_wp2_with fail
      refine (same_any _ _ b o (hEE.ext ((Ext.refl w).alloc _))).mono ?_
      rintro r w1 ⟨rfl, hx1⟩
      simp only [E.op_mk, E.wd_mk, E.n_mk]
      have hR : w1.heap[w.heap.size]? = some (.cells #[.int .i64 0, .int .i64 0, .int .i64 0, .slice none 0 0] 24 (0, 0)) := by
        rw [hx1.block w.heap.size (by simp)]; exact heap_new _ _
      obtain ⟨c0, c1, c2, c3, f0, f1, f2, f3⟩ := cells_of_block hR
      have hxw : Ext w w1 := ((Ext.refl w).alloc _).trans hx1
      have HB := Lib.hid (put4_new (x := .int .i64 2) (y := .int .i64 wd) (z := .int .i64 m) (u := .slice none 0 0) hR)
      have hxz : Ext w (put4 w1 w.heap.size 0 (.int .i64 2) (.int .i64 wd) (.int .i64 m) (.slice none 0 0)) := Below.trans hxw (below_put4 (Nat.le_refl _))
      have HZ := Lib.hid hxz
      clear hx1 hR hxw hxz
      go_wp2_with fail
      exact bodyPost_ret (v := .agg #[.int .i64 2, .int .i64 wd, .int .i64 m, .slice none 0 0]) (results_cell_row Tryd.results39 _ _ w.heap.size 24 _ (0, 0) _ rfl HB.out Tryd.underlying24 rfl sizeExpr) rfl
        ⟨⟨_, rfl, by rw [HL.out]; exact ⟨_, rfl, kidsB_nil _ _⟩⟩, HZ.out.grownBy _, HI.out.snoc HO.out HZ.out⟩
    | some t =>
      rw [ht] at k1
      simp only [Option.isSome_some] at k1
      have hAs : A < w.heap.size := block_lt k1
      have hT := (hEnv.2 m t hm ht).ext HX.out
      obtain ⟨t0, t1, t2, tk, t3, htk⟩ := hT.cells
      obtain ⟨ta, tc, rfl⟩ := SliceAt.shape htk
      have hBs : B < w.heap.size := block_lt t0
      have HTV : Hid (EVal w (.agg #[.int .i64 t.op, .int .i64 t.wd, .int .i64 t.n, .slice ta t.kids.length tc]) t) := ⟨_, rfl, htk⟩
      have HT := Lib.hid ht
      clear ht htk hT
      generalize t.kids.length = tl at *
      by_cases cw : t.wd = wd
      · have hbw : ((t.wd : Int) != wd) = false := by rw [cw]; simp
        have HC := Lib.hid cw
        clear cw
        cases hwf : t.wf with
        | true =>
          have HWf := Lib.hid hwf
          have HO : Hid (substOk to (.mk 2 wd m ks) = true) := by simp [Hid, substOk, HT.out, HC.out, HWf.out]
          have HL : Hid (substLeaf to (.mk 2 wd m ks) = t) := by simp [Hid, substLeaf, HT.out, HC.out, HWf.out]
          clear hwf
          have HA : Hid (Ext w (w.alloc (.cells #[.int .i64 0, .int .i64 0, .int .i64 0, .slice none 0 0] 24))) := (Ext.refl w).alloc _
          have hms : (0 : Int) ≤ (m : Int) := by omega
          have hms2 : (m : Int) < 32 := by omega
          have i1 := HI.out.1
          have i2 := HI.out.2
          go_enter Tryd.func39, Tryd.ntmps39
          go_wp2_with fail
          go_region_held3 (fun w' => w'.cell? ⟨b, o + 1, none⟩ = some (.int .i64 wd) ∧ w'.cell? ⟨b, o + 2, none⟩ = some (.int .i64 m) ∧ w'.cell? ⟨B, m * 4, none⟩ = some (.int .i64 t.op) ∧ w'.cell? ⟨B, m * 4 + 1, none⟩ = some (.int .i64 t.wd) ∧ w'.cell? ⟨B, m * 4 + 2, none⟩ = some (.int .i64 t.n) ∧ w'.cell? ⟨B, m * 4 + 3, none⟩ = some (.slice ta tl tc))
            (first | exact ⟨HA.out.cell h1, HA.out.cell h2, HA.out.cell t0, HA.out.cell t1, HA.out.cell t2, HA.out.cell t3⟩ | exact ⟨(HA.out.drew.trans ‹Ext _ _›).cell h1, (HA.out.drew.trans ‹Ext _ _›).cell h2, (HA.out.drew.trans ‹Ext _ _›).cell t0, (HA.out.drew.trans ‹Ext _ _›).cell t1, (HA.out.drew.trans ‹Ext _ _›).cell t2, (HA.out.drew.trans ‹Ext _ _›).cell t3⟩)
            ((go_at_call 36; refine (wellFormed_any t _ _ (HTV.out.ext HA.out.drew) ((hM.ext HX.out).ext HA.out.drew)).mono ?_; rintro r w1 ⟨rfl, hx1⟩))
          rw [HWf.out]
          have hxw : Ext w w1 := HA.out.drew.trans hx1
          have hR1 : w1.heap[w.heap.size]? = some (.cells #[.int .i64 0, .int .i64 0, .int .i64 0, .slice none 0 0] 24 (0, 0)) := by
            rw [hx1.block w.heap.size (by simp)]; exact heap_new w _
          have hs1 : w.heap.size < w1.heap.size := by have := hx1.size; simp at this; omega
          have HX1 := Lib.hid hxw; have HR1 := Lib.hid hR1
          clear hx1 hxw hR1
          have g2 := HX1.out.cell h2
          have u0 := HX1.out.cell t0
          have u1 := HX1.out.cell t1
          have u2 := HX1.out.cell t2
          have u3 := HX1.out.cell t3
          go_wp2_with fail
          refine (clone_any t _ _ (HTV.out.ext HX1.out) (by have := wf_size HWf.out; omega)).mono ?_
          rintro r w2 ⟨⟨v2, rfl, hv2⟩, hx2⟩
          obtain ⟨ka, kn, kc, rfl, hkv⟩ := hv2.shape
          have hR : w2.heap[w.heap.size]? = some (.cells #[.int .i64 0, .int .i64 0, .int .i64 0, .slice none 0 0] 24 (0, 0)) := by
            rw [hx2.block w.heap.size hs1]; exact HR1.out
          obtain ⟨c0, c1, c2, c3, f0, f1, f2, f3⟩ := cells_of_block hR
          have hkv' : KidsB (w.heap.size + 1) w2 (.slice ka kn kc) t.kids := hkv.mono (by omega)
          have HK := Lib.hid ((hkv'.keep (w' := put4 w2 w.heap.size 0 (.int .i64 t.op) (.int .i64 t.wd) (.int .i64 t.n) (.slice ka kn kc)) (fun q hq _ => put4_heap q (by omega))).mono (Nat.le_succ _))
          have HB := Lib.hid (put4_new (x := .int .i64 t.op) (y := .int .i64 t.wd) (z := .int .i64 t.n) (u := .slice ka kn kc) hR)
          have hxz : Ext w (put4 w2 w.heap.size 0 (.int .i64 t.op) (.int .i64 t.wd) (.int .i64 t.n) (.slice ka kn kc)) := Below.trans (HX1.out.trans hx2) (below_put4 (Nat.le_refl _))
          have HZ := Lib.hid hxz
          clear hx2 hR hxz hkv hkv' hv2
          go_wp2_with fail
          exact bodyPost_ret (v := .agg #[.int .i64 t.op, .int .i64 t.wd, .int .i64 t.n, .slice ka kn kc]) (results_cell_row Tryd.results39 _ _ w.heap.size 24 _ (0, 0) _ rfl HB.out Tryd.underlying24 rfl sizeExpr) rfl
            ⟨⟨_, rfl, by rw [HL.out]; exact ⟨_, rfl, HK.out⟩⟩, HZ.out.grownBy _, HI.out.snoc HO.out HZ.out⟩
        | false =>
          have HWf := Lib.hid hwf
          have HO : Hid (substOk to (.mk 2 wd m ks) = false) := by simp [Hid, substOk, HT.out, HC.out, HWf.out]
          have HL : Hid (substLeaf to (.mk 2 wd m ks) = .mk 2 wd m []) := by simp [Hid, substLeaf, HT.out, HC.out, HWf.out, E.bare]
          clear hwf
          have HA : Hid (Ext w (w.alloc (.cells #[.int .i64 0, .int .i64 0, .int .i64 0, .slice none 0 0] 24))) := (Ext.refl w).alloc _
          have hms : (0 : Int) ≤ (m : Int) := by omega
          have hms2 : (m : Int) < 32 := by omega
          have i1 := HI.out.1
          have i2 := HI.out.2
          go_enter Tryd.func39, Tryd.ntmps39
          go_wp2_with fail
          go_region_held3 (fun w' => w'.cell? ⟨b, o + 1, none⟩ = some (.int .i64 wd) ∧ w'.cell? ⟨b, o + 2, none⟩ = some (.int .i64 m) ∧ w'.cell? ⟨B, m * 4, none⟩ = some (.int .i64 t.op) ∧ w'.cell? ⟨B, m * 4 + 1, none⟩ = some (.int .i64 t.wd) ∧ w'.cell? ⟨B, m * 4 + 2, none⟩ = some (.int .i64 t.n) ∧ w'.cell? ⟨B, m * 4 + 3, none⟩ = some (.slice ta tl tc))
            (first | exact ⟨HA.out.cell h1, HA.out.cell h2, HA.out.cell t0, HA.out.cell t1, HA.out.cell t2, HA.out.cell t3⟩ | exact ⟨(HA.out.drew.trans ‹Ext _ _›).cell h1, (HA.out.drew.trans ‹Ext _ _›).cell h2, (HA.out.drew.trans ‹Ext _ _›).cell t0, (HA.out.drew.trans ‹Ext _ _›).cell t1, (HA.out.drew.trans ‹Ext _ _›).cell t2, (HA.out.drew.trans ‹Ext _ _›).cell t3⟩)
            ((go_at_call 36; refine (wellFormed_any t _ _ (HTV.out.ext HA.out.drew) ((hM.ext HX.out).ext HA.out.drew)).mono ?_; rintro r w1 ⟨rfl, hx1⟩))
          rw [HWf.out]
          have hxw : Ext w w1 := HA.out.drew.trans hx1
          have hR1 : w1.heap[w.heap.size]? = some (.cells #[.int .i64 0, .int .i64 0, .int .i64 0, .slice none 0 0] 24 (0, 0)) := by
            rw [hx1.block w.heap.size (by simp)]; exact heap_new w _
          have hs1 : w.heap.size < w1.heap.size := by have := hx1.size; simp at this; omega
          have HX1 := Lib.hid hxw; have HR1 := Lib.hid hR1
          clear hx1 hxw hR1
          have j1 := HX1.out.cell i1
          have j2 : w1.frozen? ⟨G, 0, none⟩ = false := (Ext.frozenEq HX1.out (p := ⟨G, 0, none⟩) hGs).trans i2
          go_wp2_with fail
          generalize hwb : World.setCell _ _ _ = wb
          have hgr : w.grownBy wb (some G) := by
            rw [← hwb]
            exact ⟨HX1.out.os, HX1.out.tape, HX1.out.output, by simp [World.setCell]; exact HX1.out.size, fun k hk hne => by rw [Below.heap_setCell _ _ _ _ (fun e => hne (by rw [e]))]; exact HX1.out.block k hk⟩
          have hcb : wb.cell? ⟨G, 0, none⟩ = some (.bool false) := by rw [← hwb]; exact World.cell?_setCell_same _ _ _ (HX1.out.cell i1)
          have hfb : wb.frozen? ⟨G, 0, none⟩ = false := by rw [← hwb, World.frozen?_setCell]; exact (Ext.frozenEq HX1.out (p := ⟨G, 0, none⟩) hGs).trans i2
          have hxb : Ext w0 wb := HX.out.grown hgr (fun k hk => by cases hk; exact hG)
          have hRb : wb.heap[w.heap.size]? = some (.cells #[.int .i64 0, .int .i64 0, .int .i64 0, .slice none 0 0] 24 (0, 0)) := by
            rw [← hwb, Below.heap_setCell _ _ _ _ (by simp; omega)]; exact HR1.out
          clear hwb
          refine (same_any _ _ b o (hE.ext hxb)).mono ?_
          rintro r w2 ⟨rfl, hx2⟩
          simp only [E.op_mk, E.wd_mk, E.n_mk]
          have hRs : w.heap.size < wb.heap.size := by
            rcases Nat.lt_or_ge w.heap.size wb.heap.size with h | h
            · exact h
            · rw [Array.getElem?_eq_none_iff.2 h] at hRb; cases hRb
          have hR : w2.heap[w.heap.size]? = some (.cells #[.int .i64 0, .int .i64 0, .int .i64 0, .slice none 0 0] 24 (0, 0)) := by
            rw [hx2.block w.heap.size hRs]; exact hRb
          obtain ⟨c0, c1, c2, c3, f0, f1, f2, f3⟩ := cells_of_block hR
          have HB := Lib.hid (put4_new (x := .int .i64 2) (y := .int .i64 wd) (z := .int .i64 m) (u := .slice none 0 0) hR)
          have HZ := Lib.hid (subst_bad (to := to) (acc := acc) (a := .int .i64 2) (b := .int .i64 wd) (c := .int .i64 m) (d := .slice none 0 0) hgr hcb hfb hx2 hGs HO.out)
          clear hgr hcb hfb hxb hRb hx2 hRs hR
          go_wp2_with fail
          exact bodyPost_ret (v := .agg #[.int .i64 2, .int .i64 wd, .int .i64 m, .slice none 0 0]) (results_cell_row Tryd.results39 _ _ w.heap.size 24 _ (0, 0) _ rfl HB.out Tryd.underlying24 rfl sizeExpr) rfl
            ⟨⟨_, rfl, by rw [HL.out]; exact ⟨_, rfl, kidsB_nil _ _⟩⟩, HZ.out.1, HZ.out.2⟩
      · have hbw : ((t.wd : Int) != wd) = true := by rw [bne_iff_ne]; exact cw
        have HO : Hid (substOk to (.mk 2 wd m ks) = false) := by simp [Hid, substOk, HT.out, cw]
        have HL : Hid (substLeaf to (.mk 2 wd m ks) = .mk 2 wd m []) := by simp [Hid, substLeaf, HT.out, cw, E.bare]
        clear cw
        have i1 := HI.out.1
        have i2 := HI.out.2
        go_enter Tryd.func39, Tryd.ntmps39
        go_wp2_with fail
        go_quiet (fail)
        go_wp2_with fail
        generalize hwb : World.setCell _ _ _ = wb
        have hgr : w.grownBy wb (some G) := by
          rw [← hwb]
          exact ⟨rfl, rfl, rfl, by simp [World.setCell, World.drewN], fun k hk hne => by rw [Below.heap_setCell _ _ _ _ (fun e => hne (by rw [e]))]; exact Below.heap_alloc w _ k hk⟩
        have hcb : wb.cell? ⟨G, 0, none⟩ = some (.bool false) := by rw [← hwb]; exact World.cell?_setCell_same _ _ _ (show ((w.alloc _).drewN _).cell? _ = some _ from Ext.cell (((Ext.refl w).alloc _).drewN _) i1)
        have hfb : wb.frozen? ⟨G, 0, none⟩ = false := by rw [← hwb, World.frozen?_setCell]; exact (Ext.frozenEq (((Ext.refl w).alloc _).drewN _) (p := ⟨G, 0, none⟩) hGs).trans i2
        have hxb : Ext w0 wb := HX.out.grown hgr (fun k hk => by cases hk; exact hG)
        have hRb : wb.heap[w.heap.size]? = some (.cells #[.int .i64 0, .int .i64 0, .int .i64 0, .slice none 0 0] 24 (0, 0)) := by
          rw [← hwb, Below.heap_setCell _ _ _ _ (by simp; omega)]; exact heap_new w _
        clear hwb
        refine (same_any _ _ b o (hE.ext hxb)).mono ?_
        rintro r w2 ⟨rfl, hx2⟩
        simp only [E.op_mk, E.wd_mk, E.n_mk]
        have hRs : w.heap.size < wb.heap.size := by
          rcases Nat.lt_or_ge w.heap.size wb.heap.size with h | h
          · exact h
          · rw [Array.getElem?_eq_none_iff.2 h] at hRb; cases hRb
        have hR : w2.heap[w.heap.size]? = some (.cells #[.int .i64 0, .int .i64 0, .int .i64 0, .slice none 0 0] 24 (0, 0)) := by
          rw [hx2.block w.heap.size hRs]; exact hRb
        obtain ⟨c0, c1, c2, c3, f0, f1, f2, f3⟩ := cells_of_block hR
        have HB := Lib.hid (put4_new (x := .int .i64 2) (y := .int .i64 wd) (z := .int .i64 m) (u := .slice none 0 0) hR)
        have HZ := Lib.hid (subst_bad (to := to) (acc := acc) (a := .int .i64 2) (b := .int .i64 wd) (c := .int .i64 m) (d := .slice none 0 0) hgr hcb hfb hx2 hGs HO.out)
        clear hgr hcb hfb hxb hRb hx2 hRs hR
        go_wp2_with fail
        exact bodyPost_ret (v := .agg #[.int .i64 2, .int .i64 wd, .int .i64 m, .slice none 0 0]) (results_cell_row Tryd.results39 _ _ w.heap.size 24 _ (0, 0) _ rfl HB.out Tryd.underlying24 rfl sizeExpr) rfl
          ⟨⟨_, rfl, by rw [HL.out]; exact ⟨_, rfl, kidsB_nil _ _⟩⟩, HZ.out.1, HZ.out.2⟩
  · have hb1 : ((op : Int) != 2) = true := by rw [bne_iff_ne]; exact c1
    have HO : Hid (substOk to (.mk op wd m ks) = true) := by simp [Hid, substOk, c1]
    have HL : Hid (substLeaf to (.mk op wd m ks) = .mk op wd m []) := by simp [Hid, substLeaf, c1, E.bare]
    clear c1
    go_enter Tryd.func39, Tryd.ntmps39
    go_wp2_with fail
    refine (same_any _ _ b o (hEE.ext ((Ext.refl w).alloc _))).mono ?_
    rintro r w1 ⟨rfl, hx1⟩
    simp only [E.op_mk, E.wd_mk, E.n_mk]
    have hR : w1.heap[w.heap.size]? = some (.cells #[.int .i64 0, .int .i64 0, .int .i64 0, .slice none 0 0] 24 (0, 0)) := by
      rw [hx1.block w.heap.size (by simp)]; exact heap_new _ _
    obtain ⟨c0, c1, c2, c3, f0, f1, f2, f3⟩ := cells_of_block hR
    have hxw : Ext w w1 := ((Ext.refl w).alloc _).trans hx1
    have HB := Lib.hid (put4_new (x := .int .i64 op) (y := .int .i64 wd) (z := .int .i64 m) (u := .slice none 0 0) hR)
    have hxz : Ext w (put4 w1 w.heap.size 0 (.int .i64 op) (.int .i64 wd) (.int .i64 m) (.slice none 0 0)) := Below.trans hxw (below_put4 (Nat.le_refl _))
    have HZ := Lib.hid hxz
    clear hx1 hR hxw hxz
    go_wp2_with fail
    exact bodyPost_ret (v := .agg #[.int .i64 op, .int .i64 wd, .int .i64 m, .slice none 0 0]) (results_cell_row Tryd.results39 _ _ w.heap.size 24 _ (0, 0) _ rfl HB.out Tryd.underlying24 rfl sizeExpr) rfl
      ⟨⟨_, rfl, by rw [HL.out]; exact ⟨_, rfl, kidsB_nil _ _⟩⟩, HZ.out.grownBy _, HI.out.snoc HO.out HZ.out⟩
end Go.Proofs.YtdancokndklpnaaDoor
namespace Go.Proofs.YtdancokndklpnaaDoor
open Go.RowKit

/-- An assignment in memory. -/
def AssignAt (w : World) (b o : Nat) (a : Int × E) : Prop := w.cell? ⟨b, o, none⟩ = some (.int .i64 a.1) ∧ IsE w b (o + 1) a.2
theorem AssignAt.keeps : Keeps AssignAt := fun _ _ _ _ _ he h => ⟨he.cell h.1, h.2.ext he⟩
def Assigns (w : World) (v : Value) (l : List (Int × E)) : Prop := SliceAt 5 AssignAt w v l
theorem Assigns.ext {w w' : World} {v : Value} {l : List (Int × E)} (h : Assigns w v l) (he : Ext w w') : Assigns w' v l := SliceAt.ext AssignAt.keeps h he

/-- The first expression that is assigned to a cell. -/
def toS (l : List (Int × E)) (j : Nat) : Option E := (l.find? fun a => decide (a.1 = (j : Int))).map (·.2)
theorem toS_skip {l : List (Int × E)} {a : Int × E} (h : a.1 < 0 ∨ 32 ≤ a.1 ∨ (toS l a.1.toNat).isSome = true) (j : Nat) (hj : j < 32) : toS (l ++ [a]) j = toS l j := by
  simp only [toS, List.find?_append]
  cases hf : l.find? (fun a => decide (a.1 = (j : Int))) with
  | some x => simp
  | none =>
    have hne : ¬ a.1 = (j : Int) := by
      intro e
      rcases h with h | h | h
      · omega
      · omega
      · rw [e, Int.toNat_natCast] at h; simp [toS, hf] at h
    simp [hne]
theorem toS_new {l : List (Int × E)} {a : Int × E} {c : Nat} (h : a.1 = (c : Int)) (hn : toS l c = none) (j : Nat) : toS (l ++ [a]) j = if j = c then some a.2 else toS l j := by
  simp only [toS, List.find?_append]
  by_cases e : j = c
  · subst e
    have : l.find? (fun a => decide (a.1 = (j : Int))) = none := by simpa [toS] using hn
    simp [this, h]
  · have hne : ¬ a.1 = (j : Int) := by omega
    simp [hne, e]

theorem BoolsAt.congr32 {w : World} {A : Nat} {f g : Nat → Bool} (h : BoolsAt w A f) (e : ∀ j, j < 32 → f j = g j) : BoolsAt w A g := by
  have : bools f = bools g := by
    unfold bools; congr 1
    exact List.map_congr_left fun j hj => by rw [e j (by simpa using hj)]
  unfold BoolsAt at *; rw [← this]; exact h

/-- The variable 'to': the assigned expressions, their kids where they were. -/
def ToAt (w1 w : World) (B : Nat) (to : Nat → Option E) : Prop :=
  (∃ cur : Array Value, w.heap[B]? = some (.cells cur 66 (0, 0)) ∧ cur.size = 128) ∧
    ∀ (j : Nat) (t : E), j < 32 → to j = some t → ∃ kv, w.cell? ⟨B, j * 4, none⟩ = some (.int .i64 t.op) ∧ w.cell? ⟨B, j * 4 + 1, none⟩ = some (.int .i64 t.wd) ∧ w.cell? ⟨B, j * 4 + 2, none⟩ = some (.int .i64 t.n) ∧ w.cell? ⟨B, j * 4 + 3, none⟩ = some kv ∧ Kids w1 kv t.kids
theorem ToAt.lt {w1 w : World} {B : Nat} {to : Nat → Option E} (h : ToAt w1 w B to) : B < w.heap.size := by
  obtain ⟨⟨cur, hc, _⟩, _⟩ := h
  rcases Nat.lt_or_ge B w.heap.size with h' | h'
  · exact h'
  · rw [Array.getElem?_eq_none_iff.2 h'] at hc; cases hc
theorem ToAt.ext {w1 w w' : World} {B : Nat} {to : Nat → Option E} (h : ToAt w1 w B to) (hx : Ext w w') : ToAt w1 w' B to := by
  have hl := h.lt
  obtain ⟨⟨cur, hc, hs⟩, h2⟩ := h
  refine ⟨⟨cur, by rw [hx.block B hl]; exact hc, hs⟩, fun j t hj ht => ?_⟩
  obtain ⟨kv, c0, c1, c2, c3, hk⟩ := h2 j t hj ht
  exact ⟨kv, hx.cell c0, hx.cell c1, hx.cell c2, hx.cell c3, hk⟩
theorem ToAt.congr {w1 w : World} {B : Nat} {f g : Nat → Option E} (h : ToAt w1 w B f) (e : ∀ j, j < 32 → f j = g j) : ToAt w1 w B g := ⟨h.1, fun j t hj ht => h.2 j t hj ((e j hj).trans ht)⟩
theorem ToAt.other {w1 w : World} {B A n : Nat} {v : Value} {to : Nat → Option E} (h : ToAt w1 w B to) (hAB : B ≠ A) : ToAt w1 (w.setCell ⟨A, n, none⟩ v) B to := by
  obtain ⟨⟨cur, hc, hs⟩, h2⟩ := h
  have hb : (w.setCell ⟨A, n, none⟩ v).heap[B]? = w.heap[B]? := Below.heap_setCell _ _ _ _ hAB
  refine ⟨⟨cur, by rw [hb]; exact hc, hs⟩, fun j t hj ht => ?_⟩
  obtain ⟨kv, c0, c1, c2, c3, hk⟩ := h2 j t hj ht
  exact ⟨kv, by rw [World.cell?_of_block hb]; exact c0, by rw [World.cell?_of_block hb]; exact c1, by rw [World.cell?_of_block hb]; exact c2, by rw [World.cell?_of_block hb]; exact c3, hk⟩
theorem ToAt.cell {w1 w : World} {B : Nat} {to : Nat → Option E} (h : ToAt w1 w B to) (j : Nat) (hj : j < 128) : (∃ v, w.cell? ⟨B, j, none⟩ = some v) ∧ w.frozen? ⟨B, j, none⟩ = false := by
  obtain ⟨⟨cur, hc, hs⟩, _⟩ := h
  refine ⟨⟨cur[j]'(by omega), ?_⟩, ?_⟩
  · simp [World.cell?, hc, Array.getElem?_eq_getElem (show j < cur.size by omega)]
  · simp [World.frozen?, hc]
theorem ToAt.put {w1 w : World} {B c : Nat} {to : Nat → Option E} {t : E} {kv : Value} (h : ToAt w1 w B to) (hc : c < 32) (hk : Kids w1 kv t.kids) :
    ToAt w1 (put4 w B (c * 4) (.int .i64 t.op) (.int .i64 t.wd) (.int .i64 t.n) kv) B (fun j => if j = c then some t else to j) := by
  have hcell := h.cell
  obtain ⟨⟨cur, hcur, hs⟩, h2⟩ := h
  refine ⟨?_, fun j u hj hu => ?_⟩
  · obtain ⟨cur', h1, h2⟩ := put4_block (o := c * 4) (a := .int .i64 t.op) (b := .int .i64 t.wd) (c := .int .i64 t.n) (d := kv) hcur
    exact ⟨cur', h1, by omega⟩
  · by_cases e : j = c
    · subst e
      simp only [if_pos] at hu
      cases hu
      obtain ⟨g0, g1, g2, g3⟩ := put4_here (w := w) (KB := B) (o := j * 4) (a := .int .i64 t.op) (b := .int .i64 t.wd) (c := .int .i64 t.n) (d := kv) (fun i hi => (hcell (j * 4 + i) (by omega)).1)
      exact ⟨kv, g0, g1, g2, g3, hk⟩
    · simp only [if_neg e] at hu
      obtain ⟨kv', c0, c1, c2, c3, hk'⟩ := h2 j u hj hu
      exact ⟨kv', by rw [put4_other _ (.inr (by simp; omega))]; exact c0, by rw [put4_other _ (.inr (by simp; omega))]; exact c1, by rw [put4_other _ (.inr (by simp; omega))]; exact c2, by rw [put4_other _ (.inr (by simp; omega))]; exact c3, hk'⟩
theorem ToAt.env {w1 w : World} {A B : Nat} {to : Nat → Option E} (h : ToAt w1 w B to) (hx : Ext w1 w) (hb : BoolsAt w A (fun j => (to j).isSome)) : SubEnv w A B to := by
  refine ⟨hb, fun j t hj ht => ?_⟩
  obtain ⟨kv, c0, c1, c2, c3, hk⟩ := h.2 j t hj ht
  exact IsE.of_cells c0 c1 c2 c3 (hk.ext hx)

/-- What holds when Subst has come through k assignments; A, B: its two variables. -/
def SLoop (w1 : World) (A B : Nat) (set : List (Int × E)) (k : Nat) (wr : World) : Prop :=
  Ext w1 wr ∧ BoolsAt wr A (fun j => (toS (set.take k) j).isSome) ∧ ToAt w1 wr B (toS (set.take k))
theorem SLoop.skip {w1 : World} {A B : Nat} {set : List (Int × E)} {k : Nat} {wr w' : World} (h : SLoop w1 A B set k wr) (hk : k < set.length) (hs : set[k].1 < 0 ∨ 32 ≤ set[k].1 ∨ (toS (set.take k) set[k].1.toNat).isSome = true) (hx : Ext wr w') : SLoop w1 A B set (k + 1) w' := by
  have e : ∀ j, j < 32 → toS (set.take k) j = toS (set.take (k + 1)) j := fun j hj => by rw [List.take_succ_eq_append_getElem hk]; exact (toS_skip hs j hj).symm
  exact ⟨h.1.trans hx, (h.2.1.ext hx).congr32 (fun j hj => by rw [e j hj]), (h.2.2.ext hx).congr e⟩
theorem SLoop.new {w1 : World} {A B c : Nat} {set : List (Int × E)} {k : Nat} {wr w' : World} {kv : Value} (h : SLoop w1 A B set k wr) (hA : w1.heap.size ≤ A) (hB : w1.heap.size ≤ B) (hAB : A ≠ B) (hk : k < set.length) (hc : set[k].1 = (c : Int)) (hc32 : c < 32) (hn : toS (set.take k) c = none) (hkv : Kids w1 kv set[k].2.kids)
    (hx : Ext (put4 (wr.setCell ⟨A, c, none⟩ (.bool true)) B (c * 4) (.int .i64 set[k].2.op) (.int .i64 set[k].2.wd) (.int .i64 set[k].2.n) kv) w') : SLoop w1 A B set (k + 1) w' := by
  have e : ∀ j, (if j = c then some set[k].2 else toS (set.take k) j) = toS (set.take (k + 1)) j := fun j => by rw [List.take_succ_eq_append_getElem hk]; exact (toS_new hc hn j).symm
  have hx1 : Ext w1 (put4 (wr.setCell ⟨A, c, none⟩ (.bool true)) B (c * 4) (.int .i64 set[k].2.op) (.int .i64 set[k].2.wd) (.int .i64 set[k].2.n) kv) := Below.trans (h.1.setCell hA _) (below_put4 hB)
  refine ⟨hx1.trans hx, ?_, ((h.2.2.other (Ne.symm hAB)).put hc32 hkv).ext hx |>.congr (fun j _ => e j)⟩
  have hb1 := h.2.1.set c
  have hb2 : BoolsAt (put4 (wr.setCell ⟨A, c, none⟩ (.bool true)) B (c * 4) (.int .i64 set[k].2.op) (.int .i64 set[k].2.wd) (.int .i64 set[k].2.n) kv) A (fun j => (toS (set.take k) j).isSome || decide (j = c)) := by
    unfold BoolsAt at hb1 ⊢; rw [put4_heap A hAB]; exact hb1
  refine (hb2.ext hx).congr (by funext j; rw [← e j]; by_cases hj : j = c <;> simp [hj])
end Go.Proofs.YtdancokndklpnaaDoor
namespace Go.Proofs.YtdancokndklpnaaDoor
open Go.RowKit

/-- Subst's answer. -/
def E.subst (e : E) (set : List (Int × E)) : E :=
  if e.wf = true ∧ e.leaves.all (substOk (toS set)) = true ∧ (e.rebuild (substLeaf (toS set))).wf = true then e.rebuild (substLeaf (toS set)) else .mk 0 0 0 []

set_option maxRecDepth 100000 in
set_option maxHeartbeats 2000000 in
theorem Subst_any (e : E) (v sv : Value) (set : List (Int × E)) (w : World) (he : EVal w v e) (hS : Assigns w sv set) (hM : Masks w) : Calls Tryd.prog 16 #[v, sv] w (NewE (e.subst set) w) := by
  obtain ⟨a, n, c, rfl, hk⟩ := he.shape
  have hE := IsE.box (w := w) (e := e) (t := 24) hk
  generalize hw0 : w.alloc (.cells #[.int .i64 e.op, .int .i64 e.wd, .int .i64 e.n, .slice a n c] 24) = w0 at hE
  have hx0 : Ext w w0 := by rw [← hw0]; exact (Ext.refl w).alloc _
  have hs0 : w0.heap.size = w.heap.size + 1 := by rw [← hw0]; simp
  have hv0 : EVal w0 (.agg #[.int .i64 e.op, .int .i64 e.wd, .int .i64 e.n, .slice a n c]) e := ⟨_, rfl, hk.ext hx0⟩
  have H0 := Lib.hid hw0; have HX0 := Lib.hid hx0; have HS0 := Lib.hid hs0; have HE := Lib.hid hE; have HV0 := Lib.hid hv0; have HM0 := Lib.hid (hM.ext hx0); have HA0 := Lib.hid (hS.ext hx0)
  clear hw0 hx0 hs0 hE hk hv0 hM hS
  obtain ⟨sa, sc, rfl⟩ := SliceAt.shape HA0.out
  cases hw : e.wf with
  | false =>
    have HW := Lib.hid hw; clear hw
    have HB : Hid (e.subst set = .mk 0 0 0 []) := by simp [Hid, E.subst, HW.out]
    go_enter Tryd.func16, Tryd.ntmps16
    go_wp2_with fail
    rw [H0.out]
    have e1 : w.heap.size + 1 = w0.heap.size := HS0.out.symm
    rw [e1]
    refine (wellFormed_any e _ _ (HV0.out.ext ((Ext.refl w0).alloc _)) (HM0.out.ext ((Ext.refl w0).alloc _))).mono ?_
    rintro r w1 ⟨rfl, hx1⟩
    rw [HW.out]
    have hR : w1.heap[w0.heap.size]? = some (.cells #[.int .i64 0, .int .i64 0, .int .i64 0, .slice none 0 0] 24 (0, 0)) := by
      rw [hx1.block w0.heap.size (by simp)]; exact heap_new _ _
    obtain ⟨c0, c1, c2, c3, f0, f1, f2, f3⟩ := cells_of_block hR
    have HZ : Hid (NewE (.mk 0 0 0 []) w (.returned (.agg #[.int .i64 0, .int .i64 0, .int .i64 0, .slice none 0 0])) (put4 w1 w0.heap.size 0 (.int .i64 0) (.int .i64 0) (.int .i64 0) (.slice none 0 0))) :=
      ⟨⟨_, rfl, _, rfl, kidsB_nil _ _⟩, Below.trans (HX0.out.trans (((Ext.refl w0).alloc _).trans hx1)) (below_put4 (by omega))⟩
    have HB2 := Lib.hid (put4_new (x := .int .i64 0) (y := .int .i64 0) (z := .int .i64 0) (u := .slice none 0 0) hR)
    clear hx1 hR e1
    go_wp2_with fail
    exact bodyPost_ret (v := .agg #[.int .i64 0, .int .i64 0, .int .i64 0, .slice none 0 0]) (results_cell_row Tryd.results16 _ _ w0.heap.size 24 _ (0, 0) _ rfl HB2.out Tryd.underlying24 rfl sizeExpr) rfl (by rw [HB.out]; exact HZ.out)
  | true =>
    have HW := Lib.hid hw; clear hw
    go_enter Tryd.func16, Tryd.ntmps16
    go_wp2_with fail
    rw [H0.out]
    have e1 : w.heap.size + 1 = w0.heap.size := HS0.out.symm
    rw [e1]
    refine (wellFormed_any e _ _ (HV0.out.ext ((Ext.refl w0).alloc _)) (HM0.out.ext ((Ext.refl w0).alloc _))).mono ?_
    rintro r w1 ⟨rfl, hx1⟩
    rw [HW.out]
    have hR : w1.heap[w0.heap.size]? = some (.cells #[.int .i64 0, .int .i64 0, .int .i64 0, .slice none 0 0] 24 (0, 0)) := by
      rw [hx1.block w0.heap.size (by simp)]; exact heap_new _ _
    have hx01 : Ext w0 w1 := ((Ext.refl w0).alloc _).trans hx1
    have hs01 : w0.heap.size < w1.heap.size := by have := hx1.size; simp at this; omega
    have HX1 := Lib.hid hx01; have HR := Lib.hid hR
    clear hx1 hR e1 hx01
    have hlen := SliceAt.len_le HA0.out
    go_wp2_with fail
    go_loopw [8, 17] (fun _ i wr => ∃ k : Nat, k ≤ set.length ∧ i = .int .i64 k ∧ SLoop w1 w1.heap.size (w1.heap.size + 1) set k wr) (fun _ i _ => set.length - (intOf i).toNat)
    case atStart =>
      rw [← bools_false]
      refine ⟨0, Nat.zero_le _, rfl, ((Ext.refl w1).alloc _).alloc _, ?_, ⟨⟨Tryd.zeroCells66, by simpa using heap_new (w1.alloc _) _, by kernel_rfl⟩, fun j t _ h => by simp [toS] at h⟩⟩
      exact BoolsAt.congr ((boolsNew w1 _).ext ((Ext.refl _).alloc _)) (by funext j; simp [toS])
    case round =>
      obtain ⟨k, hk, rfl, hl⟩ := hrel
      have HL := Lib.hid hl
      have hAs : w1.heap.size < wr.heap.size := hl.2.1.lt
      have hBs : w1.heap.size + 1 < wr.heap.size := hl.2.2.lt
      clear hl
      by_cases hlt : k < set.length
      · rcases HA0.out with ⟨_, e⟩ | ⟨b', o', cap', e, _, hA⟩
        · rw [e] at hlt; simp at hlt
        cases e
        obtain ⟨q0, qE⟩ := hA k hlt
        have hxr : Ext w0 wr := HX1.out.trans HL.out.1
        obtain ⟨p0, p1, p2, pv, p3, pk⟩ := qE.cells
        obtain ⟨pa, pc, rfl⟩ := SliceAt.shape pk
        have HPK := Lib.hid (pk.ext HX1.out)
        have g0 := hxr.cell q0
        have g1 := hxr.cell p0
        have g2 : wr.cell? ⟨b', o' + k * 5 + 2, none⟩ = _ := hxr.cell p1
        have g3 : wr.cell? ⟨b', o' + k * 5 + 3, none⟩ = _ := hxr.cell p2
        have g4 : wr.cell? ⟨b', o' + k * 5 + 4, none⟩ = _ := hxr.cell p3
        have hb's : b' < wr.heap.size := block_lt g0
        have HSK := fun w' => SLoop.skip (w' := w') HL.out hlt
        have HSN := fun w' c => SLoop.new (w' := w') (c := c) (kv := .slice pa set[k].2.kids.length pc) HL.out (Nat.le_refl _) (by omega) (by omega) hlt
        have HSK' := Lib.hid HSK; have HSN' := Lib.hid HSN
        have HTO := Lib.hid (HL.out.2.1)
        have HTC := Lib.hid (HL.out.2.2)
        clear hA q0 qE hxr p0 p1 p2 p3 pk HSK HSN
        generalize set[k].2.kids.length = pl at *
        generalize hck : set[k].1 = ck at *
        have HCK := Lib.hid hck; clear hck
        by_cases d0 : 0 ≤ ck
        · by_cases d1 : ck < 32
          · obtain ⟨cn, rfl⟩ := Int.eq_ofNat_of_zero_le d0
            have hcn : cn < 32 := by omega
            have k1 := HTO.out.cell cn hcn
            have hd0 : decide ((0 : Int) ≤ (cn : Int)) = true := by simp
            have hd1 : decide ((cn : Int) < 32) = true := by simpa using d1
            cases ht : toS (set.take k) cn with
            | some t =>
              have HS := Lib.hid (fun w' h => HSK'.out w' (.inr (.inr (by simp [ht]))) h)
              rw [ht] at k1
              simp only [Option.isSome_some] at k1
              clear ht
              go_wp2_with fail
              exact ⟨⟨k + 1, by omega, by go_num, HS.out _ ((Ext.refl wr).alloc _)⟩, by simp [intOf]; omega⟩
            | none =>
              have HS := Lib.hid (fun w' h => HSN'.out w' cn rfl hcn ht HPK.out h)
              rw [ht] at k1
              simp only [Option.isSome_none] at k1
              have kf := HTO.out.frozen cn
              obtain ⟨⟨y0, b0⟩, z0⟩ := HTC.out.cell (cn * 4) (by omega)
              obtain ⟨⟨y1, b1⟩, z1⟩ := HTC.out.cell (cn * 4 + 1) (by omega)
              obtain ⟨⟨y2, b2⟩, z2⟩ := HTC.out.cell (cn * 4 + 2) (by omega)
              obtain ⟨⟨y3, b3⟩, z3⟩ := HTC.out.cell (cn * 4 + 3) (by omega)
              clear ht
              go_wp2_with fail
              go_region
              go_wp2_with fail
              exact ⟨⟨k + 1, by omega, by go_num, HS.out _ (((Ext.refl _).alloc _).drew)⟩, by simp [intOf]; omega⟩
          · have hd0 : decide ((0 : Int) ≤ ck) = true := by simpa using d0
            have hd1 : decide (ck < 32) = false := by simpa using d1
            have HS := Lib.hid (fun w' h => HSK'.out w' (.inr (.inl (by omega))) h)
            go_wp2_with fail
            exact ⟨⟨k + 1, by omega, by go_num, HS.out _ ((Ext.refl wr).alloc _)⟩, by simp [intOf]; omega⟩
        · have hd : decide (0 ≤ ck) = false := by simpa using d0
          have HS := Lib.hid (fun w' h => HSK'.out w' (.inl (by omega)) h)
          go_wp2_with fail
          exact ⟨⟨k + 1, by omega, by go_num, HS.out _ ((Ext.refl wr).alloc _)⟩, by simp [intOf]; omega⟩
      · obtain rfl : k = set.length := by omega
        have hl := HL.out
        unfold SLoop at hl
        rw [List.take_length] at hl
        obtain ⟨l1, l2, l3⟩ := hl
        have HEnv := Lib.hid (l3.env l1 l2)
        have L1 := Lib.hid l1
        have HXr := Lib.hid (HX1.out.trans l1)
        have hRr : wr.heap[w0.heap.size]? = some (.cells #[.int .i64 0, .int .i64 0, .int .i64 0, .slice none 0 0] 24 (0, 0)) := by
          rw [l1.block w0.heap.size hs01]; exact HR.out
        have HRr := Lib.hid hRr
        clear HL l1 l2 l3 hRr
        go_wp2_with fail
        refine (rebuild_subst wr w1.heap.size (w1.heap.size + 1) wr.heap.size (some wr.heap.size) (wr.heap.size + 1) (fun q hq => by cases hq; omega) (substLeaf (toS set)) (fun x => shapedW x.op x.wd x.n [] = true) (SubInv wr.heap.size (toS set))
          (fun w w' acc h hb => h.below (by omega) hb)
          (fun x w b o acc h1 h2 h3 _ h5 => Subst1_any wr _ _ _ (toS set) (Nat.le_refl _) HEnv.out ((HM0.out).ext HXr.out) x w b o acc h1 h2 h3 h5)
          100000 (Nat.le_refl _) e _ _ _ [] (by have := wf_size HW.out; omega) (fun x hx => (leaves_shaped e 40 (wf_deep HW.out) x hx).2) (HE.out.ext HXr.out) ((Ext.refl wr).alloc _) (by simp) ?_).mono ?_
        · exact ⟨by simp, by simp⟩
        rintro r w2 ⟨⟨v1, rfl, hv1⟩, hgr, hI⟩
        simp only [List.nil_append] at hI
        have hx2 : Ext wr w2 := ((Ext.refl wr).alloc _).grown hgr (fun q hq => by cases hq; exact Nat.le_refl _)
        have hs2 : wr.heap.size < w2.heap.size := by have := hgr.size; simp at this; omega
        have hRs : w0.heap.size < wr.heap.size := by have := L1.out.size; omega
        have hR2 : w2.heap[w0.heap.size]? = some (.cells #[.int .i64 0, .int .i64 0, .int .i64 0, .slice none 0 0] 24 (0, 0)) := by
          rw [hx2.block w0.heap.size hRs]; exact HRr.out
        obtain ⟨ka, kn, kc, rfl, hkv⟩ := hv1.shape
        have hkv' : KidsB (wr.heap.size + 1) w2 (.slice ka kn kc) (e.rebuild (substLeaf (toS set))).kids := by simpa using hkv
        have HKV := Lib.hid hkv'; clear hkv'
        have i1 := hI.1
        have HX2 := Lib.hid (HXr.out.trans hx2)
        have HRB2 := Lib.hid hR2
        obtain ⟨c0, c1, c2, c3, f0, f1, f2, f3⟩ := cells_of_block hR2
        have hRs2 : w0.heap.size < w2.heap.size := by omega
        clear hgr hI hx2 hR2 hv1 hkv
        generalize hy : e.rebuild (substLeaf (toS set)) = y at *
        have HY := Lib.hid hy; clear hy
        cases hgood : e.leaves.all (substOk (toS set)) with
        | false =>
          have HB : Hid (e.subst set = .mk 0 0 0 []) := by simp [Hid, E.subst, hgood]
          rw [hgood] at i1
          clear hgood
          have HZ : Hid (NewE (.mk 0 0 0 []) w (.returned (.agg #[.int .i64 0, .int .i64 0, .int .i64 0, .slice none 0 0])) ((put4 w2 w0.heap.size 0 (.int .i64 0) (.int .i64 0) (.int .i64 0) (.slice none 0 0)).alloc (.cells #[.int .i64 y.op, .int .i64 y.wd, .int .i64 y.n, .slice ka kn kc] 24))) :=
            ⟨⟨_, rfl, _, rfl, kidsB_nil _ _⟩, Ext.alloc (Below.trans (HX0.out.trans HX2.out) (below_put4 (by have := HS0.out; omega))) _⟩
          have HB2 : Hid (((put4 w2 w0.heap.size 0 (.int .i64 0) (.int .i64 0) (.int .i64 0) (.slice none 0 0)).alloc (.cells #[.int .i64 y.op, .int .i64 y.wd, .int .i64 y.n, .slice ka kn kc] 24)).heap[w0.heap.size]? = some (.cells #[.int .i64 0, .int .i64 0, .int .i64 0, .slice none 0 0] 24 (0, 0))) := by
            rw [Below.heap_alloc _ _ _ (by rw [put4_size]; exact hRs2)]; exact put4_new HRB2.out
          go_wp2_with fail
          exact bodyPost_ret (v := .agg #[.int .i64 0, .int .i64 0, .int .i64 0, .slice none 0 0]) (results_cell_row Tryd.results16 _ _ w0.heap.size 24 _ (0, 0) _ rfl HB2.out Tryd.underlying24 rfl sizeExpr) rfl (by rw [HB.out]; exact HZ.out)
        | true =>
          rw [hgood] at i1
          have HGd := Lib.hid hgood; clear hgood
          cases hyw : y.wf with
          | false =>
            have HYW := Lib.hid hyw; clear hyw
            have HB : Hid (e.subst set = .mk 0 0 0 []) := by simp [Hid, E.subst, HY.out, HYW.out]
            go_wp2_with fail
            generalize hw3 : w2.alloc (.cells #[.int .i64 y.op, .int .i64 y.wd, .int .i64 y.n, .slice ka kn kc] 24) = w3
            have hx3 : Ext w2 w3 := by rw [← hw3]; exact (Ext.refl w2).alloc _
            have hv3 : EVal w3 (.agg #[.int .i64 y.op, .int .i64 y.wd, .int .i64 y.n, .slice ka kn kc]) y := ⟨_, rfl, HKV.out.kids.ext hx3⟩
            have hc3 := (cells_of_block (w := w3) (R := w2.heap.size) (by rw [← hw3]; exact heap_new _ _))
            clear hw3
            refine (wellFormed_any y _ _ hv3 ((HM0.out.ext HX2.out).ext hx3)).mono ?_
            rintro r w4 ⟨rfl, hx4⟩
            have hx24 : Ext w2 w4 := hx3.trans hx4
            obtain ⟨s0, s1, s2, s3, _⟩ := hc3
            have d0 := hx4.cell s0
            have d1 := hx4.cell s1
            have d2 := hx4.cell s2
            have d3 := hx4.cell s3
            have hR4 : w4.heap[w0.heap.size]? = some (.cells #[.int .i64 0, .int .i64 0, .int .i64 0, .slice none 0 0] 24 (0, 0)) := by
              rw [hx24.block w0.heap.size hRs2]; exact HRB2.out
            obtain ⟨a0, a1, a2, a3, b0, b1, b2, b3⟩ := cells_of_block hR4
            have hne : w2.heap.size ≠ w0.heap.size := by omega
            have HX4 := Lib.hid hx24; have HR4 := Lib.hid hR4
            clear hx3 hv3 hx4 hx24 hR4 s0 s1 s2 s3
            rw [HYW.out]
            have HZ : Hid (NewE (.mk 0 0 0 []) w (.returned (.agg #[.int .i64 0, .int .i64 0, .int .i64 0, .slice none 0 0])) (put4 w4 w0.heap.size 0 (.int .i64 0) (.int .i64 0) (.int .i64 0) (.slice none 0 0))) :=
              ⟨⟨_, rfl, _, rfl, kidsB_nil _ _⟩, Below.trans (HX0.out.trans (HX2.out.trans HX4.out)) (below_put4 (by have := HS0.out; omega))⟩
            have HB2 := Lib.hid (put4_new (x := .int .i64 0) (y := .int .i64 0) (z := .int .i64 0) (u := .slice none 0 0) HR4.out)
            go_wp2_with fail
            exact bodyPost_ret (v := .agg #[.int .i64 0, .int .i64 0, .int .i64 0, .slice none 0 0]) (results_cell_row Tryd.results16 _ _ w0.heap.size 24 _ (0, 0) _ rfl HB2.out Tryd.underlying24 rfl sizeExpr) rfl (by rw [HB.out]; exact HZ.out)
          | true =>
            have HYW := Lib.hid hyw; clear hyw
            have HB : Hid (e.subst set = y) := by
              unfold Hid E.subst
              rw [HY.out, if_pos ⟨HW.out, HGd.out, HYW.out⟩]
            go_wp2_with fail
            generalize hw3 : w2.alloc (.cells #[.int .i64 y.op, .int .i64 y.wd, .int .i64 y.n, .slice ka kn kc] 24) = w3
            have hx3 : Ext w2 w3 := by rw [← hw3]; exact (Ext.refl w2).alloc _
            have hv3 : EVal w3 (.agg #[.int .i64 y.op, .int .i64 y.wd, .int .i64 y.n, .slice ka kn kc]) y := ⟨_, rfl, HKV.out.kids.ext hx3⟩
            have hc3 := (cells_of_block (w := w3) (R := w2.heap.size) (by rw [← hw3]; exact heap_new _ _))
            clear hw3
            refine (wellFormed_any y _ _ hv3 ((HM0.out.ext HX2.out).ext hx3)).mono ?_
            rintro r w4 ⟨rfl, hx4⟩
            have hx24 : Ext w2 w4 := hx3.trans hx4
            obtain ⟨s0, s1, s2, s3, _⟩ := hc3
            have d0 := hx4.cell s0
            have d1 := hx4.cell s1
            have d2 := hx4.cell s2
            have d3 := hx4.cell s3
            have hR4 : w4.heap[w0.heap.size]? = some (.cells #[.int .i64 0, .int .i64 0, .int .i64 0, .slice none 0 0] 24 (0, 0)) := by
              rw [hx24.block w0.heap.size hRs2]; exact HRB2.out
            obtain ⟨a0, a1, a2, a3, b0, b1, b2, b3⟩ := cells_of_block hR4
            have hne : w2.heap.size ≠ w0.heap.size := by omega
            have HX4 := Lib.hid hx24; have HR4 := Lib.hid hR4
            clear hx3 hv3 hx4 hx24 hR4 s0 s1 s2 s3
            rw [HYW.out]
            have HZ : Hid (NewE y w (.returned (.agg #[.int .i64 y.op, .int .i64 y.wd, .int .i64 y.n, .slice ka kn kc])) (put4 w4 w0.heap.size 0 (.int .i64 y.op) (.int .i64 y.wd) (.int .i64 y.n) (.slice ka kn kc))) := by
              refine ⟨⟨_, rfl, _, rfl, ?_⟩, Below.trans (HX0.out.trans (HX2.out.trans HX4.out)) (below_put4 (by have := HS0.out; omega))⟩
              exact ((HKV.out.keep (HX4.out.asFrom _)).keep (fun q hq _ => put4_heap q (by omega))).mono (by have := HS0.out; omega)
            have HB2 := Lib.hid (put4_new (x := .int .i64 y.op) (y := .int .i64 y.wd) (z := .int .i64 y.n) (u := .slice ka kn kc) HR4.out)
            go_wp2_with fail
            exact bodyPost_ret (v := .agg #[.int .i64 y.op, .int .i64 y.wd, .int .i64 y.n, .slice ka kn kc]) (results_cell_row Tryd.results16 _ _ w0.heap.size 24 _ (0, 0) _ rfl HB2.out Tryd.underlying24 rfl sizeExpr) rfl (by rw [HB.out]; exact HZ.out)
end Go.Proofs.YtdancokndklpnaaDoor
