/-
  The walk of hint.sides.
-/
import Derived.Test.YtlcgbdjmlnjhcaaGreatDoorG31
import Derived.Test.YtlcgbdjmlnjhcaaGreatDoorG23
namespace Go.Proofs.YtlcgbdjmlnjhcaaGreatDoor
open Go.RowKit Go.Shelf
attribute [local go_sem] Oper.semAt_some

theorem sizeSide : (Tryz.prog.info? 66).map (·.size) = some 4 := by kernel_rfl
/-- A side that a call returns. -/
def SideO (w : World) (base : Nat) (v : Value) (l ws : List Int) (s : Int) (step : Bool) : Prop := ∃ v1 v2, v = .agg #[v1, v2, .int .i64 s, .bool step] ∧ OwnInts w base v1 l ∧ OwnInts w base v2 ws

theorem results_rows2 {P : Program} {fn : Func} {p u : Tmp} {ty ty2 : TypeId} (h : fn.results = #[.cell p ty, .cell u ty2]) (tmps : Array Value) (w : World) (g g2 : Nat) (t t2 : TypeId) (cs cs2 : Array Value) (fr fr2 : Nat × Nat) (d d2 : TypeDesc)
    (hp : tmps.getD p undef = .pointer (some ⟨g, 0, none⟩)) (hg : w.heap[g]? = some (.cells cs t fr)) (hu : P.underlying ty = some d) (hd : (match d with | .struct _ | .array _ _ => true | _ => false) = true) (hi : (P.info? ty).map (·.size) = some cs.size)
    (hp2 : tmps.getD u undef = .pointer (some ⟨g2, 0, none⟩)) (hg2 : w.heap[g2]? = some (.cells cs2 t2 fr2)) (hu2 : P.underlying ty2 = some d2) (hd2 : (match d2 with | .struct _ | .array _ _ => true | _ => false) = true) (hi2 : (P.info? ty2).map (·.size) = some cs2.size) :
    (results fn tmps).run P w = .ok (.tuple #[.agg cs, .agg cs2]) w := by
  have hp' : tmps[p]?.getD undef = .pointer (some ⟨g, 0, none⟩) := by simpa using hp
  have hp2' : tmps[u]?.getD undef = .pointer (some ⟨g2, 0, none⟩) := by simpa using hp2
  simp [results, h, hp', hp2', asAddr, run_loadVar_row w g t ty cs fr d hg hu hd hi, run_loadVar_row w g2 t2 ty2 cs2 fr2 d2 hg2 hu2 hd2 hi2]
theorem far_set {w w0 : World} {k : Nat} (h : w.heap[k]? = w0.heap[k]?) (p : Addr) (v : Value) (hp : k ≠ p.block) : (w.setCell p v).heap[k]? = w0.heap[k]? := (heap_setCell_other _ _ _ _ hp).trans h
theorem two_chain {W V : World} {p q : Nat} {t : TypeId} {x0 x1 x2 x3 y0 y1 y2 y3 a b c d e f g h : Value} (hV : V = ((((((((W).setCell ⟨p, 0, none⟩ a).setCell ⟨p, 1, none⟩ b).setCell ⟨p, 2, none⟩ c).setCell ⟨p, 3, none⟩ d).setCell ⟨q, 0, none⟩ e).setCell ⟨q, 1, none⟩ f).setCell ⟨q, 2, none⟩ g).setCell ⟨q, 3, none⟩ h)
    (hne : p ≠ q) (hp : W.heap[p]? = some (.cells #[x0, x1, x2, x3] t (0, 0))) (hq : W.heap[q]? = some (.cells #[y0, y1, y2, y3] t (0, 0))) :
    V.heap[p]? = some (.cells #[a, b, c, d] t (0, 0)) ∧ V.heap[q]? = some (.cells #[e, f, g, h] t (0, 0)) ∧ (∀ k, k ≠ p → k ≠ q → V.heap[k]? = W.heap[k]?) ∧ ∀ w, Ext w W → w.heap.size ≤ p → w.heap.size ≤ q → Ext w V := by
  have hV2 : V = put4 (put4 W p 0 a b c d) q 0 e f g h := hV
  clear hV
  subst hV2
  have h1 : ∀ (V : World) (r : Nat) (z0 z1 z2 z3 : Value), V.heap[r]? = some (.cells #[z0, z1, z2, z3] t (0, 0)) → ∀ a b c d, (put4 V r 0 a b c d).heap[r]? = some (.cells #[a, b, c, d] t (0, 0)) := fun V r z0 z1 z2 z3 hv a b c d => by
    have k1 := heap_setCell_same V r 0 _ _ a hv
    have k2 := heap_setCell_same _ r (0 + 1) _ _ b k1
    have k3 := heap_setCell_same _ r (0 + 2) _ _ c k2
    have k4 := heap_setCell_same _ r (0 + 3) _ _ d k3
    simpa [put4] using k4
  exact ⟨(put4_heap p hne).trans (h1 W p _ _ _ _ hp a b c d), h1 _ q _ _ _ _ ((put4_heap q (Ne.symm hne)).trans hq) e f g h, fun k h2 h3 => (put4_heap k h3).trans (put4_heap k h2), fun w hx h2 h3 => Below.trans (Below.trans hx (below_put4 h2)) (below_put4 h3)⟩
theorem far_drew {w w0 : World} {k : Nat} (h : w.heap[k]? = w0.heap[k]?) : w.drew.heap[k]? = w0.heap[k]? := h

set_option maxRecDepth 100000 in
set_option maxHeartbeats 8000000 in
theorem Sides_any (c : CondS) (cells : List CellD) (cv kv : Value) (w : World) (hc : CondV w cv c) (hC : Cells w kv cells) (hM : Masks w) (h1 : formC cells c.hyp) (h2 : formC cells c.goal) :
    Calls Tryz.prog 35 #[kv, cv] w fun r w' => (∃ v1 v2, r = .returned (.tuple #[v1, v2]) ∧ SideO w' w.heap.size v1 (cP cells c.hyp c.goal) (wOf cells (cP cells c.hyp c.goal)) (sumI (wOf cells (cP cells c.hyp c.goal))) (stepB cells c.hyp c.goal) ∧
      SideO w' w.heap.size v2 (cQ cells c.hyp c.goal) (wOf cells (cQ cells c.hyp c.goal)) (sumI (wOf cells (cQ cells c.hyp c.goal))) (stepB cells c.hyp c.goal)) ∧ Ext w w' := by
  obtain ⟨ha, hl, hcp, ga, gl, gc, rfl, e1, e2⟩ := hc
  obtain ⟨ka, kc, rfl⟩ := SliceAt.shape hC
  have HW1 : Hid (∀ x ∈ hOld cells c.hyp c.goal, 1 ≤ wAt cells x ∧ wAt cells x ≤ 8) := fun x hx => (old_w h1 h2 hx).2.2.2
  have HW2 : Hid (∀ x ∈ hNow cells c.hyp c.goal, 1 ≤ wAt cells x ∧ wAt cells x ≤ 8) := fun x hx => (now_w h1 h2 hx).2.2.2
  have HE1 := Lib.hid e1; have HE2 := Lib.hid e2; have HC := Lib.hid hC; have HM := Lib.hid hM
  have HOE : Hid (hOld cells c.hyp c.goal = chooseL cells c.hyp.supOld c.goal.supOld) := rfl
  have HNE : Hid (hNow cells c.hyp c.goal = chooseL cells c.hyp.supNow c.goal.supNow) := rfl
  clear e1 e2 hC hM h1 h2
  obtain ⟨W, hW⟩ : ∃ W, Boxes3 w W (.cells (condCells c ha hl hcp ga gl gc) 27) (.cells #[.slice none 0 0, .slice none 0 0, .int .i64 0, .bool false] 66) (.cells #[.slice none 0 0, .slice none 0 0, .int .i64 0, .bool false] 66) := ⟨_, Boxes3.mk' _ _ _ _⟩
  have hX := hW.ext
  have hat : CondAt W w.heap.size c ha hl hcp ga gl gc := hW.b0
  have hZW := hW.size
  have HR1 := Lib.hid hW.b1; have HR2 := Lib.hid hW.b2
  have HWE := Lib.hid hW.eq
  replace HE1 := Lib.hid (HE1.out.ext hX); replace HE2 := Lib.hid (HE2.out.ext hX); replace HC := Lib.hid (HC.out.ext hX); replace HM := Lib.hid (HM.out.ext hX)
  have HX := Lib.hid hX; have HAT := Lib.hid hat; have HZW := Lib.hid hZW
  obtain ⟨⟨q0, q1, q2, q3⟩, p0, p1, p2, p3⟩ := And.intro hat.hyp hat.goal
  clear hX hat hZW hW
  unfold condCells at *
  go_enter Tryz.func35, Tryz.ntmps35
  go_upto_region 1 with fail
  rw [← HWE.out]; clear HWE
  have HN0 : Hid (w.heap.size ≤ w.heap.size) := Nat.le_refl _
  generalize hn0 : w.heap.size = n0 at *
  replace HN0 : Hid (w.heap.size = n0) := hn0
  clear hn0
  go_wp2_with fail
  refine (Support_any c.hyp _ _ HE1.out HM.out).mono ?_
  rintro r w1 ⟨v1, v2, rfl, i1, i2, x1⟩
  obtain ⟨a1, b1, rfl⟩ := i1.shape
  obtain ⟨a2, b2, rfl⟩ := i2.shape
  have I1 := Lib.hid i1; have I2 := Lib.hid i2; have X1 := Lib.hid x1
  have p01 := x1.cell p0; have p11 := x1.cell p1; have p21 := x1.cell p2; have p31 := x1.cell p3
  clear i1 i2 x1 p0 p1 p2 p3 q0 q1 q2 q3
  go_wp2_with fail
  refine (Support_any c.goal _ _ (HE2.out.ext X1.out) (HM.out.ext X1.out)).mono ?_
  rintro r w2 ⟨v3, v4, rfl, i3, i4, x2⟩
  obtain ⟨a3, b3, rfl⟩ := i3.shape
  obtain ⟨a4, b4, rfl⟩ := i4.shape
  have I3 := Lib.hid i3; have I4 := Lib.hid i4; have X2 := Lib.hid (X1.out.trans x2)
  replace I1 := Lib.hid (I1.out.ext x2); replace I2 := Lib.hid (I2.out.ext x2)
  clear i3 i4 x2 p01 p11 p21 p31 X1
  go_wp2_with fail
  refine (Choose_any cells c.hyp.supOld c.goal.supOld _ _ _ w2 (HC.out.ext X2.out) I1.out I3.out HW1.out).mono ?_
  rintro r w3 ⟨⟨v5, v6, rfl, o5, o6⟩, x3⟩
  rw [← HOE.out] at *
  obtain ⟨a5, b5, rfl⟩ := o5.ints.shape
  obtain ⟨a6, b6, rfl⟩ := o6.ints.shape
  have O5 := Lib.hid o5; have O6 := Lib.hid o6; have X3 := Lib.hid (X2.out.trans x3); have XS3 := Lib.hid x3.size
  replace I2 := Lib.hid (I2.out.ext x3); replace I4 := Lib.hid (I4.out.ext x3)
  clear o5 o6 x3 I1 I3
  go_wp2_with fail
  refine (Choose_any cells c.hyp.supNow c.goal.supNow _ _ _ w3 (HC.out.ext X3.out) I2.out I4.out HW2.out).mono ?_
  rintro r w4 ⟨⟨v7, v8, rfl, o7, o8⟩, x4⟩
  rw [← HNE.out] at *
  obtain ⟨a7, b7, rfl⟩ := o7.ints.shape
  obtain ⟨a8, b8, rfl⟩ := o8.ints.shape
  have O7 := Lib.hid o7; have O8 := Lib.hid o8; have X4 := Lib.hid (X3.out.trans x4)
  replace O5 := Lib.hid (O5.out.kept x4); replace O6 := Lib.hid (O6.out.kept x4)
  have XS4 := Lib.hid x4.size
  clear o7 o8 x4 I2 I4
  obtain ⟨W5, hW5⟩ : ∃ W5, Boxes w4 W5 (.cells #[.slice a5 (hOld cells c.hyp c.goal).length b5, .slice a6 (wOf cells (hOld cells c.hyp c.goal)).length b6, .int .i64 (sumI (wOf cells (hOld cells c.hyp c.goal)))] 64) (.cells #[.slice a7 (hNow cells c.hyp c.goal).length b7, .slice a8 (wOf cells (hNow cells c.hyp c.goal)).length b8, .int .i64 (sumI (wOf cells (hNow cells c.hyp c.goal)))] 64) := ⟨_, Boxes.mk' _ _ _⟩
  have HBX := Lib.hid hW5; have HB0 := Lib.hid hW5.b0; have HB1 := Lib.hid hW5.b1
  go_upto_region 4 with fail
  rw [← HBX.out.eq]
  have HX5 := Lib.hid (X4.out.trans hW5.ext)
  have HNM : Hid (n0 + 3 ≤ w4.heap.size) := by have h1 := X4.out.size; have h2 := HZW.out; unfold Hid; omega
  have HRA : Hid (W5.heap[n0 + 1]? = some (.cells #[.slice none 0 0, .slice none 0 0, .int .i64 0, .bool false] 66 (0, 0))) := (HX5.out.block _ (by have := HZW.out; omega)).trans HR1.out
  have HRB : Hid (W5.heap[n0 + 1 + 1]? = some (.cells #[.slice none 0 0, .slice none 0 0, .int .i64 0, .bool false] 66 (0, 0))) := (HX5.out.block _ (by have := HZW.out; omega)).trans HR2.out
  replace O5 := Lib.hid (O5.out.kept hW5.ext); replace O6 := Lib.hid (O6.out.kept hW5.ext); replace O7 := Lib.hid (O7.out.kept hW5.ext); replace O8 := Lib.hid (O8.out.kept hW5.ext)
  have HP0 : Hid ((hOld cells c.hyp c.goal).length = 0 → stepB cells c.hyp c.goal = false ∧ cP cells c.hyp c.goal = hNow cells c.hyp c.goal ∧ cQ cells c.hyp c.goal = hOld cells c.hyp c.goal) := fun h => by
    have hs : stepB cells c.hyp c.goal = false := by unfold stepB; rw [List.length_eq_zero_iff.1 h]; rfl
    exact ⟨hs, by unfold cP; rw [hs]; rfl, by unfold cQ; rw [hs]; rfl⟩
  have HP1 : Hid (¬ (hOld cells c.hyp c.goal).length = 0 → stepB cells c.hyp c.goal = true ∧ cP cells c.hyp c.goal = hOld cells c.hyp c.goal ∧ cQ cells c.hyp c.goal = hNow cells c.hyp c.goal) := fun h => by
    have hs : stepB cells c.hyp c.goal = true := by
      unfold stepB
      cases h2 : hOld cells c.hyp c.goal with
      | nil => rw [h2] at h; exact absurd rfl h
      | cons a r => rfl
    exact ⟨hs, by unfold cP; rw [hs]; rfl, by unfold cQ; rw [hs]; rfl⟩
  clear hW5 HR1 HR2 HE1 HE2 HC HM HW1 HW2 HOE HNE HAT
  generalize hOld cells c.hyp c.goal = lo at *
  generalize hNow cells c.hyp c.goal = ln at *
  generalize hwo : wOf cells lo = wo at *
  generalize hwn : wOf cells ln = wn at *
  have HWO := Lib.hid hwo; have HWN := Lib.hid hwn
  clear hwo hwn
  generalize hso : sumI wo = so at *
  generalize hsn : sumI wn = sn at *
  have HSO := Lib.hid hso; have HSN := Lib.hid hsn
  clear hso hsn
  have HB2 : Hid (n0 + 3 ≤ w2.heap.size) := by have h1 := X2.out.size; have h2 := HZW.out; unfold Hid; omega
  have HB3 : Hid (n0 + 3 ≤ w3.heap.size) := by have h1 := X3.out.size; have h2 := HZW.out; unfold Hid; omega
  generalize w4.heap.size = m at *
  obtain ⟨r10, r11, r12, r13, f10, f11, f12, f13⟩ := cells_of_block HRA.out
  obtain ⟨r20, r21, r22, r23, f20, f21, f22, f23⟩ := cells_of_block HRB.out
  by_cases hz : lo.length = 0
  · have hz' : (lo.length : Int) = 0 := by omega
    have HZ := Lib.hid hz; clear hz
    have HFIN : Hid (∀ W6 : World, Ext w W6 → (∀ k, n0 + 3 ≤ k → W6.heap[k]? = W5.heap[k]?) → (∃ v1 v2, (Ending.returned (.tuple #[.agg #[.slice a7 ln.length b7, .slice a8 wn.length b8, .int .i64 sn, .bool false], .agg #[.slice a5 lo.length b5, .slice a6 wo.length b6, .int .i64 so, .bool false]])) = .returned (.tuple #[v1, v2]) ∧ SideO W6 w.heap.size v1 (cP cells c.hyp c.goal) (wOf cells (cP cells c.hyp c.goal)) (sumI (wOf cells (cP cells c.hyp c.goal))) (stepB cells c.hyp c.goal) ∧
        SideO W6 w.heap.size v2 (cQ cells c.hyp c.goal) (wOf cells (cQ cells c.hyp c.goal)) (sumI (wOf cells (cQ cells c.hyp c.goal))) (stepB cells c.hyp c.goal)) ∧ Ext w W6) := fun W6 hx hk => by
      obtain ⟨p1, p2, p3⟩ := HP0.out HZ.out
      rw [p1, p2, p3, HWO.out, HWN.out, HSO.out, HSN.out]
      have key : ∀ {base : Nat} {v : Value} {l : List Int}, OwnInts W5 base v l → n0 + 3 ≤ base → OwnInts W6 w.heap.size v l := fun h hb => (h.keep fun k e => hk k (by have := h.base k e; omega)).mono (by have := HN0.out; omega)
      exact ⟨⟨_, _, rfl, ⟨_, _, rfl, key O7.out HB3.out, key O8.out HB3.out⟩, _, _, rfl, key O5.out HB2.out, key O6.out HB2.out⟩, hx⟩
    have HS0 : Hid ((W5.cell? ⟨m, 0, none⟩ = some (.slice a5 lo.length b5) ∧ W5.cell? ⟨m, 1, none⟩ = some (.slice a6 wo.length b6) ∧ W5.cell? ⟨m, 2, none⟩ = some (.int .i64 so)) ∧ W5.cell? ⟨m + 1, 0, none⟩ = some (.slice a7 ln.length b7) ∧ W5.cell? ⟨m + 1, 1, none⟩ = some (.slice a8 wn.length b8) ∧ W5.cell? ⟨m + 1, 2, none⟩ = some (.int .i64 sn)) := by
      refine ⟨⟨?_, ?_, ?_⟩, ?_, ?_, ?_⟩ <;> first | (rw [Lib.cell_of_heap HB0.out]; rfl) | (rw [Lib.cell_of_heap HB1.out]; rfl)
    have HK : Hid (∀ w' : World, (∀ k, m ≤ k → w'.heap[k]? = W5.heap[k]?) → ((w'.cell? ⟨m, 0, none⟩ = some (.slice a5 lo.length b5) ∧ w'.cell? ⟨m, 1, none⟩ = some (.slice a6 wo.length b6) ∧ w'.cell? ⟨m, 2, none⟩ = some (.int .i64 so)) ∧ w'.cell? ⟨m + 1, 0, none⟩ = some (.slice a7 ln.length b7) ∧ w'.cell? ⟨m + 1, 1, none⟩ = some (.slice a8 wn.length b8) ∧ w'.cell? ⟨m + 1, 2, none⟩ = some (.int .i64 sn))) := fun w' h => by
      have h0 := (h m (Nat.le_refl _)).trans HB0.out
      have h1 := (h (m + 1) (by omega)).trans HB1.out
      refine ⟨⟨?_, ?_, ?_⟩, ?_, ?_, ?_⟩ <;> first | (rw [Lib.cell_of_heap h0]; rfl) | (rw [Lib.cell_of_heap h1]; rfl)
    obtain ⟨⟨s0, s1, s2⟩, s3, s4, s5⟩ := HS0.out
    go_upto_region 5 with fail
    have hs0 := (HK.out W5.drew (fun _ _ => rfl))
    have d10 := r10; have d11 := r11
    refine wp_normal2 ?_
    go_region_held3 (fun w' => (w'.cell? ⟨m, 0, none⟩ = some (.slice a5 lo.length b5) ∧ w'.cell? ⟨m, 1, none⟩ = some (.slice a6 wo.length b6) ∧ w'.cell? ⟨m, 2, none⟩ = some (.int .i64 so)) ∧ w'.cell? ⟨m + 1, 0, none⟩ = some (.slice a7 ln.length b7) ∧ w'.cell? ⟨m + 1, 1, none⟩ = some (.slice a8 wn.length b8) ∧ w'.cell? ⟨m + 1, 2, none⟩ = some (.int .i64 sn))
      ((first
        | (with_reducible exact hs0)
        | (refine HK.out _ (fun k hk => ?_)
           repeat (first | with_reducible refine far_drew ?_ | with_reducible refine far_set ?_ _ _ (by have := HNM.out; first | (show k ≠ n0 + 1; omega) | (show k ≠ n0 + 1 + 1; omega)))
           first | rfl | done)
        | fail))
      ((first
        | fail))
    · unfold onlyNormal
      obtain ⟨V, hV⟩ : ∃ V, V = ((((((((W5).setCell ⟨n0 + 1, 0, none⟩ (.slice a7 ln.length b7)).setCell ⟨n0 + 1, 1, none⟩ (.slice a8 wn.length b8)).setCell ⟨n0 + 1, 2, none⟩ (.int .i64 sn)).setCell ⟨n0 + 1, 3, none⟩ (.bool false)).setCell ⟨n0 + 1 + 1, 0, none⟩ (.slice a5 lo.length b5)).setCell ⟨n0 + 1 + 1, 1, none⟩ (.slice a6 wo.length b6)).setCell ⟨n0 + 1 + 1, 2, none⟩ (.int .i64 so)).setCell ⟨n0 + 1 + 1, 3, none⟩ (.bool false) := ⟨_, rfl⟩
      rw [← hV]
      obtain ⟨t1, t2, t3, t4⟩ := two_chain hV (by omega) HRA.out HRB.out
      have hn0 := HN0.out
      have HQ := Lib.hid (HFIN.out V.drew (t4 _ (HX.out.trans HX5.out) (by omega) (by omega)).drew fun k hk => t3 k (by omega) (by omega))
      have T1 := Lib.hid t1; have T2 := Lib.hid t2
      clear t1 t2 t3 t4 hV hn0
      go_wp2_with fail
      exact bodyPost_ret (results_rows2 Tryz.results35 _ _ (n0 + 1) (n0 + 1 + 1) 66 66 _ _ (0, 0) (0, 0) _ _ rfl (show V.drew.heap[n0 + 1]? = _ from T1.out) Tryz.underlying66 rfl sizeSide rfl (show V.drew.heap[n0 + 1 + 1]? = _ from T2.out) Tryz.underlying66 rfl sizeSide) rfl HQ.out
  · have hz' : ¬ (lo.length : Int) = 0 := by omega
    have HZ := Lib.hid hz; clear hz
    have HFIN : Hid (∀ W6 : World, Ext w W6 → (∀ k, n0 + 3 ≤ k → W6.heap[k]? = W5.heap[k]?) → (∃ v1 v2, (Ending.returned (.tuple #[.agg #[.slice a5 lo.length b5, .slice a6 wo.length b6, .int .i64 so, .bool true], .agg #[.slice a7 ln.length b7, .slice a8 wn.length b8, .int .i64 sn, .bool true]])) = .returned (.tuple #[v1, v2]) ∧ SideO W6 w.heap.size v1 (cP cells c.hyp c.goal) (wOf cells (cP cells c.hyp c.goal)) (sumI (wOf cells (cP cells c.hyp c.goal))) (stepB cells c.hyp c.goal) ∧
        SideO W6 w.heap.size v2 (cQ cells c.hyp c.goal) (wOf cells (cQ cells c.hyp c.goal)) (sumI (wOf cells (cQ cells c.hyp c.goal))) (stepB cells c.hyp c.goal)) ∧ Ext w W6) := fun W6 hx hk => by
      obtain ⟨p1, p2, p3⟩ := HP1.out HZ.out
      rw [p1, p2, p3, HWO.out, HWN.out, HSO.out, HSN.out]
      have key : ∀ {base : Nat} {v : Value} {l : List Int}, OwnInts W5 base v l → n0 + 3 ≤ base → OwnInts W6 w.heap.size v l := fun h hb => (h.keep fun k e => hk k (by have := h.base k e; omega)).mono (by have := HN0.out; omega)
      exact ⟨⟨_, _, rfl, ⟨_, _, rfl, key O5.out HB2.out, key O6.out HB2.out⟩, _, _, rfl, key O7.out HB3.out, key O8.out HB3.out⟩, hx⟩
    have HS0 : Hid ((W5.cell? ⟨m, 0, none⟩ = some (.slice a5 lo.length b5) ∧ W5.cell? ⟨m, 1, none⟩ = some (.slice a6 wo.length b6) ∧ W5.cell? ⟨m, 2, none⟩ = some (.int .i64 so)) ∧ W5.cell? ⟨m + 1, 0, none⟩ = some (.slice a7 ln.length b7) ∧ W5.cell? ⟨m + 1, 1, none⟩ = some (.slice a8 wn.length b8) ∧ W5.cell? ⟨m + 1, 2, none⟩ = some (.int .i64 sn)) := by
      refine ⟨⟨?_, ?_, ?_⟩, ?_, ?_, ?_⟩ <;> first | (rw [Lib.cell_of_heap HB0.out]; rfl) | (rw [Lib.cell_of_heap HB1.out]; rfl)
    have HK : Hid (∀ w' : World, (∀ k, m ≤ k → w'.heap[k]? = W5.heap[k]?) → ((w'.cell? ⟨m, 0, none⟩ = some (.slice a5 lo.length b5) ∧ w'.cell? ⟨m, 1, none⟩ = some (.slice a6 wo.length b6) ∧ w'.cell? ⟨m, 2, none⟩ = some (.int .i64 so)) ∧ w'.cell? ⟨m + 1, 0, none⟩ = some (.slice a7 ln.length b7) ∧ w'.cell? ⟨m + 1, 1, none⟩ = some (.slice a8 wn.length b8) ∧ w'.cell? ⟨m + 1, 2, none⟩ = some (.int .i64 sn))) := fun w' h => by
      have h0 := (h m (Nat.le_refl _)).trans HB0.out
      have h1 := (h (m + 1) (by omega)).trans HB1.out
      refine ⟨⟨?_, ?_, ?_⟩, ?_, ?_, ?_⟩ <;> first | (rw [Lib.cell_of_heap h0]; rfl) | (rw [Lib.cell_of_heap h1]; rfl)
    obtain ⟨⟨s0, s1, s2⟩, s3, s4, s5⟩ := HS0.out
    go_upto_region 6 with fail
    have hs0 := (HK.out W5.drew (fun _ _ => rfl))
    have d10 := r10; have d11 := r11
    refine wp_normal2 ?_
    go_region_held3 (fun w' => (w'.cell? ⟨m, 0, none⟩ = some (.slice a5 lo.length b5) ∧ w'.cell? ⟨m, 1, none⟩ = some (.slice a6 wo.length b6) ∧ w'.cell? ⟨m, 2, none⟩ = some (.int .i64 so)) ∧ w'.cell? ⟨m + 1, 0, none⟩ = some (.slice a7 ln.length b7) ∧ w'.cell? ⟨m + 1, 1, none⟩ = some (.slice a8 wn.length b8) ∧ w'.cell? ⟨m + 1, 2, none⟩ = some (.int .i64 sn))
      ((first
        | (with_reducible exact hs0)
        | (refine HK.out _ (fun k hk => ?_)
           repeat (first | with_reducible refine far_drew ?_ | with_reducible refine far_set ?_ _ _ (by have := HNM.out; first | (show k ≠ n0 + 1; omega) | (show k ≠ n0 + 1 + 1; omega)))
           first | rfl | done)
        | fail))
      ((first
        | fail))
    · unfold onlyNormal
      obtain ⟨V, hV⟩ : ∃ V, V = ((((((((W5).setCell ⟨n0 + 1, 0, none⟩ (.slice a5 lo.length b5)).setCell ⟨n0 + 1, 1, none⟩ (.slice a6 wo.length b6)).setCell ⟨n0 + 1, 2, none⟩ (.int .i64 so)).setCell ⟨n0 + 1, 3, none⟩ (.bool true)).setCell ⟨n0 + 1 + 1, 0, none⟩ (.slice a7 ln.length b7)).setCell ⟨n0 + 1 + 1, 1, none⟩ (.slice a8 wn.length b8)).setCell ⟨n0 + 1 + 1, 2, none⟩ (.int .i64 sn)).setCell ⟨n0 + 1 + 1, 3, none⟩ (.bool true) := ⟨_, rfl⟩
      rw [← hV]
      obtain ⟨t1, t2, t3, t4⟩ := two_chain hV (by omega) HRA.out HRB.out
      have hn0 := HN0.out
      have HQ := Lib.hid (HFIN.out V.drew (t4 _ (HX.out.trans HX5.out) (by omega) (by omega)).drew fun k hk => t3 k (by omega) (by omega))
      have T1 := Lib.hid t1; have T2 := Lib.hid t2
      clear t1 t2 t3 t4 hV hn0
      go_wp2_with fail
      exact bodyPost_ret (results_rows2 Tryz.results35 _ _ (n0 + 1) (n0 + 1 + 1) 66 66 _ _ (0, 0) (0, 0) _ _ rfl (show V.drew.heap[n0 + 1]? = _ from T1.out) Tryz.underlying66 rfl sizeSide rfl (show V.drew.heap[n0 + 1 + 1]? = _ from T2.out) Tryz.underlying66 rfl sizeSide) rfl HQ.out
end Go.Proofs.YtlcgbdjmlnjhcaaGreatDoor
