/-
  The walk of StatesExpressions. Printed by gen_law10.py.
-/
import Derived.Test.YtdiopiekmdfklaaDoorMCls
import Derived.Test.YtdiopiekmdfklaaDoorMHb
import Derived.Deep.RegionHeld3
namespace Go.Proofs.YtdiopiekmdfklaaDoor
open Go.RowKit

theorem sameS_self (cs ws is : List Int) : sameS cs ws is cs ws is = true := by simp [sameS]
/-- states.Of on the expression of a set. -/
theorem exp_of {cells : List CellD} {cs ws : List Int} {S : List Nat} {e : E} (h0 : ofErr cells cs e = 0) (h1 : wOf cells cs = ws) (h2 : ofIn cells cs e = S) {W V : World} {ve vc vl : Value} (he : EVal W ve e) (hM : Masks W) (hT : DeB W) (hx : Ext W V) (hc : Cells V vc cells) (hl : Ints V vl cs) (hb : cs.length ≤ 1000000) : Calls Tryd.prog 11 #[vc, vl, ve] V fun r w' =>
    ∃ a1 l1 c1 a2 l2 c2 a3 l3 c3, r = .returned (.tuple #[.agg #[.slice a1 l1 c1, .slice a2 l2 c2, .slice a3 l3 c3], .int .i64 0]) ∧ SetO w' V.heap.size (.agg #[.slice a1 l1 c1, .slice a2 l2 c2, .slice a3 l3 c3]) cs ws (castL S) ∧ Ext V w' := by
  refine (Of_any cells cs e vc vl ve V hc hl (he.ext hx) hb (hM.ext hx) (hT.ext hx)).mono fun r w' hr => ?_
  unfold OfPost at hr
  rw [h0, if_pos rfl, h1, h2] at hr
  obtain ⟨v, rfl, g1, g2⟩ := hr
  obtain ⟨a1, l1, c1, a2, l2, c2, a3, l3, c3, rfl⟩ := g1.setV.shape'
  exact ⟨a1, l1, c1, a2, l2, c2, a3, l3, c3, rfl, g1, g2⟩
theorem set_end {W wf : World} {b n : Nat} {x y z : Value} {cs ws is : List Int} (hE : Ext W wf) (hb0 : W.heap.size ≤ b) (hb : b < n) (hz : wf.heap[b]? = some (.cells #[.slice none 0 0, .slice none 0 0, .slice none 0 0] 31 (0, 0))) (ho : SetO wf n (.agg #[x, y, z]) cs ws is) :
    Var3 31 (put3 wf b x y z) b x y z ∧ SetC (put3 wf b x y z) (.agg #[x, y, z]) cs ws is ∧ Ext W (put3 wf b x y z) :=
  ⟨put3_new hz, (ho.put3 hb _ _ _).setC, hE.put3 hb0 _ _ _⟩
theorem set_end' {W wf : World} {n : Nat} {x y z : Value} {cs ws is : List Int} (hE : Ext W wf) (ho : SetO wf n (.agg #[x, y, z]) cs ws is) :
    Var3 31 (wf.alloc (.cells #[x, y, z] 31)) wf.heap.size x y z ∧ SetC (wf.alloc (.cells #[x, y, z] 31)) (.agg #[x, y, z]) cs ws is ∧ Ext W (wf.alloc (.cells #[x, y, z] 31)) :=
  ⟨Var3.new _ _ _ _ _, ho.setC.ext ((Ext.refl _).alloc _), hE.alloc _⟩
theorem setc_cells {w : World} {v1 v2 v3 : Value} {cs ws is : List Int} (h : SetC w (.agg #[v1, v2, v3]) cs ws is) : Ints w v1 cs ∧ Ints w v2 ws := by
  obtain ⟨_, _, _, e, h1, h2, _⟩ := h
  cases e; exact ⟨h1.1, h2.1⟩
set_option maxRecDepth 100000 in
set_option maxHeartbeats 16000000 in
theorem StatesExpressions_any (cs ws is : List Int) (va : Value) (w : World) (ha : SetC w va cs ws is) (hT : DeB w) (hM : Masks w) (hN : Names w) (hP : Pow10 w) :
    Calls Tryd.prog 4 #[va] w fun r w' => r = .returned (.bool true) ∧ Ext w w' := by
  obtain ⟨a1, a2, a3, a4, a5, a6, a7, a8, a9, rfl⟩ := ha.shape'
  obtain ⟨W, hW⟩ : ∃ W, W = w.alloc (.cells #[.slice a1 a2 a3, .slice a4 a5 a6, .slice a7 a8 a9] 31) := ⟨_, rfl⟩
  have hx : Ext w W := by rw [hW]; exact (Ext.refl w).alloc _
  have HVa : Hid (Var3 31 W w.heap.size (.slice a1 a2 a3) (.slice a4 a5 a6) (.slice a7 a8 a9)) := (by rw [hW]; exact heap_new _ _)
  have Ha := Lib.hid (ha.ext hx)
  have HX := Lib.hid hx; have HDe := Lib.hid (hT.ext hx); have HMk := Lib.hid (hM.ext hx); have HNm := Lib.hid (hN.ext hx); have HPw := Lib.hid (hP.ext hx); have HW := Lib.hid hW
  clear hW hx hT hM hN hP ha
  go_enter Tryd.func4, Tryd.ntmps4
  go_upto_region 1 with fail
  rw [← HW.out]
  clear HW
  generalize w.heap.size = ba at *
  go_wp2_with fail
  refine (head_any W HDe.out HMk.out HNm.out HPw.out).mono ?_
  rintro r wk1 ⟨rfl, x1⟩
  replace HX := Lib.hid (HX.out.trans x1); replace HDe := Lib.hid (HDe.out.ext x1); replace HMk := Lib.hid (HMk.out.ext x1); replace HNm := Lib.hid (HNm.out.ext x1); replace HPw := Lib.hid (HPw.out.ext x1); replace HVa := Lib.hid (HVa.out.ext x1); replace Ha := Lib.hid (Ha.out.ext x1)
  clear x1
  obtain ⟨qa0, qa1, qa2⟩ := HVa.out.cells
  go_wp2_with fail
  refine (Short10_any cs ws is _ _ Ha.out.setV).mono ?_
  rintro r wk2 ⟨rfl, x1⟩
  replace HX := Lib.hid (HX.out.trans x1); replace HDe := Lib.hid (HDe.out.ext x1); replace HMk := Lib.hid (HMk.out.ext x1); replace HNm := Lib.hid (HNm.out.ext x1); replace HPw := Lib.hid (HPw.out.ext x1); replace HVa := Lib.hid (HVa.out.ext x1); replace Ha := Lib.hid (Ha.out.ext x1)
  clear x1 qa0 qa1 qa2
  cases h1 : shortB cs.length ws.length is.length with
  | false =>
    clear h1
    go_wp2_with fail
    exact bodyPost_ret (v := .bool true) (by simp [results, Tryd.results4, go_sem]) rfl ⟨rfl, HX.out⟩
  | true =>
  have HF1 := Lib.hid h1; clear h1
  clear HF1
  obtain ⟨qa0, qa1, qa2⟩ := HVa.out.cells
  go_wp2_with fail
  refine (RSValid_any cs ws is _ _ Ha.out.setV).mono ?_
  rintro r wk3 ⟨rfl, x1⟩
  replace HX := Lib.hid (HX.out.trans x1); replace HDe := Lib.hid (HDe.out.ext x1); replace HMk := Lib.hid (HMk.out.ext x1); replace HNm := Lib.hid (HNm.out.ext x1); replace HPw := Lib.hid (HPw.out.ext x1); replace HVa := Lib.hid (HVa.out.ext x1); replace Ha := Lib.hid (Ha.out.ext x1)
  clear x1 qa0 qa1 qa2
  cases h1 : validB cs ws is with
  | false =>
    clear h1
    go_wp2_with fail
    exact bodyPost_ret (v := .bool true) (by simp [results, Tryd.results4, go_sem]) rfl ⟨rfl, HX.out⟩
  | true =>
  have HF1 := Lib.hid h1; clear h1
  obtain ⟨hcast, hvs⟩ := valid_nat HF1.out
  generalize natL is = S at *
  subst hcast
  have HS := Lib.hid hvs
  have HWD := Lib.hid (small_sum hvs.small).2.1
  clear HF1 hvs
  obtain ⟨qa0, qa1, qa2⟩ := HVa.out.cells
  go_wp2_with fail
  refine (RSum_any ws _ _ (setc_cells Ha.out).2 HWD.out).mono ?_
  rintro r wk4 ⟨rfl, hw9⟩
  have x1 : Ext wk3 wk4 := (by rw [hw9]; exact Ext.refl _)
  clear hw9
  replace HX := Lib.hid (HX.out.trans x1); replace HDe := Lib.hid (HDe.out.ext x1); replace HMk := Lib.hid (HMk.out.ext x1); replace HNm := Lib.hid (HNm.out.ext x1); replace HPw := Lib.hid (HPw.out.ext x1); replace HVa := Lib.hid (HVa.out.ext x1); replace Ha := Lib.hid (Ha.out.ext x1)
  clear x1 qa0 qa1 qa2
  generalize hsm : sumI ws = sm at *
  have HSm := Lib.hid hsm; clear hsm
  by_cases t1 : 9 < sm
  · go_wp2_with fail
    exact bodyPost_ret (v := .bool true) (by simp [results, Tryd.results4, go_sem]) rfl ⟨rfl, HX.out⟩
  have h9 : sumI ws ≤ 9 := by rw [HSm.out]; omega
  have hlaw := exp_law HS.out h9
  have HSM := Lib.hid HS.out.small
  have hcl : cs.length ≤ 1000000 := by
    have := shape_len (small_sum HS.out.small).1; omega
  have k4 : a8 = S.length := (setc_len Ha.out).trans (castL_len _)
  have HLAW := Lib.hid hlaw; have HK4 := Lib.hid k4
  clear hlaw k4 h9
  obtain ⟨qa0, qa1, qa2⟩ := HVa.out.cells
  go_wp2_with fail
  refine (Expr_any cs ws (castL S) _ _ Ha.out).mono ?_
  rintro r wk5 ⟨⟨v, rfl, he⟩, x1⟩
  generalize exprS cs ws (castL S) = e at *
  obtain ⟨ea, el, ec, rfl, hk⟩ := he.shape
  have He : Hid (EVal wk5 (.agg #[.int .i64 e.op, .int .i64 e.wd, .int .i64 e.n, .slice ea el ec]) e) := ⟨_, rfl, hk.kids⟩
  clear he hk
  replace HX := Lib.hid (HX.out.trans x1); replace HDe := Lib.hid (HDe.out.ext x1); replace HMk := Lib.hid (HMk.out.ext x1); replace HNm := Lib.hid (HNm.out.ext x1); replace HPw := Lib.hid (HPw.out.ext x1); replace HVa := Lib.hid (HVa.out.ext x1); replace Ha := Lib.hid (Ha.out.ext x1)
  clear x1 qa0 qa1 qa2
  go_upto_region 5 with fail
  obtain ⟨W1, hW1⟩ : ∃ W1, W1 = wk5.alloc (.cells #[.int .i64 e.op, .int .i64 e.wd, .int .i64 e.n, .slice ea el ec] 26) := ⟨_, rfl⟩
  have x1 : Ext wk5 W1 := by rw [hW1]; exact (Ext.refl _).alloc _
  have HVe : Hid (VarE W1 wk5.heap.size e.op e.wd e.n (.slice ea el ec)) := by rw [hW1]; exact VarE.new _ _ _ _ _
  rw [← hW1]
  replace HX := Lib.hid (HX.out.trans x1); replace HDe := Lib.hid (HDe.out.ext x1); replace HMk := Lib.hid (HMk.out.ext x1); replace HNm := Lib.hid (HNm.out.ext x1); replace HPw := Lib.hid (HPw.out.ext x1); replace HVa := Lib.hid (HVa.out.ext x1); replace Ha := Lib.hid (Ha.out.ext x1); replace He := Lib.hid (He.out.ext x1)
  clear x1 hW1
  generalize wk5.heap.size = be at *
  rcases HLAW.out with ⟨o1, o2⟩ | ⟨o1, o2, o3, o4, o5⟩
  · rw [← HK4.out] at o2
    clear HK4 HLAW
    obtain ⟨qa0, qa1, qa2⟩ := HVa.out.cells
    obtain ⟨qe0, qe1, qe2, qe3⟩ := HVe.out.cells
    rw [o1] at qe0
    go_wp2_with fail
    exact bodyPost_ret (v := .bool true) (by simp [results, Tryd.results4, go_sem]; omega) rfl ⟨rfl, HX.out⟩
  · have hob : (e.op == 0) = false := by simp [o1]
    have O2 := Lib.hid o2; have O3 := Lib.hid o3; have O4 := Lib.hid o4; have O5 := Lib.hid o5
    clear o1 o2 o3 o4 o5 HK4 HLAW
    obtain ⟨qe0, qe1, qe2, qe3⟩ := HVe.out.cells
    go_upto_region 7 with fail
    clear qe0 qe1 qe2 qe3 hob
    go_cut [5, 6] (fun s5 s6 W => ∃ (b : Nat) (a1 : Option Addr) (l1 c1 : Nat) (a2 : Option Addr) (l2 c2 : Nat) (a3 : Option Addr) (l3 c3 : Nat), s5 = .pointer (some ⟨b, 0, none⟩) ∧ s6 = .int .i64 0 ∧ Var3 31 W b (.slice a1 l1 c1) (.slice a2 l2 c2) (.slice a3 l3 c3) ∧ SetC W (.agg #[.slice a1 l1 c1, .slice a2 l2 c2, .slice a3 l3 c3]) cs ws (castL S) ∧ Ext W1 W)
    case first =>
      obtain ⟨za0, za1, za2⟩ := HVa.out.cells
      obtain ⟨ze0, ze1, ze2, ze3⟩ := HVe.out.cells
      have HFk : Hid (∀ V : World, Ext W1 V → (V.cell? ⟨ba, 0, none⟩ = some (.slice a1 a2 a3) ∧ V.cell? ⟨ba, 1, none⟩ = some (.slice a4 a5 a6) ∧ V.cell? ⟨ba, 2, none⟩ = some (.slice a7 a8 a9)) ∧ (V.cell? ⟨be, 0, none⟩ = some (.int .i64 e.op) ∧ V.cell? ⟨be, 1, none⟩ = some (.int .i64 e.wd) ∧ V.cell? ⟨be, 2, none⟩ = some (.int .i64 e.n) ∧ V.cell? ⟨be, 3, none⟩ = some (.slice ea el ec))) := fun V hx => ⟨(HVa.out.ext hx).cells, (HVe.out.ext hx).cells⟩
      go_region_held3 (fun w' => (w'.cell? ⟨ba, 0, none⟩ = some (.slice a1 a2 a3) ∧ w'.cell? ⟨ba, 1, none⟩ = some (.slice a4 a5 a6) ∧ w'.cell? ⟨ba, 2, none⟩ = some (.slice a7 a8 a9)) ∧ (w'.cell? ⟨be, 0, none⟩ = some (.int .i64 e.op) ∧ w'.cell? ⟨be, 1, none⟩ = some (.int .i64 e.wd) ∧ w'.cell? ⟨be, 2, none⟩ = some (.int .i64 e.n) ∧ w'.cell? ⟨be, 3, none⟩ = some (.slice ea el ec)))
        ((first
          | exact ⟨⟨za0, za1, za2⟩, ze0, ze1, ze2, ze3⟩
          | (refine HFk.out _ ?_; repeat (first | exact Ext.refl _ | exact HEf.out | exact HEo.out | apply Ext.drew | apply Ext.alloc)
             done)
          | (refine HFk.out _ ?_; exact HEf.out.put3 (b := W1.heap.size) (Nat.le_refl _) _ _ _)
          | (refine HFk.out _ ?_; exact HEf.out.put3 (b := wo.heap.size) HEo.out.size _ _ _)
          | fail))
        ((first
          | (go_at_call 18; refine (cells_any cs ws (castL S) _ _ (Ha.out.setV.ext (by repeat (first | exact Ext.refl _ | apply Ext.drew | apply Ext.alloc))) HSM.out).mono ?_; rintro r wo ⟨v, rfl, oc, x1⟩
             obtain ⟨gB, gC, rfl, _⟩ := oc.shape' (cellsF_len _ _) (by omega)
             have HEo : Hid (Ext W1 wo) := Ext.trans (by repeat (first | exact Ext.refl _ | apply Ext.drew | apply Ext.alloc)) x1
             have HC := Lib.hid oc.cells
             try (have HZ : Hid (wo.heap[W1.heap.size]? = some (.cells #[.slice none 0 0, .slice none 0 0, .slice none 0 0] 31 (0, 0))) := old_at (heap_new _ _) ((Ext.refl _).drew.trans x1))
             clear oc x1)
          | (go_at_call 11
             refine (exp_of O3.out O4.out O5.out He.out HMk.out HDe.out (by repeat (first | exact Ext.refl _ | exact HEo.out | apply Ext.drew | apply Ext.alloc)) (HC.out.ext (by repeat (first | exact Ext.refl _ | apply Ext.drew | apply Ext.alloc))) ((setc_cells Ha.out).1.ext (by repeat (first | exact Ext.refl _ | exact HEo.out | apply Ext.drew | apply Ext.alloc))) hcl).mono ?_
             rintro r wf ⟨d1, l1, c1, d2, l2, c2, d3, l3, c3, rfl, ho, x1⟩
             have HO := Lib.hid ho; have X1 := Lib.hid x1
             have HEf : Hid (Ext W1 wf) := Ext.trans (by repeat (first | exact Ext.refl _ | exact HEo.out | apply Ext.drew | apply Ext.alloc)) x1
             try (have HZf := Lib.hid (old_at (old_at HZ.out (by repeat (first | exact Ext.refl _ | apply Ext.drew | apply Ext.alloc))) x1); obtain ⟨y0, y1, y2, f0, f1, f2⟩ := block3 HZf.out)
             try (have HZf : Hid (wf.heap[wo.heap.size]? = some (.cells #[.slice none 0 0, .slice none 0 0, .slice none 0 0] 31 (0, 0))) := old_at (heap_new _ _) x1
                  obtain ⟨y0, y1, y2, f0, f1, f2⟩ := block3 HZf.out)
             clear ho x1)))
      all_goals
        go_wp2_with fail
        go_meet
        first
        | (have h := set_end' HEf.out HO.out; exact ⟨_, d1, l1, c1, d2, l2, c2, d3, l3, c3, rfl, rfl, h.1, h.2.1, h.2.2⟩)
        | (have h0 := lt_heap HZf.out
           have h1 := HEo.out.size
           have h := set_end HEf.out (by first | exact Nat.le_refl _ | exact h1) (by first | (simp only [World.size_alloc]; omega) | (have := lt_heap HZ.out; simp only [World.size_alloc]; omega) | exact lt_heap HZ.out) HZf.out HO.out
           exact ⟨_, d1, l1, c1, d2, l2, c2, d3, l3, c3, rfl, rfl, h.1, h.2.1, h.2.2⟩)
    case rest =>
      obtain ⟨bb, b1, b2, b3, b4, b5, b6, b7, b8, b9, rfl, rfl, hV, hB, x1⟩ := hcut
      generalize wc = W2 at *
      have HVb := Lib.hid hV; have Hb := Lib.hid hB
      clear hV hB
      replace HX := Lib.hid (HX.out.trans x1); replace HDe := Lib.hid (HDe.out.ext x1); replace HMk := Lib.hid (HMk.out.ext x1); replace HNm := Lib.hid (HNm.out.ext x1); replace HPw := Lib.hid (HPw.out.ext x1); replace HVa := Lib.hid (HVa.out.ext x1); replace Ha := Lib.hid (Ha.out.ext x1); replace He := Lib.hid (He.out.ext x1); replace HVe := Lib.hid (HVe.out.ext x1)
      clear x1
      have HL1 := Lib.hid O2.out; have HL2 := Lib.hid (sameS_self cs ws (castL S))
      go_upto_region 8 with fail
      have HR0 := Lib.hid ((Ext.refl W2).drew)
      obtain ⟨za0, za1, za2⟩ := HVa.out.cells
      obtain ⟨zb0, zb1, zb2⟩ := HVb.out.cells
      obtain ⟨ze0, ze1, ze2, ze3⟩ := HVe.out.cells
      go_region_held3 (fun w' => (w'.cell? ⟨ba, 0, none⟩ = some (.slice a1 a2 a3) ∧ w'.cell? ⟨ba, 1, none⟩ = some (.slice a4 a5 a6) ∧ w'.cell? ⟨ba, 2, none⟩ = some (.slice a7 a8 a9)) ∧ (w'.cell? ⟨bb, 0, none⟩ = some (.slice b1 b2 b3) ∧ w'.cell? ⟨bb, 1, none⟩ = some (.slice b4 b5 b6) ∧ w'.cell? ⟨bb, 2, none⟩ = some (.slice b7 b8 b9)) ∧ (w'.cell? ⟨be, 0, none⟩ = some (.int .i64 e.op) ∧ w'.cell? ⟨be, 1, none⟩ = some (.int .i64 e.wd) ∧ w'.cell? ⟨be, 2, none⟩ = some (.int .i64 e.n) ∧ w'.cell? ⟨be, 3, none⟩ = some (.slice ea el ec)))
        (first | (with_reducible exact hk3) | (with_reducible exact hk2) | (with_reducible exact hk1) | exact ⟨⟨za0, za1, za2⟩, ⟨zb0, zb1, zb2⟩, ⟨ze0, ze1, ze2, ze3⟩⟩ | fail)
        ((first
          | (have hgo := HR2.out; clear hgo; go_at_call 20; refine (RSame10_any cs ws (castL S) cs ws (castL S) _ _ _ (Ha.out.setV.ext HR2.out) (Hb.out.setV.ext HR2.out)).mono ?_; rintro r wh3 ⟨rfl, x1⟩; rw [HL2.out]; have HR3 := Lib.hid (HR2.out.trans x1); have hk3 := And.intro (HVa.out.ext HR3.out).cells (And.intro (HVb.out.ext HR3.out).cells ((HVe.out.ext HR3.out).cells)); clear x1)
          | (have hgo := HR1.out; clear hgo; go_at_call 19; refine (Valid_any e _ _ (cellsF cs ws) false _ (He.out.ext HR1.out) (HC.out.ext (by first | exact Ext.refl _ | exact (Ext.refl _).drew)) (HMk.out.ext HR1.out)).mono ?_; rintro r wh2 ⟨rfl, x1⟩; rw [HL1.out]; have HR2 := Lib.hid (HR1.out.trans x1); have hk2 := And.intro (HVa.out.ext HR2.out).cells (And.intro (HVb.out.ext HR2.out).cells ((HVe.out.ext HR2.out).cells)); clear x1)
          | (have hgo := HR0.out; clear hgo; go_at_call 18; refine (cells_any cs ws (castL S) _ _ (Ha.out.setV.ext HR0.out) HSM.out).mono ?_; rintro r wh1 ⟨v, rfl, oc, x1⟩; obtain ⟨gB, gC, rfl, _⟩ := oc.shape' (cellsF_len _ _) (by omega); have HC := Lib.hid oc.cells; clear oc; have HR1 := Lib.hid (HR0.out.trans x1); have hk1 := And.intro (HVa.out.ext HR1.out).cells (And.intro (HVb.out.ext HR1.out).cells ((HVe.out.ext HR1.out).cells)); clear x1)))
      replace HX := Lib.hid (HX.out.trans HR3.out)
      go_wp2_with fail
      exact bodyPost_ret (v := .bool true) (by simp [results, Tryd.results4, go_sem]) rfl ⟨rfl, HX.out⟩
end Go.Proofs.YtdiopiekmdfklaaDoor
