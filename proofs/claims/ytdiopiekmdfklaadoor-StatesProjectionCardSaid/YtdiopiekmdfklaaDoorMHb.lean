/-
  The first check of law10 is true: the walk. Printed by gen_head10.py out of XHb.src.
-/
import Derived.Test.YtdiopiekmdfklaaDoorMLt
import Derived.Deep.RegionHeld3
namespace Go.Proofs.YtdiopiekmdfklaaDoor
open Go.RowKit

theorem cells_three {W : World} {B : Nat} {t : TypeId} {s1 s2 s3 : ByteArray} {x1 x2 x3 y1 y2 y3 : Int} (hb : W.heap[B]? = some (.cells #[.string s1, .int .i64 x1, .int .i64 0, .int .i64 y1, .bool false, .int .i64 0, .string s2, .int .i64 x2, .int .i64 0, .int .i64 y2, .bool false, .int .i64 0, .string s3, .int .i64 x3, .int .i64 0, .int .i64 y3, .bool false, .int .i64 0] t (0, 0))) : Cells W (.slice (some ⟨B, 0, none⟩) 3 3) [⟨s1, x1, 0, y1, false, 0⟩, ⟨s2, x2, 0, y2, false, 0⟩, ⟨s3, x3, 0, y3, false, 0⟩] := by
  refine .inr ⟨B, 0, 3, rfl, by simp, fun i h => ?_⟩
  have : i = 0 ∨ i = 1 ∨ i = 2 := by simp at h; omega
  rcases this with rfl | rfl | rfl <;> simp [CellAt, World.cell?, hb]
theorem three_any (w : World) : Calls Tryd.prog 37 #[] w fun r w' => ∃ B : Nat, r = .returned (.slice (some ⟨B, 0, none⟩) 3 3) ∧ Cells w' (.slice (some ⟨B, 0, none⟩) 3 3) hC3 ∧ Ext w w' := by
  go_enter Tryd.func37, Tryd.ntmps37
  go_wp2_with fail
  go_ret
  exact ⟨_, rfl, cells_three (heap_new _ _), (Ext.refl _).alloc _⟩
/-- states.Of on the fixed input. -/
theorem hd_of {W V : World} {ve vc vl : Value} (he : EVal W ve hE) (hM : Masks W) (hT : DeB W) (hx : Ext W V) (hc : Cells V vc hC3) (hl : Ints V vl [0, 1]) : Calls Tryd.prog 11 #[vc, vl, ve] V fun r w' =>
    ∃ a1 l1 c1 a2 l2 c2 a3 l3 c3, r = .returned (.tuple #[.agg #[.slice a1 l1 c1, .slice a2 l2 c2, .slice a3 l3 c3], .int .i64 0]) ∧ SetO w' V.heap.size (.agg #[.slice a1 l1 c1, .slice a2 l2 c2, .slice a3 l3 c3]) [0, 1] [2, 1] (castL hS) ∧ Ext V w' := by
  refine (Of_any hC3 [0, 1] hE vc vl ve V hc hl (he.ext hx) (by simp) (hM.ext hx) (hT.ext hx)).mono fun r w' hr => ?_
  unfold OfPost at hr
  rw [hd_err1, if_pos rfl, hd_wd, hd_in] at hr
  obtain ⟨v, rfl, h1, h2⟩ := hr
  obtain ⟨a1, l1, c1, a2, l2, c2, a3, l3, c3, rfl⟩ := h1.setV.shape'
  exact ⟨a1, l1, c1, a2, l2, c2, a3, l3, c3, rfl, h1, h2⟩
theorem hd_bad {cells : List CellD} {list : List Int} {e : E} {k : Int} {V : World} {ve vc vl : Value} (hk : ofErr cells list e = k) (h0 : k ≠ 0) (hb : list.length ≤ 1000000) (he : EVal V ve e) (hM : Masks V) (hT : DeB V) (hc : Cells V vc cells) (hl : Ints V vl list) : Calls Tryd.prog 11 #[vc, vl, ve] V fun r w' =>
    ∃ a1 l1 c1 a2 l2 c2 a3 l3 c3, r = .returned (.tuple #[.agg #[.slice a1 l1 c1, .slice a2 l2 c2, .slice a3 l3 c3], .int .i64 k]) ∧ Ext V w' := by
  refine (Of_any cells list e vc vl ve V hc hl he hb hM hT).mono fun r w' hr => ?_
  unfold OfPost at hr
  rw [hk, if_neg h0] at hr
  obtain ⟨v, rfl, h1, h2⟩ := hr
  obtain ⟨a1, l1, c1, a2, l2, c2, a3, l3, c3, rfl⟩ := h1.setV.shape'
  exact ⟨a1, l1, c1, a2, l2, c2, a3, l3, c3, rfl, h2⟩
theorem hd_prj {V : World} {va vl : Value} (ha : SetV V va [0, 1] [2, 1] (castL hS)) (hl : Ints V vl [1]) (hT : DeB V) : Calls Tryd.prog 29 #[va, vl] V (RetC 0 [1] [1] [0, 1] V) := by
  refine (Project_any [0, 1] [2, 1] (castL hS) [1] va vl V ha hl (by simp) hT).mono fun r w' hr => ?_
  unfold ProjPost at hr
  rw [hd_prB, if_pos rfl, hd_prW, hd_prL] at hr
  exact hr.retC
theorem hd_minus {V : World} {va vb : Value} (ha : SetV V va [0, 1] [2, 1] (castL hS)) (hb : SetV V vb [0, 1] [2, 1] (castL hS)) (hT : DeB V) : Calls Tryd.prog 33 #[va, vb] V (RetC 0 [0, 1] [2, 1] [] V) := by
  refine (Minus_any _ _ _ _ _ _ va vb V ha hb hT).mono fun r w' hr => ?_
  unfold CombPost at hr
  rw [hd_comb, if_pos rfl, hd_min] at hr
  exact hr.retC
/-- The region's end: the variable was made ahead of the call, or behind it. -/
theorem hd_end {W wf : World} {b n : Nat} {x y z : Value} (hE : Ext W wf) (hb0 : W.heap.size ≤ b) (hb : b < n) (hz : wf.heap[b]? = some (.cells #[.slice none 0 0, .slice none 0 0, .slice none 0 0] 31 (0, 0))) (ho : SetO wf n (.agg #[x, y, z]) [0, 1] [2, 1] (castL hS)) :
    Var3 31 (put3 wf b x y z) b x y z ∧ SetC (put3 wf b x y z) (.agg #[x, y, z]) [0, 1] [2, 1] (castL hS) ∧ Ext W (put3 wf b x y z) :=
  ⟨put3_new hz, (ho.put3 hb _ _ _).setC, hE.put3 hb0 _ _ _⟩
theorem hd_end' {W wf : World} {n : Nat} {x y z : Value} (hE : Ext W wf) (ho : SetO wf n (.agg #[x, y, z]) [0, 1] [2, 1] (castL hS)) :
    Var3 31 (wf.alloc (.cells #[x, y, z] 31)) wf.heap.size x y z ∧ SetC (wf.alloc (.cells #[x, y, z] 31)) (.agg #[x, y, z]) [0, 1] [2, 1] (castL hS) ∧ Ext W (wf.alloc (.cells #[x, y, z] 31)) :=
  ⟨Var3.new _ _ _ _ _, ho.setC.ext ((Ext.refl _).alloc _), hE.alloc _⟩
theorem row2 {w : World} {b : Nat} {x y : Int} {t : TypeId} (h : w.heap[b]? = some (.cells #[.int .i64 x, .int .i64 y] t (0, 0))) : Ints w (.slice (some ⟨b, 0, none⟩) 2 2) [x, y] := ints_row (l := [x, y]) h rfl (by omega)
theorem row1 {w : World} {b : Nat} {x : Int} {t : TypeId} (h : w.heap[b]? = some (.cells #[.int .i64 x] t (0, 0))) : Ints w (.slice (some ⟨b, 0, none⟩) 1 1) [x] := ints_row (l := [x]) h rfl (by omega)
theorem row3 {w : World} {b : Nat} {x y z : Int} {t : TypeId} (h : w.heap[b]? = some (.cells #[.int .i64 x, .int .i64 y, .int .i64 z] t (0, 0))) : Ints w (.slice (some ⟨b, 0, none⟩) 3 3) [x, y, z] := ints_row (l := [x, y, z]) h rfl (by omega)

set_option maxRecDepth 100000 in
set_option maxHeartbeats 8000000 in
theorem head_any (w : World) (hT : DeB w) (hM : Masks w) (hN : Names w) (hP : Pow10 w) : Calls Tryd.prog 8 #[] w fun r w' => r = .returned (.bool true) ∧ Ext w w' := by
  have HT := Lib.hid hT; have HM := Lib.hid hM; have HNm := Lib.hid hN; have HPw := Lib.hid hP
  clear hT hM hN hP
  go_enter Tryd.func8, Tryd.ntmps8
  go_wp2_with fail
  refine (RConst_any 1 2 _).mono ?_
  rintro r w1 ⟨rfl, x1⟩
  have HX := Lib.hid x1; clear x1
  go_wp2_with fail
  refine (RCell_any 0 2 _).mono ?_
  rintro r w2 ⟨rfl, x1⟩
  replace HX := Lib.hid (HX.out.trans x1); clear x1
  go_wp2_with fail
  refine (RTwo_any 13 1 (.mk 1 2 1 []) (.mk 2 2 0 []) _ _ _ (ev_leaf _ _ _ _) (ev_leaf _ _ _ _)).mono ?_
  rintro r w5 ⟨⟨v, rfl, e⟩, x1⟩
  obtain ⟨ea, el, ec, rfl, e⟩ := e.shapeN
  have HE := Lib.hid e
  replace HX := Lib.hid (HX.out.trans x1); clear x1 e
  go_upto_region 2 with fail
  obtain ⟨W1, hW1⟩ : ∃ W1, W1 = w5.alloc (.cells #[.int .i64 13, .int .i64 1, .int .i64 0, .slice ea el ec] 26) := ⟨_, rfl⟩
  have x1 : Ext w5 W1 := by rw [hW1]; exact (Ext.refl _).alloc _
  have HVe : Hid (VarE W1 w5.heap.size 13 1 0 (.slice ea el ec)) := by rw [hW1]; exact VarE.new _ _ _ _ _
  rw [← hW1]
  replace HX := Lib.hid (HX.out.trans x1); replace HE : Hid (EVal W1 _ hE) := Lib.hid (HE.out.ext x1); replace HT := Lib.hid (HT.out.ext HX.out); replace HM := Lib.hid (HM.out.ext HX.out); replace HNm := Lib.hid (HNm.out.ext HX.out); replace HPw := Lib.hid (HPw.out.ext HX.out)
  clear x1 hW1
  generalize w5.heap.size = be at *
  go_cut [2, 3] (fun s2 s3 W => ∃ (b : Nat) (a1 : Option Addr) (l1 c1 : Nat) (a2 : Option Addr) (l2 c2 : Nat) (a3 : Option Addr) (l3 c3 : Nat), s2 = .pointer (some ⟨b, 0, none⟩) ∧ s3 = .int .i64 0 ∧ Var3 31 W b (.slice a1 l1 c1) (.slice a2 l2 c2) (.slice a3 l3 c3) ∧ SetC W (.agg #[.slice a1 l1 c1, .slice a2 l2 c2, .slice a3 l3 c3]) [0, 1] [2, 1] (castL hS) ∧ Ext W1 W)
  case first =>
    obtain ⟨z0, z1, z2, z3⟩ := HVe.out.cells
    go_region_held3 (fun w' => w'.cell? ⟨be, 0, none⟩ = some (.int .i64 13) ∧ w'.cell? ⟨be, 1, none⟩ = some (.int .i64 1) ∧ w'.cell? ⟨be, 2, none⟩ = some (.int .i64 0) ∧ w'.cell? ⟨be, 3, none⟩ = some (.slice ea el ec))
      ((first
        | exact ⟨z0, z1, z2, z3⟩
        | (refine (HVe.out.ext ?_).cells; repeat (first | exact Ext.refl _ | exact HEf.out | exact HEo.out | apply Ext.drew | apply Ext.alloc)
           done)
        | (refine (HVe.out.ext ?_).cells; exact HEf.out.put3 (b := W1.heap.size) (Nat.le_refl _) _ _ _)
        | (refine (HVe.out.ext ?_).cells; exact HEf.out.put3 (b := W1.heap.size + 1) (Nat.le_succ _) _ _ _)
        | (refine (HVe.out.ext ?_).cells; exact HEf.out.put3 (b := wo.heap.size) HEo.out.size _ _ _)
        | (refine (HVe.out.ext ?_).cells; exact HEf.out.put3 (b := wo.heap.size + 1) (Nat.le_succ_of_le HEo.out.size) _ _ _)
        | fail))
      ((first
        | (go_at_call 37; refine (three_any _).mono ?_; rintro r wo ⟨B, rfl, hc, x1⟩
           have HEo : Hid (Ext W1 wo) := Ext.trans (by repeat (first | exact Ext.refl _ | apply Ext.drew | apply Ext.alloc)) x1
           have HC := Lib.hid hc
           try (have HI : Hid (Ints wo (.slice (some ⟨W1.heap.size, 0, none⟩) 2 2) [0, 1]) := by first | exact (row2 (heap_new _ _)).ext ((Ext.refl _).drew.trans x1) | exact (row2 (heap_new1 _ _ _)).ext ((Ext.refl _).drew.trans x1))
           try (have HI : Hid (Ints wo (.slice (some ⟨W1.heap.size + 1, 0, none⟩) 2 2) [0, 1]) := (row2 (heap_new2 _ _ _)).ext ((Ext.refl _).drew.trans x1))
           try (have HZ : Hid (wo.heap[W1.heap.size]? = some (.cells #[.slice none 0 0, .slice none 0 0, .slice none 0 0] 31 (0, 0))) := by first | exact old_at (heap_new _ _) ((Ext.refl _).drew.trans x1) | exact old_at (heap_new1 _ _ _) ((Ext.refl _).drew.trans x1))
           try (have HZ : Hid (wo.heap[W1.heap.size + 1]? = some (.cells #[.slice none 0 0, .slice none 0 0, .slice none 0 0] 31 (0, 0))) := old_at (heap_new2 _ _ _) ((Ext.refl _).drew.trans x1))
           clear hc x1)
        | (go_at_call 11
           refine (hd_of HE.out HM.out HT.out (by repeat (first | exact Ext.refl _ | exact HEo.out | apply Ext.drew | apply Ext.alloc)) (HC.out.ext (by repeat (first | exact Ext.refl _ | apply Ext.drew | apply Ext.alloc))) (by first | exact row2 (heap_new _ _) | exact row2 (heap_new1 _ _ _) | exact row2 (heap_new2 _ _ _) | exact HI.out.ext (by repeat (first | exact Ext.refl _ | apply Ext.drew | apply Ext.alloc)))).mono ?_
           rintro r wf ⟨a1, l1, c1, a2, l2, c2, a3, l3, c3, rfl, ho, x1⟩
           have HO := Lib.hid ho; have X1 := Lib.hid x1
           have HEf : Hid (Ext W1 wf) := Ext.trans (by repeat (first | exact Ext.refl _ | exact HEo.out | apply Ext.drew | apply Ext.alloc)) x1
           try (have HZf := Lib.hid (old_at (old_at HZ.out (by repeat (first | exact Ext.refl _ | apply Ext.drew | apply Ext.alloc))) x1); obtain ⟨y0, y1, y2, f0, f1, f2⟩ := block3 HZf.out)
           try (have HZf : Hid (wf.heap[wo.heap.size]? = some (.cells #[.slice none 0 0, .slice none 0 0, .slice none 0 0] 31 (0, 0))) := by first | exact old_at (heap_new _ _) x1 | exact old_at (heap_new1 _ _ _) x1
                obtain ⟨y0, y1, y2, f0, f1, f2⟩ := block3 HZf.out)
           try (have HZf : Hid (wf.heap[wo.heap.size + 1]? = some (.cells #[.slice none 0 0, .slice none 0 0, .slice none 0 0] 31 (0, 0))) := old_at (heap_new2 _ _ _) x1
                obtain ⟨y0, y1, y2, f0, f1, f2⟩ := block3 HZf.out)
           clear ho x1)))
    all_goals
      go_wp2_with fail
      go_meet
      first
      | (have h := hd_end' HEf.out HO.out; exact ⟨_, a1, l1, c1, a2, l2, c2, a3, l3, c3, rfl, rfl, h.1, h.2.1, h.2.2⟩)
      | (have h0 := lt_heap HZf.out
         have h1 := HEo.out.size
         have h := hd_end HEf.out (by first | exact Nat.le_refl _ | exact Nat.le_succ _ | exact h1 | exact Nat.le_succ_of_le h1) (by first | (simp only [World.size_alloc]; omega) | (have := lt_heap HZ.out; simp only [World.size_alloc]; omega) | exact lt_heap HZ.out) HZf.out HO.out
         exact ⟨_, a1, l1, c1, a2, l2, c2, a3, l3, c3, rfl, rfl, h.1, h.2.1, h.2.2⟩)
  case rest =>
    obtain ⟨ba, a1, a2, a3, a4, a5, a6, a7, a8, a9, rfl, rfl, hV, hA, hx⟩ := hcut
    generalize wc = W2 at *
    have HVa := Lib.hid hV; have Ha := Lib.hid hA
    have HDe := Lib.hid (HT.out.ext hx); have HMk := Lib.hid (HM.out.ext hx)
    replace HX := Lib.hid (HX.out.trans hx); replace HNm := Lib.hid (HNm.out.ext hx); replace HPw := Lib.hid (HPw.out.ext hx)
    clear hV hA hx HT HM HE HVe
    obtain ⟨qa0, qa1, qa2⟩ := HVa.out.cells
    go_wp2_with fail
    refine (hd_prj (Ha.out.setV.ext ((Ext.refl _).alloc _)) (row1 (heap_new _ _)) (HDe.out.ext ((Ext.refl _).alloc _))).mono ?_
    rintro r wk1 ⟨b1, b2, b3, b4, b5, b6, b7, b8, b9, rfl, e, x1⟩
    replace x1 : Ext W2 wk1 := ((Ext.refl _).alloc _).trans x1
    have Hb := Lib.hid e; clear e
    replace HX := Lib.hid (HX.out.trans x1); replace HDe := Lib.hid (HDe.out.ext x1); replace HMk := Lib.hid (HMk.out.ext x1); replace HNm := Lib.hid (HNm.out.ext x1); replace HPw := Lib.hid (HPw.out.ext x1); replace HVa := Lib.hid (HVa.out.ext x1); replace Ha := Lib.hid (Ha.out.ext x1)
    clear x1 qa0 qa1 qa2
    go_upto_region 4 with fail
    obtain ⟨Wk1, hWk⟩ : ∃ Wk, Wk = wk1.alloc (.cells #[.slice b1 b2 b3, .slice b4 b5 b6, .slice b7 b8 b9] 31) := ⟨_, rfl⟩
    have x1 : Ext wk1 Wk1 := by rw [hWk]; exact (Ext.refl _).alloc _
    have HVb : Hid (Var3 31 Wk1 wk1.heap.size (.slice b1 b2 b3) (.slice b4 b5 b6) (.slice b7 b8 b9)) := by rw [hWk]; exact Var3.new _ _ _ _ _
    rw [← hWk]
    replace HX := Lib.hid (HX.out.trans x1); replace HDe := Lib.hid (HDe.out.ext x1); replace HMk := Lib.hid (HMk.out.ext x1); replace HNm := Lib.hid (HNm.out.ext x1); replace HPw := Lib.hid (HPw.out.ext x1); replace HVa := Lib.hid (HVa.out.ext x1); replace Ha := Lib.hid (Ha.out.ext x1); replace Hb := Lib.hid (Hb.out.ext x1)
    clear x1 hWk
    generalize wk1.heap.size = bb at *
    go_wp2_with fail
    refine (three_any _).mono ?_
    rintro r wk2 ⟨B3, rfl, e, x1⟩
    have HCc := Lib.hid e; clear e
    replace HX := Lib.hid (HX.out.trans x1); replace HDe := Lib.hid (HDe.out.ext x1); replace HMk := Lib.hid (HMk.out.ext x1); replace HNm := Lib.hid (HNm.out.ext x1); replace HPw := Lib.hid (HPw.out.ext x1); replace HVa := Lib.hid (HVa.out.ext x1); replace Ha := Lib.hid (Ha.out.ext x1); replace Hb := Lib.hid (Hb.out.ext x1); replace HVb := Lib.hid (HVb.out.ext x1)
    clear x1
    go_wp2_with fail
    refine (RCell_any 1 1 _).mono ?_
    rintro r wk3 ⟨rfl, x1⟩
    have HI1 : Hid (Ints wk3 (.slice (some ⟨wk2.heap.size, 0, none⟩) 1 1) [0]) := (row1 (heap_new _ _)).ext x1
    replace x1 : Ext wk2 wk3 := ((Ext.refl _).alloc _).trans x1
    replace HX := Lib.hid (HX.out.trans x1); replace HDe := Lib.hid (HDe.out.ext x1); replace HMk := Lib.hid (HMk.out.ext x1); replace HNm := Lib.hid (HNm.out.ext x1); replace HPw := Lib.hid (HPw.out.ext x1); replace HVa := Lib.hid (HVa.out.ext x1); replace Ha := Lib.hid (Ha.out.ext x1); replace Hb := Lib.hid (Hb.out.ext x1); replace HVb := Lib.hid (HVb.out.ext x1); replace HCc := Lib.hid (HCc.out.ext x1)
    clear x1
    generalize wk2.heap.size = bi1 at *
    go_wp2_with fail
    refine (hd_bad hd_err2 (by decide) (by decide) (ev_leaf _ _ _ _) HMk.out HDe.out HCc.out HI1.out).mono ?_
    rintro r wk4 ⟨d1, d2, d3, d4, d5, d6, d7, d8, d9, rfl, x1⟩
    clear HI1
    replace HX := Lib.hid (HX.out.trans x1); replace HDe := Lib.hid (HDe.out.ext x1); replace HMk := Lib.hid (HMk.out.ext x1); replace HNm := Lib.hid (HNm.out.ext x1); replace HPw := Lib.hid (HPw.out.ext x1); replace HVa := Lib.hid (HVa.out.ext x1); replace Ha := Lib.hid (Ha.out.ext x1); replace Hb := Lib.hid (Hb.out.ext x1); replace HVb := Lib.hid (HVb.out.ext x1); replace HCc := Lib.hid (HCc.out.ext x1)
    clear x1
    go_upto_region 5 with fail
    obtain ⟨Wk4, hWk⟩ : ∃ Wk, Wk = wk4.alloc (.cells #[.slice d1 d2 d3, .slice d4 d5 d6, .slice d7 d8 d9] 31) := ⟨_, rfl⟩
    have x1 : Ext wk4 Wk4 := by rw [hWk]; exact (Ext.refl _).alloc _
    have HVd : Hid (Var3 31 Wk4 wk4.heap.size (.slice d1 d2 d3) (.slice d4 d5 d6) (.slice d7 d8 d9)) := by rw [hWk]; exact Var3.new _ _ _ _ _
    rw [← hWk]
    replace HX := Lib.hid (HX.out.trans x1); replace HDe := Lib.hid (HDe.out.ext x1); replace HMk := Lib.hid (HMk.out.ext x1); replace HNm := Lib.hid (HNm.out.ext x1); replace HPw := Lib.hid (HPw.out.ext x1); replace HVa := Lib.hid (HVa.out.ext x1); replace Ha := Lib.hid (Ha.out.ext x1); replace Hb := Lib.hid (Hb.out.ext x1); replace HVb := Lib.hid (HVb.out.ext x1); replace HCc := Lib.hid (HCc.out.ext x1)
    clear x1 hWk
    generalize wk4.heap.size = bd at *
    clear HCc HVd
    go_wp2_with fail
    refine (three_any _).mono ?_
    rintro r wk5 ⟨B4, rfl, e, x1⟩
    have HCc := Lib.hid e; clear e
    replace HX := Lib.hid (HX.out.trans x1); replace HDe := Lib.hid (HDe.out.ext x1); replace HMk := Lib.hid (HMk.out.ext x1); replace HNm := Lib.hid (HNm.out.ext x1); replace HPw := Lib.hid (HPw.out.ext x1); replace HVa := Lib.hid (HVa.out.ext x1); replace Ha := Lib.hid (Ha.out.ext x1); replace Hb := Lib.hid (Hb.out.ext x1); replace HVb := Lib.hid (HVb.out.ext x1)
    clear x1
    go_wp2_with fail
    refine (RCell_any 0 2 _).mono ?_
    rintro r wk6 ⟨rfl, x1⟩
    have HI1 : Hid (Ints wk6 (.slice (some ⟨wk5.heap.size, 0, none⟩) 2 2) [0, 1]) := (row2 (heap_new _ _)).ext x1
    replace x1 : Ext wk5 wk6 := ((Ext.refl _).alloc _).trans x1
    replace HX := Lib.hid (HX.out.trans x1); replace HDe := Lib.hid (HDe.out.ext x1); replace HMk := Lib.hid (HMk.out.ext x1); replace HNm := Lib.hid (HNm.out.ext x1); replace HPw := Lib.hid (HPw.out.ext x1); replace HVa := Lib.hid (HVa.out.ext x1); replace Ha := Lib.hid (Ha.out.ext x1); replace Hb := Lib.hid (Hb.out.ext x1); replace HVb := Lib.hid (HVb.out.ext x1); replace HCc := Lib.hid (HCc.out.ext x1)
    clear x1
    generalize wk5.heap.size = bi2 at *
    go_wp2_with fail
    refine (hd_bad hd_err3 (by decide) (by decide) (ev_leaf _ _ _ _) HMk.out HDe.out HCc.out HI1.out).mono ?_
    rintro r wk7 ⟨g1, g2, g3, g4, g5, g6, g7, g8, g9, rfl, x1⟩
    clear HI1
    replace HX := Lib.hid (HX.out.trans x1); replace HDe := Lib.hid (HDe.out.ext x1); replace HMk := Lib.hid (HMk.out.ext x1); replace HNm := Lib.hid (HNm.out.ext x1); replace HPw := Lib.hid (HPw.out.ext x1); replace HVa := Lib.hid (HVa.out.ext x1); replace Ha := Lib.hid (Ha.out.ext x1); replace Hb := Lib.hid (Hb.out.ext x1); replace HVb := Lib.hid (HVb.out.ext x1); replace HCc := Lib.hid (HCc.out.ext x1)
    clear x1
    go_upto_region 6 with fail
    obtain ⟨Wk7, hWk⟩ : ∃ Wk, Wk = wk7.alloc (.cells #[.slice g1 g2 g3, .slice g4 g5 g6, .slice g7 g8 g9] 31) := ⟨_, rfl⟩
    have x1 : Ext wk7 Wk7 := by rw [hWk]; exact (Ext.refl _).alloc _
    have HVg : Hid (Var3 31 Wk7 wk7.heap.size (.slice g1 g2 g3) (.slice g4 g5 g6) (.slice g7 g8 g9)) := by rw [hWk]; exact Var3.new _ _ _ _ _
    rw [← hWk]
    replace HX := Lib.hid (HX.out.trans x1); replace HDe := Lib.hid (HDe.out.ext x1); replace HMk := Lib.hid (HMk.out.ext x1); replace HNm := Lib.hid (HNm.out.ext x1); replace HPw := Lib.hid (HPw.out.ext x1); replace HVa := Lib.hid (HVa.out.ext x1); replace Ha := Lib.hid (Ha.out.ext x1); replace Hb := Lib.hid (Hb.out.ext x1); replace HVb := Lib.hid (HVb.out.ext x1); replace HCc := Lib.hid (HCc.out.ext x1)
    clear x1 hWk
    generalize wk7.heap.size = bg at *
    clear HCc HVg
    obtain ⟨qa0, qa1, qa2⟩ := HVa.out.cells
    go_wp2_with fail
    refine (hd_minus Ha.out.setV Ha.out.setV HDe.out).mono ?_
    rintro r wk8 ⟨c1, c2, c3, c4, c5, c6, c7, c8, c9, rfl, e, x1⟩
    have Hc := Lib.hid e; clear e
    replace HX := Lib.hid (HX.out.trans x1); replace HDe := Lib.hid (HDe.out.ext x1); replace HMk := Lib.hid (HMk.out.ext x1); replace HNm := Lib.hid (HNm.out.ext x1); replace HPw := Lib.hid (HPw.out.ext x1); replace HVa := Lib.hid (HVa.out.ext x1); replace Ha := Lib.hid (Ha.out.ext x1); replace Hb := Lib.hid (Hb.out.ext x1); replace HVb := Lib.hid (HVb.out.ext x1)
    clear x1 qa0 qa1 qa2
    go_upto_region 7 with fail
    obtain ⟨Wk8, hWk⟩ : ∃ Wk, Wk = wk8.alloc (.cells #[.slice c1 c2 c3, .slice c4 c5 c6, .slice c7 c8 c9] 31) := ⟨_, rfl⟩
    have x1 : Ext wk8 Wk8 := by rw [hWk]; exact (Ext.refl _).alloc _
    have HVc : Hid (Var3 31 Wk8 wk8.heap.size (.slice c1 c2 c3) (.slice c4 c5 c6) (.slice c7 c8 c9)) := by rw [hWk]; exact Var3.new _ _ _ _ _
    rw [← hWk]
    replace HX := Lib.hid (HX.out.trans x1); replace HDe := Lib.hid (HDe.out.ext x1); replace HMk := Lib.hid (HMk.out.ext x1); replace HNm := Lib.hid (HNm.out.ext x1); replace HPw := Lib.hid (HPw.out.ext x1); replace HVa := Lib.hid (HVa.out.ext x1); replace Ha := Lib.hid (Ha.out.ext x1); replace Hb := Lib.hid (Hb.out.ext x1); replace HVb := Lib.hid (HVb.out.ext x1); replace Hc := Lib.hid (Hc.out.ext x1)
    clear x1 hWk
    generalize wk8.heap.size = bc at *
    obtain rfl : c8 = 0 := setc_len Hc.out
    obtain ⟨qa0, qa1, qa2⟩ := HVa.out.cells
    go_wp2_with fail
    refine (State_any [0, 1] [2, 1] (castL hS) 5 [0, 0, 7] _ _ _ (Ha.out.setV.ext ((Ext.refl _).alloc _)) (row3 (heap_new _ _)) (by simp)).mono ?_
    rintro r wk9 ⟨v, rfl, e, x1⟩
    replace x1 : Ext Wk8 wk9 := ((Ext.refl _).alloc _).trans x1
    rw [hd_st] at e
    obtain ⟨sa, sc, rfl⟩ := e.ints.shape
    have HSt : Hid (Ints _ (.slice sa [(1 : Int), 1, 7].length sc) [1, 1, 7]) := Lib.hid e.ints; clear e
    replace HX := Lib.hid (HX.out.trans x1); replace HDe := Lib.hid (HDe.out.ext x1); replace HMk := Lib.hid (HMk.out.ext x1); replace HNm := Lib.hid (HNm.out.ext x1); replace HPw := Lib.hid (HPw.out.ext x1); replace HVa := Lib.hid (HVa.out.ext x1); replace Ha := Lib.hid (Ha.out.ext x1); replace Hb := Lib.hid (Hb.out.ext x1); replace HVb := Lib.hid (HVb.out.ext x1); replace Hc := Lib.hid (Hc.out.ext x1); replace HVc := Lib.hid (HVc.out.ext x1)
    clear x1 qa0 qa1 qa2
    rw [show ([(1 : Int), 1, 7]).length = 3 from rfl] at *
    obtain ⟨qa0, qa1, qa2⟩ := HVa.out.cells
    go_wp2_with fail
    refine (RInts_any (castL hS) [1, 2, 3, 5, 6, 7] _ _ _ ((setc_in Ha.out).ext ((Ext.refl _).alloc _)) (ints_row (l := [1, 2, 3, 5, 6, 7]) (heap_new _ _) rfl (by decide))).mono ?_
    rintro r wk10 ⟨rfl, x1⟩
    replace x1 : Ext wk9 wk10 := ((Ext.refl _).alloc _).trans x1
    rw [show decide (castL hS = [1, 2, 3, 5, 6, 7]) = true by decide]
    replace HX := Lib.hid (HX.out.trans x1); replace HDe := Lib.hid (HDe.out.ext x1); replace HMk := Lib.hid (HMk.out.ext x1); replace HNm := Lib.hid (HNm.out.ext x1); replace HPw := Lib.hid (HPw.out.ext x1); replace HVa := Lib.hid (HVa.out.ext x1); replace Ha := Lib.hid (Ha.out.ext x1); replace Hb := Lib.hid (Hb.out.ext x1); replace HVb := Lib.hid (HVb.out.ext x1); replace Hc := Lib.hid (Hc.out.ext x1); replace HVc := Lib.hid (HVc.out.ext x1); replace HSt := Lib.hid (HSt.out.ext x1)
    clear x1 qa0 qa1 qa2
    obtain ⟨qa0, qa1, qa2⟩ := HVa.out.cells
    go_wp2_with fail
    refine (Expr_any [0, 1] [2, 1] (castL hS) _ _ Ha.out).mono ?_
    rintro r wk11 ⟨⟨v, rfl, e⟩, x1⟩
    rw [hd_expr] at e
    obtain ⟨xa, xn, xc, rfl, hk⟩ := e.shape
    have HXe : Hid (EVal wk11 (.agg #[.int .i64 14, .int .i64 1, .int .i64 0, .slice xa xn xc]) hX) := ⟨_, rfl, hk.kids⟩
    clear e hk
    replace HX := Lib.hid (HX.out.trans x1); replace HDe := Lib.hid (HDe.out.ext x1); replace HMk := Lib.hid (HMk.out.ext x1); replace HNm := Lib.hid (HNm.out.ext x1); replace HPw := Lib.hid (HPw.out.ext x1); replace HVa := Lib.hid (HVa.out.ext x1); replace Ha := Lib.hid (Ha.out.ext x1); replace Hb := Lib.hid (Hb.out.ext x1); replace HVb := Lib.hid (HVb.out.ext x1); replace Hc := Lib.hid (Hc.out.ext x1); replace HVc := Lib.hid (HVc.out.ext x1); replace HSt := Lib.hid (HSt.out.ext x1)
    clear x1 qa0 qa1 qa2
    go_wp2_with fail
    refine (Text_any hX _ _ HXe.out HMk.out HNm.out HPw.out).mono ?_
    rintro r wk12 ⟨rfl, x1⟩
    rw [hd_text]
    replace HX := Lib.hid (HX.out.trans x1); replace HDe := Lib.hid (HDe.out.ext x1); replace HMk := Lib.hid (HMk.out.ext x1); replace HNm := Lib.hid (HNm.out.ext x1); replace HPw := Lib.hid (HPw.out.ext x1); replace HVa := Lib.hid (HVa.out.ext x1); replace Ha := Lib.hid (Ha.out.ext x1); replace Hb := Lib.hid (Hb.out.ext x1); replace HVb := Lib.hid (HVb.out.ext x1); replace Hc := Lib.hid (Hc.out.ext x1); replace HVc := Lib.hid (HVc.out.ext x1); replace HSt := Lib.hid (HSt.out.ext x1)
    clear x1
    obtain ⟨qb0, qb1, qb2⟩ := HVb.out.cells
    go_wp2_with fail
    refine (RInts_any [0, 1] [0, 1] _ _ _ ((setc_in Hb.out).ext ((Ext.refl _).alloc _)) (row2 (heap_new _ _))).mono ?_
    rintro r wk13 ⟨rfl, x1⟩
    replace x1 : Ext wk12 wk13 := ((Ext.refl _).alloc _).trans x1
    rw [show decide (([0, 1] : List Int) = [0, 1]) = true by decide]
    replace HX := Lib.hid (HX.out.trans x1); replace HDe := Lib.hid (HDe.out.ext x1); replace HMk := Lib.hid (HMk.out.ext x1); replace HNm := Lib.hid (HNm.out.ext x1); replace HPw := Lib.hid (HPw.out.ext x1); replace HVa := Lib.hid (HVa.out.ext x1); replace Ha := Lib.hid (Ha.out.ext x1); replace Hb := Lib.hid (Hb.out.ext x1); replace HVb := Lib.hid (HVb.out.ext x1); replace Hc := Lib.hid (Hc.out.ext x1); replace HVc := Lib.hid (HVc.out.ext x1); replace HSt := Lib.hid (HSt.out.ext x1)
    clear x1 qb0 qb1 qb2
    obtain ⟨qa0, qa1, qa2⟩ := HVa.out.cells
    obtain ⟨qc0, qc1, qc2⟩ := HVc.out.cells
    go_wp2_with fail
    refine (Number_any [0, 1] [2, 1] (castL hS) [3, 1, 7] _ _ _ (Ha.out.setV.ext ((Ext.refl _).alloc _)) (row3 (heap_new _ _))).mono ?_
    rintro r wk14 ⟨rfl, x1⟩
    replace x1 : Ext wk13 wk14 := ((Ext.refl _).alloc _).trans x1
    rw [hd_num]
    replace HX := Lib.hid (HX.out.trans x1); replace HDe := Lib.hid (HDe.out.ext x1); replace HMk := Lib.hid (HMk.out.ext x1); replace HNm := Lib.hid (HNm.out.ext x1); replace HPw := Lib.hid (HPw.out.ext x1); replace HVa := Lib.hid (HVa.out.ext x1); replace Ha := Lib.hid (Ha.out.ext x1); replace Hb := Lib.hid (Hb.out.ext x1); replace HVb := Lib.hid (HVb.out.ext x1); replace Hc := Lib.hid (Hc.out.ext x1); replace HVc := Lib.hid (HVc.out.ext x1); replace HSt := Lib.hid (HSt.out.ext x1)
    clear x1 qa0 qa1 qa2 qc0 qc1 qc2
    go_wp2_with fail
    refine (RInts_any [1, 1, 7] [1, 1, 7] _ _ _ (HSt.out.ext ((Ext.refl _).alloc _)) (row3 (heap_new _ _))).mono ?_
    rintro r wk15 ⟨rfl, x1⟩
    replace x1 : Ext wk14 wk15 := ((Ext.refl _).alloc _).trans x1
    rw [show decide (([1, 1, 7] : List Int) = [1, 1, 7]) = true by decide]
    replace HX := Lib.hid (HX.out.trans x1); replace HDe := Lib.hid (HDe.out.ext x1); replace HMk := Lib.hid (HMk.out.ext x1); replace HNm := Lib.hid (HNm.out.ext x1); replace HPw := Lib.hid (HPw.out.ext x1); replace HVa := Lib.hid (HVa.out.ext x1); replace Ha := Lib.hid (Ha.out.ext x1); replace Hb := Lib.hid (Hb.out.ext x1); replace HVb := Lib.hid (HVb.out.ext x1); replace Hc := Lib.hid (Hc.out.ext x1); replace HVc := Lib.hid (HVc.out.ext x1); replace HSt := Lib.hid (HSt.out.ext x1)
    clear x1
    obtain ⟨qa0, qa1, qa2⟩ := HVa.out.cells
    go_wp2_with fail
    refine (StContains_any [0, 1] [2, 1] (castL hS) [1, 1, 7] _ _ _ Ha.out.setV HSt.out).mono ?_
    rintro r wk16 ⟨rfl, x1⟩
    rw [hd_con1]
    replace HX := Lib.hid (HX.out.trans x1); replace HDe := Lib.hid (HDe.out.ext x1); replace HMk := Lib.hid (HMk.out.ext x1); replace HNm := Lib.hid (HNm.out.ext x1); replace HPw := Lib.hid (HPw.out.ext x1); replace HVa := Lib.hid (HVa.out.ext x1); replace Ha := Lib.hid (Ha.out.ext x1); replace Hb := Lib.hid (Hb.out.ext x1); replace HVb := Lib.hid (HVb.out.ext x1); replace Hc := Lib.hid (Hc.out.ext x1); replace HVc := Lib.hid (HVc.out.ext x1); replace HSt := Lib.hid (HSt.out.ext x1)
    clear x1 qa0 qa1 qa2
    obtain ⟨qc0, qc1, qc2⟩ := HVc.out.cells
    go_wp2_with fail
    refine (StContains_any [0, 1] [2, 1] [] [1, 1, 7] _ _ _ Hc.out.setV HSt.out).mono ?_
    rintro r wk17 ⟨rfl, x1⟩
    rw [hd_con2]
    replace HX := Lib.hid (HX.out.trans x1); replace HDe := Lib.hid (HDe.out.ext x1); replace HMk := Lib.hid (HMk.out.ext x1); replace HNm := Lib.hid (HNm.out.ext x1); replace HPw := Lib.hid (HPw.out.ext x1); replace HVa := Lib.hid (HVa.out.ext x1); replace Ha := Lib.hid (Ha.out.ext x1); replace Hb := Lib.hid (Hb.out.ext x1); replace HVb := Lib.hid (HVb.out.ext x1); replace Hc := Lib.hid (Hc.out.ext x1); replace HVc := Lib.hid (HVc.out.ext x1); replace HSt := Lib.hid (HSt.out.ext x1)
    clear x1 qc0 qc1 qc2
    go_wp2_with fail
    go_ret
    exact ⟨rfl, HX.out⟩
end Go.Proofs.YtdiopiekmdfklaaDoor
