/-
  The walk of relation.shape.
  The walk of relation.Identity.
-/
import Derived.Test.YtlnahhlddekhoaaDoorMOfa
import Derived.Test.YtlnahhlddekhoaaDoorMRgc
namespace Go.Proofs.YtlnahhlddekhoaaDoor
open Go.RowKit

/-- The constant 0 of one bit. -/
def zeroE : E := .mk 1 1 0 []
theorem zeroE_valid (cells : List CellD) (pair : Bool) : zeroE.valid cells pair = true := rfl
theorem zeroE_sup (list : List Int) : supB list zeroE = true := rfl
theorem zeroE_eval (old now : List Int) : zeroE.eval old now = 0 := rfl
def shapeErr (cells : List CellD) (list : List Int) : Int := if widthsB cells list then if sumI (wOf cells list) ≤ 6 then 0 else 2 else 1
theorem zeroE_in (cells : List CellD) (list : List Int) : ofIn cells list zeroE = [] := by
  unfold ofIn
  rw [List.filter_eq_nil_iff]
  intro n _
  rw [zeroE_eval]; decide
theorem zeroE_err (cells : List CellD) (list : List Int) : ofErr cells list zeroE = if widthsB cells list then if sumI (wOf cells list) ≤ 12 then 0 else 2 else 1 := by
  unfold ofErr
  rw [zeroE_valid, zeroE_sup]
  rfl
def ShapePost (cells : List CellD) (list : List Int) (w : World) (r : Ending) (w' : World) : Prop :=
  if shapeErr cells list = 0 then SetRes 0 list (wOf cells list) [] w r w' else SetRes (shapeErr cells list) [] [] [] w r w'

set_option maxHeartbeats 2000000 in
theorem rshape_any (cells : List CellD) (list : List Int) (vc vl : Value) (w : World) (hc : Cells w vc cells) (hl : Ints w vl list) (hb : list.length ≤ 1000000) (hM : Masks w) (hT : DeB w) : Calls Tryd.prog 61 #[vc, vl] w (ShapePost cells list w) := by
  obtain ⟨ca, cc, rfl⟩ := hc.shape
  obtain ⟨la, lc, rfl⟩ := hl.shape
  have hx : Ext w (w.alloc (.cells #[.slice none 0 0, .slice none 0 0, .slice none 0 0] 27)) := (Ext.refl w).alloc _
  have HC := Lib.hid (hc.ext hx); have HL := Lib.hid (hl.ext hx); have HM := Lib.hid (hM.ext hx); have HT := Lib.hid (hT.ext hx); have HX := Lib.hid hx
  clear hc hl hM hT hx
  go_enter Tryd.func61, Tryd.ntmps61
  go_wp2_with fail
  refine (Of_any cells list zeroE _ _ _ _ HC.out HL.out ⟨_, rfl, .inl ⟨⟨_, _, rfl⟩, rfl⟩⟩ hb HM.out HT.out).mono ?_
  intro r w1 h1
  unfold OfPost at h1
  rw [zeroE_err, zeroE_in, show castL [] = ([] : List Int) from rfl] at h1
  cases hwb : widthsB cells list with
  | false =>
    rw [hwb] at h1
    have HS : Hid (shapeErr cells list = 1) := by unfold Hid shapeErr; rw [hwb]; rfl
    clear hwb
    obtain ⟨v, rfl, hv, x1⟩ := h1
    obtain ⟨sa, sb, sc, sd, se, sf, rfl⟩ := hv.shape
    obtain ⟨w2, hw2⟩ : ∃ w2, w2 = w1.alloc (.cells #[.slice sa 0 sb, .slice sc 0 sd, .slice se 0 sf] 27) := ⟨_, rfl⟩
    have x2 : Ext w1 w2 := by rw [hw2]; exact (Ext.refl _).alloc _
    have hb2 : w2.heap[w1.heap.size]? = some (.cells #[.slice sa 0 sb, .slice sc 0 sd, .slice se 0 sf] 27 (0, 0)) := by rw [hw2]; exact heap_new _ _
    obtain ⟨y0, y1, y2, _, _, _⟩ := block3 hb2
    have HV := Lib.hid (hv.kept x2); have X2 := Lib.hid (x1.trans x2); have HW2 := Lib.hid hw2
    clear hv x1 x2 hw2 hb2
    go_upto_region 2 with fail
    first | rw [← HW2.out] | skip
    have hR := X2.out.block w.heap.size (by simp)
    rw [heap_new] at hR
    obtain ⟨z0, z1, z2, f0, f1, f2⟩ := block3 hR
    have HR := Lib.hid (put3_new (x := .slice sa 0 sb) (y := .slice sc 0 sd) (z := .slice se 0 sf) hR)
    have HF : Hid (ShapePost cells list w (.returned (.tuple #[.agg #[.slice sa 0 sb, .slice sc 0 sd, .slice se 0 sf], .int .i64 1])) (put3 w2 w.heap.size (.slice sa 0 sb) (.slice sc 0 sd) (.slice se 0 sf))) := by
      unfold Hid ShapePost
      rw [HS.out]
      exact ⟨_, rfl, (HV.out.put3 (by simp) _ _ _).mono (by simp), (HX.out.trans X2.out).put3 (Nat.le_refl _) _ _ _⟩
    clear hR
    go_wp2_with fail
    exact bodyPost_ret (v := .tuple #[.agg #[.slice sa 0 sb, .slice sc 0 sd, .slice se 0 sf], .int .i64 1]) (results_row_tmp Tryd.results61 _ _ w.heap.size 27 _ (0, 0) _ rfl HR.out Tryd.underlying27 rfl sizeSet) rfl HF.out
  | true =>
    rw [hwb] at h1
    by_cases h12 : sumI (wOf cells list) ≤ 12
    · rw [if_pos rfl, if_pos h12] at h1
      have hsh : shapeB list (wOf cells list) = true := by
        have h := hwb
        unfold widthsB at h
        rw [Bool.and_eq_true] at h
        exact h.2
      have HSH := Lib.hid hsh
      clear hsh
      rw [if_pos rfl] at h1
      obtain ⟨v, rfl, hv, x1⟩ := h1
      obtain ⟨sa, sb, sc, sd, se, sf, rfl⟩ := hv.shape
      obtain ⟨w2, hw2⟩ : ∃ w2, w2 = w1.alloc (.cells #[.slice sa list.length sb, .slice sc (wOf cells list).length sd, .slice se 0 sf] 27) := ⟨_, rfl⟩
      have x2 : Ext w1 w2 := by rw [hw2]; exact (Ext.refl _).alloc _
      have hb2 : w2.heap[w1.heap.size]? = some (.cells #[.slice sa list.length sb, .slice sc (wOf cells list).length sd, .slice se 0 sf] 27 (0, 0)) := by rw [hw2]; exact heap_new _ _
      obtain ⟨y0, y1, y2, _, _, _⟩ := block3 hb2
      have HV := Lib.hid (hv.kept x2); have X2 := Lib.hid (x1.trans x2); have HW2 := Lib.hid hw2
      clear hv x1 x2 hw2 hb2
      have HWB := Lib.hid hwb
      clear hwb
      go_upto_region 2 with fail
      rw [← HW2.out]
      go_wp2_with fail
      refine (rsum_any (wOf cells list) _ _ (by obtain ⟨_, _, _, e, _, h2, _⟩ := HV.out.setV; cases e; exact h2) (shape_widths HSH.out)).mono ?_
      rintro r w3 ⟨rfl, hw3⟩
      rw [hw3]; clear hw3 w3
      have y1' := y1
      by_cases h6 : sumI (wOf cells list) ≤ 6
      · have HS : Hid (shapeErr cells list = 0) := by unfold Hid shapeErr; rw [HWB.out, if_pos rfl, if_pos h6]
        generalize sumI (wOf cells list) = sm at *
        have hR := X2.out.block w.heap.size (by simp)
        rw [heap_new] at hR
        obtain ⟨z0, z1, z2, f0, f1, f2⟩ := block3 hR
        have HR := Lib.hid (put3_new (x := .slice sa list.length sb) (y := .slice sc (wOf cells list).length sd) (z := .slice se 0 sf) hR)
        have HF : Hid (ShapePost cells list w (.returned (.tuple #[.agg #[.slice sa list.length sb, .slice sc (wOf cells list).length sd, .slice se 0 sf], .int .i64 0])) (put3 w2 w.heap.size (.slice sa list.length sb) (.slice sc (wOf cells list).length sd) (.slice se 0 sf))) := by
          unfold Hid ShapePost
          rw [HS.out, if_pos rfl]
          exact ⟨_, rfl, (HV.out.put3 (by simp) _ _ _).mono (by simp), (HX.out.trans X2.out).put3 (Nat.le_refl _) _ _ _⟩
        clear hR
        go_wp2_with fail
        exact bodyPost_ret (v := .tuple #[.agg #[.slice sa list.length sb, .slice sc (wOf cells list).length sd, .slice se 0 sf], .int .i64 0]) (results_row_tmp Tryd.results61 _ _ w.heap.size 27 _ (0, 0) _ rfl HR.out Tryd.underlying27 rfl sizeSet) rfl HF.out
      · have HS : Hid (shapeErr cells list = 2) := by unfold Hid shapeErr; rw [HWB.out, if_pos rfl, if_neg h6]
        generalize sumI (wOf cells list) = sm at *
        have hR := X2.out.block w.heap.size (by simp)
        rw [heap_new] at hR
        obtain ⟨z0, z1, z2, f0, f1, f2⟩ := block3 hR
        have HR := Lib.hid (put3_new (x := .slice none 0 0) (y := .slice none 0 0) (z := .slice none 0 0) hR)
        have HF : Hid (ShapePost cells list w (.returned (.tuple #[.agg #[.slice none 0 0, .slice none 0 0, .slice none 0 0], .int .i64 2])) (put3 w2 w.heap.size (.slice none 0 0) (.slice none 0 0) (.slice none 0 0))) := by
          unfold Hid ShapePost
          rw [HS.out]
          exact ⟨_, rfl, SetO.nil _ _, (HX.out.trans X2.out).put3 (Nat.le_refl _) _ _ _⟩
        clear hR
        go_wp2_with fail
        exact bodyPost_ret (v := .tuple #[.agg #[.slice none 0 0, .slice none 0 0, .slice none 0 0], .int .i64 2]) (results_row_tmp Tryd.results61 _ _ w.heap.size 27 _ (0, 0) _ rfl HR.out Tryd.underlying27 rfl sizeSet) rfl HF.out
    · rw [if_pos rfl, if_neg h12] at h1
      have HS : Hid (shapeErr cells list = 2) := by unfold Hid shapeErr; rw [hwb, if_pos rfl, if_neg (by omega)]
      clear hwb
      obtain ⟨v, rfl, hv, x1⟩ := h1
      obtain ⟨sa, sb, sc, sd, se, sf, rfl⟩ := hv.shape
      obtain ⟨w2, hw2⟩ : ∃ w2, w2 = w1.alloc (.cells #[.slice sa 0 sb, .slice sc 0 sd, .slice se 0 sf] 27) := ⟨_, rfl⟩
      have x2 : Ext w1 w2 := by rw [hw2]; exact (Ext.refl _).alloc _
      have hb2 : w2.heap[w1.heap.size]? = some (.cells #[.slice sa 0 sb, .slice sc 0 sd, .slice se 0 sf] 27 (0, 0)) := by rw [hw2]; exact heap_new _ _
      obtain ⟨y0, y1, y2, _, _, _⟩ := block3 hb2
      have HV := Lib.hid (hv.kept x2); have X2 := Lib.hid (x1.trans x2); have HW2 := Lib.hid hw2
      clear hv x1 x2 hw2 hb2
      go_upto_region 2 with fail
      first | rw [← HW2.out] | skip
      have hR := X2.out.block w.heap.size (by simp)
      rw [heap_new] at hR
      obtain ⟨z0, z1, z2, f0, f1, f2⟩ := block3 hR
      have HR := Lib.hid (put3_new (x := .slice sa 0 sb) (y := .slice sc 0 sd) (z := .slice se 0 sf) hR)
      have HF : Hid (ShapePost cells list w (.returned (.tuple #[.agg #[.slice sa 0 sb, .slice sc 0 sd, .slice se 0 sf], .int .i64 2])) (put3 w2 w.heap.size (.slice sa 0 sb) (.slice sc 0 sd) (.slice se 0 sf))) := by
        unfold Hid ShapePost
        rw [HS.out]
        exact ⟨_, rfl, (HV.out.put3 (by simp) _ _ _).mono (by simp), (HX.out.trans X2.out).put3 (Nat.le_refl _) _ _ _⟩
      clear hR
      go_wp2_with fail
      exact bodyPost_ret (v := .tuple #[.agg #[.slice sa 0 sb, .slice sc 0 sd, .slice se 0 sf], .int .i64 2]) (results_row_tmp Tryd.results61 _ _ w.heap.size 27 _ (0, 0) _ rfl HR.out Tryd.underlying27 rfl sizeSet) rfl HF.out
end Go.Proofs.YtlnahhlddekhoaaDoor
namespace Go.Proofs.YtlnahhlddekhoaaDoor
open Go.RowKit

/-- The matrix of the identity, after k rows. -/
def idTo (k : Nat) : List Nat := (List.range k).foldl (fun M x => M.set x (1 <<< x)) zeroM
theorem idTo_succ (k : Nat) : idTo (k + 1) = (idTo k).set k (1 <<< k) := by unfold idTo; rw [List.range_succ, List.foldl_append]; rfl
def IdPost (cells : List CellD) (list : List Int) (w : World) (r : Ending) (w' : World) : Prop :=
  if shapeErr cells list = 0 then RelRes 0 list (wOf cells list) (castP (pairsM (idTo (pw (sumI (wOf cells list))).toNat))) w r w' else RelRes (shapeErr cells list) [] [] [] w r w'

set_option maxRecDepth 100000 in
set_option maxHeartbeats 2000000 in
theorem Identity_any (cells : List CellD) (list : List Int) (vc vl : Value) (w : World) (hc : Cells w vc cells) (hl : Ints w vl list) (hb : list.length ≤ 1000000) (hM : Masks w) (hT : DeB w) : Calls Tryd.prog 23 #[vc, vl] w (IdPost cells list w) := by
  obtain ⟨ca, cc, rfl⟩ := hc.shape
  obtain ⟨la, lc, rfl⟩ := hl.shape
  have hx : Ext w (w.alloc (.cells #[.slice none 0 0, .slice none 0 0, .slice none 0 0] 25)) := (Ext.refl w).alloc _
  have HC := Lib.hid (hc.ext hx); have HL := Lib.hid (hl.ext hx); have HM := Lib.hid (hM.ext hx); have HT := Lib.hid (hT.ext hx); have HX := Lib.hid hx
  clear hc hl hM hT hx
  go_enter Tryd.func23, Tryd.ntmps23
  go_wp2_with fail
  refine (rshape_any cells list _ _ _ HC.out HL.out hb HM.out HT.out).mono ?_
  intro r w1 h1
  unfold ShapePost at h1
  by_cases h0 : shapeErr cells list = 0
  · rw [if_pos h0] at h1
    obtain ⟨v, rfl, hv, x1⟩ := h1
    have hwb : widthsB cells list = true := by
      cases h : widthsB cells list with
      | true => rfl
      | false => unfold shapeErr at h0; rw [h] at h0; simp at h0
    have h6 : sumI (wOf cells list) ≤ 6 := by
      unfold shapeErr at h0; rw [hwb, if_pos rfl] at h0
      by_cases c : sumI (wOf cells list) ≤ 6
      · exact c
      · rw [if_neg c] at h0; simp at h0
    have hsh : shapeB list (wOf cells list) = true := by
      unfold widthsB at hwb
      rw [Bool.and_eq_true] at hwb
      exact hwb.2
    have hs0 : 0 ≤ sumI (wOf cells list) := by
      have := (sum_bound (shape_widths hsh).2 (wOf cells list).length (Nat.le_refl _)).1
      rw [List.take_length] at this; exact this
    obtain ⟨sa, sb, sc, sd, se, sf, rfl⟩ := hv.shape
    have H0 := Lib.hid h0; have HSH := Lib.hid hsh
    have hvw : Ints w1 (.slice sc (wOf cells list).length sd) (wOf cells list) := by obtain ⟨_, _, _, e, _, h2, _⟩ := hv.setV; cases e; exact h2
    have hvc : Ints w1 (.slice sa list.length sb) list := by obtain ⟨_, _, _, e, h2, _, _⟩ := hv.setV; cases e; exact h2
    obtain ⟨W3, hW3⟩ : ∃ W3, Boxes w1 W3 (.cells #[.slice sa list.length sb, .slice sc (wOf cells list).length sd, .slice se 0 sf] 27) (.cells (wordsV zeroM) 77) := ⟨_, Boxes.mk' _ _ _⟩
    have HVW := Lib.hid (hvw.ext hW3.ext); have HVC := Lib.hid (hvc.ext hW3.ext); have X1 := Lib.hid x1; have HW3 := Lib.hid hW3
    have HM3 : Hid (WordsAt 77 W3 (w1.heap.size + 1) (idTo 0)) := ⟨hW3.b1, len_zeroM, zero_lt⟩
    obtain ⟨y0, y1, y2⟩ := cells3 hW3.b0
    have HPW := Lib.hid (pow_wrap hs0 (show sumI (wOf cells list) ≤ 12 by omega))
    obtain ⟨n, hn, hn64⟩ := pw_nat hs0 h6
    have HN := Lib.hid hn
    have lc1 : list.length ≤ 1000000000 := by omega
    have lw1 : (wOf cells list).length ≤ 1000000000 := by rw [wOf_len]; omega
    have VC1 := Lib.hid hvc; have VW1 := Lib.hid hvw
    clear hv x1 h0 hwb hsh hvw hvc hW3 hn
    go_upto_region 5 with fail
    rw [← words_zero]
    first | rw [← HW3.out.eq] | skip
    go_wp2_with fail
    refine (rsum_any (wOf cells list) _ _ HVW.out (shape_widths HSH.out)).mono ?_
    rintro r w4 ⟨rfl, hw4⟩
    rw [hw4]; clear hw4 w4
    go_upto_region 6 with fail
    rw [HPW.out, HN.out]
    clear HPW hs0 h6
    go_loopw [26] (fun i wr => ∃ k : Nat, k ≤ n ∧ i = .int .i64 k ∧ Ext w1 wr ∧ wr.heap[w1.heap.size]? = some (.cells #[.slice sa list.length sb, .slice sc (wOf cells list).length sd, .slice se 0 sf] 27 (0, 0)) ∧ WordsAt 77 wr (w1.heap.size + 1) (idTo k)) (fun i _ => n - (intOf i).toNat)
    case atStart => exact ⟨0, Nat.zero_le _, rfl, HW3.out.ext, HW3.out.b0, HM3.out⟩
    case round =>
      obtain ⟨k, hk, rfl, hX, hS, hP⟩ := hrel
      have HX5 := Lib.hid hX; have HS5 := Lib.hid hS; have HP := Lib.hid hP; clear hX hS hP
      by_cases hlt : k < n
      · have hk64 : k < 64 := by omega
        have c8 := HP.out.cell hk64
        have f8 := HP.out.frozen k
        have HSET := Lib.hid (idTo_succ k)
        have i0 : (0 : Int) ≤ (k : Int) := by omega
        have i1 : (k : Int) < 64 := by omega
        have HOR := Lib.hid (u64_pow hk64)
        have P1 := Lib.hid (HP.out.set hk64 (v := 1 <<< k) (shl_lt hk64))
        have Y1 := Lib.hid (HX5.out.setCell (p := ⟨w1.heap.size + 1, k, none⟩) (by simp) (.int .u64 (1 <<< k : Nat)))
        have S1 := Lib.hid ((heap_setCell_other wr ⟨w1.heap.size + 1, k, none⟩ w1.heap.size (.int .u64 (1 <<< k : Nat)) (by simp)).trans HS5.out)
        rw [← HOR.out] at P1 Y1 S1
        go_upto_region 8 with fail
        go_still_tail 6, (by kernel_rfl)
        go_wp2_with fail
        exact ⟨⟨k + 1, by omega, by go_num, Y1.out.drew, S1.out, by rw [HSET.out]; exact P1.out.drewN 1⟩, by simp [intOf]; omega⟩
      · obtain rfl : k = n := by omega
        obtain ⟨p0, p1, p2⟩ := cells3 HS5.out
        have HVC5 := Lib.hid (VC1.out.ext HX5.out); have HVW5 := Lib.hid (VW1.out.ext HX5.out)
        have HNN : Hid ((pw (sumI (wOf cells list))).toNat = k) := by unfold Hid; rw [HN.out]; simp
        generalize hu : idTo k = U at *
        have HUU := Lib.hid hu; clear hu
        go_wp2_with fail
        refine (relation_any list (wOf cells list) U _ _ _ _ HVC5.out HVW5.out HP.out lc1 lw1).mono ?_
        rintro r w6 ⟨v, rfl, hv, x6⟩
        obtain ⟨ta, tb, tc, td, te, tf, rfl⟩ := hv.shape
        have hR := (X1.out.trans (HX5.out.trans x6)).block w.heap.size (by simp)
        rw [heap_new] at hR
        obtain ⟨z0, z1, z2, f0, f1, f2⟩ := block3 hR
        have HR := Lib.hid (put3_new (x := .slice ta list.length tb) (y := .slice tc (wOf cells list).length td) (z := .slice te (castP (pairsM U)).length tf) hR)
        have HF0 := Lib.hid (RelO.fin (HX.out.trans (X1.out.trans HX5.out)) (by have h1 := X1.out.size; have h2 := HX5.out.size; rw [World.size_alloc] at h1; omega) hv x6)
        have HF : Hid (IdPost cells list w (.returned (.tuple #[.agg #[.slice ta list.length tb, .slice tc (wOf cells list).length td, .slice te (castP (pairsM U)).length tf], .int .i64 0])) (put3 w6 w.heap.size (.slice ta list.length tb) (.slice tc (wOf cells list).length td) (.slice te (castP (pairsM U)).length tf))) := by
          unfold Hid IdPost
          rw [if_pos H0.out, HNN.out, HUU.out]
          exact ⟨_, rfl, HF0.out.1, HF0.out.2⟩
        clear hR hv x6
        go_wp2_with fail
        exact bodyPost_ret (v := .tuple #[.agg #[.slice ta list.length tb, .slice tc (wOf cells list).length td, .slice te (castP (pairsM U)).length tf], .int .i64 0]) (results_row_tmp Tryd.results23 _ _ w.heap.size 25 _ (0, 0) _ rfl HR.out Tryd.underlying25 rfl sizeRel) rfl HF.out
  · rw [if_neg h0] at h1
    obtain ⟨v, rfl, hv, x1⟩ := h1
    obtain ⟨sa, sb, sc, sd, se, sf, rfl⟩ := hv.shape
    have het : (shapeErr cells list != 0) = true := by simpa using h0
    have H0 := Lib.hid h0
    have X1 := Lib.hid x1
    have hR := (x1.alloc (.cells #[.slice sa 0 sb, .slice sc 0 sd, .slice se 0 sf] 27)).block w.heap.size (by simp)
    rw [heap_new] at hR
    obtain ⟨z0, z1, z2, f0, f1, f2⟩ := block3 hR
    have HR := Lib.hid (put3_new (x := .slice none 0 0) (y := .slice none 0 0) (z := .slice none 0 0) hR)
    have HF : Hid (IdPost cells list w (.returned (.tuple #[.agg #[.slice none 0 0, .slice none 0 0, .slice none 0 0], .int .i64 (shapeErr cells list)])) (put3 (w1.alloc (.cells #[.slice sa 0 sb, .slice sc 0 sd, .slice se 0 sf] 27)) w.heap.size (.slice none 0 0) (.slice none 0 0) (.slice none 0 0))) := by
      unfold Hid IdPost
      rw [if_neg H0.out]
      exact ⟨_, rfl, RelO.nil _ _, (HX.out.trans (X1.out.alloc _)).put3 (Nat.le_refl _) _ _ _⟩
    clear hR hv x1 h0
    generalize shapeErr cells list = er at *
    go_wp2_with fail
    exact bodyPost_ret (v := .tuple #[.agg #[.slice none 0 0, .slice none 0 0, .slice none 0 0], .int .i64 er]) (results_row_tmp Tryd.results23 _ _ w.heap.size 25 _ (0, 0) _ rfl HR.out Tryd.underlying25 rfl sizeRel) rfl HF.out
end Go.Proofs.YtlnahhlddekhoaaDoor
