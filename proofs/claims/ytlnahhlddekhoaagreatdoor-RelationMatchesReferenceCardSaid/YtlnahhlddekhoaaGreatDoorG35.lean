/-
  The walk of the reference's Of.
  Every function of the package and its reference give the same result.
  The first check of law15 is true: the walk.
-/
import Derived.Test.YtlnahhlddekhoaaGreatDoorG31
import Derived.Test.YtlnahhlddekhoaaGreatDoorG14
import Derived.Test.YtlnahhlddekhoaaGreatDoorG34
import Derived.Test.YtlnahhlddekhoaaGreatDoorG13
import Derived.Test.YtlnahhlddekhoaaGreatDoorG26
import Derived.Test.YtlnahhlddekhoaaGreatDoorG32
namespace Go.Proofs.YtlnahhlddekhoaaGreatDoor
open Go.RowKit

/-- The table when row x has been filled up to column y. -/
def fillT (P : Nat → Nat → Bool) (x y i j : Nat) : Bool := (decide (i < x) || (decide (i = x) && decide (j < y))) && P i j
theorem fillT_zero (P : Nat → Nat → Bool) : fillT P 0 0 = fun _ _ => false := by funext i j; simp [fillT]
theorem fillT_step (P : Nat → Nat → Bool) (x y i j : Nat) : (if i = x ∧ j = y then P x y else fillT P x y i j) = fillT P x (y + 1) i j := by
  unfold fillT
  by_cases c : i = x ∧ j = y
  · obtain ⟨rfl, rfl⟩ := c
    simp
  · rw [if_neg c]
    have e : (decide (i < x) || (decide (i = x) && decide (j < y))) = (decide (i < x) || (decide (i = x) && decide (j < y + 1))) := by
      rw [Bool.eq_iff_iff]
      simp only [Bool.or_eq_true, Bool.and_eq_true, decide_eq_true_eq]
      omega
    rw [e]
theorem fillT_row (P : Nat → Nat → Bool) (x n i : Nat) (j : Nat) (hj : j < n) : fillT P x n i j = fillT P (x + 1) 0 i j := by
  unfold fillT
  have e : (decide (i < x) || (decide (i = x) && decide (j < n))) = (decide (i < x + 1) || (decide (i = x + 1) && decide (j < 0))) := by
    rw [Bool.eq_iff_iff]
    simp only [Bool.or_eq_true, Bool.and_eq_true, decide_eq_true_eq]
    omega
  rw [e]
theorem fillT_all {P : Nat → Nat → Bool} {n i j : Nat} (hi : i < n) : fillT P n 0 i j = P i j := by simp [fillT, hi]
theorem relTo_congr {n : Nat} {T T' : Nat → Nat → Bool} (h : ∀ i j, i < n → j < n → T i j = T' i j) : relTo n T n 0 = relTo n T' n 0 :=
  sortedP_ext (relTo_sorted n T n) (relTo_sorted n T' n) fun p => by
    obtain ⟨i, j⟩ := p
    rw [mem_relTo, mem_relTo]
    constructor
    · rintro ⟨a, b⟩
      exact ⟨by rw [← h i j (by omega) (by omega)]; exact a, b⟩
    · rintro ⟨a, b⟩
      exact ⟨by rw [h i j (by omega) (by omega)]; exact a, b⟩
theorem sup_within (list : List Int) (e : E) : supR list e = (withinB e.supOld list && withinB e.supNow list) := by
  unfold supR withinB
  rw [List.all_append]
  congr 1 <;> (congr 1; funext x; exact (Bool.eq_iff_iff).2 (by simp))
def BoxS3 (b : Nat) (x0 x1 x2 : Value) (w' : World) : Prop :=
  w'.cell? ⟨b, 0, none⟩ = some x0 ∧ w'.cell? ⟨b, 1, none⟩ = some x1 ∧ w'.cell? ⟨b, 2, none⟩ = some x2
theorem BoxS3.ext {b : Nat} {x0 x1 x2 : Value} {w w' : World} (h : BoxS3 b x0 x1 x2 w) (hx : Ext w w') : BoxS3 b x0 x1 x2 w' := ⟨hx.cell h.1, hx.cell h.2.1, hx.cell h.2.2⟩
def BoxS8 (b b2 g x : Nat) (x0 x1 x2 x3 y0 y1 y2 z : Value) (w' : World) : Prop :=
  w'.cell? ⟨b, 0, none⟩ = some x0 ∧ w'.cell? ⟨b, 1, none⟩ = some x1 ∧ w'.cell? ⟨b, 2, none⟩ = some x2 ∧ w'.cell? ⟨b, 3, none⟩ = some x3 ∧ w'.cell? ⟨b2, 0, none⟩ = some y0 ∧ w'.cell? ⟨b2, 1, none⟩ = some y1 ∧ w'.cell? ⟨b2, 2, none⟩ = some y2 ∧ w'.cell? ⟨g, x, none⟩ = some z

set_option maxRecDepth 100000 in
set_option maxHeartbeats 16000000 in
theorem ROf15_any (cells : List CellD) (list : List Int) (e : E) (vc vl ve : Value) (w : World) (hc : Cells w vc cells) (hl : Ints w vl list) (he : EVal w ve e) (hb : list.length ≤ 1000000) : Calls Tryz.prog 9 #[vc, vl, ve] w (RelPost cells list e w) := by
  obtain ⟨ca, cc, rfl⟩ := hc.shape
  obtain ⟨la, lc, rfl⟩ := hl.shape
  obtain ⟨ek, rfl, hek⟩ := he
  obtain ⟨ka, kc, rfl⟩ := SliceAt.shape hek
  obtain ⟨W, hW⟩ : ∃ W, Boxes w W (.cells #[.int .i64 e.op, .int .i64 e.wd, .int .i64 e.n, .slice ka e.kids.length kc] 26) (.cells #[.slice none 0 0, .slice none 0 0, .slice none 0 0] 29) := ⟨_, Boxes.mk' _ _ _⟩
  have hx := hW.ext
  have hE : EVal W (.agg #[.int .i64 e.op, .int .i64 e.wd, .int .i64 e.n, .slice ka e.kids.length kc]) e := ⟨_, rfl, hek.ext hx⟩
  obtain ⟨p0, p1, p2, p3⟩ : W.cell? ⟨w.heap.size, 0, none⟩ = some (.int .i64 e.op) ∧ W.cell? ⟨w.heap.size, 1, none⟩ = some (.int .i64 e.wd) ∧ W.cell? ⟨w.heap.size, 2, none⟩ = some (.int .i64 e.n) ∧ W.cell? ⟨w.heap.size, 3, none⟩ = some (.slice ka e.kids.length kc) := by
    simp [World.cell?, hW.b0]
  have HC := Lib.hid (hc.ext hx); have HL := Lib.hid (hl.ext hx); have HE0 := Lib.hid hE; have HW := Lib.hid hW
  have P0 := Lib.hid p0; have P1 := Lib.hid p1; have P2 := Lib.hid p2; have P3 := Lib.hid p3
  clear hc hl hek hE hW hx p0 p1 p2 p3
  go_enter Tryz.func9, Tryz.ntmps9
  go_upto_region 1 with fail
  rw [← HW.out.eq]
  go_wp2_with fail
  refine (RShape_any cells list _ _ _ HC.out HL.out hb).mono ?_
  rintro r w1 ⟨v, rfl, ⟨wa, wn, wc, rfl⟩, hI, x1⟩
  have X1 := Lib.hid x1
  clear x1
  by_cases h0 : shapeErr cells list = 0
  · have hi := hI h0
    obtain ⟨_, _, hv⟩ := hi.shape
    cases hv
    have HI := Lib.hid hi; have H0 := Lib.hid h0
    clear hi hI h0
    rw [H0.out]
    have q0 := X1.out.cell P0.out; have q1 := X1.out.cell P1.out; have q2 := X1.out.cell P2.out; have q3 := X1.out.cell P3.out
    go_wp2_with fail
    refine (RValidE_any e cells _ _ true _ (HE0.out.ext X1.out) (HC.out.ext X1.out)).mono ?_
    rintro r w2 ⟨rfl, x2⟩
    have r0 := x2.cell q0; have r1 := x2.cell q1; have r2 := x2.cell q2; have r3 := x2.cell q3
    have X2 := Lib.hid (X1.out.trans x2); have Y2 := Lib.hid x2
    clear x2 q0 q1 q2 q3
    cases hva : e.valid cells true with
    | false =>
      have HVA := Lib.hid hva
      clear hva
      have HN : Hid (relErr cells list e = 60) := by unfold Hid relErr; rw [if_pos H0.out, HVA.out]; rfl
      have hR := X2.out.block (w.heap.size + 1) (by have := HW.out.size; omega)
      rw [HW.out.b1] at hR
      obtain ⟨z0, z1, z2, f0, f1, f2⟩ := block3 hR
      have HR := Lib.hid (put3_new (x := .slice none 0 0) (y := .slice none 0 0) (z := .slice none 0 0) hR)
      have HE := Lib.hid ((HW.out.ext.trans X2.out).put3 (b := w.heap.size + 1) (by omega) (.slice none 0 0) (.slice none 0 0) (.slice none 0 0))
      clear hR
      go_wp2_with fail
      exact bodyPost_ret (v := .tuple #[.agg #[.slice none 0 0, .slice none 0 0, .slice none 0 0], .int .i64 60]) (results_row_tmp Tryz.results9 _ _ (w.heap.size + 1) 29 _ (0, 0) _ rfl HR.out Tryz.underlying29 rfl sizeRel) rfl (RelPost.bad HN.out (by decide) HE.out)
    | true =>
      have HVA := Lib.hid hva
      clear hva
      by_cases hw1 : e.wd = 1
      · have hwt : (e.wd != 1) = false := by simp [hw1]
        have HW1 := Lib.hid hw1
        clear hw1
        go_wp2_with fail
        refine (RSupport_any e _ _ (HE0.out.ext X2.out)).mono ?_
        rintro r w3 ⟨⟨v1, v2, rfl, i1, i2⟩, x3⟩
        obtain ⟨sa1, sc1, rfl⟩ := i1.shape
        obtain ⟨ta, tc, rfl⟩ := i2.shape
        have X3 := Lib.hid (X2.out.trans x3); have Y3 := Lib.hid (Y2.out.trans x3); have I1 := Lib.hid i1; have I2 := Lib.hid i2
        have L3 := Lib.hid (HL.out.ext X3.out)
        clear x3 i1 i2 r0 r1 r2 r3 hwt
        have HSW := Lib.hid (sup_within list e)
        go_wp2_with fail
        refine (RWithin_any e.supOld list _ _ _ I1.out L3.out).mono ?_
        rintro r w4 ⟨rfl, hw4⟩
        rw [hw4]; clear hw4 w4
        cases hs1 : withinB e.supOld list with
        | false =>
          have HN : Hid (relErr cells list e = 1) := by unfold Hid relErr; rw [if_pos H0.out, HVA.out, HW1.out, HSW.out, hs1]; rfl
          clear hs1
          have hR := X3.out.block (w.heap.size + 1) (by have := HW.out.size; omega)
          rw [HW.out.b1] at hR
          obtain ⟨z0, z1, z2, f0, f1, f2⟩ := block3 hR
          have HR := Lib.hid (put3_new (x := .slice none 0 0) (y := .slice none 0 0) (z := .slice none 0 0) hR)
          have HE := Lib.hid ((HW.out.ext.trans X3.out).put3 (b := w.heap.size + 1) (by omega) (.slice none 0 0) (.slice none 0 0) (.slice none 0 0))
          clear hR
          go_wp2_with fail
          exact bodyPost_ret (v := .tuple #[.agg #[.slice none 0 0, .slice none 0 0, .slice none 0 0], .int .i64 1]) (results_row_tmp Tryz.results9 _ _ (w.heap.size + 1) 29 _ (0, 0) _ rfl HR.out Tryz.underlying29 rfl sizeRel) rfl (RelPost.bad HN.out (by decide) HE.out)
        | true =>
        have HS1 := Lib.hid hs1; clear hs1
        go_wp2_with fail
        refine (RWithin_any e.supNow list _ _ _ I2.out L3.out).mono ?_
        rintro r w4 ⟨rfl, hw4⟩
        rw [hw4]; clear hw4 w4
        cases hs2 : withinB e.supNow list with
        | false =>
          have HN : Hid (relErr cells list e = 1) := by unfold Hid relErr; rw [if_pos H0.out, HVA.out, HW1.out, HSW.out, hs2, HS1.out]; rfl
          clear hs2
          have hR := X3.out.block (w.heap.size + 1) (by have := HW.out.size; omega)
          rw [HW.out.b1] at hR
          obtain ⟨z0, z1, z2, f0, f1, f2⟩ := block3 hR
          have HR := Lib.hid (put3_new (x := .slice none 0 0) (y := .slice none 0 0) (z := .slice none 0 0) hR)
          have HE := Lib.hid ((HW.out.ext.trans X3.out).put3 (b := w.heap.size + 1) (by omega) (.slice none 0 0) (.slice none 0 0) (.slice none 0 0))
          clear hR
          go_wp2_with fail
          exact bodyPost_ret (v := .tuple #[.agg #[.slice none 0 0, .slice none 0 0, .slice none 0 0], .int .i64 1]) (results_row_tmp Tryz.results9 _ _ (w.heap.size + 1) 29 _ (0, 0) _ rfl HR.out Tryz.underlying29 rfl sizeRel) rfl (RelPost.bad HN.out (by decide) HE.out)
        | true =>
        have HN : Hid (relErr cells list e = 0) := by unfold Hid relErr; rw [if_pos H0.out, HVA.out, HW1.out, HSW.out, hs2, HS1.out]; rfl
        clear hs2 HS1 I1 I2 HSW
        obtain ⟨hw, hs0, h20, hn, h64, _, lc', lw⟩ := (shape_nums H0.out).nums
        have HSM := Lib.hid (shape_nums H0.out).small
        have HEM := Lib.hid (fun v w' hv => REmpty_any (wOf cells list) v w' (nn (wOf cells list)) hv hw hs0 hn h20 (by omega))
        have LC := Lib.hid lc'; have LW := Lib.hid lw
        have HPN := Lib.hid hn
        have hwf : e.wf = true := by
          have := HVA.out
          unfold E.valid at this
          rw [Bool.and_eq_true] at this
          exact this.1
        have HVL : Hid (∀ so sn, e.eval so sn = e.val so sn) := fun so sn => by unfold E.eval; rw [if_pos hwf]
        have HRV := Lib.hid (fun so sn vo vn v w' h1 h2 h3 => RValue_any so sn vo vn 600 (by omega) e 40 v w' (by simp only [E.wf, Bool.and_eq_true, decide_eq_true_eq] at hwf; exact hwf.1) (wf_deep hwf) h1 h2 h3)
        have HPO : Hid (∀ r w', RelRes 0 list (wOf cells list) (castP (relTo (nn (wOf cells list)) (relB cells list e) (nn (wOf cells list)) 0)) w r w' → RelPost cells list e w r w') := fun r w' h => by unfold RelPost; rw [if_pos HN.out]; exact h
        have HRB : Hid (∀ i j, relB cells list e i j = decide (e.eval (stN list (wOf cells list) i) (stN list (wOf cells list) j) = 1)) := fun _ _ => rfl
        clear hw hs0 h20 hn lc' lw hwf
        generalize relB cells list e = T at *
        generalize wOf cells list = ws at *
        generalize nn ws = n at *
        go_wp2_with fail
        refine (HEM.out _ _ (HI.out.ext Y3.out)).mono ?_
        rintro r w4 ⟨g, rfl, ⟨r0, hT0⟩, x4⟩
        obtain ⟨W5, hW5⟩ : ∃ W5, W5 = w4.alloc (.cells #[.slice la list.length lc, .slice wa ws.length wc, .slice none 0 0] 31) := ⟨_, rfl⟩
        have x5 : Ext w4 W5 := by rw [hW5]; exact (Ext.refl _).alloc _
        have hb5 : W5.heap[w4.heap.size]? = some (.cells #[.slice la list.length lc, .slice wa ws.length wc, .slice none 0 0] 31 (0, 0)) := by rw [hW5]; exact heap_new _ _
        have HS5 : Hid (BoxS3 w4.heap.size (.slice la list.length lc) (.slice wa ws.length wc) (.slice none 0 0) W5) := cells3 hb5
        have HW5 := Lib.hid hW5
        have HT5 := Lib.hid (hT0.ext x5)
        have HBR : Hid (∀ i, i < n → r0 i < w4.heap.size) := fun i hi => hT0.rlt hi
        have X5 := Lib.hid (x4.trans x5)
        have hz5 : W5.heap.size = w4.heap.size + 1 := by rw [hW5]; simp
        have hz4 : w3.heap.size ≤ w4.heap.size := x4.size
        have hz3 := X3.out.size
        have hzW := HW.out.size
        have HSV : Hid (∀ w', Ext w3 w' → SetV w' (.agg #[.slice la list.length lc, .slice wa ws.length wc, .slice none 0 0]) list ws []) := fun w' h => ⟨_, _, _, rfl, L3.out.ext h, HI.out.ext (Y3.out.trans h), (OwnInts.nil _ 0).ints⟩
        have HEB : Hid (∀ w', Ext w3 w' → EVal w' (.agg #[.int .i64 e.op, .int .i64 e.wd, .int .i64 e.n, .slice ka e.kids.length kc]) e ∧ w'.cell? ⟨w.heap.size, 0, none⟩ = some (.int .i64 e.op) ∧ w'.cell? ⟨w.heap.size, 1, none⟩ = some (.int .i64 e.wd) ∧ w'.cell? ⟨w.heap.size, 2, none⟩ = some (.int .i64 e.n) ∧ w'.cell? ⟨w.heap.size, 3, none⟩ = some (.slice ka e.kids.length kc)) := fun w' h => by
          have hx := X3.out.trans h
          exact ⟨HE0.out.ext hx, hx.cell P0.out, hx.cell P1.out, hx.cell P2.out, hx.cell P3.out⟩
        clear hT0 x4 x5 hb5 hW5 HEM P0 P1 P2 P3 HE0 Y2 X2
        go_upto_region 11 with fail
        rw [← HW5.out]
        clear HW5
        generalize w4.heap.size = bs at *
        have hmk := makeState32
        go_wp2_with fail
        go_loopw [14] (fun i wr => ∃ x : Nat, x ≤ n ∧ i = .int .i64 x ∧ TabR wr w3.heap.size g n r0 (fillT T x 0) n ∧ Ext w3 wr ∧ BoxS3 bs (.slice la list.length lc) (.slice wa ws.length wc) (.slice none 0 0) wr ∧ bs + 1 ≤ wr.heap.size) (fun i _ => n - (intOf i).toNat)
        case atStart => exact ⟨0, Nat.zero_le _, rfl, by rw [fillT_zero]; exact HT5.out, X5.out, HS5.out, Nat.le_of_eq hz5.symm⟩
        case round =>
          obtain ⟨x, hx, rfl, hT, hX, hS, hbz⟩ := hrel
          have HT := Lib.hid hT; have HXr := Lib.hid hX; have HS := Lib.hid hS
          clear hT hX hS HT5 HS5 X5
          by_cases hlx : x < n
          · have HKB : Hid (∀ w', Ext wr w' → BoxS3 bs (.slice la list.length lc) (.slice wa ws.length wc) (.slice none 0 0) w') := fun w' h => HS.out.ext h
            go_wp2_with fail
            obtain ⟨y0, hy0⟩ : ∃ y, y = wr.drew := ⟨_, rfl⟩
            have Ey0 : Hid (Ext wr y0) := by rw [hy0]; exact (Ext.refl _).drew
            refine wp_region_held (S := BoxS3 bs (.slice la list.length lc) (.slice wa ws.length wc) (.slice none 0 0)) (by kernel_rfl) ?_
            change wpAnyH _ _ _ _ _ _ _ _ wr.drew
            rw [← hy0]; clear hy0
            have Sy0 := Lib.hid (HKB.out _ Ey0.out)
            refine wpAnyH_take (i := 0) (v := .agg #[.slice la list.length lc, .slice wa ws.length wc, .slice none 0 0]) rfl (by kernel_rfl) (by kernel_rfl) (by kernel_rfl) (fun _ _ _ h => h) (.inl ⟨rfl, fun w' hx' => by obtain ⟨q0, q1, q2⟩ := hx'; go_simp⟩) Sy0.out ?_
            refine wpAnyH_take (i := 1) (v := .int .i64 x) rfl (by kernel_rfl) (by kernel_rfl) (by kernel_rfl) (fun _ _ _ h => h) (.inl ⟨rfl, fun w' hx' => by go_simp⟩) Sy0.out ?_
            refine wpAnyH_all (rs := [2]) (by kernel_rfl) (by simp) ?_
            intro i hi
            replace hi : i = 2 := by simpa using hi
            subst hi
            unfold wpOp
            go_simp
            obtain ⟨y1, hy1⟩ : ∃ y, y = y0.alloc (.cells ints32 3) := ⟨_, rfl⟩
            rw [← hy1]
            have x1 : Ext y0 y1 := by rw [hy1]; exact (Ext.refl _).alloc _
            have I32 : Hid (Ints y1 (.slice (some ⟨y0.heap.size, 0, none⟩) 32 32) zeros32) := by rw [hy1]; exact ints32_at (heap_new _ _)
            have Ey1 := Lib.hid (Ey0.out.trans x1); have Sy1 := Lib.hid (HKB.out _ Ey1.out)
            clear x1 hy1
            refine .inl ⟨Sy1.out, ?_⟩
            refine wpAnyH_all (rs := [3]) (by kernel_rfl) (by simp) ?_
            intro i hi
            replace hi : i = 3 := by simpa using hi
            subst hi
            unfold wpOp
            go_simp
            refine .inl ((RState_any list ws [] zeros32 x _ _ y1 (HSV.out _ (HXr.out.trans Ey1.out)) I32.out HSM.out (by have := HPN.out; omega) (by simp [zeros32]) (by simp [zeros32])).mono ?_)
            rintro r y2 ⟨v, rfl, hv, x2⟩
            obtain ⟨ba, bc, rfl⟩ := hv.ints.shape
            have Ey2 := Lib.hid (Ey1.out.trans x2); have Sy2 := Lib.hid (HKB.out _ Ey2.out)
            have HBE := Lib.hid (hv.mono (show bs + 1 ≤ y1.heap.size by have := Ey1.out.size; omega))
            clear hv x2 I32
            refine ⟨Sy2.out, ?_⟩
            refine wpAnyH_all (rs := [4]) (by kernel_rfl) (by simp) ?_
            intro i hi
            replace hi : i = 4 := by simpa using hi
            subst hi
            unfold wpOp
            go_simp
            refine .inl ⟨Sy2.out, ?_⟩
            refine wpAnyH_done (by kernel_rfl) ?_ _
            have HT2 := Lib.hid (HT.out.ext Ey2.out); have HX2 := Lib.hid (HXr.out.trans Ey2.out)
            have hbz2 : bs + 1 ≤ y2.heap.size := Nat.le_trans hbz Ey2.out.size
            have HTV : Hid (∀ y : Nat, T x y = decide (e.val (stateS list ws (x : Int) zeros32) (stateS list ws (y : Int) zeros32) = 1)) := fun y => by rw [HRB.out, HVL.out]; rfl
            clear HT HXr HS HKB Ey0 Ey1 Ey2 Sy0 Sy1
            generalize stateS list ws (x : Int) zeros32 = bf at *
            go_wp2_with fail
            go_loopw [16] (fun yv wr => ∃ y : Nat, y ≤ n ∧ yv = .int .i64 y ∧ TabR wr w3.heap.size g n r0 (fillT T x y) n ∧ Ext w3 wr ∧ BoxS3 bs (.slice la list.length lc) (.slice wa ws.length wc) (.slice none 0 0) wr ∧ OwnInts wr (bs + 1) (.slice ba bf.length bc) bf ∧ bs + 1 ≤ wr.heap.size) (fun yv _ => n - (intOf yv).toNat)
            case atStart => exact ⟨0, Nat.zero_le _, rfl, HT2.out, HX2.out, Sy2.out, HBE.out, hbz2⟩
            case round =>
              obtain ⟨y, hy, rfl, hT, hX, hS, hB, hbz⟩ := hrel
              have HT := Lib.hid hT; have HXr := Lib.hid hX; have HS := Lib.hid hS; have HB := Lib.hid hB
              clear hT hX hS hB HT2 HX2 Sy2 HBE hbz2
              by_cases hly : y < n
              · have HKB : Hid (∀ w', Ext wr w' → (BoxS8 w.heap.size bs g x (.int .i64 e.op) (.int .i64 e.wd) (.int .i64 e.n) (.slice ka e.kids.length kc) (.slice la list.length lc) (.slice wa ws.length wc) (.slice none 0 0) (.slice (some ⟨r0 x, 0, none⟩) n n)) w') := fun w' h => by
                  obtain ⟨_, a0, a1, a2, a3⟩ := HEB.out _ (HXr.out.trans h)
                  obtain ⟨b0, b1, b2⟩ := HS.out.ext h
                  exact ⟨a0, a1, a2, a3, b0, b1, b2, (HT.out.ext h).cell hlx hlx⟩
                go_wp2_with fail
                obtain ⟨y0, hy0⟩ : ∃ y, y = wr.drew := ⟨_, rfl⟩
                have Ey0 : Hid (Ext wr y0) := by rw [hy0]; exact (Ext.refl _).drew
                refine wp_region_held (S := (BoxS8 w.heap.size bs g x (.int .i64 e.op) (.int .i64 e.wd) (.int .i64 e.n) (.slice ka e.kids.length kc) (.slice la list.length lc) (.slice wa ws.length wc) (.slice none 0 0) (.slice (some ⟨r0 x, 0, none⟩) n n))) (by kernel_rfl) ?_
                change wpAnyH _ _ _ _ _ _ _ _ wr.drew
                rw [← hy0]; clear hy0
                have Sy0 := Lib.hid (HKB.out _ Ey0.out)
                refine wpAnyH_take (i := 0) (v := .slice (some ⟨g, 0, none⟩) n n) rfl (by kernel_rfl) (by kernel_rfl) (by kernel_rfl) (fun _ _ _ h => h) (.inl ⟨rfl, fun w' hx' => by obtain ⟨q0, q1, q2, q3, q4, q5, q6, q7⟩ := hx'; go_simp⟩) Sy0.out ?_
                refine wpAnyH_take (i := 1) (v := .int .i64 x) rfl (by kernel_rfl) (by kernel_rfl) (by kernel_rfl) (fun _ _ _ h => h) (.inl ⟨rfl, fun w' hx' => by obtain ⟨q0, q1, q2, q3, q4, q5, q6, q7⟩ := hx'; go_simp⟩) Sy0.out ?_
                refine wpAnyH_take (i := 2) (v := .pointer (some ⟨g, x, none⟩)) rfl (by kernel_rfl) (by kernel_rfl) (by kernel_rfl) (fun _ _ _ h => h) (.inl ⟨rfl, fun w' hx' => by obtain ⟨q0, q1, q2, q3, q4, q5, q6, q7⟩ := hx'; go_simp⟩) Sy0.out ?_
                refine wpAnyH_take (i := 3) (v := .slice (some ⟨r0 x, 0, none⟩) n n) rfl (by kernel_rfl) (by kernel_rfl) (by kernel_rfl) (fun _ _ _ h => h) (.inl ⟨rfl, fun w' hx' => by obtain ⟨q0, q1, q2, q3, q4, q5, q6, q7⟩ := hx'; go_simp⟩) Sy0.out ?_
                refine wpAnyH_take (i := 4) (v := .int .i64 y) rfl (by kernel_rfl) (by kernel_rfl) (by kernel_rfl) (fun _ _ _ h => h) (.inl ⟨rfl, fun w' hx' => by obtain ⟨q0, q1, q2, q3, q4, q5, q6, q7⟩ := hx'; go_simp⟩) Sy0.out ?_
                refine wpAnyH_take (i := 5) (v := .agg #[.int .i64 e.op, .int .i64 e.wd, .int .i64 e.n, .slice ka e.kids.length kc]) rfl (by kernel_rfl) (by kernel_rfl) (by kernel_rfl) (fun _ _ _ h => h) (.inl ⟨rfl, fun w' hx' => by obtain ⟨q0, q1, q2, q3, q4, q5, q6, q7⟩ := hx'; go_simp⟩) Sy0.out ?_
                refine wpAnyH_take (i := 6) (v := .slice ba bf.length bc) rfl (by kernel_rfl) (by kernel_rfl) (by kernel_rfl) (fun _ _ _ h => h) (.inl ⟨rfl, fun w' hx' => by obtain ⟨q0, q1, q2, q3, q4, q5, q6, q7⟩ := hx'; go_simp⟩) Sy0.out ?_
                refine wpAnyH_take (i := 7) (v := .agg #[.slice la list.length lc, .slice wa ws.length wc, .slice none 0 0]) rfl (by kernel_rfl) (by kernel_rfl) (by kernel_rfl) (fun _ _ _ h => h) (.inl ⟨rfl, fun w' hx' => by obtain ⟨q0, q1, q2, q3, q4, q5, q6, q7⟩ := hx'; go_simp⟩) Sy0.out ?_
                refine wpAnyH_take (i := 8) (v := .int .i64 y) rfl (by kernel_rfl) (by kernel_rfl) (by kernel_rfl) (fun _ _ _ h => h) (.inl ⟨rfl, fun w' hx' => by obtain ⟨q0, q1, q2, q3, q4, q5, q6, q7⟩ := hx'; go_simp⟩) Sy0.out ?_
                refine wpAnyH_all (rs := [9]) (by kernel_rfl) (by simp) ?_
                intro i hi
                replace hi : i = 9 := by simpa using hi
                subst hi
                unfold wpOp
                go_simp
                obtain ⟨y1, hy1⟩ : ∃ y, y = y0.alloc (.cells ints32 3) := ⟨_, rfl⟩
                rw [← hy1]
                have x1 : Ext y0 y1 := by rw [hy1]; exact (Ext.refl _).alloc _
                have I32 : Hid (Ints y1 (.slice (some ⟨y0.heap.size, 0, none⟩) 32 32) zeros32) := by rw [hy1]; exact ints32_at (heap_new _ _)
                have Ey1 := Lib.hid (Ey0.out.trans x1); have Sy1 := Lib.hid (HKB.out _ Ey1.out)
                clear x1 hy1
                refine .inl ⟨Sy1.out, ?_⟩
                refine wpAnyH_all (rs := [10]) (by kernel_rfl) (by simp) ?_
                intro i hi
                replace hi : i = 10 := by simpa using hi
                subst hi
                unfold wpOp
                go_simp
                refine .inl ((RState_any list ws [] zeros32 y _ _ y1 (HSV.out _ (HXr.out.trans Ey1.out)) I32.out HSM.out (by have := HPN.out; omega) (by simp [zeros32]) (by simp [zeros32])).mono ?_)
                rintro r y2 ⟨v, rfl, hv, x2⟩
                obtain ⟨da, dc, rfl⟩ := hv.ints.shape
                have Ey2 := Lib.hid (Ey1.out.trans x2); have Sy2 := Lib.hid (HKB.out _ Ey2.out)
                have HDI := Lib.hid hv.ints
                have HTY := Lib.hid (HTV.out y)
                clear hv x2 I32
                refine ⟨Sy2.out, ?_⟩
                generalize stateS list ws (y : Int) zeros32 = sf at *
                refine wpAnyH_all (rs := [11]) (by kernel_rfl) (by simp) ?_
                intro i hi
                replace hi : i = 11 := by simpa using hi
                subst hi
                unfold wpOp
                go_simp
                refine .inl ((HRV.out bf sf _ _ _ y2 (HEB.out _ (HXr.out.trans Ey2.out)).1 (HB.out.ints.ext Ey2.out) HDI.out).mono ?_)
                rintro r y3 ⟨rfl, x3⟩
                have Ey3 := Lib.hid (Ey2.out.trans x3); have Sy3 := Lib.hid (HKB.out _ Ey3.out)
                clear x3
                refine ⟨Sy3.out, ?_⟩
                generalize e.val bf sf = ev at *
                refine wpAnyH_all (rs := [12]) (by kernel_rfl) (by simp) ?_
                intro i hi
                replace hi : i = 12 := by simpa using hi
                subst hi
                unfold wpOp
                go_simp
                refine .inl ⟨Sy3.out, ?_⟩
                have HEQ : Hid ((ev == 1) = T x y) := by unfold Hid; rw [HTY.out]; exact Bool.eq_iff_iff.2 (by simp)
                generalize (ev == 1) = eb at *
                have HT3 := Lib.hid (HT.out.ext Ey3.out)
                refine wpAnyH_all (rs := [13]) (by kernel_rfl) (by simp) ?_
                intro i hi
                replace hi : i = 13 := by simpa using hi
                subst hi
                have c2 := HT3.out.at hlx hly
                have f2 := (HT3.out.row _ hlx).2.frozen y
                unfold wpOp
                go_simp
                refine .inl ⟨Sy3.out, ?_⟩
                refine wpAnyH_all (rs := [14]) (by kernel_rfl) (by simp) ?_
                intro i hi
                replace hi : i = 14 := by simpa using hi
                subst hi
                have HRG := Lib.hid (HT3.out.row _ hlx).1
                have HNB : Hid (r0 x < bs) := HBR.out x hlx
                have hzx := Ey3.out.size
                have HS4 : Hid ((BoxS8 w.heap.size bs g x (.int .i64 e.op) (.int .i64 e.wd) (.int .i64 e.n) (.slice ka e.kids.length kc) (.slice la list.length lc) (.slice wa ws.length wc) (.slice none 0 0) (.slice (some ⟨r0 x, 0, none⟩) n n)) (y3.setCell ⟨r0 x, y, none⟩ (.bool eb))) := by
                  obtain ⟨a0, a1, a2, a3, b0, b1, b2, b3⟩ := Sy3.out
                  have hr1 := HRG.out; have hr2 := HNB.out; have hr3 := HT3.out.le
                  have o0 : ∀ k, k ≠ r0 x → (y3.setCell ⟨r0 x, y, none⟩ (.bool eb)).heap[k]? = y3.heap[k]? := fun k hk => heap_setCell_other _ _ _ _ hk
                  exact ⟨(World.cell?_of_block (o0 w.heap.size (by omega))).trans a0, (World.cell?_of_block (o0 w.heap.size (by omega))).trans a1, (World.cell?_of_block (o0 w.heap.size (by omega))).trans a2, (World.cell?_of_block (o0 w.heap.size (by omega))).trans a3, (World.cell?_of_block (o0 bs (by omega))).trans b0, (World.cell?_of_block (o0 bs (by omega))).trans b1, (World.cell?_of_block (o0 bs (by omega))).trans b2, (World.cell?_of_block (o0 g (by omega))).trans b3⟩
                have HTN : Hid (TabR (y3.setCell ⟨r0 x, y, none⟩ (.bool eb)) w3.heap.size g n r0 (fillT T x (y + 1)) n) :=
                  (HT3.out.set hlx eb).congr fun i _ j _ => by rw [HEQ.out]; exact fillT_step T x y i j
                have HBN : Hid (OwnInts (y3.setCell ⟨r0 x, y, none⟩ (.bool eb)) (bs + 1) (.slice ba bf.length bc) bf) :=
                  (HB.out.kept Ey3.out).keep fun k hk => heap_setCell_other _ _ _ _ (by have := HB.out.base k hk; have := HNB.out; show k ≠ r0 x; omega)
                have HXN : Hid (Ext w3 (y3.setCell ⟨r0 x, y, none⟩ (.bool eb))) := (HXr.out.trans Ey3.out).setCell (by have := HRG.out; have := HT3.out.le; show _ ≤ r0 x; omega) _
                unfold wpOp
                go_simp
                refine .inl ⟨HS4.out, ?_⟩
                refine wpAnyH_done (by kernel_rfl) ?_ _
                go_wp2_with fail
                obtain ⟨a0, a1, a2, a3, b0, b1, b2, b3⟩ := HS4.out
                exact ⟨⟨y + 1, by omega, by go_num, HTN.out, HXN.out, ⟨b0, b1, b2⟩, HBN.out, by simp; omega⟩, by simp [intOf]; omega⟩
              · have hyn : y = n := by omega
                subst hyn
                go_wp2_with fail
                exact ⟨⟨x + 1, by omega, by go_num, HT.out.congr fun i _ j hj => fillT_row T x y i j hj, HXr.out, HS.out, hbz⟩, by simp [intOf]; omega⟩
          · have hxn : x = n := by omega
            subst hxn
            clear hmk
            have HXX := Lib.hid (X3.out.trans HXr.out)
            go_wp2_with fail
            refine (RRelT_any list ws x g _ _ _ _ w3.heap.size (L3.out.ext HXr.out) (HI.out.ext (Y3.out.trans HXr.out)) ⟨r0, HT.out⟩ LC.out LW.out h64).mono ?_
            rintro r w9 ⟨v, rfl, hv, x9⟩
            rw [relTo_congr (T' := T) fun i j hi _ => fillT_all hi] at hv
            obtain ⟨sa, sb, sc, sd, se, sf, rfl⟩ := hv.shape
            have hR := (HXX.out.trans x9).block (w.heap.size + 1) (by have := HW.out.size; omega)
            rw [HW.out.b1] at hR
            obtain ⟨z0, z1, z2, f0, f1, f2⟩ := block3 hR
            have hz9 := HXr.out.size
            generalize castP (relTo x T x 0) = I at *
            have HR := Lib.hid (put3_new (x := .slice sa list.length sb) (y := .slice sc ws.length sd) (z := .slice se I.length sf) hR)
            have HF : Hid (RelPost cells list e w (.returned (.tuple #[.agg #[.slice sa list.length sb, .slice sc ws.length sd, .slice se I.length sf], .int .i64 0])) (put3 w9 (w.heap.size + 1) (.slice sa list.length sb) (.slice sc ws.length sd) (.slice se I.length sf))) :=
              HPO.out _ _ ⟨_, rfl, (hv.put3 (by omega) _ _ _).mono (by omega), (HW.out.ext.trans (HXX.out.trans x9)).put3 (by omega) _ _ _⟩
            clear hR hv x9
            go_wp2_with fail
            exact bodyPost_ret (v := .tuple #[.agg #[.slice sa list.length sb, .slice sc ws.length sd, .slice se I.length sf], .int .i64 0]) (results_row_tmp Tryz.results9 _ _ (w.heap.size + 1) 29 _ (0, 0) _ rfl HR.out Tryz.underlying29 rfl sizeRel) rfl HF.out
      · have hwt : (e.wd != 1) = true := by simp [hw1]
        have HN : Hid (relErr cells list e = 60) := by unfold Hid relErr; rw [if_pos H0.out, HVA.out, decide_eq_false hw1]; rfl
        clear hw1
        have hR := X2.out.block (w.heap.size + 1) (by have := HW.out.size; omega)
        rw [HW.out.b1] at hR
        obtain ⟨z0, z1, z2, f0, f1, f2⟩ := block3 hR
        have HR := Lib.hid (put3_new (x := .slice none 0 0) (y := .slice none 0 0) (z := .slice none 0 0) hR)
        have HE := Lib.hid ((HW.out.ext.trans X2.out).put3 (b := w.heap.size + 1) (by omega) (.slice none 0 0) (.slice none 0 0) (.slice none 0 0))
        clear hR
        go_wp2_with fail
        exact bodyPost_ret (v := .tuple #[.agg #[.slice none 0 0, .slice none 0 0, .slice none 0 0], .int .i64 60]) (results_row_tmp Tryz.results9 _ _ (w.heap.size + 1) 29 _ (0, 0) _ rfl HR.out Tryz.underlying29 rfl sizeRel) rfl (RelPost.bad HN.out (by decide) HE.out)
  · have hbt : (shapeErr cells list != 0) = true := by simpa using h0
    obtain ⟨k, hk⟩ : ∃ k, k = shapeErr cells list := ⟨_, rfl⟩
    rw [← hk] at hbt h0 ⊢
    have HN : Hid (relErr cells list e = k) := by unfold Hid relErr; rw [← hk, if_neg h0]
    have hR := X1.out.block (w.heap.size + 1) (by have := HW.out.size; omega)
    rw [HW.out.b1] at hR
    obtain ⟨z0, z1, z2, f0, f1, f2⟩ := block3 hR
    have HR := Lib.hid (put3_new (x := .slice none 0 0) (y := .slice none 0 0) (z := .slice none 0 0) hR)
    have HE := Lib.hid ((HW.out.ext.trans X1.out).put3 (b := w.heap.size + 1) (by omega) (.slice none 0 0) (.slice none 0 0) (.slice none 0 0))
    have HK := Lib.hid h0
    clear hR hI hk h0
    go_wp2_with fail
    exact bodyPost_ret (v := .tuple #[.agg #[.slice none 0 0, .slice none 0 0, .slice none 0 0], .int .i64 k]) (results_row_tmp Tryz.results9 _ _ (w.heap.size + 1) 29 _ (0, 0) _ rfl HR.out Tryz.underlying29 rfl sizeRel) rfl (RelPost.bad HN.out HK.out HE.out)
end Go.Proofs.YtlnahhlddekhoaaGreatDoor
namespace Go.Proofs.YtlnahhlddekhoaaGreatDoor
open Go.RowKit

theorem both_of (cells : List CellD) (list : List Int) (e : E) (hb : list.length ≤ 1000000) : ∃ k C D I,
    (∀ vc vl ve w, Cells w vc cells → Ints w vl list → EVal w ve e → Masks w → DeB w → Calls Tryz.prog 8 #[vc, vl, ve] w (RelRes k C D I w)) ∧
    (∀ vc vl ve w, Cells w vc cells → Ints w vl list → EVal w ve e → Calls Tryz.prog 9 #[vc, vl, ve] w (RelRes k C D I w)) := by
  obtain ⟨k, C, D, I, h⟩ : ∃ k C D I, ∀ w r w', RelPost cells list e w r w' → RelRes k C D I w r w' := by
    by_cases h : relErr cells list e = 0
    · exact ⟨0, _, _, _, fun w r w' hr => by unfold RelPost at hr; rw [if_pos h] at hr; exact hr⟩
    · exact ⟨_, _, _, _, fun w r w' hr => by unfold RelPost at hr; rw [if_neg h] at hr; exact hr⟩
  exact ⟨k, C, D, I, fun vc vl ve w h1 h2 h3 h4 h5 => (ROf_any cells list e vc vl ve w h1 h2 h3 hb h4 h5).mono (h w), fun vc vl ve w h1 h2 h3 => (ROf15_any cells list e vc vl ve w h1 h2 h3 hb).mono (h w)⟩
theorem both_id (cells : List CellD) (list : List Int) (hb : list.length ≤ 1000000) : ∃ k C D I,
    (∀ vc vl w, Cells w vc cells → Ints w vl list → Masks w → DeB w → Calls Tryz.prog 11 #[vc, vl] w (RelRes k C D I w)) ∧
    (∀ vc vl w, Cells w vc cells → Ints w vl list → Calls Tryz.prog 12 #[vc, vl] w (RelRes k C D I w)) := by
  by_cases h : shapeErr cells list = 0
  · refine ⟨0, list, wOf cells list, castP (idP (nn (wOf cells list))), fun vc vl w h1 h2 h3 h4 => (Identity_any cells list vc vl w h1 h2 hb h3 h4).mono fun r w' hr => ?_, fun vc vl w h1 h2 => ?_⟩
    · unfold IdPost at hr
      rw [if_pos h] at hr
      exact hr
    · rw [← id_rel (shape_nums h).nn64]
      exact RIdentity_yes cells list vc vl w h1 h2 hb h
  · refine ⟨shapeErr cells list, [], [], [], fun vc vl w h1 h2 h3 h4 => (Identity_any cells list vc vl w h1 h2 hb h3 h4).mono fun r w' hr => ?_, fun vc vl w h1 h2 => RIdentity_no cells list vc vl w h1 h2 hb h⟩
    unfold IdPost at hr
    rw [if_neg h] at hr
    exact hr
theorem opPostR_yes {C D : List Int} {I : List (Int × Int)} {w w' : World} {r : Ending} (h : OpPostR true C D I w r w') : RelRes 0 C D I w r w' := h
theorem opPostR_no {C D : List Int} {I : List (Int × Int)} {w w' : World} {r : Ending} (h : OpPostR false C D I w r w') : RelRes 1 [] [] [] w r w' := h
theorem opPost_yes {C D I : List Int} {w w' : World} {r : Ending} (h : OpPost true C D I w r w') : SetRes 0 C D I w r w' := h
theorem opPost_no {C D I : List Int} {w w' : World} {r : Ending} (h : OpPost false C D I w r w') : SetRes 1 [] [] [] w r w' := h
theorem both_uni (cs ws : List Int) (P : List (Int × Int)) (cs2 ws2 : List Int) (Q : List (Int × Int)) : ∃ k C D I,
    (∀ va vb w, RelV w va cs ws P → RelV w vb cs2 ws2 Q → DeB w → Calls Tryz.prog 13 #[va, vb] w (RelRes k C D I w)) ∧
    (∀ va vb w, RelV w va cs ws P → RelV w vb cs2 ws2 Q → Calls Tryz.prog 14 #[va, vb] w (RelRes k C D I w)) := by
  cases h : alikeB cs ws P cs2 ws2 Q with
  | true =>
    obtain ⟨rfl, rfl, e1, v1, e2, v2⟩ := alike_parts h
    refine ⟨0, cs, ws, castP (uniP (natP P) (natP Q)), fun va vb w h1 h2 h3 => (Union_any cs ws P cs ws Q va vb w h1 h2 h3).mono fun r w' hr => ?_, fun va vb w h1 h2 => ?_⟩
    · rw [h] at hr; exact opPostR_yes hr
    · rw [← e1] at h1 h; rw [← e2] at h2 h
      rw [← uni_rel v1 v2]
      exact RUnion_yes cs ws (natP P) (natP Q) va vb w h1 h2 h v1 v2
  | false =>
    refine ⟨1, [], [], [], fun va vb w h1 h2 h3 => (Union_any cs ws P cs2 ws2 Q va vb w h1 h2 h3).mono fun r w' hr => ?_, fun va vb w h1 h2 => RUnion_no cs ws P cs2 ws2 Q va vb w h1 h2 h⟩
    rw [h] at hr; exact opPostR_no hr
theorem both_cmp (cs ws : List Int) (P : List (Int × Int)) (cs2 ws2 : List Int) (Q : List (Int × Int)) : ∃ k C D I,
    (∀ va vb w, RelV w va cs ws P → RelV w vb cs2 ws2 Q → DeB w → Calls Tryz.prog 15 #[va, vb] w (RelRes k C D I w)) ∧
    (∀ va vb w, RelV w va cs ws P → RelV w vb cs2 ws2 Q → Calls Tryz.prog 16 #[va, vb] w (RelRes k C D I w)) := by
  cases h : alikeB cs ws P cs2 ws2 Q with
  | true =>
    obtain ⟨rfl, rfl, e1, v1, e2, v2⟩ := alike_parts h
    refine ⟨0, cs, ws, castP (cmpP (natP P) (natP Q)), fun va vb w h1 h2 h3 => (Compose_any cs ws P cs ws Q va vb w h1 h2 h3).mono fun r w' hr => ?_, fun va vb w h1 h2 => ?_⟩
    · rw [h] at hr; exact opPostR_yes hr
    · rw [← e1] at h1 h; rw [← e2] at h2 h
      rw [← cmp_rel v1 v2]
      exact RCompose_yes cs ws (natP P) (natP Q) va vb w h1 h2 h v1 v2
  | false =>
    refine ⟨1, [], [], [], fun va vb w h1 h2 h3 => (Compose_any cs ws P cs2 ws2 Q va vb w h1 h2 h3).mono fun r w' hr => ?_, fun va vb w h1 h2 => RCompose_no cs ws P cs2 ws2 Q va vb w h1 h2 h⟩
    rw [h] at hr; exact opPostR_no hr
theorem both_clo (cs ws : List Int) (P : List (Int × Int)) : ∃ k C D I,
    (∀ va w, RelV w va cs ws P → DeB w → Calls Tryz.prog 17 #[va] w (RelRes k C D I w)) ∧
    (∀ va w, RelV w va cs ws P → Calls Tryz.prog 18 #[va] w (RelRes k C D I w)) := by
  cases h : rvalidB cs ws P with
  | true =>
    obtain ⟨e1, v1⟩ := rvalid_nat h
    refine ⟨0, cs, ws, castP (cloP (nn ws) (natP P)), fun va w h1 h3 => (Closure_any cs ws P va w h1 h3).mono fun r w' hr => ?_, fun va w h1 => ?_⟩
    · rw [h] at hr; exact opPostR_yes hr
    · rw [← e1] at h1 h
      rw [← clo_rel v1]
      exact RClosure_yes cs ws (natP P) va w h1 h v1
  | false =>
    refine ⟨1, [], [], [], fun va w h1 h3 => (Closure_any cs ws P va w h1 h3).mono fun r w' hr => ?_, fun va w h1 => RClosure_no cs ws P va w h1 h⟩
    rw [h] at hr; exact opPostR_no hr
theorem applies_fits (cs ws : List Int) (P : List (Int × Int)) (cs2 ws2 js : List Int) : appliesB cs ws P cs2 ws2 js = fitsR cs ws P cs2 ws2 js := by
  unfold appliesB fitsR
  rw [Bool.and_comm (validB cs2 ws2 js)]
theorem both_img (cs ws : List Int) (P : List (Int × Int)) (cs2 ws2 js : List Int) : ∃ k C D I,
    (∀ va vs w, RelV w va cs ws P → SetV w vs cs2 ws2 js → DeB w → Calls Tryz.prog 19 #[va, vs] w (SetRes k C D I w)) ∧
    (∀ va vs w, RelV w va cs ws P → SetV w vs cs2 ws2 js → Calls Tryz.prog 20 #[va, vs] w (SetRes k C D I w)) := by
  cases h : appliesB cs ws P cs2 ws2 js with
  | true =>
    obtain ⟨rfl, rfl, e1, v1, e2, v2⟩ := applies_parts h
    refine ⟨0, cs, ws, castL (imgL (natP P) (natL js)), fun va vs w h1 h2 h3 => (Image_any cs ws P cs ws js va vs w h1 h2 h3).mono fun r w' hr => ?_, fun va vs w h1 h2 => ?_⟩
    · rw [h] at hr; exact opPost_yes hr
    · rw [applies_fits] at h
      rw [← e1] at h1 h; rw [← e2] at h2 h
      rw [← img_rel v1]
      exact RImage_yes cs ws (natP P) (natL js) va vs w h1 h2 h v1 v2.inn
  | false =>
    refine ⟨1, [], [], [], fun va vs w h1 h2 h3 => (Image_any cs ws P cs2 ws2 js va vs w h1 h2 h3).mono fun r w' hr => ?_, fun va vs w h1 h2 => RImage_no cs ws P cs2 ws2 js va vs w h1 h2 (by rw [← applies_fits]; exact h)⟩
    rw [h] at hr; exact opPost_no hr
theorem both_ins (cs ws : List Int) (P : List (Int × Int)) (cs2 ws2 js : List Int) : ∃ k C D I,
    (∀ va vs w, RelV w va cs ws P → SetV w vs cs2 ws2 js → DeB w → Calls Tryz.prog 21 #[va, vs] w (SetRes k C D I w)) ∧
    (∀ va vs w, RelV w va cs ws P → SetV w vs cs2 ws2 js → Calls Tryz.prog 22 #[va, vs] w (SetRes k C D I w)) := by
  cases h : appliesB cs ws P cs2 ws2 js with
  | true =>
    obtain ⟨rfl, rfl, e1, v1, e2, v2⟩ := applies_parts h
    refine ⟨0, cs, ws, castL (insL (natP P) (natL js)), fun va vs w h1 h2 h3 => (Inside_any cs ws P cs ws js va vs w h1 h2 h3).mono fun r w' hr => ?_, fun va vs w h1 h2 => ?_⟩
    · rw [h] at hr; exact opPost_yes hr
    · rw [applies_fits] at h
      rw [← e1] at h1 h; rw [← e2] at h2 h
      rw [← ins_rel v1 v2]
      exact RInside_yes cs ws (natP P) (natL js) va vs w h1 h2 h v1 v2.inn
  | false =>
    refine ⟨1, [], [], [], fun va vs w h1 h2 h3 => (Inside_any cs ws P cs2 ws2 js va vs w h1 h2 h3).mono fun r w' hr => ?_, fun va vs w h1 h2 => RInside_no cs ws P cs2 ws2 js va vs w h1 h2 (by rw [← applies_fits]; exact h)⟩
    rw [h] at hr; exact opPost_no hr
end Go.Proofs.YtlnahhlddekhoaaGreatDoor
namespace Go.Proofs.YtlnahhlddekhoaaGreatDoor
open Go.RowKit

set_option maxRecDepth 100000 in
set_option maxHeartbeats 8000000 in
theorem head_any (w : World) (hT : DeB w) (hM : Masks w) : Calls Tryz.prog 4 #[] w fun r w' => r = .returned (.bool true) ∧ Ext w w' := by
  have HT := Lib.hid hT; have HM := Lib.hid hM
  clear hT hM
  go_enter Tryz.func4, Tryz.ntmps4
  go_wp2_with fail
  refine (RCell_any 0 2 _).mono ?_
  rintro r w1 ⟨rfl, x1⟩
  have HX := Lib.hid x1; clear x1
  go_wp2_with fail
  refine (ROld_any 0 2 _).mono ?_
  rintro r w2 ⟨rfl, x1⟩
  replace HX := Lib.hid (HX.out.trans x1); clear x1
  go_wp2_with fail
  refine (RConst_any 1 2 _).mono ?_
  rintro r w3 ⟨rfl, x1⟩
  replace HX := Lib.hid (HX.out.trans x1); clear x1
  go_wp2_with fail
  refine (RTwo_any 8 2 (.mk 3 2 0 []) (.mk 1 2 1 []) _ _ _ (ev_leaf _ _ _ _) (ev_leaf _ _ _ _)).mono ?_
  rintro r w4 ⟨⟨v, rfl, e⟩, x1⟩
  obtain ⟨ya, yl, yc, rfl, e⟩ := e.shapeN
  have HY := Lib.hid e
  replace HX := Lib.hid (HX.out.trans x1); clear x1 e
  go_wp2_with fail
  refine (RTwo_any 11 1 (.mk 2 2 0 []) (.mk 8 2 0 [.mk 3 2 0 [], .mk 1 2 1 []]) _ _ _ (ev_leaf _ _ _ _) HY.out).mono ?_
  rintro r w5 ⟨⟨v, rfl, e⟩, x1⟩
  obtain ⟨ea, el, ec, rfl, e⟩ := e.shapeN
  have HE := Lib.hid e
  replace HX := Lib.hid (HX.out.trans x1); clear x1 e HY
  go_upto_region 2 with fail
  obtain ⟨W1, hW1⟩ : ∃ W1, W1 = w5.alloc (.cells #[.int .i64 11, .int .i64 1, .int .i64 0, .slice ea el ec] 26) := ⟨_, rfl⟩
  have x1 : Ext w5 W1 := by rw [hW1]; exact (Ext.refl _).alloc _
  have HVe : Hid (VarE W1 w5.heap.size 11 1 0 (.slice ea el ec)) := by rw [hW1]; exact VarE.new _ _ _ _ _
  rw [← hW1]
  replace HX := Lib.hid (HX.out.trans x1); replace HE : Hid (EVal W1 _ hdE) := Lib.hid (HE.out.ext x1); replace HT := Lib.hid (HT.out.ext HX.out); replace HM := Lib.hid (HM.out.ext HX.out)
  clear x1 hW1
  generalize w5.heap.size = be at *
  go_cut [2, 3] (fun s2 s3 W => ∃ (b : Nat) (a1 : Option Addr) (l1 c1 : Nat) (a2 : Option Addr) (l2 c2 : Nat) (a3 : Option Addr) (l3 c3 : Nat), s2 = .pointer (some ⟨b, 0, none⟩) ∧ s3 = .int .i64 0 ∧ Var3 29 W b (.slice a1 l1 c1) (.slice a2 l2 c2) (.slice a3 l3 c3) ∧ RelV W (.agg #[.slice a1 l1 c1, .slice a2 l2 c2, .slice a3 l3 c3]) [0] [2] (castP hdP) ∧ Ext W1 W)
  case first =>
    obtain ⟨z0, z1, z2, z3⟩ := HVe.out.cells
    go_region_held3 (fun w' => w'.cell? ⟨be, 0, none⟩ = some (.int .i64 11) ∧ w'.cell? ⟨be, 1, none⟩ = some (.int .i64 1) ∧ w'.cell? ⟨be, 2, none⟩ = some (.int .i64 0) ∧ w'.cell? ⟨be, 3, none⟩ = some (.slice ea el ec))
      ((first
        | exact ⟨z0, z1, z2, z3⟩
        | (refine (HVe.out.ext ?_).cells; repeat (first | exact Ext.refl _ | exact HEf.out | exact HEo.out | apply Ext.drew | apply Ext.alloc)
           done)
        | (refine (HVe.out.ext ?_).cells; exact HEf.out.put3 (b := W1.heap.size) (Nat.le_refl _) _ _ _)
        | (refine (HVe.out.ext ?_).cells; exact HEf.out.put3 (b := W1.heap.size + 1) (Nat.le_succ _) _ _ _)
        | (refine (HVe.out.ext ?_).cells; exact HEf.out.put3 (b := wo.heap.size) HEo.out.size _ _ _)
        | (refine (HVe.out.ext ?_).cells; exact HEf.out.put3 (b := wo.heap.size + 1) (Nat.le_succ_of_le HEo.out.size) _ _ _)
        | fail))
      ((first
        | (go_at_call 28; refine (one_any _).mono ?_; rintro r wo ⟨B, rfl, hc, x1⟩
           have HEo : Hid (Ext W1 wo) := Ext.trans (by repeat (first | exact Ext.refl _ | apply Ext.drew | apply Ext.alloc)) x1
           have HC := Lib.hid hc
           try (have HI : Hid (Ints wo (.slice (some ⟨W1.heap.size, 0, none⟩) 1 1) [0]) := by first | exact (ints_one (heap_new _ _)).ext ((Ext.refl _).drew.trans x1) | exact (ints_one (heap_new1 _ _ _)).ext ((Ext.refl _).drew.trans x1))
           try (have HI : Hid (Ints wo (.slice (some ⟨W1.heap.size + 1, 0, none⟩) 1 1) [0]) := (ints_one (heap_new2 _ _ _)).ext ((Ext.refl _).drew.trans x1))
           try (have HZ : Hid (wo.heap[W1.heap.size]? = some (.cells #[.slice none 0 0, .slice none 0 0, .slice none 0 0] 29 (0, 0))) := by first | exact old_at (heap_new _ _) ((Ext.refl _).drew.trans x1) | exact old_at (heap_new1 _ _ _) ((Ext.refl _).drew.trans x1))
           try (have HZ : Hid (wo.heap[W1.heap.size + 1]? = some (.cells #[.slice none 0 0, .slice none 0 0, .slice none 0 0] 29 (0, 0))) := old_at (heap_new2 _ _ _) ((Ext.refl _).drew.trans x1))
           clear hc x1)
        | (go_at_call 8
           refine (hd_of HE.out HM.out HT.out (by repeat (first | exact Ext.refl _ | exact HEo.out | apply Ext.drew | apply Ext.alloc)) (HC.out.ext (by repeat (first | exact Ext.refl _ | apply Ext.drew | apply Ext.alloc))) (by first | exact ints_one (heap_new _ _) | exact ints_one (heap_new1 _ _ _) | exact ints_one (heap_new2 _ _ _) | exact HI.out.ext (by repeat (first | exact Ext.refl _ | apply Ext.drew | apply Ext.alloc)))).mono ?_
           rintro r wf ⟨a1, l1, c1, a2, l2, c2, a3, l3, c3, rfl, ho, x1⟩
           have HO := Lib.hid ho; have X1 := Lib.hid x1
           have HEf : Hid (Ext W1 wf) := Ext.trans (by repeat (first | exact Ext.refl _ | exact HEo.out | apply Ext.drew | apply Ext.alloc)) x1
           try (have HZf := Lib.hid (old_at (old_at HZ.out (by repeat (first | exact Ext.refl _ | apply Ext.drew | apply Ext.alloc))) x1); obtain ⟨y0, y1, y2, f0, f1, f2⟩ := block3 HZf.out)
           try (have HZf : Hid (wf.heap[wo.heap.size]? = some (.cells #[.slice none 0 0, .slice none 0 0, .slice none 0 0] 29 (0, 0))) := by first | exact old_at (heap_new _ _) x1 | exact old_at (heap_new1 _ _ _) x1
                obtain ⟨y0, y1, y2, f0, f1, f2⟩ := block3 HZf.out)
           try (have HZf : Hid (wf.heap[wo.heap.size + 1]? = some (.cells #[.slice none 0 0, .slice none 0 0, .slice none 0 0] 29 (0, 0))) := old_at (heap_new2 _ _ _) x1
                obtain ⟨y0, y1, y2, f0, f1, f2⟩ := block3 HZf.out)
           clear ho x1)))
    all_goals
      go_wp2_with fail
      go_meet
      first
      | (have h := hd_end' HEf.out HO.out; exact ⟨_, a1, l1, c1, a2, l2, c2, a3, l3, c3, rfl, rfl, h.1, h.2.1, h.2.2⟩)
      | (have h0 := lt_heap HZf.out
         have h1 := HEo.out.size
         have h := hd_end HEf.out (by first | exact Nat.le_refl _ | exact Nat.le_succ _ | exact h1 | exact Nat.le_succ_of_le h1) (by first | (simp only [World.size_alloc]; omega) | (have := lt_heap HZ.out; simp only [World.size_alloc]; omega) | exact lt_heap HZ.out) HZf.out HO.out
         exact ⟨_, a1, l1, c1, a2, l2, c2, a3, l3, c3, rfl, rfl, h.1, h.2.1, h.2.2⟩)
  case rest =>
    obtain ⟨br, r1, r2, r3, r4, r5, r6, r7, r8, r9, rfl, rfl, hV, hR, hx⟩ := hcut
    generalize wc = W2 at *
    have HVr := Lib.hid hV; have Hr := Lib.hid hR
    have HDe := Lib.hid (HT.out.ext hx); have HMk := Lib.hid (HM.out.ext hx)
    replace HX := Lib.hid (HX.out.trans hx)
    clear hV hR hx HT HM HE HVe
    obtain ⟨qr0, qr1, qr2⟩ := HVr.out.cells
    go_wp2_with fail
    refine (Compose_ok hd_valid hd_valid _ _ _ Hr.out Hr.out HDe.out).mono ?_
    rintro r wk1 ⟨c1, c2, c3, c4, c5, c6, c7, c8, c9, rfl, e, x1⟩
    have Hc := Lib.hid e
    replace HX := Lib.hid (HX.out.trans x1); replace HDe := Lib.hid (HDe.out.ext x1); replace HMk := Lib.hid (HMk.out.ext x1); replace HVr := Lib.hid (HVr.out.ext x1); replace Hr := Lib.hid (Hr.out.ext x1)
    clear x1 e qr0 qr1 qr2
    go_upto_region 4 with fail
    obtain ⟨Wk1, hWk⟩ : ∃ Wk, Wk = wk1.alloc (.cells #[.slice c1 c2 c3, .slice c4 c5 c6, .slice c7 c8 c9] 29) := ⟨_, rfl⟩
    have x1 : Ext wk1 Wk1 := by rw [hWk]; exact (Ext.refl _).alloc _
    have HVc : Hid (Var3 29 Wk1 wk1.heap.size (.slice c1 c2 c3) (.slice c4 c5 c6) (.slice c7 c8 c9)) := by rw [hWk]; exact Var3.new _ _ _ _ _
    rw [← hWk]
    replace HX := Lib.hid (HX.out.trans x1); replace HDe := Lib.hid (HDe.out.ext x1); replace HMk := Lib.hid (HMk.out.ext x1); replace HVr := Lib.hid (HVr.out.ext x1); replace Hr := Lib.hid (Hr.out.ext x1); replace Hc := Lib.hid (Hc.out.ext x1)
    clear x1 hWk
    generalize wk1.heap.size = bc at *
    obtain ⟨qr0, qr1, qr2⟩ := HVr.out.cells
    go_wp2_with fail
    refine (Closure_ok hd_valid _ _ Hr.out HDe.out).mono ?_
    rintro r wk2 ⟨k1, k2, k3, k4, k5, k6, k7, k8, k9, rfl, e, x1⟩
    have Hk := Lib.hid e
    replace HX := Lib.hid (HX.out.trans x1); replace HDe := Lib.hid (HDe.out.ext x1); replace HMk := Lib.hid (HMk.out.ext x1); replace HVr := Lib.hid (HVr.out.ext x1); replace Hr := Lib.hid (Hr.out.ext x1); replace Hc := Lib.hid (Hc.out.ext x1); replace HVc := Lib.hid (HVc.out.ext x1)
    clear x1 e qr0 qr1 qr2
    go_upto_region 5 with fail
    obtain ⟨Wk2, hWk⟩ : ∃ Wk, Wk = wk2.alloc (.cells #[.slice k1 k2 k3, .slice k4 k5 k6, .slice k7 k8 k9] 29) := ⟨_, rfl⟩
    have x1 : Ext wk2 Wk2 := by rw [hWk]; exact (Ext.refl _).alloc _
    have HVk : Hid (Var3 29 Wk2 wk2.heap.size (.slice k1 k2 k3) (.slice k4 k5 k6) (.slice k7 k8 k9)) := by rw [hWk]; exact Var3.new _ _ _ _ _
    rw [← hWk]
    replace HX := Lib.hid (HX.out.trans x1); replace HDe := Lib.hid (HDe.out.ext x1); replace HMk := Lib.hid (HMk.out.ext x1); replace HVr := Lib.hid (HVr.out.ext x1); replace Hr := Lib.hid (Hr.out.ext x1); replace Hc := Lib.hid (Hc.out.ext x1); replace HVc := Lib.hid (HVc.out.ext x1); replace Hk := Lib.hid (Hk.out.ext x1)
    clear x1 hWk
    generalize wk2.heap.size = bk at *
    go_upto_region 6 with fail
    obtain ⟨Ws, hWs⟩ : ∃ Ws, Ws = (((Wk2.alloc (.cells #[.int .i64 0] 3)).alloc (.cells #[.int .i64 2] 3)).alloc (.cells #[.int .i64 0, .int .i64 1, .int .i64 2] 3)).alloc (.cells #[.slice (some ⟨Wk2.heap.size, 0, none⟩) 1 1, .slice (some ⟨Wk2.heap.size + 1, 0, none⟩) 1 1, .slice (some ⟨Wk2.heap.size + 1 + 1, 0, none⟩) 3 3] 31) := ⟨_, rfl⟩
    have x1 : Ext Wk2 Ws := by rw [hWs]; exact (((Ext.refl _).alloc _).alloc _).alloc _ |>.alloc _
    have Hs : Hid (SetV Ws (.agg #[.slice (some ⟨Wk2.heap.size, 0, none⟩) 1 1, .slice (some ⟨Wk2.heap.size + 1, 0, none⟩) 1 1, .slice (some ⟨Wk2.heap.size + 1 + 1, 0, none⟩) 3 3]) [0] [2] (castL [0, 1, 2])) := by rw [hWs]; exact hd_setv _ _ _
    obtain ⟨s1, es1⟩ : ∃ s1 : Option Addr, s1 = some ⟨Wk2.heap.size, 0, none⟩ := ⟨_, rfl⟩
    obtain ⟨s4, es4⟩ : ∃ s4 : Option Addr, s4 = some ⟨Wk2.heap.size + 1, 0, none⟩ := ⟨_, rfl⟩
    obtain ⟨s7, es7⟩ : ∃ s7 : Option Addr, s7 = some ⟨Wk2.heap.size + 1 + 1, 0, none⟩ := ⟨_, rfl⟩
    have HVs : Hid (Var3 31 Ws (Wk2.heap.size + 1 + 1 + 1) (.slice s1 1 1) (.slice s4 1 1) (.slice s7 3 3)) := by rw [hWs, es1, es4, es7]; exact hd_var _ _ _ _
    rw [← hWs]
    rw [← es1, ← es4, ← es7] at Hs
    clear es1 es4 es7
    replace HX := Lib.hid (HX.out.trans x1); replace HDe := Lib.hid (HDe.out.ext x1); replace HMk := Lib.hid (HMk.out.ext x1); replace HVr := Lib.hid (HVr.out.ext x1); replace Hr := Lib.hid (Hr.out.ext x1); replace Hc := Lib.hid (Hc.out.ext x1); replace HVc := Lib.hid (HVc.out.ext x1); replace Hk := Lib.hid (Hk.out.ext x1); replace HVk := Lib.hid (HVk.out.ext x1)
    clear x1 hWs
    generalize Wk2.heap.size + 1 + 1 + 1 = bs at *
    obtain ⟨qr0, qr1, qr2⟩ := HVr.out.cells
    obtain ⟨qs0, qs1, qs2⟩ := HVs.out.cells
    go_wp2_with fail
    refine (Image_ok hd_valid hd_set _ _ _ Hr.out Hs.out HDe.out).mono ?_
    rintro r wk3 ⟨i1, i2, i3, i4, i5, i6, i7, i8, i9, rfl, e, x1⟩
    have Hi := Lib.hid e
    replace HX := Lib.hid (HX.out.trans x1); replace HDe := Lib.hid (HDe.out.ext x1); replace HMk := Lib.hid (HMk.out.ext x1); replace HVr := Lib.hid (HVr.out.ext x1); replace Hr := Lib.hid (Hr.out.ext x1); replace Hc := Lib.hid (Hc.out.ext x1); replace HVc := Lib.hid (HVc.out.ext x1); replace Hk := Lib.hid (Hk.out.ext x1); replace HVk := Lib.hid (HVk.out.ext x1); replace Hs := Lib.hid (Hs.out.ext x1); replace HVs := Lib.hid (HVs.out.ext x1)
    clear x1 e qr0 qr1 qr2 qs0 qs1 qs2
    go_upto_region 7 with fail
    obtain ⟨Wk3, hWk⟩ : ∃ Wk, Wk = wk3.alloc (.cells #[.slice i1 i2 i3, .slice i4 i5 i6, .slice i7 i8 i9] 31) := ⟨_, rfl⟩
    have x1 : Ext wk3 Wk3 := by rw [hWk]; exact (Ext.refl _).alloc _
    have HVi : Hid (Var3 31 Wk3 wk3.heap.size (.slice i1 i2 i3) (.slice i4 i5 i6) (.slice i7 i8 i9)) := by rw [hWk]; exact Var3.new _ _ _ _ _
    rw [← hWk]
    replace HX := Lib.hid (HX.out.trans x1); replace HDe := Lib.hid (HDe.out.ext x1); replace HMk := Lib.hid (HMk.out.ext x1); replace HVr := Lib.hid (HVr.out.ext x1); replace Hr := Lib.hid (Hr.out.ext x1); replace Hc := Lib.hid (Hc.out.ext x1); replace HVc := Lib.hid (HVc.out.ext x1); replace Hk := Lib.hid (Hk.out.ext x1); replace HVk := Lib.hid (HVk.out.ext x1); replace Hs := Lib.hid (Hs.out.ext x1); replace HVs := Lib.hid (HVs.out.ext x1); replace Hi := Lib.hid (Hi.out.ext x1)
    clear x1 hWk
    generalize wk3.heap.size = bi at *
    obtain ⟨qr0, qr1, qr2⟩ := HVr.out.cells
    obtain ⟨qs0, qs1, qs2⟩ := HVs.out.cells
    go_wp2_with fail
    refine (Inside_ok hd_valid hd_set _ _ _ Hr.out Hs.out HDe.out).mono ?_
    rintro r wk4 ⟨j1, j2, j3, j4, j5, j6, j7, j8, j9, rfl, e, x1⟩
    have Hj := Lib.hid e
    replace HX := Lib.hid (HX.out.trans x1); replace HDe := Lib.hid (HDe.out.ext x1); replace HMk := Lib.hid (HMk.out.ext x1); replace HVr := Lib.hid (HVr.out.ext x1); replace Hr := Lib.hid (Hr.out.ext x1); replace Hc := Lib.hid (Hc.out.ext x1); replace HVc := Lib.hid (HVc.out.ext x1); replace Hk := Lib.hid (Hk.out.ext x1); replace HVk := Lib.hid (HVk.out.ext x1); replace Hs := Lib.hid (Hs.out.ext x1); replace HVs := Lib.hid (HVs.out.ext x1); replace Hi := Lib.hid (Hi.out.ext x1); replace HVi := Lib.hid (HVi.out.ext x1)
    clear x1 e qr0 qr1 qr2 qs0 qs1 qs2
    go_upto_region 8 with fail
    obtain ⟨Wk4, hWk⟩ : ∃ Wk, Wk = wk4.alloc (.cells #[.slice j1 j2 j3, .slice j4 j5 j6, .slice j7 j8 j9] 31) := ⟨_, rfl⟩
    have x1 : Ext wk4 Wk4 := by rw [hWk]; exact (Ext.refl _).alloc _
    have HVj : Hid (Var3 31 Wk4 wk4.heap.size (.slice j1 j2 j3) (.slice j4 j5 j6) (.slice j7 j8 j9)) := by rw [hWk]; exact Var3.new _ _ _ _ _
    rw [← hWk]
    replace HX := Lib.hid (HX.out.trans x1); replace HDe := Lib.hid (HDe.out.ext x1); replace HMk := Lib.hid (HMk.out.ext x1); replace HVr := Lib.hid (HVr.out.ext x1); replace Hr := Lib.hid (Hr.out.ext x1); replace Hc := Lib.hid (Hc.out.ext x1); replace HVc := Lib.hid (HVc.out.ext x1); replace Hk := Lib.hid (Hk.out.ext x1); replace HVk := Lib.hid (HVk.out.ext x1); replace Hs := Lib.hid (Hs.out.ext x1); replace HVs := Lib.hid (HVs.out.ext x1); replace Hi := Lib.hid (Hi.out.ext x1); replace HVi := Lib.hid (HVi.out.ext x1); replace Hj := Lib.hid (Hj.out.ext x1)
    clear x1 hWk
    generalize wk4.heap.size = bj at *
    obtain ⟨qk0, qk1, qk2⟩ := HVk.out.cells
    obtain ⟨qs0, qs1, qs2⟩ := HVs.out.cells
    go_wp2_with fail
    refine (Inside_ok (clo_valid hd_valid) hd_set _ _ _ Hk.out Hs.out HDe.out).mono ?_
    rintro r wk5 ⟨l1, l2, l3, l4, l5, l6, l7, l8, l9, rfl, e, x1⟩
    have Hl := Lib.hid e
    replace HX := Lib.hid (HX.out.trans x1); replace HDe := Lib.hid (HDe.out.ext x1); replace HMk := Lib.hid (HMk.out.ext x1); replace HVr := Lib.hid (HVr.out.ext x1); replace Hr := Lib.hid (Hr.out.ext x1); replace Hc := Lib.hid (Hc.out.ext x1); replace HVc := Lib.hid (HVc.out.ext x1); replace Hk := Lib.hid (Hk.out.ext x1); replace HVk := Lib.hid (HVk.out.ext x1); replace Hs := Lib.hid (Hs.out.ext x1); replace HVs := Lib.hid (HVs.out.ext x1); replace Hi := Lib.hid (Hi.out.ext x1); replace HVi := Lib.hid (HVi.out.ext x1); replace Hj := Lib.hid (Hj.out.ext x1); replace HVj := Lib.hid (HVj.out.ext x1)
    clear x1 e qk0 qk1 qk2 qs0 qs1 qs2
    go_upto_region 9 with fail
    obtain ⟨Wk5, hWk⟩ : ∃ Wk, Wk = wk5.alloc (.cells #[.slice l1 l2 l3, .slice l4 l5 l6, .slice l7 l8 l9] 31) := ⟨_, rfl⟩
    have x1 : Ext wk5 Wk5 := by rw [hWk]; exact (Ext.refl _).alloc _
    have HVl : Hid (Var3 31 Wk5 wk5.heap.size (.slice l1 l2 l3) (.slice l4 l5 l6) (.slice l7 l8 l9)) := by rw [hWk]; exact Var3.new _ _ _ _ _
    rw [← hWk]
    replace HX := Lib.hid (HX.out.trans x1); replace HDe := Lib.hid (HDe.out.ext x1); replace HMk := Lib.hid (HMk.out.ext x1); replace HVr := Lib.hid (HVr.out.ext x1); replace Hr := Lib.hid (Hr.out.ext x1); replace Hc := Lib.hid (Hc.out.ext x1); replace HVc := Lib.hid (HVc.out.ext x1); replace Hk := Lib.hid (Hk.out.ext x1); replace HVk := Lib.hid (HVk.out.ext x1); replace Hs := Lib.hid (Hs.out.ext x1); replace HVs := Lib.hid (HVs.out.ext x1); replace Hi := Lib.hid (Hi.out.ext x1); replace HVi := Lib.hid (HVi.out.ext x1); replace Hj := Lib.hid (Hj.out.ext x1); replace HVj := Lib.hid (HVj.out.ext x1); replace Hl := Lib.hid (Hl.out.ext x1)
    clear x1 hWk
    generalize wk5.heap.size = bl at *
    have HID := Lib.hid (hd_id HMk.out HDe.out 51 3)
    go_wp2_with fail
    refine HID.out.mono ?_
    rintro r wp ⟨n1, n2, n3, n4, n5, n6, n7, n8, n9, rfl, x1⟩
    replace HX := Lib.hid (HX.out.trans x1); replace HDe := Lib.hid (HDe.out.ext x1); replace HMk := Lib.hid (HMk.out.ext x1); replace HVr := Lib.hid (HVr.out.ext x1); replace Hr := Lib.hid (Hr.out.ext x1); replace Hc := Lib.hid (Hc.out.ext x1); replace HVc := Lib.hid (HVc.out.ext x1); replace Hk := Lib.hid (Hk.out.ext x1); replace HVk := Lib.hid (HVk.out.ext x1); replace Hs := Lib.hid (Hs.out.ext x1); replace HVs := Lib.hid (HVs.out.ext x1); replace Hi := Lib.hid (Hi.out.ext x1); replace HVi := Lib.hid (HVi.out.ext x1); replace Hj := Lib.hid (Hj.out.ext x1); replace HVj := Lib.hid (HVj.out.ext x1); replace Hl := Lib.hid (Hl.out.ext x1); replace HVl := Lib.hid (HVl.out.ext x1)
    clear x1 HID
    obtain ⟨rb, ro, rfl, rfl, g0, g1⟩ := pair_lit (w := wp) Hr.out (m := 4) rfl 3 (by decide) (show (castP hdP)[3] = (3, 0) from rfl)
    obtain ⟨cb, co, rfl, rfl, g2, g3⟩ := pair_lit (w := wp) (hd_cmp ▸ Hc.out) (m := 4) rfl 1 (by decide) (show (castP [(0, 2), (1, 3), (2, 0), (3, 1)])[1] = (1, 3) from rfl)
    obtain rfl : k8 = 16 := (relv_len Hk.out).trans hd_clo
    obtain rfl : l8 = 0 := (setv_len Hl.out).trans (congrArg List.length hd_ins2)
    have HI := Lib.hid (setv_in Hi.out); have HJ := Lib.hid (setv_in Hj.out)
    have hqp := run_eqlPair
    obtain ⟨qr0, qr1, qr2⟩ := HVr.out.cells
    obtain ⟨qc0, qc1, qc2⟩ := HVc.out.cells
    obtain ⟨qk0, qk1, qk2⟩ := HVk.out.cells
    obtain ⟨qi0, qi1, qi2⟩ := HVi.out.cells
    obtain ⟨qj0, qj1, qj2⟩ := HVj.out.cells
    obtain ⟨ql0, ql1, ql2⟩ := HVl.out.cells
    simp only [Nat.reduceMul] at g0 g1 g2 g3
    have y1 := lt_heap HVr.out; have y2 := lt_heap HVc.out; have y3 := lt_heap HVk.out; have y4 := lt_heap HVi.out; have y5 := lt_heap HVj.out; have y6 := lt_heap HVl.out; have y7 := block_lt g0; have y8 := block_lt g2
    dsimp only at y7 y8
    go_wp2_with fail
    refine (RInts_any (castL (imgL hdP [0, 1, 2])) [1, 2, 3] _ _ _ (HI.out.ext (((Ext.refl _).alloc _).alloc _)) (ints_three (heap_new2 _ _ _))).mono ?_
    rintro r wq ⟨rfl, x1⟩
    rw [hd_imgB]
    replace x1 : Ext wp wq := (((Ext.refl _).alloc _).alloc _).trans x1
    replace HX := Lib.hid (HX.out.trans x1); replace HVj := Lib.hid (HVj.out.ext x1); replace HVl := Lib.hid (HVl.out.ext x1); replace HJ := Lib.hid (HJ.out.ext x1)
    clear x1 qr0 qr1 qr2 qc0 qc1 qc2 qk0 qk1 qk2 qi0 qi1 qi2 qj0 qj1 qj2 ql0 ql1 ql2 g0 g1 g2 g3 y1 y2 y3 y4 y5 y6 y7 y8
    obtain ⟨qj0, qj1, qj2⟩ := HVj.out.cells
    go_wp2_with fail
    refine (RInts_any (castL (insL hdP [0, 1, 2])) [0, 1] _ _ _ (HJ.out.ext ((Ext.refl _).alloc _)) (ints_two (heap_new _ _))).mono ?_
    rintro r wr ⟨rfl, x1⟩
    rw [hd_insB]
    replace x1 : Ext wq wr := ((Ext.refl _).alloc _).trans x1
    replace HX := Lib.hid (HX.out.trans x1); replace HVl := Lib.hid (HVl.out.ext x1)
    clear x1 qj0 qj1 qj2
    obtain ⟨ql0, ql1, ql2⟩ := HVl.out.cells
    go_wp2_with fail
    go_ret
    exact ⟨rfl, HX.out⟩
end Go.Proofs.YtlnahhlddekhoaaGreatDoor
