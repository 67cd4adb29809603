/-
  The walk of StatesNumbers. Printed by gen_law10.py.
-/
import Derived.Test.YtdiopiekmdfklaaDoorMAlg
import Derived.Test.YtdiopiekmdfklaaDoorMApp
import Derived.Test.YtdiopiekmdfklaaDoorMHb
import Derived.Test.YtdiopiekmdfklaaDoorMStb
import Derived.Test.YtdiopiekmdfklaaDoorMCls
import Derived.Deep.RegionHeld3
namespace Go.Proofs.YtdiopiekmdfklaaDoor
open Go.RowKit

theorem setc_cells2 {w : World} {v1 v2 v3 : Value} {cs ws is : List Int} (h : SetC w (.agg #[v1, v2, v3]) cs ws is) : Ints w v1 cs ∧ Ints w v2 ws := by
  obtain ⟨_, _, _, e, h1, h2, _⟩ := h
  cases e; exact ⟨h1.1, h2.1⟩
theorem setc_lens {w : World} {a1 a4 a7 : Option Addr} {a2 a3 a5 a6 a8 a9 : Nat} {cs ws is : List Int} (h : SetC w (.agg #[.slice a1 a2 a3, .slice a4 a5 a6, .slice a7 a8 a9]) cs ws is) : a2 = cs.length ∧ a5 = ws.length := by
  obtain ⟨_, _, _, e, h1, h2, _⟩ := h
  cases e
  obtain ⟨_, _, e1, _⟩ := h1.2
  obtain ⟨_, _, e2, _⟩ := h2.2
  cases e1; cases e2; exact ⟨rfl, rfl⟩
theorem small_bits {cs ws : List Int} : bitsI cs ws 12 = if smallB cs ws then sumI ws else -1 := by
  unfold bitsI smallB
  by_cases c : shapeB cs ws = true
  · by_cases d : sumI ws ≤ 12 <;> simp [c, d]
  · simp [c]
/-- The values of a state at a cell of the shape, and beside it. -/
theorem num_cases {cs ws : List Int} (hs : smallB cs ws = true) (n : Int) {B : List Int} (h32 : 32 ≤ B.length) (k : Nat) :
    (((k : Int) ∉ cs ∧ idxI cs (k : Int) 0 = -1 ∧ (stateS cs ws n B).getD k 0 = B.getD k 0 ∧ (stateS cs ws (numS cs ws B) B).getD k 0 = B.getD k 0) ∨
     ((k : Int) ∈ cs ∧ ∃ j : Nat, j < ws.length ∧ idxI cs (k : Int) 0 = (j : Int) ∧ (stateS cs ws (numS cs ws B) B).getD k 0 = elemS B (k : Int) % pw (ws.getD j 0) ∧ 1 ≤ ws.getD j 0 ∧ ws.getD j 0 ≤ 8)) := by
  obtain ⟨h1, hwd, _, _⟩ := small_sum hs
  obtain ⟨hl, hinc, hin⟩ := shape_iff.1 h1
  by_cases hm : (k : Int) ∈ cs
  · refine .inr ⟨hm, cs.countP fun y => decide (y < (k : Int)), by rw [← hl]; exact count_in hinc hm, by rw [idx_inc (inc_pw hinc) 0 hm, Nat.zero_add], ?_⟩
    obtain ⟨i, hi, e⟩ := mem_idx hm
    have hc : (cs.countP fun y => decide (y < (k : Int))) = i := by rw [← e, count_at (inc_pw hinc) hi]
    rw [hc]
    have h2 := state_num hs h32 hi
    have h3 := hin i hi
    rw [e] at h2
    exact ⟨h2, h3.2.2.1, h3.2.2.2⟩
  · exact .inl ⟨hm, idx_none hm 0, state_other hs n h32 hm, state_other hs _ h32 hm⟩
set_option maxRecDepth 100000 in
set_option maxHeartbeats 16000000 in
theorem StatesNumbers_any (cs ws is : List Int) (n : Int) (st : List Int) (va vs : Value) (w : World) (ha : SetC w va cs ws is) (hs : Ints w vs st) (hT : DeB w) (hM : Masks w) (hN : Names w) (hP : Pow10 w) :
    Calls Tryd.prog 5 #[va, .int .i64 n, vs] w fun r w' => r = .returned (.bool true) ∧ Ext w w' := by
  obtain ⟨a1, a2, a3, a4, a5, a6, a7, a8, a9, rfl⟩ := ha.shape'
  obtain ⟨sa, sc, rfl⟩ := hs.shape
  obtain ⟨W, hW⟩ : ∃ W, W = w.alloc (.cells #[.slice a1 a2 a3, .slice a4 a5 a6, .slice a7 a8 a9] 31) := ⟨_, rfl⟩
  have hx : Ext w W := by rw [hW]; exact (Ext.refl w).alloc _
  have HVa : Hid (Var3 31 W w.heap.size (.slice a1 a2 a3) (.slice a4 a5 a6) (.slice a7 a8 a9)) := (by rw [hW]; exact heap_new _ _)
  have Ha := Lib.hid (ha.ext hx)
  have Hs := Lib.hid (hs.ext hx)
  have HX := Lib.hid hx; have HDe := Lib.hid (hT.ext hx); have HMk := Lib.hid (hM.ext hx); have HNm := Lib.hid (hN.ext hx); have HPw := Lib.hid (hP.ext hx); have HW := Lib.hid hW
  clear hW hx hT hM hN hP ha hs
  go_enter Tryd.func5, Tryd.ntmps5
  go_upto_region 1 with fail
  rw [← HW.out]
  clear HW
  generalize w.heap.size = ba at *
  go_wp2_with fail
  refine (head_any W HDe.out HMk.out HNm.out HPw.out).mono ?_
  rintro r wk1 ⟨rfl, x1⟩
  replace HX := Lib.hid (HX.out.trans x1); replace HDe := Lib.hid (HDe.out.ext x1); replace HMk := Lib.hid (HMk.out.ext x1); replace HNm := Lib.hid (HNm.out.ext x1); replace HPw := Lib.hid (HPw.out.ext x1); replace HVa := Lib.hid (HVa.out.ext x1); replace Ha := Lib.hid (Ha.out.ext x1); replace Hs := Lib.hid (Hs.out.ext x1)
  clear x1
  obtain ⟨qa0, qa1, qa2⟩ := HVa.out.cells
  by_cases t1 : 40 < a2
  · go_wp2_with fail
    exact bodyPost_ret (v := .bool true) (by simp [results, Tryd.results5, go_sem]) rfl ⟨rfl, HX.out⟩
  clear qa0 qa1 qa2
  obtain ⟨qa0, qa1, qa2⟩ := HVa.out.cells
  by_cases t2 : 60 < st.length
  · go_wp2_with fail
    exact bodyPost_ret (v := .bool true) (by simp [results, Tryd.results5, go_sem]) rfl ⟨rfl, HX.out⟩
  clear qa0 qa1 qa2
  obtain ⟨qa0, qa1, qa2⟩ := HVa.out.cells
  go_wp2_with fail
  refine (RBits_any cs ws 12 _ _ _ (setc_cells2 Ha.out).1 (setc_cells2 Ha.out).2).mono ?_
  rintro r wk2 ⟨rfl, x1⟩
  rw [small_bits]
  replace HX := Lib.hid (HX.out.trans x1); replace HDe := Lib.hid (HDe.out.ext x1); replace HMk := Lib.hid (HMk.out.ext x1); replace HNm := Lib.hid (HNm.out.ext x1); replace HPw := Lib.hid (HPw.out.ext x1); replace HVa := Lib.hid (HVa.out.ext x1); replace Ha := Lib.hid (Ha.out.ext x1); replace Hs := Lib.hid (Hs.out.ext x1)
  clear x1 qa0 qa1 qa2
  cases hsm : smallB cs ws with
  | false =>
    have HN0 : Hid (numS cs ws st = 0) := by unfold Hid numS; rw [hsm]; rfl
    have HS0 : Hid (stateS cs ws n st = st) := by unfold Hid stateS; rw [hsm]; rfl
    clear hsm
    rw [if_neg (by decide)]
    obtain ⟨qa0, qa1, qa2⟩ := HVa.out.cells
    go_wp2_with fail
    refine (Number_any cs ws is st _ _ _ Ha.out.setV Hs.out).mono ?_
    rintro r wk3 ⟨rfl, x1⟩
    rw [HN0.out]
    replace HX := Lib.hid (HX.out.trans x1); replace HDe := Lib.hid (HDe.out.ext x1); replace HMk := Lib.hid (HMk.out.ext x1); replace HNm := Lib.hid (HNm.out.ext x1); replace HPw := Lib.hid (HPw.out.ext x1); replace HVa := Lib.hid (HVa.out.ext x1); replace Ha := Lib.hid (Ha.out.ext x1); replace Hs := Lib.hid (Hs.out.ext x1)
    clear x1 qa0 qa1 qa2
    obtain ⟨qa0, qa1, qa2⟩ := HVa.out.cells
    go_wp2_with fail
    refine (State_any cs ws is n st _ _ _ Ha.out.setV Hs.out (by omega)).mono ?_
    rintro r wk4 ⟨v, rfl, o1, x1⟩
    rw [HS0.out] at o1
    obtain ⟨ta, tc, rfl⟩ := o1.ints.shape
    have HT := Lib.hid o1.ints
    replace HX := Lib.hid (HX.out.trans x1); replace HDe := Lib.hid (HDe.out.ext x1); replace HMk := Lib.hid (HMk.out.ext x1); replace HNm := Lib.hid (HNm.out.ext x1); replace HPw := Lib.hid (HPw.out.ext x1); replace HVa := Lib.hid (HVa.out.ext x1); replace Ha := Lib.hid (Ha.out.ext x1); replace Hs := Lib.hid (Hs.out.ext x1)
    clear x1 o1 qa0 qa1 qa2
    go_wp2_with fail
    refine (RInts_any st st _ _ _ HT.out Hs.out).mono ?_
    rintro r wk5 ⟨rfl, x1⟩
    rw [show decide (st = st) = true by simp]
    replace HX := Lib.hid (HX.out.trans x1); replace HDe := Lib.hid (HDe.out.ext x1); replace HMk := Lib.hid (HMk.out.ext x1); replace HNm := Lib.hid (HNm.out.ext x1); replace HPw := Lib.hid (HPw.out.ext x1); replace HVa := Lib.hid (HVa.out.ext x1); replace Ha := Lib.hid (Ha.out.ext x1); replace Hs := Lib.hid (Hs.out.ext x1)
    clear x1
    go_wp2_with fail
    exact bodyPost_ret (v := .bool true) (by simp [results, Tryd.results5, go_sem]) rfl ⟨rfl, HX.out⟩
  | true =>
    rw [if_pos rfl]
    obtain ⟨hsh, hwd, hs0, hs12⟩ := small_sum hsm
    have HSM := Lib.hid hsm; have HWD := Lib.hid hwd
    have hmask := mask12 (n := n) hs0 hs12
    have hpw := pw_mono hs0 hs12
    have hp0 := @pw_pos (sumI ws)
    generalize hsum : sumI ws = sm at *
    have HSUM := Lib.hid hsum
    clear hsum hsm hsh hwd
    have e12 : pw 12 = 4096 := by decide
    rw [e12] at hpw
    clear e12
    have hnl : decide (sm < 0) = false := decide_eq_false (by omega)
    have hsl : st.length ≤ 60 := by omega
    have hown0 := OwnInts.empty wk2 wk2.heap.size (Nat.le_refl _)
    have hst0 := Hs.out.ext ((Ext.refl wk2).alloc (.cells #[] 3))
    have HO0 := Lib.hid hown0; have HS0 := Lib.hid hst0
    clear hown0 hst0
    go_wp2_with (at_builtin; refine wpList_append_list rfl (.tmp 47) (.tmp 48) rfl wk2.heap.size _ _ [] st rfl rfl HO0.out HS0.out (by simp; omega) (by simp) ?_)
    intro v' w' hown' hg
    have hx' : Ext wk2 w' := ((Ext.refl wk2).alloc _).grown hg (fun q hq => HO0.out.base q hq)
    have HO' := Lib.hid hown'; have HX' := Lib.hid hx'
    clear hown' hx' hg HO0 HS0
    go_wp2_with fail
    go_loopw [9] (fun v wr => ∃ l : List Int, l.length ≤ 60 ∧ OwnInts wr wk2.heap.size v l ∧ Ext wk2 wr) (fun v _ => 32 - lenOf v)
    case atStart => exact ⟨st, hsl, HO'.out, HX'.out⟩
    case round =>
      obtain ⟨B, hB, hO, hX⟩ := hrel
      have HO := Lib.hid hO; have HXr := Lib.hid hX
      obtain ⟨ba0, bc0, rfl⟩ := hO.ints.shape
      clear hO hX
      by_cases hlt : B.length < 32
      · have hlw : wk2.heap.size ≤ wr.heap.size := HXr.out.size
        go_wp2_with (at_builtin; refine wpList_append_int rfl (.tmp 53) (.tmp 54) rfl wk2.heap.size wr _ _ 0 rfl rfl HO.out (by omega) hlw ?_)
        intro v2 w2 hown2 hg
        have hx2 : Ext wk2 w2 := HXr.out.grown hg (fun q hq => HO.out.base q hq)
        have HO2 := Lib.hid hown2; have HX2 := Lib.hid hx2
        obtain ⟨ba1, bc1, rfl⟩ := hown2.ints.shape
        clear hown2 hx2 hg
        go_wp2_with fail
        exact ⟨⟨B ++ [0], by simp; omega, HO2.out, HX2.out⟩, by simp [lenOf]; omega⟩
      · have h32 : 32 ≤ B.length := by omega
        have HBI := Lib.hid HO.out.ints
        have x1 := HXr.out
        generalize wr = wx at *
        replace HX := Lib.hid (HX.out.trans x1); replace HDe := Lib.hid (HDe.out.ext x1); replace HMk := Lib.hid (HMk.out.ext x1); replace HNm := Lib.hid (HNm.out.ext x1); replace HPw := Lib.hid (HPw.out.ext x1); replace HVa := Lib.hid (HVa.out.ext x1); replace Ha := Lib.hid (Ha.out.ext x1); replace Hs := Lib.hid (Hs.out.ext x1)
        clear x1 HO HXr HX' HO' hnl
        obtain ⟨qa0, qa1, qa2⟩ := HVa.out.cells
        have hsl2 := state_len HSM.out n h32
        have hsl3 := state_len HSM.out (numS cs ws B) h32
        have hns := num_state HSM.out n h32
        have HCAS := Lib.hid (num_cases HSM.out n h32)
        have HNS := Lib.hid hns; have HL2 := Lib.hid hsl2; have HL3 := Lib.hid hsl3
        clear hns hsl2 hsl3
        go_wp2_with fail
        refine (State_any cs ws is n B _ _ _ Ha.out.setV HBI.out (by omega)).mono ?_
        rintro r wk3 ⟨v, rfl, o1, x1⟩
        obtain ⟨ra, rc, rfl⟩ := o1.ints.shape
        rw [HL2.out]
        have HSI : Hid (Ints wk3 (.slice ra B.length rc) (stateS cs ws n B)) := by have := o1.ints; rw [HL2.out] at this; exact this
        replace HX := Lib.hid (HX.out.trans x1); replace HDe := Lib.hid (HDe.out.ext x1); replace HMk := Lib.hid (HMk.out.ext x1); replace HNm := Lib.hid (HNm.out.ext x1); replace HPw := Lib.hid (HPw.out.ext x1); replace HVa := Lib.hid (HVa.out.ext x1); replace Ha := Lib.hid (Ha.out.ext x1); replace Hs := Lib.hid (Hs.out.ext x1); replace HBI := Lib.hid (HBI.out.ext x1)
        clear x1 o1 qa0 qa1 qa2
        obtain ⟨qa0, qa1, qa2⟩ := HVa.out.cells
        go_wp2_with fail
        refine (Number_any cs ws is (stateS cs ws n B) _ _ _ Ha.out.setV HSI.out).mono ?_
        rintro r wk4 ⟨rfl, x1⟩
        rw [HNS.out, HSUM.out]
        replace HX := Lib.hid (HX.out.trans x1); replace HDe := Lib.hid (HDe.out.ext x1); replace HMk := Lib.hid (HMk.out.ext x1); replace HNm := Lib.hid (HNm.out.ext x1); replace HPw := Lib.hid (HPw.out.ext x1); replace HVa := Lib.hid (HVa.out.ext x1); replace Ha := Lib.hid (Ha.out.ext x1); replace Hs := Lib.hid (Hs.out.ext x1); replace HBI := Lib.hid (HBI.out.ext x1); replace HSI := Lib.hid (HSI.out.ext x1)
        clear x1 qa0 qa1 qa2
        go_wp2_with fail
        refine (Power_any sm _ (by omega)).mono ?_
        rintro r wk5 ⟨rfl, hw9⟩
        rw [← hw9]; clear hw9 wk5
        have hwp : wrap64 (pw sm - 1) = pw sm - 1 := by unfold wrap64; omega
        have hbne : (n % pw sm != n % pw sm) = false := by simp
        go_upto_region 13 with fail
        have HR0 := Lib.hid ((Ext.refl wk4).drew)
        obtain ⟨za0, za1, za2⟩ := HVa.out.cells
        go_region_held3 (fun w' => (w'.cell? ⟨ba, 0, none⟩ = some (.slice a1 a2 a3) ∧ w'.cell? ⟨ba, 1, none⟩ = some (.slice a4 a5 a6) ∧ w'.cell? ⟨ba, 2, none⟩ = some (.slice a7 a8 a9)))
          (first | (with_reducible exact hk2) | (with_reducible exact hk1) | exact ⟨za0, za1, za2⟩ | fail)
          ((first
            | (have hgo := HR1.out; clear hgo; go_at_call 24; refine (State_any cs ws is (numS cs ws B) B _ _ _ (Ha.out.setV.ext HR1.out) (HBI.out.ext HR1.out) (by omega)).mono ?_; rintro r wh2 ⟨v, rfl, o1, x1⟩; obtain ⟨ta, tc, rfl⟩ := o1.ints.shape; have HTI := Lib.hid o1.ints; rw [HL3.out]; clear o1; have HR2 := Lib.hid (HR1.out.trans x1); have hk2 := (HVa.out.ext HR2.out).cells; clear x1)
            | (have hgo := HR0.out; clear hgo; go_at_call 22; refine (Number_any cs ws is B _ _ _ (Ha.out.setV.ext HR0.out) (HBI.out.ext HR0.out)).mono ?_; rintro r wh1 ⟨rfl, x1⟩; have HR1 := Lib.hid (HR0.out.trans x1); have hk1 := (HVa.out.ext HR1.out).cells; clear x1)))
        replace HX := Lib.hid (HX.out.trans HR2.out)
        have x1 := HR2.out
        replace HDe := Lib.hid (HDe.out.ext x1); replace HMk := Lib.hid (HMk.out.ext x1); replace HNm := Lib.hid (HNm.out.ext x1); replace HPw := Lib.hid (HPw.out.ext x1); replace HVa := Lib.hid (HVa.out.ext x1); replace Ha := Lib.hid (Ha.out.ext x1); replace Hs := Lib.hid (Hs.out.ext x1); replace HBI := Lib.hid (HBI.out.ext x1); replace HSI := Lib.hid (HSI.out.ext x1)
        rw [HL3.out] at HTI
        clear x1 HR0 HR1 HR2 hk1 hk2 za0 za1 za2 hwp hbne hmask
        have HLa := Lib.hid (setc_lens Ha.out)
        go_wp2_with fail
        go_loopw [12] (fun i wr => ∃ k : Nat, k ≤ B.length ∧ i = .int .i64 k ∧ Ext wh2 wr) (fun i _ => B.length - (intOf i).toNat)
        case atStart => exact ⟨0, Nat.zero_le _, rfl, Ext.refl _⟩
        case round =>
          obtain ⟨k, hk, rfl, x1⟩ := hrel
          have HXr := Lib.hid x1
          replace HX := Lib.hid (HX.out.trans x1); replace HDe := Lib.hid (HDe.out.ext x1); replace HMk := Lib.hid (HMk.out.ext x1); replace HNm := Lib.hid (HNm.out.ext x1); replace HPw := Lib.hid (HPw.out.ext x1); replace HVa := Lib.hid (HVa.out.ext x1); replace Ha := Lib.hid (Ha.out.ext x1); replace Hs := Lib.hid (Hs.out.ext x1); replace HBI := Lib.hid (HBI.out.ext x1); replace HSI := Lib.hid (HSI.out.ext x1); replace HTI := Lib.hid (HTI.out.ext x1)
          clear x1
          generalize wr = wy at *
          by_cases hlt : k < B.length
          · have HSg := Lib.hid (ints_at HSI.out k (by have := HL2.out; omega)); have HBg := Lib.hid (ints_at HBI.out k hlt); have HTg := Lib.hid (ints_at HTI.out k (by have := HL3.out; omega))
            obtain ⟨qa0, qa1, qa2⟩ := HVa.out.cells
            go_wp2_with fail
            refine (RIndex_any cs k _ _ (setc_cells2 Ha.out).1).mono ?_
            rintro r wq ⟨rfl, hwq⟩
            rw [hwq]; clear hwq wq
            rcases HCAS.out k with ⟨hm, hidx, e1, e2⟩ | ⟨hm, j, hj, hidx, e2, w1, w8⟩
            · obtain ⟨sb, so, rfl, g1⟩ := HSg.out
              obtain ⟨bb, bo, rfl, g2⟩ := HBg.out
              obtain ⟨tb, tto, rfl, g3⟩ := HTg.out
              rw [e1] at g1; rw [e2] at g3
              rw [hidx]
              clear hm hidx e1 e2
              generalize B.getD k 0 = y at *
              have hbne : (y != y) = false := by simp
              go_wp2_with fail
              go_quiet (fail)
              go_wp2_with fail
              exact ⟨⟨k + 1, by omega, by go_num, HXr.out.drewN _⟩, by simp [intOf]; omega⟩
            · obtain ⟨wb, wo, hwa, g4⟩ := ints_at (setc_cells2 Ha.out).2 j hj
              obtain ⟨bb, bo, rfl, g2⟩ := HBg.out
              obtain ⟨tb, tto, rfl, g3⟩ := HTg.out
              subst hwa
              have hj' : j < a5 := by have := HLa.out.2; omega
              have HAt : Hid (∀ m : Nat, Calls Tryd.prog 27 #[.slice (some ⟨bb, bo, none⟩) B.length bc0, .int .i64 (k : Int), .int .i64 (ws.getD j 0)] (wy.drewN m) fun e w' => e = .returned (.int .i64 (elemS B (k : Int) % pw (ws.getD j 0))) ∧ ∃ q, w' = (wy.drewN m).drewN q) := fun m => At_q B k (ws.getD j 0) _ _ (HBI.out.ext ((Ext.refl _).drewN m)) (by omega) w1 w8
              rw [e2] at g3
              rw [hidx]
              clear hm hidx e2 HTg HBg HSg
              generalize ws.getD j 0 = wd at *
              generalize elemS B (k : Int) % pw wd = z at *
              have hbne : (z != z) = false := by simp
              have j0 : (0 : Int) ≤ (j : Int) := Int.natCast_nonneg j
              have j1 : decide ((j : Int) < 0) = false := decide_eq_false (by omega)
              have j2 : decide ((j : Int) ≥ 0) = true := decide_eq_true j0
              go_wp2_with fail
              go_quiet ((go_at_call 27; exact Calls.quiet_of (HAt.out _)))
              go_wp2_with fail
              exact ⟨⟨k + 1, by omega, by go_num, HXr.out.drewN _⟩, by simp [intOf]; omega⟩
          · obtain rfl : k = B.length := by omega
            go_wp2_with fail
            exact bodyPost_ret (v := .bool true) (by simp [results, Tryd.results5, go_sem]) rfl ⟨rfl, HX.out⟩
end Go.Proofs.YtdiopiekmdfklaaDoor
