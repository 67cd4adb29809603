/-
  The reference's Union.
  The reference's Shape and Identity.
  The reference's table of a set, and the list of a table.
-/
import Derived.Test.YtlnahhlddekhoaaGreatDoorG25
import Derived.Test.YtlnahhlddekhoaaGreatDoorG20
import Derived.Test.YtlnahhlddekhoaaGreatDoorG26
import Derived.Test.YtlnahhlddekhoaaGreatDoorG21
import Derived.Test.YtlnahhlddekhoaaGreatDoorG23
namespace Go.Proofs.YtlnahhlddekhoaaGreatDoor
open Go.RowKit

theorem ValidR.nums {cs ws : List Int} {p : List (Nat × Nat)} (h : ValidR cs ws p) : Widths ws ∧ 0 ≤ sumI ws ∧ sumI ws ≤ 20 ∧ pw (sumI ws) = ((nn ws : Nat) : Int) ∧ nn ws ≤ 64 ∧ (∀ q ∈ p, q.1 < nn ws ∧ q.2 < nn ws) ∧ cs.length ≤ 1000000 ∧ ws.length ≤ 1000000 := by
  obtain ⟨hsh, hw, h0, _⟩ := small_sum h.small
  have h6 := h.six
  have h64 := h.pw64
  have hp := @pw_pos (sumI ws)
  have hn : pw (sumI ws) = ((nn ws : Nat) : Int) := by unfold nn; omega
  obtain ⟨h1, _⟩ := shape_iff.1 hsh
  have hl := hw.1
  refine ⟨hw, h0, by omega, hn, by omega, fun q hq => ?_, by omega, by omega⟩
  have := h.lt q hq
  omega

def uniT (p q : List (Nat × Nat)) (k i j : Nat) : Bool := memT p p.length i j || memT q k i j
theorem uniT_zero (p q : List (Nat × Nat)) : uniT p q 0 = memT p p.length := by
  funext i j; simp [uniT, memT]
theorem uniT_step {p q : List (Nat × Nat)} {k : Nat} (h : k < q.length) : uniT p q (k + 1) = fun i j => if i = q[k].1 ∧ j = q[k].2 then true else uniT p q k i j := by
  funext i j
  unfold uniT
  rw [memT_step h]
  by_cases c : i = q[k].1 ∧ j = q[k].2
  · simp [c]
  · simp [c]

set_option maxRecDepth 100000 in
set_option maxHeartbeats 4000000 in
theorem RUnion_no (cs ws : List Int) (P : List (Int × Int)) (cs2 ws2 : List Int) (Q : List (Int × Int)) (va vs : Value) (w : World) (ha : RelV w va cs ws P) (hs : RelV w vs cs2 ws2 Q) (hno : alikeR cs ws P cs2 ws2 Q = false) :
    Calls Tryz.prog 14 #[va, vs] w (RelRes 1 [] [] [] w) := by
  obtain ⟨ca, cc, wa, wcp, ia, ic, rfl, a1, a2, a3⟩ := ha.shape
  obtain ⟨ca2, cc2, wa2, wc2, ia2, ic2, rfl, b1, b2, b3⟩ := hs.shape
  obtain ⟨W, hW⟩ : ∃ W, Boxes3 w W (.cells #[.slice ca cs.length cc, .slice wa ws.length wcp, .slice ia P.length ic] 29) (.cells #[.slice ca2 cs2.length cc2, .slice wa2 ws2.length wc2, .slice ia2 Q.length ic2] 29) (.cells #[.slice none 0 0, .slice none 0 0, .slice none 0 0] 29) := ⟨_, Boxes3.mk' _ _ _ _⟩
  obtain ⟨p0, p1, p2⟩ := cells3 hW.b0
  obtain ⟨q0, q1, q2⟩ := cells3 hW.b1
  have HA := Lib.hid (ha.ext hW.ext); have HS := Lib.hid (hs.ext hW.ext)
  have HW := Lib.hid hW; have HNO := Lib.hid hno
  clear ha hs a1 a2 a3 b1 b2 b3 hW hno
  go_enter Tryz.func14, Tryz.ntmps14
  go_upto_region 1 with fail
  rw [← HW.out.eq]
  go_wp2_with fail
  refine (RAlike_any cs ws P cs2 ws2 Q _ _ _ HA.out HS.out).mono ?_
  rintro r w1 ⟨rfl, x1⟩
  rw [HNO.out]
  have X1 := Lib.hid x1; clear x1
  have hR := X1.out.block (w.heap.size + 2) (by have := HW.out.size; omega)
  rw [HW.out.b2] at hR
  obtain ⟨z0, z1, z2, f0, f1, f2⟩ := block3 hR
  have HR := Lib.hid (put3_new (x := .slice none 0 0) (y := .slice none 0 0) (z := .slice none 0 0) hR)
  have HE : Hid (RelRes 1 [] [] [] w (.returned (.tuple #[.agg #[.slice none 0 0, .slice none 0 0, .slice none 0 0], .int .i64 1])) (put3 w1 (w.heap.size + 2) (.slice none 0 0) (.slice none 0 0) (.slice none 0 0))) :=
    ⟨_, rfl, RelO.nil _ _, (HW.out.ext.trans X1.out).put3 (by omega) _ _ _⟩
  clear hR
  go_wp2_with fail
  exact bodyPost_ret (v := .tuple #[.agg #[.slice none 0 0, .slice none 0 0, .slice none 0 0], .int .i64 1]) (results_row_tmp Tryz.results14 _ _ (w.heap.size + 2) 29 _ (0, 0) _ rfl HR.out Tryz.underlying29 rfl sizeRel) rfl HE.out

set_option maxRecDepth 100000 in
set_option maxHeartbeats 4000000 in
theorem RUnion_yes (cs ws : List Int) (p q : List (Nat × Nat)) (va vs : Value) (w : World) (ha : RelV w va cs ws (castP p)) (hs : RelV w vs cs ws (castP q)) (hyes : alikeR cs ws (castP p) cs ws (castP q) = true) (hp : ValidR cs ws p) (hq : ValidR cs ws q) :
    Calls Tryz.prog 14 #[va, vs] w (RelRes 0 cs ws (castP (relTo (nn ws) (uniT p q q.length) (nn ws) 0)) w) := by
  obtain ⟨hw, h0, h20, hn, h64, hM, lc, lw⟩ := hp.nums
  obtain ⟨_, _, _, _, _, hMq, _, _⟩ := hq.nums
  obtain ⟨ca, cc, wa, wcp, ia, ic, rfl, a1, a2, a3⟩ := ha.shape
  obtain ⟨ca2, cc2, wa2, wc2, ia2, ic2, rfl, b1, b2, b3⟩ := hs.shape
  obtain ⟨W, hW⟩ : ∃ W, Boxes3 w W (.cells #[.slice ca cs.length cc, .slice wa ws.length wcp, .slice ia (castP p).length ic] 29) (.cells #[.slice ca2 cs.length cc2, .slice wa2 ws.length wc2, .slice ia2 (castP q).length ic2] 29) (.cells #[.slice none 0 0, .slice none 0 0, .slice none 0 0] 29) := ⟨_, Boxes3.mk' _ _ _ _⟩
  have hlen := SliceAt.len_le b3
  obtain ⟨p0, p1, p2⟩ := cells3 hW.b0
  obtain ⟨q0, q1, q2⟩ := cells3 hW.b1
  have HA := Lib.hid (ha.ext hW.ext); have HS := Lib.hid (hs.ext hW.ext)
  have A1 := Lib.hid (a1.ext hW.ext); have A2 := Lib.hid (a2.ext hW.ext); have B3 := Lib.hid (b3.ext hW.ext)
  have HW := Lib.hid hW; have HYES := Lib.hid hyes; have HTB := Lib.hid (fun v w' hv => RTableR_any cs ws p v w' (nn ws) hv hw h0 hn h20 (by omega) hM)
  have HMQ := Lib.hid hMq
  clear ha hs a1 a2 a3 b1 b2 b3 hW hyes hw h0 h20 hn hM hMq hp hq
  generalize nn ws = n at *
  go_enter Tryz.func14, Tryz.ntmps14
  go_upto_region 1 with fail
  rw [← HW.out.eq]
  go_wp2_with fail
  refine (RAlike_any cs ws _ cs ws _ _ _ _ HA.out HS.out).mono ?_
  rintro r w1 ⟨rfl, x1⟩
  rw [HYES.out]
  have p0' := x1.cell p0; have p1' := x1.cell p1; have p2' := x1.cell p2; have q2' := x1.cell q2
  have X1 := Lib.hid x1; clear x1 p2 q0 q1
  go_wp2_with fail
  refine (HTB.out _ _ (HA.out.ext X1.out)).mono ?_
  rintro r w2 ⟨g, rfl, ⟨r0, hT0⟩, hx2⟩
  have HX2 := Lib.hid hx2
  have HT0 := Lib.hid hT0
  clear hx2 hT0 p0' p1' p2' q2'
  go_wp2_with fail
  go_loopw [7] (fun i wr => ∃ (k : Nat), k ≤ q.length ∧ i = .int .i64 k ∧ TabR wr w1.heap.size g n r0 (uniT p q k) n ∧ Ext w1 wr) (fun i _ => q.length - (intOf i).toNat)
  case atStart => exact ⟨0, Nat.zero_le _, rfl, by rw [uniT_zero]; exact HT0.out, HX2.out⟩
  case round =>
    obtain ⟨k, hk, rfl, hT, hX⟩ := hrel
    have HT := Lib.hid hT; have HXr := Lib.hid hX
    have HXX := Lib.hid (X1.out.trans hX)
    clear hT hX
    have q2r := HXX.out.cell q2
    have p0r := HXX.out.cell p0
    have p1r := HXX.out.cell p1
    rw [castP_len] at q2r hlen
    by_cases hlt : k < q.length
    · obtain ⟨b, o, c, e, g0, g1⟩ := pairAt_of (B3.out.ext HXX.out) (k := k) (by rw [castP_len]; exact hlt)
      rw [castP_get q hlt] at g0 g1
      have hin := HMQ.out _ (List.getElem_mem hlt)
      have c1 := HT.out.cell hin.1 hin.1
      have c2 := HT.out.at hin.1 hin.2
      have f2 := (HT.out.row _ hin.1).2.frozen q[k].2
      rw [castP_len] at e
      cases e
      have HSt : Hid (TabR (wr.setCell ⟨r0 q[k].1, q[k].2, none⟩ (.bool true)) w1.heap.size g n r0 (uniT p q (k + 1)) n) := by
        rw [uniT_step hlt]
        exact HT.out.set hin.1 true
      have HG : Hid (w1.heap.size ≤ r0 q[k].1) := Nat.le_of_lt (Nat.lt_of_le_of_lt HT.out.le (HT.out.row _ hin.1).1)
      obtain ⟨hi1, hi2⟩ := hin
      generalize q[k].1 = x at *
      generalize q[k].2 = y at *
      clear p0 p1 q2 p0r p1r
      go_wp2_with fail
      go_region
      go_wp2_with fail
      exact ⟨⟨k + 1, by omega, by go_num, HSt.out.ext (Ext.refl _).drew, (HXr.out.setCell HG.out _).trans (Ext.refl _).drew⟩, by simp [intOf]; omega⟩
    · have hkn : k = q.length := by omega
      subst hkn
      go_wp2_with fail
      refine (RRelT_any cs ws n g _ _ _ _ w1.heap.size (A1.out.ext HXX.out) (A2.out.ext HXX.out) ⟨r0, HT.out⟩ lc lw h64).mono ?_
      rintro r w3 ⟨v, rfl, hv, x3⟩
      obtain ⟨sa, sb, sc, sd, se, sf, rfl⟩ := hv.shape
      have hR := (HXX.out.trans x3).block (w.heap.size + 2) (by have := HW.out.size; omega)
      rw [HW.out.b2] at hR
      obtain ⟨z0, z1, z2, f0, f1, f2⟩ := block3 hR
      have hz := HW.out.size
      have hz1 := HXX.out.size
      generalize castP (relTo n (uniT p q q.length) n 0) = I at *
      have HR := Lib.hid (put3_new (x := .slice sa cs.length sb) (y := .slice sc ws.length sd) (z := .slice se I.length sf) hR)
      have HF : Hid (RelRes 0 cs ws I w (.returned (.tuple #[.agg #[.slice sa cs.length sb, .slice sc ws.length sd, .slice se I.length sf], .int .i64 0])) (put3 w3 (w.heap.size + 2) (.slice sa cs.length sb) (.slice sc ws.length sd) (.slice se I.length sf))) :=
        ⟨_, rfl, (hv.put3 (by omega) _ _ _).mono (by omega), (HW.out.ext.trans (HXX.out.trans x3)).put3 (by omega) _ _ _⟩
      clear hR hv x3
      go_wp2_with fail
      exact bodyPost_ret (v := .tuple #[.agg #[.slice sa cs.length sb, .slice sc ws.length sd, .slice se I.length sf], .int .i64 0]) (results_row_tmp Tryz.results14 _ _ (w.heap.size + 2) 29 _ (0, 0) _ rfl HR.out Tryz.underlying29 rfl sizeRel) rfl HF.out
end Go.Proofs.YtlnahhlddekhoaaGreatDoor
namespace Go.Proofs.YtlnahhlddekhoaaGreatDoor
open Go.RowKit

def RShapePost (cells : List CellD) (list : List Int) (w : World) (r : Ending) (w' : World) : Prop :=
  ∃ v, r = .returned (.tuple #[v, .int .i64 (shapeErr cells list)]) ∧ (∃ a n c, v = .slice a n c) ∧ (shapeErr cells list = 0 → Ints w' v (wOf cells list)) ∧ Ext w w'

theorem RShapePost.mk {cells : List CellD} {list : List Int} {w w' : World} {e : Int} {a : Option Addr} {n c : Nat} (h : shapeErr cells list = e) (hI : e = 0 → Ints w' (.slice a n c) (wOf cells list)) (hx : Ext w w') :
    RShapePost cells list w (.returned (.tuple #[.slice a n c, .int .i64 e])) w' :=
  ⟨_, by rw [h], ⟨_, _, _, rfl⟩, fun e0 => hI (h.symm.trans e0), hx⟩

set_option maxHeartbeats 2000000 in
theorem RShape_any (cells : List CellD) (list : List Int) (vc vl : Value) (w : World) (hc : Cells w vc cells) (hl : Ints w vl list) (hb : list.length ≤ 1000000) : Calls Tryz.prog 40 #[vc, vl] w (RShapePost cells list w) := by
  have HW := Lib.hid (RWidths_any cells list vc vl w hc hl hb)
  clear hc hl hb
  go_enter Tryz.func40, Tryz.ntmps40
  go_wp2_with fail
  refine HW.out.mono ?_
  rintro r w1 ⟨v, rfl, ⟨a, n, c, rfl⟩, hI, x1⟩
  have X1 := Lib.hid x1; have HI := Lib.hid hI
  clear x1 hI
  cases hwb : widthsB cells list with
  | false =>
    have HS : Hid (shapeErr cells list = 1) := by unfold Hid shapeErr; rw [hwb]; rfl
    clear hwb
    go_wp2_with fail
    go_ret2
    exact RShapePost.mk HS.out (fun e => absurd e (by decide)) X1.out
  | true =>
    have hsh : shapeB list (wOf cells list) = true := by
      have h := hwb
      unfold widthsB at h
      rw [Bool.and_eq_true] at h
      exact h.2
    have HSH := Lib.hid (shape_widths hsh); have HV := Lib.hid (HI.out hwb); have HWB := Lib.hid hwb
    clear hsh hwb HI
    go_wp2_with fail
    refine (RSum_any (wOf cells list) _ _ HV.out HSH.out).mono ?_
    rintro r w2 ⟨rfl, rfl⟩
    by_cases h6 : sumI (wOf cells list) ≤ 6
    · have HS : Hid (shapeErr cells list = 0) := by unfold Hid shapeErr; rw [HWB.out, if_pos rfl, if_pos h6]
      clear HWB HSH
      generalize sumI (wOf cells list) = sm at *
      go_wp2_with fail
      go_ret2
      exact RShapePost.mk HS.out (fun _ => HV.out) X1.out
    · have HS : Hid (shapeErr cells list = 2) := by unfold Hid shapeErr; rw [HWB.out, if_pos rfl, if_neg h6]
      clear HWB HSH
      generalize sumI (wOf cells list) = sm at *
      go_wp2_with fail
      go_ret2
      exact RShapePost.mk HS.out (fun e => absurd e (by decide)) X1.out

def diagT (k i j : Nat) : Bool := decide (i = j ∧ i < k)
theorem diagT_zero : diagT 0 = fun _ _ => false := by funext i j; simp [diagT]
theorem diagT_step (k : Nat) : diagT (k + 1) = fun i j => if i = k ∧ j = k then true else diagT k i j := by
  funext i j
  unfold diagT
  by_cases c : i = k ∧ j = k
  · rw [if_pos c]; exact decide_eq_true (by omega)
  · rw [if_neg c]; exact decide_eq_decide.2 (by omega)

set_option maxRecDepth 100000 in
set_option maxHeartbeats 4000000 in
theorem RIdentity_no (cells : List CellD) (list : List Int) (vc vl : Value) (w : World) (hc : Cells w vc cells) (hl : Ints w vl list) (hb : list.length ≤ 1000000) (h0 : shapeErr cells list ≠ 0) :
    Calls Tryz.prog 12 #[vc, vl] w (RelRes (shapeErr cells list) [] [] [] w) := by
  obtain ⟨W, hW⟩ : ∃ W, W = w.alloc (.cells #[.slice none 0 0, .slice none 0 0, .slice none 0 0] 29) := ⟨_, rfl⟩
  have hx : Ext w W := by rw [hW]; exact (Ext.refl w).alloc _
  have hres : W.heap[w.heap.size]? = some (.cells #[.slice none 0 0, .slice none 0 0, .slice none 0 0] 29 (0, 0)) := by rw [hW]; exact heap_new _ _
  have HSH := Lib.hid (RShape_any cells list vc vl W (hc.ext hx) (hl.ext hx) hb)
  have hbt : (shapeErr cells list != 0) = true := by simpa using h0
  have HX := Lib.hid hx; have HRS := Lib.hid hres; have HW := Lib.hid hW
  clear hc hl hb hx hres hW h0
  go_enter Tryz.func12, Tryz.ntmps12
  go_upto_region 1 with fail
  rw [← HW.out]; clear HW
  go_wp2_with fail
  refine HSH.out.mono ?_
  rintro r w1 ⟨v, rfl, ⟨a, n, c, rfl⟩, _, x1⟩
  have hR := x1.block w.heap.size (lt_heap HRS.out)
  rw [HRS.out] at hR
  obtain ⟨z0, z1, z2, f0, f1, f2⟩ := block3 hR
  clear HSH
  generalize shapeErr cells list = e at *
  have HR := Lib.hid (put3_new (x := .slice none 0 0) (y := .slice none 0 0) (z := .slice none 0 0) hR)
  have HE : Hid (RelRes e [] [] [] w (.returned (.tuple #[.agg #[.slice none 0 0, .slice none 0 0, .slice none 0 0], .int .i64 e])) (put3 w1 w.heap.size (.slice none 0 0) (.slice none 0 0) (.slice none 0 0))) :=
    ⟨_, rfl, RelO.nil _ _, (HX.out.trans x1).put3 (Nat.le_refl _) _ _ _⟩
  clear hR x1
  go_wp2_with fail
  exact bodyPost_ret (v := .tuple #[.agg #[.slice none 0 0, .slice none 0 0, .slice none 0 0], .int .i64 e]) (results_row_tmp Tryz.results12 _ _ w.heap.size 29 _ (0, 0) _ rfl HR.out Tryz.underlying29 rfl sizeRel) rfl HE.out

theorem shape_nums {cells : List CellD} {list : List Int} (h : shapeErr cells list = 0) : ValidR list (wOf cells list) [] := by
  unfold shapeErr at h
  by_cases hb : widthsB cells list = true
  · rw [if_pos hb] at h
    by_cases h6 : sumI (wOf cells list) ≤ 6
    · have hsh : shapeB list (wOf cells list) = true := by
        unfold widthsB at hb
        rw [Bool.and_eq_true] at hb
        exact hb.2
      exact ⟨by unfold smallB; simp [hsh]; omega, h6, List.Pairwise.nil, fun p hp => absurd hp List.not_mem_nil⟩
    · rw [if_neg h6] at h; cases h
  · rw [if_neg hb] at h; cases h

set_option maxRecDepth 100000 in
set_option maxHeartbeats 4000000 in
theorem RIdentity_yes (cells : List CellD) (list : List Int) (vc vl : Value) (w : World) (hc : Cells w vc cells) (hl : Ints w vl list) (hb : list.length ≤ 1000000) (h0 : shapeErr cells list = 0) :
    Calls Tryz.prog 12 #[vc, vl] w (RelRes 0 list (wOf cells list) (castP (relTo (nn (wOf cells list)) (diagT (nn (wOf cells list))) (nn (wOf cells list)) 0)) w) := by
  obtain ⟨W, hW⟩ : ∃ W, W = w.alloc (.cells #[.slice none 0 0, .slice none 0 0, .slice none 0 0] 29) := ⟨_, rfl⟩
  have hx : Ext w W := by rw [hW]; exact (Ext.refl w).alloc _
  have hres : W.heap[w.heap.size]? = some (.cells #[.slice none 0 0, .slice none 0 0, .slice none 0 0] 29 (0, 0)) := by rw [hW]; exact heap_new _ _
  have HSH := Lib.hid (RShape_any cells list vc vl W (hc.ext hx) (hl.ext hx) hb)
  obtain ⟨hw, hs0, h20, hn, h64, _, lc, lw⟩ := (shape_nums h0).nums
  have HEM := Lib.hid (fun v w' hv => REmpty_any (wOf cells list) v w' (nn (wOf cells list)) hv hw hs0 hn h20 (by omega))
  have HL := Lib.hid (hl.ext hx)
  have HX := Lib.hid hx; have HRS := Lib.hid hres; have HW := Lib.hid hW; have H0 := Lib.hid h0
  have LC := Lib.hid lc; have LW := Lib.hid lw
  clear hc hl hb hx hres hW h0 hw hs0 h20 hn lc lw
  go_enter Tryz.func12, Tryz.ntmps12
  go_upto_region 1 with fail
  rw [← HW.out]; clear HW
  go_wp2_with fail
  refine HSH.out.mono ?_
  rintro r w1 ⟨v, rfl, ⟨a, m, c, rfl⟩, hI, x1⟩
  have HI := Lib.hid (hI H0.out); have X1 := Lib.hid x1
  clear hI x1 HSH
  rw [H0.out]
  generalize wOf cells list = ws at *
  generalize nn ws = n at *
  go_wp2_with fail
  refine (HEM.out _ _ HI.out).mono ?_
  rintro r w2 ⟨g, rfl, ⟨r0, hT0⟩, hx2⟩
  have HT0 := Lib.hid hT0; have X2 := Lib.hid hx2
  clear hT0 hx2
  go_wp2_with fail
  go_loopw [9] (fun i wr => ∃ (k : Nat), k ≤ n ∧ i = .int .i64 k ∧ TabR wr w1.heap.size g n r0 (diagT k) n ∧ Ext w1 wr) (fun i _ => n - (intOf i).toNat)
  case atStart => exact ⟨0, Nat.zero_le _, rfl, by rw [diagT_zero]; exact HT0.out, X2.out⟩
  case round =>
    obtain ⟨k, hk, rfl, hT, hX⟩ := hrel
    have HT := Lib.hid hT; have HXr := Lib.hid hX
    have HXX := Lib.hid (X1.out.trans hX)
    clear hT hX
    by_cases hlt : k < n
    · have c1 := HT.out.cell hlt hlt
      have c2 := HT.out.at hlt hlt
      have f2 := (HT.out.row _ hlt).2.frozen k
      have HSt : Hid (TabR (wr.setCell ⟨r0 k, k, none⟩ (.bool true)) w1.heap.size g n r0 (diagT (k + 1)) n) := by
        rw [diagT_step]
        exact HT.out.set hlt true
      have HG : Hid (w1.heap.size ≤ r0 k) := Nat.le_of_lt (Nat.lt_of_le_of_lt HT.out.le (HT.out.row _ hlt).1)
      go_wp2_with fail
      exact ⟨⟨k + 1, by omega, by go_num, HSt.out, HXr.out.setCell HG.out _⟩, by simp [intOf]; omega⟩
    · have hkn : k = n := by omega
      subst hkn
      go_wp2_with fail
      refine (RRelT_any list ws k g _ _ _ _ w1.heap.size (HL.out.ext HXX.out) (HI.out.ext HXr.out) ⟨r0, HT.out⟩ LC.out LW.out h64).mono ?_
      rintro r w3 ⟨v, rfl, hv, x3⟩
      obtain ⟨sa, sb, sc, sd, se, sf, rfl⟩ := hv.shape
      have hR := (HXX.out.trans x3).block w.heap.size (lt_heap HRS.out)
      rw [HRS.out] at hR
      obtain ⟨z0, z1, z2, f0, f1, f2⟩ := block3 hR
      have hz := lt_heap HRS.out
      have hz1 := HXX.out.size
      generalize castP (relTo k (diagT k) k 0) = I at *
      have HR := Lib.hid (put3_new (x := .slice sa list.length sb) (y := .slice sc ws.length sd) (z := .slice se I.length sf) hR)
      have HF : Hid (RelRes 0 list ws I w (.returned (.tuple #[.agg #[.slice sa list.length sb, .slice sc ws.length sd, .slice se I.length sf], .int .i64 0])) (put3 w3 w.heap.size (.slice sa list.length sb) (.slice sc ws.length sd) (.slice se I.length sf))) :=
        ⟨_, rfl, (hv.put3 (by omega) _ _ _).mono (by omega), (HX.out.trans (HXX.out.trans x3)).put3 (Nat.le_refl _) _ _ _⟩
      clear hR hv x3
      go_wp2_with fail
      exact bodyPost_ret (v := .tuple #[.agg #[.slice sa list.length sb, .slice sc ws.length sd, .slice se I.length sf], .int .i64 0]) (results_row_tmp Tryz.results12 _ _ w.heap.size 29 _ (0, 0) _ rfl HR.out Tryz.underlying29 rfl sizeRel) rfl HF.out
end Go.Proofs.YtlnahhlddekhoaaGreatDoor
namespace Go.Proofs.YtlnahhlddekhoaaGreatDoor
open Go.RowKit

/-- A row of n truth values of the call's own. -/
structure BitR (w : World) (base g n : Nat) (f : Nat → Bool) : Prop where
  le : base ≤ g
  row : w.rowIs g 4 n (fun j => .bool (f j))
theorem BitR.lt {w : World} {base g n : Nat} {f : Nat → Bool} (h : BitR w base g n f) : g < w.heap.size := h.row.lt
theorem BitR.ext {w w' : World} {base g n : Nat} {f : Nat → Bool} (h : BitR w base g n f) (hx : Ext w w') : BitR w' base g n f := ⟨h.le, h.row.of_block (hx.block _ h.lt)⟩
theorem BitR.at {w : World} {base g n : Nat} {f : Nat → Bool} (h : BitR w base g n f) {i : Nat} (hi : i < n) : w.cell? ⟨g, i, none⟩ = some (.bool (f i)) := h.row.cell hi
theorem BitR.set {w : World} {base g n : Nat} {f : Nat → Bool} (h : BitR w base g n f) (i : Nat) (x : Bool) : BitR (w.setCell ⟨g, i, none⟩ (.bool x)) base g n (fun j => if j = i then x else f j) :=
  ⟨h.le, (h.row.set i (.bool x)).congr fun j _ => by by_cases c : j = i <;> simp [c]⟩

def memL (S : List Nat) (k j : Nat) : Bool := decide (j ∈ S.take k)
theorem memL_zero (S : List Nat) : memL S 0 = fun _ => false := by funext j; simp [memL]
theorem memL_step {S : List Nat} {k : Nat} (h : k < S.length) : memL S (k + 1) = fun j => if j = S[k] then true else memL S k j := by
  funext j
  unfold memL
  have hm : j ∈ S.take (k + 1) ↔ (j ∈ S.take k ∨ j = S[k]) := by
    rw [List.take_succ_eq_append_getElem h, List.mem_append, List.mem_singleton]
  by_cases c : j = S[k]
  · rw [if_pos c]; exact decide_eq_true (hm.2 (.inr c))
  · rw [if_neg c]; exact decide_eq_decide.2 (hm.trans (or_iff_left c))

set_option maxHeartbeats 4000000 in
theorem RTableS_any (cs ws : List Int) (S : List Nat) (v : Value) (w : World) (n : Nat) (hv : SetV w v cs ws (castL S)) (hW : Widths ws) (hn : pw (sumI ws) = (n : Int)) (h20 : sumI ws ≤ 20) (h64 : n ≤ 4096) (hS : ∀ x ∈ S, x < n) :
    Calls Tryz.prog 65 #[v] w fun r w' => ∃ g, r = .returned (.slice (some ⟨g, 0, none⟩) n n) ∧ BitR w' w.heap.size g n (memL S S.length) ∧ Ext w w' := by
  obtain ⟨ca, cc, wa, wcp, ia, ic, rfl, a1, a2, a3⟩ := hv.shape
  have hlen := SliceAt.len_le a3
  obtain ⟨W, hW'⟩ : ∃ W, W = w.alloc (.cells #[.slice ca cs.length cc, .slice wa ws.length wcp, .slice ia (castL S).length ic] 31) := ⟨_, rfl⟩
  rw [castL_len] at *
  have hx : Ext w W := by rw [hW']; exact (Ext.refl w).alloc _
  have hB : W.heap[w.heap.size]? = some (.cells #[.slice ca cs.length cc, .slice wa ws.length wcp, .slice ia S.length ic] 31 (0, 0)) := by rw [hW']; exact heap_new _ _
  obtain ⟨p0, p1, p2⟩ := cells3 hB
  have HSU := Lib.hid (RSum_any ws _ W (a2.ext hx) hW)
  have HP := Lib.hid (Power_any (sumI ws) W h20)
  rw [hn] at HP
  have hmk := run_make_row' (P := Tryz.prog) 74 4 (.bool false) 1 Tryz.underlying74 infoBit rfl .i64 .i64 n (by omega) (by omega)
  have A3 := Lib.hid (a3.ext hx)
  have HSS := Lib.hid hS; have HW := Lib.hid hW'; have HX := Lib.hid hx
  have hbase : w.heap.size ≤ W.heap.size := hx.size
  clear hv hW hn h20 hS a1 a2 a3 hW' hB hx p0
  go_enter Tryz.func65, Tryz.ntmps65
  go_upto_region 1 with fail
  rw [← HW.out]; clear HW
  generalize w.heap.size = B at p1 p2 ⊢
  go_wp2_with fail
  refine HSU.out.mono ?_
  rintro r w1 ⟨rfl, rfl⟩
  go_wp2_with fail
  refine HP.out.mono ?_
  rintro r w2 ⟨rfl, rfl⟩
  go_wp2_with fail
  go_loopw [4] (fun i wr => ∃ (k : Nat), k ≤ S.length ∧ i = .int .i64 k ∧ BitR wr w1.heap.size w1.heap.size n (memL S k) ∧ Ext w1 wr) (fun i _ => S.length - (intOf i).toNat)
  case atStart => exact ⟨0, Nat.zero_le _, rfl, by rw [memL_zero]; exact ⟨Nat.le_refl _, World.rowIs_made w1 _ n _⟩, (Ext.refl _).alloc _⟩
  case round =>
    obtain ⟨k, hk, rfl, hT, hX⟩ := hrel
    have HT := Lib.hid hT; have HXr := Lib.hid hX
    have p2r := hX.cell p2
    clear hT hX
    by_cases hlt : k < S.length
    · obtain ⟨b, o, e, g0⟩ := ints_at1 (A3.out.ext HXr.out) (k := k) (by rw [castL_len]; exact hlt)
      rw [castL_get S hlt] at g0
      have hin := HSS.out _ (List.getElem_mem hlt)
      have c1 := HT.out.at hin
      have f1 := HT.out.row.frozen S[k]
      cases e
      have HSt : Hid (BitR (wr.setCell ⟨w1.heap.size, S[k], none⟩ (.bool true)) w1.heap.size w1.heap.size n (memL S (k + 1))) := by
        rw [memL_step hlt]; exact HT.out.set _ true
      generalize S[k] = x at *
      go_wp2_with fail
      exact ⟨⟨k + 1, by omega, by go_num, HSt.out, HXr.out.setCell (Nat.le_refl _) _⟩, by simp [intOf]; omega⟩
    · have hkn : k = S.length := by omega
      subst hkn
      go_wp2_with fail
      go_ret
      exact ⟨_, rfl, ⟨Nat.le_trans hbase HT.out.le, HT.out.row⟩, HX.out.trans HXr.out⟩

set_option maxHeartbeats 4000000 in
theorem RList_any (g n : Nat) (f : Nat → Bool) (w : World) (b0 : Nat) (h : BitR w b0 g n f) (hn : n ≤ 100000) :
    Calls Tryz.prog 66 #[.slice (some ⟨g, 0, none⟩) n n] w fun r w' => ∃ u, r = .returned u ∧ OwnInts w' w.heap.size u (upTo f n) ∧ Ext w w' := by
  have HB := Lib.hid h
  clear h
  go_enter Tryz.func66, Tryz.ntmps66
  go_wp2_with fail
  go_loopw [3, 4] (fun ov iv wr => ∃ k : Nat, k ≤ n ∧ iv = .int .i64 k ∧ Ext w wr ∧ OwnInts wr w.heap.size ov (upTo f k)) (fun _ iv _ => n - (intOf iv).toNat)
  case atStart => exact ⟨0, Nat.zero_le _, rfl, (Ext.refl _).alloc _, OwnInts.empty _ _ (Nat.le_refl _)⟩
  case round =>
    obtain ⟨k, hk, rfl, hX, hO⟩ := hrel
    have HXr := Lib.hid hX; have HO := Lib.hid hO
    have hlw : w.heap.size ≤ wr.heap.size := hX.size
    clear hX hO
    by_cases hlt : k < n
    · have g3 := (HB.out.ext HXr.out).at hlt
      have HLN := Lib.hid (upTo_length f k)
      cases hf : f k with
      | false =>
        rw [hf] at g3
        have HS : Hid (upTo f (k + 1) = upTo f k) := upTo_succ_false hf
        clear hf
        go_wp2_with fail
        exact ⟨⟨k + 1, by omega, by go_num, HXr.out, by rw [HS.out]; exact HO.out⟩, by simp [intOf]; omega⟩
      | true =>
        rw [hf] at g3
        have HS : Hid (upTo f (k + 1) = upTo f k ++ [(k : Int)]) := upTo_succ_true hf
        clear hf
        go_wp2_with (at_builtin; refine wpList_append_int rfl (.tmp 16) (.tmp 18) rfl w.heap.size wr _ _ (k : Int) rfl rfl HO.out (by have := HLN.out; omega) hlw ?_)
        intro v' w' hown' hg
        rw [← HS.out] at hown'
        have hx' : Ext w w' := HXr.out.grown hg (fun q hq => HO.out.base q hq)
        have HO' := Lib.hid hown'; have HX' := Lib.hid hx'
        clear hown' hx' hg
        go_wp2_with fail
        exact ⟨⟨k + 1, by omega, by go_num, HX'.out, HO'.out⟩, by simp [intOf]; omega⟩
    · have hkl : k = n := by omega
      subst hkl
      go_wp2_with fail
      go_ret
      exact ⟨_, rfl, HO.out, HXr.out⟩
end Go.Proofs.YtlnahhlddekhoaaGreatDoor
