/-
  The walk of states.member.
-/
import Derived.Test.YtdiopiekmdfklaaDoorMMem
import Derived.Test.YtdiopiekmdfklaaDoorMSta
namespace Go.Proofs.YtdiopiekmdfklaaDoor
open Go.RowKit Go.Shelf
attribute [local go_sem] Oper.semAt_some

theorem part_ok {low : Nat} {is : List Nat} (h : is.Pairwise (· < ·)) (v : Nat) : (part low is v).Pairwise (· < ·) ∧ ∀ y ∈ part low is v, y < 2 ^ low := by
  have hp := Nat.two_pow_pos low
  refine ⟨?_, fun y hy => ?_⟩
  · unfold part
    rw [List.pairwise_map]
    have hg : (grp low is v).Pairwise (· < ·) := h.filter _
    refine hg.imp_of_mem ?_
    intro a b ha hb hab
    unfold grp at ha hb
    rw [List.mem_filter, decide_eq_true_eq] at ha hb
    have e1 := Nat.div_add_mod a (2 ^ low)
    have e2 := Nat.div_add_mod b (2 ^ low)
    rw [ha.2] at e1; rw [hb.2] at e2
    omega
  · unfold part at hy
    rw [List.mem_map] at hy
    obtain ⟨x, _, rfl⟩ := hy
    exact Nat.mod_lt _ hp
theorem runsF_ok (low : Nat) (is : List Nat) (Q : Nat × List Nat → Prop) (hq : ∀ v, Q (v, part low is v)) : ∀ (m v : Nat) (cur : Nat × List Nat), Q cur → ∀ p ∈ runsF low is m v cur, Q p := by
  intro m
  induction m with
  | zero => intro v cur hc p hp; simp [runsF] at hp; subst hp; exact hc
  | succ m ih =>
    intro v cur hc p hp
    unfold runsF at hp
    split at hp
    · exact ih _ _ (hq _) p hp
    · rcases List.mem_cons.1 hp with rfl | hp
      · exact hc
      · exact ih _ _ (hq _) p hp
theorem runsL_ok {low w : Nat} {is : List Nat} (h : is.Pairwise (· < ·)) : ∀ p ∈ runsL low w is, p.2.Pairwise (· < ·) ∧ ∀ y ∈ p.2, y < 2 ^ low :=
  runsF_ok low is (fun p => p.2.Pairwise (· < ·) ∧ ∀ y ∈ p.2, y < 2 ^ low) (fun v => part_ok h v) _ _ _ (part_ok h 0)
theorem runsL_len (low w : Nat) (is : List Nat) : (runsL low w is).length ≤ 2 ^ w ∧ 0 < (runsL low w is).length := by
  have h1 := runsF_len low is (2 ^ w - 1) 1 (0, part low is 0)
  have h2 := runsF_pos low is (2 ^ w - 1) 1 (0, part low is 0)
  have := Nat.two_pow_pos w
  unfold runsL; omega
theorem bits_succ {ws : List Int} (hW : ∀ x ∈ ws, 1 ≤ x ∧ x ≤ 8) {m : Nat} (hm : m < ws.length) : bitsN ws (m + 1) = bitsN ws m + (ws.getD m 0).toNat ∧ (sumI (ws.take (m + 1)) = (bitsN ws (m + 1) : Int)) ∧ 1 ≤ (ws.getD m 0) ∧ (ws.getD m 0) ≤ 8 := by
  have h1 := sum_bound hW m (Nat.le_of_lt hm)
  have h2 := sum_bound hW (m + 1) hm
  have h3 := sum_take hm
  have h4 := hW ws[m] (List.getElem_mem hm)
  have h5 : ws.getD m 0 = ws[m] := by rw [List.getD_eq_getElem?_getD, List.getElem?_eq_getElem hm]; rfl
  unfold bitsN
  rw [h5]
  refine ⟨by omega, by omega, h4.1, h4.2⟩
theorem ext_step {V w0 W : World} {Bin : Nat} (h : Ext V w0) (hst : StepX (fun k => k = Bin) w0 W) (hb : V.heap.size ≤ Bin) : Ext V W :=
  ⟨hst.os.trans h.os, hst.tape.trans h.tape, hst.output.trans h.output, Nat.le_trans h.size hst.size, fun k hk => (hst.block k (Nat.lt_of_lt_of_le hk h.size) (by omega)).trans (h.block k hk)⟩

set_option maxRecDepth 100000 in
set_option maxHeartbeats 4000000 in
theorem member_any (cs ws : List Int) (hW : ∀ x ∈ ws, 1 ≤ x ∧ x ≤ 8) (hlen : cs.length = ws.length) (hl40 : ws.length ≤ 40) (hb12 : ∀ m, m ≤ ws.length → bitsN ws m ≤ 12) : ∀ m, m ≤ ws.length → MemOk cs ws m := by
  intro m
  induction m with
  | zero =>
    intro _ is vc vw vi w hvc hvw hvi hs hb
    obtain ⟨_, ca, cc, rfl, hcc⟩ := id hvc
    obtain ⟨_, wa, wcc, rfl, hwc⟩ := id hvw
    obtain ⟨_, ia, icc, rfl, hic⟩ := id hvi
    have hbz : bitsN ws 0 = 0 := by unfold bitsN; rw [List.take_zero]; rfl
    have hW0 : Widths (ws.take 0) := ⟨by simp, fun x hx => by simp at hx⟩
    have hil : is.length ≤ 1 := by
      rw [hbz] at hb
      rcases is with _ | ⟨a, _ | ⟨b, r⟩⟩
      · simp
      · simp
      · have h1 := hb a (by simp)
        have h2 := hb b (by simp)
        rw [List.pairwise_cons] at hs
        have h3 := hs.1 b (by simp)
        omega
    have SUM : Hid (∀ W, Ext w W → Calls Tryd.prog 42 #[.slice wa 0 wcc] W fun r w' => r = .returned (.int .i64 0) ∧ w' = W) := fun W hx => by
      have := sum_any (ws.take 0) _ W (hvw.1.ext hx) hW0
      exact this
    have HX : Hid (Ext w (w.alloc (.cells #[.int .i64 0, .int .i64 0, .int .i64 0, .slice none 0 0] 26))) := (Ext.refl w).alloc _
    have HR : Hid ((w.alloc (.cells #[.int .i64 0, .int .i64 0, .int .i64 0, .slice none 0 0] 26)).heap[w.heap.size]? = some (.cells #[.int .i64 0, .int .i64 0, .int .i64 0, .slice none 0 0] 26 (0, 0))) := heap_new _ _
    obtain ⟨c0, c1, c2, c3, f0, f1, f2, f3⟩ := cells_of_block HR.out
    have hmem : memF cs ws 0 is = if is.length = 0 then .mk 1 1 0 [] else if is.length = 2 ^ bitsN ws 0 then .mk 1 1 1 [] else .mk 0 0 0 [] := rfl
    rw [hbz] at hmem
    have li : (castL is).length = is.length := by simp [castL]
    have e0 : (List.take 0 ws).length = 0 := rfl
    have e1 : (List.take 0 cs).length = 0 := rfl
    rw [li, e0, e1]
    obtain ⟨N, hN⟩ : ∃ N, N = is.length := ⟨_, rfl⟩
    rw [← hN] at hmem hil ⊢
    have HM := Lib.hid hmem
    clear hvc hvw hvi hs hb hcc hwc hic hmem hbz hW0 li e0 e1 hN
    by_cases h0 : N = 0
    · subst h0
      go_enter Tryd.func55, Tryd.ntmps55
      go_wp2_with fail
      refine (SUM.out _ HX.out).mono ?_
      rintro r w1 ⟨rfl, rfl⟩
      go_wp2_with fail
      refine bodyPost_ret (v := .agg #[.int .i64 1, .int .i64 1, .int .i64 0, .slice none 0 0]) (results_cell_row Tryd.results55 _ _ w.heap.size 26 _ (0, 0) _ rfl (heap_new _ _) Tryd.underlying26 rfl sizeExpr) rfl ⟨⟨_, rfl, ?_⟩, (Ext.refl w).alloc _⟩
      rw [HM.out, if_pos trivial]
      exact ⟨_, rfl, kidsB_nil _ _⟩
    · obtain rfl : N = 1 := by omega
      clear h0
      go_enter Tryd.func55, Tryd.ntmps55
      go_wp2_with fail
      refine (SUM.out _ HX.out).mono ?_
      rintro r w1 ⟨rfl, rfl⟩
      go_wp2_with fail
      refine bodyPost_ret (v := .agg #[.int .i64 1, .int .i64 1, .int .i64 1, .slice none 0 0]) (results_cell_row Tryd.results55 _ _ w.heap.size 26 _ (0, 0) _ rfl (heap_new _ _) Tryd.underlying26 rfl sizeExpr) rfl ⟨⟨_, rfl, ?_⟩, (Ext.refl w).alloc _⟩
      have e : memF cs ws 0 is = .mk 1 1 1 [] := by rw [HM.out]; rfl
      rw [e]
      exact ⟨_, rfl, kidsB_nil _ _⟩
  | succ m ih =>
    intro hm is vc vw vi w hvc hvw hvi hs hb
    have hok := ih (by omega)
    have htree := tree_any cs ws m (by omega) (by omega) (by omega) hok
    obtain ⟨hb1, hb2, hb3, hb4⟩ := bits_succ hW (show m < ws.length by omega)
    have hbits := hb12 (m + 1) hm
    obtain ⟨_, ca, cc, rfl, hcc⟩ := id hvc
    obtain ⟨_, wa, wcc, rfl, hwc⟩ := id hvw
    obtain ⟨_, ia, icc, rfl, hic⟩ := id hvi
    have lc : (cs.take (m + 1)).length = m + 1 := by simp; omega
    have lw : (ws.take (m + 1)).length = m + 1 := by simp; omega
    have li : (castL is).length = is.length := by simp [castL]
    have hil := SliceAt.len_le hvi.1
    have hWt : Widths (ws.take (m + 1)) := ⟨by rw [lw]; omega, fun x hx => hW x (List.mem_of_mem_take hx)⟩
    obtain ⟨wb, wo, rfl, q3⟩ := hvw.at m (by rw [lw]; omega)
    have gw : (ws.take (m + 1)).getD m 0 = ws.getD m 0 := by simp [List.getD_eq_getElem?_getD]
    rw [gw] at q3
    obtain ⟨wm, hwm⟩ : ∃ wm : Nat, ws.getD m 0 = (wm : Int) := ⟨(ws.getD m 0).toNat, by omega⟩
    have hmem : ∀ is, memF cs ws (m + 1) is = if is.length = 0 then .mk 1 1 0 [] else if is.length = 2 ^ bitsN ws (m + 1) then .mk 1 1 1 [] else treeF (memF cs ws m) (ws.getD m 0) (cs.getD m 0) (2 ^ (ws.getD m 0).toNat) (runsL (bitsN ws m) (ws.getD m 0).toNat is) := fun is => rfl
    have hmi := hmem is
    rw [hwm] at hb1 hb3 hb4 q3 htree hmi
    simp only [Int.toNat_natCast] at hb1 hmi
    obtain ⟨low, hlow⟩ : ∃ low, low = bitsN ws m := ⟨_, rfl⟩
    obtain ⟨bits, hbitsE⟩ : ∃ bits, bits = bitsN ws (m + 1) := ⟨_, rfl⟩
    rw [← hlow] at hb1 hmi
    rw [← hbitsE] at hb1 hb2 hb hbits hmi
    rw [lc, lw, li]
    rw [lw] at hvw
    rw [lc] at hvc
    rw [li] at hvi hil
    have HX : Hid (Ext w (w.alloc (.cells #[.int .i64 0, .int .i64 0, .int .i64 0, .slice none 0 0] 26))) := (Ext.refl w).alloc _
    have HR : Hid ((w.alloc (.cells #[.int .i64 0, .int .i64 0, .int .i64 0, .slice none 0 0] 26)).heap[w.heap.size]? = some (.cells #[.int .i64 0, .int .i64 0, .int .i64 0, .slice none 0 0] 26 (0, 0))) := heap_new _ _
    obtain ⟨c0, c1, c2, c3, f0, f1, f2, f3⟩ := cells_of_block HR.out
    have hbit : wrap64 (2 ^ min bits 64) = ((2 ^ bits : Nat) : Int) := by
      have h2 : 2 ^ bits ≤ 4096 := by
        have := Nat.pow_le_pow_right (show 0 < 2 by decide) hbits
        simpa using this
      rw [show min bits 64 = bits by omega, show (2 : Int) ^ bits = ((2 ^ bits : Nat) : Int) by push_cast; rfl]
      have h3 := Nat.two_pow_pos bits
      generalize 2 ^ bits = Z at *
      unfold wrap64; omega
    have hmin : min bits 64 = bits := by omega
    have hw2 : wrap64 (2 ^ bits) = ((2 ^ bits : Nat) : Int) := by rw [← hbit, hmin]
    obtain ⟨P, hP⟩ : ∃ P, P = 2 ^ bits := ⟨_, rfl⟩
    rw [← hP] at hw2 hb hmi
    obtain ⟨N, hN⟩ : ∃ N, N = is.length := ⟨_, rfl⟩
    rw [← hN] at hmi hil hvi ⊢
    have HVC := Lib.hid hvc; have HVW := Lib.hid hvw; have HVI := Lib.hid hvi; have HS := Lib.hid hs; have HB := Lib.hid hb; have HMI := Lib.hid hmi; have HT := Lib.hid htree; have HWT := Lib.hid hWt
    have HSUM := Lib.hid hb2; have HLOW := Lib.hid hlow; have HBE := Lib.hid hbitsE; have HB1 := Lib.hid hb1; have HP := Lib.hid hP; have HN := Lib.hid hN; have HOK := Lib.hid hok
    have HW40 : Hid (m + 1 ≤ 40) := by unfold Hid; omega
    clear hvc hvw hvi hs hb hmi htree hWt hb2 hlow hbitsE hb1 hP hN hok hmem hwm gw hW hb12 ih hbit lc lw li hic hcc hwc hil
    by_cases h0 : N = 0
    · subst h0
      go_enter Tryd.func55, Tryd.ntmps55
      go_wp2_with fail
      refine (sum_any (ws.take (m + 1)) _ _ (HVW.out.1.ext HX.out) HWT.out).mono ?_
      rintro r w1 ⟨rfl, rfl⟩
      rw [HSUM.out]
      go_wp2_with fail
      refine bodyPost_ret (v := .agg #[.int .i64 1, .int .i64 1, .int .i64 0, .slice none 0 0]) (results_cell_row Tryd.results55 _ _ w.heap.size 26 _ (0, 0) _ rfl (heap_new _ _) Tryd.underlying26 rfl sizeExpr) rfl ⟨⟨_, rfl, ?_⟩, (Ext.refl w).alloc _⟩
      rw [HMI.out, if_pos trivial]
      exact ⟨_, rfl, kidsB_nil _ _⟩
    · have h0n : decide (N = 0) = false := decide_eq_false h0
      have h0i : ((N : Int) == 0) = false := by rw [beq_eq_false_iff_ne]; omega
      have H0 := Lib.hid h0
      clear h0
      by_cases h1 : N = P
      · subst h1
        go_enter Tryd.func55, Tryd.ntmps55
        go_wp2_with fail
        refine (sum_any (ws.take (m + 1)) _ _ (HVW.out.1.ext HX.out) HWT.out).mono ?_
        rintro r w1 ⟨rfl, rfl⟩
        rw [HSUM.out]
        go_wp2_with fail
        refine bodyPost_ret (v := .agg #[.int .i64 1, .int .i64 1, .int .i64 1, .slice none 0 0]) (results_cell_row Tryd.results55 _ _ w.heap.size 26 _ (0, 0) _ rfl (heap_new _ _) Tryd.underlying26 rfl sizeExpr) rfl ⟨⟨_, rfl, ?_⟩, (Ext.refl w).alloc _⟩
        rw [HMI.out, if_neg H0.out, if_pos trivial]
        exact ⟨_, rfl, kidsB_nil _ _⟩
      · have h1n : decide (N = P) = false := decide_eq_false h1
        have h1i : ((N : Int) == (P : Int)) = false := by rw [beq_eq_false_iff_ne]; omega
        have H1 := Lib.hid h1
        have hk1 := len_wrap (show m ≤ 40 by have := HW40.out; omega)
        have hbl := HB1.out
        have i5 : IntKind.i64.wrap ((bits : Int) - (wm : Int)) = (low : Int) := by rw [wrap_eq]; unfold wrap64; omega
        have i6 : wrap64 ((bits : Int) - (wm : Int)) = (low : Int) := by unfold wrap64; omega
        have eN : (castL is).length = N := by have := HN.out; simp [castL]; omega
        have hcapN : N ≤ icc := by obtain ⟨_, _, _, e, hc⟩ := HVI.out; cases e; omega
        have hlow12 : low ≤ 12 := by omega
        have hwm8 : wm ≤ 8 := by omega
        have h4096 : ∀ x ∈ is, x < 4096 := fun x hx => by
          have h2 : 2 ^ bits ≤ 4096 := by
            have := Nat.pow_le_pow_right (show 0 < 2 by decide) hbits
            simpa using this
          have := HB.out x hx
          have := HP.out
          omega
        have C1 : Hid (∀ V, Calls Tryd.prog 84 #[.slice ia N icc, .int .i64 low, .int .i64 wm] V fun r W => r = .returned (.func (.func 94) #[] #[.pointer (some ⟨V.heap.size + 2, 0, none⟩), .pointer (some ⟨V.heap.size, 0, none⟩), .pointer (some ⟨V.heap.size + 1, 0, none⟩)]) ∧ Ext V W ∧ W.heap.size = V.heap.size + 3 ∧
            RunB W W.heap.size (V.heap.size + 2) V.heap.size (V.heap.size + 1) (.slice ia N icc) wm low) := fun V => (callsIn_wide (n := 4)).1 (runs_any 4 ia N icc wm low V)
        have C2 : Hid (∀ (q : Nat) (w0 : World), RunB w0 w0.heap.size (q + 2) q (q + 1) (.slice ia N icc) wm low → Ext w w0 → Calls Tryd.prog 83 #[.func (.func 94) #[] #[.pointer (some ⟨q + 2, 0, none⟩), .pointer (some ⟨q, 0, none⟩), .pointer (some ⟨q + 1, 0, none⟩)]] w0 fun r W =>
            ∃ v xs, r = .returned v ∧ xs.map RunX.pr = runsL low wm is ∧ OwnRuns W w0.heap.size v xs ∧ StepX (fun k => k = q) w0 W) := fun q w0 hB hx => by
          refine (callsIn_wide (n := 4)).1 (Collect_runs 4 (by omega) (q + 2) q (q + 1) wm low hlow12 hwm8 is HS.out h4096 ia icc w0 (by rw [eN]; exact hB) ?_ (by rw [eN]; exact hcapN) ⟨by omega, by omega⟩)
          rw [eN]; exact (HVI.out.ext hx).1
        obtain ⟨e, he⟩ : ∃ e, e = treeF (memF cs ws m) (wm : Int) (cs.getD m 0) (2 ^ wm) (runsL low wm is) := ⟨_, rfl⟩
        have hfin : memF cs ws (m + 1) is = e := by rw [HMI.out, if_neg H0.out, if_neg H1.out, he]
        have C3 : Hid (∀ (V W : World) (v : Value) (xs : List RunX), Ext w W → xs.map RunX.pr = runsL low wm is → OwnRuns W V.heap.size v xs → Calls Tryd.prog 82 #[.slice ca (m + 1) cc, .slice (some ⟨wb, wo, none⟩) (m + 1) wcc, v] W (NewE e W)) := fun V W v xs hx hxs ho => by
          have hl := runsL_len low wm is
          rw [← hxs, List.length_map] at hl
          have h256 : 2 ^ wm ≤ 256 := by
            have := Nat.pow_le_pow_right (show 0 < 2 by decide) hwm8
            simpa using this
          rw [he, ← hxs]
          refine HT.out (2 ^ wm) xs _ _ _ W hl.1 hl.2 (by omega) (HVC.out.ext hx) (HVW.out.ext hx) ho.runs fun x hmx => ?_
          have := runsL_ok (low := low) (w := wm) HS.out x.pr (by rw [← hxs]; exact List.mem_map_of_mem hmx)
          rw [← HLOW.out]
          exact this
        rw [hfin]
        obtain ⟨M1, hM1⟩ : ∃ M1, M1 = m + 1 := ⟨_, rfl⟩
        have hk2 : wrap64 ((M1 : Int) - 1) = (m : Int) := by rw [hM1]; push_cast; exact hk1
        have i1 : (0 : Int) ≤ (m : Int) := by omega
        have i2 : (m : Int) < (M1 : Int) := by omega
        have SUM : Hid (∀ W, Ext w W → Calls Tryd.prog 42 #[.slice (some ⟨wb, wo, none⟩) M1 wcc] W fun r w' => r = .returned (.int .i64 bits) ∧ w' = W) := fun W hx => by
          rw [hM1, ← HSUM.out]; exact sum_any (ws.take (m + 1)) _ _ (HVW.out.1.ext hx) HWT.out
        rw [← hM1] at C3 ⊢
        clear h1 hk1 hbl eN hcapN hlow12 hwm8 h4096 he hfin hM1 HVC HVW HVI HS HB HMI HT HWT HSUM HLOW HBE HB1 HP HN HOK HW40 c0 c1 c2 c3 f0 f1 f2 f3
        go_enter Tryd.func55, Tryd.ntmps55
        go_wp2_with fail
        refine (SUM.out _ HX.out).mono ?_
        rintro r w1 ⟨rfl, rfl⟩
        go_upto_region 7 with fail
        obtain ⟨W1, hW1⟩ : ∃ W1, W1 = w.alloc (.cells #[.int .i64 0, .int .i64 0, .int .i64 0, .slice none 0 0] 26) := ⟨_, rfl⟩
        have WZ : Hid (W1.heap.size = w.heap.size + 1) := by unfold Hid; rw [hW1]; simp
        rw [← hW1] at HX HR ⊢
        clear hW1
        have hd0 := HX.out.drew.cell q3
        have HQ3 := Lib.hid q3
        clear q3
        go_region_held3 (fun w' => w'.cell? ⟨wb, wo + m, none⟩ = some (.int .i64 wm))
          ((first
            | (with_reducible exact hd5)
            | (with_reducible exact hd4)
            | (with_reducible exact hd3)
            | (with_reducible exact hd2)
            | (with_reducible exact hd0)
            | fail))
          ((first
            | (go_at_call 84
               refine (C1.out W1.drew).mono ?_
               rintro r w2 ⟨rfl, hx2, hz2, hB2⟩
               have HX2 : Hid (Ext W1 w2) := (Ext.refl W1).drew.trans hx2
               have HB2 := Lib.hid hB2
               have hd2 := (HX.out.trans HX2.out).cell HQ3.out
               clear hx2 hz2 hB2)
            | (go_at_call 83
               refine (C2.out W1.drew.heap.size w2 HB2.out (HX.out.trans HX2.out)).mono ?_
               rintro r w3 ⟨v3, xs, rfl, hxs, ho3, hst3⟩
               have HX3 : Hid (Ext W1 w3) := ext_step HX2.out hst3 (Nat.le_refl _)
               have HO3 := Lib.hid ho3; have HXS := Lib.hid hxs
               have hd3 := (HX.out.trans HX3.out).cell HQ3.out
               clear hxs ho3 hst3)
            | (go_at_call 82
               refine (C3.out w2 w3 v3 xs (HX.out.trans HX3.out) HXS.out HO3.out).mono ?_
               rintro r w4 ⟨⟨v4, rfl, he4⟩, hx4⟩
               obtain ⟨ka, kn, kc, rfl, hk4⟩ := he4.shape
               have HX4 : Hid (Ext W1 w4) := HX3.out.trans hx4
               have HE4 := Lib.hid (hk4.mono HX3.out.size)
               have hd4 := (HX.out.trans HX4.out).cell HQ3.out
               have hR4 := (HX4.out.block w.heap.size (by rw [WZ.out]; omega)).trans HR.out
               obtain ⟨c0, c1, c2, c3, f0, f1, f2, f3⟩ := cells_of_block hR4
               have HBF := Lib.hid (put4_new (x := .int .i64 e.op) (y := .int .i64 e.wd) (z := .int .i64 e.n) (u := .slice ka kn kc) hR4)
               have hxp : Ext w (put4 w4 w.heap.size 0 (.int .i64 e.op) (.int .i64 e.wd) (.int .i64 e.n) (.slice ka kn kc)) := Below.trans (HX.out.trans HX4.out) (below_put4 (Nat.le_refl _))
               have hd5 := hxp.cell HQ3.out
               simp only [put4, Nat.zero_add] at hd5
               have HXP := Lib.hid hxp
               clear he4 hx4 hk4 hR4 hxp)))
        clear hd0 hd2 hd3 hd4 hd5
        go_wp2_with fail
        refine bodyPost_ret (v := .agg #[.int .i64 e.op, .int .i64 e.wd, .int .i64 e.n, .slice ka kn kc]) (results_cell_row Tryd.results55 _ _ w.heap.size 26 _ (0, 0) _ rfl HBF.out Tryd.underlying26 rfl sizeExpr) rfl ⟨⟨_, rfl, _, rfl, ?_⟩, HXP.out⟩
        exact (HE4.out.keep (fun q h1 _ => put4_heap q (by have := WZ.out; omega))).mono (by have := WZ.out; omega)
end Go.Proofs.YtdiopiekmdfklaaDoor
