/-
  The walk of states.member.
  The walks of the reference's Const, Cell, Old, Two.
  The walk of Size for every limit (turned from XSize).
-/
import Derived.Test.YtlcgbdjmlnjhcaaGreatDoorG15
import Derived.Test.YtlcgbdjmlnjhcaaGreatDoorG00
import Derived.Test.YtlcgbdjmlnjhcaaGreatDoorG10
import Derived.Test.YtlcgbdjmlnjhcaaGreatDoorG02
import Derived.Test.YtlcgbdjmlnjhcaaGreatDoorG14
import Derived.Deep.AppendLies
import Derived.Maps.AppendAt
import Derived.Deep.Slices
import Derived.Deep.LoopGhost
namespace Go.Proofs.YtlcgbdjmlnjhcaaGreatDoor
open Go.RowKit Go.Shelf
attribute [local go_sem] Oper.semAt_some

theorem part_ok {low : Nat} {is : List Nat} (h : is.Pairwise (· < ·)) (v : Nat) : (part low is v).Pairwise (· < ·) ∧ ∀ y ∈ part low is v, y < 2 ^ low := by
  have hp := Nat.two_pow_pos low
  refine ⟨?_, fun y hy => ?_⟩
  · unfold part
    rw [List.pairwise_map]
    have hg : (grp low is v).Pairwise (· < ·) := h.filter _
    refine hg.imp_of_mem ?_
    intro a b ha hb hab
    unfold grp at ha hb
    rw [List.mem_filter, decide_eq_true_eq] at ha hb
    have e1 := Nat.div_add_mod a (2 ^ low)
    have e2 := Nat.div_add_mod b (2 ^ low)
    rw [ha.2] at e1; rw [hb.2] at e2
    omega
  · unfold part at hy
    rw [List.mem_map] at hy
    obtain ⟨x, _, rfl⟩ := hy
    exact Nat.mod_lt _ hp
theorem runsF_ok (low : Nat) (is : List Nat) (Q : Nat × List Nat → Prop) (hq : ∀ v, Q (v, part low is v)) : ∀ (m v : Nat) (cur : Nat × List Nat), Q cur → ∀ p ∈ runsF low is m v cur, Q p := by
  intro m
  induction m with
  | zero => intro v cur hc p hp; simp [runsF] at hp; subst hp; exact hc
  | succ m ih =>
    intro v cur hc p hp
    unfold runsF at hp
    split at hp
    · exact ih _ _ (hq _) p hp
    · rcases List.mem_cons.1 hp with rfl | hp
      · exact hc
      · exact ih _ _ (hq _) p hp
theorem runsL_ok {low w : Nat} {is : List Nat} (h : is.Pairwise (· < ·)) : ∀ p ∈ runsL low w is, p.2.Pairwise (· < ·) ∧ ∀ y ∈ p.2, y < 2 ^ low :=
  runsF_ok low is (fun p => p.2.Pairwise (· < ·) ∧ ∀ y ∈ p.2, y < 2 ^ low) (fun v => part_ok h v) _ _ _ (part_ok h 0)
theorem runsL_len (low w : Nat) (is : List Nat) : (runsL low w is).length ≤ 2 ^ w ∧ 0 < (runsL low w is).length := by
  have h1 := runsF_len low is (2 ^ w - 1) 1 (0, part low is 0)
  have h2 := runsF_pos low is (2 ^ w - 1) 1 (0, part low is 0)
  have := Nat.two_pow_pos w
  unfold runsL; omega
theorem bits_succ {ws : List Int} (hW : ∀ x ∈ ws, 1 ≤ x ∧ x ≤ 8) {m : Nat} (hm : m < ws.length) : bitsN ws (m + 1) = bitsN ws m + (ws.getD m 0).toNat ∧ (sumI (ws.take (m + 1)) = (bitsN ws (m + 1) : Int)) ∧ 1 ≤ (ws.getD m 0) ∧ (ws.getD m 0) ≤ 8 := by
  have h1 := sum_bound hW m (Nat.le_of_lt hm)
  have h2 := sum_bound hW (m + 1) hm
  have h3 := sum_take hm
  have h4 := hW ws[m] (List.getElem_mem hm)
  have h5 : ws.getD m 0 = ws[m] := by rw [List.getD_eq_getElem?_getD, List.getElem?_eq_getElem hm]; rfl
  unfold bitsN
  rw [h5]
  refine ⟨by omega, by omega, h4.1, h4.2⟩
theorem ext_step {V w0 W : World} {Bin : Nat} (h : Ext V w0) (hst : StepX (fun k => k = Bin) w0 W) (hb : V.heap.size ≤ Bin) : Ext V W :=
  ⟨hst.os.trans h.os, hst.tape.trans h.tape, hst.output.trans h.output, Nat.le_trans h.size hst.size, fun k hk => (hst.block k (Nat.lt_of_lt_of_le hk h.size) (by omega)).trans (h.block k hk)⟩

set_option maxRecDepth 100000 in
set_option maxHeartbeats 4000000 in
theorem member_any (cs ws : List Int) (hW : ∀ x ∈ ws, 1 ≤ x ∧ x ≤ 8) (hlen : cs.length = ws.length) (hl40 : ws.length ≤ 40) (hb12 : ∀ m, m ≤ ws.length → bitsN ws m ≤ 12) : ∀ m, m ≤ ws.length → MemOk cs ws m := by
  intro m
  induction m with
  | zero =>
    intro _ is vc vw vi w hvc hvw hvi hs hb
    obtain ⟨_, ca, cc, rfl, hcc⟩ := id hvc
    obtain ⟨_, wa, wcc, rfl, hwc⟩ := id hvw
    obtain ⟨_, ia, icc, rfl, hic⟩ := id hvi
    have hbz : bitsN ws 0 = 0 := by unfold bitsN; rw [List.take_zero]; rfl
    have hW0 : Widths (ws.take 0) := ⟨by simp, fun x hx => by simp at hx⟩
    have hil : is.length ≤ 1 := by
      rw [hbz] at hb
      rcases is with _ | ⟨a, _ | ⟨b, r⟩⟩
      · simp
      · simp
      · have h1 := hb a (by simp)
        have h2 := hb b (by simp)
        rw [List.pairwise_cons] at hs
        have h3 := hs.1 b (by simp)
        omega
    have SUM : Hid (∀ W, Ext w W → Calls Tryz.prog 83 #[.slice wa 0 wcc] W fun r w' => r = .returned (.int .i64 0) ∧ w' = W) := fun W hx => by
      have := sum_any (ws.take 0) _ W (hvw.1.ext hx) hW0
      exact this
    have HX : Hid (Ext w (w.alloc (.cells #[.int .i64 0, .int .i64 0, .int .i64 0, .slice none 0 0] 25))) := (Ext.refl w).alloc _
    have HR : Hid ((w.alloc (.cells #[.int .i64 0, .int .i64 0, .int .i64 0, .slice none 0 0] 25)).heap[w.heap.size]? = some (.cells #[.int .i64 0, .int .i64 0, .int .i64 0, .slice none 0 0] 25 (0, 0))) := heap_new _ _
    obtain ⟨c0, c1, c2, c3, f0, f1, f2, f3⟩ := cells_of_block HR.out
    have hmem : memF cs ws 0 is = if is.length = 0 then .mk 1 1 0 [] else if is.length = 2 ^ bitsN ws 0 then .mk 1 1 1 [] else .mk 0 0 0 [] := rfl
    rw [hbz] at hmem
    have li : (castL is).length = is.length := by simp [castL]
    have e0 : (List.take 0 ws).length = 0 := rfl
    have e1 : (List.take 0 cs).length = 0 := rfl
    rw [li, e0, e1]
    obtain ⟨N, hN⟩ : ∃ N, N = is.length := ⟨_, rfl⟩
    rw [← hN] at hmem hil ⊢
    have HM := Lib.hid hmem
    clear hvc hvw hvi hs hb hcc hwc hic hmem hbz hW0 li e0 e1 hN
    by_cases h0 : N = 0
    · subst h0
      go_enter Tryz.func61, Tryz.ntmps61
      go_wp2_with fail
      refine (SUM.out _ HX.out).mono ?_
      rintro r w1 ⟨rfl, rfl⟩
      go_wp2_with fail
      refine bodyPost_ret (v := .agg #[.int .i64 1, .int .i64 1, .int .i64 0, .slice none 0 0]) (results_cell_row Tryz.results61 _ _ w.heap.size 25 _ (0, 0) _ rfl (heap_new _ _) Tryz.underlying25 rfl sizeExpr) rfl ⟨⟨_, rfl, ?_⟩, (Ext.refl w).alloc _⟩
      rw [HM.out, if_pos trivial]
      exact ⟨_, rfl, kidsB_nil _ _⟩
    · obtain rfl : N = 1 := by omega
      clear h0
      go_enter Tryz.func61, Tryz.ntmps61
      go_wp2_with fail
      refine (SUM.out _ HX.out).mono ?_
      rintro r w1 ⟨rfl, rfl⟩
      go_wp2_with fail
      refine bodyPost_ret (v := .agg #[.int .i64 1, .int .i64 1, .int .i64 1, .slice none 0 0]) (results_cell_row Tryz.results61 _ _ w.heap.size 25 _ (0, 0) _ rfl (heap_new _ _) Tryz.underlying25 rfl sizeExpr) rfl ⟨⟨_, rfl, ?_⟩, (Ext.refl w).alloc _⟩
      have e : memF cs ws 0 is = .mk 1 1 1 [] := by rw [HM.out]; rfl
      rw [e]
      exact ⟨_, rfl, kidsB_nil _ _⟩
  | succ m ih =>
    intro hm is vc vw vi w hvc hvw hvi hs hb
    have hok := ih (by omega)
    have htree := tree_any cs ws m (by omega) (by omega) (by omega) hok
    obtain ⟨hb1, hb2, hb3, hb4⟩ := bits_succ hW (show m < ws.length by omega)
    have hbits := hb12 (m + 1) hm
    obtain ⟨_, ca, cc, rfl, hcc⟩ := id hvc
    obtain ⟨_, wa, wcc, rfl, hwc⟩ := id hvw
    obtain ⟨_, ia, icc, rfl, hic⟩ := id hvi
    have lc : (cs.take (m + 1)).length = m + 1 := by simp; omega
    have lw : (ws.take (m + 1)).length = m + 1 := by simp; omega
    have li : (castL is).length = is.length := by simp [castL]
    have hil := SliceAt.len_le hvi.1
    have hWt : Widths (ws.take (m + 1)) := ⟨by rw [lw]; omega, fun x hx => hW x (List.mem_of_mem_take hx)⟩
    obtain ⟨wb, wo, rfl, q3⟩ := hvw.at m (by rw [lw]; omega)
    have gw : (ws.take (m + 1)).getD m 0 = ws.getD m 0 := by simp [List.getD_eq_getElem?_getD]
    rw [gw] at q3
    obtain ⟨wm, hwm⟩ : ∃ wm : Nat, ws.getD m 0 = (wm : Int) := ⟨(ws.getD m 0).toNat, by omega⟩
    have hmem : ∀ is, memF cs ws (m + 1) is = if is.length = 0 then .mk 1 1 0 [] else if is.length = 2 ^ bitsN ws (m + 1) then .mk 1 1 1 [] else treeF (memF cs ws m) (ws.getD m 0) (cs.getD m 0) (2 ^ (ws.getD m 0).toNat) (runsL (bitsN ws m) (ws.getD m 0).toNat is) := fun is => rfl
    have hmi := hmem is
    rw [hwm] at hb1 hb3 hb4 q3 htree hmi
    simp only [Int.toNat_natCast] at hb1 hmi
    obtain ⟨low, hlow⟩ : ∃ low, low = bitsN ws m := ⟨_, rfl⟩
    obtain ⟨bits, hbitsE⟩ : ∃ bits, bits = bitsN ws (m + 1) := ⟨_, rfl⟩
    rw [← hlow] at hb1 hmi
    rw [← hbitsE] at hb1 hb2 hb hbits hmi
    rw [lc, lw, li]
    rw [lw] at hvw
    rw [lc] at hvc
    rw [li] at hvi hil
    have HX : Hid (Ext w (w.alloc (.cells #[.int .i64 0, .int .i64 0, .int .i64 0, .slice none 0 0] 25))) := (Ext.refl w).alloc _
    have HR : Hid ((w.alloc (.cells #[.int .i64 0, .int .i64 0, .int .i64 0, .slice none 0 0] 25)).heap[w.heap.size]? = some (.cells #[.int .i64 0, .int .i64 0, .int .i64 0, .slice none 0 0] 25 (0, 0))) := heap_new _ _
    obtain ⟨c0, c1, c2, c3, f0, f1, f2, f3⟩ := cells_of_block HR.out
    have hbit : wrap64 (2 ^ min bits 64) = ((2 ^ bits : Nat) : Int) := by
      have h2 : 2 ^ bits ≤ 4096 := by
        have := Nat.pow_le_pow_right (show 0 < 2 by decide) hbits
        simpa using this
      rw [show min bits 64 = bits by omega, show (2 : Int) ^ bits = ((2 ^ bits : Nat) : Int) by push_cast; rfl]
      have h3 := Nat.two_pow_pos bits
      generalize 2 ^ bits = Z at *
      unfold wrap64; omega
    have hmin : min bits 64 = bits := by omega
    have hw2 : wrap64 (2 ^ bits) = ((2 ^ bits : Nat) : Int) := by rw [← hbit, hmin]
    obtain ⟨P, hP⟩ : ∃ P, P = 2 ^ bits := ⟨_, rfl⟩
    rw [← hP] at hw2 hb hmi
    obtain ⟨N, hN⟩ : ∃ N, N = is.length := ⟨_, rfl⟩
    rw [← hN] at hmi hil hvi ⊢
    have HVC := Lib.hid hvc; have HVW := Lib.hid hvw; have HVI := Lib.hid hvi; have HS := Lib.hid hs; have HB := Lib.hid hb; have HMI := Lib.hid hmi; have HT := Lib.hid htree; have HWT := Lib.hid hWt
    have HSUM := Lib.hid hb2; have HLOW := Lib.hid hlow; have HBE := Lib.hid hbitsE; have HB1 := Lib.hid hb1; have HP := Lib.hid hP; have HN := Lib.hid hN; have HOK := Lib.hid hok
    have HW40 : Hid (m + 1 ≤ 40) := by unfold Hid; omega
    clear hvc hvw hvi hs hb hmi htree hWt hb2 hlow hbitsE hb1 hP hN hok hmem hwm gw hW hb12 ih hbit lc lw li hic hcc hwc hil
    by_cases h0 : N = 0
    · subst h0
      go_enter Tryz.func61, Tryz.ntmps61
      go_wp2_with fail
      refine (sum_any (ws.take (m + 1)) _ _ (HVW.out.1.ext HX.out) HWT.out).mono ?_
      rintro r w1 ⟨rfl, rfl⟩
      rw [HSUM.out]
      go_wp2_with fail
      refine bodyPost_ret (v := .agg #[.int .i64 1, .int .i64 1, .int .i64 0, .slice none 0 0]) (results_cell_row Tryz.results61 _ _ w.heap.size 25 _ (0, 0) _ rfl (heap_new _ _) Tryz.underlying25 rfl sizeExpr) rfl ⟨⟨_, rfl, ?_⟩, (Ext.refl w).alloc _⟩
      rw [HMI.out, if_pos trivial]
      exact ⟨_, rfl, kidsB_nil _ _⟩
    · have h0n : decide (N = 0) = false := decide_eq_false h0
      have h0i : ((N : Int) == 0) = false := by rw [beq_eq_false_iff_ne]; omega
      have H0 := Lib.hid h0
      clear h0
      by_cases h1 : N = P
      · subst h1
        go_enter Tryz.func61, Tryz.ntmps61
        go_wp2_with fail
        refine (sum_any (ws.take (m + 1)) _ _ (HVW.out.1.ext HX.out) HWT.out).mono ?_
        rintro r w1 ⟨rfl, rfl⟩
        rw [HSUM.out]
        go_wp2_with fail
        refine bodyPost_ret (v := .agg #[.int .i64 1, .int .i64 1, .int .i64 1, .slice none 0 0]) (results_cell_row Tryz.results61 _ _ w.heap.size 25 _ (0, 0) _ rfl (heap_new _ _) Tryz.underlying25 rfl sizeExpr) rfl ⟨⟨_, rfl, ?_⟩, (Ext.refl w).alloc _⟩
        rw [HMI.out, if_neg H0.out, if_pos trivial]
        exact ⟨_, rfl, kidsB_nil _ _⟩
      · have h1n : decide (N = P) = false := decide_eq_false h1
        have h1i : ((N : Int) == (P : Int)) = false := by rw [beq_eq_false_iff_ne]; omega
        have H1 := Lib.hid h1
        have hk1 := len_wrap (show m ≤ 40 by have := HW40.out; omega)
        have hbl := HB1.out
        have i5 : IntKind.i64.wrap ((bits : Int) - (wm : Int)) = (low : Int) := by rw [wrap_eq]; unfold wrap64; omega
        have i6 : wrap64 ((bits : Int) - (wm : Int)) = (low : Int) := by unfold wrap64; omega
        have eN : (castL is).length = N := by have := HN.out; simp [castL]; omega
        have hcapN : N ≤ icc := by obtain ⟨_, _, _, e, hc⟩ := HVI.out; cases e; omega
        have hlow12 : low ≤ 12 := by omega
        have hwm8 : wm ≤ 8 := by omega
        have h4096 : ∀ x ∈ is, x < 4096 := fun x hx => by
          have h2 : 2 ^ bits ≤ 4096 := by
            have := Nat.pow_le_pow_right (show 0 < 2 by decide) hbits
            simpa using this
          have := HB.out x hx
          have := HP.out
          omega
        have C1 : Hid (∀ V, Calls Tryz.prog 86 #[.slice ia N icc, .int .i64 low, .int .i64 wm] V fun r W => r = .returned (.func (.func 108) #[] #[.pointer (some ⟨V.heap.size + 2, 0, none⟩), .pointer (some ⟨V.heap.size, 0, none⟩), .pointer (some ⟨V.heap.size + 1, 0, none⟩)]) ∧ Ext V W ∧ W.heap.size = V.heap.size + 3 ∧
            RunB W W.heap.size (V.heap.size + 2) V.heap.size (V.heap.size + 1) (.slice ia N icc) wm low) := fun V => (callsIn_wide (n := 4)).1 (runs_any 4 ia N icc wm low V)
        have C2 : Hid (∀ (q : Nat) (w0 : World), RunB w0 w0.heap.size (q + 2) q (q + 1) (.slice ia N icc) wm low → Ext w w0 → Calls Tryz.prog 85 #[.func (.func 108) #[] #[.pointer (some ⟨q + 2, 0, none⟩), .pointer (some ⟨q, 0, none⟩), .pointer (some ⟨q + 1, 0, none⟩)]] w0 fun r W =>
            ∃ v xs, r = .returned v ∧ xs.map RunX.pr = runsL low wm is ∧ OwnRuns W w0.heap.size v xs ∧ StepX (fun k => k = q) w0 W) := fun q w0 hB hx => by
          refine (callsIn_wide (n := 4)).1 (Collect_runs 4 (by omega) (q + 2) q (q + 1) wm low hlow12 hwm8 is HS.out h4096 ia icc w0 (by rw [eN]; exact hB) ?_ (by rw [eN]; exact hcapN) ⟨by omega, by omega⟩)
          rw [eN]; exact (HVI.out.ext hx).1
        obtain ⟨e, he⟩ : ∃ e, e = treeF (memF cs ws m) (wm : Int) (cs.getD m 0) (2 ^ wm) (runsL low wm is) := ⟨_, rfl⟩
        have hfin : memF cs ws (m + 1) is = e := by rw [HMI.out, if_neg H0.out, if_neg H1.out, he]
        have C3 : Hid (∀ (V W : World) (v : Value) (xs : List RunX), Ext w W → xs.map RunX.pr = runsL low wm is → OwnRuns W V.heap.size v xs → Calls Tryz.prog 84 #[.slice ca (m + 1) cc, .slice (some ⟨wb, wo, none⟩) (m + 1) wcc, v] W (NewE e W)) := fun V W v xs hx hxs ho => by
          have hl := runsL_len low wm is
          rw [← hxs, List.length_map] at hl
          have h256 : 2 ^ wm ≤ 256 := by
            have := Nat.pow_le_pow_right (show 0 < 2 by decide) hwm8
            simpa using this
          rw [he, ← hxs]
          refine HT.out (2 ^ wm) xs _ _ _ W hl.1 hl.2 (by omega) (HVC.out.ext hx) (HVW.out.ext hx) ho.runs fun x hmx => ?_
          have := runsL_ok (low := low) (w := wm) HS.out x.pr (by rw [← hxs]; exact List.mem_map_of_mem hmx)
          rw [← HLOW.out]
          exact this
        rw [hfin]
        obtain ⟨M1, hM1⟩ : ∃ M1, M1 = m + 1 := ⟨_, rfl⟩
        have hk2 : wrap64 ((M1 : Int) - 1) = (m : Int) := by rw [hM1]; push_cast; exact hk1
        have i1 : (0 : Int) ≤ (m : Int) := by omega
        have i2 : (m : Int) < (M1 : Int) := by omega
        have SUM : Hid (∀ W, Ext w W → Calls Tryz.prog 83 #[.slice (some ⟨wb, wo, none⟩) M1 wcc] W fun r w' => r = .returned (.int .i64 bits) ∧ w' = W) := fun W hx => by
          rw [hM1, ← HSUM.out]; exact sum_any (ws.take (m + 1)) _ _ (HVW.out.1.ext hx) HWT.out
        rw [← hM1] at C3 ⊢
        clear h1 hk1 hbl eN hcapN hlow12 hwm8 h4096 he hfin hM1 HVC HVW HVI HS HB HMI HT HWT HSUM HLOW HBE HB1 HP HN HOK HW40 c0 c1 c2 c3 f0 f1 f2 f3
        go_enter Tryz.func61, Tryz.ntmps61
        go_wp2_with fail
        refine (SUM.out _ HX.out).mono ?_
        rintro r w1 ⟨rfl, rfl⟩
        go_upto_region 7 with fail
        obtain ⟨W1, hW1⟩ : ∃ W1, W1 = w.alloc (.cells #[.int .i64 0, .int .i64 0, .int .i64 0, .slice none 0 0] 25) := ⟨_, rfl⟩
        have WZ : Hid (W1.heap.size = w.heap.size + 1) := by unfold Hid; rw [hW1]; simp
        rw [← hW1] at HX HR ⊢
        clear hW1
        have hd0 := HX.out.drew.cell q3
        have HQ3 := Lib.hid q3
        clear q3
        go_region_held3 (fun w' => w'.cell? ⟨wb, wo + m, none⟩ = some (.int .i64 wm))
          ((first
            | (with_reducible exact hd5)
            | (with_reducible exact hd4)
            | (with_reducible exact hd3)
            | (with_reducible exact hd2)
            | (with_reducible exact hd0)
            | fail))
          ((first
            | (go_at_call 86
               refine (C1.out W1.drew).mono ?_
               rintro r w2 ⟨rfl, hx2, hz2, hB2⟩
               have HX2 : Hid (Ext W1 w2) := (Ext.refl W1).drew.trans hx2
               have HB2 := Lib.hid hB2
               have hd2 := (HX.out.trans HX2.out).cell HQ3.out
               clear hx2 hz2 hB2)
            | (go_at_call 85
               refine (C2.out W1.drew.heap.size w2 HB2.out (HX.out.trans HX2.out)).mono ?_
               rintro r w3 ⟨v3, xs, rfl, hxs, ho3, hst3⟩
               have HX3 : Hid (Ext W1 w3) := ext_step HX2.out hst3 (Nat.le_refl _)
               have HO3 := Lib.hid ho3; have HXS := Lib.hid hxs
               have hd3 := (HX.out.trans HX3.out).cell HQ3.out
               clear hxs ho3 hst3)
            | (go_at_call 84
               refine (C3.out w2 w3 v3 xs (HX.out.trans HX3.out) HXS.out HO3.out).mono ?_
               rintro r w4 ⟨⟨v4, rfl, he4⟩, hx4⟩
               obtain ⟨ka, kn, kc, rfl, hk4⟩ := he4.shape
               have HX4 : Hid (Ext W1 w4) := HX3.out.trans hx4
               have HE4 := Lib.hid (hk4.mono HX3.out.size)
               have hd4 := (HX.out.trans HX4.out).cell HQ3.out
               have hR4 := (HX4.out.block w.heap.size (by rw [WZ.out]; omega)).trans HR.out
               obtain ⟨c0, c1, c2, c3, f0, f1, f2, f3⟩ := cells_of_block hR4
               have HBF := Lib.hid (put4_new (x := .int .i64 e.op) (y := .int .i64 e.wd) (z := .int .i64 e.n) (u := .slice ka kn kc) hR4)
               have hxp : Ext w (put4 w4 w.heap.size 0 (.int .i64 e.op) (.int .i64 e.wd) (.int .i64 e.n) (.slice ka kn kc)) := Below.trans (HX.out.trans HX4.out) (below_put4 (Nat.le_refl _))
               have hd5 := hxp.cell HQ3.out
               simp only [put4, Nat.zero_add] at hd5
               have HXP := Lib.hid hxp
               clear he4 hx4 hk4 hR4 hxp)))
        clear hd0 hd2 hd3 hd4 hd5
        go_wp2_with fail
        refine bodyPost_ret (v := .agg #[.int .i64 e.op, .int .i64 e.wd, .int .i64 e.n, .slice ka kn kc]) (results_cell_row Tryz.results61 _ _ w.heap.size 25 _ (0, 0) _ rfl HBF.out Tryz.underlying25 rfl sizeExpr) rfl ⟨⟨_, rfl, _, rfl, ?_⟩, HXP.out⟩
        exact (HE4.out.keep (fun q h1 _ => put4_heap q (by have := WZ.out; omega))).mono (by have := WZ.out; omega)
end Go.Proofs.YtlcgbdjmlnjhcaaGreatDoor
namespace Go.Proofs.YtlcgbdjmlnjhcaaGreatDoor
open Go.RowKit

set_option maxHeartbeats 400000 in
theorem RConst_any (n wd : Int) (w : World) : Calls Tryz.prog 23 #[.int .i64 n, .int .i64 wd] w fun r w' => r = .returned (.agg #[.int .i64 1, .int .i64 wd, .int .i64 n, .slice none 0 0]) ∧ Ext w w' := by
  go_enter Tryz.func23, Tryz.ntmps23
  go_wp2_with fail
  exact bodyPost_ret (v := .agg #[.int .i64 1, .int .i64 wd, .int .i64 n, .slice none 0 0]) (by simp [results, Tryz.results23, go_sem]) rfl ⟨rfl, (Ext.refl w).alloc _⟩
set_option maxHeartbeats 400000 in
theorem RCell_any (n wd : Int) (w : World) : Calls Tryz.prog 25 #[.int .i64 n, .int .i64 wd] w fun r w' => r = .returned (.agg #[.int .i64 2, .int .i64 wd, .int .i64 n, .slice none 0 0]) ∧ Ext w w' := by
  go_enter Tryz.func25, Tryz.ntmps25
  go_wp2_with fail
  exact bodyPost_ret (v := .agg #[.int .i64 2, .int .i64 wd, .int .i64 n, .slice none 0 0]) (by simp [results, Tryz.results25, go_sem]) rfl ⟨rfl, (Ext.refl w).alloc _⟩
set_option maxHeartbeats 400000 in
theorem ROld_any (n wd : Int) (w : World) : Calls Tryz.prog 26 #[.int .i64 n, .int .i64 wd] w fun r w' => r = .returned (.agg #[.int .i64 3, .int .i64 wd, .int .i64 n, .slice none 0 0]) ∧ Ext w w' := by
  go_enter Tryz.func26, Tryz.ntmps26
  go_wp2_with fail
  exact bodyPost_ret (v := .agg #[.int .i64 3, .int .i64 wd, .int .i64 n, .slice none 0 0]) (by simp [results, Tryz.results26, go_sem]) rfl ⟨rfl, (Ext.refl w).alloc _⟩
/-- What a function leaves that returns an expression. -/
def RetE (e : E) (w : World) (r : Ending) (w' : World) : Prop := (∃ v, r = .returned v ∧ EVal w' v e) ∧ Ext w w'
theorem EVal.shape' {w : World} {v : Value} {e : E} (h : EVal w v e) : ∃ a c, v = .agg #[.int .i64 e.op, .int .i64 e.wd, .int .i64 e.n, .slice a e.kids.length c] ∧ Kids w (.slice a e.kids.length c) e.kids := by
  obtain ⟨k, h1, h2⟩ := h
  obtain ⟨a, c, rfl⟩ := SliceAt.shape h2
  exact ⟨a, c, h1, h2⟩

theorem two_val {w W : World} {K : Nat} {a b : E} {ka kb : Value} (hx : Ext w W) (hk : Kids w ka a.kids) (hk2 : Kids w kb b.kids)
    (hb : W.heap[K]? = some (.cells #[.int .i64 a.op, .int .i64 a.wd, .int .i64 a.n, ka, .int .i64 b.op, .int .i64 b.wd, .int .i64 b.n, kb] 25 (0, 0))) : Kids W (.slice (some ⟨K, 0, none⟩) 2 2) [a, b] := by
  refine .inr ⟨K, 0, 2, rfl, by simp, fun i h => ?_⟩
  have : i = 0 ∨ i = 1 := by simp at h; omega
  rcases this with rfl | rfl
  · exact IsE.of_cells (v := ka) (by simp [World.cell?, hb]) (by simp [World.cell?, hb]) (by simp [World.cell?, hb]) (by simp [World.cell?, hb]) (hk.ext hx)
  · exact IsE.of_cells (v := kb) (by simp [World.cell?, hb]) (by simp [World.cell?, hb]) (by simp [World.cell?, hb]) (by simp [World.cell?, hb]) (hk2.ext hx)

set_option maxHeartbeats 1000000 in
theorem RTwo_any (op wd : Int) (a b : E) (va vb : Value) (w : World) (ha : EVal w va a) (hb : EVal w vb b) :
    Calls Tryz.prog 29 #[.int .i64 op, .int .i64 wd, va, vb] w (RetE (.mk op wd 0 [a, b]) w) := by
  obtain ⟨aa, ac, rfl, hk⟩ := ha.shape'
  obtain ⟨ba, bc, rfl, hk2⟩ := hb.shape'
  have HK := Lib.hid hk; have HK2 := Lib.hid hk2; clear hk hk2 ha hb
  go_enter Tryz.func29, Tryz.ntmps29
  go_wp2_with fail
  refine bodyPost_ret (v := .agg #[.int .i64 op, .int .i64 wd, .int .i64 0, .slice (some ⟨w.heap.size + 1 + 1 + 1, 0, none⟩) 2 2]) (by simp [results, Tryz.results29, go_sem]) rfl ⟨⟨_, rfl, ⟨_, rfl, ?_⟩⟩, (((Ext.refl w).alloc _).alloc _).alloc _ |>.alloc _⟩
  exact two_val ((((Ext.refl w).alloc _).alloc _).alloc _ |>.alloc _) HK.out HK2.out (by simpa using heap_new (((w.alloc _).alloc _).alloc _) _)
end Go.Proofs.YtlcgbdjmlnjhcaaGreatDoor
namespace Go.Proofs.YtlcgbdjmlnjhcaaGreatDoor
open Go.RowKit

def VarS (w : World) (b : Nat) (op wd n : Int) (kv : Value) : Prop := w.heap[b]? = some (.cells #[.int .i64 op, .int .i64 wd, .int .i64 n, kv] 25 (0, 0))
theorem VarS.new (w : World) (op wd n : Int) (kv : Value) : VarS (w.alloc (.cells #[.int .i64 op, .int .i64 wd, .int .i64 n, kv] 25)) w.heap.size op wd n kv := heap_new _ _
theorem VarS.cells {w : World} {b : Nat} {op wd n : Int} {kv : Value} (h : VarS w b op wd n kv) : w.cell? ⟨b, 0, none⟩ = some (.int .i64 op) ∧ w.cell? ⟨b, 1, none⟩ = some (.int .i64 wd) ∧ w.cell? ⟨b, 2, none⟩ = some (.int .i64 n) ∧ w.cell? ⟨b, 3, none⟩ = some kv := by
  unfold VarS at h; simp [World.cell?, h]
theorem own_blockS {w : World} {base e n : Nat} {v : Value} {sz : Nat} {xs : List Value} (h : w.ownsRow base e sz v n xs) (k : Nat) (hk : v.ownBlock = some k) : base ≤ k ∧ k < w.heap.size := by
  rcases h.2 with ⟨rfl, _⟩ | ⟨g, cap, cur, rfl, hg, hh, _⟩
  · cases hk
  · simp [Value.ownBlock] at hk
    subst hk
    exact ⟨hg, (Array.getElem?_eq_some_iff.1 hh).1⟩
theorem ownRow_keepS {w w' : World} {base e n : Nat} {v : Value} {sz : Nat} {xs : List Value} (h : w.ownsRow base e sz v n xs) (hx : Ext w w') : w'.ownsRow base e sz v n xs := by
  refine ⟨h.1, ?_⟩
  rcases h.2 with h2 | ⟨g, cap, cur, hv, hg, hh, r⟩
  · exact .inl h2
  · exact .inr ⟨g, cap, cur, hv, hg, by rw [hx.block g (Array.getElem?_eq_some_iff.1 hh).1]; exact hh, r⟩
theorem Kids.oneS {w : World} {v : Value} {ks : List E} (h : Kids w v ks) : v.oneCell' = true := by
  rcases h with ⟨⟨_, _, rfl⟩, _⟩ | ⟨b, o, cap, rfl, _⟩ <;> rfl
theorem infoSl : (Tryz.prog.info? 23).map (fun i => (i.zero, i.size, i.bytes)) = some (some (.slice none 0 0), 1, 24) := by kernel_rfl
/-- The work that is left: slices of kids, in a row of the call's own. -/
def Stk (W wr : World) (v : Value) (st : List (Value × List E)) : Prop :=
  wr.ownsRow W.heap.size 23 1 v st.length (st.map (·.1)) ∧ (∃ g cap, v = .slice (some ⟨g, 0, none⟩) st.length cap) ∧ ∀ p ∈ st, Kids W p.1 p.2
def stSum (st : List (Value × List E)) : Nat := (st.map fun p => sizeAll p.2).sum
def stMes (st : List (Value × List E)) : Nat := (st.map fun p => 1 + 2 * sizeAll p.2).sum
theorem stSum_snoc (st : List (Value × List E)) (p : Value × List E) : stSum (st ++ [p]) = stSum st + sizeAll p.2 := by simp [stSum]
theorem stMes_snoc (st : List (Value × List E)) (p : Value × List E) : stMes (st ++ [p]) = stMes st + (1 + 2 * sizeAll p.2) := by simp [stMes]
theorem st_len (st : List (Value × List E)) : st.length ≤ stMes st := by
  induction st with
  | nil => simp
  | cons p r ih => simp only [stMes, List.map_cons, List.sum_cons, List.length_cons] at *; omega
theorem Stk.ext {W wr w' : World} {v : Value} {st : List (Value × List E)} (h : Stk W wr v st) (hx : Ext wr w') : Stk W w' v st := ⟨ownRow_keepS h.1 hx, h.2⟩
theorem Stk.pop {W wr : World} {g cap n : Nat} {st : List (Value × List E)} {p : Value × List E} (h : Stk W wr (.slice (some ⟨g, 0, none⟩) n cap) (st ++ [p])) :
    Stk W wr (.slice (some ⟨g, 0, none⟩) st.length cap) st ∧ wr.cell? ⟨g, st.length, none⟩ = some p.1 ∧ Kids W p.1 p.2 ∧ n = st.length + 1 ∧ st.length + 1 ≤ cap ∧ cap ≤ 9223372036854775807 := by
  obtain ⟨h1, ⟨g', cap', e'⟩, h2⟩ := h
  cases e'
  rcases h1.2 with ⟨e, _⟩ | ⟨g', cap', cur, e, hg, hh, hn, hc, hs, ht⟩
  · cases e
  cases e
  simp only [List.length_append, List.length_cons, List.length_nil, List.map_append, List.map_cons, List.map_nil] at *
  refine ⟨⟨⟨by simp, .inr ⟨_, _, cur, rfl, hg, hh, by omega, hc, hs, ?_⟩⟩, ⟨_, _, rfl⟩, fun q hq => h2 q (by simp [hq])⟩, ?_, h2 p (by simp), trivial, by omega, by unfold maxLen at hc; omega⟩
  · have := congrArg (List.take (st.length * 1)) ht
    rw [List.take_take, Nat.min_eq_left (by omega)] at this
    rw [this, List.take_append_of_le_length (by simp), List.take_of_length_le (by simp)]
  · have := congrArg (fun x => x[st.length]?) ht
    rw [List.getElem?_take_of_lt (by omega)] at this
    simp only [World.cell?, hh]
    simpa using this
theorem wpList_append_stk {ops : Array Oper} {rest : List Oper} {o : Oper} {a : Act} {Q : Exit → Act → World → Prop} (hgd : o.guard = none) (s x : Operand)
    (ho : o.op = .call { callee := .builtin .append, args := #[s, x], argTypes := #[105, 105] }) (W wr : World) (v kv : Value) (ks : List E) (st : List (Value × List E))
    (hs : a.eval s = v) (hx : a.eval x = .slice (some ⟨wr.heap.size, 0, none⟩) 1 1) (hown : Stk W wr v st) (hk : Kids W kv ks) (hX : Ext W wr) (hl : st.length ≤ 1000000)
    (h : ∀ g cap w', Stk W w' (.slice (some ⟨g, 0, none⟩) (st.length + 1) cap) (st ++ [(kv, ks)]) → Ext W w' → wpList Tryz.prog ops Q rest (a.put o.dst (.slice (some ⟨g, 0, none⟩) (st.length + 1) cap)) w') :
    wpList Tryz.prog ops Q (o :: rest) a (wr.alloc (.cells #[kv] 23)) := by
  obtain ⟨i0, hi, hz0, hz1, hz2⟩ := info_parts infoSl
  have hx0 : Ext wr (wr.alloc (.cells #[kv] 23)) := (Ext.refl wr).alloc _
  refine wpList_append_lies _ hgd s x 105 ho W.heap.size 23 i0 _ 1 24 Tryz.underlying105 hi hz0 hz1 hz2 rfl (by decide) v st.length (st.map (·.1)) hs (ownRow_keepS hown.1 hx0) ⟨wr.heap.size, 0, none⟩ 1 1 [kv] hx rfl ?_ ?_ (by decide) ?_ ?_ ?_ (wr.heap.size + 1) (by simp) ?_
  · intro j u hj
    obtain ⟨rfl, rfl⟩ : j = 0 ∧ u = kv := by
      cases j with
      | zero => simp at hj; exact ⟨rfl, hj.symm⟩
      | succ j => simp at hj
    simp [Addr.add]
  · intro u hu; simp at hu; subst hu; exact hk.oneS
  · unfold maxLen; omega
  · omega
  · have := hX.size; simp; omega
  · intro g cap w' h1 h2 h3 h4
    have hX' : Ext W w' := (hX.trans hx0).grown h2 fun q hq => (own_blockS hown.1 q hq).1
    refine h g cap w' ⟨by simpa using h1, ⟨g, cap, by simp⟩, fun p hp => ?_⟩ hX'
    rcases List.mem_append.1 hp with hp | hp
    · exact hown.2.2 p hp
    · simp at hp; subst hp; exact hk

def SzRel (W : World) (e : E) (g : Nat) (count work : Value) (wr : World) : Prop :=
  ∃ (st : List (Value × List E)) (c : Nat), g = stMes st ∧ count = .int .i64 c ∧ Ext W wr ∧ Stk W wr work st ∧ c + stSum st = e.size ∧ stMes st ≤ 2 * e.size + 1
def SzIn (W : World) (ks : List E) (st : List (Value × List E)) (work i : Value) (wr : World) : Prop :=
  ∃ (j : Nat) (st2 : List (Value × List E)), j ≤ ks.length ∧ i = .int .i64 j ∧ Ext W wr ∧ Stk W wr work st2 ∧ stSum st2 + j = stSum st + sizeAll (ks.take j) ∧ stMes st2 ≤ stMes st + 2 * sizeAll (ks.take j)

set_option maxHeartbeats 4000000 in
theorem Size_all (e : E) (v : Value) (w : World) (l : Int) (he : EVal w v e) (hes : e.size ≤ 100000) (h0 : 1 ≤ l) (h1 : l ≤ 1000) : Calls Tryz.prog 62 #[v, .int .i64 l] w fun r w' => r = .returned (.int .i64 (min (e.size : Int) l)) ∧ Ext w w' := by
  obtain ⟨a, al, ac, rfl, hk⟩ := he.shape
  have hpos := e.size_pos
  have hl0 : decide (l ≤ 0) = false := decide_eq_false (by omega)
  obtain ⟨W, hW⟩ : ∃ W, W = w.alloc (.cells #[.int .i64 e.op, .int .i64 e.wd, .int .i64 e.n, .slice a al ac] 25) := ⟨_, rfl⟩
  have hx : Ext w W := by rw [hW]; exact (Ext.refl w).alloc _
  have HV : Hid (VarS W w.heap.size e.op e.wd e.n (.slice a al ac)) := by rw [hW]; exact VarS.new _ _ _ _ _
  have HW := Lib.hid hW; have HX := Lib.hid hx; have HK := Lib.hid (hk.ext hx)
  clear hW hx hk he
  obtain ⟨c0, c1, c2, c3⟩ := HV.out.cells
  have HES : Hid (e.size = 1 + sizeAll e.kids) := by cases e; simp [Hid, E.size]
  go_enter Tryz.func62, Tryz.ntmps62
  go_upto_region 1 with fail
  rw [← HW.out]; clear HW
  generalize w.heap.size = B at *
  go_wp2_with fail
  clear c0 c1 c2 c3
  have HS0 : Hid (SzRel W e (stMes [(Value.slice a al ac, e.kids)]) (.int .i64 1) (.slice (some ⟨W.heap.size, 0, none⟩) 1 1) (W.alloc (.cells #[.slice a al ac] 23))) := by
    refine ⟨_, 1, rfl, rfl, (Ext.refl W).alloc _, ⟨⟨rfl, .inr ⟨_, _, #[.slice a al ac], rfl, Nat.le_refl _, heap_new _ _, Nat.le_refl _, by unfold maxLen; omega, rfl, rfl⟩⟩, ⟨_, _, rfl⟩, fun p hp => ?_⟩, ?_, ?_⟩
    · simp at hp; subst hp; exact HK.out
    · rw [HES.out]; simp [stSum]
    · rw [HES.out]; simp [stMes]; omega
  go_loopg [5, 6] (stMes [(Value.slice a al ac, e.kids)]) (fun g c v wr => SzRel W e g c v wr)
  case atStart => exact HS0.out
  case round =>
    clear HS0
    obtain ⟨st, c, rfl, rfl, hX, hS, hsum, hmb⟩ := hrel
    have HXr := Lib.hid hX
    clear hX
    rcases List.eq_nil_or_concat st with rfl | ⟨st', p, rfl⟩
    · obtain ⟨_, ⟨g, cap, rfl⟩, _⟩ := hS
      have hc : c = e.size := by simpa [stSum] using hsum
      subst hc
      clear hsum hmb
      simp only [List.length_nil]
      go_wp2_with fail
      go_ret
      exact ⟨rfl, HX.out.trans HXr.out⟩
    · rw [List.concat_eq_append] at hS hsum hmb
      obtain ⟨kv, ks⟩ := p
      obtain ⟨g, cap, rfl⟩ := hS.2.1
      obtain ⟨hS', hcell, hkids, hn, hcap, hcap2⟩ := hS.pop
      simp only at hcell hkids
      obtain ⟨ka, kc, rfl⟩ := SliceAt.shape hkids
      have hlen : (st' ++ [(Value.slice ka ks.length kc, ks)]).length = st'.length + 1 := by simp
      rw [hlen]
      rw [stSum_snoc] at hsum
      rw [stMes_snoc] at hmb
      simp only at hsum hmb
      have hkl := length_le_sizeAll ks
      have HS := Lib.hid hS'; have HKK := Lib.hid hkids; have HSUM := Lib.hid hsum; have HMB := Lib.hid hmb
      have hb1 : c + ks.length ≤ e.size := by omega
      have hst : st'.length ≤ 9223372036854775806 := by omega
      clear hS hS' hkids hsum hn hlen hmb
      by_cases hcl : l ≤ (c : Int)
      · have hlt0 : decide ((c : Int) < l) = false := decide_eq_false (by omega)
        have hmin : min (c : Int) l = l := by omega
        have HM : Hid (min (e.size : Int) l = l) := by unfold Hid; omega
        clear hcl hb1
        go_wp2_with fail
        go_ret
        exact ⟨by rw [HM.out]; rfl, HX.out.trans HXr.out⟩
      have hlt0 : decide ((c : Int) < l) = true := decide_eq_true (by omega)
      clear hcl
      by_cases hcg : l ≤ (c : Int) + (ks.length : Int)
      · have hge : decide (l ≤ (c : Int) + (ks.length : Int)) = true := decide_eq_true hcg
        have hmin : min ((c : Int) + (ks.length : Int)) l = l := by omega
        have HM : Hid (min (e.size : Int) l = l) := by unfold Hid; omega
        clear hcg
        go_wp2_with fail
        go_ret
        exact ⟨by rw [HM.out]; rfl, HX.out.trans HXr.out⟩
      have hge : decide (l ≤ (c : Int) + (ks.length : Int)) = false := decide_eq_false hcg
      clear hcg
      go_wp2_with fail
      go_loopw [6, 43] (fun v i wr => SzIn W ks st' v i wr) (fun _ i _ => ks.length - (intOf i).toNat)
      case atStart => exact ⟨0, st', Nat.zero_le _, rfl, HXr.out, HS.out, by simp [sizeAll], by simp⟩
      case round =>
        obtain ⟨j, st2, hj, rfl, hX2, hS2, hsum2, hmes2⟩ := hrel
        obtain ⟨g2, cap2, rfl⟩ := hS2.2.1
        have HX2 := Lib.hid hX2; have HS2 := Lib.hid hS2; have HM2 := Lib.hid hmes2; have HSM2 := Lib.hid hsum2
        clear hX2 hS2 hsum2 hmes2 hcell
        by_cases hlt : j < ks.length
        · rcases HKK.out with ⟨_, e⟩ | ⟨b', o', cap', e, _, hk'⟩
          · rw [e] at hlt; simp at hlt
          cases e
          obtain ⟨e0, e1, e2, kw, e3, hkw⟩ := (hk' j hlt).cells
          obtain ⟨wa, wc, rfl⟩ := SliceAt.shape hkw
          have g0 := HX2.out.cell e0; have g1 := HX2.out.cell e1; have g2 := HX2.out.cell e2; have g3 := HX2.out.cell e3
          have HKW := Lib.hid hkw
          clear hk' e0 e1 e2 e3 hkw
          have HSN : Hid (sizeAll (ks.take (j + 1)) = sizeAll (ks.take j) + (1 + sizeAll ks[j].kids)) := by
            unfold Hid
            rw [sizeAll_snoc hlt]
            generalize ks[j] = q
            cases q; simp [E.size]
          have HL2 : Hid (st2.length ≤ 1000000) := by
            have h1 := st_len st2
            have h2 := HM2.out
            have h3 := HMB.out
            have h4 := sizeAll_take ks j
            unfold Hid; omega
          by_cases hz : ks[j].kids.length = 0
          · have hz1 : ¬ 0 < ks[j].kids.length := by omega
            have HZ : Hid (sizeAll ks[j].kids = 0) := by rw [List.length_eq_zero_iff.1 hz]; rfl
            have hzd : decide (0 < ks[j].kids.length) = false := decide_eq_false hz1
            have HZ0 := Lib.hid hz
            clear hz
            go_wp2_with fail
            refine ⟨⟨j + 1, st2, by omega, by go_num, HX2.out.alloc _, HS2.out.ext ((Ext.refl _).alloc _), ?_, ?_⟩, by simp [intOf]; omega⟩
            · rw [HSN.out, HZ.out]; have := HSM2.out; omega
            · rw [HSN.out]; have := HM2.out; omega
          · have hz1 : 0 < ks[j].kids.length := by omega
            have hzd : decide (0 < ks[j].kids.length) = true := decide_eq_true hz1
            clear hz
            go_upto_region 13 with fail
            obtain ⟨W2, hW2⟩ : ∃ W2, W2 = wr.alloc (.cells #[.int .i64 ks[j].op, .int .i64 ks[j].wd, .int .i64 ks[j].n, .slice wa ks[j].kids.length wc] 25) := ⟨_, rfl⟩
            have hxw : Ext wr W2 := by rw [hW2]; exact (Ext.refl _).alloc _
            have HV2 : Hid (VarS W2 wr.heap.size ks[j].op ks[j].wd ks[j].n (.slice wa ks[j].kids.length wc)) := by rw [hW2]; exact VarS.new _ _ _ _ _
            rw [← hW2]
            have HX3 := Lib.hid (HX2.out.trans hxw); have HS3 := Lib.hid (HS2.out.ext hxw)
            clear hxw hW2 g0 g1 g2 g3
            generalize wr.heap.size = B2 at *
            obtain ⟨g0, g1, g2, g3⟩ := HV2.out.cells
            go_wp2_with (at_builtin; refine wpList_append_stk rfl (.tmp 51) (.tmp 54) rfl W W2 _ _ ks[j].kids st2 rfl rfl HS3.out HKW.out HX3.out HL2.out ?_)
            intro g4 cap4 w4 hS4 hX4
            have HS4 := Lib.hid hS4; have HX4 := Lib.hid hX4
            clear hS4 hX4
            go_wp2_with fail
            refine ⟨⟨j + 1, _, by omega, by go_num, HX4.out, by simpa using HS4.out, ?_, ?_⟩, by simp [intOf]; omega⟩
            · rw [HSN.out, stSum_snoc]; have := HSM2.out; simp only; omega
            · rw [HSN.out, stMes_snoc]; have := HM2.out; simp only; omega
        · have HF : Hid (SzRel W e (stMes st2) (.int .i64 ((c : Int) + (ks.length : Int))) (.slice (some ⟨g2, 0, none⟩) st2.length cap2) wr) := by
            refine ⟨st2, c + ks.length, rfl, by simp, HX2.out, HS2.out, ?_, ?_⟩
            · have h1 := HSM2.out
              have h2 := HSUM.out
              rw [List.take_of_length_le (by omega)] at h1
              omega
            · have h1 := HM2.out
              have h2 := HMB.out
              rw [List.take_of_length_le (by omega)] at h1
              omega
          have HMES : Hid (stMes st2 < stMes (st' ++ [(Value.slice ka ks.length kc, ks)])) := by
            have h1 := HM2.out
            rw [List.take_of_length_le (by omega)] at h1
            unfold Hid
            rw [stMes_snoc]; simp only; omega
          go_wp2_with fail
          go_roundg (stMes st2)
          case measure => rw [List.concat_eq_append]; exact HMES.out
          case rel => exact HF.out
end Go.Proofs.YtlcgbdjmlnjhcaaGreatDoor
