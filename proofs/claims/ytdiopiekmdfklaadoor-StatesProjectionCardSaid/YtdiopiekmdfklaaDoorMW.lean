/-
  The walks of law10's Short and of the reference's At and Widths.
  The walks of the reference's Widths and of law10's Small.
-/
import Derived.Test.YtdiopiekmdfklaaDoorMRra
import Derived.Test.YtdiopiekmdfklaaDoorMQf
import Derived.Test.YtdiopiekmdfklaaDoorMOf
import Derived.Test.YtdiopiekmdfklaaDoorMStb
namespace Go.Proofs.YtdiopiekmdfklaaDoor
open Go.RowKit

def shortB (k m n : Nat) : Bool := decide ((k : Int) ≤ 40) && decide ((m : Int) ≤ 40) && decide ((n : Int) ≤ 600)
set_option maxHeartbeats 1000000 in
theorem Short10_any (cs ws is : List Int) (va : Value) (w : World) (ha : SetV w va cs ws is) : Calls Tryd.prog 14 #[va] w fun r w' => r = .returned (.bool (shortB cs.length ws.length is.length)) ∧ Ext w w' := by
  obtain ⟨ca, cc, wa, wcp, ia, ic, rfl, a1, a2, a3⟩ := ha.shape
  have h1 := SliceAt.len_le a1; have h2 := SliceAt.len_le a2; have h3 := SliceAt.len_le a3
  have HF : Hid (shortB cs.length ws.length is.length = (decide ((cs.length : Int) ≤ 40) && decide ((ws.length : Int) ≤ 40) && decide ((is.length : Int) ≤ 600))) := rfl
  clear ha a1 a2 a3
  generalize shortB cs.length ws.length is.length = bb at *
  by_cases l1 : cs.length ≤ 40
  · by_cases l2 : ws.length ≤ 40
    · have HN : Hid (bb = decide ((is.length : Int) ≤ 600)) := by unfold Hid; rw [HF.out, decide_eq_true (show (cs.length : Int) ≤ 40 by omega), decide_eq_true (show (ws.length : Int) ≤ 40 by omega)]; rfl
      go_enter Tryd.func14, Tryd.ntmps14
      go_wp2_with fail
      go_ret
      exact ⟨by rw [HN.out]; rfl, (Ext.refl w).alloc _⟩
    · have HN : Hid (bb = false) := by unfold Hid; rw [HF.out, decide_eq_false (show ¬ (ws.length : Int) ≤ 40 by omega)]; simp
      have hd : decide ((ws.length : Int) ≤ 40) = false := decide_eq_false (by omega)
      go_enter Tryd.func14, Tryd.ntmps14
      go_wp2_with fail
      go_ret
      exact ⟨by rw [HN.out]; rfl, (Ext.refl w).alloc _⟩
  · have HN : Hid (bb = false) := by unfold Hid; rw [HF.out, decide_eq_false (show ¬ (cs.length : Int) ≤ 40 by omega)]; simp
    have hd : decide ((cs.length : Int) ≤ 40) = false := decide_eq_false (by omega)
    go_enter Tryd.func14, Tryd.ntmps14
    go_wp2_with fail
    go_ret
    exact ⟨by rw [HN.out]; rfl, (Ext.refl w).alloc _⟩

set_option maxHeartbeats 1000000 in
theorem At_q (st : List Int) (c wd : Int) (v : Value) (w : World) (hs : Ints w v st) (hc : 0 ≤ c) (h1 : 1 ≤ wd) (h8 : wd ≤ 8) : Calls Tryd.prog 27 #[v, .int .i64 c, .int .i64 wd] w fun r w' => r = .returned (.int .i64 (elemS st c % pw wd)) ∧ ∃ q, w' = w.drewN q := by
  obtain ⟨a, cap, rfl⟩ := hs.shape
  have hlen := SliceAt.len_le hs
  have HS := Lib.hid hs; clear hs
  obtain ⟨n, rfl⟩ := Int.eq_ofNat_of_zero_le hc
  by_cases hlt : n < st.length
  · rcases HS.out with ⟨_, e⟩ | ⟨b, o, cap', e, _, hcl⟩
    · rw [e] at hlt; simp at hlt
    cases e
    have g : w.cell? ⟨b, o + n, none⟩ = some (.int .i64 st[n]) := by have := hcl n hlt; rw [Nat.mul_one] at this; exact this
    clear hcl
    have HE : Hid (elemS st (n : Int) = st[n]) := by unfold Hid elemS; simp [List.getD, hlt]
    have HM := Lib.hid (mask_eq st[n] wd h1 h8)
    have hb := pw_cases h1 h8
    have hwr : wrap64 (pw wd - 1) = pw wd - 1 := by unfold wrap64; omega
    have i0 : (0 : Int) ≤ (n : Int) := by omega
    have i1 : (n : Int) < (st.length : Int) := by omega
    generalize st[n] = x at *
    go_enter Tryd.func27, Tryd.ntmps27
    go_wp2_with fail
    have HPw : Hid (∀ V : World, Calls Tryd.prog 25 #[.int .i64 wd] V fun e w' => e = .returned (.int .i64 (pw wd)) ∧ w' = V) := fun V => (Power_any wd V (by omega)).mono fun _ _ h => ⟨h.1, h.2.symm⟩
    go_quiet ((go_at_call 25; exact Calls.quiet_of_same (HPw.out _)))
    go_wp2_with fail
    go_ret
    exact ⟨by rw [HE.out, ← HM.out]; rfl, _, rfl⟩
  · have HE : Hid (elemS st (n : Int) % pw wd = 0) := by unfold Hid elemS; simp [List.getD, show st.length ≤ n by omega]
    have i1 : decide ((n : Int) ≥ (st.length : Int)) = true := decide_eq_true (by omega)
    go_enter Tryd.func27, Tryd.ntmps27
    go_wp2_with fail
    go_ret
    exact ⟨by rw [HE.out]; rfl, 0, rfl⟩
theorem At_any (st : List Int) (c wd : Int) (v : Value) (w : World) (hs : Ints w v st) (hc : 0 ≤ c) (h1 : 1 ≤ wd) (h8 : wd ≤ 8) : Calls Tryd.prog 27 #[v, .int .i64 c, .int .i64 wd] w fun r w' => r = .returned (.int .i64 (elemS st c % pw wd)) ∧ Ext w w' :=
  (At_q st c wd v w hs hc h1 h8).mono fun r w' ⟨h, q, e⟩ => ⟨h, by rw [e]; exact (Ext.refl _).drewN _⟩

def RWidthsPost (cells : List CellD) (list : List Int) (w : World) (r : Ending) (w' : World) : Prop :=
  ∃ v, r = .returned (.tuple #[v, .bool (widthsB cells list)]) ∧ (∃ a n c, v = .slice a n c) ∧ (widthsB cells list = true → Ints w' v (wOf cells list)) ∧ Ext w w'
theorem RWidthsPost.no {cells : List CellD} {list : List Int} {w w' : World} (h : widthsB cells list = false) (hx : Ext w w') (a : Option Addr) (n c : Nat) : RWidthsPost cells list w (.returned (.tuple #[.slice a n c, .bool false])) w' :=
  ⟨_, by rw [h], ⟨_, _, _, rfl⟩, (fun e => by rw [h] at e; cases e), hx⟩
theorem ris_widths {cells : List CellD} {list : List Int} : widthsB cells list = (risB (min (cells.length : Int) 32) list && shapeB list (wOf cells list)) := by
  rw [Bool.eq_iff_iff]
  unfold widthsB
  simp only [Bool.and_eq_true, ris_iff]
  constructor
  · rintro ⟨⟨h1, h2⟩, h3⟩
    refine ⟨⟨fun i hi _ => ?_, fun i hi _ => ?_⟩, h3⟩
    · have h4 := (shape_iff.1 h3).2.2 i hi
      unfold inB at h2
      rw [List.all_eq_true] at h2
      have h5 := h2 list[i] (List.getElem_mem hi)
      rw [Bool.and_eq_true, decide_eq_true_eq, decide_eq_true_eq] at h5
      rw [show list.getD i 0 = list[i] by simp [List.getD, hi]] at h4
      omega
    · have h4 := inc_iff.1 h1 i hi
      rwa [show list.getD i 0 = list[i]'(by omega) by simp [List.getD, show i < list.length by omega], show list.getD (i + 1) 0 = list[i + 1] by simp [List.getD, hi]] at h4
  · rintro ⟨h1, h2⟩
    refine ⟨⟨(shape_iff.1 h2).2.1, ?_⟩, h2⟩
    unfold inB
    rw [List.all_eq_true]
    intro x hx
    obtain ⟨i, hi, rfl⟩ := List.getElem_of_mem hx
    have := h1.bd i hi hi
    rw [Bool.and_eq_true, decide_eq_true_eq, decide_eq_true_eq]
    omega
theorem shape_sum256 {cs ws : List Int} (h : shapeB cs ws = true) : sumI ws ≤ 256 := by
  obtain ⟨hl, _, hin⟩ := shape_iff.1 h
  have h32 := shape_len h
  have := (sum_bound (shape_widths h).2 ws.length (Nat.le_refl _)).2
  rw [List.take_length] at this
  omega
end Go.Proofs.YtdiopiekmdfklaaDoor
namespace Go.Proofs.YtdiopiekmdfklaaDoor
open Go.RowKit

/-- []int{}. -/
theorem OwnInts.empty (w : World) (base : Nat) (hb : base ≤ w.heap.size) : OwnInts (w.alloc (.cells #[] 3)) base (.slice (some ⟨w.heap.size, 0, none⟩) 0 0) [] :=
  ⟨rfl, .inr ⟨w.heap.size, 0, #[], rfl, hb, heap_new _ _, by simp, by simp, by simp, by simp⟩⟩
set_option maxRecDepth 100000 in
set_option maxHeartbeats 2000000 in
theorem RWidths_any (cells : List CellD) (list : List Int) (vc vl : Value) (w : World) (hc : Cells w vc cells) (hl : Ints w vl list) (hb : list.length ≤ 1000000) : Calls Tryd.prog 39 #[vc, vl] w (RWidthsPost cells list w) := by
  obtain ⟨ca, cc, rfl⟩ := hc.shape
  obtain ⟨la, lc, rfl⟩ := hl.shape
  have hlen := SliceAt.len_le hc
  have hlen2 := SliceAt.len_le hl
  have HC := Lib.hid hc; have HL := Lib.hid hl
  have HB := Lib.hid (ris_widths (cells := cells) (list := list))
  have hmn : ∃ m, m = min (cells.length : Int) 32 ∧ m ≤ cells.length := ⟨_, rfl, by omega⟩
  obtain ⟨m, hm, hmc⟩ := hmn
  rw [← hm] at HB
  clear hc hl
  go_enter Tryd.func39, Tryd.ntmps39
  go_wp2_with fail
  try rw [← hm]
  clear hm
  refine (RRising_any list m _ _ HL.out).mono ?_
  rintro r w1 ⟨rfl, x1⟩
  have X1 := Lib.hid x1
  clear x1
  cases hr : risB m list with
  | false =>
    have HN : Hid (widthsB cells list = false) := by unfold Hid; rw [HB.out, hr]; rfl
    clear hr
    go_wp2_with fail
    go_ret2
    exact RWidthsPost.no HN.out X1.out _ _ _
  | true =>
    have HR := Lib.hid (ris_iff.1 hr)
    have HB2 : Hid (widthsB cells list = shapeB list (wOf cells list)) := by unfold Hid; rw [HB.out, hr, Bool.true_and]
    clear hr HB
    go_wp2_with fail
    go_loopw [6, 7] (fun v i wr => ∃ k : Nat, k ≤ list.length ∧ i = .int .i64 k ∧ Ext w1 wr ∧ OwnInts wr w1.heap.size v (wOf cells (list.take k))) (fun _ i _ => list.length - (intOf i).toNat)
    case atStart => exact ⟨0, Nat.zero_le _, rfl, (Ext.refl _).alloc _, OwnInts.empty _ _ (Nat.le_refl _)⟩
    case round =>
      obtain ⟨k, hk, rfl, hX, hO⟩ := hrel
      have HXr := Lib.hid hX; have HO := Lib.hid hO; clear hX hO
      by_cases hlt : k < list.length
      · rcases HL.out with ⟨_, e⟩ | ⟨b, o, cap', e, _, hcl⟩
        · rw [e] at hlt; simp at hlt
        cases e
        have g0 : wr.cell? ⟨b, o + k, none⟩ = some (.int .i64 list[k]) := by have := (X1.out.trans HXr.out).cell (hcl k hlt); rw [Nat.mul_one] at this; exact this
        clear hcl
        have HS := Lib.hid (wOf_snoc cells list hlt)
        obtain ⟨hn0, hn1⟩ := HR.out.bd k hlt hlt
        generalize list[k] = n at *
        obtain ⟨q, rfl⟩ := Int.eq_ofNat_of_zero_le hn0
        have hm : q < cells.length := by omega
        rcases HC.out with ⟨_, e⟩ | ⟨bc, oc, capc, e, _, hcc⟩
        · rw [e] at hm; simp at hm
        cases e
        have g1 := ((X1.out.trans HXr.out).cell (hcc q hm).2.1)
        clear hcc
        have HW : Hid (wAt cells (q : Int) = cells[q].W) := by unfold Hid wAt; simp [hm]
        generalize cells[q].W = x at *
        have hlk : (wOf cells (list.take k)).length ≤ 1000000 := by rw [wOf_len, List.length_take]; omega
        have HLK := Lib.hid hlk
        have hlw : w1.heap.size ≤ wr.heap.size := HXr.out.size
        clear hlk
        go_wp2_with (at_builtin; refine wpList_append_int rfl (.tmp 21) (.tmp 30) rfl w1.heap.size wr _ _ x rfl rfl HO.out (by have := HLK.out; omega) hlw ?_)
        intro v' w' hown' hg
        rw [← HW.out, ← HS.out] at hown'
        have hx' : Ext w1 w' := HXr.out.grown hg (fun q hq => HO.out.base q hq)
        have HO' := Lib.hid hown'; have HX' := Lib.hid hx'
        clear hown' hx' hg
        go_wp2_with fail
        exact ⟨⟨k + 1, by omega, by go_num, HX'.out, HO'.out⟩, by simp [intOf]; omega⟩
      · have HT : Hid (list.take k = list) := List.take_of_length_le (by omega)
        rw [HT.out] at HO
        obtain ⟨sa, sc, hv⟩ := HO.out.ints.shape
        subst hv
        go_wp2_with fail
        refine (RBits_any list (wOf cells list) 256 _ _ _ (HL.out.ext (X1.out.trans HXr.out)) HO.out.ints).mono ?_
        rintro r w2 ⟨rfl, x2⟩
        have X2 := Lib.hid x2
        clear x2
        obtain ⟨y, hy⟩ : ∃ y, y = bitsI list (wOf cells list) 256 := ⟨_, rfl⟩
        rw [← hy]
        have HE : Hid (decide (y ≥ 0) = widthsB cells list) := by
          unfold Hid
          rw [HB2.out, hy]
          cases hs : shapeB list (wOf cells list) with
          | false => rw [bits_no (by rw [hs]; simp)]; rfl
          | true =>
            have h1 := shape_sum256 hs; have h2 := shape_sum0 hs
            unfold bitsI
            rw [if_pos ⟨hs, h1⟩]
            exact decide_eq_true h2
        clear hy
        go_wp2_with fail
        go_ret2
        exact ⟨_, by rw [← HE.out]; rfl, ⟨_, _, _, rfl⟩, fun _ => HO.out.ints.ext X2.out, X1.out.trans (HXr.out.trans X2.out)⟩

/-- What law10's Small decides. -/
def smallC (cells : List CellD) (list : List Int) : Bool := decide (cells.length ≤ 40) && decide (list.length ≤ 40) && (!widthsB cells list || decide (sumI (wOf cells list) ≤ 9) || decide (sumI (wOf cells list) > 12))
set_option maxRecDepth 100000 in
set_option maxHeartbeats 2000000 in
theorem Small10_any (cells : List CellD) (list : List Int) (vc vl : Value) (w : World) (hc : Cells w vc cells) (hl : Ints w vl list) : Calls Tryd.prog 9 #[vc, vl] w fun r w' => r = .returned (.bool (smallC cells list)) ∧ Ext w w' := by
  obtain ⟨ca, cc, rfl⟩ := hc.shape
  obtain ⟨la, lc, rfl⟩ := hl.shape
  have hlen := SliceAt.len_le hc
  have hlen2 := SliceAt.len_le hl
  have HC := Lib.hid hc; have HL := Lib.hid hl
  have HS : Hid (smallC cells list = (decide (cells.length ≤ 40) && decide (list.length ≤ 40) && (!widthsB cells list || decide (sumI (wOf cells list) ≤ 9) || decide (sumI (wOf cells list) > 12)))) := rfl
  clear hc hl
  go_enter Tryd.func9, Tryd.ntmps9
  by_cases t1 : 40 < cells.length
  · have HN : Hid (smallC cells list = false) := by unfold Hid; rw [HS.out, decide_eq_false (show ¬ cells.length ≤ 40 by omega)]; rfl
    go_wp2_with fail
    go_ret
    exact ⟨by rw [HN.out]; rfl, Ext.refl _⟩
  by_cases t2 : 40 < list.length
  · have HN : Hid (smallC cells list = false) := by unfold Hid; rw [HS.out, decide_eq_false (show ¬ list.length ≤ 40 by omega), Bool.and_false]; rfl
    go_wp2_with fail
    go_ret
    exact ⟨by rw [HN.out]; rfl, Ext.refl _⟩
  have HS2 : Hid (smallC cells list = (!widthsB cells list || decide (sumI (wOf cells list) ≤ 9) || decide (sumI (wOf cells list) > 12))) := by unfold Hid; rw [HS.out, decide_eq_true (show cells.length ≤ 40 by omega), decide_eq_true (show list.length ≤ 40 by omega)]; rfl
  clear HS
  go_wp2_with fail
  refine (RWidths_any cells list _ _ _ HC.out HL.out (by omega)).mono ?_
  rintro r w1 ⟨v, rfl, ⟨a, n, c, rfl⟩, hv, x1⟩
  have X1 := Lib.hid x1
  clear x1
  cases hw : widthsB cells list with
  | false =>
    have HN : Hid (smallC cells list = true) := by unfold Hid; rw [HS2.out, hw]; rfl
    clear hw hv
    go_wp2_with fail
    go_ret
    exact ⟨by rw [HN.out]; rfl, X1.out⟩
  | true =>
    have HV := Lib.hid (hv hw)
    have hsh : shapeB list (wOf cells list) = true := by
      have := ris_widths (cells := cells) (list := list)
      rw [hw] at this
      have := this.symm
      rw [Bool.and_eq_true] at this
      exact this.2
    have HWD := Lib.hid (shape_widths hsh)
    have HS3 : Hid (smallC cells list = (decide (sumI (wOf cells list) ≤ 9) || decide (sumI (wOf cells list) > 12))) := by unfold Hid; rw [HS2.out, hw]; rfl
    clear hw hv hsh HS2
    generalize hq : wOf cells list = q at *
    clear hq
    go_wp2_with fail
    refine (RSum_any q _ _ HV.out HWD.out).mono ?_
    rintro r w2 ⟨rfl, rfl⟩
    have HC2 := Lib.hid (RSum_any q _ _ HV.out HWD.out)
    generalize sumI q = s at *
    by_cases h9 : s ≤ 9
    · have HN : Hid (smallC cells list = true) := by unfold Hid; rw [HS3.out, decide_eq_true h9]; rfl
      go_wp2_with fail
      go_ret
      exact ⟨by rw [HN.out]; rfl, X1.out⟩
    · have HN : Hid (smallC cells list = decide (s > 12)) := by unfold Hid; rw [HS3.out, decide_eq_false h9]; rfl
      have hd : decide (s ≤ 9) = false := decide_eq_false h9
      go_wp2_with fail
      refine HC2.out.mono ?_
      rintro r w3 ⟨rfl, rfl⟩
      go_wp2_with fail
      go_ret
      exact ⟨by rw [HN.out]; rfl, X1.out⟩
end Go.Proofs.YtdiopiekmdfklaaDoor
