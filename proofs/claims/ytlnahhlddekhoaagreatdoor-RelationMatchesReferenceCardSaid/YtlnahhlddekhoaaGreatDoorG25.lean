/-
  The walks of law10's Short and of the reference's At and Widths.
  The walks of the reference's Widths and of law10's Small.
  The reference's relation of a table.
-/
import Derived.Test.YtlnahhlddekhoaaGreatDoorG15
import Derived.Test.YtlnahhlddekhoaaGreatDoorG01
import Derived.Test.YtlnahhlddekhoaaGreatDoorG22
import Derived.Test.YtlnahhlddekhoaaGreatDoorG07
import Derived.Test.YtlnahhlddekhoaaGreatDoorG24
import Derived.Test.YtlnahhlddekhoaaGreatDoorG18
namespace Go.Proofs.YtlnahhlddekhoaaGreatDoor
open Go.RowKit

def shortB (k m n : Nat) : Bool := decide ((k : Int) ≤ 40) && decide ((m : Int) ≤ 40) && decide ((n : Int) ≤ 600)
def RWidthsPost (cells : List CellD) (list : List Int) (w : World) (r : Ending) (w' : World) : Prop :=
  ∃ v, r = .returned (.tuple #[v, .bool (widthsB cells list)]) ∧ (∃ a n c, v = .slice a n c) ∧ (widthsB cells list = true → Ints w' v (wOf cells list)) ∧ Ext w w'
theorem RWidthsPost.no {cells : List CellD} {list : List Int} {w w' : World} (h : widthsB cells list = false) (hx : Ext w w') (a : Option Addr) (n c : Nat) : RWidthsPost cells list w (.returned (.tuple #[.slice a n c, .bool false])) w' :=
  ⟨_, by rw [h], ⟨_, _, _, rfl⟩, (fun e => by rw [h] at e; cases e), hx⟩
theorem ris_widths {cells : List CellD} {list : List Int} : widthsB cells list = (risB (min (cells.length : Int) 32) list && shapeB list (wOf cells list)) := by
  rw [Bool.eq_iff_iff]
  unfold widthsB
  simp only [Bool.and_eq_true, ris_iff]
  constructor
  · rintro ⟨⟨h1, h2⟩, h3⟩
    refine ⟨⟨fun i hi _ => ?_, fun i hi _ => ?_⟩, h3⟩
    · have h4 := (shape_iff.1 h3).2.2 i hi
      unfold inB at h2
      rw [List.all_eq_true] at h2
      have h5 := h2 list[i] (List.getElem_mem hi)
      rw [Bool.and_eq_true, decide_eq_true_eq, decide_eq_true_eq] at h5
      rw [show list.getD i 0 = list[i] by simp [List.getD, hi]] at h4
      omega
    · have h4 := inc_iff.1 h1 i hi
      rwa [show list.getD i 0 = list[i]'(by omega) by simp [List.getD, show i < list.length by omega], show list.getD (i + 1) 0 = list[i + 1] by simp [List.getD, hi]] at h4
  · rintro ⟨h1, h2⟩
    refine ⟨⟨(shape_iff.1 h2).2.1, ?_⟩, h2⟩
    unfold inB
    rw [List.all_eq_true]
    intro x hx
    obtain ⟨i, hi, rfl⟩ := List.getElem_of_mem hx
    have := h1.bd i hi hi
    rw [Bool.and_eq_true, decide_eq_true_eq, decide_eq_true_eq]
    omega
theorem shape_sum256 {cs ws : List Int} (h : shapeB cs ws = true) : sumI ws ≤ 256 := by
  obtain ⟨hl, _, hin⟩ := shape_iff.1 h
  have h32 := shape_len h
  have := (sum_bound (shape_widths h).2 ws.length (Nat.le_refl _)).2
  rw [List.take_length] at this
  omega
end Go.Proofs.YtlnahhlddekhoaaGreatDoor
namespace Go.Proofs.YtlnahhlddekhoaaGreatDoor
open Go.RowKit

/-- []int{}. -/
theorem OwnInts.empty (w : World) (base : Nat) (hb : base ≤ w.heap.size) : OwnInts (w.alloc (.cells #[] 3)) base (.slice (some ⟨w.heap.size, 0, none⟩) 0 0) [] :=
  ⟨rfl, .inr ⟨w.heap.size, 0, #[], rfl, hb, heap_new _ _, by simp, by simp, by simp, by simp⟩⟩
set_option maxRecDepth 100000 in
set_option maxHeartbeats 2000000 in
theorem RWidths_any (cells : List CellD) (list : List Int) (vc vl : Value) (w : World) (hc : Cells w vc cells) (hl : Ints w vl list) (hb : list.length ≤ 1000000) : Calls Tryz.prog 80 #[vc, vl] w (RWidthsPost cells list w) := by
  obtain ⟨ca, cc, rfl⟩ := hc.shape
  obtain ⟨la, lc, rfl⟩ := hl.shape
  have hlen := SliceAt.len_le hc
  have hlen2 := SliceAt.len_le hl
  have HC := Lib.hid hc; have HL := Lib.hid hl
  have HB := Lib.hid (ris_widths (cells := cells) (list := list))
  have hmn : ∃ m, m = min (cells.length : Int) 32 ∧ m ≤ cells.length := ⟨_, rfl, by omega⟩
  obtain ⟨m, hm, hmc⟩ := hmn
  rw [← hm] at HB
  clear hc hl
  go_enter Tryz.func80, Tryz.ntmps80
  go_wp2_with fail
  try rw [← hm]
  clear hm
  refine (RRising_any list m _ _ HL.out).mono ?_
  rintro r w1 ⟨rfl, x1⟩
  have X1 := Lib.hid x1
  clear x1
  cases hr : risB m list with
  | false =>
    have HN : Hid (widthsB cells list = false) := by unfold Hid; rw [HB.out, hr]; rfl
    clear hr
    go_wp2_with fail
    go_ret2
    exact RWidthsPost.no HN.out X1.out _ _ _
  | true =>
    have HR := Lib.hid (ris_iff.1 hr)
    have HB2 : Hid (widthsB cells list = shapeB list (wOf cells list)) := by unfold Hid; rw [HB.out, hr, Bool.true_and]
    clear hr HB
    go_wp2_with fail
    go_loopw [6, 7] (fun v i wr => ∃ k : Nat, k ≤ list.length ∧ i = .int .i64 k ∧ Ext w1 wr ∧ OwnInts wr w1.heap.size v (wOf cells (list.take k))) (fun _ i _ => list.length - (intOf i).toNat)
    case atStart => exact ⟨0, Nat.zero_le _, rfl, (Ext.refl _).alloc _, OwnInts.empty _ _ (Nat.le_refl _)⟩
    case round =>
      obtain ⟨k, hk, rfl, hX, hO⟩ := hrel
      have HXr := Lib.hid hX; have HO := Lib.hid hO; clear hX hO
      by_cases hlt : k < list.length
      · rcases HL.out with ⟨_, e⟩ | ⟨b, o, cap', e, _, hcl⟩
        · rw [e] at hlt; simp at hlt
        cases e
        have g0 : wr.cell? ⟨b, o + k, none⟩ = some (.int .i64 list[k]) := by have := (X1.out.trans HXr.out).cell (hcl k hlt); rw [Nat.mul_one] at this; exact this
        clear hcl
        have HS := Lib.hid (wOf_snoc cells list hlt)
        obtain ⟨hn0, hn1⟩ := HR.out.bd k hlt hlt
        generalize list[k] = n at *
        obtain ⟨q, rfl⟩ := Int.eq_ofNat_of_zero_le hn0
        have hm : q < cells.length := by omega
        rcases HC.out with ⟨_, e⟩ | ⟨bc, oc, capc, e, _, hcc⟩
        · rw [e] at hm; simp at hm
        cases e
        have g1 := ((X1.out.trans HXr.out).cell (hcc q hm).2.1)
        clear hcc
        have HW : Hid (wAt cells (q : Int) = cells[q].W) := by unfold Hid wAt; simp [hm]
        generalize cells[q].W = x at *
        have hlk : (wOf cells (list.take k)).length ≤ 1000000 := by rw [wOf_len, List.length_take]; omega
        have HLK := Lib.hid hlk
        have hlw : w1.heap.size ≤ wr.heap.size := HXr.out.size
        clear hlk
        go_wp2_with (at_builtin; refine wpList_append_int rfl (.tmp 21) (.tmp 30) rfl w1.heap.size wr _ _ x rfl rfl HO.out (by have := HLK.out; omega) hlw ?_)
        intro v' w' hown' hg
        rw [← HW.out, ← HS.out] at hown'
        have hx' : Ext w1 w' := HXr.out.grown hg (fun q hq => HO.out.base q hq)
        have HO' := Lib.hid hown'; have HX' := Lib.hid hx'
        clear hown' hx' hg
        go_wp2_with fail
        exact ⟨⟨k + 1, by omega, by go_num, HX'.out, HO'.out⟩, by simp [intOf]; omega⟩
      · have HT : Hid (list.take k = list) := List.take_of_length_le (by omega)
        rw [HT.out] at HO
        obtain ⟨sa, sc, hv⟩ := HO.out.ints.shape
        subst hv
        go_wp2_with fail
        refine (RBits_any list (wOf cells list) 256 _ _ _ (HL.out.ext (X1.out.trans HXr.out)) HO.out.ints).mono ?_
        rintro r w2 ⟨rfl, x2⟩
        have X2 := Lib.hid x2
        clear x2
        obtain ⟨y, hy⟩ : ∃ y, y = bitsI list (wOf cells list) 256 := ⟨_, rfl⟩
        rw [← hy]
        have HE : Hid (decide (y ≥ 0) = widthsB cells list) := by
          unfold Hid
          rw [HB2.out, hy]
          cases hs : shapeB list (wOf cells list) with
          | false => rw [bits_no (by rw [hs]; simp)]; rfl
          | true =>
            have h1 := shape_sum256 hs; have h2 := shape_sum0 hs
            unfold bitsI
            rw [if_pos ⟨hs, h1⟩]
            exact decide_eq_true h2
        clear hy
        go_wp2_with fail
        go_ret2
        exact ⟨_, by rw [← HE.out]; rfl, ⟨_, _, _, rfl⟩, fun _ => HO.out.ints.ext X2.out, X1.out.trans (HXr.out.trans X2.out)⟩

/-- What law10's Small decides. -/
def smallC (cells : List CellD) (list : List Int) : Bool := decide (cells.length ≤ 40) && decide (list.length ≤ 40) && (!widthsB cells list || decide (sumI (wOf cells list) ≤ 9) || decide (sumI (wOf cells list) > 12))
end Go.Proofs.YtlnahhlddekhoaaGreatDoor
namespace Go.Proofs.YtlnahhlddekhoaaGreatDoor
open Go.RowKit

theorem relTo_len (n : Nat) (P : Nat → Nat → Bool) (x y : Nat) : (relTo n P x y).length ≤ x * n + y := by
  have hr : ∀ (x y : Nat), (((List.range y).filter (P x)).map fun j => (x, j)).length ≤ y := fun x y => by
    rw [List.length_map]
    have := List.length_filter_le (P x) (List.range y)
    rwa [List.length_range] at this
  have e : ∀ y, relTo n P x y = relTo n P x 0 ++ ((List.range y).filter (P x)).map fun j => (x, j) := fun y => by simp [relTo]
  have h0 : (relTo n P x 0).length ≤ x * n := by
    clear e
    induction x with
    | zero => simp [relTo]
    | succ x ih =>
      rw [← relTo_row, show relTo n P x n = relTo n P x 0 ++ ((List.range n).filter (P x)).map fun j => (x, j) by simp [relTo], List.length_append, Nat.succ_mul]
      have := hr x n
      omega
  rw [e, List.length_append]
  have := hr x y
  omega

set_option maxRecDepth 100000 in
set_option maxHeartbeats 4000000 in
theorem RRelT_any (cs ws : List Int) (n g : Nat) (T : Nat → Nat → Bool) (vc vw : Value) (w : World) (b0 : Nat) (hc : Ints w vc cs) (hw : Ints w vw ws) (hT : TabW w b0 g n T) (lc : cs.length ≤ 1000000) (lw : ws.length ≤ 1000000) (h64 : n ≤ 64) :
    Calls Tryz.prog 47 #[vc, vw, .slice (some ⟨g, 0, none⟩) n n] w fun r w' => ∃ v', r = .returned v' ∧ RelO w' w.heap.size v' cs ws (castP (relTo n T n 0)) ∧ Ext w w' := by
  obtain ⟨r0, hT⟩ := hT
  obtain ⟨ca, cc, rfl⟩ := hc.shape
  obtain ⟨wa, wcp, rfl⟩ := hw.shape
  obtain ⟨i0, hi, hz0, hz1, hz2⟩ := info_parts infoPair
  obtain ⟨W, hW⟩ : ∃ W, W = w.alloc (.cells #[.slice none 0 0, .slice none 0 0, .slice none 0 0] 29) := ⟨_, rfl⟩
  have hx : Ext w W := by rw [hW]; exact (Ext.refl w).alloc _
  have hres : W.heap[w.heap.size]? = some (.cells #[.slice none 0 0, .slice none 0 0, .slice none 0 0] 29 (0, 0)) := by rw [hW]; exact heap_new _ _
  have hsz : W.heap.size = w.heap.size + 1 := by rw [hW]; simp
  have HT0 := Lib.hid hT
  have HC := Lib.hid (hc.ext hx); have HWd := Lib.hid (hw.ext hx); have HX := Lib.hid hx; have HR := Lib.hid hres; have HSZ := Lib.hid hsz; have HW := Lib.hid hW
  clear hc hw hT hx hres hW hsz
  go_enter Tryz.func47, Tryz.ntmps47
  go_upto_region 1 with fail
  rw [← HW.out]; clear HW
  go_wp2_with (at_builtin; refine wpList_append_list rfl (.tmp 10) (.tmp 11) rfl W.heap.size _ _ [] cs rfl rfl (OwnInts.empty _ _ (Nat.le_refl _)) (HC.out.ext ((Ext.refl _).alloc _)) (by simp; omega) (by simp) ?_)
  intro v1 w1 ho1 hg1
  obtain ⟨a1, c1, rfl⟩ := ho1.ints.shape
  have x1 : Ext W w1 := ((Ext.refl W).alloc _).grown hg1 (fun q hq => (OwnInts.empty W _ (Nat.le_refl _)).base q hq)
  have O1 := Lib.hid ho1; have X1 := Lib.hid x1
  clear ho1 hg1 x1
  go_wp2_with (at_builtin; refine wpList_append_list rfl (.tmp 13) (.tmp 14) rfl w1.heap.size _ _ [] ws rfl rfl (OwnInts.empty _ _ (Nat.le_refl _)) ((HWd.out.ext X1.out).ext ((Ext.refl _).alloc _)) (by simp; omega) (by simp) ?_)
  intro v2 w2 ho2 hg2
  obtain ⟨a2, c2, rfl⟩ := ho2.ints.shape
  have x2 : Ext w1 w2 := ((Ext.refl w1).alloc _).grown hg2 (fun q hq => (OwnInts.empty w1 _ (Nat.le_refl _)).base q hq)
  have O2 := Lib.hid ho2; have X2 := Lib.hid x2
  clear ho2 hg2 x2
  go_upto_region 2 with fail
  obtain ⟨w3, hw3⟩ : ∃ v, v = w2.alloc (.cells #[.slice a1 cs.length c1, .slice a2 ws.length c2, .slice none 0 0] 29) := ⟨_, rfl⟩
  rw [← hw3]
  have x3 : Ext w2 w3 := by rw [hw3]; exact (Ext.refl _).alloc _
  have x03 : Ext w w3 := HX.out.trans (X1.out.trans (X2.out.trans x3))
  have s1 := X1.out.size; have s2 := X2.out.size; have s3 : w3.heap.size = w2.heap.size + 1 := by rw [hw3]; simp
  have sz := HSZ.out
  have hRV : RelVar w w2.heap.size (.slice a1 cs.length c1) (.slice a2 ws.length c2) cs ws (castP []) w3.heap.size w3 := by
    refine ⟨⟨none, 0, by rw [hw3]; exact heap_new _ _, OwnPairs.nil _ _⟩, x03, ?_, ?_, fun k hk => ?_, fun k hk => ?_, by omega, by omega, by omega, ?_⟩
    · exact ((O1.out.kept X2.out).kept x3).mono (by omega)
    · exact (O2.out.kept x3).mono (by omega)
    · have := own_lt O1.out k hk; omega
    · have := own_lt O2.out k hk; omega
    · rw [(X1.out.trans (X2.out.trans x3)).block _ (by omega)]; exact HR.out
  have HRV := Lib.hid hRV
  have S3 := Lib.hid s3
  clear hw3 x3 x03 s1 s2 s3 sz hRV HC HWd HR HSZ
  generalize w2.heap.size = R at *
  go_wp2_with fail
  go_loopw [8] (fun xv wr => ∃ x : Nat, x ≤ n ∧ xv = .int .i64 x ∧ RelVar w R (.slice a1 cs.length c1) (.slice a2 ws.length c2) cs ws (castP (relTo n T x 0)) w3.heap.size wr) (fun xv _ => n - (intOf xv).toNat)
  case atStart => exact ⟨0, Nat.zero_le _, rfl, by simpa [relTo, castP] using HRV.out⟩
  case round =>
    obtain ⟨x, hx, rfl, hV⟩ := hrel
    have HV := Lib.hid hV; clear hV
    clear HRV
    by_cases hlx : x < n
    · go_wp2_with fail
      go_loopw [9] (fun yv wr => ∃ y : Nat, y ≤ n ∧ yv = .int .i64 y ∧ RelVar w R (.slice a1 cs.length c1) (.slice a2 ws.length c2) cs ws (castP (relTo n T x y)) w3.heap.size wr) (fun yv _ => n - (intOf yv).toNat)
      case atStart => exact ⟨0, Nat.zero_le _, rfl, HV.out⟩
      case round =>
        obtain ⟨y, hy, rfl, hV⟩ := hrel
        clear HV
        generalize wr = wy at *
        have HV := Lib.hid hV; clear hV
        by_cases hly : y < n
        · have c1' := (HT0.out.ext HV.out.ext).cell hlx hlx
          have c2' := (HT0.out.ext HV.out.ext).at hlx hly
          cases hb : T x y with
          | false =>
            rw [hb] at c2'
            have HN := Lib.hid (relTo_no (n := n) hb); clear hb
            go_wp2_with fail
            exact ⟨⟨y + 1, by omega, by go_num, by rw [HN.out]; exact HV.out⟩, by simp [intOf]; omega⟩
          | true =>
            rw [hb] at c2'
            have HN : Hid (castP (relTo n T x (y + 1)) = castP (relTo n T x y) ++ [((x : Int), (y : Int))]) := by unfold Hid; rw [relTo_yes hb]; simp [castP]
            clear hb
            obtain ⟨ta, tc, hh, ho⟩ := HV.out.heap
            obtain ⟨q0, q1, q2, f0, f1, f2⟩ := block3 hh
            have HO := Lib.hid ho; have HH := Lib.hid hh
            clear hh ho
            have hpl : (castP (relTo n T x y)).length ≤ 1000000 := by
              have h1 := relTo_len n T x y
              have h2 : x * n ≤ 64 * 64 := Nat.mul_le_mul (by omega) h64
              rw [castP_len]; omega
            have hbW : w3.heap.size ≤ wy.heap.size := HV.out.lw
            go_wp2_with (at_builtin; refine wpList_append_own _ rfl (.tmp 37) (.tmp 41) 27 rfl w3.heap.size 52 i0 (.agg #[.int .i64 0, .int .i64 0]) 2 16 Tryz.underlying27 hi hz0 hz1 hz2 rfl (by decide) _ (castP (relTo n T x y)).length (flatP (castP (relTo n T x y))) rfl (World.ownsRow.alloc HO.out _) ⟨wy.heap.size, 0, none⟩ 1 1 [.int .i64 (x : Int), .int .i64 (y : Int)] rfl rfl (cells_two_new _ _ _ _) (by simp [Value.oneCell']) (by unfold maxLen; omega) (by omega) (by simp; omega) ?_)
            intro v' w5 hown' hgrow _
            obtain ⟨g', cap', rfl⟩ := ownsRow_succ hown'
            replace hgrow := grown_alloc hgrow
            have hown2 : OwnPairs w5 w3.heap.size (.slice (some ⟨g', 0, none⟩) ((castP (relTo n T x y)).length + 1) cap') (castP (relTo n T x y) ++ [((x : Int), (y : Int))]) := (by unfold OwnPairs; rw [flatP_snoc, List.length_append]; exact hown')
            have HST := Lib.hid (HV.out.step _ HO.out HH.out hgrow hown2)
            have hb4 : w5.heap[R]? = wy.heap[R]? := hgrow.block _ (lt_heap HH.out) (fun e => by have := HO.out.base _ e.symm; have := HV.out.lR; omega)
            rw [HH.out] at hb4
            obtain ⟨d0, d1, d2, e0, e1, e2⟩ := block3 hb4
            clear hown' hgrow hown2 hb4
            go_wp2_with fail
            exact ⟨⟨y + 1, by omega, by go_num, by rw [HN.out]; exact HST.out⟩, by simp [intOf]; omega⟩
        · have hyn : y = n := by omega
          subst hyn
          go_wp2_with fail
          exact ⟨⟨x + 1, by omega, by go_num, by rw [← relTo_row]; exact HV.out⟩, by simp [intOf]; omega⟩
    · have hxn : x = n := by omega
      subst hxn
      obtain ⟨ta, tc, hh, ho⟩ := HV.out.heap
      obtain ⟨q0, q1, q2, f0, f1, f2⟩ := block3 hh
      obtain ⟨r0, r1, r2, e0, e1, e2⟩ := block3 HV.out.res
      have HO := Lib.hid ho; have HH := Lib.hid hh
      clear hh ho
      go_wp2_with fail
      have hRn := put3_new (x := .slice a1 cs.length c1) (y := .slice a2 ws.length c2) (z := .slice ta (castP (relTo x T x 0)).length tc) HV.out.res
      have HRn := Lib.hid hRn; clear hRn
      have hb1 := HV.out.lb; have hb2 := HV.out.lR
      refine bodyPost_ret (v := .agg #[.slice a1 cs.length c1, .slice a2 ws.length c2, .slice ta (castP (relTo x T x 0)).length tc]) (results_cell_row Tryz.results47 _ _ w.heap.size 29 _ (0, 0) _ rfl HRn.out Tryz.underlying29 rfl sizeRel) rfl ⟨_, rfl, ⟨_, _, _, rfl, (HV.out.oc.put3 (Nat.lt_succ_self _) _ _ _).mono (Nat.le_succ _), (HV.out.ow.put3 (Nat.lt_succ_self _) _ _ _).mono (Nat.le_succ _), (HO.out.put3 (by omega) _ _ _).mono (by omega)⟩, HV.out.ext.put3 (Nat.le_refl _) _ _ _⟩
end Go.Proofs.YtlnahhlddekhoaaGreatDoor
