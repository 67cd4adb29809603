/-
  The reference's table of a relation.
  The walk of states.widthsOf.
  The walk of states.State.
-/
import Derived.Test.YtlnahhlddekhoaaGreatDoorG15
import Derived.Test.YtlnahhlddekhoaaGreatDoorG21
import Derived.Test.YtlnahhlddekhoaaGreatDoorG10
namespace Go.Proofs.YtlnahhlddekhoaaGreatDoor
open Go.RowKit

def memT (M : List (Nat × Nat)) (k i j : Nat) : Bool := decide ((i, j) ∈ M.take k)
theorem memT_step {M : List (Nat × Nat)} {k : Nat} (h : k < M.length) : memT M (k + 1) = fun i j => if i = M[k].1 ∧ j = M[k].2 then true else memT M k i j := by
  funext i j
  unfold memT
  have hm : (i, j) ∈ M.take (k + 1) ↔ ((i, j) ∈ M.take k ∨ (i, j) = M[k]) := by
    rw [List.take_succ_eq_append_getElem h, List.mem_append, List.mem_singleton]
  by_cases c : i = M[k].1 ∧ j = M[k].2
  · rw [if_pos c]
    exact decide_eq_true (hm.2 (.inr (Prod.ext c.1 c.2)))
  · rw [if_neg c]
    have hne : (i, j) ≠ M[k] := fun e => c (by rw [← e]; exact ⟨rfl, rfl⟩)
    exact decide_eq_decide.2 (hm.trans (or_iff_left hne))
theorem memT_zero (M : List (Nat × Nat)) : memT M 0 = fun _ _ => false := by
  funext i j; simp [memT]

set_option maxHeartbeats 4000000 in
theorem RTableR_any (cs ws : List Int) (M : List (Nat × Nat)) (v : Value) (w : World) (n : Nat) (hv : RelV w v cs ws (castP M)) (hW : Widths ws) (h0 : 0 ≤ sumI ws) (hn : pw (sumI ws) = (n : Int)) (h20 : sumI ws ≤ 20) (h64 : n ≤ 4096) (hM : ∀ p ∈ M, p.1 < n ∧ p.2 < n) :
    Calls Tryz.prog 53 #[v] w fun r w' => ∃ g, r = .returned (.slice (some ⟨g, 0, none⟩) n n) ∧ TabW w' w.heap.size g n (memT M M.length) ∧ Ext w w' := by
  obtain ⟨ca, cc, wa, wcp, ia, ic, rfl, a1, a2, a3⟩ := hv.shape
  have hlen := SliceAt.len_le a3
  rw [castP_len] at a3 hlen
  obtain ⟨W, hW'⟩ : ∃ W, W = w.alloc (.cells #[.slice ca cs.length cc, .slice wa ws.length wcp, .slice ia (castP M).length ic] 29) := ⟨_, rfl⟩
  rw [castP_len] at *
  have hx : Ext w W := by rw [hW']; exact (Ext.refl w).alloc _
  have hB : W.heap[w.heap.size]? = some (.cells #[.slice ca cs.length cc, .slice wa ws.length wcp, .slice ia M.length ic] 29 (0, 0)) := by rw [hW']; exact heap_new _ _
  obtain ⟨p0, p1, p2⟩ := cells3 hB
  have HE := Lib.hid (REmpty_any ws _ W n (a2.ext hx) hW h0 hn h20 h64)
  have A3 := Lib.hid (a3.ext hx)
  have HM := Lib.hid hM; have HW := Lib.hid hW'; have HX := Lib.hid hx
  have hbase : w.heap.size ≤ W.heap.size := hx.size
  clear hv hW h0 hn h20 hM a1 a2 a3 hW' hB hx p0
  go_enter Tryz.func53, Tryz.ntmps53
  go_upto_region 1 with fail
  rw [← HW.out]; clear HW
  generalize w.heap.size = B at p1 p2 ⊢
  go_wp2_with fail
  refine HE.out.mono ?_
  rintro r w1 ⟨g, rfl, ⟨r0, hT0⟩, hx1⟩
  have HX1 := Lib.hid hx1
  have HT0 := Lib.hid hT0
  clear hx1 hT0 HE p1
  go_wp2_with fail
  go_loopw [4] (fun i wr => ∃ (k : Nat), k ≤ M.length ∧ i = .int .i64 k ∧ TabR wr W.heap.size g n r0 (memT M k) n ∧ Ext W wr) (fun i _ => M.length - (intOf i).toNat)
  case atStart => exact ⟨0, Nat.zero_le _, rfl, by rw [memT_zero]; exact HT0.out, HX1.out⟩
  case round =>
    obtain ⟨k, hk, rfl, hT, hX⟩ := hrel
    have HT := Lib.hid hT; have HXr := Lib.hid hX
    have p2r := hX.cell p2
    clear hT hX
    by_cases hlt : k < M.length
    · obtain ⟨b, o, c, e, g0, g1⟩ := pairAt_of (A3.out.ext HXr.out) (k := k) (by rw [castP_len]; exact hlt)
      rw [castP_get M hlt] at g0 g1
      have hin := HM.out _ (List.getElem_mem hlt)
      have c1 := HT.out.cell hin.1 hin.1
      have c2 := HT.out.at hin.1 hin.2
      have f2 := (HT.out.row _ hin.1).2.frozen M[k].2
      rw [castP_len] at e
      cases e
      have HS : Hid (∀ w', w' = wr → TabR (w'.setCell ⟨r0 M[k].1, M[k].2, none⟩ (.bool true)) W.heap.size g n r0 (memT M (k + 1)) n) := by
        rintro w' rfl
        rw [memT_step hlt]
        exact HT.out.set hin.1 true
      have HG : Hid (W.heap.size ≤ r0 M[k].1) := Nat.le_of_lt (Nat.lt_of_le_of_lt HT.out.le (HT.out.row _ hin.1).1)
      obtain ⟨hi1, hi2⟩ := hin
      generalize M[k].1 = x at *
      generalize M[k].2 = y at *
      go_wp2_with fail
      go_region
      go_wp2_with fail
      exact ⟨⟨k + 1, by omega, by go_num, (HS.out wr rfl).ext (Ext.refl _).drew, (HXr.out.setCell HG.out _).trans (Ext.refl _).drew⟩, by simp [intOf]; omega⟩
    · have hkn : k = M.length := by omega
      subst hkn
      go_wp2_with fail
      go_ret
      exact ⟨_, rfl, ⟨r0, ⟨Nat.le_trans hbase HT.out.le, HT.out.top, HT.out.row, HT.out.one⟩⟩, HX.out.trans HXr.out⟩
end Go.Proofs.YtlnahhlddekhoaaGreatDoor
namespace Go.Proofs.YtlnahhlddekhoaaGreatDoor
open Go.RowKit

/-- The widths of listed cells. -/
def wAt (cells : List CellD) (c : Int) : Int := ((cells[c.toNat]?).map (·.W)).getD 0
def wOf (cells : List CellD) (list : List Int) : List Int := list.map (wAt cells)
def inB (cells : List CellD) (list : List Int) : Bool := list.all fun c => decide (0 ≤ c) && decide (c < (cells.length : Int))
def widthsB (cells : List CellD) (list : List Int) : Bool := incB list && inB cells list && shapeB list (wOf cells list)
def WidthsPost (cells : List CellD) (list : List Int) (w : World) (r : Ending) (w' : World) : Prop :=
  ∃ v, r = .returned (.tuple #[v, .bool (widthsB cells list)]) ∧ (∃ a n c, v = .slice a n c) ∧ (widthsB cells list = true → OwnInts w' w.heap.size v (wOf cells list)) ∧ Ext w w'
theorem WidthsPost.no {cells : List CellD} {list : List Int} {w w' : World} (h : widthsB cells list = false) (hx : Ext w w') (a : Option Addr) (n c : Nat) : WidthsPost cells list w (.returned (.tuple #[.slice a n c, .bool false])) w' :=
  ⟨_, by rw [h], ⟨_, _, _, rfl⟩, (fun e => by rw [h] at e; cases e), hx⟩
theorem wOf_snoc (cells : List CellD) (list : List Int) {k : Nat} (h : k < list.length) : wOf cells (list.take (k + 1)) = wOf cells (list.take k) ++ [wAt cells list[k]] := by
  unfold wOf; rw [List.take_succ_eq_append_getElem h, List.map_append]; rfl
theorem wOf_len (cells : List CellD) (list : List Int) : (wOf cells list).length = list.length := by simp [wOf]

set_option maxHeartbeats 2000000 in
theorem widthsOf_any (cells : List CellD) (list : List Int) (vc vl : Value) (w : World) (hc : Cells w vc cells) (hl : Ints w vl list) (hb : list.length ≤ 1000000) : Calls Tryz.prog 96 #[vc, vl] w (WidthsPost cells list w) := by
  obtain ⟨ca, cc, rfl⟩ := hc.shape
  obtain ⟨la, lc, rfl⟩ := hl.shape
  have hlen := SliceAt.len_le hc
  have HC := Lib.hid hc; have HL := Lib.hid hl
  have HB : Hid (widthsB cells list = (incB list && inB cells list && shapeB list (wOf cells list))) := rfl
  clear hc hl
  go_enter Tryz.func96, Tryz.ntmps96
  go_wp2_with fail
  refine (increasing_any list _ _ HL.out).mono ?_
  rintro r w1 ⟨rfl, x1⟩
  cases hi : incB list with
  | false =>
    have HN : Hid (widthsB cells list = false) := by unfold Hid; rw [HB.out, hi]; rfl
    have X1 := Lib.hid x1
    clear hi x1
    go_wp2_with fail
    go_ret2
    exact WidthsPost.no HN.out X1.out _ _ _
  | true =>
    have HI := Lib.hid hi; have X1 := Lib.hid x1
    clear hi x1
    go_wp2_with fail
    go_loopw [6, 14] (fun v i wr => ∃ k : Nat, k ≤ list.length ∧ i = .int .i64 k ∧ Ext w1 wr ∧ OwnInts wr w1.heap.size v (wOf cells (list.take k)) ∧ inB cells (list.take k) = true) (fun _ i _ => list.length - (intOf i).toNat)
    case atStart => exact ⟨0, Nat.zero_le _, rfl, Ext.refl _, OwnInts.nil _ _, rfl⟩
    case round =>
      obtain ⟨k, hk, rfl, hX, hO, hin⟩ := hrel
      have HXr := Lib.hid hX; have HO := Lib.hid hO; have HIN := Lib.hid hin; clear hX hO hin
      by_cases hlt : k < list.length
      · rcases HL.out with ⟨_, e⟩ | ⟨b, o, cap', e, _, hcl⟩
        · rw [e] at hlt; simp at hlt
        cases e
        have g0 : wr.cell? ⟨b, o + k, none⟩ = some (.int .i64 list[k]) := by have := (X1.out.trans HXr.out).cell (hcl k hlt); rw [Nat.mul_one] at this; exact this
        clear hcl
        have HNO : Hid (¬ (0 ≤ list[k] ∧ list[k] < (cells.length : Int)) → widthsB cells list = false) := fun h => by
          rw [HB.out, HI.out, Bool.true_and]
          have : inB cells list = false := by
            rw [Bool.eq_false_iff]
            intro c
            unfold inB at c
            rw [List.all_eq_true] at c
            have := c _ (List.getElem_mem hlt)
            rw [Bool.and_eq_true, decide_eq_true_eq, decide_eq_true_eq] at this
            exact h this
          rw [this]; rfl
        have HS := Lib.hid (wOf_snoc cells list hlt)
        have HI2 : Hid (0 ≤ list[k] → list[k] < (cells.length : Int) → inB cells (list.take (k + 1)) = true) := fun h1 h2 => by
          unfold inB
          rw [List.take_succ_eq_append_getElem hlt, List.all_append]
          have := HIN.out
          unfold inB at this
          rw [this]; simp [h1, h2]
        generalize list[k] = n at *
        by_cases h0 : n < 0
        · have HN := Lib.hid (HNO.out (by omega))
          go_wp2_with fail
          go_ret2
          exact WidthsPost.no HN.out (X1.out.trans HXr.out) _ _ _
        by_cases h1 : (cells.length : Int) ≤ n
        · have HN := Lib.hid (HNO.out (by omega))
          go_wp2_with fail
          go_ret2
          exact WidthsPost.no HN.out (X1.out.trans HXr.out) _ _ _
        obtain ⟨m, rfl⟩ := Int.eq_ofNat_of_zero_le (show 0 ≤ n by omega)
        have hm : m < cells.length := by omega
        rcases HC.out with ⟨_, e⟩ | ⟨bc, oc, capc, e, _, hcc⟩
        · rw [e] at hm; simp at hm
        cases e
        have g1 := ((X1.out.trans HXr.out).cell (hcc m hm).2.1)
        clear hcc
        have HW : Hid (wAt cells (m : Int) = cells[m].W) := by unfold Hid wAt; simp [hm]
        generalize cells[m].W = x at *
        have HIN2 := Lib.hid (HI2.out (by omega) (by omega))
        have hlk : (wOf cells (list.take k)).length ≤ 1000000 := by rw [wOf_len, List.length_take]; omega
        have HLK := Lib.hid hlk
        have hlw : w1.heap.size ≤ wr.heap.size := HXr.out.size
        clear hlk HI2 HNO
        go_wp2_with (at_builtin; refine wpList_append_int rfl (.tmp 26) (.tmp 32) rfl w1.heap.size wr _ _ x rfl rfl HO.out (by have := HLK.out; omega) hlw ?_)
        intro v' w' hown' hg
        rw [← HW.out, ← HS.out] at hown'
        have hx' : Ext w1 w' := HXr.out.grown hg (fun q hq => HO.out.base q hq)
        have HO' := Lib.hid hown'; have HX' := Lib.hid hx'
        clear hown' hx' hg
        go_wp2_with fail
        exact ⟨⟨k + 1, by omega, by go_num, HX'.out, HO'.out, HIN2.out⟩, by simp [intOf]; omega⟩
      · have HT : Hid (list.take k = list) := List.take_of_length_le (by omega)
        rw [HT.out] at HO HIN
        have HE : Hid (widthsB cells list = shapeB list (wOf cells list)) := by unfold Hid; rw [HB.out, HI.out, HIN.out]; rfl
        go_wp2_with fail
        refine (shape_any list (wOf cells list) _ _ _ (HL.out.ext (X1.out.trans HXr.out)) HO.out.ints).mono ?_
        rintro r w2 ⟨rfl, x2⟩
        have X2 := Lib.hid x2
        clear x2
        rw [← HE.out]
        clear HE
        go_wp2_with fail
        go_ret2
        obtain ⟨a, c, hv⟩ := HO.out.ints.shape
        exact ⟨_, rfl, ⟨_, _, _, hv⟩, fun _ => (HO.out.kept X2.out).mono X1.out.size, X1.out.trans (HXr.out.trans X2.out)⟩
end Go.Proofs.YtlnahhlddekhoaaGreatDoor
namespace Go.Proofs.YtlnahhlddekhoaaGreatDoor
open Go.RowKit

/-- One cell of a state. -/
def stStep (p : Int × List Int) (q : Int × Int) : Int × List Int := (p.1 / pw q.2, if q.1 < (p.2.length : Int) then p.2.set q.1.toNat (p.1 % pw q.2) else p.2)
def stTo (cs ws : List Int) (n : Int) (base : List Int) (k : Nat) : Int × List Int := ((cs.zip ws).take k).foldl stStep (n, base)
def stateS (cs ws : List Int) (n : Int) (base : List Int) : List Int := if smallB cs ws then (stTo cs ws n base cs.length).2 else base
theorem stTo_succ {cs ws : List Int} (n : Int) (base : List Int) {k : Nat} (h : cs.length = ws.length) (hk : k < cs.length) : stTo cs ws n base (k + 1) = stStep (stTo cs ws n base k) (cs[k], ws[k]'(by omega)) := by
  unfold stTo
  have hz : k < (cs.zip ws).length := by simp; omega
  rw [List.take_succ_eq_append_getElem hz, List.foldl_append]
  simp
theorem OwnInts.open {w : World} {base : Nat} {v : Value} {l : List Int} (h : OwnInts w base v l) (hl : 0 < l.length) : ∃ g cap, v = .slice (some ⟨g, 0, none⟩) l.length cap ∧ base ≤ g ∧ ∀ i (hi : i < l.length), w.cell? ⟨g, i, none⟩ = some (.int .i64 l[i]) ∧ w.frozen? ⟨g, i, none⟩ = false := by
  have hI := h.ints
  rcases h.2 with ⟨_, e⟩ | ⟨g, cap, cur, hv, hg, hh, _⟩
  · omega
  · refine ⟨g, cap, hv, hg, fun i hi => ⟨?_, frozen_of_row w g i _ _ hh⟩⟩
    rw [hv] at hI
    rcases hI with ⟨_, e⟩ | ⟨b, o, c, e, _, hc⟩
    · rw [e] at hl; simp at hl
    · cases e; have := hc i hi; rw [Nat.mul_one, Nat.zero_add] at this; exact this
theorem OwnInts.set {w : World} {base g cap : Nat} {l : List Int} (h : OwnInts w base (.slice (some ⟨g, 0, none⟩) l.length cap) l) {i : Nat} (x : Int) : OwnInts (w.setCell ⟨g, i, none⟩ (.int .i64 x)) base (.slice (some ⟨g, 0, none⟩) l.length cap) (l.set i x) := by
  obtain ⟨h1, h2⟩ := h
  refine ⟨by simp, ?_⟩
  rcases h2 with ⟨e, _⟩ | ⟨g', cap', cur, hv, hg, hh, hn, hc, hs, ht⟩
  · cases e
  · cases hv
    refine .inr ⟨g, cap, cur.setIfInBounds i (.int .i64 x), by rw [List.length_set], hg, heap_setCell_same _ _ _ _ _ _ hh, by rw [List.length_set]; exact hn, hc, by simpa using hs, ?_⟩
    simp only [Nat.mul_one, List.length_set] at ht ⊢
    rw [Array.toList_setIfInBounds, List.take_set, ht, List.map_set]

theorem mask_walk (m wd : Int) (h3 : 1 ≤ wd) (h4 : wd ≤ 8) : bits .and .i64 m (wrap64 (wrap64 (2 ^ wd.toNat) - 1)) = m % pw wd := by
  rw [pow_wrap (by omega) (by omega)]
  have hc := pw_cases h3 h4
  have : wrap64 (pw wd - 1) = pw wd - 1 := by unfold wrap64; omega
  rw [this, mask_eq m wd h3 h4]
theorem pw_pow (wd : Int) : (2 : Int) ^ wd.toNat = pw wd := rfl

set_option maxRecDepth 100000 in
set_option maxHeartbeats 2000000 in
theorem State_any (cs ws is : List Int) (n : Int) (base : List Int) (va vb : Value) (w : World) (ha : SetV w va cs ws is) (hb : Ints w vb base) (hl : base.length ≤ 1000000) : Calls Tryz.prog 37 #[va, .int .i64 n, vb] w fun r w' => ∃ v, r = .returned v ∧ OwnInts w' w.heap.size v (stateS cs ws n base) ∧ Ext w w' := by
  obtain ⟨ca, cc, wa, wcp, ia, ic, rfl, a1, a2, a3⟩ := ha.shape
  obtain ⟨W, hW⟩ : ∃ W, W = w.alloc (.cells #[.slice ca cs.length cc, .slice wa ws.length wcp, .slice ia is.length ic] 31) := ⟨_, rfl⟩
  have hx : Ext w W := by rw [hW]; exact (Ext.refl w).alloc _
  have hB1 : W.heap[w.heap.size]? = some (.cells #[.slice ca cs.length cc, .slice wa ws.length wcp, .slice ia is.length ic] 31 (0, 0)) := by rw [hW]; exact heap_new _ _
  obtain ⟨p0, p1, p2⟩ := cells3 hB1
  have hlc := SliceAt.len_le a1
  have P0 := Lib.hid p0; have P1 := Lib.hid p1
  have HA := Lib.hid (ha.ext hx); have A1 := Lib.hid (a1.ext hx); have A2 := Lib.hid (a2.ext hx); have HBb := Lib.hid (hb.ext hx); have HX := Lib.hid hx; have HW := Lib.hid hW; have HL := Lib.hid hl
  obtain ⟨ba, bc, rfl⟩ := hb.shape
  clear ha a1 a2 a3 hx hW hB1 hb hl
  go_enter Tryz.func37, Tryz.ntmps37
  go_upto_region 1 with fail
  rw [← HW.out]
  go_wp2_with fail
  refine (Clone_any base _ _ HBb.out (by have := HL.out; omega)).mono ?_
  rintro r w1 ⟨v, rfl, hv, x1⟩
  obtain ⟨sa, sc, rfl⟩ := hv.ints.shape
  have HV := Lib.hid hv; have X1 := Lib.hid x1
  have p01 := x1.cell p0; have p11 := x1.cell p1; have p21 := x1.cell p2
  clear hv x1 p0 p1 p2
  go_wp2_with fail
  refine (small_any cs ws is _ _ (HA.out.ext X1.out)).mono ?_
  rintro r w2 ⟨rfl, x2⟩
  have X2 := Lib.hid (X1.out.trans x2); have V2 := Lib.hid (HV.out.kept x2)
  have p02 := x2.cell p01; have p12 := x2.cell p11
  clear x2 p01 p11 p21
  cases hs : smallB cs ws with
  | false =>
    have HF : Hid (stateS cs ws n base = base) := by unfold Hid stateS; rw [hs]; rfl
    clear hs
    go_wp2_with fail
    go_ret
    exact ⟨_, rfl, by rw [HF.out]; exact V2.out.mono (HX.out.size), HX.out.trans X2.out⟩
  | true =>
    have HF : Hid (stateS cs ws n base = (stTo cs ws n base cs.length).2) := by unfold Hid stateS; rw [hs]; rfl
    obtain ⟨hsh, hwd, _, _⟩ := small_sum hs
    obtain ⟨heq, _, hin⟩ := shape_iff.1 hsh
    have HEQ := Lib.hid heq; have HIN := Lib.hid hin
    clear hs hsh hwd heq hin
    go_wp2_with fail
    go_loopw [1, 20] (fun x i wr => ∃ k : Nat, k ≤ cs.length ∧ i = .int .i64 k ∧ x = .int .i64 (stTo cs ws n base k).1 ∧ Ext W wr ∧ (stTo cs ws n base k).2.length = base.length ∧ OwnInts wr W.heap.size (.slice sa base.length sc) (stTo cs ws n base k).2) (fun _ i _ => cs.length - (intOf i).toNat)
    case atStart => exact ⟨0, Nat.zero_le _, rfl, rfl, X2.out, rfl, V2.out⟩
    case round =>
      obtain ⟨k, hk, rfl, rfl, hX, hbl, hO⟩ := hrel
      have HXr := Lib.hid hX; have HO := Lib.hid hO; have HBL := Lib.hid hbl; clear hX hO hbl
      by_cases hlt : k < cs.length
      · have hlt2 : k < ws.length := by have := HEQ.out; omega
        rcases A1.out with ⟨_, e⟩ | ⟨b, o, cap', e, _, hcl⟩
        · rw [e] at hlt; simp at hlt
        cases e
        rcases A2.out with ⟨_, e⟩ | ⟨b2, o2, cap2, e, _, hcl2⟩
        · rw [e] at hlt2; simp at hlt2
        cases e
        have g0 : wr.cell? ⟨b, o + k, none⟩ = some (.int .i64 cs[k]) := by have := HXr.out.cell (hcl k hlt); rw [Nat.mul_one] at this; exact this
        have g1 : wr.cell? ⟨b2, o2 + k, none⟩ = some (.int .i64 ws[k]) := by have := HXr.out.cell (hcl2 k hlt2); rw [Nat.mul_one] at this; exact this
        clear hcl hcl2
        have hbd := HIN.out k hlt
        rw [show cs.getD k 0 = cs[k] by simp [List.getD, hlt], show ws.getD k 0 = ws[k] by simp [List.getD, hlt2]] at hbd
        have HS := Lib.hid (stTo_succ n base HEQ.out hlt)
        have hst1 : (stStep (stTo cs ws n base k) (cs[k], ws[k])).1 = (stTo cs ws n base k).1 / pw ws[k] := rfl
        have hst2 : (stStep (stTo cs ws n base k) (cs[k], ws[k])).2 = if cs[k] < ((stTo cs ws n base k).2.length : Int) then (stTo cs ws n base k).2.set cs[k].toNat ((stTo cs ws n base k).1 % pw ws[k]) else (stTo cs ws n base k).2 := rfl
        have q0 := HXr.out.cell P0.out; have q1 := HXr.out.cell P1.out
        rw [← HS.out] at hst1 hst2
        have HST1 := Lib.hid hst1; have HST2 := Lib.hid hst2
        clear hst1 hst2 HS p02 p12
        generalize (stTo cs ws n base k).1 = m at *
        generalize (stTo cs ws n base k).2 = st at *
        generalize cs[k] = c at *
        generalize ws[k] = wd at *
        obtain ⟨h1, h2, h3, h4⟩ := hbd
        obtain ⟨cN, rfl⟩ := Int.eq_ofNat_of_zero_le h1
        have i0 : (0 : Int) ≤ (k : Int) := by omega
        by_cases hcl : cN < base.length
        · have hcs : cN < st.length := by rw [HBL.out]; exact hcl
          obtain ⟨g, cap, hve, hg, hcell⟩ := HO.out.open (by omega)
          rw [HBL.out] at hve
          cases hve
          have d0 := (hcell cN hcs).1
          have d1 := (hcell cN hcs).2
          have hO' := HO.out
          rw [← HBL.out] at hO'
          have hown := hO'.set (i := cN) (m % pw wd)
          rw [HBL.out] at hown
          have HOWN := Lib.hid hown
          have HE2 := HST2.out
          rw [if_pos (by omega)] at HE2
          have HST3 := Lib.hid HE2
          have XS := Lib.hid (HXr.out.setCell (p := ⟨g, cN, none⟩) hg (.int .i64 (m % pw wd)))
          have HMK := Lib.hid (mask_walk m wd h3 h4)
          clear hcell hO' hown HE2
          go_wp2_with fail
          rw [HMK.out, pw_pow]
          exact ⟨⟨k + 1, by omega, by go_num, by rw [HST1.out], XS.out, by rw [HST3.out, List.length_set]; exact HBL.out, by rw [HST3.out]; exact HOWN.out⟩, by simp [intOf]; omega⟩
        · have HE2 := HST2.out
          rw [if_neg (by have := HBL.out; omega)] at HE2
          have HST3 := Lib.hid HE2
          clear HE2
          go_wp2_with fail
          rw [pw_pow]
          exact ⟨⟨k + 1, by omega, by go_num, by rw [HST1.out], HXr.out, by rw [HST3.out]; exact HBL.out, by rw [HST3.out]; exact HO.out⟩, by simp [intOf]; omega⟩
      · obtain rfl : k = cs.length := by omega
        rw [← HF.out] at HO
        go_wp2_with fail
        go_ret
        exact ⟨_, rfl, HO.out.mono HX.out.size, HX.out.trans HXr.out⟩
end Go.Proofs.YtlnahhlddekhoaaGreatDoor
