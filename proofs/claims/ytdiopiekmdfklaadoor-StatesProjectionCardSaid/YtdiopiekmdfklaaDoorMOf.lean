/-
  The walk of states.widthsOf.
  The walk of states.State.
  The walk of states.Of. Printed by gen_of.py out of XOf3.src.
-/
import Derived.Test.YtdiopiekmdfklaaDoorMBmc
import Derived.Test.YtdiopiekmdfklaaDoorMForm
import Derived.Test.YtdiopiekmdfklaaDoorMLeaf
import Derived.Test.YtdiopiekmdfklaaDoorMSup
namespace Go.Proofs.YtdiopiekmdfklaaDoor
open Go.RowKit

/-- The widths of listed cells. -/
def wAt (cells : List CellD) (c : Int) : Int := ((cells[c.toNat]?).map (·.W)).getD 0
def wOf (cells : List CellD) (list : List Int) : List Int := list.map (wAt cells)
def inB (cells : List CellD) (list : List Int) : Bool := list.all fun c => decide (0 ≤ c) && decide (c < (cells.length : Int))
def widthsB (cells : List CellD) (list : List Int) : Bool := incB list && inB cells list && shapeB list (wOf cells list)
def WidthsPost (cells : List CellD) (list : List Int) (w : World) (r : Ending) (w' : World) : Prop :=
  ∃ v, r = .returned (.tuple #[v, .bool (widthsB cells list)]) ∧ (∃ a n c, v = .slice a n c) ∧ (widthsB cells list = true → OwnInts w' w.heap.size v (wOf cells list)) ∧ Ext w w'
theorem WidthsPost.no {cells : List CellD} {list : List Int} {w w' : World} (h : widthsB cells list = false) (hx : Ext w w') (a : Option Addr) (n c : Nat) : WidthsPost cells list w (.returned (.tuple #[.slice a n c, .bool false])) w' :=
  ⟨_, by rw [h], ⟨_, _, _, rfl⟩, (fun e => by rw [h] at e; cases e), hx⟩
theorem wOf_snoc (cells : List CellD) (list : List Int) {k : Nat} (h : k < list.length) : wOf cells (list.take (k + 1)) = wOf cells (list.take k) ++ [wAt cells list[k]] := by
  unfold wOf; rw [List.take_succ_eq_append_getElem h, List.map_append]; rfl
theorem wOf_len (cells : List CellD) (list : List Int) : (wOf cells list).length = list.length := by simp [wOf]

set_option maxHeartbeats 2000000 in
theorem widthsOf_any (cells : List CellD) (list : List Int) (vc vl : Value) (w : World) (hc : Cells w vc cells) (hl : Ints w vl list) (hb : list.length ≤ 1000000) : Calls Tryd.prog 41 #[vc, vl] w (WidthsPost cells list w) := by
  obtain ⟨ca, cc, rfl⟩ := hc.shape
  obtain ⟨la, lc, rfl⟩ := hl.shape
  have hlen := SliceAt.len_le hc
  have HC := Lib.hid hc; have HL := Lib.hid hl
  have HB : Hid (widthsB cells list = (incB list && inB cells list && shapeB list (wOf cells list))) := rfl
  clear hc hl
  go_enter Tryd.func41, Tryd.ntmps41
  go_wp2_with fail
  refine (increasing_any list _ _ HL.out).mono ?_
  rintro r w1 ⟨rfl, x1⟩
  cases hi : incB list with
  | false =>
    have HN : Hid (widthsB cells list = false) := by unfold Hid; rw [HB.out, hi]; rfl
    have X1 := Lib.hid x1
    clear hi x1
    go_wp2_with fail
    go_ret2
    exact WidthsPost.no HN.out X1.out _ _ _
  | true =>
    have HI := Lib.hid hi; have X1 := Lib.hid x1
    clear hi x1
    go_wp2_with fail
    go_loopw [6, 14] (fun v i wr => ∃ k : Nat, k ≤ list.length ∧ i = .int .i64 k ∧ Ext w1 wr ∧ OwnInts wr w1.heap.size v (wOf cells (list.take k)) ∧ inB cells (list.take k) = true) (fun _ i _ => list.length - (intOf i).toNat)
    case atStart => exact ⟨0, Nat.zero_le _, rfl, Ext.refl _, OwnInts.nil _ _, rfl⟩
    case round =>
      obtain ⟨k, hk, rfl, hX, hO, hin⟩ := hrel
      have HXr := Lib.hid hX; have HO := Lib.hid hO; have HIN := Lib.hid hin; clear hX hO hin
      by_cases hlt : k < list.length
      · rcases HL.out with ⟨_, e⟩ | ⟨b, o, cap', e, _, hcl⟩
        · rw [e] at hlt; simp at hlt
        cases e
        have g0 : wr.cell? ⟨b, o + k, none⟩ = some (.int .i64 list[k]) := by have := (X1.out.trans HXr.out).cell (hcl k hlt); rw [Nat.mul_one] at this; exact this
        clear hcl
        have HNO : Hid (¬ (0 ≤ list[k] ∧ list[k] < (cells.length : Int)) → widthsB cells list = false) := fun h => by
          rw [HB.out, HI.out, Bool.true_and]
          have : inB cells list = false := by
            rw [Bool.eq_false_iff]
            intro c
            unfold inB at c
            rw [List.all_eq_true] at c
            have := c _ (List.getElem_mem hlt)
            rw [Bool.and_eq_true, decide_eq_true_eq, decide_eq_true_eq] at this
            exact h this
          rw [this]; rfl
        have HS := Lib.hid (wOf_snoc cells list hlt)
        have HI2 : Hid (0 ≤ list[k] → list[k] < (cells.length : Int) → inB cells (list.take (k + 1)) = true) := fun h1 h2 => by
          unfold inB
          rw [List.take_succ_eq_append_getElem hlt, List.all_append]
          have := HIN.out
          unfold inB at this
          rw [this]; simp [h1, h2]
        generalize list[k] = n at *
        by_cases h0 : n < 0
        · have HN := Lib.hid (HNO.out (by omega))
          go_wp2_with fail
          go_ret2
          exact WidthsPost.no HN.out (X1.out.trans HXr.out) _ _ _
        by_cases h1 : (cells.length : Int) ≤ n
        · have HN := Lib.hid (HNO.out (by omega))
          go_wp2_with fail
          go_ret2
          exact WidthsPost.no HN.out (X1.out.trans HXr.out) _ _ _
        obtain ⟨m, rfl⟩ := Int.eq_ofNat_of_zero_le (show 0 ≤ n by omega)
        have hm : m < cells.length := by omega
        rcases HC.out with ⟨_, e⟩ | ⟨bc, oc, capc, e, _, hcc⟩
        · rw [e] at hm; simp at hm
        cases e
        have g1 := ((X1.out.trans HXr.out).cell (hcc m hm).2.1)
        clear hcc
        have HW : Hid (wAt cells (m : Int) = cells[m].W) := by unfold Hid wAt; simp [hm]
        generalize cells[m].W = x at *
        have HIN2 := Lib.hid (HI2.out (by omega) (by omega))
        have hlk : (wOf cells (list.take k)).length ≤ 1000000 := by rw [wOf_len, List.length_take]; omega
        have HLK := Lib.hid hlk
        have hlw : w1.heap.size ≤ wr.heap.size := HXr.out.size
        clear hlk HI2 HNO
        go_wp2_with (at_builtin; refine wpList_append_int rfl (.tmp 26) (.tmp 32) rfl w1.heap.size wr _ _ x rfl rfl HO.out (by have := HLK.out; omega) hlw ?_)
        intro v' w' hown' hg
        rw [← HW.out, ← HS.out] at hown'
        have hx' : Ext w1 w' := HXr.out.grown hg (fun q hq => HO.out.base q hq)
        have HO' := Lib.hid hown'; have HX' := Lib.hid hx'
        clear hown' hx' hg
        go_wp2_with fail
        exact ⟨⟨k + 1, by omega, by go_num, HX'.out, HO'.out, HIN2.out⟩, by simp [intOf]; omega⟩
      · have HT : Hid (list.take k = list) := List.take_of_length_le (by omega)
        rw [HT.out] at HO HIN
        have HE : Hid (widthsB cells list = shapeB list (wOf cells list)) := by unfold Hid; rw [HB.out, HI.out, HIN.out]; rfl
        go_wp2_with fail
        refine (shape_any list (wOf cells list) _ _ _ (HL.out.ext (X1.out.trans HXr.out)) HO.out.ints).mono ?_
        rintro r w2 ⟨rfl, x2⟩
        have X2 := Lib.hid x2
        clear x2
        rw [← HE.out]
        clear HE
        go_wp2_with fail
        go_ret2
        obtain ⟨a, c, hv⟩ := HO.out.ints.shape
        exact ⟨_, rfl, ⟨_, _, _, hv⟩, fun _ => (HO.out.kept X2.out).mono X1.out.size, X1.out.trans (HXr.out.trans X2.out)⟩
end Go.Proofs.YtdiopiekmdfklaaDoor
namespace Go.Proofs.YtdiopiekmdfklaaDoor
open Go.RowKit

/-- One cell of a state. -/
def stStep (p : Int × List Int) (q : Int × Int) : Int × List Int := (p.1 / pw q.2, if q.1 < (p.2.length : Int) then p.2.set q.1.toNat (p.1 % pw q.2) else p.2)
def stTo (cs ws : List Int) (n : Int) (base : List Int) (k : Nat) : Int × List Int := ((cs.zip ws).take k).foldl stStep (n, base)
def stateS (cs ws : List Int) (n : Int) (base : List Int) : List Int := if smallB cs ws then (stTo cs ws n base cs.length).2 else base
theorem stTo_succ {cs ws : List Int} (n : Int) (base : List Int) {k : Nat} (h : cs.length = ws.length) (hk : k < cs.length) : stTo cs ws n base (k + 1) = stStep (stTo cs ws n base k) (cs[k], ws[k]'(by omega)) := by
  unfold stTo
  have hz : k < (cs.zip ws).length := by simp; omega
  rw [List.take_succ_eq_append_getElem hz, List.foldl_append]
  simp
theorem OwnInts.open {w : World} {base : Nat} {v : Value} {l : List Int} (h : OwnInts w base v l) (hl : 0 < l.length) : ∃ g cap, v = .slice (some ⟨g, 0, none⟩) l.length cap ∧ base ≤ g ∧ ∀ i (hi : i < l.length), w.cell? ⟨g, i, none⟩ = some (.int .i64 l[i]) ∧ w.frozen? ⟨g, i, none⟩ = false := by
  have hI := h.ints
  rcases h.2 with ⟨_, e⟩ | ⟨g, cap, cur, hv, hg, hh, _⟩
  · omega
  · refine ⟨g, cap, hv, hg, fun i hi => ⟨?_, frozen_of_row w g i _ _ hh⟩⟩
    rw [hv] at hI
    rcases hI with ⟨_, e⟩ | ⟨b, o, c, e, _, hc⟩
    · rw [e] at hl; simp at hl
    · cases e; have := hc i hi; rw [Nat.mul_one, Nat.zero_add] at this; exact this
theorem OwnInts.set {w : World} {base g cap : Nat} {l : List Int} (h : OwnInts w base (.slice (some ⟨g, 0, none⟩) l.length cap) l) {i : Nat} (x : Int) : OwnInts (w.setCell ⟨g, i, none⟩ (.int .i64 x)) base (.slice (some ⟨g, 0, none⟩) l.length cap) (l.set i x) := by
  obtain ⟨h1, h2⟩ := h
  refine ⟨by simp, ?_⟩
  rcases h2 with ⟨e, _⟩ | ⟨g', cap', cur, hv, hg, hh, hn, hc, hs, ht⟩
  · cases e
  · cases hv
    refine .inr ⟨g, cap, cur.setIfInBounds i (.int .i64 x), by rw [List.length_set], hg, heap_setCell_same _ _ _ _ _ _ hh, by rw [List.length_set]; exact hn, hc, by simpa using hs, ?_⟩
    simp only [Nat.mul_one, List.length_set] at ht ⊢
    rw [Array.toList_setIfInBounds, List.take_set, ht, List.map_set]

theorem mask_walk (m wd : Int) (h3 : 1 ≤ wd) (h4 : wd ≤ 8) : bits .and .i64 m (wrap64 (wrap64 (2 ^ wd.toNat) - 1)) = m % pw wd := by
  rw [pow_wrap (by omega) (by omega)]
  have hc := pw_cases h3 h4
  have : wrap64 (pw wd - 1) = pw wd - 1 := by unfold wrap64; omega
  rw [this, mask_eq m wd h3 h4]
theorem pw_pow (wd : Int) : (2 : Int) ^ wd.toNat = pw wd := rfl

set_option maxRecDepth 100000 in
set_option maxHeartbeats 2000000 in
theorem State_any (cs ws is : List Int) (n : Int) (base : List Int) (va vb : Value) (w : World) (ha : SetV w va cs ws is) (hb : Ints w vb base) (hl : base.length ≤ 1000000) : Calls Tryd.prog 24 #[va, .int .i64 n, vb] w fun r w' => ∃ v, r = .returned v ∧ OwnInts w' w.heap.size v (stateS cs ws n base) ∧ Ext w w' := by
  obtain ⟨ca, cc, wa, wcp, ia, ic, rfl, a1, a2, a3⟩ := ha.shape
  obtain ⟨W, hW⟩ : ∃ W, W = w.alloc (.cells #[.slice ca cs.length cc, .slice wa ws.length wcp, .slice ia is.length ic] 31) := ⟨_, rfl⟩
  have hx : Ext w W := by rw [hW]; exact (Ext.refl w).alloc _
  have hB1 : W.heap[w.heap.size]? = some (.cells #[.slice ca cs.length cc, .slice wa ws.length wcp, .slice ia is.length ic] 31 (0, 0)) := by rw [hW]; exact heap_new _ _
  obtain ⟨p0, p1, p2⟩ := cells3 hB1
  have hlc := SliceAt.len_le a1
  have P0 := Lib.hid p0; have P1 := Lib.hid p1
  have HA := Lib.hid (ha.ext hx); have A1 := Lib.hid (a1.ext hx); have A2 := Lib.hid (a2.ext hx); have HBb := Lib.hid (hb.ext hx); have HX := Lib.hid hx; have HW := Lib.hid hW; have HL := Lib.hid hl
  obtain ⟨ba, bc, rfl⟩ := hb.shape
  clear ha a1 a2 a3 hx hW hB1 hb hl
  go_enter Tryd.func24, Tryd.ntmps24
  go_upto_region 1 with fail
  rw [← HW.out]
  go_wp2_with fail
  refine (Clone_any base _ _ HBb.out (by have := HL.out; omega)).mono ?_
  rintro r w1 ⟨v, rfl, hv, x1⟩
  obtain ⟨sa, sc, rfl⟩ := hv.ints.shape
  have HV := Lib.hid hv; have X1 := Lib.hid x1
  have p01 := x1.cell p0; have p11 := x1.cell p1; have p21 := x1.cell p2
  clear hv x1 p0 p1 p2
  go_wp2_with fail
  refine (small_any cs ws is _ _ (HA.out.ext X1.out)).mono ?_
  rintro r w2 ⟨rfl, x2⟩
  have X2 := Lib.hid (X1.out.trans x2); have V2 := Lib.hid (HV.out.kept x2)
  have p02 := x2.cell p01; have p12 := x2.cell p11
  clear x2 p01 p11 p21
  cases hs : smallB cs ws with
  | false =>
    have HF : Hid (stateS cs ws n base = base) := by unfold Hid stateS; rw [hs]; rfl
    clear hs
    go_wp2_with fail
    go_ret
    exact ⟨_, rfl, by rw [HF.out]; exact V2.out.mono (HX.out.size), HX.out.trans X2.out⟩
  | true =>
    have HF : Hid (stateS cs ws n base = (stTo cs ws n base cs.length).2) := by unfold Hid stateS; rw [hs]; rfl
    obtain ⟨hsh, hwd, _, _⟩ := small_sum hs
    obtain ⟨heq, _, hin⟩ := shape_iff.1 hsh
    have HEQ := Lib.hid heq; have HIN := Lib.hid hin
    clear hs hsh hwd heq hin
    go_wp2_with fail
    go_loopw [1, 20] (fun x i wr => ∃ k : Nat, k ≤ cs.length ∧ i = .int .i64 k ∧ x = .int .i64 (stTo cs ws n base k).1 ∧ Ext W wr ∧ (stTo cs ws n base k).2.length = base.length ∧ OwnInts wr W.heap.size (.slice sa base.length sc) (stTo cs ws n base k).2) (fun _ i _ => cs.length - (intOf i).toNat)
    case atStart => exact ⟨0, Nat.zero_le _, rfl, rfl, X2.out, rfl, V2.out⟩
    case round =>
      obtain ⟨k, hk, rfl, rfl, hX, hbl, hO⟩ := hrel
      have HXr := Lib.hid hX; have HO := Lib.hid hO; have HBL := Lib.hid hbl; clear hX hO hbl
      by_cases hlt : k < cs.length
      · have hlt2 : k < ws.length := by have := HEQ.out; omega
        rcases A1.out with ⟨_, e⟩ | ⟨b, o, cap', e, _, hcl⟩
        · rw [e] at hlt; simp at hlt
        cases e
        rcases A2.out with ⟨_, e⟩ | ⟨b2, o2, cap2, e, _, hcl2⟩
        · rw [e] at hlt2; simp at hlt2
        cases e
        have g0 : wr.cell? ⟨b, o + k, none⟩ = some (.int .i64 cs[k]) := by have := HXr.out.cell (hcl k hlt); rw [Nat.mul_one] at this; exact this
        have g1 : wr.cell? ⟨b2, o2 + k, none⟩ = some (.int .i64 ws[k]) := by have := HXr.out.cell (hcl2 k hlt2); rw [Nat.mul_one] at this; exact this
        clear hcl hcl2
        have hbd := HIN.out k hlt
        rw [show cs.getD k 0 = cs[k] by simp [List.getD, hlt], show ws.getD k 0 = ws[k] by simp [List.getD, hlt2]] at hbd
        have HS := Lib.hid (stTo_succ n base HEQ.out hlt)
        have hst1 : (stStep (stTo cs ws n base k) (cs[k], ws[k])).1 = (stTo cs ws n base k).1 / pw ws[k] := rfl
        have hst2 : (stStep (stTo cs ws n base k) (cs[k], ws[k])).2 = if cs[k] < ((stTo cs ws n base k).2.length : Int) then (stTo cs ws n base k).2.set cs[k].toNat ((stTo cs ws n base k).1 % pw ws[k]) else (stTo cs ws n base k).2 := rfl
        have q0 := HXr.out.cell P0.out; have q1 := HXr.out.cell P1.out
        rw [← HS.out] at hst1 hst2
        have HST1 := Lib.hid hst1; have HST2 := Lib.hid hst2
        clear hst1 hst2 HS p02 p12
        generalize (stTo cs ws n base k).1 = m at *
        generalize (stTo cs ws n base k).2 = st at *
        generalize cs[k] = c at *
        generalize ws[k] = wd at *
        obtain ⟨h1, h2, h3, h4⟩ := hbd
        obtain ⟨cN, rfl⟩ := Int.eq_ofNat_of_zero_le h1
        have i0 : (0 : Int) ≤ (k : Int) := by omega
        by_cases hcl : cN < base.length
        · have hcs : cN < st.length := by rw [HBL.out]; exact hcl
          obtain ⟨g, cap, hve, hg, hcell⟩ := HO.out.open (by omega)
          rw [HBL.out] at hve
          cases hve
          have d0 := (hcell cN hcs).1
          have d1 := (hcell cN hcs).2
          have hO' := HO.out
          rw [← HBL.out] at hO'
          have hown := hO'.set (i := cN) (m % pw wd)
          rw [HBL.out] at hown
          have HOWN := Lib.hid hown
          have HE2 := HST2.out
          rw [if_pos (by omega)] at HE2
          have HST3 := Lib.hid HE2
          have XS := Lib.hid (HXr.out.setCell (p := ⟨g, cN, none⟩) hg (.int .i64 (m % pw wd)))
          have HMK := Lib.hid (mask_walk m wd h3 h4)
          clear hcell hO' hown HE2
          go_wp2_with fail
          rw [HMK.out, pw_pow]
          exact ⟨⟨k + 1, by omega, by go_num, by rw [HST1.out], XS.out, by rw [HST3.out, List.length_set]; exact HBL.out, by rw [HST3.out]; exact HOWN.out⟩, by simp [intOf]; omega⟩
        · have HE2 := HST2.out
          rw [if_neg (by have := HBL.out; omega)] at HE2
          have HST3 := Lib.hid HE2
          clear HE2
          go_wp2_with fail
          rw [pw_pow]
          exact ⟨⟨k + 1, by omega, by go_num, by rw [HST1.out], HXr.out, by rw [HST3.out]; exact HBL.out, by rw [HST3.out]; exact HO.out⟩, by simp [intOf]; omega⟩
      · obtain rfl : k = cs.length := by omega
        rw [← HF.out] at HO
        go_wp2_with fail
        go_ret
        exact ⟨_, rfl, HO.out.mono HX.out.size, HX.out.trans HXr.out⟩
end Go.Proofs.YtdiopiekmdfklaaDoor
namespace Go.Proofs.YtdiopiekmdfklaaDoor
open Go.RowKit

def zeros32 : List Int := List.replicate 32 0
/-- The state with a number. -/
def stN (cs ws : List Int) (n : Nat) : List Int := stateS cs ws (n : Int) zeros32
def supB (list : List Int) (e : E) : Bool := e.supNow.all fun c => list.contains c
def ofErr (cells : List CellD) (list : List Int) (e : E) : Int :=
  if widthsB cells list then if sumI (wOf cells list) ≤ 12 then if e.valid cells false && decide (e.wd = 1) then if supB list e then 0 else 1 else 60 else 2 else 1
def ofIn (cells : List CellD) (list : List Int) (e : E) : List Nat := (List.range (pw (sumI (wOf cells list))).toNat).filter fun n => decide (e.eval (stN list (wOf cells list) n) (stN list (wOf cells list) n) = 1)
def OfPost (cells : List CellD) (list : List Int) (e : E) (w : World) (r : Ending) (w' : World) : Prop :=
  if ofErr cells list e = 0 then SetRes 0 list (wOf cells list) (castL (ofIn cells list e)) w r w' else SetRes (ofErr cells list e) [] [] [] w r w'
theorem OfPost.bad {cells : List CellD} {list : List Int} {e : E} {w w' : World} {k : Int} (h : ofErr cells list e = k) (hk : k ≠ 0) (hx : Ext w w') : OfPost cells list e w (.returned (.tuple #[.agg #[.slice none 0 0, .slice none 0 0, .slice none 0 0], .int .i64 k])) w' := by
  unfold OfPost; rw [h, if_neg hk]; exact ⟨_, rfl, SetO.nil _ _, hx⟩

/-- make([]int, 32). -/
def ints32 : Array Value := (zeros32.map (Value.int .i64)).toArray
theorem made32 : madeCells (Value.int .i64 0).cells (Int.toNat 32 * 1) = ints32 := by kernel_rfl
theorem makeState32 (W : World) : (Instr.makeSlice 23 (.int .i64 32) (.int .i64 32)).run Tryd.prog W = .ok (.slice (some ⟨W.heap.size, 0, none⟩) 32 32) (W.alloc (.cells ints32 3)) := by
  obtain ⟨i, hi, hz⟩ := Option.map_eq_some_iff.1 infoInt
  simp only [Prod.mk.injEq] at hz
  have hr := run_make (P := Tryd.prog) W 23 3 i (.int .i64 0) Tryd.underlying23 hi hz.1 .i64 .i64 32 32 (by omega) (by omega) (by rw [hz.2.2]; decide) (by decide)
  rw [hr, hz.2.1, made32]; rfl
theorem ints32_at {w : World} {b : Nat} (h : w.heap[b]? = some (.cells ints32 3 (0, 0))) : Ints w (.slice (some ⟨b, 0, none⟩) 32 32) zeros32 := by
  refine .inr ⟨b, 0, 32, rfl, by simp [zeros32], fun i hi => ?_⟩
  unfold IntAt
  rw [cell_of_row _ _ _ _ _ _ h, Nat.mul_one, Nat.zero_add]
  unfold ints32
  rw [List.getElem?_toArray, List.getElem?_map, List.getElem?_eq_getElem hi]; rfl
/-- The second loop's state. -/
structure OfI (w5 : World) (x : Array Value) (M : List Nat) (V : World) : Prop where
  ext : Ext w5 V
  b0 : V.heap[w5.heap.size]? = some (.cells x 31 (0, 0))
  b1 : V.heap[w5.heap.size + 1]? = some (.cells ints32 3 (0, 0))
  m : WordsAt 71 V (w5.heap.size + 2) M
theorem OfI.kept {w5 V V' : World} {x : Array Value} {M : List Nat} (h : OfI w5 x M V) (hx : Ext V V') : OfI w5 x M V' :=
  ⟨h.ext.trans hx, (hx.block _ (lt_heap h.b0)).trans h.b0, (hx.block _ (lt_heap h.b1)).trans h.b1, h.m.ext hx⟩
theorem OfI.step {w5 V : World} {x : Array Value} {M : List Nat} (h : OfI w5 x M V) {n : Nat} (hn : n < 4096) (k : Nat) : OfI w5 x (orAt M (n / 64) (1 <<< (n % 64))) ((V.setCell ⟨w5.heap.size + 2, n / 64, none⟩ (.int .u64 (rowM M (n / 64) ||| 1 <<< (n % 64) : Nat))).drewN k) := by
  have ho : ∀ j, j ≠ w5.heap.size + 2 → (V.setCell ⟨w5.heap.size + 2, n / 64, none⟩ (.int .u64 (rowM M (n / 64) ||| 1 <<< (n % 64) : Nat))).heap[j]? = V.heap[j]? := fun j hj => heap_setCell_other _ _ _ _ hj
  exact ⟨(h.ext.setCell (p := ⟨w5.heap.size + 2, n / 64, none⟩) (by simp) _).drewN k, (ho _ (by omega)).trans h.b0, (ho _ (by omega)).trans h.b1, (h.m.set (by omega) (Nat.or_lt_two_pow (n := 64) (h.m.lt _) (shl_lt (by omega)))).drewN k⟩
def ofTo (cells : List CellD) (list : List Int) (e : E) (k : Nat) : List Nat := (List.range k).filter fun n => decide (e.eval (stN list (wOf cells list) n) (stN list (wOf cells list) n) = 1)
theorem ofTo_succ (cells : List CellD) (list : List Int) (e : E) (k : Nat) : ofTo cells list e (k + 1) = if e.eval (stN list (wOf cells list) k) (stN list (wOf cells list) k) = 1 then ofTo cells list e k ++ [k] else ofTo cells list e k := by
  unfold ofTo
  rw [List.range_succ, List.filter_append]
  by_cases h : e.eval (stN list (wOf cells list) k) (stN list (wOf cells list) k) = 1 <;> simp [h]
theorem ofTo_lt {cells : List CellD} {list : List Int} {e : E} {k : Nat} (hk : k ≤ 4096) : ∀ x ∈ ofTo cells list e k, x < 4096 := fun x hx => by
  have := List.mem_range.1 (List.mem_filter.1 hx).1; omega
theorem mapL_app (l : List Nat) (n : Nat) : mapL (l ++ [n]) = orAt (mapL l) (n / 64) (1 <<< (n % 64)) := by unfold mapL; rw [List.foldl_append]; rfl
theorem pw12_nat {s : Int} (h0 : 0 ≤ s) (h : s ≤ 12) : ∃ n : Nat, pw s = (n : Int) ∧ n ≤ 4096 := by
  refine ⟨(pw s).toNat, ?_, ?_⟩
  · have : 0 ≤ pw s := by unfold pw; exact Int.pow_nonneg (by decide)
    omega
  · have h1 := pw_mono h0 h
    have e : pw 12 = 4096 := by decide
    omega
/-- slices.Contains. -/
theorem Contains_any (l : List Int) (x : Int) (v : Value) (w : World) (hl : Ints w v l) : Calls Tryd.prog 44 #[v, .int .i64 x] w fun r w' => r = .returned (.bool (l.contains x)) ∧ w' = w := by
  rcases hl with ⟨⟨a, c, rfl⟩, rfl⟩ | ⟨b, o, cap, rfl, hm, hc⟩
  · exact Tryd.slices_Contains_int_empty a c x w
  · have := Tryd.slices_Contains_int b o l.length cap l x w (Nat.le_refl _) hm fun j hj => by
      have := hc j hj; rw [Nat.mul_one] at this; rw [this]; simp [List.getD, hj]
    rw [List.take_length] at this
    exact this

set_option maxRecDepth 100000 in
set_option maxHeartbeats 4000000 in
theorem Of_any (cells : List CellD) (list : List Int) (e : E) (vc vl ve : Value) (w : World) (hc : Cells w vc cells) (hl : Ints w vl list) (he : EVal w ve e) (hb : list.length ≤ 1000000) (hM : Masks w) (hT : DeB w) : Calls Tryd.prog 11 #[vc, vl, ve] w (OfPost cells list e w) := by
  obtain ⟨ca, cc, rfl⟩ := hc.shape
  obtain ⟨la, lc, rfl⟩ := hl.shape
  obtain ⟨ek, rfl, hek⟩ := he
  obtain ⟨ka, kc, rfl⟩ := SliceAt.shape hek
  obtain ⟨W, hW⟩ : ∃ W, Boxes w W (.cells #[.int .i64 e.op, .int .i64 e.wd, .int .i64 e.n, .slice ka e.kids.length kc] 26) (.cells #[.slice none 0 0, .slice none 0 0, .slice none 0 0] 31) := ⟨_, Boxes.mk' _ _ _⟩
  have hx := hW.ext
  have hE : EVal W (.agg #[.int .i64 e.op, .int .i64 e.wd, .int .i64 e.n, .slice ka e.kids.length kc]) e := ⟨_, rfl, hek.ext hx⟩
  obtain ⟨p0, p1, p2, p3⟩ : W.cell? ⟨w.heap.size, 0, none⟩ = some (.int .i64 e.op) ∧ W.cell? ⟨w.heap.size, 1, none⟩ = some (.int .i64 e.wd) ∧ W.cell? ⟨w.heap.size, 2, none⟩ = some (.int .i64 e.n) ∧ W.cell? ⟨w.heap.size, 3, none⟩ = some (.slice ka e.kids.length kc) := by
    simp [World.cell?, hW.b0]
  have HC := Lib.hid (hc.ext hx); have HL := Lib.hid (hl.ext hx); have HE0 := Lib.hid hE; have HM := Lib.hid (hM.ext hx); have HT := Lib.hid (hT.ext hx); have HW := Lib.hid hW
  have P0 := Lib.hid p0; have P1 := Lib.hid p1; have P2 := Lib.hid p2; have P3 := Lib.hid p3
  clear hc hl hek hE hM hT hW hx p0 p1 p2 p3
  go_enter Tryd.func11, Tryd.ntmps11
  go_upto_region 1 with fail
  rw [← HW.out.eq]
  go_wp2_with fail
  refine (widthsOf_any cells list _ _ _ HC.out HL.out hb).mono ?_
  rintro r w1 ⟨v, rfl, ⟨va, vn, vcp, rfl⟩, hv, x1⟩
  have X1 := Lib.hid x1
  cases hwb : widthsB cells list with
  | false =>
    have HWB := Lib.hid hwb
    clear hwb hv x1
    have HN : Hid (ofErr cells list e = 1) := by unfold Hid ofErr; simp [HWB.out]
    have hR := (X1.out).block (w.heap.size + 1) (by have := HW.out.size; omega)
    rw [HW.out.b1] at hR
    obtain ⟨z0, z1, z2, f0, f1, f2⟩ := block3 hR
    have HR := Lib.hid (put3_new (x := .slice none 0 0) (y := .slice none 0 0) (z := .slice none 0 0) hR)
    have HE := Lib.hid ((HW.out.ext.trans (X1.out)).put3 (b := w.heap.size + 1) (by omega) (.slice none 0 0) (.slice none 0 0) (.slice none 0 0))
    clear hR
    go_wp2_with fail
    exact bodyPost_ret (v := .tuple #[.agg #[.slice none 0 0, .slice none 0 0, .slice none 0 0], .int .i64 1]) (results_row_tmp Tryd.results11 _ _ (w.heap.size + 1) 31 _ (0, 0) _ rfl HR.out Tryd.underlying31 rfl sizeSet) rfl (OfPost.bad HN.out (by decide) HE.out)
  | true =>
    have HWB := Lib.hid hwb; have HV := Lib.hid (hv hwb)
    have hsh : shapeB list (wOf cells list) = true := by
      unfold widthsB at hwb
      rw [Bool.and_eq_true] at hwb
      exact hwb.2
    have HSH := Lib.hid hsh
    clear hwb hv x1 hsh
    go_wp2_with fail
    refine (sum_any (wOf cells list) _ _ HV.out.ints (shape_widths HSH.out)).mono ?_
    rintro r w2 ⟨rfl, rfl⟩
    by_cases h12 : sumI (wOf cells list) ≤ 12
    · have H12 := Lib.hid h12
      have hs0 : 0 ≤ sumI (wOf cells list) := by
        have := (sum_bound (shape_widths HSH.out).2 (wOf cells list).length (Nat.le_refl _)).1
        rw [List.take_length] at this; exact this
      generalize hsm : sumI (wOf cells list) = sm at *
      have HSM := Lib.hid hsm
      clear hsm
      have q0 := X1.out.cell P0.out; have q1 := X1.out.cell P1.out; have q2 := X1.out.cell P2.out; have q3 := X1.out.cell P3.out
      go_wp2_with fail
      refine (Valid_any e _ _ cells false _ (HE0.out.ext X1.out) (HC.out.ext X1.out) (HM.out.ext X1.out)).mono ?_
      rintro r w3 ⟨rfl, x3⟩
      have X3 := Lib.hid (X1.out.trans x3); have V3 := Lib.hid (HV.out.kept x3)
      have r0 := x3.cell q0; have r1 := x3.cell q1; have r2 := x3.cell q2; have r3 := x3.cell q3
      clear x3 q0 q1 q2 q3
      cases hva : e.valid cells false with
      | false =>
        have HVA := Lib.hid hva
        clear hva
        have HN : Hid (ofErr cells list e = 60) := by unfold Hid ofErr; simp [HWB.out, HSM.out, H12.out, HVA.out]
        have hR := (X3.out).block (w.heap.size + 1) (by have := HW.out.size; omega)
        rw [HW.out.b1] at hR
        obtain ⟨z0, z1, z2, f0, f1, f2⟩ := block3 hR
        have HR := Lib.hid (put3_new (x := .slice none 0 0) (y := .slice none 0 0) (z := .slice none 0 0) hR)
        have HE := Lib.hid ((HW.out.ext.trans (X3.out)).put3 (b := w.heap.size + 1) (by omega) (.slice none 0 0) (.slice none 0 0) (.slice none 0 0))
        clear hR
        go_wp2_with fail
        exact bodyPost_ret (v := .tuple #[.agg #[.slice none 0 0, .slice none 0 0, .slice none 0 0], .int .i64 60]) (results_row_tmp Tryd.results11 _ _ (w.heap.size + 1) 31 _ (0, 0) _ rfl HR.out Tryd.underlying31 rfl sizeSet) rfl (OfPost.bad HN.out (by decide) HE.out)
      | true =>
        have HVA := Lib.hid hva
        clear hva
        by_cases hw1 : e.wd = 1
        · have hwt : (e.wd != 1) = false := by simp [hw1]
          have HW1 := Lib.hid hw1
          clear hw1
          go_wp2_with fail
          refine (Support_any e _ _ (HE0.out.ext X3.out) (HM.out.ext X3.out)).mono ?_
          rintro r w4 ⟨u1, u2, rfl, i1, i2, x4⟩
          obtain ⟨sa, sc, rfl⟩ := i1.shape
          obtain ⟨ta, tc, rfl⟩ := i2.shape
          have hln := SliceAt.len_le i2
          have X4 := Lib.hid (X3.out.trans x4); have V4 := Lib.hid (V3.out.kept x4); have I2 := Lib.hid i2
          clear x4 i1 i2 r0 r1 r2 r3 hwt
          generalize hsup : e.supNow = sup at *
          have HSUP := Lib.hid hsup
          clear hsup
          go_wp2_with fail
          go_loop [49] (fun i => ∃ k : Nat, k ≤ sup.length ∧ i = .int .i64 k ∧ ∀ (j : Nat) (h : j < sup.length), j < k → list.contains sup[j] = true) (fun i => sup.length - (intOf i).toNat)
          case atStart => exact ⟨0, Nat.zero_le _, rfl, fun j _ h => absurd h (by omega)⟩
          case round =>
            obtain ⟨k, hk, rfl, hr⟩ := hrel
            have HRR := Lib.hid hr; clear hr
            by_cases hlt : k < sup.length
            · rcases I2.out with ⟨_, e⟩ | ⟨b, o, cap', e, _, hc⟩
              · rw [e] at hlt; simp at hlt
              cases e
              have g : w4.cell? ⟨b, o + k, none⟩ = some (.int .i64 sup[k]) := by have := hc k hlt; rw [Nat.mul_one] at this; exact this
              clear hc
              go_wp2_with fail
              refine (Contains_any list sup[k] _ _ (HL.out.ext X4.out)).mono ?_
              rintro r w5 ⟨rfl, rfl⟩
              cases hcn : list.contains sup[k] with
              | false =>
                have HALL : Hid ((sup.all fun c => list.contains c) = false) := by
                  unfold Hid
                  rw [Bool.eq_false_iff]
                  intro h
                  rw [List.all_eq_true] at h
                  have := h _ (List.getElem_mem hlt)
                  rw [hcn] at this; cases this
                have HALL2 : Hid (supB list e = false) := by unfold Hid supB; rw [HSUP.out]; exact HALL.out
                clear hcn
                have HN : Hid (ofErr cells list e = 1) := by unfold Hid ofErr; simp [HWB.out, HSM.out, H12.out, HVA.out, HW1.out, HALL2.out]
                have hR := (X4.out).block (w.heap.size + 1) (by have := HW.out.size; omega)
                rw [HW.out.b1] at hR
                obtain ⟨z0, z1, z2, f0, f1, f2⟩ := block3 hR
                have HR := Lib.hid (put3_new (x := .slice none 0 0) (y := .slice none 0 0) (z := .slice none 0 0) hR)
                have HE := Lib.hid ((HW.out.ext.trans (X4.out)).put3 (b := w.heap.size + 1) (by omega) (.slice none 0 0) (.slice none 0 0) (.slice none 0 0))
                clear hR
                go_wp2_with fail
                exact bodyPost_ret (v := .tuple #[.agg #[.slice none 0 0, .slice none 0 0, .slice none 0 0], .int .i64 1]) (results_row_tmp Tryd.results11 _ _ (w.heap.size + 1) 31 _ (0, 0) _ rfl HR.out Tryd.underlying31 rfl sizeSet) rfl (OfPost.bad HN.out (by decide) HE.out)
              | true =>
                have HCN := Lib.hid hcn
                clear hcn
                go_wp2_with fail
                refine ⟨⟨k + 1, by omega, by go_num, fun j h hj => ?_⟩, by simp [intOf]; omega⟩
                by_cases c : j = k
                · subst c; exact HCN.out
                · exact HRR.out j h (by omega)
            · have HALL : Hid (supB list e = true) := by
                unfold Hid supB
                rw [HSUP.out, List.all_eq_true]
                intro x hx
                obtain ⟨j, hj, rfl⟩ := List.getElem_of_mem hx
                exact HRR.out j hj (by omega)
              have HN : Hid (ofErr cells list e = 0) := by unfold Hid ofErr; simp [HWB.out, HSM.out, H12.out, HVA.out, HW1.out, HALL.out]
              clear HRR HALL
              have hlw : (wOf cells list).length ≤ 1000000 := by rw [wOf_len]; exact hb
              go_wp2_with fail
              refine (set_any list (wOf cells list) [] _ _ _ _ (HL.out.ext X4.out) V4.out.ints (.inl ⟨⟨_, _, rfl⟩, rfl⟩) (by omega) (by omega)).mono ?_
              rintro r w5 ⟨vc5, vw5, rfl, oc, ow, _, x5⟩
              obtain ⟨c5a, c5c, rfl⟩ := oc.ints.shape
              obtain ⟨w5a, w5c, rfl⟩ := ow.ints.shape
              have X5 := Lib.hid (X4.out.trans x5); have OC := Lib.hid oc; have OW := Lib.hid ow
              have hz5 : w4.heap.size ≤ w5.heap.size := x5.size
              have Y5 := Lib.hid x5
              clear x5 oc ow
              have hmk := makeState32
              go_upto_region 18 with fail
              rw [← words_zero]
              obtain ⟨W6, hW6⟩ : ∃ W6, Boxes3 w5 W6 (.cells #[.slice c5a list.length c5c, .slice w5a (wOf cells list).length w5c, .slice none 0 0] 31) (.cells ints32 3) (.cells (wordsV zeroM) 71) := ⟨_, Boxes3.mk' _ _ _ _⟩
              rw [← hW6.eq]
              have I6 : Hid (OfI w5 #[.slice c5a list.length c5c, .slice w5a (wOf cells list).length w5c, .slice none 0 0] (mapL (ofTo cells list e 0)) W6) := ⟨hW6.ext, hW6.b0, hW6.b1, ⟨hW6.b2, len_zeroM, zero_lt⟩⟩
              have X6 := Lib.hid (X5.out.trans hW6.ext)
              clear hW6 hmk
              have HPW := Lib.hid (pow_wrap hs0 H12.out)
              obtain ⟨n, hn, hn4⟩ := pw12_nat hs0 H12.out
              have HN2 := Lib.hid hn
              clear hn
              have hpv := Lib.hid (V4.out.ints.ext (Y5.out.trans I6.out.ext))
              go_wp2_with fail
              refine (sum_any (wOf cells list) _ _ hpv.out (shape_widths HSH.out)).mono ?_
              rintro r w6 ⟨rfl, rfl⟩
              rw [HSM.out]
              go_upto_region 19 with fail
              rw [HPW.out, HN2.out]
              clear HPW
              go_loopw [66] (fun i wr => ∃ k : Nat, k ≤ n ∧ i = .int .i64 k ∧ OfI w5 #[.slice c5a list.length c5c, .slice w5a (wOf cells list).length w5c, .slice none 0 0] (mapL (ofTo cells list e k)) wr) (fun i _ => n - (intOf i).toNat)
              case atStart => exact ⟨0, Nat.zero_le _, rfl, I6.out⟩
              case round =>
                obtain ⟨k, hk, rfl, hI⟩ := hrel
                have HI := Lib.hid hI; clear hI
                by_cases hlt : k < n
                · obtain ⟨c0, c1, c2, _, _, _⟩ := block3 HI.out.b0
                  have HSV : Hid (SetV wr (.agg #[.slice c5a list.length c5c, .slice w5a (wOf cells list).length w5c, .slice none 0 0]) list (wOf cells list) []) := ⟨_, _, _, rfl, OC.out.ints.ext HI.out.ext, OW.out.ints.ext HI.out.ext, .inl ⟨⟨_, _, rfl⟩, rfl⟩⟩
                  have HB32 := Lib.hid (ints32_at HI.out.b1)
                  go_wp2_with fail
                  refine (State_any list (wOf cells list) [] (k : Int) zeros32 _ _ _ HSV.out HB32.out (by simp [zeros32])).mono ?_
                  rintro r w7 ⟨v7, rfl, o7, x7⟩
                  obtain ⟨s7a, s7c, rfl⟩ := o7.ints.shape
                  have I7 := Lib.hid (HI.out.kept x7); have O7 := Lib.hid o7.ints
                  have q0 := (X5.out.trans I7.out.ext).cell P0.out; have q1 := (X5.out.trans I7.out.ext).cell P1.out; have q2 := (X5.out.trans I7.out.ext).cell P2.out; have q3 := (X5.out.trans I7.out.ext).cell P3.out
                  clear x7 o7 c0 c1 c2
                  go_wp2_with fail
                  refine (Eval_any e _ _ _ (stN list (wOf cells list) k) (stN list (wOf cells list) k) _ (HE0.out.ext (X5.out.trans I7.out.ext)) O7.out O7.out (HM.out.ext (X5.out.trans I7.out.ext))).mono ?_
                  rintro r w8 ⟨rfl, x8⟩
                  have I8 := Lib.hid (I7.out.kept x8)
                  have HSC := Lib.hid (ofTo_succ cells list e k)
                  clear x8 q0 q1 q2 q3
                  generalize e.eval (stN list (wOf cells list) k) (stN list (wOf cells list) k) = y at *
                  by_cases hy : y = 1
                  · subst hy
                    have HS1 : Hid (mapL (ofTo cells list e (k + 1)) = orAt (mapL (ofTo cells list e k)) (k / 64) (1 <<< (k % 64))) := by unfold Hid; rw [HSC.out, if_pos rfl, mapL_app]
                    have hk4 : k < 4096 := by omega
                    go_wp2_with fail
                    refine (add_any k _ _ _ hk4 I8.out.m).mono ?_
                    rintro r w9 ⟨rfl, q, hq⟩
                    have I9 := I8.out.step hk4 q
                    rw [← hq, ← HS1.out] at I9
                    have J9 := Lib.hid I9
                    clear I9 hq
                    go_wp2_with fail
                    exact ⟨⟨k + 1, by omega, by go_num, J9.out⟩, by simp [intOf]; omega⟩
                  · have hyf : (y == 1) = false := by simp [hy]
                    have HS1 : Hid (ofTo cells list e (k + 1) = ofTo cells list e k) := by unfold Hid; rw [HSC.out, if_neg hy]
                    clear hy HSC
                    go_wp2_with fail
                    exact ⟨⟨k + 1, by omega, by go_num, by rw [HS1.out]; exact I8.out⟩, by simp [intOf]; omega⟩
                · obtain rfl : k = n := by omega
                  have HIE : Hid (castL (listM (mapL (ofTo cells list e k))) = castL (ofIn cells list e)) := by
                    unfold Hid
                    have hlm := list_map (l := ofTo cells list e k) (List.Pairwise.filter _ List.pairwise_lt_range) (ofTo_lt hn4)
                    rw [hlm]
                    unfold ofIn ofTo
                    rw [HSM.out, HN2.out]; rfl
                  go_wp2_with fail
                  refine (list_any _ _ _ HI.out.m (HT.out.ext (X5.out.trans HI.out.ext))).mono ?_
                  rintro r w9 ⟨v9, rfl, o9, x9⟩
                  rw [HIE.out] at o9
                  generalize hio : castL (ofIn cells list e) = I at *
                  have HIO := Lib.hid hio
                  clear hio
                  obtain ⟨s9a, s9c, rfl⟩ := o9.ints.shape
                  have I9 := Lib.hid (HI.out.kept x9); have O9 := Lib.hid o9
                  have hzr : w5.heap.size + 2 < wr.heap.size := HI.out.m.lt_size
                  obtain ⟨c0, c1, c2, f0, f1, f2⟩ := block3 I9.out.b0
                  have hS2 := heap_setCell_same w9 w5.heap.size 2 _ _ (.slice s9a I.length s9c) I9.out.b0
                  have hoth : ∀ j, j ≠ w5.heap.size → (w9.setCell ⟨w5.heap.size, 2, none⟩ (.slice s9a I.length s9c)).heap[j]? = w9.heap[j]? := fun j hj => heap_setCell_other _ _ _ _ hj
                  have hxS : Ext w (w9.setCell ⟨w5.heap.size, 2, none⟩ (.slice s9a I.length s9c)) := (HW.out.ext.trans (X5.out.trans I9.out.ext)).setCell (p := ⟨w5.heap.size, 2, none⟩) (by have := X5.out.size; have := HW.out.size; simp; omega) _
                  have hRes : (w9.setCell ⟨w5.heap.size, 2, none⟩ (.slice s9a I.length s9c)).heap[w.heap.size + 1]? = some (.cells #[.slice none 0 0, .slice none 0 0, .slice none 0 0] 31 (0, 0)) := by
                    have h1 := X5.out.size; have h2 := HW.out.size
                    rw [hoth _ (by omega), (X5.out.trans I9.out.ext).block _ (by omega)]; exact HW.out.b1
                  have hoc : OwnInts (w9.setCell ⟨w5.heap.size, 2, none⟩ (.slice s9a I.length s9c)) w4.heap.size (.slice c5a list.length c5c) list := by
                    obtain ⟨h1, h2⟩ := OC.out.kept I9.out.ext
                    refine ⟨h1, ?_⟩
                    rcases h2 with h2 | ⟨g, cap, cur, hv, hg, hh, r⟩
                    · exact .inl h2
                    · have := own_lt OC.out g (by rw [hv]; rfl)
                      exact .inr ⟨g, cap, cur, hv, hg, (hoth g (by omega)).trans hh, r⟩
                  have how : OwnInts (w9.setCell ⟨w5.heap.size, 2, none⟩ (.slice s9a I.length s9c)) w4.heap.size (.slice w5a (wOf cells list).length w5c) (wOf cells list) := by
                    obtain ⟨h1, h2⟩ := OW.out.kept I9.out.ext
                    refine ⟨h1, ?_⟩
                    rcases h2 with h2 | ⟨g, cap, cur, hv, hg, hh, r⟩
                    · exact .inl h2
                    · have := own_lt OW.out g (by rw [hv]; rfl)
                      exact .inr ⟨g, cap, cur, hv, hg, (hoth g (by omega)).trans hh, r⟩
                  have hoi : OwnInts (w9.setCell ⟨w5.heap.size, 2, none⟩ (.slice s9a I.length s9c)) wr.heap.size (.slice s9a I.length s9c) I := by
                    obtain ⟨h1, h2⟩ := O9.out
                    refine ⟨h1, ?_⟩
                    rcases h2 with h2 | ⟨g, cap, cur, hv, hg, hh, r⟩
                    · exact .inl h2
                    · exact .inr ⟨g, cap, cur, hv, hg, (hoth g (by omega)).trans hh, r⟩
                  have HS2 := Lib.hid hS2; have HXS := Lib.hid hxS; have HRES := Lib.hid hRes
                  have hw4 : w.heap.size + 2 ≤ w4.heap.size := by have := X4.out.size; have := HW.out.size; omega
                  have HFIN : Hid (OfPost cells list e w (.returned (.tuple #[.agg #[.slice c5a list.length c5c, .slice w5a (wOf cells list).length w5c, .slice s9a I.length s9c], .int .i64 0])) (put3 (w9.setCell ⟨w5.heap.size, 2, none⟩ (.slice s9a I.length s9c)) (w.heap.size + 1) (.slice c5a list.length c5c) (.slice w5a (wOf cells list).length w5c) (.slice s9a I.length s9c))) := by
                    unfold Hid OfPost
                    rw [HN.out, if_pos rfl, HIO.out]
                    exact ⟨_, rfl, ⟨_, _, _, rfl, (hoc.put3 (by omega) _ _ _).mono (by omega), (how.put3 (by omega) _ _ _).mono (by omega), (hoi.put3 (by omega) _ _ _).mono (by omega)⟩, hxS.put3 (by omega) _ _ _⟩
                  obtain ⟨z0, z1, z2, e0, e1, e2⟩ := block3 hRes
                  obtain ⟨d0, d1, d2, _, _, _⟩ := block3 hS2
                  clear hoc how hoi hoth hS2 hxS hRes x9 o9
                  go_wp2_with fail
                  have HR9 := put3_new (x := .slice c5a list.length c5c) (y := .slice w5a (wOf cells list).length w5c) (z := .slice s9a I.length s9c) HRES.out
                  exact bodyPost_ret (v := .tuple #[.agg #[.slice c5a list.length c5c, .slice w5a (wOf cells list).length w5c, .slice s9a I.length s9c], .int .i64 0]) (results_row_tmp Tryd.results11 _ _ (w.heap.size + 1) 31 _ (0, 0) _ rfl HR9 Tryd.underlying31 rfl sizeSet) rfl HFIN.out
        · have hwt : (e.wd != 1) = true := by simp [hw1]
          have HW1 := Lib.hid hw1
          clear hw1
          have HN : Hid (ofErr cells list e = 60) := by unfold Hid ofErr; simp [HWB.out, HSM.out, H12.out, HVA.out, HW1.out]
          have hR := (X3.out).block (w.heap.size + 1) (by have := HW.out.size; omega)
          rw [HW.out.b1] at hR
          obtain ⟨z0, z1, z2, f0, f1, f2⟩ := block3 hR
          have HR := Lib.hid (put3_new (x := .slice none 0 0) (y := .slice none 0 0) (z := .slice none 0 0) hR)
          have HE := Lib.hid ((HW.out.ext.trans (X3.out)).put3 (b := w.heap.size + 1) (by omega) (.slice none 0 0) (.slice none 0 0) (.slice none 0 0))
          clear hR
          go_wp2_with fail
          exact bodyPost_ret (v := .tuple #[.agg #[.slice none 0 0, .slice none 0 0, .slice none 0 0], .int .i64 60]) (results_row_tmp Tryd.results11 _ _ (w.heap.size + 1) 31 _ (0, 0) _ rfl HR.out Tryd.underlying31 rfl sizeSet) rfl (OfPost.bad HN.out (by decide) HE.out)
    · have H12 := Lib.hid h12
      generalize hsm : sumI (wOf cells list) = sm at *
      have HSM := Lib.hid hsm
      clear hsm
      have HN : Hid (ofErr cells list e = 2) := by unfold Hid ofErr; simp [HWB.out, HSM.out, H12.out]
      have hR := (X1.out).block (w.heap.size + 1) (by have := HW.out.size; omega)
      rw [HW.out.b1] at hR
      obtain ⟨z0, z1, z2, f0, f1, f2⟩ := block3 hR
      have HR := Lib.hid (put3_new (x := .slice none 0 0) (y := .slice none 0 0) (z := .slice none 0 0) hR)
      have HE := Lib.hid ((HW.out.ext.trans (X1.out)).put3 (b := w.heap.size + 1) (by omega) (.slice none 0 0) (.slice none 0 0) (.slice none 0 0))
      clear hR
      go_wp2_with fail
      exact bodyPost_ret (v := .tuple #[.agg #[.slice none 0 0, .slice none 0 0, .slice none 0 0], .int .i64 2]) (results_row_tmp Tryd.results11 _ _ (w.heap.size + 1) 31 _ (0, 0) _ rfl HR.out Tryd.underlying31 rfl sizeSet) rfl (OfPost.bad HN.out (by decide) HE.out)
end Go.Proofs.YtdiopiekmdfklaaDoor
