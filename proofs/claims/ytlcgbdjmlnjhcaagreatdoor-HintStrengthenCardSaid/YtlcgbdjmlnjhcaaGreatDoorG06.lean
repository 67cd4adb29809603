/-
  Two or three new blocks.
  The walks of truth, element, apply, value: what the evaluation of an expression computes.
  The walk of value: the value of a well-formed expression.
-/
import Derived.Test.YtlcgbdjmlnjhcaaGreatDoorG04
import Derived.Test.YtlcgbdjmlnjhcaaGreatDoorG00
import Derived.Test.YtlcgbdjmlnjhcaaGreatDoorRows
import Derived.Deep.QuietTactic
import Derived.BigQuiet
import Derived.Deep.Light
import Derived.Deep.RegionHeld3
namespace Go.Proofs.YtlcgbdjmlnjhcaaGreatDoor
open Go.RowKit

theorem lt_heap {w : World} {b : Nat} {o : Obj} (h : w.heap[b]? = some o) : b < w.heap.size := (Array.getElem?_eq_some_iff.1 h).1
theorem own_lt {w : World} {base : Nat} {v : Value} {l : List Int} (h : OwnInts w base v l) (k : Nat) (hk : v.ownBlock = some k) : k < w.heap.size := by
  rcases h.2 with ⟨rfl, _⟩ | ⟨g, cap, cur, rfl, hg, hh, _⟩
  · cases hk
  · cases hk; exact lt_heap hh
/-- Two boxes. -/
structure Boxes (w0 W : World) (x y : Obj) : Prop where
  eq : W = (w0.alloc x).alloc y
  ext : Ext w0 W
  size : W.heap.size = w0.heap.size + 2
  b0 : W.heap[w0.heap.size]? = some x
  b1 : W.heap[w0.heap.size + 1]? = some y
theorem Boxes.mk' (w0 : World) (x y : Obj) : Boxes w0 ((w0.alloc x).alloc y) x y :=
  ⟨rfl, ((Ext.refl w0).alloc _).alloc _, by simp, by rw [heap_alloc_old _ _ (by simp)]; exact heap_new _ _, by have := heap_new (w0.alloc x) y; rw [World.size_alloc] at this; exact this⟩
/-- Three. -/
structure Boxes3 (w0 W : World) (x y z : Obj) : Prop where
  eq : W = ((w0.alloc x).alloc y).alloc z
  ext : Ext w0 W
  size : W.heap.size = w0.heap.size + 3
  b0 : W.heap[w0.heap.size]? = some x
  b1 : W.heap[w0.heap.size + 1]? = some y
  b2 : W.heap[w0.heap.size + 2]? = some z
theorem Boxes3.mk' (w0 : World) (x y z : Obj) : Boxes3 w0 (((w0.alloc x).alloc y).alloc z) x y z :=
  ⟨rfl, (((Ext.refl w0).alloc _).alloc _).alloc _, by simp, by rw [heap_alloc_old _ _ (by simp; omega)]; exact (Boxes.mk' w0 x y).b0, by rw [heap_alloc_old _ _ (by simp)]; exact (Boxes.mk' w0 x y).b1,
    by have := heap_new ((w0.alloc x).alloc y) z; rw [World.size_alloc, World.size_alloc] at this; exact this⟩
end Go.Proofs.YtlcgbdjmlnjhcaaGreatDoor
namespace Go.Proofs.YtlcgbdjmlnjhcaaGreatDoor
open Go.RowKit

set_option maxHeartbeats 400000 in
theorem truth_any (b : Bool) (w : World) :
    Calls Tryz.prog 101 #[.bool b] w fun e w' => e = .returned (.int .i64 (if b then 1 else 0)) ∧ w = w' := by
  cases b
  all_goals
    go_enter Tryz.func101, Tryz.ntmps101
    go_wp2
    go_ret
    exact ⟨rfl, rfl⟩

set_option maxHeartbeats 400000 in
theorem element_any (v : Value) (l : List Int) (i : Int) (w : World) (hv : Ints w v l) (hi : 0 ≤ i) :
    Calls Tryz.prog 76 #[v, .int .i64 i] w fun e w' => e = .returned (.int .i64 (elemS l i)) ∧ w = w' := by
  obtain ⟨n, rfl⟩ := Int.eq_ofNat_of_zero_le hi
  rcases hv with ⟨⟨ea, ec, rfl⟩, rfl⟩ | ⟨b, o, cap, rfl, hl, hc⟩
  · go_enter Tryz.func76, Tryz.ntmps76
    go_wp2
    go_ret
    exact ⟨rfl, rfl⟩
  · by_cases h : n < l.length
    · have h0 : w.cell? ⟨b, o + n, none⟩ = some (.int .i64 l[n]) := by have := hc n h; rw [Nat.mul_one] at this; exact this
      have hs : elemS l (n : Int) = l[n] := by simp [elemS, List.getD_eq_getElem?_getD, h]
      have H := Lib.hid hs; clear hs hc
      go_enter Tryz.func76, Tryz.ntmps76
      go_wp2
      go_ret
      exact ⟨by rw [H.out]; rfl, rfl⟩
    · have hs : elemS l (n : Int) = 0 := by simp [elemS, List.getD_eq_getElem?_getD, List.getElem?_eq_none (Nat.le_of_not_lt h)]
      have H := Lib.hid hs; clear hs hc
      go_enter Tryz.func76, Tryz.ntmps76
      go_wp2
      go_ret
      exact ⟨by rw [H.out]; rfl, rfl⟩
theorem ret_int {k : IntKind} {a b : Int} (h : a = b) : Ending.returned (.int k a) = .returned (.int k b) := by rw [h]


theorem mul_small {a b : Int} (ha : 0 ≤ a) (ha' : a ≤ 255) (hb : 0 ≤ b) (hb' : b ≤ 255) : wrap64 (a * b) = a * b := by
  have h0 : 0 ≤ a * b := Int.mul_nonneg ha hb
  have h1 : a * b ≤ 255 * 255 := Int.mul_le_mul ha' hb' hb (by decide)
  exact IntWalk.wrap64_in _ ⟨by omega, by omega⟩

set_option maxHeartbeats 1000000 in
/-- apply: 'a', 'b', 'c' are the values of the kids. -/
theorem apply_any (op a b c : Int) (w : World) (h4 : 4 ≤ op) (h14 : op ≤ 14) (ha : 0 ≤ a) (ha' : a ≤ 255) (hb : 0 ≤ b) (hb' : b ≤ 255) :
    Calls Tryz.prog 77 #[.int .i64 op, .agg #[.int .i64 a, .int .i64 b, .int .i64 c]] w fun e w' => e = .returned (.int .i64 (applyS op a b c)) ∧ Ext w w' := by
  have hop : op = 4 ∨ op = 5 ∨ op = 6 ∨ op = 7 ∨ op = 8 ∨ op = 9 ∨ op = 10 ∨ op = 11 ∨ op = 12 ∨ op = 13 ∨ op = 14 := by omega
  clear h4 h14
  rcases hop with rfl | rfl | rfl | rfl | rfl | rfl | rfl | rfl | rfl | rfl | rfl
  all_goals
    go_enter Tryz.func77, Tryz.ntmps77
    go_wp2_with fail
    go_quiet (fail)
    go_wp2_with (go_at_call 101; refine (truth_any _ _).mono ?_; rintro e w' ⟨rfl, rfl⟩)
    all_goals
      go_ret
      go_light
      refine ⟨?_, ((Ext.refl _).alloc _).drewN _⟩
      first
        | exact ret_int (not_eq a ha ha')
        | exact ret_int (and_eq a b ha ha' hb hb')
        | exact ret_int (or_eq a b ha ha' hb hb')
        | exact ret_int (xor_eq a b ha ha' hb hb')
        | exact ret_int (mul_small ha ha' hb hb')
        | exact ret_int Int.sub_eq_add_neg.symm
        | exact ret_int rfl
        | (refine ret_int ?_; simp only [applyS]; simp_all; done)
        | (refine ret_int ?_; simp only [applyS]; simp_all <;> omega)
end Go.Proofs.YtlcgbdjmlnjhcaaGreatDoor
namespace Go.Proofs.YtlcgbdjmlnjhcaaGreatDoor
open Go.RowKit

/-- The table of the greatest numbers of each width, as it lies. -/
def Masks (w : World) : Prop := ∀ k : Int, 0 ≤ k → k ≤ 8 → w.cell? ⟨1, k.toNat, none⟩ = some (.int .i64 (pw k - 1))
theorem Masks.ext {w w' : World} (h : Masks w) (he : Ext w w') : Masks w' := fun k h0 h8 => he.cell (h k h0 h8)

theorem val_range (old now : List Int) (e : E) (d : Nat) (h : e.deep d = true) : 0 ≤ e.val old now ∧ e.val old now < pw e.wd := by
  obtain ⟨op, wd, n, ks⟩ := e
  simp only [E.deep, Bool.and_eq_true] at h
  obtain ⟨⟨_, hs⟩, _⟩ := h
  have hp := pw_pos (w := wd)
  simp only [E.val, E.wd_mk]
  split
  · next h1 => subst h1; have := shapedW_const hs; omega
  · split
    · exact ⟨Int.emod_nonneg _ (by omega), Int.emod_lt_of_pos _ hp⟩
    · split
      · exact ⟨Int.emod_nonneg _ (by omega), Int.emod_lt_of_pos _ hp⟩
      · exact ⟨Int.emod_nonneg _ (by omega), Int.emod_lt_of_pos _ hp⟩

theorem deep_wd {e : E} {d : Nat} (h : e.deep d = true) : 1 ≤ e.wd ∧ e.wd ≤ 8 := by
  obtain ⟨op, wd, n, ks⟩ := e
  simp only [E.deep, Bool.and_eq_true] at h
  exact shapedW_wd h.1.2

/-- A variable of type [3]int: its cells, none of them frozen. -/
def Arr3 (w : World) (B : Nat) (xs : List Int) : Prop := ∀ j : Nat, j < 3 → w.cell? ⟨B, j, none⟩ = some (.int .i64 (xs.getD j 0)) ∧ w.frozen? ⟨B, j, none⟩ = false

theorem Arr3.step {old now : List Int} {wr w1 : World} {B k : Nat} {ks : List E} (h : Arr3 wr B ((ks.take k).map (·.val old now))) (hx : Ext wr w1) (hB : B < wr.heap.size) (hlt : k < ks.length) :
    Arr3 (w1.setCell ⟨B, k, none⟩ (.int .i64 (ks[k].val old now))) B ((ks.take (k + 1)).map (·.val old now)) := by
  intro j hj
  obtain ⟨h1, h2⟩ := h j hj
  have h1' : w1.cell? ⟨B, j, none⟩ = some (.int .i64 (((ks.take k).map (·.val old now)).getD j 0)) := by rw [hx.cellEq hB]; exact h1
  have h2' : w1.frozen? ⟨B, j, none⟩ = false := by rw [hx.frozenEq hB]; exact h2
  refine ⟨?_, by rw [World.frozen?_setCell]; exact h2'⟩
  have e : (ks.take (k + 1)).map (·.val old now) = (ks.take k).map (·.val old now) ++ [ks[k].val old now] := by rw [List.take_succ_eq_append_getElem hlt, List.map_append]; rfl
  by_cases c : j = k
  · subst c
    rw [World.cell?_setCell_same _ _ _ h1', e]
    simp [List.getD_eq_getElem?_getD, Nat.min_eq_left (Nat.le_of_lt hlt)]
  · rw [World.cell?_setCell_other _ _ _ _ (by intro h; cases h; exact c rfl), h1', e]
    have hl : ((ks.take k).map (·.val old now)).length = k := by simp; omega
    congr 2
    simp only [List.getD_eq_getElem?_getD, List.getElem?_append, hl]
    split
    · rfl
    · rw [List.getElem?_eq_none (by omega), List.getElem?_eq_none (by simp; omega)]
set_option maxHeartbeats 1000000 in
theorem value_any (old now : List Int) (vo vn : Value) (N : Nat) : ∀ (e : E) (w : World) (b o d : Nat), e.size ≤ N → IsE w b o e → e.deep d = true → Ints w vo old → Ints w vn now → Masks w →
    Calls Tryz.prog 53 #[.pointer (some ⟨b, o, none⟩), vo, vn] w fun r w' => r = .returned (.int .i64 (e.val old now)) ∧ Ext w w' := by
  induction N with
  | zero => intro e w b o d h; have := e.size_pos; omega
  | succ N ih =>
    intro e w b o d hN hE hd hO hN2 hM
    obtain ⟨h0, h1, h2, kv, h3, hk⟩ := hE.cells
    obtain ⟨op, wd, n, ks⟩ := e
    simp only [E.deep, Bool.and_eq_true, decide_eq_true_eq] at hd
    obtain ⟨⟨hd1, hs⟩, hda⟩ := hd
    simp only [E.op_mk, E.wd_mk, E.n_mk, E.kids_mk] at h0 h1 h2 hk
    by_cases c1 : op = 1
    · subst c1
      go_enter Tryz.func53, Tryz.ntmps53
      go_wp2_with fail
      go_ret
      exact ⟨rfl, Ext.refl _⟩
    obtain ⟨hw1, hw8⟩ := shapedW_wd hs
    have hw0 : 0 ≤ wd := by omega
    have hw9 : wd < 9 := by omega
    have hm := hM wd (by omega) hw8
    by_cases c2 : op = 2
    · subst c2
      have hn0 : 0 ≤ n := (shapedW_cell hs (by omega)).2.1
      have hfin : (E.mk 2 wd n ks).val old now = bits .and .i64 (elemS now n) (pw wd - 1) := by rw [mask_eq _ _ hw1 hw8]; rfl
      have HF := Lib.hid hfin; clear hfin ih hN hE hda hs
      go_enter Tryz.func53, Tryz.ntmps53
      go_wp2_with fail
      go_region_held3 (fun w' => w'.cell? ⟨b, o + 1, none⟩ = some (.int .i64 wd) ∧ w'.cell? ⟨b, o + 2, none⟩ = some (.int .i64 n) ∧ w'.cell? ⟨1, wd.toNat, none⟩ = some (.int .i64 (pw wd - 1))) (first | exact ⟨h1, h2, hm⟩ | assumption) ((go_at_call 76; refine (element_any _ _ _ _ (by exact hN2) hn0).mono ?_; rintro e w' ⟨rfl, rfl⟩))
      go_wp2_with fail
      go_ret
      exact ⟨by rw [HF.out]; rfl, (Ext.refl _).drewN _⟩
    by_cases c3 : op = 3
    · subst c3
      have hn0 : 0 ≤ n := (shapedW_cell hs (by omega)).2.1
      have hfin : (E.mk 3 wd n ks).val old now = bits .and .i64 (elemS old n) (pw wd - 1) := by rw [mask_eq _ _ hw1 hw8]; rfl
      have HF := Lib.hid hfin; clear hfin ih hN hE hda hs
      go_enter Tryz.func53, Tryz.ntmps53
      go_wp2_with fail
      go_region_held3 (fun w' => w'.cell? ⟨b, o + 1, none⟩ = some (.int .i64 wd) ∧ w'.cell? ⟨b, o + 2, none⟩ = some (.int .i64 n) ∧ w'.cell? ⟨1, wd.toNat, none⟩ = some (.int .i64 (pw wd - 1))) (first | exact ⟨h1, h2, hm⟩ | assumption) ((go_at_call 76; refine (element_any _ _ _ _ (by exact hO) hn0).mono ?_; rintro e w' ⟨rfl, rfl⟩))
      go_wp2_with fail
      go_ret
      exact ⟨by rw [HF.out]; rfl, (Ext.refl _).drewN _⟩
    obtain ⟨_, ho4, ho14, hsh⟩ := shapedW_inner hs c1 c2 c3
    have hkl : 1 ≤ ks.length ∧ ks.length ≤ 3 := by
      have : (ks.map E.wd).length = ks.length := List.length_map ..
      rcases hsh with ⟨_, e⟩ | ⟨_, _, e⟩ | ⟨_, _, _, u, e⟩ | ⟨_, e⟩ <;> rw [e] at this <;> simp at this <;> omega
    rcases hk with ⟨_, e⟩ | ⟨b', o', cap, rfl, hll, hk⟩
    · subst e; simp at hkl
    obtain ⟨hk1, hk3⟩ := hkl
    have e1 : ((op : Int) == 1) = false := beq_eq_false_iff_ne.2 c1
    have e2 : ((op : Int) == 2) = false := beq_eq_false_iff_ne.2 c2
    have e3 : ((op : Int) == 3) = false := beq_eq_false_iff_ne.2 c3
    have hbs : b < w.heap.size := block_lt h0
    have hms : 1 < w.heap.size := block_lt hm
    have HK := Lib.hid hk; clear hk
    have IH := Lib.hid ih; clear ih
    clear c1 c2 c3 hsh
    go_enter Tryz.func53, Tryz.ntmps53
    go_wp2_with fail
    go_loopw [8, 54] (fun _ i wr => ∃ k : Nat, k ≤ ks.length ∧ i = .int .i64 k ∧ Ext w wr ∧ w.heap.size < wr.heap.size ∧ Arr3 wr w.heap.size ((ks.take k).map (·.val old now))) (fun _ i _ => ks.length - (intOf i).toNat)
    case atStart =>
      refine ⟨0, Nat.zero_le _, rfl, (Ext.refl _).alloc _, by simp, ?_⟩
      intro j hj
      have : j = 0 ∨ j = 1 ∨ j = 2 := by omega
      rcases this with rfl | rfl | rfl <;> simp
    case round =>
      obtain ⟨k, hk, rfl, hx, hsz, ha⟩ := hrel
      have g0 := hx.cell h0
      have g1 := hx.cell h1
      have g3 := hx.cell h3
      have gm := hx.cell hm
      have HX := Lib.hid hx; clear hx
      by_cases hlt : k < ks.length
      · have hke : IsE wr b' (o' + k * 4) ks[k] := (HK.out k hlt).ext HX.out
        have hin : ks[k] ∈ ks := List.getElem_mem hlt
        have hke' := Lib.hid hke; clear hke
        have hk3' : k < 3 := by omega
        go_wp2_with fail
        refine (IH.out ks[k] wr b' (o' + k * 4) (d - 1) (by have := size_kid (op := op) (wd := wd) (n := n) hin; omega) hke'.out ((deepAll_iff _ _).1 hda _ hin) (hO.ext HX.out) (hN2.ext HX.out) (hM.ext HX.out)).mono ?_
        rintro e w1 ⟨rfl, hx1⟩
        have ck : w1.cell? ⟨w.heap.size, k, none⟩ = some (.int .i64 (((ks.take k).map (·.val old now)).getD k 0)) := by rw [hx1.cellEq hsz]; exact (ha k hk3').1
        have fk : w1.frozen? ⟨w.heap.size, k, none⟩ = false := by rw [hx1.frozenEq hsz]; exact (ha k hk3').2
        have HX1 := Lib.hid hx1; clear hx1
        have HA := Lib.hid ha; clear ha
        go_wp2_with fail
        go_roundw
        case rel =>
          refine ⟨k + 1, by omega, by go_num, (HX.out.trans HX1.out).setCell (Nat.le_refl _) _, by have := HX1.out.size; simp; omega, ?_⟩
          exact Arr3.step HA.out HX1.out hsz hlt
        case measure => simp [intOf]; omega
      · have hkl : k = ks.length := by omega
        have hall : (ks.take k).map (·.val old now) = valAll old now ks := by rw [hkl, List.take_length, valAll_eq]
        rw [hall] at ha
        have hrange : ∀ j, 0 ≤ (valAll old now ks).getD j 0 ∧ (valAll old now ks).getD j 0 ≤ 255 := by
          intro j
          rw [valAll_eq, List.getD_eq_getElem?_getD, List.getElem?_map]
          rcases Nat.lt_or_ge j ks.length with hj | hj
          · rw [List.getElem?_eq_getElem hj]
            have hr := val_range old now ks[j] (d - 1) ((deepAll_iff _ _).1 hda _ (List.getElem_mem hj))
            have hw := (deep_wd ((deepAll_iff _ _).1 hda _ (List.getElem_mem hj))).2
            have := pw_le hw
            simp; omega
          · rw [List.getElem?_eq_none hj]; simp
        obtain ⟨r0, r0'⟩ := hrange 0
        obtain ⟨r1, r1'⟩ := hrange 1
        have A0 := (ha 0 (by decide)).1
        have A1 := (ha 1 (by decide)).1
        have A2 := (ha 2 (by decide)).1
        clear hrange hall ha
        have hfin : (E.mk op wd n ks).val old now = bits .and .i64 (applyS op ((valAll old now ks).getD 0 0) ((valAll old now ks).getD 1 0) ((valAll old now ks).getD 2 0)) (pw wd - 1) := by
          rw [mask_eq _ _ hw1 hw8, E.val, if_neg (by simpa using e1), if_neg (by simpa using e2), if_neg (by simpa using e3)]
        have HF := Lib.hid hfin; clear hfin
        generalize (valAll old now ks).getD 0 0 = a0 at *
        generalize (valAll old now ks).getD 1 0 = a1 at *
        generalize (valAll old now ks).getD 2 0 = a2 at *
        clear hkl
        go_wp2_with fail
        go_region_held3 (fun w' => w'.cell? ⟨b, o, none⟩ = some (.int .i64 op) ∧ w'.cell? ⟨b, o + 1, none⟩ = some (.int .i64 wd) ∧ w'.cell? ⟨1, wd.toNat, none⟩ = some (.int .i64 (pw wd - 1)) ∧ w'.cell? ⟨w.heap.size, 0, none⟩ = some (.int .i64 a0) ∧ w'.cell? ⟨w.heap.size, 1, none⟩ = some (.int .i64 a1) ∧ w'.cell? ⟨w.heap.size, 2, none⟩ = some (.int .i64 a2))
          (first | exact ⟨g0, g1, gm, A0, A1, A2⟩ | exact ⟨Ext.cell ‹Ext wr.drew _› g0, Ext.cell ‹Ext wr.drew _› g1, Ext.cell ‹Ext wr.drew _› gm, Ext.cell ‹Ext wr.drew _› A0, Ext.cell ‹Ext wr.drew _› A1, Ext.cell ‹Ext wr.drew _› A2⟩)
          ((go_at_call 77; refine (apply_any _ _ _ _ _ ho4 ho14 r0 r0' r1 r1').mono ?_; rintro e w' ⟨rfl, hx2⟩))
        go_wp2_with fail
        go_ret
        exact ⟨by rw [HF.out]; rfl, HX.out.trans (((Ext.refl wr).drew).trans hx2)⟩
end Go.Proofs.YtlcgbdjmlnjhcaaGreatDoor
