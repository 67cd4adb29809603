/-
  Two or three new blocks.
  The walks of the reference's Const, Cell, Old, Two.
  The walk of Valid.
-/
import Derived.Test.YtlnahhlddekhoaaGreatDoorG10
import Derived.Test.YtlnahhlddekhoaaGreatDoorG01
import Derived.Test.YtlnahhlddekhoaaGreatDoorG04
namespace Go.Proofs.YtlnahhlddekhoaaGreatDoor
open Go.RowKit

theorem lt_heap {w : World} {b : Nat} {o : Obj} (h : w.heap[b]? = some o) : b < w.heap.size := (Array.getElem?_eq_some_iff.1 h).1
theorem own_lt {w : World} {base : Nat} {v : Value} {l : List Int} (h : OwnInts w base v l) (k : Nat) (hk : v.ownBlock = some k) : k < w.heap.size := by
  rcases h.2 with ⟨rfl, _⟩ | ⟨g, cap, cur, rfl, hg, hh, _⟩
  · cases hk
  · cases hk; exact lt_heap hh
/-- Two boxes. -/
structure Boxes (w0 W : World) (x y : Obj) : Prop where
  eq : W = (w0.alloc x).alloc y
  ext : Ext w0 W
  size : W.heap.size = w0.heap.size + 2
  b0 : W.heap[w0.heap.size]? = some x
  b1 : W.heap[w0.heap.size + 1]? = some y
theorem Boxes.mk' (w0 : World) (x y : Obj) : Boxes w0 ((w0.alloc x).alloc y) x y :=
  ⟨rfl, ((Ext.refl w0).alloc _).alloc _, by simp, by rw [heap_alloc_old _ _ (by simp)]; exact heap_new _ _, by have := heap_new (w0.alloc x) y; rw [World.size_alloc] at this; exact this⟩
/-- Three. -/
structure Boxes3 (w0 W : World) (x y z : Obj) : Prop where
  eq : W = ((w0.alloc x).alloc y).alloc z
  ext : Ext w0 W
  size : W.heap.size = w0.heap.size + 3
  b0 : W.heap[w0.heap.size]? = some x
  b1 : W.heap[w0.heap.size + 1]? = some y
  b2 : W.heap[w0.heap.size + 2]? = some z
theorem Boxes3.mk' (w0 : World) (x y z : Obj) : Boxes3 w0 (((w0.alloc x).alloc y).alloc z) x y z :=
  ⟨rfl, (((Ext.refl w0).alloc _).alloc _).alloc _, by simp, by rw [heap_alloc_old _ _ (by simp; omega)]; exact (Boxes.mk' w0 x y).b0, by rw [heap_alloc_old _ _ (by simp)]; exact (Boxes.mk' w0 x y).b1,
    by have := heap_new ((w0.alloc x).alloc y) z; rw [World.size_alloc, World.size_alloc] at this; exact this⟩
end Go.Proofs.YtlnahhlddekhoaaGreatDoor
namespace Go.Proofs.YtlnahhlddekhoaaGreatDoor
open Go.RowKit

set_option maxHeartbeats 400000 in
theorem RConst_any (n wd : Int) (w : World) : Calls Tryz.prog 27 #[.int .i64 n, .int .i64 wd] w fun r w' => r = .returned (.agg #[.int .i64 1, .int .i64 wd, .int .i64 n, .slice none 0 0]) ∧ Ext w w' := by
  go_enter Tryz.func27, Tryz.ntmps27
  go_wp2_with fail
  exact bodyPost_ret (v := .agg #[.int .i64 1, .int .i64 wd, .int .i64 n, .slice none 0 0]) (by simp [results, Tryz.results27, go_sem]) rfl ⟨rfl, (Ext.refl w).alloc _⟩
set_option maxHeartbeats 400000 in
theorem RCell_any (n wd : Int) (w : World) : Calls Tryz.prog 25 #[.int .i64 n, .int .i64 wd] w fun r w' => r = .returned (.agg #[.int .i64 2, .int .i64 wd, .int .i64 n, .slice none 0 0]) ∧ Ext w w' := by
  go_enter Tryz.func25, Tryz.ntmps25
  go_wp2_with fail
  exact bodyPost_ret (v := .agg #[.int .i64 2, .int .i64 wd, .int .i64 n, .slice none 0 0]) (by simp [results, Tryz.results25, go_sem]) rfl ⟨rfl, (Ext.refl w).alloc _⟩
set_option maxHeartbeats 400000 in
theorem ROld_any (n wd : Int) (w : World) : Calls Tryz.prog 26 #[.int .i64 n, .int .i64 wd] w fun r w' => r = .returned (.agg #[.int .i64 3, .int .i64 wd, .int .i64 n, .slice none 0 0]) ∧ Ext w w' := by
  go_enter Tryz.func26, Tryz.ntmps26
  go_wp2_with fail
  exact bodyPost_ret (v := .agg #[.int .i64 3, .int .i64 wd, .int .i64 n, .slice none 0 0]) (by simp [results, Tryz.results26, go_sem]) rfl ⟨rfl, (Ext.refl w).alloc _⟩
/-- What a function leaves that returns an expression. -/
def RetE (e : E) (w : World) (r : Ending) (w' : World) : Prop := (∃ v, r = .returned v ∧ EVal w' v e) ∧ Ext w w'
theorem EVal.shape' {w : World} {v : Value} {e : E} (h : EVal w v e) : ∃ a c, v = .agg #[.int .i64 e.op, .int .i64 e.wd, .int .i64 e.n, .slice a e.kids.length c] ∧ Kids w (.slice a e.kids.length c) e.kids := by
  obtain ⟨k, h1, h2⟩ := h
  obtain ⟨a, c, rfl⟩ := SliceAt.shape h2
  exact ⟨a, c, h1, h2⟩

theorem two_val {w W : World} {K : Nat} {a b : E} {ka kb : Value} (hx : Ext w W) (hk : Kids w ka a.kids) (hk2 : Kids w kb b.kids)
    (hb : W.heap[K]? = some (.cells #[.int .i64 a.op, .int .i64 a.wd, .int .i64 a.n, ka, .int .i64 b.op, .int .i64 b.wd, .int .i64 b.n, kb] 26 (0, 0))) : Kids W (.slice (some ⟨K, 0, none⟩) 2 2) [a, b] := by
  refine .inr ⟨K, 0, 2, rfl, by simp, fun i h => ?_⟩
  have : i = 0 ∨ i = 1 := by simp at h; omega
  rcases this with rfl | rfl
  · exact IsE.of_cells (v := ka) (by simp [World.cell?, hb]) (by simp [World.cell?, hb]) (by simp [World.cell?, hb]) (by simp [World.cell?, hb]) (hk.ext hx)
  · exact IsE.of_cells (v := kb) (by simp [World.cell?, hb]) (by simp [World.cell?, hb]) (by simp [World.cell?, hb]) (by simp [World.cell?, hb]) (hk2.ext hx)

set_option maxHeartbeats 1000000 in
theorem RTwo_any (op wd : Int) (a b : E) (va vb : Value) (w : World) (ha : EVal w va a) (hb : EVal w vb b) :
    Calls Tryz.prog 24 #[.int .i64 op, .int .i64 wd, va, vb] w (RetE (.mk op wd 0 [a, b]) w) := by
  obtain ⟨aa, ac, rfl, hk⟩ := ha.shape'
  obtain ⟨ba, bc, rfl, hk2⟩ := hb.shape'
  have HK := Lib.hid hk; have HK2 := Lib.hid hk2; clear hk hk2 ha hb
  go_enter Tryz.func24, Tryz.ntmps24
  go_wp2_with fail
  refine bodyPost_ret (v := .agg #[.int .i64 op, .int .i64 wd, .int .i64 0, .slice (some ⟨w.heap.size + 1 + 1 + 1, 0, none⟩) 2 2]) (by simp [results, Tryz.results24, go_sem]) rfl ⟨⟨_, rfl, ⟨_, rfl, ?_⟩⟩, (((Ext.refl w).alloc _).alloc _).alloc _ |>.alloc _⟩
  exact two_val ((((Ext.refl w).alloc _).alloc _).alloc _ |>.alloc _) HK.out HK2.out (by simpa using heap_new (((w.alloc _).alloc _).alloc _) _)
end Go.Proofs.YtlnahhlddekhoaaGreatDoor
namespace Go.Proofs.YtlnahhlddekhoaaGreatDoor
open Go.RowKit

/-- A leaf is one of the cells. -/
def okLeaf (cells : List CellD) (pair : Bool) (x : E) : Bool :=
  decide (x.op = 1) || (decide (x.n.toNat < cells.length) && decide ((cells.map CellD.W).getD x.n.toNat 0 = x.wd) && (!decide (x.op = 3) || pair))

/-- What the function that Valid hands to leaves finds and keeps in its variables. -/
def ValidInv (A B G : Nat) (cv : Value) (cells : List CellD) (pair : Bool) (w : World) (acc : List E) : Prop :=
  w.cell? ⟨A, 0, none⟩ = some cv ∧ w.cell? ⟨B, 0, none⟩ = some (.bool pair) ∧ w.cell? ⟨G, 0, none⟩ = some (.bool (acc.all (okLeaf cells pair))) ∧ w.frozen? ⟨G, 0, none⟩ = false

theorem ValidInv.same {A B G : Nat} {cv : Value} {cells : List CellD} {pair : Bool} {w : World} {acc : List E} {x : E} (h : ValidInv A B G cv cells pair w acc) (hx : okLeaf cells pair x = true) (n : Nat) : ValidInv A B G cv cells pair (w.drewN n) (acc ++ [x]) :=
  ⟨h.1, h.2.1, by rw [List.all_append]; simp only [List.all_cons, List.all_nil, hx, Bool.and_true]; exact h.2.2.1, h.2.2.2⟩
theorem ValidInv.bad {A B G : Nat} {cv : Value} {cells : List CellD} {pair : Bool} {w : World} {acc : List E} {x : E} (h : ValidInv A B G cv cells pair w acc) (hA : A ≠ G) (hB : B ≠ G) (hx : okLeaf cells pair x = false) (n : Nat) :
    ValidInv A B G cv cells pair ((w.setCell ⟨G, 0, none⟩ (.bool false)).drewN n) (acc ++ [x]) := by
  refine ⟨?_, ?_, ?_, ?_⟩
  · show (w.setCell ⟨G, 0, none⟩ (.bool false)).cell? _ = _
    rw [World.cell?_setCell_other _ _ _ _ (by intro e; cases e; exact hA rfl)]; exact h.1
  · show (w.setCell ⟨G, 0, none⟩ (.bool false)).cell? _ = _
    rw [World.cell?_setCell_other _ _ _ _ (by intro e; cases e; exact hB rfl)]; exact h.2.1
  · show (w.setCell ⟨G, 0, none⟩ (.bool false)).cell? _ = _
    rw [World.cell?_setCell_same _ _ _ h.2.2.1, List.all_append]; simp [hx]
  · show (w.setCell ⟨G, 0, none⟩ (.bool false)).frozen? _ = _
    rw [World.frozen?_setCell]; exact h.2.2.2

set_option maxHeartbeats 1000000 in
theorem Valid1_any (w0 : World) (A B G : Nat) (hG : w0.heap.size ≤ G) (hAG : A ≠ G) (hBG : B ≠ G) (cv : Value) (cells : List CellD) (pair : Bool) (hC : Cells w0 cv cells) (x : E) (w : World) (b o : Nat) (acc : List E) (hn : 0 ≤ x.n) (hE : IsE w0 b o x) (hx : Ext w0 w) (hI : ValidInv A B G cv cells pair w acc) :
    Calls Tryz.prog 72 #[.pointer (some ⟨b, o, none⟩), .pointer (some ⟨A, 0, none⟩), .pointer (some ⟨B, 0, none⟩), .pointer (some ⟨G, 0, none⟩)] w fun r w' => r = .returned (.tuple #[]) ∧ Ext w0 w' ∧ ValidInv A B G cv cells pair w' (acc ++ [x]) := by
  obtain ⟨h0, h1, h2, kv, h3, hk⟩ := (hE.ext hx).cells
  obtain ⟨op, wd, n, ks⟩ := x
  simp only [E.op_mk, E.wd_mk, E.n_mk, E.kids_mk] at h0 h1 h2 hk hn
  clear hk h3 hE
  have hC' := hC.ext hx
  obtain ⟨a, cap, rfl⟩ := SliceAt.shape hC
  have HX := Lib.hid hx; have HI := Lib.hid hI
  obtain ⟨i1, i2, i3, i4⟩ := hI
  clear hx hC
  obtain ⟨m, rfl⟩ := Int.eq_ofNat_of_zero_le hn
  by_cases c1 : op = 1
  · subst c1
    have HO : Hid (okLeaf cells pair (.mk 1 wd m ks) = true) := by simp [Hid, okLeaf]
    clear hC'
    go_enter Tryz.func72, Tryz.ntmps72
    go_wp2_with fail
    go_quiet (fail)
    go_wp2_with fail
    go_end0
    exact ⟨rfl, HX.out.drewN _, HI.out.same HO.out _⟩
  have e1 : ((op : Int) != 1) = true := by rw [bne_iff_ne]; exact c1
  have H1 := Lib.hid c1; clear c1
  by_cases c2 : m < cells.length
  · rcases hC' with ⟨_, e⟩ | ⟨b', o', cap', e, hl, hC'⟩
    · subst e; simp at c2
    cases e
    have q1 := (hC' m c2).2.1
    have e2 : decide (cells.length ≤ m) = false := by simp; omega
    clear hC'
    by_cases c3 : cells[m].W = wd
    · have e3 : ((cells[m].W : Int) != wd) = false := by rw [c3]; simp
      have H3 := Lib.hid c3; clear c3
      by_cases c4 : op = 3
      · subst c4
        cases pair with
        | true =>
          have HO : Hid (okLeaf cells true (.mk 3 wd m ks) = true) := by simp [Hid, okLeaf, c2, H3.out]
          go_enter Tryz.func72, Tryz.ntmps72
          go_wp2_with fail
          go_quiet (fail)
          go_wp2_with fail
          go_end0
          exact ⟨rfl, HX.out.drewN _, HI.out.same HO.out _⟩
        | false =>
          have HO : Hid (okLeaf cells false (.mk 3 wd m ks) = false) := by simp [Hid, okLeaf]
          go_enter Tryz.func72, Tryz.ntmps72
          go_wp2_with fail
          go_quiet (fail)
          go_wp2_with fail
          go_end0
          exact ⟨rfl, (HX.out.setCell hG _).drewN _, HI.out.bad hAG hBG HO.out _⟩
      · have e4 : ((op : Int) == 3) = false := by rw [beq_eq_false_iff_ne]; exact c4
        have HO : Hid (okLeaf cells pair (.mk op wd m ks) = true) := by simp [Hid, okLeaf, c2, H3.out, c4]
        clear c4
        go_enter Tryz.func72, Tryz.ntmps72
        go_wp2_with fail
        go_quiet (fail)
        go_wp2_with fail
        go_end0
        exact ⟨rfl, HX.out.drewN _, HI.out.same HO.out _⟩
    · have e3 : ((cells[m].W : Int) != wd) = true := by rw [bne_iff_ne]; exact c3
      have HO : Hid (okLeaf cells pair (.mk op wd m ks) = false) := by simp [Hid, okLeaf, c2, c3, H1.out]
      clear c3
      go_enter Tryz.func72, Tryz.ntmps72
      go_wp2_with fail
      go_quiet (fail)
      go_wp2_with fail
      go_end0
      exact ⟨rfl, (HX.out.setCell hG _).drewN _, HI.out.bad hAG hBG HO.out _⟩
  · have HO : Hid (okLeaf cells pair (.mk op wd m ks) = false) := by simp [Hid, okLeaf, c2, H1.out]
    have e2 : decide (cells.length ≤ m) = true := by simp; omega
    clear hC'
    go_enter Tryz.func72, Tryz.ntmps72
    go_wp2_with fail
    go_quiet (fail)
    go_wp2_with fail
    go_end0
    exact ⟨rfl, (HX.out.setCell hG _).drewN _, HI.out.bad hAG hBG HO.out _⟩
end Go.Proofs.YtlnahhlddekhoaaGreatDoor
