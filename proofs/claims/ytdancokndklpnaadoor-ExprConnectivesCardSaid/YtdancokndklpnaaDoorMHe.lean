/-
  What the laws' first check computes, in plain words.
  The laws' first check is true.
-/
import Derived.Test.YtdancokndklpnaaDoorMDc
import Derived.Test.YtdancokndklpnaaDoorMTb
import Derived.Test.YtdancokndklpnaaDoorMSf
import Derived.Test.YtdancokndklpnaaDoorMSub
import Derived.Test.YtdancokndklpnaaDoorMLeaf
import Derived.Test.YtdancokndklpnaaDoorMForm
import Derived.Test.YtdancokndklpnaaDoorMRb
import Derived.Deep.RegionHeld3
namespace Go.Proofs.YtdancokndklpnaaDoor
open Go.RowKit
def hC (n wd : Int) : E := .mk 2 wd n []
def hK (n wd : Int) : E := .mk 1 wd n []
def hSum : E := .mk 8 2 0 [hC 0 2, hK 1 2]
def hEq : E := .mk 11 1 0 [hC 0 2, hC 1 2]
def hLe : E := .mk 5 1 0 [.mk 13 1 0 [hK 0 2, hC 1 2], .mk 11 1 0 [hC 0 1, hK 0 1]]
def hX : E := .mk 11 1 0 [hSum, hC 1 2]
def hA3 : E := .mk 8 3 0 [hC 0 3, hC 1 3]
theorem head_eval : hA3.eval [] [7, 2] = 1 := by decide
theorem head_subst : hEq.subst [(0, hSum)] = hX := by rfl
theorem head_simp : hLe.simplified = .mk 4 1 0 [hC 0 1] := by rfl
theorem head_text : (E.mk 4 1 0 [hC 0 1]).textTop = [110, 111, 116, 40, 99, 48, 58, 49, 41] := by kernel_rfl
theorem head_read1 : readTop ⟨#[101, 113, 40, 97, 100, 100, 40, 99, 48, 58, 50, 44, 49, 58, 50, 41, 44, 99, 49, 58, 50, 41]⟩ = some hX := by kernel_rfl
theorem head_read2 : readTop ⟨#[97, 100, 100, 40, 99, 48, 58, 50, 44, 49, 58, 51, 41]⟩ = none := by rfl
def hCell (wd : Int) : CellD := ⟨⟨#[]⟩, wd, 0, 0, false, 0⟩
theorem head_valid1 : hEq.valid [hCell 2, hCell 2] false = true := by rfl
theorem head_valid2 : hEq.valid [hCell 2, hCell 3] false = false := by rfl
theorem head_same : hX.eqB hX = true := by decide
end Go.Proofs.YtdancokndklpnaaDoor
namespace Go.Proofs.YtdancokndklpnaaDoor
open Go.RowKit
/-- A variable that holds an expression. -/
def VarE (w : World) (b : Nat) (op wd n : Int) (kv : Value) : Prop := w.heap[b]? = some (.cells #[.int .i64 op, .int .i64 wd, .int .i64 n, kv] 24 (0, 0))
theorem VarE.lt {w : World} {b : Nat} {op wd n : Int} {kv : Value} (h : VarE w b op wd n kv) : b < w.heap.size := heap_lt' h
theorem VarE.ext {w w' : World} {b : Nat} {op wd n : Int} {kv : Value} (h : VarE w b op wd n kv) (hx : Ext w w') : VarE w' b op wd n kv := (hx.block b h.lt).trans h
theorem VarE.new (w : World) (op wd n : Int) (kv : Value) : VarE (w.alloc (.cells #[.int .i64 op, .int .i64 wd, .int .i64 n, kv] 24)) w.heap.size op wd n kv := heap_new _ _
theorem VarE.cells {w : World} {b : Nat} {op wd n : Int} {kv : Value} (h : VarE w b op wd n kv) : w.cell? ⟨b, 0, none⟩ = some (.int .i64 op) ∧ w.cell? ⟨b, 1, none⟩ = some (.int .i64 wd) ∧ w.cell? ⟨b, 2, none⟩ = some (.int .i64 n) ∧ w.cell? ⟨b, 3, none⟩ = some kv := by
  obtain ⟨h0, h1, h2, h3, _⟩ := cells_of_block h; exact ⟨h0, h1, h2, h3⟩
theorem VarE.allocd {w : World} {b : Nat} {op wd n : Int} {kv : Value} (h : VarE w b op wd n kv) (o : Obj) : (w.alloc o).cell? ⟨b, 0, none⟩ = some (.int .i64 op) ∧ (w.alloc o).cell? ⟨b, 1, none⟩ = some (.int .i64 wd) ∧ (w.alloc o).cell? ⟨b, 2, none⟩ = some (.int .i64 n) ∧ (w.alloc o).cell? ⟨b, 3, none⟩ = some kv := (h.ext ((Ext.refl w).alloc o)).cells
theorem EVal.shapeM {w : World} {v : Value} {op wd n : Int} {ks : List E} (h : EVal w v (.mk op wd n ks)) : ∃ a c, v = .agg #[.int .i64 op, .int .i64 wd, .int .i64 n, .slice a ks.length c] ∧ Kids w (.slice a ks.length c) ks := by
  obtain ⟨a, c, h1, h2⟩ := h.shape'; exact ⟨a, c, h1, h2⟩
theorem EVal.shapeN {w : World} {v : Value} {op wd n : Int} {ks : List E} (h : EVal w v (.mk op wd n ks)) : ∃ a l c, v = .agg #[.int .i64 op, .int .i64 wd, .int .i64 n, .slice a l c] ∧ EVal w (.agg #[.int .i64 op, .int .i64 wd, .int .i64 n, .slice a l c]) (.mk op wd n ks) := by
  obtain ⟨a, c, h1, h2⟩ := h.shape'; exact ⟨a, _, c, h1, ⟨_, rfl, h2⟩⟩
theorem ev_leaf (w : World) (op wd n : Int) : EVal w (.agg #[.int .i64 op, .int .i64 wd, .int .i64 n, .slice none 0 0]) (.mk op wd n []) := ⟨_, rfl, .inl ⟨⟨_, _, rfl⟩, rfl⟩⟩

set_option maxHeartbeats 1000000 in
/-- A node over two leaves: its row lies in new memory. -/
theorem RTwo_row (op wd o1 d1 n1 o2 d2 n2 : Int) (w : World) :
    Calls Tryd.prog 20 #[.int .i64 op, .int .i64 wd, .agg #[.int .i64 o1, .int .i64 d1, .int .i64 n1, .slice none 0 0], .agg #[.int .i64 o2, .int .i64 d2, .int .i64 n2, .slice none 0 0]] w fun r w' =>
      ∃ K : Nat, w.heap.size ≤ K ∧ r = .returned (.agg #[.int .i64 op, .int .i64 wd, .int .i64 0, .slice (some ⟨K, 0, none⟩) 2 2]) ∧ w'.heap[K]? = some (.cells #[.int .i64 o1, .int .i64 d1, .int .i64 n1, .slice none 0 0, .int .i64 o2, .int .i64 d2, .int .i64 n2, .slice none 0 0] 24 (0, 0)) ∧ Ext w w' := by
  go_enter Tryd.func20, Tryd.ntmps20
  go_wp2_with fail
  exact bodyPost_ret (v := .agg #[.int .i64 op, .int .i64 wd, .int .i64 0, .slice (some ⟨w.heap.size + 1 + 1 + 1, 0, none⟩) 2 2]) (by simp [results, Tryd.results20, go_sem]) rfl ⟨_, by omega, rfl, by simpa using heap_new (((w.alloc _).alloc _).alloc _) _, (((Ext.refl w).alloc _).alloc _).alloc _ |>.alloc _⟩
/-- The region's end: the variable was made ahead of the call. -/
theorem two_end {W1 Y w3 : World} {b K : Nat} {op wd : Int} {x y z : Int} {u : Value} {row : Obj} (hE : Ext W1 w3) (hz : VarE w3 b x y z u) (hb : W1.heap.size ≤ b) (hY : b < Y.heap.size) (hK : Y.heap.size ≤ K) (hr : w3.heap[K]? = some row) :
    VarE (put4 w3 b 0 (.int .i64 op) (.int .i64 wd) (.int .i64 0) (.slice (some ⟨K, 0, none⟩) 2 2)) b op wd 0 (.slice (some ⟨K, 0, none⟩) 2 2) ∧ (put4 w3 b 0 (.int .i64 op) (.int .i64 wd) (.int .i64 0) (.slice (some ⟨K, 0, none⟩) 2 2)).heap[K]? = some row ∧ Ext W1 (put4 w3 b 0 (.int .i64 op) (.int .i64 wd) (.int .i64 0) (.slice (some ⟨K, 0, none⟩) 2 2)) :=
  ⟨put4_new hz, by rw [put4_heap K (by omega)]; exact hr, Below.trans hE (below_put4 hb)⟩
/-- The region's end: the variable is made last. -/
theorem two_end' {W1 w3 : World} {K : Nat} {op wd : Int} {row : Obj} (hE : Ext W1 w3) (hr : w3.heap[K]? = some row) :
    VarE (w3.alloc (.cells #[.int .i64 op, .int .i64 wd, .int .i64 0, .slice (some ⟨K, 0, none⟩) 2 2] 24)) w3.heap.size op wd 0 (.slice (some ⟨K, 0, none⟩) 2 2) ∧ (w3.alloc (.cells #[.int .i64 op, .int .i64 wd, .int .i64 0, .slice (some ⟨K, 0, none⟩) 2 2] 24)).heap[K]? = some row ∧ Ext W1 (w3.alloc (.cells #[.int .i64 op, .int .i64 wd, .int .i64 0, .slice (some ⟨K, 0, none⟩) 2 2] 24)) :=
  ⟨VarE.new _ _ _ _ _, by rw [Below.heap_alloc _ _ _ (heap_lt' hr)]; exact hr, hE.alloc _⟩

theorem head_rd1 (w : World) (hM : Masks w) (hN : Names w) : Calls Tryd.prog 19 #[.string ⟨#[101, 113, 40, 97, 100, 100, 40, 99, 48, 58, 50, 44, 49, 58, 50, 41, 44, 99, 49, 58, 50, 41]⟩] w fun r w' =>
    ∃ a l c, r = .returned (.tuple #[.agg #[.int .i64 11, .int .i64 1, .int .i64 0, .slice a l c], .int .i64 0]) ∧ EVal w' (.agg #[.int .i64 11, .int .i64 1, .int .i64 0, .slice a l c]) hX ∧ Ext w w' := by
  refine (Read_any _ w (by decide) hM hN).mono ?_
  rintro r w' ⟨v, rfl, h1, h2⟩
  rw [head_read1] at *
  obtain ⟨a, l, c, rfl, h⟩ := EVal.shapeN (op := 11) (wd := 1) (n := 0) h1
  exact ⟨a, l, c, rfl, h, h2⟩
theorem head_rd2 (w : World) (hM : Masks w) (hN : Names w) : Calls Tryd.prog 19 #[.string ⟨#[97, 100, 100, 40, 99, 48, 58, 50, 44, 49, 58, 51, 41]⟩] w fun r w' =>
    ∃ a l c, r = .returned (.tuple #[.agg #[.int .i64 0, .int .i64 0, .int .i64 0, .slice a l c], .int .i64 130]) ∧ Ext w w' := by
  refine (Read_any _ w (by decide) hM hN).mono ?_
  rintro r w' ⟨v, rfl, h1, h2⟩
  rw [head_read2] at *
  obtain ⟨a, l, c, rfl, h⟩ := EVal.shapeN (op := 0) (wd := 0) (n := 0) h1
  exact ⟨a, l, c, rfl, h2⟩
theorem assigns_one {W : World} {B : Nat} {t : TypeId} {e : E} {kv : Value} (hb : W.heap[B]? = some (.cells #[.int .i64 0, .int .i64 e.op, .int .i64 e.wd, .int .i64 e.n, kv] t (0, 0))) (hk : Kids W kv e.kids) : Assigns W (.slice (some ⟨B, 0, none⟩) 1 1) [(0, e)] := by
  refine .inr ⟨B, 0, 1, rfl, by simp, fun i h => ?_⟩
  have : i = 0 := by simp at h; omega
  subst this
  exact ⟨by simp [World.cell?, hb], IsE.of_cells (v := kv) (by simp [World.cell?, hb]) (by simp [World.cell?, hb]) (by simp [World.cell?, hb]) (by simp [World.cell?, hb]) hk⟩

theorem ints_two {W : World} {B : Nat} {t : TypeId} {x y : Int} (hb : W.heap[B]? = some (.cells #[.int .i64 x, .int .i64 y] t (0, 0))) : Ints W (.slice (some ⟨B, 0, none⟩) 2 2) [x, y] := by
  refine .inr ⟨B, 0, 2, rfl, by simp, fun i h => ?_⟩
  have : i = 0 ∨ i = 1 := by simp at h; omega
  rcases this with rfl | rfl
  · simp [IntAt, World.cell?, hb]
  · simp [IntAt, World.cell?, hb]

theorem cells_two {W : World} {B : Nat} {t : TypeId} {x y : Int} (hb : W.heap[B]? = some (.cells #[.string ⟨#[]⟩, .int .i64 x, .int .i64 0, .int .i64 0, .bool false, .int .i64 0, .string ⟨#[]⟩, .int .i64 y, .int .i64 0, .int .i64 0, .bool false, .int .i64 0] t (0, 0))) : Cells W (.slice (some ⟨B, 0, none⟩) 2 2) [hCell x, hCell y] := by
  refine .inr ⟨B, 0, 2, rfl, by simp, fun i h => ?_⟩
  have : i = 0 ∨ i = 1 := by simp at h; omega
  rcases this with rfl | rfl
  · simp [CellAt, World.cell?, hb, hCell]
  · simp [CellAt, World.cell?, hb, hCell]

set_option maxRecDepth 100000 in
set_option maxHeartbeats 8000000 in
theorem head_any (w : World) (hM : Masks w) (hN : Names w) (hP : Pow10 w) : Calls Tryd.prog 10 #[] w fun r w' => r = .returned (.bool true) ∧ Ext w w' := by
  have HM := Lib.hid hM; have HN := Lib.hid hN; have HP := Lib.hid hP
  clear hM hN hP
  go_enter Tryd.func10, Tryd.ntmps10
  go_wp2_with fail
  refine (RCell_any 0 2 _).mono ?_
  rintro r w1 ⟨rfl, hx1⟩
  obtain ⟨W1, hW1⟩ : ∃ W1, W1 = w1.alloc (.cells #[.int .i64 2, .int .i64 2, .int .i64 0, .slice none 0 0] 24) := ⟨_, rfl⟩
  have hv1 := VarE.new w1 2 2 0 (.slice none 0 0)
  have hX1 := hx1.alloc (.cells #[.int .i64 2, .int .i64 2, .int .i64 0, .slice none 0 0] 24)
  rw [← hW1] at hv1 hX1
  have HW1 := Lib.hid hW1; have HV1 := Lib.hid hv1; have HX1 := Lib.hid hX1
  clear hx1 hW1 hv1 hX1
  go_upto_region 2 with fail
  rw [← HW1.out]
  clear HW1
  generalize w1.heap.size = b1 at *
  go_cut [2] (fun s2 W => ∃ (b2 K2 : Nat), s2 = .pointer (some ⟨b2, 0, none⟩) ∧ VarE W b2 8 2 0 (.slice (some ⟨K2, 0, none⟩) 2 2) ∧ W.heap[K2]? = some (.cells #[.int .i64 2, .int .i64 2, .int .i64 0, .slice none 0 0, .int .i64 1, .int .i64 2, .int .i64 1, .slice none 0 0] 24 (0, 0)) ∧ Ext W1 W)
  case first =>
    obtain ⟨q0, q1, q2, q3⟩ := HV1.out.cells
    have hb1 := HV1.out.lt
    go_region_with (first
      | (go_at_call 34; refine (RConst_any 1 2 _).mono ?_; rintro r w2 ⟨rfl, hx2⟩
         have HE2 : Hid (Ext W1 w2) := Ext.trans (by repeat (first | exact Ext.refl _ | apply Ext.drew | apply Ext.alloc)) hx2
         obtain ⟨p0, p1, p2, p3⟩ := (HV1.out.ext HE2.out).cells
         have hb2 := (HV1.out.ext HE2.out).lt
         try (have HZ2 : Hid (VarE w2 W1.heap.size 0 0 0 (.slice none 0 0)) := (hx2.block _ (by simp)).trans (heap_new _ _); obtain ⟨z0, z1, z2, z3, y0, y1, y2, y3⟩ := cells_of_block HZ2.out)
         clear hx2)
      | (go_at_call 20; refine (RTwo_row 8 2 2 2 0 1 2 1 _).mono ?_; rintro r w3 ⟨K3, hK3, rfl, hr3, hx3⟩
         have HE3 : Hid (Ext W1 w3) := HE2.out.trans (Ext.trans (by repeat (first | exact Ext.refl _ | apply Ext.drew | apply Ext.alloc)) hx3)
         have HR3 := Lib.hid hr3; have HK3 := Lib.hid hK3
         first
         | (have HZ3 : Hid (VarE w3 W1.heap.size 0 0 0 (.slice none 0 0)) := HZ2.out.ext hx3; obtain ⟨z0', z1', z2', z3', y0', y1', y2', y3'⟩ := cells_of_block HZ3.out)
         | (have HZ3 : Hid (VarE w3 w2.heap.size 0 0 0 (.slice none 0 0)) := (hx3.block _ (by simp)).trans (heap_new _ _); obtain ⟨z0', z1', z2', z3', y0', y1', y2', y3'⟩ := cells_of_block HZ3.out)
         | skip
         clear hx3 hr3 hK3))
    all_goals
      go_wp2_with fail
      go_meet
      first
      | (have h := two_end (op := 8) (wd := 2) HE3.out HZ3.out (Nat.le_refl _) HZ2.out.lt HK3.out HR3.out; exact ⟨W1.heap.size, K3, rfl, h.1, h.2.1, h.2.2⟩)
      | (have h := two_end (op := 8) (wd := 2) HE3.out HZ3.out HE2.out.size (by simp) HK3.out HR3.out; exact ⟨w2.heap.size, K3, rfl, h.1, h.2.1, h.2.2⟩)
      | (have h := two_end' (op := 8) (wd := 2) HE3.out HR3.out; exact ⟨w3.heap.size, K3, rfl, h.1, h.2.1, h.2.2⟩)
  case rest =>
    obtain ⟨b2, K2, rfl, hV2, hR2, hX2⟩ := hcut
    generalize wc = W2 at *
    have HV2 := Lib.hid hV2; have HR2 := Lib.hid hR2; have HX2 := Lib.hid hX2; have HV1' := Lib.hid (HV1.out.ext hX2)
    clear hV2 hR2 hX2
    go_upto_region 3 with fail
    go_cut [3] (fun s3 W => ∃ (b3 K3 : Nat), s3 = .pointer (some ⟨b3, 0, none⟩) ∧ VarE W b3 11 1 0 (.slice (some ⟨K3, 0, none⟩) 2 2) ∧ W.heap[K3]? = some (.cells #[.int .i64 2, .int .i64 2, .int .i64 0, .slice none 0 0, .int .i64 2, .int .i64 2, .int .i64 1, .slice none 0 0] 24 (0, 0)) ∧ Ext W2 W)
    case first =>
      obtain ⟨q0, q1, q2, q3⟩ := HV1'.out.cells
      have hb1 := HV1'.out.lt
      go_region_with (first
        | (go_at_call 33; refine (RCell_any 1 2 _).mono ?_; rintro r w2 ⟨rfl, hx2⟩
           have HE2 : Hid (Ext W2 w2) := Ext.trans (by repeat (first | exact Ext.refl _ | apply Ext.drew | apply Ext.alloc)) hx2
           obtain ⟨p0, p1, p2, p3⟩ := (HV1'.out.ext HE2.out).cells
           have hb2 := (HV1'.out.ext HE2.out).lt
           try (have HZ2 : Hid (VarE w2 W2.heap.size 0 0 0 (.slice none 0 0)) := (hx2.block _ (by simp)).trans (heap_new _ _); obtain ⟨z0, z1, z2, z3, y0, y1, y2, y3⟩ := cells_of_block HZ2.out)
           clear hx2)
        | (go_at_call 20; refine (RTwo_row 11 1 2 2 0 2 2 1 _).mono ?_; rintro r w3 ⟨K3, hK3, rfl, hr3, hx3⟩
           have HE3 : Hid (Ext W2 w3) := HE2.out.trans (Ext.trans (by repeat (first | exact Ext.refl _ | apply Ext.drew | apply Ext.alloc)) hx3)
           have HR3 := Lib.hid hr3; have HK3 := Lib.hid hK3
           first
           | (have HZ3 : Hid (VarE w3 W2.heap.size 0 0 0 (.slice none 0 0)) := HZ2.out.ext hx3; obtain ⟨z0', z1', z2', z3', y0', y1', y2', y3'⟩ := cells_of_block HZ3.out)
           | (have HZ3 : Hid (VarE w3 w2.heap.size 0 0 0 (.slice none 0 0)) := (hx3.block _ (by simp)).trans (heap_new _ _); obtain ⟨z0', z1', z2', z3', y0', y1', y2', y3'⟩ := cells_of_block HZ3.out)
           | skip
           clear hx3 hr3 hK3))
      all_goals
        go_wp2_with fail
        go_meet
        first
        | (have h := two_end (op := 11) (wd := 1) HE3.out HZ3.out (Nat.le_refl _) HZ2.out.lt HK3.out HR3.out; exact ⟨W2.heap.size, K3, rfl, h.1, h.2.1, h.2.2⟩)
        | (have h := two_end (op := 11) (wd := 1) HE3.out HZ3.out HE2.out.size (by simp) HK3.out HR3.out; exact ⟨w2.heap.size, K3, rfl, h.1, h.2.1, h.2.2⟩)
        | (have h := two_end' (op := 11) (wd := 1) HE3.out HR3.out; exact ⟨w3.heap.size, K3, rfl, h.1, h.2.1, h.2.2⟩)
    case rest =>
      obtain ⟨b3, K3, rfl, hV3, hR3, hX3⟩ := hcut
      generalize wc = W3 at *
      have HV3 := Lib.hid hV3; have HR3 := Lib.hid hR3; have HX3 := Lib.hid hX3
      clear hV3 hR3 hX3
      have HS2 : Hid (EVal W3 (.agg #[.int .i64 8, .int .i64 2, .int .i64 0, .slice (some ⟨K2, 0, none⟩) 2 2]) hSum) := ⟨_, rfl, two_val (a := hC 0 2) (b := hK 1 2) (Ext.refl W3) (.inl ⟨⟨_, _, rfl⟩, rfl⟩) (.inl ⟨⟨_, _, rfl⟩, rfl⟩) ((HX3.out.block K2 (heap_lt' HR2.out)).trans HR2.out)⟩
      have HK2 : Hid (Kids W3 (.slice (some ⟨K2, 0, none⟩) 2 2) hSum.kids) := two_val (a := hC 0 2) (b := hK 1 2) (Ext.refl W3) (.inl ⟨⟨_, _, rfl⟩, rfl⟩) (.inl ⟨⟨_, _, rfl⟩, rfl⟩) ((HX3.out.block K2 (heap_lt' HR2.out)).trans HR2.out)
      have HQ3 : Hid (EVal W3 (.agg #[.int .i64 11, .int .i64 1, .int .i64 0, .slice (some ⟨K3, 0, none⟩) 2 2]) hEq) := ⟨_, rfl, two_val (a := hC 0 2) (b := hC 1 2) (Ext.refl W3) (.inl ⟨⟨_, _, rfl⟩, rfl⟩) (.inl ⟨⟨_, _, rfl⟩, rfl⟩) HR3.out⟩
      have HV2' := Lib.hid (HV2.out.ext HX3.out)
      have HXw := Lib.hid ((HX1.out.trans HX2.out).trans HX3.out)
      clear HV1' HV1 HV2 HR2 HR3 HX1 HX2 HX3
      go_wp2_with fail
      refine (RConst_any 0 2 _).mono ?_; rintro r u1 ⟨rfl, x1⟩; have X1 := Lib.hid x1; clear x1
      go_wp2_with fail
      refine (RCell_any 1 2 _).mono ?_; rintro r u2 ⟨rfl, x2⟩; have X2 := Lib.hid (X1.out.trans x2); clear x2 X1
      go_wp2_with fail
      refine (RTwo_any 13 1 (hK 0 2) (hC 1 2) _ _ _ (ev_leaf _ _ _ _) (ev_leaf _ _ _ _)).mono ?_; rintro r u3 ⟨⟨v3, rfl, e3⟩, x3⟩; obtain ⟨a3, l3, c3, rfl, e3⟩ := e3.shapeN; have X3 := Lib.hid (X2.out.trans x3); have E3 := Lib.hid e3; clear x3 X2 e3
      go_wp2_with fail
      refine (RCell_any 0 1 _).mono ?_; rintro r u4 ⟨rfl, x4⟩; have X4 := Lib.hid (X3.out.trans x4); have E4 := Lib.hid (E3.out.ext x4); clear x4 X3 E3
      go_wp2_with fail
      refine (RConst_any 0 1 _).mono ?_; rintro r u5 ⟨rfl, x5⟩; have X5 := Lib.hid (X4.out.trans x5); have E5 := Lib.hid (E4.out.ext x5); clear x5 X4 E4
      go_wp2_with fail
      refine (RTwo_any 11 1 (hC 0 1) (hK 0 1) _ _ _ (ev_leaf _ _ _ _) (ev_leaf _ _ _ _)).mono ?_; rintro r u6 ⟨⟨v6, rfl, e6⟩, x6⟩; obtain ⟨a6, l6, c6, rfl, e6⟩ := e6.shapeN; have X6 := Lib.hid (X5.out.trans x6); have E6 := Lib.hid e6; have E5' := Lib.hid (E5.out.ext x6); clear x6 X5 E5 e6
      go_wp2_with fail
      refine (RTwo_any 5 1 _ _ _ _ _ E5'.out E6.out).mono ?_; rintro r u7 ⟨⟨v7, rfl, e7⟩, x7⟩; obtain ⟨a7, l7, c7, rfl, e7⟩ := e7.shapeN
      have hX4 := (X6.out.trans x7).alloc (.cells #[.int .i64 5, .int .i64 1, .int .i64 0, .slice a7 l7 c7] 24)
      have HV4 := Lib.hid (VarE.new u7 5 1 0 (.slice a7 l7 c7))
      have HL4 : Hid (EVal (u7.alloc (.cells #[.int .i64 5, .int .i64 1, .int .i64 0, .slice a7 l7 c7] 24)) (.agg #[.int .i64 5, .int .i64 1, .int .i64 0, .slice a7 l7 c7]) hLe) := e7.ext ((Ext.refl u7).alloc _)
      have HX4 := Lib.hid hX4
      clear hX4 e7 x7 X6 E5' E6
      go_wp2_with fail
      generalize hW4 : u7.alloc (.cells #[.int .i64 5, .int .i64 1, .int .i64 0, .slice a7 l7 c7] 24) = W4 at *
      clear hW4
      generalize u7.heap.size = b4 at *
      refine (head_rd1 W4 (HM.out.ext (HXw.out.trans HX4.out)) (HN.out.ext (HXw.out.trans HX4.out))).mono ?_; rintro r u8 ⟨a8, l8, c8, rfl, e8, x8⟩
      have HV5 := Lib.hid (VarE.new u8 11 1 0 (.slice a8 l8 c8))
      have HX5 := Lib.hid (x8.alloc (.cells #[.int .i64 11, .int .i64 1, .int .i64 0, .slice a8 l8 c8] 24))
      have HL5 := Lib.hid (e8.ext ((Ext.refl u8).alloc (.cells #[.int .i64 11, .int .i64 1, .int .i64 0, .slice a8 l8 c8] 24)))
      clear e8 x8
      go_wp2_with fail
      generalize hW5 : u8.alloc (.cells #[.int .i64 11, .int .i64 1, .int .i64 0, .slice a8 l8 c8] 24) = W5 at *
      clear hW5
      generalize u8.heap.size = b5 at *
      refine (head_rd2 W5 (HM.out.ext ((HXw.out.trans HX4.out).trans HX5.out)) (HN.out.ext ((HXw.out.trans HX4.out).trans HX5.out))).mono ?_; rintro r u9 ⟨a9, l9, c9, rfl, x9⟩
      have HX6 := Lib.hid (x9.alloc (.cells #[.int .i64 0, .int .i64 0, .int .i64 0, .slice a9 l9 c9] 24))
      clear x9
      go_upto_region 7 with fail
      generalize hW6 : u9.alloc (.cells #[.int .i64 0, .int .i64 0, .int .i64 0, .slice a9 l9 c9] 24) = W6 at *
      clear hW6
      have HX46 := Lib.hid ((HX4.out.trans HX5.out).trans HX6.out)
      obtain ⟨g0, g1, g2, g3⟩ := (HV2'.out.ext HX46.out).cells
      obtain ⟨i0, i1, i2, i3⟩ := (HV3.out.ext HX46.out).cells
      go_wp2_with fail
      have HX7 := Lib.hid (HX46.out.alloc (.cells #[.int .i64 0, .int .i64 8, .int .i64 2, .int .i64 0, .slice (some ⟨K2, 0, none⟩) 2 2] 33))
      refine (Subst_any hEq _ _ [(0, hSum)] _ (HQ3.out.ext HX7.out) (assigns_one (heap_new _ _) (HK2.out.ext HX7.out)) (HM.out.ext (HXw.out.trans HX7.out))).mono ?_
      rintro r u10 ⟨⟨v10, rfl, e10⟩, x10⟩
      rw [head_subst] at e10
      obtain ⟨a10, l10, c10, rfl, q10⟩ := EVal.shapeN (op := 11) (wd := 1) (n := 0) e10.eVal
      have HX8 := Lib.hid ((HX7.out.trans x10).alloc (.cells #[.int .i64 11, .int .i64 1, .int .i64 0, .slice a10 l10 c10] 24))
      have HX58 : Hid (Ext W5 (u10.alloc (.cells #[.int .i64 11, .int .i64 1, .int .i64 0, .slice a10 l10 c10] 24))) := ((HX6.out.alloc _).trans x10).alloc _
      have HV8 := Lib.hid (VarE.new u10 11 1 0 (.slice a10 l10 c10))
      have HL8 := Lib.hid (q10.ext ((Ext.refl u10).alloc (.cells #[.int .i64 11, .int .i64 1, .int .i64 0, .slice a10 l10 c10] 24)))
      clear e10 q10 x10 g0 g1 g2 g3 i0 i1 i2 i3
      go_upto_region 8 with fail
      generalize hW8 : u10.alloc (.cells #[.int .i64 11, .int .i64 1, .int .i64 0, .slice a10 l10 c10] 24) = W8 at *
      clear hW8
      generalize u10.heap.size = b8 at *
      have HX48 := Lib.hid (HX5.out.trans HX58.out)
      obtain ⟨g0, g1, g2, g3⟩ := (HV4.out.ext HX48.out).cells
      go_wp2_with fail
      refine (Simplify_any hLe _ _ (HL4.out.ext HX48.out) (HM.out.ext ((HXw.out.trans HX4.out).trans HX48.out))).mono ?_
      rintro r u11 ⟨⟨v11, rfl, e11⟩, x11⟩
      rw [head_simp] at e11
      obtain ⟨a11, l11, c11, rfl, q11⟩ := EVal.shapeN (op := 4) (wd := 1) (n := 0) e11.eVal
      have HX9 := Lib.hid (x11.alloc (.cells #[.int .i64 4, .int .i64 1, .int .i64 0, .slice a11 l11 c11] 24))
      have HV9 := Lib.hid (VarE.new u11 4 1 0 (.slice a11 l11 c11))
      have HL9 := Lib.hid (q11.ext ((Ext.refl u11).alloc (.cells #[.int .i64 4, .int .i64 1, .int .i64 0, .slice a11 l11 c11] 24)))
      clear e11 q11 x11 g0 g1 g2 g3
      go_upto_region 9 with fail
      generalize hW9 : u11.alloc (.cells #[.int .i64 4, .int .i64 1, .int .i64 0, .slice a11 l11 c11] 24) = W9 at *
      clear hW9
      generalize u11.heap.size = b9 at *
      go_wp2_with fail
      refine (RCell_any 0 3 _).mono ?_; rintro r t1 ⟨rfl, x1⟩; have X1 := Lib.hid x1; clear x1
      go_wp2_with fail
      refine (RCell_any 1 3 _).mono ?_; rintro r t2 ⟨rfl, x2⟩; have X2 := Lib.hid (X1.out.trans x2); clear x2 X1
      go_wp2_with fail
      refine (RTwo_any 8 3 (hC 0 3) (hC 1 3) _ _ _ (ev_leaf _ _ _ _) (ev_leaf _ _ _ _)).mono ?_; rintro r t3 ⟨⟨v3, rfl, e3⟩, x3⟩; obtain ⟨y3, m3, d3, rfl, q3⟩ := EVal.shapeN e3; have X3 := Lib.hid (X2.out.trans x3); have E3 := Lib.hid q3; clear x3 X2 e3 q3
      go_wp2_with fail
      have HE9 : Hid (hA3.eval [] [7, 2] = 1) := head_eval
      have X4 : Hid (Ext W9 (t3.alloc (.cells #[.int .i64 7, .int .i64 2] 3))) := X3.out.alloc _
      have HX49 := Lib.hid ((HXw.out.trans HX4.out).trans (HX48.out.trans HX9.out))
      refine (Eval_any hA3 _ _ _ [] [7, 2] _ (E3.out.ext ((Ext.refl t3).alloc _)) (.inl ⟨⟨_, _, rfl⟩, rfl⟩) (ints_two (heap_new _ _)) (HM.out.ext (HX49.out.trans X4.out))).mono ?_
      rintro r t4 ⟨rfl, x4⟩
      rw [HE9.out]
      have X5 := Lib.hid (X4.out.trans x4)
      have HXW := Lib.hid (HX49.out.trans X5.out)
      clear x4 HE9 X4 X3 E3
      obtain ⟨g0, g1, g2, g3⟩ := ((HV5.out.ext HX58.out).ext (HX9.out.trans X5.out)).cells
      obtain ⟨i0, i1, i2, i3⟩ := (HV8.out.ext (HX9.out.trans X5.out)).cells
      go_wp2_with fail
      refine (RSame_any hX.size hX hX _ _ _ (Nat.le_refl _) ((HL5.out.ext HX58.out).ext (HX9.out.trans X5.out)) (HL8.out.ext (HX9.out.trans X5.out))).mono ?_
      rintro r t5 ⟨rfl, x5⟩
      rw [head_same]
      have X6 := Lib.hid (X5.out.trans x5)
      clear x5 X5 g0 g1 g2 g3 i0 i1 i2 i3 HXW
      obtain ⟨i0, i1, i2, i3⟩ := (HV8.out.ext (HX9.out.trans X6.out)).cells
      obtain ⟨j0, j1, j2, j3⟩ := (HV9.out.ext X6.out).cells
      go_wp2_with fail
      have HXW := Lib.hid (HX49.out.trans X6.out)
      refine (Text_any (.mk 4 1 0 [hC 0 1]) _ _ (HL9.out.ext X6.out) (HM.out.ext HXW.out) (HN.out.ext HXW.out) (HP.out.ext HXW.out)).mono ?_
      rintro r t6 ⟨rfl, x6⟩
      rw [head_text]
      have X7 := Lib.hid (X6.out.trans x6)
      clear x6 X6 i0 i1 i2 i3 j0 j1 j2 j3 HXW
      have HX39 := Lib.hid (HX4.out.trans (HX48.out.trans HX9.out))
      obtain ⟨i0, i1, i2, i3⟩ := (HV3.out.ext (HX39.out.trans X7.out)).cells
      go_wp2_with fail
      have X8 : Hid (Ext W9 (t6.alloc (.cells #[.string ⟨#[]⟩, .int .i64 2, .int .i64 0, .int .i64 0, .bool false, .int .i64 0, .string ⟨#[]⟩, .int .i64 2, .int .i64 0, .int .i64 0, .bool false, .int .i64 0] 62))) := X7.out.alloc _
      refine (Valid_any hEq _ _ [hCell 2, hCell 2] false _ (HQ3.out.ext (HX39.out.trans X8.out)) (cells_two (heap_new _ _)) (HM.out.ext (HX49.out.trans X8.out))).mono ?_
      rintro r t7 ⟨rfl, x7⟩
      rw [head_valid1]
      have X9 := Lib.hid (X8.out.trans x7)
      clear x7 X8 X7 i0 i1 i2 i3
      obtain ⟨i0, i1, i2, i3⟩ := (HV3.out.ext (HX39.out.trans X9.out)).cells
      go_wp2_with fail
      have X10 : Hid (Ext W9 (t7.alloc (.cells #[.string ⟨#[]⟩, .int .i64 2, .int .i64 0, .int .i64 0, .bool false, .int .i64 0, .string ⟨#[]⟩, .int .i64 3, .int .i64 0, .int .i64 0, .bool false, .int .i64 0] 62))) := X9.out.alloc _
      refine (Valid_any hEq _ _ [hCell 2, hCell 3] false _ (HQ3.out.ext (HX39.out.trans X10.out)) (cells_two (heap_new _ _)) (HM.out.ext (HX49.out.trans X10.out))).mono ?_
      rintro r t8 ⟨rfl, x8⟩
      rw [head_valid2]
      have HXE := Lib.hid (HX49.out.trans (X10.out.trans x8))
      clear x8 X10 X9 i0 i1 i2 i3
      go_wp2_with fail
      exact bodyPost_ret (v := .bool true) (by simp [results, Tryd.results10, go_sem]) rfl ⟨rfl, HXE.out⟩
end Go.Proofs.YtdancokndklpnaaDoor
