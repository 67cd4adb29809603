/-
  What law10's statements use: sets with room, variables, the contracts over valid sets.
  A variable that is there. (A name of a text that a merged claim leaves out.)
  The walks of the reference's Power, arity, Size, Small.
-/
import Derived.Test.YtlcgbdjmlnjhcaaGreatDoorG11
import Derived.Test.YtlcgbdjmlnjhcaaGreatDoorG03
import Derived.Test.YtlcgbdjmlnjhcaaGreatDoorG16
import Derived.Test.YtlcgbdjmlnjhcaaGreatDoorG02
import Derived.Test.YtlcgbdjmlnjhcaaGreatDoorG05
import Derived.Test.YtlcgbdjmlnjhcaaGreatDoorG04
import Derived.Test.YtlcgbdjmlnjhcaaGreatDoorG13
import Derived.Test.YtlcgbdjmlnjhcaaGreatDoorG06
import Derived.Test.YtlcgbdjmlnjhcaaGreatDoorG17
import Derived.Deep.RegionHeld3
import Derived.Test.YtlcgbdjmlnjhcaaGreatDoorG00
namespace Go.Proofs.YtlcgbdjmlnjhcaaGreatDoor
open Go.RowKit

theorem OwnInts.intsC {w : World} {base : Nat} {v : Value} {l : List Int} (h : OwnInts w base v l) : IntsC w v l := by
  obtain ⟨a, c, rfl⟩ := h.ints.shape
  exact ⟨h.ints, a, c, rfl, h.cap⟩
theorem SetO.setC {w : World} {base : Nat} {v : Value} {cs ws is : List Int} (h : SetO w base v cs ws is) : SetC w v cs ws is := by
  obtain ⟨a, b, c, h0, h1, h2, h3⟩ := h; exact ⟨a, b, c, h0, h1.intsC, h2.intsC, h3.intsC⟩
theorem SetC.ext {w w' : World} {v : Value} {cs ws is : List Int} (h : SetC w v cs ws is) (hx : Ext w w') : SetC w' v cs ws is := by
  obtain ⟨a, b, c, h0, h1, h2, h3⟩ := h; exact ⟨a, b, c, h0, h1.ext hx, h2.ext hx, h3.ext hx⟩
theorem SetV.shape' {w : World} {v : Value} {cs ws is : List Int} (h : SetV w v cs ws is) : ∃ ca cl cc wa wl wc ia il ic, v = .agg #[.slice ca cl cc, .slice wa wl wc, .slice ia il ic] := by
  obtain ⟨ca, cc, wa, wc, ia, ic, e, _⟩ := h.shape; exact ⟨ca, _, cc, wa, _, wc, ia, _, ic, e⟩
theorem SetC.shape' {w : World} {v : Value} {cs ws is : List Int} (h : SetC w v cs ws is) : ∃ ca cl cc wa wl wc ia il ic, v = .agg #[.slice ca cl cc, .slice wa wl wc, .slice ia il ic] := h.setV.shape'
/-- A result: a set with room, and an error. -/
def RetC (e : Int) (cs ws is : List Int) (w : World) (r : Ending) (w' : World) : Prop := ∃ a1 l1 c1 a2 l2 c2 a3 l3 c3, r = .returned (.tuple #[.agg #[.slice a1 l1 c1, .slice a2 l2 c2, .slice a3 l3 c3], .int .i64 e]) ∧ SetC w' (.agg #[.slice a1 l1 c1, .slice a2 l2 c2, .slice a3 l3 c3]) cs ws is ∧ Ext w w'
theorem SetRes.retC {e : Int} {cs ws is : List Int} {w : World} {r : Ending} {w' : World} (h : SetRes e cs ws is w r w') : RetC e cs ws is w r w' := by
  obtain ⟨v, rfl, h1, h2⟩ := h
  obtain ⟨a1, l1, c1, a2, l2, c2, a3, l3, c3, rfl⟩ := h1.setV.shape'
  exact ⟨a1, l1, c1, a2, l2, c2, a3, l3, c3, rfl, h1.setC, h2⟩
/-- A variable of three cells. -/
def Var3 (t : TypeId) (w : World) (b : Nat) (x y z : Value) : Prop := w.heap[b]? = some (.cells #[x, y, z] t (0, 0))
theorem Var3.ext {t : TypeId} {w w' : World} {b : Nat} {x y z : Value} (h : Var3 t w b x y z) (hx : Ext w w') : Var3 t w' b x y z := (hx.block b (lt_heap h)).trans h
theorem Var3.new (t : TypeId) (w : World) (x y z : Value) : Var3 t (w.alloc (.cells #[x, y, z] t)) w.heap.size x y z := heap_new _ _
theorem Var3.cells {t : TypeId} {w : World} {b : Nat} {x y z : Value} (h : Var3 t w b x y z) : w.cell? ⟨b, 0, none⟩ = some x ∧ w.cell? ⟨b, 1, none⟩ = some y ∧ w.cell? ⟨b, 2, none⟩ = some z := cells3 h
/-- A variable that holds an expression. -/
def VarE (w : World) (b : Nat) (op wd n : Int) (kv : Value) : Prop := w.heap[b]? = some (.cells #[.int .i64 op, .int .i64 wd, .int .i64 n, kv] 25 (0, 0))
theorem VarE.ext {w w' : World} {b : Nat} {op wd n : Int} {kv : Value} (h : VarE w b op wd n kv) (hx : Ext w w') : VarE w' b op wd n kv := (hx.block b (lt_heap h)).trans h
theorem VarE.new (w : World) (op wd n : Int) (kv : Value) : VarE (w.alloc (.cells #[.int .i64 op, .int .i64 wd, .int .i64 n, kv] 25)) w.heap.size op wd n kv := heap_new _ _
theorem VarE.cells {w : World} {b : Nat} {op wd n : Int} {kv : Value} (h : VarE w b op wd n kv) : w.cell? ⟨b, 0, none⟩ = some (.int .i64 op) ∧ w.cell? ⟨b, 1, none⟩ = some (.int .i64 wd) ∧ w.cell? ⟨b, 2, none⟩ = some (.int .i64 n) ∧ w.cell? ⟨b, 3, none⟩ = some kv := by
  unfold VarE at h; simp [World.cell?, h]
theorem EVal.shapeN {w : World} {v : Value} {op wd n : Int} {ks : List E} (h : EVal w v (.mk op wd n ks)) : ∃ a l c, v = .agg #[.int .i64 op, .int .i64 wd, .int .i64 n, .slice a l c] ∧ EVal w (.agg #[.int .i64 op, .int .i64 wd, .int .i64 n, .slice a l c]) (.mk op wd n ks) := by
  obtain ⟨a, c, h1, h2⟩ := h.shape'; exact ⟨a, _, c, h1, ⟨_, rfl, h2⟩⟩
theorem ev_leaf (w : World) (op wd n : Int) : EVal w (.agg #[.int .i64 op, .int .i64 wd, .int .i64 n, .slice none 0 0]) (.mk op wd n []) := ⟨_, rfl, .inl ⟨⟨_, _, rfl⟩, rfl⟩⟩
theorem old_at {w w' : World} {b : Nat} {o : Obj} (h : w.heap[b]? = some o) (hx : Ext w w') : w'.heap[b]? = some o := (hx.block b (lt_heap h)).trans h
theorem heap_new1 (w : World) (a b : Obj) : ((w.alloc a).alloc b).heap[w.heap.size]? = some a := old_at (heap_new w a) ((Ext.refl _).alloc _)
theorem heap_new2 (w : World) (a b : Obj) : ((w.alloc a).alloc b).heap[w.heap.size + 1]? = some b := by
  have := heap_new (w.alloc a) b; rwa [World.size_alloc] at this
/-- A row of ints just made. -/
theorem ints_row {w : World} {b n : Nat} {l : List Int} {t : TypeId} (h : w.heap[b]? = some (.cells (l.map (Value.int .i64)).toArray t (0, 0))) (hn : l.length = n) (hm : n ≤ 1000) : Ints w (.slice (some ⟨b, 0, none⟩) n n) l := by
  subst hn
  refine .inr ⟨b, 0, l.length, rfl, by omega, fun i hi => ?_⟩
  rw [Nat.mul_one, Nat.zero_add]
  unfold IntAt
  rw [cell_of_row _ _ _ _ _ _ h]
  simp [hi]
theorem setc_in {w : World} {v1 v2 v3 : Value} {cs ws is : List Int} (h : SetC w (.agg #[v1, v2, v3]) cs ws is) : Ints w v3 is := by
  obtain ⟨_, _, _, e, _, _, h3⟩ := h
  cases e; exact h3.1
theorem setc_len {w : World} {v1 v2 : Value} {a : Option Addr} {n c : Nat} {cs ws is : List Int} (h : SetC w (.agg #[v1, v2, .slice a n c]) cs ws is) : n = is.length := by
  obtain ⟨_, _, _, e, _, _, h3⟩ := h
  cases e
  obtain ⟨_, _, e, _⟩ := h3.2
  cases e; rfl
end Go.Proofs.YtlcgbdjmlnjhcaaGreatDoor
namespace Go.Proofs.YtlcgbdjmlnjhcaaGreatDoor
open Go.RowKit
theorem VarE.lt {w : World} {b : Nat} {op wd n : Int} {kv : Value} (h : VarE w b op wd n kv) : b < w.heap.size := heap_lt' h
end Go.Proofs.YtlcgbdjmlnjhcaaGreatDoor
namespace Go.Proofs.YtlcgbdjmlnjhcaaGreatDoor
open Go.RowKit

/-- The number of kids of an operator, -1 if it is unknown. -/
def arityS (op : Int) : Int := if 1 ≤ op ∧ op ≤ 3 then 0 else if op = 4 then 1 else if 5 ≤ op ∧ op ≤ 13 then 2 else if op = 14 then 3 else -1

set_option maxHeartbeats 400000 in
theorem arity_any (op : Int) (w : World) : Calls Tryz.prog 102 #[.int .i64 op] w fun e w' => e = .returned (.int .i64 (arityS op)) ∧ w' = w := by
  have hc : op < 1 ∨ (1 ≤ op ∧ op ≤ 3) ∨ op = 4 ∨ (5 ≤ op ∧ op ≤ 13) ∨ op = 14 ∨ 14 < op := by omega
  rcases hc with h | ⟨h, h'⟩ | rfl | ⟨h, h'⟩ | rfl | h
  · have HF : Hid (arityS op = -1) := by unfold Hid arityS; rw [if_neg (by omega), if_neg (by omega), if_neg (by omega), if_neg (by omega)]
    go_enter Tryz.func102, Tryz.ntmps102
    go_wp2
    go_ret
    exact ⟨by rw [HF.out]; rfl, rfl⟩
  · have HF : Hid (arityS op = 0) := by unfold Hid arityS; rw [if_pos (by omega)]
    go_enter Tryz.func102, Tryz.ntmps102
    go_wp2
    go_ret
    exact ⟨by rw [HF.out]; rfl, rfl⟩
  · go_enter Tryz.func102, Tryz.ntmps102
    go_wp2
    go_ret
    exact ⟨rfl, rfl⟩
  · have HF : Hid (arityS op = 2) := by unfold Hid arityS; rw [if_neg (by omega), if_neg (by omega), if_pos (by omega)]
    go_enter Tryz.func102, Tryz.ntmps102
    go_wp2
    go_ret
    exact ⟨by rw [HF.out]; rfl, rfl⟩
  · go_enter Tryz.func102, Tryz.ntmps102
    go_wp2
    go_ret
    exact ⟨rfl, rfl⟩
  · have HF : Hid (arityS op = -1) := by unfold Hid arityS; rw [if_neg (by omega), if_neg (by omega), if_neg (by omega), if_neg (by omega)]
    go_enter Tryz.func102, Tryz.ntmps102
    go_wp2
    go_ret
    exact ⟨by rw [HF.out]; rfl, rfl⟩

end Go.Proofs.YtlcgbdjmlnjhcaaGreatDoor
