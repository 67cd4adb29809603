/-
  The walk of Read's closure: the leaves and the failures.
  The walks of constant, isConst, isOnes, negation.
  The walk of Subst.
-/
import Derived.Test.YtlcgbdjmlnjhcaaGreatDoorG24
import Derived.Test.YtlcgbdjmlnjhcaaGreatDoorG17
import Derived.Test.YtlcgbdjmlnjhcaaGreatDoorG02
import Derived.Test.YtlcgbdjmlnjhcaaGreatDoorG15
import Derived.Test.YtlcgbdjmlnjhcaaGreatDoorG10
namespace Go.Proofs.YtlcgbdjmlnjhcaaGreatDoor
open Go.RowKit

abbrev zeroA : Array Value := #[.int .i64 0, .int .i64 0, .int .i64 0, .slice none 0 0]
end Go.Proofs.YtlcgbdjmlnjhcaaGreatDoor
namespace Go.Proofs.YtlcgbdjmlnjhcaaGreatDoor
open Go.RowKit

/-- A result that is an expression whose kids lie from block N on. -/
def NewN (N : Nat) (e : E) (w : World) (r : Ending) (w' : World) : Prop := (∃ v, r = .returned v ∧ EValB N w' v e) ∧ Ext w w'

set_option maxHeartbeats 400000 in
theorem constant_any (n wd : Int) (w : World) : Calls Tryz.prog 92 #[.int .i64 n, .int .i64 wd] w fun r w' => r = .returned (.agg #[.int .i64 1, .int .i64 wd, .int .i64 n, .slice none 0 0]) ∧ Ext w w' := by
  go_enter Tryz.func92, Tryz.ntmps92
  go_wp2_with fail
  exact bodyPost_ret (v := .agg #[.int .i64 1, .int .i64 wd, .int .i64 n, .slice none 0 0]) (by simp [results, Tryz.results92, go_sem]) rfl ⟨rfl, (Ext.refl w).alloc _⟩

/-- Is it the constant n? -/
def E.isC (e : E) (n : Int) : Bool := decide (e.op = 1) && decide (e.n = n)

set_option maxHeartbeats 400000 in
theorem isConst_any (e : E) (v : Value) (n : Int) (w : World) (he : EVal w v e) : Calls Tryz.prog 91 #[v, .int .i64 n] w fun r w' => r = .returned (.bool (e.isC n)) ∧ Ext w w' := by
  obtain ⟨a, l, c, rfl, hk⟩ := he.shape
  clear hk he
  by_cases c1 : e.op = 1
  · have hb : ((e.op : Int) == 1) = true := by simp [c1]
    have HF : Hid (e.isC n = decide (e.n = n)) := by simp [Hid, E.isC, c1]
    clear c1
    go_enter Tryz.func91, Tryz.ntmps91
    go_wp2_with fail
    go_ret
    exact ⟨by rw [HF.out]; exact ret_bool (by rw [Bool.eq_iff_iff]; simp), (Ext.refl w).alloc _⟩
  · have hb : ((e.op : Int) == 1) = false := by rw [beq_eq_false_iff_ne]; exact c1
    have HF : Hid (e.isC n = false) := by simp [Hid, E.isC, c1]
    clear c1
    go_enter Tryz.func91, Tryz.ntmps91
    go_wp2_with fail
    go_ret
    exact ⟨by rw [HF.out]; rfl, (Ext.refl w).alloc _⟩


/-- The negation. -/
def E.neg (e : E) : E := if e.op = 4 then e.kids.getD 0 (.mk 0 0 0 []) else .mk 4 e.wd 0 [e]

/-- One expression in a new block. -/
theorem kidsB_one {N : Nat} {w : World} {e : E} {k : Value} {t : TypeId} (hN : N ≤ w.heap.size) (hk : KidsB N w k e.kids) : KidsB N (w.alloc (.cells #[.int .i64 e.op, .int .i64 e.wd, .int .i64 e.n, k] t)) (.slice (some ⟨w.heap.size, 0, none⟩) 1 1) [e] := by
  have hk' := hk.keep (((Ext.refl w).alloc (.cells #[.int .i64 e.op, .int .i64 e.wd, .int .i64 e.n, k] t)).asFrom N)
  refine .inr ⟨_, _, _, rfl, by simp, hN, fun i hi => ?_⟩
  obtain rfl : i = 0 := by simp at hi; omega
  obtain ⟨op, wd, n, ks⟩ := e
  rcases hk' with ⟨rfl, hks⟩ | ⟨b', o', cap, rfl, hl, hb, h2⟩
  · simp at hks; subst hks; exact .leaf (by simp) (by simp) (by simp) (by simp)
  · exact .node (cap := cap) (by simp) (by simp) (by simp) (by simp) hl hb h2

/-- A kid's cells and value. -/
theorem KidsB.get {N : Nat} {w : World} {b o n cap : Nat} {ks : List E} (h : KidsB N w (.slice (some ⟨b, o, none⟩) n cap) ks) (i : Nat) (hi : i < ks.length) : ∃ a l c, w.cell? ⟨b, o + i * 4, none⟩ = some (.int .i64 ks[i].op) ∧ w.cell? ⟨b, o + i * 4 + 1, none⟩ = some (.int .i64 ks[i].wd) ∧ w.cell? ⟨b, o + i * 4 + 2, none⟩ = some (.int .i64 ks[i].n) ∧
    w.cell? ⟨b, o + i * 4 + 3, none⟩ = some (.slice a l c) ∧ KidsB N w (.slice a l c) ks[i].kids := by
  rcases h with ⟨h, _⟩ | ⟨b', o', cap', h, _, _, h2⟩
  · cases h
  · cases h
    have := h2 i hi
    generalize ks[i] = e at this ⊢
    cases this with
    | leaf c0 c1 c2 c3 => exact ⟨_, _, _, c0, c1, c2, c3, .inl ⟨rfl, rfl⟩⟩
    | node c0 c1 c2 c3 hl hb hk => exact ⟨_, _, _, c0, c1, c2, c3, .inr ⟨_, _, _, rfl, hl, hb, hk⟩⟩


/-- A node over one expression that lies alone in a block. -/
theorem kidsB_at {N : Nat} {w W : World} {nb : Nat} {e : E} {k : Value} {t : TypeId} (hN : N ≤ nb) (hk : KidsB N w k e.kids) (hx : Ext w W) (hb : W.heap[nb]? = some (.cells #[.int .i64 e.op, .int .i64 e.wd, .int .i64 e.n, k] t (0, 0))) : KidsB N W (.slice (some ⟨nb, 0, none⟩) 1 1) [e] := by
  obtain ⟨c0, c1, c2, c3, _⟩ := cells_of_block hb
  have hk' := hk.keep (hx.asFrom N)
  refine .inr ⟨_, _, _, rfl, by simp, hN, fun i hi => ?_⟩
  obtain rfl : i = 0 := by simp at hi; omega
  obtain ⟨op, wd, n, ks⟩ := e
  rcases hk' with ⟨rfl, hks⟩ | ⟨b', o', cap, rfl, hl, hb, h2⟩
  · simp at hks; subst hks; exact .leaf c0 c1 c2 c3
  · exact .node c0 c1 c2 c3 hl hb h2
end Go.Proofs.YtlcgbdjmlnjhcaaGreatDoor
namespace Go.Proofs.YtlcgbdjmlnjhcaaGreatDoor
open Go.RowKit

/-- An assignment in memory. -/
def AssignAt (w : World) (b o : Nat) (a : Int × E) : Prop := w.cell? ⟨b, o, none⟩ = some (.int .i64 a.1) ∧ IsE w b (o + 1) a.2
theorem AssignAt.keeps : Keeps AssignAt := fun _ _ _ _ _ he h => ⟨he.cell h.1, h.2.ext he⟩
def Assigns (w : World) (v : Value) (l : List (Int × E)) : Prop := SliceAt 5 AssignAt w v l
theorem Assigns.ext {w w' : World} {v : Value} {l : List (Int × E)} (h : Assigns w v l) (he : Ext w w') : Assigns w' v l := SliceAt.ext AssignAt.keeps h he

/-- The first expression that is assigned to a cell. -/
def toS (l : List (Int × E)) (j : Nat) : Option E := (l.find? fun a => decide (a.1 = (j : Int))).map (·.2)
theorem toS_skip {l : List (Int × E)} {a : Int × E} (h : a.1 < 0 ∨ 32 ≤ a.1 ∨ (toS l a.1.toNat).isSome = true) (j : Nat) (hj : j < 32) : toS (l ++ [a]) j = toS l j := by
  simp only [toS, List.find?_append]
  cases hf : l.find? (fun a => decide (a.1 = (j : Int))) with
  | some x => simp
  | none =>
    have hne : ¬ a.1 = (j : Int) := by
      intro e
      rcases h with h | h | h
      · omega
      · omega
      · rw [e, Int.toNat_natCast] at h; simp [toS, hf] at h
    simp [hne]
theorem toS_new {l : List (Int × E)} {a : Int × E} {c : Nat} (h : a.1 = (c : Int)) (hn : toS l c = none) (j : Nat) : toS (l ++ [a]) j = if j = c then some a.2 else toS l j := by
  simp only [toS, List.find?_append]
  by_cases e : j = c
  · subst e
    have : l.find? (fun a => decide (a.1 = (j : Int))) = none := by simpa [toS] using hn
    simp [this, h]
  · have hne : ¬ a.1 = (j : Int) := by omega
    simp [hne, e]

theorem BoolsAt.congr32 {w : World} {A : Nat} {f g : Nat → Bool} (h : BoolsAt w A f) (e : ∀ j, j < 32 → f j = g j) : BoolsAt w A g := by
  have : bools f = bools g := by
    unfold bools; congr 1
    exact List.map_congr_left fun j hj => by rw [e j (by simpa using hj)]
  unfold BoolsAt at *; rw [← this]; exact h

end Go.Proofs.YtlcgbdjmlnjhcaaGreatDoor
