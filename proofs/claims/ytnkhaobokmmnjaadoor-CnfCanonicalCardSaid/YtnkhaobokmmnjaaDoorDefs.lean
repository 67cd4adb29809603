/-
  Plain definitions for the walks: expressions as trees, and what it means that memory holds them.
-/
import Derived.WalkKit
import Derived.WalkSpells
import Derived.WalkLawsBesides
import Derived.Lib.Hide
namespace Go.Proofs.YtnkhaobokmmnjaaDoor
open Go.RowKit

/-- An expression: operator, width, number, kids. -/
inductive E where
  | mk (op wd n : Int) (kids : List E)

def E.op : E → Int | .mk o _ _ _ => o
def E.wd : E → Int | .mk _ w _ _ => w
def E.n : E → Int | .mk _ _ n _ => n
def E.kids : E → List E | .mk _ _ _ k => k

@[simp] theorem E.op_mk (o w n : Int) (k : List E) : (E.mk o w n k).op = o := rfl
@[simp] theorem E.wd_mk (o w n : Int) (k : List E) : (E.mk o w n k).wd = w := rfl
@[simp] theorem E.n_mk (o w n : Int) (k : List E) : (E.mk o w n k).n = n := rfl
@[simp] theorem E.kids_mk (o w n : Int) (k : List E) : (E.mk o w n k).kids = k := rfl

/-- The world has only grown: what was there is as it was. -/
def Ext (w w' : World) : Prop := Below w.heap.size w w'

theorem Ext.refl (w : World) : Ext w w := Below.refl _ _
theorem Ext.size {w w' : World} (h : Ext w w') : w.heap.size ≤ w'.heap.size := Below.size h
theorem Ext.trans {a b c : World} (h : Ext a b) (k : Ext b c) : Ext a c := Below.trans h (Below.mono k h.size)
theorem Ext.drew {a w : World} (h : Ext a w) : Ext a w.drew := Below.drew h
theorem Ext.drewN {a w : World} (h : Ext a w) (n : Nat) : Ext a (w.drewN n) := ⟨h.os, h.tape, h.output, h.size, h.block⟩
theorem Ext.alloc {a w : World} (h : Ext a w) (o : Obj) : Ext a (w.alloc o) := Below.alloc h h.size o
theorem Ext.setCell {a w : World} (h : Ext a w) {p : Addr} (hp : a.heap.size ≤ p.block) (u : Value) : Ext a (w.setCell p u) := Below.setCell h hp u
theorem Ext.block {a w : World} (h : Ext a w) (k : Nat) (hk : k < a.heap.size) : w.heap[k]? = a.heap[k]? := Below.block h k hk
theorem Ext.cellEq {a w : World} (h : Ext a w) {p : Addr} (hp : p.block < a.heap.size) : w.cell? p = a.cell? p := Below.cell h hp
theorem Ext.frozenEq {a w : World} (h : Ext a w) {p : Addr} (hp : p.block < a.heap.size) : w.frozen? p = a.frozen? p := Below.frozen h hp

/-- A cell that holds something lies in a block. -/
theorem block_lt {w : World} {p : Addr} {v : Value} (h : w.cell? p = some v) : p.block < w.heap.size := by
  rcases Nat.lt_or_ge p.block w.heap.size with h1 | h1
  · exact h1
  · have : w.heap[p.block]? = none := Array.getElem?_eq_none_iff.2 h1
    simp [World.cell?, this] at h

theorem Ext.cell {a w : World} (h : Ext a w) {p : Addr} {v : Value} (hc : a.cell? p = some v) : w.cell? p = some v := by
  rw [h.cellEq (block_lt hc)]; exact hc

/-- What the walk makes of a later world: the old cells and marks read as before. -/
theorem Ext.rules {W w1 : World} (hb : Ext W w1) : (∀ b o, b < W.heap.size → w1.cell? ⟨b, o, none⟩ = W.cell? ⟨b, o, none⟩) ∧ (∀ b o, b < W.heap.size → w1.frozen? ⟨b, o, none⟩ = W.frozen? ⟨b, o, none⟩) :=
  ⟨fun b o h => hb.cellEq (p := ⟨b, o, none⟩) h, fun b o h => hb.frozenEq (p := ⟨b, o, none⟩) h⟩

/-- The expression lies at block b, offset o. -/
inductive IsE (w : World) : Nat → Nat → E → Prop
  | leaf {b o : Nat} {op wd n : Int} {ea : Option Addr} {ec : Nat} : w.cell? ⟨b, o, .none⟩ = some (.int .i64 op) → w.cell? ⟨b, o + 1, .none⟩ = some (.int .i64 wd) → w.cell? ⟨b, o + 2, .none⟩ = some (.int .i64 n) →
      w.cell? ⟨b, o + 3, .none⟩ = some (.slice ea 0 ec) → IsE w b o (.mk op wd n [])
  | node {b o : Nat} {op wd n : Int} {ks : List E} {b' o' cap : Nat} : w.cell? ⟨b, o, .none⟩ = some (.int .i64 op) → w.cell? ⟨b, o + 1, .none⟩ = some (.int .i64 wd) → w.cell? ⟨b, o + 2, .none⟩ = some (.int .i64 n) →
      w.cell? ⟨b, o + 3, .none⟩ = some (.slice (.some ⟨b', o', .none⟩) ks.length cap) → ks.length ≤ 9223372036854775807 → (∀ (i : Nat) (h : i < ks.length), IsE w b' (o' + i * 4) ks[i]) → IsE w b o (.mk op wd n ks)

/-- A slice value over a list: elements of sz cells, each as P says. -/
def SliceAt {α : Type} (sz : Nat) (P : World → Nat → Nat → α → Prop) (w : World) (v : Value) (l : List α) : Prop :=
  ((∃ (a : Option Addr) (c : Nat), v = .slice a 0 c) ∧ l = []) ∨ ∃ b o cap : Nat, v = .slice (.some ⟨b, o, .none⟩) l.length cap ∧ l.length ≤ 9223372036854775807 ∧ ∀ (i : Nat) (h : i < l.length), P w b (o + i * sz) l[i]

/-- P is kept when the world grows. -/
def Keeps {α : Type} (P : World → Nat → Nat → α → Prop) : Prop := ∀ (w w' : World) (b o : Nat) (x : α), Ext w w' → P w b o x → P w' b o x

theorem SliceAt.ext {α : Type} {sz : Nat} {P : World → Nat → Nat → α → Prop} (hP : Keeps P) {w w' : World} {v : Value} {l : List α} (h : SliceAt sz P w v l) (he : Ext w w') : SliceAt sz P w' v l := by
  rcases h with h | ⟨b, o, cap, h1, hl, h2⟩
  · exact .inl h
  · exact .inr ⟨b, o, cap, h1, hl, fun i hi => hP _ _ _ _ _ he (h2 i hi)⟩

theorem IsE.ext {w w' : World} {b o : Nat} {e : E} (h : IsE w b o e) (he : Ext w w') : IsE w' b o e := by
  induction h with
  | leaf h0 h1 h2 h3 => exact .leaf (he.cell h0) (he.cell h1) (he.cell h2) (he.cell h3)
  | node h0 h1 h2 h3 hl _ ih => exact .node (he.cell h0) (he.cell h1) (he.cell h2) (he.cell h3) hl ih

theorem IsE.keeps : Keeps IsE := fun _ _ _ _ _ he h => h.ext he

/-- The kids, as a slice's value. -/
def Kids (w : World) (v : Value) (ks : List E) : Prop := SliceAt 4 IsE w v ks
theorem Kids.ext {w w' : World} {v : Value} {ks : List E} (h : Kids w v ks) (he : Ext w w') : Kids w' v ks := SliceAt.ext IsE.keeps h he

/-- The four cells of an expression in memory, and its kids. -/
theorem IsE.cells {w : World} {b o : Nat} {e : E} (h : IsE w b o e) : w.cell? ⟨b, o, .none⟩ = some (.int .i64 e.op) ∧ w.cell? ⟨b, o + 1, .none⟩ = some (.int .i64 e.wd) ∧ w.cell? ⟨b, o + 2, .none⟩ = some (.int .i64 e.n) ∧
    ∃ v, w.cell? ⟨b, o + 3, .none⟩ = some v ∧ Kids w v e.kids := by
  cases h with
  | leaf h0 h1 h2 h3 => exact ⟨h0, h1, h2, _, h3, .inl ⟨⟨_, _, rfl⟩, rfl⟩⟩
  | node h0 h1 h2 h3 hl h4 => exact ⟨h0, h1, h2, _, h3, .inr ⟨_, _, _, rfl, hl, h4⟩⟩

theorem IsE.of_cells {w : World} {b o : Nat} {e : E} {v : Value} (h0 : w.cell? ⟨b, o, .none⟩ = some (.int .i64 e.op)) (h1 : w.cell? ⟨b, o + 1, .none⟩ = some (.int .i64 e.wd)) (h2 : w.cell? ⟨b, o + 2, .none⟩ = some (.int .i64 e.n))
    (h3 : w.cell? ⟨b, o + 3, .none⟩ = some v) (hk : Kids w v e.kids) : IsE w b o e := by
  obtain ⟨op, wd, n, ks⟩ := e
  rcases hk with ⟨⟨ea, ec, rfl⟩, hk⟩ | ⟨b', o', cap, rfl, hl, hk⟩
  · simp at hk; subst hk; exact .leaf h0 h1 h2 h3
  · exact .node h0 h1 h2 h3 hl hk

/-- An expression by value. -/
def EVal (w : World) (v : Value) (e : E) : Prop := ∃ k, v = .agg #[.int .i64 e.op, .int .i64 e.wd, .int .i64 e.n, k] ∧ Kids w k e.kids
theorem EVal.ext {w w' : World} {v : Value} {e : E} (h : EVal w v e) (he : Ext w w') : EVal w' v e := by
  obtain ⟨k, h1, h2⟩ := h; exact ⟨k, h1, h2.ext he⟩

/-- A slice of ints. -/
def IntAt (w : World) (b o : Nat) (x : Int) : Prop := w.cell? ⟨b, o, .none⟩ = some (.int .i64 x)
theorem IntAt.keeps : Keeps IntAt := fun _ _ _ _ _ he h => Ext.cell he h
def Ints (w : World) (v : Value) (l : List Int) : Prop := SliceAt 1 IntAt w v l
theorem Ints.ext {w w' : World} {v : Value} {l : List Int} (h : Ints w v l) (he : Ext w w') : Ints w' v l := SliceAt.ext IntAt.keeps h he

/-- The length of a slice is the list's. -/
theorem SliceAt.shape {α : Type} {sz : Nat} {P : World → Nat → Nat → α → Prop} {w : World} {v : Value} {l : List α} (h : SliceAt sz P w v l) : ∃ a cap, v = .slice a l.length cap := by
  rcases h with ⟨⟨a, c, rfl⟩, rfl⟩ | ⟨b, o, cap, h1, _, _⟩
  · exact ⟨_, _, rfl⟩
  · exact ⟨_, _, h1⟩

/-- A cell of a program's state. -/
structure CellD where
  name : ByteArray
  W : Int
  init : Int
  thread : Int
  ghost : Bool
  module : Int
def CellAt (w : World) (b o : Nat) (c : CellD) : Prop :=
  w.cell? ⟨b, o, .none⟩ = some (.string c.name) ∧ w.cell? ⟨b, o + 1, .none⟩ = some (.int .i64 c.W) ∧ w.cell? ⟨b, o + 2, .none⟩ = some (.int .i64 c.init) ∧ w.cell? ⟨b, o + 3, .none⟩ = some (.int .i64 c.thread) ∧
    w.cell? ⟨b, o + 4, .none⟩ = some (.bool c.ghost) ∧ w.cell? ⟨b, o + 5, .none⟩ = some (.int .i64 c.module)
theorem CellAt.keeps : Keeps CellAt := fun _ _ _ _ _ he h => ⟨he.cell h.1, he.cell h.2.1, he.cell h.2.2.1, he.cell h.2.2.2.1, he.cell h.2.2.2.2.1, he.cell h.2.2.2.2.2⟩
def Cells (w : World) (v : Value) (l : List CellD) : Prop := SliceAt 6 CellAt w v l
theorem Cells.ext {w w' : World} {v : Value} {l : List CellD} (h : Cells w v l) (he : Ext w w') : Cells w' v l := SliceAt.ext CellAt.keeps h he

theorem SliceAt.len_le {α : Type} {sz : Nat} {P : World → Nat → Nat → α → Prop} {w : World} {v : Value} {l : List α} (h : SliceAt sz P w v l) : l.length ≤ 9223372036854775807 := by
  rcases h with ⟨_, rfl⟩ | ⟨b, o, cap, _, hl, _⟩
  · simp
  · exact hl

end Go.Proofs.YtnkhaobokmmnjaaDoor
