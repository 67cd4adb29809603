/-
  Plain definitions for the walks: expressions as trees, and what it means that memory holds them.
  The plain functions: what the program's expr functions compute, on trees and integers. No program in sight.
  Slices that a call makes for itself by append: ints; the laws that the walks use.
  The walk of strconv.FormatUint at base 16.
-/
import Derived.WalkKit
import Derived.WalkSpells
import Derived.WalkLawsBesides
import Derived.Lib.Hide
import Derived.Test.YtoopoljchhdobaaGreatDoorRows
import Derived.Test.YtoopoljchhdobaaGreatDoorMMa
import Derived.Test.YtoopoljchhdobaaGreatDoorShelf
import Derived.StillTailTactics
import Derived.Laws.Rows
import Derived.Laws.Tables
import Derived.Deep.DeepFit
import Derived.Laws.Slices
import Derived.Laws.IdiomStrings
import Derived.Shelf.Spec.TrailingZeros
namespace Go.Proofs.YtoopoljchhdobaaGreatDoor
open Go.RowKit

/-- An expression: operator, width, number, kids. -/
inductive E where
  | mk (op wd n : Int) (kids : List E)

def E.op : E → Int | .mk o _ _ _ => o
def E.wd : E → Int | .mk _ w _ _ => w
def E.n : E → Int | .mk _ _ n _ => n
def E.kids : E → List E | .mk _ _ _ k => k

@[simp] theorem E.op_mk (o w n : Int) (k : List E) : (E.mk o w n k).op = o := rfl
@[simp] theorem E.wd_mk (o w n : Int) (k : List E) : (E.mk o w n k).wd = w := rfl
@[simp] theorem E.n_mk (o w n : Int) (k : List E) : (E.mk o w n k).n = n := rfl
@[simp] theorem E.kids_mk (o w n : Int) (k : List E) : (E.mk o w n k).kids = k := rfl

/-- The world has only grown: what was there is as it was. -/
def Ext (w w' : World) : Prop := Below w.heap.size w w'

theorem Ext.refl (w : World) : Ext w w := Below.refl _ _
theorem Ext.size {w w' : World} (h : Ext w w') : w.heap.size ≤ w'.heap.size := Below.size h
theorem Ext.trans {a b c : World} (h : Ext a b) (k : Ext b c) : Ext a c := Below.trans h (Below.mono k h.size)
theorem Ext.drew {a w : World} (h : Ext a w) : Ext a w.drew := Below.drew h
theorem Ext.drewN {a w : World} (h : Ext a w) (n : Nat) : Ext a (w.drewN n) := ⟨h.os, h.tape, h.output, h.size, h.block⟩
theorem Ext.alloc {a w : World} (h : Ext a w) (o : Obj) : Ext a (w.alloc o) := Below.alloc h h.size o
theorem Ext.setCell {a w : World} (h : Ext a w) {p : Addr} (hp : a.heap.size ≤ p.block) (u : Value) : Ext a (w.setCell p u) := Below.setCell h hp u
theorem Ext.block {a w : World} (h : Ext a w) (k : Nat) (hk : k < a.heap.size) : w.heap[k]? = a.heap[k]? := Below.block h k hk
theorem Ext.cellEq {a w : World} (h : Ext a w) {p : Addr} (hp : p.block < a.heap.size) : w.cell? p = a.cell? p := Below.cell h hp
theorem Ext.frozenEq {a w : World} (h : Ext a w) {p : Addr} (hp : p.block < a.heap.size) : w.frozen? p = a.frozen? p := Below.frozen h hp

/-- A cell that holds something lies in a block. -/
theorem block_lt {w : World} {p : Addr} {v : Value} (h : w.cell? p = some v) : p.block < w.heap.size := by
  rcases Nat.lt_or_ge p.block w.heap.size with h1 | h1
  · exact h1
  · have : w.heap[p.block]? = none := Array.getElem?_eq_none_iff.2 h1
    simp [World.cell?, this] at h

theorem Ext.cell {a w : World} (h : Ext a w) {p : Addr} {v : Value} (hc : a.cell? p = some v) : w.cell? p = some v := by
  rw [h.cellEq (block_lt hc)]; exact hc

/-- What the walk makes of a later world: the old cells and marks read as before. -/
theorem Ext.rules {W w1 : World} (hb : Ext W w1) : (∀ b o, b < W.heap.size → w1.cell? ⟨b, o, none⟩ = W.cell? ⟨b, o, none⟩) ∧ (∀ b o, b < W.heap.size → w1.frozen? ⟨b, o, none⟩ = W.frozen? ⟨b, o, none⟩) :=
  ⟨fun b o h => hb.cellEq (p := ⟨b, o, none⟩) h, fun b o h => hb.frozenEq (p := ⟨b, o, none⟩) h⟩

/-- The expression lies at block b, offset o. -/
inductive IsE (w : World) : Nat → Nat → E → Prop
  | leaf {b o : Nat} {op wd n : Int} {ea : Option Addr} {ec : Nat} : w.cell? ⟨b, o, .none⟩ = some (.int .i64 op) → w.cell? ⟨b, o + 1, .none⟩ = some (.int .i64 wd) → w.cell? ⟨b, o + 2, .none⟩ = some (.int .i64 n) →
      w.cell? ⟨b, o + 3, .none⟩ = some (.slice ea 0 ec) → IsE w b o (.mk op wd n [])
  | node {b o : Nat} {op wd n : Int} {ks : List E} {b' o' cap : Nat} : w.cell? ⟨b, o, .none⟩ = some (.int .i64 op) → w.cell? ⟨b, o + 1, .none⟩ = some (.int .i64 wd) → w.cell? ⟨b, o + 2, .none⟩ = some (.int .i64 n) →
      w.cell? ⟨b, o + 3, .none⟩ = some (.slice (.some ⟨b', o', .none⟩) ks.length cap) → ks.length ≤ 9223372036854775807 → (∀ (i : Nat) (h : i < ks.length), IsE w b' (o' + i * 4) ks[i]) → IsE w b o (.mk op wd n ks)

/-- A slice value over a list: elements of sz cells, each as P says. -/
def SliceAt {α : Type} (sz : Nat) (P : World → Nat → Nat → α → Prop) (w : World) (v : Value) (l : List α) : Prop :=
  ((∃ (a : Option Addr) (c : Nat), v = .slice a 0 c) ∧ l = []) ∨ ∃ b o cap : Nat, v = .slice (.some ⟨b, o, .none⟩) l.length cap ∧ l.length ≤ 9223372036854775807 ∧ ∀ (i : Nat) (h : i < l.length), P w b (o + i * sz) l[i]

/-- P is kept when the world grows. -/
def Keeps {α : Type} (P : World → Nat → Nat → α → Prop) : Prop := ∀ (w w' : World) (b o : Nat) (x : α), Ext w w' → P w b o x → P w' b o x

theorem SliceAt.ext {α : Type} {sz : Nat} {P : World → Nat → Nat → α → Prop} (hP : Keeps P) {w w' : World} {v : Value} {l : List α} (h : SliceAt sz P w v l) (he : Ext w w') : SliceAt sz P w' v l := by
  rcases h with h | ⟨b, o, cap, h1, hl, h2⟩
  · exact .inl h
  · exact .inr ⟨b, o, cap, h1, hl, fun i hi => hP _ _ _ _ _ he (h2 i hi)⟩

theorem IsE.ext {w w' : World} {b o : Nat} {e : E} (h : IsE w b o e) (he : Ext w w') : IsE w' b o e := by
  induction h with
  | leaf h0 h1 h2 h3 => exact .leaf (he.cell h0) (he.cell h1) (he.cell h2) (he.cell h3)
  | node h0 h1 h2 h3 hl _ ih => exact .node (he.cell h0) (he.cell h1) (he.cell h2) (he.cell h3) hl ih

theorem IsE.keeps : Keeps IsE := fun _ _ _ _ _ he h => h.ext he

/-- The kids, as a slice's value. -/
def Kids (w : World) (v : Value) (ks : List E) : Prop := SliceAt 4 IsE w v ks
theorem Kids.ext {w w' : World} {v : Value} {ks : List E} (h : Kids w v ks) (he : Ext w w') : Kids w' v ks := SliceAt.ext IsE.keeps h he

/-- The four cells of an expression in memory, and its kids. -/
theorem IsE.cells {w : World} {b o : Nat} {e : E} (h : IsE w b o e) : w.cell? ⟨b, o, .none⟩ = some (.int .i64 e.op) ∧ w.cell? ⟨b, o + 1, .none⟩ = some (.int .i64 e.wd) ∧ w.cell? ⟨b, o + 2, .none⟩ = some (.int .i64 e.n) ∧
    ∃ v, w.cell? ⟨b, o + 3, .none⟩ = some v ∧ Kids w v e.kids := by
  cases h with
  | leaf h0 h1 h2 h3 => exact ⟨h0, h1, h2, _, h3, .inl ⟨⟨_, _, rfl⟩, rfl⟩⟩
  | node h0 h1 h2 h3 hl h4 => exact ⟨h0, h1, h2, _, h3, .inr ⟨_, _, _, rfl, hl, h4⟩⟩

theorem IsE.of_cells {w : World} {b o : Nat} {e : E} {v : Value} (h0 : w.cell? ⟨b, o, .none⟩ = some (.int .i64 e.op)) (h1 : w.cell? ⟨b, o + 1, .none⟩ = some (.int .i64 e.wd)) (h2 : w.cell? ⟨b, o + 2, .none⟩ = some (.int .i64 e.n))
    (h3 : w.cell? ⟨b, o + 3, .none⟩ = some v) (hk : Kids w v e.kids) : IsE w b o e := by
  obtain ⟨op, wd, n, ks⟩ := e
  rcases hk with ⟨⟨ea, ec, rfl⟩, hk⟩ | ⟨b', o', cap, rfl, hl, hk⟩
  · simp at hk; subst hk; exact .leaf h0 h1 h2 h3
  · exact .node h0 h1 h2 h3 hl hk

/-- An expression by value. -/
def EVal (w : World) (v : Value) (e : E) : Prop := ∃ k, v = .agg #[.int .i64 e.op, .int .i64 e.wd, .int .i64 e.n, k] ∧ Kids w k e.kids
theorem EVal.ext {w w' : World} {v : Value} {e : E} (h : EVal w v e) (he : Ext w w') : EVal w' v e := by
  obtain ⟨k, h1, h2⟩ := h; exact ⟨k, h1, h2.ext he⟩

/-- A slice of ints. -/
def IntAt (w : World) (b o : Nat) (x : Int) : Prop := w.cell? ⟨b, o, .none⟩ = some (.int .i64 x)
theorem IntAt.keeps : Keeps IntAt := fun _ _ _ _ _ he h => Ext.cell he h
def Ints (w : World) (v : Value) (l : List Int) : Prop := SliceAt 1 IntAt w v l
theorem Ints.ext {w w' : World} {v : Value} {l : List Int} (h : Ints w v l) (he : Ext w w') : Ints w' v l := SliceAt.ext IntAt.keeps h he

/-- The length of a slice is the list's. -/
theorem SliceAt.shape {α : Type} {sz : Nat} {P : World → Nat → Nat → α → Prop} {w : World} {v : Value} {l : List α} (h : SliceAt sz P w v l) : ∃ a cap, v = .slice a l.length cap := by
  rcases h with ⟨⟨a, c, rfl⟩, rfl⟩ | ⟨b, o, cap, h1, _, _⟩
  · exact ⟨_, _, rfl⟩
  · exact ⟨_, _, h1⟩

/-- A cell of a program's state. -/
structure CellD where
  name : ByteArray
  W : Int
  init : Int
  thread : Int
  ghost : Bool
  module : Int
def CellAt (w : World) (b o : Nat) (c : CellD) : Prop :=
  w.cell? ⟨b, o, .none⟩ = some (.string c.name) ∧ w.cell? ⟨b, o + 1, .none⟩ = some (.int .i64 c.W) ∧ w.cell? ⟨b, o + 2, .none⟩ = some (.int .i64 c.init) ∧ w.cell? ⟨b, o + 3, .none⟩ = some (.int .i64 c.thread) ∧
    w.cell? ⟨b, o + 4, .none⟩ = some (.bool c.ghost) ∧ w.cell? ⟨b, o + 5, .none⟩ = some (.int .i64 c.module)
theorem CellAt.keeps : Keeps CellAt := fun _ _ _ _ _ he h => ⟨he.cell h.1, he.cell h.2.1, he.cell h.2.2.1, he.cell h.2.2.2.1, he.cell h.2.2.2.2.1, he.cell h.2.2.2.2.2⟩
def Cells (w : World) (v : Value) (l : List CellD) : Prop := SliceAt 6 CellAt w v l
theorem Cells.ext {w w' : World} {v : Value} {l : List CellD} (h : Cells w v l) (he : Ext w w') : Cells w' v l := SliceAt.ext CellAt.keeps h he

theorem SliceAt.len_le {α : Type} {sz : Nat} {P : World → Nat → Nat → α → Prop} {w : World} {v : Value} {l : List α} (h : SliceAt sz P w v l) : l.length ≤ 9223372036854775807 := by
  rcases h with ⟨_, rfl⟩ | ⟨b, o, cap, _, hl, _⟩
  · simp
  · exact hl

end Go.Proofs.YtoopoljchhdobaaGreatDoor
namespace Go.Proofs.YtoopoljchhdobaaGreatDoor
open Go.RowKit

/-- 2 to the power of a width. -/
def pw (w : Int) : Int := 2 ^ w.toNat
/-- An element of a state, 0 if there is none. -/
def elemS (l : List Int) (i : Int) : Int := l.getD i.toNat 0

/-- The operation, before it is cut to its width. -/
def applyS (op a b c : Int) : Int :=
  if op = 4 then -1 - a else if op = 5 then ((a.toNat &&& b.toNat : Nat) : Int) else if op = 6 then ((a.toNat ||| b.toNat : Nat) : Int) else if op = 7 then ((a.toNat ^^^ b.toNat : Nat) : Int)
  else if op = 9 then a - b else if op = 8 then a + b else if op = 10 then a * b else if op = 11 then (if a = b then 1 else 0) else if op = 13 then (if a ≤ b then 1 else 0)
  else if op = 12 then (if a < b then 1 else 0) else if op = 14 then (if a = 1 then b else c) else 0

mutual
/-- The value of an expression. -/
def E.val (old now : List Int) : E → Int
  | .mk op wd n ks => if op = 1 then n else if op = 2 then elemS now n % pw wd else if op = 3 then elemS old n % pw wd
      else applyS op ((valAll old now ks).getD 0 0) ((valAll old now ks).getD 1 0) ((valAll old now ks).getD 2 0) % pw wd
def valAll (old now : List Int) : List E → List Int
  | [] => []
  | e :: r => e.val old now :: valAll old now r
end
theorem valAll_eq (old now : List Int) (ks : List E) : valAll old now ks = ks.map (·.val old now) := by
  induction ks with
  | nil => rfl
  | cons e r ih => simp [valAll, ih]

/-- A node satisfies the row of its operator; ws: the widths of its kids. -/
def shapedW (op wd n : Int) (ws : List Int) : Bool :=
  decide (1 ≤ wd) && decide (wd ≤ 8) &&
    (if op = 1 then decide (ws = []) && decide (0 ≤ n) && decide (n ≤ pw wd - 1)
     else if op = 2 ∨ op = 3 then decide (ws = []) && decide (0 ≤ n) && decide (n < 32)
     else if n ≠ 0 then false
     else if op = 4 then decide (ws = [wd])
     else if 5 ≤ op ∧ op ≤ 10 then decide (ws = [wd, wd])
     else if 11 ≤ op ∧ op ≤ 13 then decide (wd = 1) && decide (ws.length = 2) && decide (ws[0]? = ws[1]?)
     else if op = 14 then decide (ws = [1, wd, wd])
     else false)

mutual
/-- Number of nodes; depth. -/
def E.size : E → Nat
  | .mk _ _ _ ks => 1 + sizeAll ks
def sizeAll : List E → Nat
  | [] => 0
  | e :: r => e.size + sizeAll r
end
mutual
/-- All nodes are shaped, and none lies deeper than d. -/
def E.deep : E → Nat → Bool
  | .mk op wd n ks, d => decide (1 ≤ d) && shapedW op wd n (ks.map E.wd) && deepAll ks (d - 1)
def deepAll : List E → Nat → Bool
  | [], _ => true
  | e :: r, d => e.deep d && deepAll r d
end
/-- Well-formed. -/
def E.wf (e : E) : Bool := decide (e.size ≤ 600) && e.deep 40

theorem E.size_pos (e : E) : 1 ≤ e.size := by cases e; simp [E.size]
theorem sizeAll_eq (ks : List E) : sizeAll ks = (ks.map E.size).sum := by
  induction ks with
  | nil => rfl
  | cons e r ih => simp [sizeAll, ih]
theorem size_kid {op wd n : Int} {ks : List E} {k : E} (h : k ∈ ks) : k.size < (E.mk op wd n ks).size := by
  simp only [E.size]
  induction ks with
  | nil => cases h
  | cons e r ih =>
    simp only [sizeAll]
    rcases List.mem_cons.1 h with rfl | h
    · omega
    · have := ih h; omega
theorem deepAll_iff (ks : List E) (d : Nat) : deepAll ks d = true ↔ ∀ k ∈ ks, k.deep d = true := by
  induction ks with
  | nil => simp [deepAll]
  | cons e r ih => simp [deepAll, ih]

/-- Facts of a width. -/
theorem pw_cases {w : Int} (h1 : 1 ≤ w) (h2 : w ≤ 8) : (w = 1 ∧ pw w = 2) ∨ (w = 2 ∧ pw w = 4) ∨ (w = 3 ∧ pw w = 8) ∨ (w = 4 ∧ pw w = 16) ∨ (w = 5 ∧ pw w = 32) ∨ (w = 6 ∧ pw w = 64) ∨ (w = 7 ∧ pw w = 128) ∨ (w = 8 ∧ pw w = 256) := by
  obtain ⟨k, rfl⟩ := Int.eq_ofNat_of_zero_le (show 0 ≤ w by omega)
  have : k = 1 ∨ k = 2 ∨ k = 3 ∨ k = 4 ∨ k = 5 ∨ k = 6 ∨ k = 7 ∨ k = 8 := by omega
  rcases this with rfl | rfl | rfl | rfl | rfl | rfl | rfl | rfl <;> simp [pw]

/-- Go's bitwise operators on small numbers. -/
theorem i64_small (n : Int) (h₀ : 0 ≤ n) (h₁ : n < 2 ^ 62) : IntKind.i64.wrap n = n := by rw [IntKind.wrap_i64]; omega
theorem and_eq (a b : Int) (h0 : 0 ≤ a) (h1 : a ≤ 255) (h2 : 0 ≤ b) (h3 : b ≤ 255) : bits .and .i64 a b = ((a.toNat &&& b.toNat : Nat) : Int) := by
  obtain ⟨m, rfl⟩ := Int.eq_ofNat_of_zero_le h0
  obtain ⟨n, rfl⟩ := Int.eq_ofNat_of_zero_le h2
  exact (bits_nat .i64 62 (by decide) i64_small m n (by omega) (by omega)).1
theorem or_eq (a b : Int) (h0 : 0 ≤ a) (h1 : a ≤ 255) (h2 : 0 ≤ b) (h3 : b ≤ 255) : bits .or .i64 a b = ((a.toNat ||| b.toNat : Nat) : Int) := by
  obtain ⟨m, rfl⟩ := Int.eq_ofNat_of_zero_le h0
  obtain ⟨n, rfl⟩ := Int.eq_ofNat_of_zero_le h2
  exact (bits_nat .i64 62 (by decide) i64_small m n (by omega) (by omega)).2
theorem xor_eq (a b : Int) (h0 : 0 ≤ a) (h1 : a ≤ 255) (h2 : 0 ≤ b) (h3 : b ≤ 255) : bits .xor .i64 a b = ((a.toNat ^^^ b.toNat : Nat) : Int) := by
  obtain ⟨m, rfl⟩ := Int.eq_ofNat_of_zero_le h0
  obtain ⟨n, rfl⟩ := Int.eq_ofNat_of_zero_le h2
  have hm : m % 2 ^ 64 = m := Nat.mod_eq_of_lt (by omega)
  have hn : n % 2 ^ 64 = n := Nat.mod_eq_of_lt (by omega)
  have hx : m ^^^ n < 2 ^ 8 := Nat.xor_lt_two_pow (by omega) (by omega)
  have key : (BitVec.ofInt 64 (m : Int) ^^^ BitVec.ofInt 64 (n : Int)).toNat = m ^^^ n := by
    rw [BitVec.toNat_xor, BitVec.ofInt_natCast, BitVec.ofInt_natCast, BitVec.toNat_ofNat, BitVec.toNat_ofNat, hm, hn]
  show IntKind.i64.wrap ((BitVec.ofInt 64 (m : Int) ^^^ BitVec.ofInt 64 (n : Int)).toNat : Nat) = _
  rw [key, i64_small _ (by omega) (by have : ((m ^^^ n : Nat) : Int) < ((2 ^ 8 : Nat) : Int) := by exact_mod_cast hx
                                      omega)]
  rfl
theorem not_eq (a : Int) (h0 : 0 ≤ a) (h1 : a ≤ 255) : bits .xor .i64 (-1) a = -1 - a := by
  obtain ⟨m, rfl⟩ := Int.eq_ofNat_of_zero_le h0
  have hm : m % 2 ^ 64 = m := Nat.mod_eq_of_lt (by omega)
  have e1 : BitVec.ofInt 64 (-1) = BitVec.allOnes 64 := by decide
  have key : (BitVec.ofInt 64 (-1) ^^^ BitVec.ofInt 64 (m : Int)).toNat = 2 ^ 64 - 1 - m := by
    rw [e1, BitVec.allOnes_xor, BitVec.toNat_not, BitVec.ofInt_natCast, BitVec.toNat_ofNat, hm]
  show IntKind.i64.wrap ((BitVec.ofInt 64 (-1) ^^^ BitVec.ofInt 64 (m : Int)).toNat : Nat) = _
  rw [key, IntKind.wrap_i64]
  omega
theorem mask_nat (n : Int) (k : Nat) (hk : k ≤ 8) : bits .and .i64 n (2 ^ k - 1) = n % 2 ^ k := by
  have e : ((2 : Int) ^ k - 1) = ((2 ^ k - 1 : Nat) : Int) := by rw [Int.natCast_sub (Nat.two_pow_pos k)]; simp
  have hs : 2 ^ k ≤ 2 ^ 8 := Nat.pow_le_pow_right (by decide) hk
  have hp : 0 < 2 ^ k := Nat.two_pow_pos k
  have key : (BitVec.ofInt 64 n &&& BitVec.ofInt 64 ((2 : Int) ^ k - 1)).toNat = (n % ((2 ^ 64 : Nat) : Int)).toNat % 2 ^ k := by
    rw [BitVec.toNat_and, BitVec.toNat_ofInt, e, BitVec.ofInt_natCast, BitVec.toNat_ofNat, Nat.mod_eq_of_lt (a := 2 ^ k - 1) (by omega), Nat.and_two_pow_sub_one_eq_mod]
  show IntKind.i64.wrap ((BitVec.ofInt 64 n &&& BitVec.ofInt 64 ((2 : Int) ^ k - 1)).toNat : Nat) = n % 2 ^ k
  rw [key]
  have : k = 0 ∨ k = 1 ∨ k = 2 ∨ k = 3 ∨ k = 4 ∨ k = 5 ∨ k = 6 ∨ k = 7 ∨ k = 8 := by omega
  rw [IntKind.wrap_i64]
  rcases this with rfl | rfl | rfl | rfl | rfl | rfl | rfl | rfl | rfl <;> omega
theorem mask_eq (n w : Int) (h1 : 1 ≤ w) (h2 : w ≤ 8) : bits .and .i64 n (pw w - 1) = n % pw w := by
  unfold pw; exact mask_nat n _ (by omega)
theorem pw_pos {w : Int} : 0 < pw w := by unfold pw; exact Int.pow_pos (by decide)
theorem pw_le {w : Int} (h2 : w ≤ 8) : pw w ≤ 256 := by
  unfold pw
  have : w.toNat ≤ 8 := by omega
  have h := Nat.pow_le_pow_right (n := 2) (by decide) this
  have e : ((2 : Int) ^ w.toNat) = ((2 ^ w.toNat : Nat) : Int) := by simp
  rw [e]; omega
theorem shapedW_wd {op wd n : Int} {ws : List Int} (h : shapedW op wd n ws = true) : 1 ≤ wd ∧ wd ≤ 8 := by
  simp only [shapedW, Bool.and_eq_true, decide_eq_true_eq] at h; exact h.1
theorem shapedW_const {wd n : Int} {ws : List Int} (h : shapedW 1 wd n ws = true) : ws = [] ∧ 0 ≤ n ∧ n ≤ pw wd - 1 := by
  simp [shapedW] at h; exact ⟨h.2.1.1, h.2.1.2, by omega⟩
theorem shapedW_cell {op wd n : Int} {ws : List Int} (h : shapedW op wd n ws = true) (ho : op = 2 ∨ op = 3) : ws = [] ∧ 0 ≤ n ∧ n < 32 := by
  rcases ho with rfl | rfl <;> simp [shapedW] at h <;> exact ⟨h.2.1.1, h.2.1.2, h.2.2⟩
/-- What a shaped inner node has: an operator from 4 to 14, one to three kids. -/
theorem shapedW_inner {op wd n : Int} {ws : List Int} (h : shapedW op wd n ws = true) (h1 : op ≠ 1) (h2 : op ≠ 2) (h3 : op ≠ 3) : n = 0 ∧ 4 ≤ op ∧ op ≤ 14 ∧
    ((op = 4 ∧ ws = [wd]) ∨ (5 ≤ op ∧ op ≤ 10 ∧ ws = [wd, wd]) ∨ (11 ≤ op ∧ op ≤ 13 ∧ wd = 1 ∧ ∃ u, ws = [u, u]) ∨ (op = 14 ∧ ws = [1, wd, wd])) := by
  simp only [shapedW, Bool.and_eq_true] at h
  obtain ⟨_, h⟩ := h
  rw [if_neg h1, if_neg (by omega)] at h
  split at h
  · cases h
  · next hn =>
    have hn0 : n = 0 := by simpa using hn
    split at h
    · next e => simp at h; exact ⟨hn0, by omega, by omega, .inl ⟨e, h⟩⟩
    · split at h
      · next e => simp at h; exact ⟨hn0, by omega, by omega, .inr (.inl ⟨e.1, e.2, h⟩)⟩
      · split at h
        · next e =>
          simp at h
          refine ⟨hn0, by omega, by omega, .inr (.inr (.inl ⟨e.1, e.2, h.1.1, ?_⟩))⟩
          obtain ⟨⟨_, hl⟩, he⟩ := h
          match ws, hl with
          | [a, b], _ => simp at he; exact ⟨a, by rw [he]⟩
        · split at h
          · next e => simp at h; exact ⟨hn0, by omega, by omega, .inr (.inr (.inr ⟨e, h⟩))⟩
          · cases h
end Go.Proofs.YtoopoljchhdobaaGreatDoor
namespace Go.Proofs.YtoopoljchhdobaaGreatDoor
open Go.RowKit

/-- The newest block. -/
theorem heap_new (w : World) (o : Obj) : (w.alloc o).heap[w.heap.size]? = some o := by
  show (w.heap.push o)[w.heap.size]? = _
  simp
theorem infoInt : (Tryz.prog.info? 3).map (fun i => (i.zero, i.size, i.bytes)) = some (some (.int .i64 0), 1, 8) := by kernel_rfl

/-- A slice of ints of the call's own: nil, or at the head of a block from 'base' on. -/
def OwnInts (w : World) (base : Nat) (v : Value) (l : List Int) : Prop := w.ownsRow base 3 1 v l.length (l.map (Value.int .i64))

theorem OwnInts.nil (w : World) (base : Nat) : OwnInts w base (.slice none 0 0) [] := ⟨rfl, .inl ⟨rfl, rfl⟩⟩

/-- It reads as the list. -/
theorem OwnInts.ints {w : World} {base : Nat} {v : Value} {l : List Int} (h : OwnInts w base v l) : Ints w v l := by
  obtain ⟨_, h2⟩ := h
  rcases h2 with ⟨rfl, hl⟩ | ⟨g, cap, cur, rfl, _, hh, hn, hc, hs, ht⟩
  · exact .inl ⟨⟨_, _, rfl⟩, List.length_eq_zero_iff.1 hl⟩
  · refine .inr ⟨g, 0, cap, rfl, by unfold maxLen at hc; omega, fun i hi => ?_⟩
    rw [Nat.mul_one] at ht
    have e : cur.toList[i]? = some (.int .i64 l[i]) := by
      have := congrArg (fun x => x[i]?) ht
      simp only [List.getElem?_take, if_pos hi] at this
      rw [this]; simp [hi]
    simp only [IntAt, World.cell?, hh, Nat.zero_add, Nat.mul_one]
    simpa using e

/-- It is kept by what leaves its block alone. -/
theorem OwnInts.kept {w w' : World} {base : Nat} {v : Value} {l : List Int} (h : OwnInts w base v l) (hx : Ext w w') : OwnInts w' base v l := by
  obtain ⟨h1, h2⟩ := h
  refine ⟨h1, ?_⟩
  rcases h2 with h2 | ⟨g, cap, cur, hv, hg, hh, r⟩
  · exact .inl h2
  · refine .inr ⟨g, cap, cur, hv, hg, ?_, r⟩
    have hlt : g < w.heap.size := by
      rcases Nat.lt_or_ge g w.heap.size with h | h
      · exact h
      · rw [Array.getElem?_eq_none_iff.2 h] at hh; cases hh
    rw [hx.block g hlt]; exact hh

/-- The block of such a slice, if there is one, is from base on. -/
theorem OwnInts.base {w : World} {base : Nat} {v : Value} {l : List Int} (h : OwnInts w base v l) (k : Nat) (hk : v.ownBlock = some k) : base ≤ k := by
  rcases h.2 with ⟨rfl, _⟩ | ⟨g, cap, cur, rfl, hg, _⟩
  · cases hk
  · simp [Value.ownBlock] at hk; omega

/-- After an append: the world below 'B' is as it was. -/
theorem Ext.grown {a w w' : World} {row : Option Nat} (h : Ext a w) (hg : w.grownBy w' row) (hr : ∀ k, row = some k → a.heap.size ≤ k) : Ext a w' :=
  Below.grown h hg h.size hr

/-- 'append(list, n)' on a slice of ints of the call's own; wr: the world before the block of the one new element. -/
theorem wpList_append_int {ops : Array Oper} {rest : List Oper} {o : Oper} {a : Act} {Q : Exit → Act → World → Prop} (hgd : o.guard = none) (s x : Operand)
    (ho : o.op = .call { callee := .builtin .append, args := #[s, x], argTypes := #[38, 38] }) (base : Nat) (wr : World) (v : Value) (l : List Int) (n : Int)
    (hs : a.eval s = v) (hx : a.eval x = .slice (some ⟨wr.heap.size, 0, none⟩) 1 1) (hown : OwnInts wr base v l) (hl : l.length ≤ 1000000000) (hb : base ≤ wr.heap.size)
    (h : ∀ v' w', OwnInts w' base v' (l ++ [n]) → wr.grownBy w' v.ownBlock → wpList Tryz.prog ops Q rest (a.put o.dst v') w') : wpList Tryz.prog ops Q (o :: rest) a (wr.alloc (.cells #[.int .i64 n] 3)) := by
  obtain ⟨i0, hi, hz0, hz1, hz2⟩ := info_parts infoInt
  refine wpList_append_own _ hgd s x 38 ho base 3 i0 (.int .i64 0) 1 8 Tryz.underlying38 hi hz0 hz1 hz2 rfl (by decide) v l.length (l.map (Value.int .i64)) hs (hown.kept ((Ext.refl wr).alloc _)) ⟨wr.heap.size, 0, none⟩ 1 1 [.int .i64 n] hx rfl ?_ ?_ ?_ ?_ ?_ ?_
  · intro j u hj
    obtain ⟨rfl, rfl⟩ : j = 0 ∧ u = .int .i64 n := by
      cases j with
      | zero => simp at hj; exact ⟨rfl, hj.symm⟩
      | succ j => simp at hj
    simp [Addr.add]
  · intro u hu; simp at hu; subst hu; rfl
  · unfold maxLen; omega
  · omega
  · simp; omega
  · intro v' w' h1 h2 _
    refine h v' w' (by simpa [OwnInts] using h1) ⟨h2.os, h2.tape, h2.output, ?_, fun k hk hne => ?_⟩
    · have := h2.size; simp at this; omega
    · rw [h2.block k (by simp; omega) hne]; exact Below.heap_alloc wr _ k hk

end Go.Proofs.YtoopoljchhdobaaGreatDoor
namespace Go.Proofs.YtoopoljchhdobaaGreatDoor
open Go.RowKit

/-- 65 bytes in a block. -/
def bytesV (D : List UInt8) : Array Value := (D.map fun (b : UInt8) => Value.int .u8 (b.toNat : Int)).toArray
structure BytesAt (t : TypeId) (w : World) (b : Nat) (D : List UInt8) : Prop where
  heap : w.heap[b]? = some (.cells (bytesV D) t (0, 0))
  len : D.length = 65
theorem BytesAt.cell {t : TypeId} {w : World} {b : Nat} {D : List UInt8} (h : BytesAt t w b D) {i : Nat} (hi : i < D.length) : w.cell? ⟨b, i, none⟩ = some (.int .u8 (D[i].toNat : Int)) := by
  rw [cell_of_row w b i _ t _ h.heap]; simp [bytesV, hi]
theorem BytesAt.frozen {t : TypeId} {w : World} {b : Nat} {D : List UInt8} (h : BytesAt t w b D) (i : Nat) : w.frozen? ⟨b, i, none⟩ = false := frozen_of_row w b i _ t h.heap
theorem BytesAt.set {t : TypeId} {w : World} {b : Nat} {D : List UInt8} (h : BytesAt t w b D) {i : Nat} {v : UInt8} (hi : i < 65) : BytesAt t (w.setCell ⟨b, i, none⟩ (.int .u8 (v.toNat : Int))) b (D.set i v) := by
  refine ⟨?_, by rw [List.length_set, h.len]⟩
  rw [heap_setCell_same w b i _ t _ h.heap]
  congr 2
  apply Array.ext_getElem?
  intro j
  unfold bytesV
  rw [Array.getElem?_setIfInBounds]
  simp only [List.getElem?_toArray, List.getElem?_map, List.getElem?_set, List.size_toArray, List.length_map]
  by_cases e : i = j
  · subst e; simp [h.len, hi]
  · simp [e]
theorem bytes_zero : Tryz.zeroCells137 = bytesV (List.replicate 65 0) := by kernel_rfl
theorem bytes_put (m : Nat) (S : List UInt8) (d : UInt8) : (List.replicate (m + 1) 0 ++ S).set m d = List.replicate m 0 ++ d :: S := by
  rw [List.replicate_succ', List.append_assoc, List.set_append_right _ _ (by simp)]; simp

theorem pow2_any (w : World) : Calls Tryz.prog 93 #[.int .i64 16] w fun e w' => e = .returned (.bool true) ∧ w' = w := by
  go_enter Tryz.func93, Tryz.ntmps93
  go_wp2
  go_ret
  exact ⟨rfl, rfl⟩
def DeB (w : World) : Prop := TabAt 8 Lib.deBruijn64tab w
theorem DeB.ext {w w' : World} (h : DeB w) (hx : Ext w w') : DeB w' := fun j hj => hx.cell (h j hj)
theorem tz_core (x k idx : Nat) (w : World) (hx0 : ((x : Int) == 0) = false)
    (key : IntKind.u64.wrap (bits BinOp.and IntKind.u64 (x : Int) (IntKind.u64.wrap (-(x : Int))) * 285870213051353865) / 288230376151711744 = (idx : Int))
    (hi : idx < 64) (hk : k < 64) (hcell : w.cell? ⟨8, idx, none⟩ = some (.int .u8 k)) :
    Calls Tryz.prog 103 #[.int .u64 x] w fun e w' => e = .returned (.int .i64 k) ∧ w' = w := by
  go_enter Tryz.func103, Tryz.ntmps103
  go_wp2_with (simp only [key])
  go_ret
  exact ⟨rfl, rfl⟩
theorem tz_any (x : Nat) (hx : x < 18446744073709551616) (h0 : x ≠ 0) (w : World) (hT : DeB w) : Calls Tryz.prog 103 #[.int .u64 x] w fun e w' => e = .returned (.int .i64 (Lib.ctz 64 x)) ∧ w' = w := by
  obtain ⟨hlow, hk⟩ := Lib.lowest_bit 64 x h0 hx
  obtain ⟨hi, htab⟩ := Lib.deBruijn64_at _ hk
  have hcell := hT _ hi
  rw [htab] at hcell
  exact tz_core x _ _ w (by simp; omega) (tz64_key x _ hx h0 hlow) hi hk hcell
theorem ctz_16 : Lib.ctz 64 16 = 4 := by decide
theorem tz16_any (w : World) (hT : DeB w) : Calls Tryz.prog 94 #[.int .u64 16] w fun e w' => e = .returned (.int .i64 4) ∧ w' = w := by
  have h := tz_any 16 (by decide) (by decide) w hT
  rw [ctz_16] at h
  go_enter Tryz.func94, Tryz.ntmps94
  go_wp2_with (refine h.mono ?_; rintro e w' ⟨rfl, rfl⟩)
  go_ret
  exact ⟨rfl, rfl⟩
theorem nat_and15 (x : Nat) : x &&& 15 = x % 16 := Nat.and_two_pow_sub_one_eq_mod x 4
theorem and15 {u : Nat} (h : u < 18446744073709551616) : bits .and .u64 (u : Int) 15 = ((u % 16 : Nat) : Int) := by
  have := (bits_nat .u64 64 (by decide) (fun n h0 h1 => by rw [IntKind.wrap_u64]; omega) u 15 h (by decide)).1
  rw [nat_and15] at this
  exact this
def hexS : ByteArray := ⟨#[48, 49, 50, 51, 52, 53, 54, 55, 56, 57, 97, 98, 99, 100, 101, 102, 103, 104, 105, 106, 107, 108, 109, 110, 111, 112, 113, 114, 115, 116, 117, 118, 119, 120, 121, 122]⟩
theorem hexS_at {d : Nat} (h : d < 16) (h' : d < hexS.size) : hexS[d]'h' = hexD d := by
  have : d = 0 ∨ d = 1 ∨ d = 2 ∨ d = 3 ∨ d = 4 ∨ d = 5 ∨ d = 6 ∨ d = 7 ∨ d = 8 ∨ d = 9 ∨ d = 10 ∨ d = 11 ∨ d = 12 ∨ d = 13 ∨ d = 14 ∨ d = 15 := by omega
  rcases this with rfl | rfl | rfl | rfl | rfl | rfl | rfl | rfl | rfl | rfl | rfl | rfl | rfl | rfl | rfl | rfl <;> rfl

/-- Where the digits stand when k of them are written. -/
structure FmtAt (w0 : World) (n : Nat) (u k : Nat) (S : List UInt8) (wr : World) : Prop where
  k15 : k ≤ 15
  lt : u < 16 ^ (16 - k)
  num : hexMin n = hexMin u ++ S
  len : S.length = k
  ext : Ext w0 wr
  at' : BytesAt 137 wr w0.heap.size (List.replicate (65 - k) 0 ++ S)

set_option maxRecDepth 100000 in
set_option maxHeartbeats 2000000 in
theorem formatBits_any (n : Nat) (w : World) (hn : n < 18446744073709551616) (hT : DeB w) :
    Calls Tryz.prog 78 #[.slice none 0 0, .int .u64 n, .int .i64 16, .bool false, .bool false] w fun e w' => e = .returned (.tuple #[.slice none 0 0, .string ⟨(hexMin n).toArray⟩]) ∧ Ext w w' := by
  have HN := Lib.hid hn; have HT := Lib.hid hT; clear hn hT
  go_enter Tryz.func78, Tryz.ntmps78
  go_wp2_with (first
    | (refine (pow2_any _).mono ?_; rintro e w' ⟨rfl, rfl⟩)
    | (refine (tz16_any _ (HT.out.ext ((Ext.refl w).alloc _))).mono ?_; rintro e w' ⟨rfl, rfl⟩))
  rw [bytes_zero]
  have X0 := Lib.hid ((Ext.refl w).alloc (.cells (bytesV (List.replicate 65 0)) 137))
  have A0 := Lib.hid (show BytesAt 137 (w.alloc (.cells (bytesV (List.replicate 65 0)) 137)) w.heap.size (List.replicate 65 0) from ⟨heap_new _ _, by simp⟩)
  generalize w.alloc (.cells (bytesV (List.replicate 65 0)) 137) = w1 at *
  go_loopw [1, 13] (fun uv iv wr => ∃ u k S, uv = .int .u64 (u : Nat) ∧ iv = .int .i64 ((65 - k : Nat) : Int) ∧ FmtAt w n u k S wr) (fun uv _ _ => (intOf uv).toNat)
  case atStart => exact ⟨n, 0, [], rfl, rfl, by omega, HN.out, by simp, rfl, X0.out, by simpa using A0.out⟩
  case round =>
    obtain ⟨u, k, S, rfl, rfl, hF⟩ := hrel
    have k15 := hF.k15
    have u64 : u < 18446744073709551616 := Nat.lt_of_lt_of_le hF.lt (Nat.le_trans (Nat.pow_le_pow_right (by decide) (show 16 - k ≤ 16 by omega)) (by decide))
    obtain ⟨m, hm⟩ : ∃ m, 65 - k = m + 1 := ⟨64 - k, by omega⟩
    have m1 : m = 64 - k := by omega
    rw [hm]
    have e1 : IntKind.i64.wrap (((m + 1 : Nat) : Int) - 1) = (m : Int) := by rw [IntKind.wrap_i64]; omega
    have i1 : (0 : Int) ≤ (m : Int) := by omega
    have i2 : (m : Int) < 65 := by omega
    have i3 : m < 65 := by omega
    have HF := Lib.hid hF; have HM := Lib.hid hm; have HM1 := Lib.hid m1; clear hF hm m1
    have c1 : wr.cell? ⟨w.heap.size, m, none⟩ = some (.int .u8 0) := by
      have hD := HF.out.at'
      rw [HM.out] at hD
      have h := hD.cell (i := m) (by simp; omega)
      rw [h]; simp
    have c2 : wr.frozen? ⟨w.heap.size, m, none⟩ = false := HF.out.at'.frozen m
    by_cases hlt : 16 ≤ u
    · have a1 := and15 u64
      have l1 : u % 16 < 16 := by omega
      have l2 : u % 16 < 36 := by omega
      have l3 : ((u % 16 : Nat) : Int) < 36 := by omega
      have l4 : (0 : Int) ≤ ((u % 16 : Nat) : Int) := by omega
      have b1 : decide ((16 : Int) ≤ (u : Int)) = true := by simp; omega
      obtain ⟨q, hq⟩ : ∃ q, q = u / 16 := ⟨_, rfl⟩
      have q1 : (u : Int) / 16 = (q : Int) := by omega
      generalize hr : u % 16 = r at *
      have HR := Lib.hid hr; have HQ := Lib.hid hq; clear hr hq
      go_wp2_with fail
      refine ⟨⟨q, k + 1, hexD r :: S, rfl, ?_, ?_⟩, ?_⟩
      · have := HM1.out; congr 2; omega
      · rw [show (⟨#[48, 49, 50, 51, 52, 53, 54, 55, 56, 57, 97, 98, 99, 100, 101, 102, 103, 104, 105, 106, 107, 108, 109, 110, 111, 112, 113, 114, 115, 116, 117, 118, 119, 120, 121, 122]⟩ : ByteArray)[r] = hexD r from hexS_at l1 l2]
        have hlt2 := HF.out.lt
        have hk14 : k ≤ 14 := by
          rcases Nat.lt_or_ge k 15 with h | h
          · omega
          · have : k = 15 := by omega
            rw [this] at hlt2; simp at hlt2; omega
        obtain ⟨j, hj⟩ : ∃ j, 16 - k = j + 1 := ⟨15 - k, by omega⟩
        refine ⟨by omega, ?_, ?_, by rw [List.length_cons, HF.out.len], HF.out.ext.setCell (Nat.le_refl _) _, ?_⟩
        · rw [hj, Nat.pow_succ] at hlt2
          rw [HQ.out, show 16 - (k + 1) = j by omega]; omega
        · rw [HF.out.num, hexMin, dif_neg (by omega), HQ.out, HR.out, List.append_assoc]; rfl
        · have h := HF.out.at'.set (i := m) (v := hexD r) (by omega)
          rw [HM.out, bytes_put] at h
          rw [show 65 - (k + 1) = m by have := HM1.out; omega]
          exact h
      · have := HQ.out; simp [intOf]; omega
    · have b1 : decide ((16 : Int) ≤ (u : Int)) = false := by simp; omega
      have l1 : u < 16 := by omega
      have l2 : u < 36 := by omega
      have l3 : (u : Int) < 36 := by omega
      have HL := Lib.hid (show (hexD u :: S).length = 65 - m by rw [List.length_cons, HF.out.len]; have := HM1.out; have := HM.out; omega)
      have HE := Lib.hid (show hexMin n = hexD u :: S by rw [HF.out.num, hexMin, dif_pos l1]; rfl)
      have hal : Tryz.prog.arrayLen 137 = 65 := by kernel_rfl
      have hsl : ∀ W, (Instr.sliceAt 137 (.pointer (some ⟨w.heap.size, 0, none⟩)) (some (.int .i64 m)) none none).run Tryz.prog W = .ok (.slice (some ⟨w.heap.size, m, none⟩) (hexD u :: S).length (65 - m)) W := fun W => by
        rw [run_sliceAt_array_l W 137 ⟨w.heap.size, 0, none⟩ (by rw [hal]; kernel_rfl) .i64 (m : Int) (by omega) (by rw [hal]; omega), HL.out]
        go_simp
        omega
      have hA := HF.out.at'.set (i := m) (v := hexD u) (by omega)
      rw [HM.out, bytes_put] at hA
      have hcv : (convert 63 9 (.slice (some ⟨w.heap.size, m, none⟩) (S.length + 1) (65 - m))).run Tryz.prog (wr.setCell ⟨w.heap.size, m, none⟩ (.int .u8 ((hexD u).toNat : Int))) = .ok (.string ⟨(hexD u :: S).toArray⟩) (wr.setCell ⟨w.heap.size, m, none⟩ (.int .u8 ((hexD u).toNat : Int))) := run_convert_bytes_back (P := Tryz.prog) (wr.setCell ⟨w.heap.size, m, none⟩ (.int .u8 ((hexD u).toNat : Int))) 63 9 5 ⟨w.heap.size, m, none⟩ (65 - m) (hexD u :: S) (by kernel_rfl) (by kernel_rfl) (by kernel_rfl) (fun j hj => by
          have := hA.cell (i := m + j) (by simp at hj ⊢; omega)
          rw [Lib.add_plain, this]
          simp)
      have HX := Lib.hid (HF.out.ext.setCell (p := ⟨w.heap.size, m, none⟩) (Nat.le_refl _) (.int .u8 ((hexD u).toNat : Int)))
      clear hA hal
      have gx : (⟨#[48, 49, 50, 51, 52, 53, 54, 55, 56, 57, 97, 98, 99, 100, 101, 102, 103, 104, 105, 106, 107, 108, 109, 110, 111, 112, 113, 114, 115, 116, 117, 118, 119, 120, 121, 122]⟩ : ByteArray)[u] = hexD u := hexS_at l1 l2
      go_wp2_with (first | rw [gx] | rw [hcv])
      go_ret2
      rw [HE.out]
      exact ⟨rfl, HX.out⟩
theorem iFormat_any (n : Nat) (w : World) (hn : n < 18446744073709551616) (hT : DeB w) :
    Calls Tryz.prog 60 #[.int .u64 n, .int .i64 16] w fun e w' => e = .returned (.string ⟨(hexMin n).toArray⟩) ∧ Ext w w' := by
  have HC := Lib.hid (formatBits_any n w hn hT)
  go_enter Tryz.func60, Tryz.ntmps60
  go_wp2_with (refine HC.out.mono ?_; rintro e w' ⟨rfl, hX⟩)
  go_ret
  exact ⟨rfl, hX⟩
theorem Format_any (n : Nat) (w : World) (hn : n < 18446744073709551616) (hT : DeB w) :
    Calls Tryz.prog 40 #[.int .u64 n, .int .i64 16] w fun e w' => e = .returned (.string ⟨(hexMin n).toArray⟩) ∧ Ext w w' := by
  have HC := Lib.hid (iFormat_any n w hn hT)
  go_enter Tryz.func40, Tryz.ntmps40
  go_wp2_with (refine HC.out.mono ?_; rintro e w' ⟨rfl, hX⟩)
  go_ret
  exact ⟨rfl, hX⟩
end Go.Proofs.YtoopoljchhdobaaGreatDoor
