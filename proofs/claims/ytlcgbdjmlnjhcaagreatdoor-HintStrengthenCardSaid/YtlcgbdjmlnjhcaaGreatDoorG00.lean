/-
  Plain definitions for the walks: expressions as trees, and what it means that memory holds them.
  The plain functions: what the program's expr functions compute, on trees and integers. No program in sight.
  A block that is there; constants. (Names of texts that a merged claim leaves out.)
-/
import Derived.WalkKit
import Derived.WalkSpells
import Derived.WalkLawsBesides
import Derived.Lib.Hide
namespace Go.Proofs.YtlcgbdjmlnjhcaaGreatDoor
open Go.RowKit

/-- An expression: operator, width, number, kids. -/
inductive E where
  | mk (op wd n : Int) (kids : List E)

def E.op : E → Int | .mk o _ _ _ => o
def E.wd : E → Int | .mk _ w _ _ => w
def E.n : E → Int | .mk _ _ n _ => n
def E.kids : E → List E | .mk _ _ _ k => k

@[simp] theorem E.op_mk (o w n : Int) (k : List E) : (E.mk o w n k).op = o := rfl
@[simp] theorem E.wd_mk (o w n : Int) (k : List E) : (E.mk o w n k).wd = w := rfl
@[simp] theorem E.n_mk (o w n : Int) (k : List E) : (E.mk o w n k).n = n := rfl
@[simp] theorem E.kids_mk (o w n : Int) (k : List E) : (E.mk o w n k).kids = k := rfl

/-- The world has only grown: what was there is as it was. -/
def Ext (w w' : World) : Prop := Below w.heap.size w w'

theorem Ext.refl (w : World) : Ext w w := Below.refl _ _
theorem Ext.size {w w' : World} (h : Ext w w') : w.heap.size ≤ w'.heap.size := Below.size h
theorem Ext.trans {a b c : World} (h : Ext a b) (k : Ext b c) : Ext a c := Below.trans h (Below.mono k h.size)
theorem Ext.drew {a w : World} (h : Ext a w) : Ext a w.drew := Below.drew h
theorem Ext.drewN {a w : World} (h : Ext a w) (n : Nat) : Ext a (w.drewN n) := ⟨h.os, h.tape, h.output, h.size, h.block⟩
theorem Ext.alloc {a w : World} (h : Ext a w) (o : Obj) : Ext a (w.alloc o) := Below.alloc h h.size o
theorem Ext.setCell {a w : World} (h : Ext a w) {p : Addr} (hp : a.heap.size ≤ p.block) (u : Value) : Ext a (w.setCell p u) := Below.setCell h hp u
theorem Ext.block {a w : World} (h : Ext a w) (k : Nat) (hk : k < a.heap.size) : w.heap[k]? = a.heap[k]? := Below.block h k hk
theorem Ext.cellEq {a w : World} (h : Ext a w) {p : Addr} (hp : p.block < a.heap.size) : w.cell? p = a.cell? p := Below.cell h hp
theorem Ext.frozenEq {a w : World} (h : Ext a w) {p : Addr} (hp : p.block < a.heap.size) : w.frozen? p = a.frozen? p := Below.frozen h hp

/-- A cell that holds something lies in a block. -/
theorem block_lt {w : World} {p : Addr} {v : Value} (h : w.cell? p = some v) : p.block < w.heap.size := by
  rcases Nat.lt_or_ge p.block w.heap.size with h1 | h1
  · exact h1
  · have : w.heap[p.block]? = none := Array.getElem?_eq_none_iff.2 h1
    simp [World.cell?, this] at h

theorem Ext.cell {a w : World} (h : Ext a w) {p : Addr} {v : Value} (hc : a.cell? p = some v) : w.cell? p = some v := by
  rw [h.cellEq (block_lt hc)]; exact hc

/-- What the walk makes of a later world: the old cells and marks read as before. -/
theorem Ext.rules {W w1 : World} (hb : Ext W w1) : (∀ b o, b < W.heap.size → w1.cell? ⟨b, o, none⟩ = W.cell? ⟨b, o, none⟩) ∧ (∀ b o, b < W.heap.size → w1.frozen? ⟨b, o, none⟩ = W.frozen? ⟨b, o, none⟩) :=
  ⟨fun b o h => hb.cellEq (p := ⟨b, o, none⟩) h, fun b o h => hb.frozenEq (p := ⟨b, o, none⟩) h⟩

/-- The expression lies at block b, offset o. -/
inductive IsE (w : World) : Nat → Nat → E → Prop
  | leaf {b o : Nat} {op wd n : Int} {ea : Option Addr} {ec : Nat} : w.cell? ⟨b, o, .none⟩ = some (.int .i64 op) → w.cell? ⟨b, o + 1, .none⟩ = some (.int .i64 wd) → w.cell? ⟨b, o + 2, .none⟩ = some (.int .i64 n) →
      w.cell? ⟨b, o + 3, .none⟩ = some (.slice ea 0 ec) → IsE w b o (.mk op wd n [])
  | node {b o : Nat} {op wd n : Int} {ks : List E} {b' o' cap : Nat} : w.cell? ⟨b, o, .none⟩ = some (.int .i64 op) → w.cell? ⟨b, o + 1, .none⟩ = some (.int .i64 wd) → w.cell? ⟨b, o + 2, .none⟩ = some (.int .i64 n) →
      w.cell? ⟨b, o + 3, .none⟩ = some (.slice (.some ⟨b', o', .none⟩) ks.length cap) → ks.length ≤ 9223372036854775807 → (∀ (i : Nat) (h : i < ks.length), IsE w b' (o' + i * 4) ks[i]) → IsE w b o (.mk op wd n ks)

/-- A slice value over a list: elements of sz cells, each as P says. -/
def SliceAt {α : Type} (sz : Nat) (P : World → Nat → Nat → α → Prop) (w : World) (v : Value) (l : List α) : Prop :=
  ((∃ (a : Option Addr) (c : Nat), v = .slice a 0 c) ∧ l = []) ∨ ∃ b o cap : Nat, v = .slice (.some ⟨b, o, .none⟩) l.length cap ∧ l.length ≤ 9223372036854775807 ∧ ∀ (i : Nat) (h : i < l.length), P w b (o + i * sz) l[i]

/-- P is kept when the world grows. -/
def Keeps {α : Type} (P : World → Nat → Nat → α → Prop) : Prop := ∀ (w w' : World) (b o : Nat) (x : α), Ext w w' → P w b o x → P w' b o x

theorem SliceAt.ext {α : Type} {sz : Nat} {P : World → Nat → Nat → α → Prop} (hP : Keeps P) {w w' : World} {v : Value} {l : List α} (h : SliceAt sz P w v l) (he : Ext w w') : SliceAt sz P w' v l := by
  rcases h with h | ⟨b, o, cap, h1, hl, h2⟩
  · exact .inl h
  · exact .inr ⟨b, o, cap, h1, hl, fun i hi => hP _ _ _ _ _ he (h2 i hi)⟩

theorem IsE.ext {w w' : World} {b o : Nat} {e : E} (h : IsE w b o e) (he : Ext w w') : IsE w' b o e := by
  induction h with
  | leaf h0 h1 h2 h3 => exact .leaf (he.cell h0) (he.cell h1) (he.cell h2) (he.cell h3)
  | node h0 h1 h2 h3 hl _ ih => exact .node (he.cell h0) (he.cell h1) (he.cell h2) (he.cell h3) hl ih

theorem IsE.keeps : Keeps IsE := fun _ _ _ _ _ he h => h.ext he

/-- The kids, as a slice's value. -/
def Kids (w : World) (v : Value) (ks : List E) : Prop := SliceAt 4 IsE w v ks
theorem Kids.ext {w w' : World} {v : Value} {ks : List E} (h : Kids w v ks) (he : Ext w w') : Kids w' v ks := SliceAt.ext IsE.keeps h he

/-- The four cells of an expression in memory, and its kids. -/
theorem IsE.cells {w : World} {b o : Nat} {e : E} (h : IsE w b o e) : w.cell? ⟨b, o, .none⟩ = some (.int .i64 e.op) ∧ w.cell? ⟨b, o + 1, .none⟩ = some (.int .i64 e.wd) ∧ w.cell? ⟨b, o + 2, .none⟩ = some (.int .i64 e.n) ∧
    ∃ v, w.cell? ⟨b, o + 3, .none⟩ = some v ∧ Kids w v e.kids := by
  cases h with
  | leaf h0 h1 h2 h3 => exact ⟨h0, h1, h2, _, h3, .inl ⟨⟨_, _, rfl⟩, rfl⟩⟩
  | node h0 h1 h2 h3 hl h4 => exact ⟨h0, h1, h2, _, h3, .inr ⟨_, _, _, rfl, hl, h4⟩⟩

theorem IsE.of_cells {w : World} {b o : Nat} {e : E} {v : Value} (h0 : w.cell? ⟨b, o, .none⟩ = some (.int .i64 e.op)) (h1 : w.cell? ⟨b, o + 1, .none⟩ = some (.int .i64 e.wd)) (h2 : w.cell? ⟨b, o + 2, .none⟩ = some (.int .i64 e.n))
    (h3 : w.cell? ⟨b, o + 3, .none⟩ = some v) (hk : Kids w v e.kids) : IsE w b o e := by
  obtain ⟨op, wd, n, ks⟩ := e
  rcases hk with ⟨⟨ea, ec, rfl⟩, hk⟩ | ⟨b', o', cap, rfl, hl, hk⟩
  · simp at hk; subst hk; exact .leaf h0 h1 h2 h3
  · exact .node h0 h1 h2 h3 hl hk

/-- An expression by value. -/
def EVal (w : World) (v : Value) (e : E) : Prop := ∃ k, v = .agg #[.int .i64 e.op, .int .i64 e.wd, .int .i64 e.n, k] ∧ Kids w k e.kids
theorem EVal.ext {w w' : World} {v : Value} {e : E} (h : EVal w v e) (he : Ext w w') : EVal w' v e := by
  obtain ⟨k, h1, h2⟩ := h; exact ⟨k, h1, h2.ext he⟩

/-- A slice of ints. -/
def IntAt (w : World) (b o : Nat) (x : Int) : Prop := w.cell? ⟨b, o, .none⟩ = some (.int .i64 x)
theorem IntAt.keeps : Keeps IntAt := fun _ _ _ _ _ he h => Ext.cell he h
def Ints (w : World) (v : Value) (l : List Int) : Prop := SliceAt 1 IntAt w v l
theorem Ints.ext {w w' : World} {v : Value} {l : List Int} (h : Ints w v l) (he : Ext w w') : Ints w' v l := SliceAt.ext IntAt.keeps h he

/-- The length of a slice is the list's. -/
theorem SliceAt.shape {α : Type} {sz : Nat} {P : World → Nat → Nat → α → Prop} {w : World} {v : Value} {l : List α} (h : SliceAt sz P w v l) : ∃ a cap, v = .slice a l.length cap := by
  rcases h with ⟨⟨a, c, rfl⟩, rfl⟩ | ⟨b, o, cap, h1, _, _⟩
  · exact ⟨_, _, rfl⟩
  · exact ⟨_, _, h1⟩

/-- A cell of a program's state. -/
structure CellD where
  name : ByteArray
  W : Int
  init : Int
  thread : Int
  ghost : Bool
  module : Int
def CellAt (w : World) (b o : Nat) (c : CellD) : Prop :=
  w.cell? ⟨b, o, .none⟩ = some (.string c.name) ∧ w.cell? ⟨b, o + 1, .none⟩ = some (.int .i64 c.W) ∧ w.cell? ⟨b, o + 2, .none⟩ = some (.int .i64 c.init) ∧ w.cell? ⟨b, o + 3, .none⟩ = some (.int .i64 c.thread) ∧
    w.cell? ⟨b, o + 4, .none⟩ = some (.bool c.ghost) ∧ w.cell? ⟨b, o + 5, .none⟩ = some (.int .i64 c.module)
theorem CellAt.keeps : Keeps CellAt := fun _ _ _ _ _ he h => ⟨he.cell h.1, he.cell h.2.1, he.cell h.2.2.1, he.cell h.2.2.2.1, he.cell h.2.2.2.2.1, he.cell h.2.2.2.2.2⟩
def Cells (w : World) (v : Value) (l : List CellD) : Prop := SliceAt 6 CellAt w v l
theorem Cells.ext {w w' : World} {v : Value} {l : List CellD} (h : Cells w v l) (he : Ext w w') : Cells w' v l := SliceAt.ext CellAt.keeps h he

theorem SliceAt.len_le {α : Type} {sz : Nat} {P : World → Nat → Nat → α → Prop} {w : World} {v : Value} {l : List α} (h : SliceAt sz P w v l) : l.length ≤ 9223372036854775807 := by
  rcases h with ⟨_, rfl⟩ | ⟨b, o, cap, _, hl, _⟩
  · simp
  · exact hl

end Go.Proofs.YtlcgbdjmlnjhcaaGreatDoor
namespace Go.Proofs.YtlcgbdjmlnjhcaaGreatDoor
open Go.RowKit

/-- 2 to the power of a width. -/
def pw (w : Int) : Int := 2 ^ w.toNat
/-- An element of a state, 0 if there is none. -/
def elemS (l : List Int) (i : Int) : Int := l.getD i.toNat 0

/-- The operation, before it is cut to its width. -/
def applyS (op a b c : Int) : Int :=
  if op = 4 then -1 - a else if op = 5 then ((a.toNat &&& b.toNat : Nat) : Int) else if op = 6 then ((a.toNat ||| b.toNat : Nat) : Int) else if op = 7 then ((a.toNat ^^^ b.toNat : Nat) : Int)
  else if op = 9 then a - b else if op = 8 then a + b else if op = 10 then a * b else if op = 11 then (if a = b then 1 else 0) else if op = 13 then (if a ≤ b then 1 else 0)
  else if op = 12 then (if a < b then 1 else 0) else if op = 14 then (if a = 1 then b else c) else 0

mutual
/-- The value of an expression. -/
def E.val (old now : List Int) : E → Int
  | .mk op wd n ks => if op = 1 then n else if op = 2 then elemS now n % pw wd else if op = 3 then elemS old n % pw wd
      else applyS op ((valAll old now ks).getD 0 0) ((valAll old now ks).getD 1 0) ((valAll old now ks).getD 2 0) % pw wd
def valAll (old now : List Int) : List E → List Int
  | [] => []
  | e :: r => e.val old now :: valAll old now r
end
theorem valAll_eq (old now : List Int) (ks : List E) : valAll old now ks = ks.map (·.val old now) := by
  induction ks with
  | nil => rfl
  | cons e r ih => simp [valAll, ih]

/-- A node satisfies the row of its operator; ws: the widths of its kids. -/
def shapedW (op wd n : Int) (ws : List Int) : Bool :=
  decide (1 ≤ wd) && decide (wd ≤ 8) &&
    (if op = 1 then decide (ws = []) && decide (0 ≤ n) && decide (n ≤ pw wd - 1)
     else if op = 2 ∨ op = 3 then decide (ws = []) && decide (0 ≤ n) && decide (n < 32)
     else if n ≠ 0 then false
     else if op = 4 then decide (ws = [wd])
     else if 5 ≤ op ∧ op ≤ 10 then decide (ws = [wd, wd])
     else if 11 ≤ op ∧ op ≤ 13 then decide (wd = 1) && decide (ws.length = 2) && decide (ws[0]? = ws[1]?)
     else if op = 14 then decide (ws = [1, wd, wd])
     else false)

mutual
/-- Number of nodes; depth. -/
def E.size : E → Nat
  | .mk _ _ _ ks => 1 + sizeAll ks
def sizeAll : List E → Nat
  | [] => 0
  | e :: r => e.size + sizeAll r
end
mutual
/-- All nodes are shaped, and none lies deeper than d. -/
def E.deep : E → Nat → Bool
  | .mk op wd n ks, d => decide (1 ≤ d) && shapedW op wd n (ks.map E.wd) && deepAll ks (d - 1)
def deepAll : List E → Nat → Bool
  | [], _ => true
  | e :: r, d => e.deep d && deepAll r d
end
/-- Well-formed. -/
def E.wf (e : E) : Bool := decide (e.size ≤ 600) && e.deep 40

theorem E.size_pos (e : E) : 1 ≤ e.size := by cases e; simp [E.size]
theorem sizeAll_eq (ks : List E) : sizeAll ks = (ks.map E.size).sum := by
  induction ks with
  | nil => rfl
  | cons e r ih => simp [sizeAll, ih]
theorem size_kid {op wd n : Int} {ks : List E} {k : E} (h : k ∈ ks) : k.size < (E.mk op wd n ks).size := by
  simp only [E.size]
  induction ks with
  | nil => cases h
  | cons e r ih =>
    simp only [sizeAll]
    rcases List.mem_cons.1 h with rfl | h
    · omega
    · have := ih h; omega
theorem deepAll_iff (ks : List E) (d : Nat) : deepAll ks d = true ↔ ∀ k ∈ ks, k.deep d = true := by
  induction ks with
  | nil => simp [deepAll]
  | cons e r ih => simp [deepAll, ih]

/-- Facts of a width. -/
theorem pw_cases {w : Int} (h1 : 1 ≤ w) (h2 : w ≤ 8) : (w = 1 ∧ pw w = 2) ∨ (w = 2 ∧ pw w = 4) ∨ (w = 3 ∧ pw w = 8) ∨ (w = 4 ∧ pw w = 16) ∨ (w = 5 ∧ pw w = 32) ∨ (w = 6 ∧ pw w = 64) ∨ (w = 7 ∧ pw w = 128) ∨ (w = 8 ∧ pw w = 256) := by
  obtain ⟨k, rfl⟩ := Int.eq_ofNat_of_zero_le (show 0 ≤ w by omega)
  have : k = 1 ∨ k = 2 ∨ k = 3 ∨ k = 4 ∨ k = 5 ∨ k = 6 ∨ k = 7 ∨ k = 8 := by omega
  rcases this with rfl | rfl | rfl | rfl | rfl | rfl | rfl | rfl <;> simp [pw]

/-- Go's bitwise operators on small numbers. -/
theorem i64_small (n : Int) (h₀ : 0 ≤ n) (h₁ : n < 2 ^ 62) : IntKind.i64.wrap n = n := by rw [IntKind.wrap_i64]; omega
theorem and_eq (a b : Int) (h0 : 0 ≤ a) (h1 : a ≤ 255) (h2 : 0 ≤ b) (h3 : b ≤ 255) : bits .and .i64 a b = ((a.toNat &&& b.toNat : Nat) : Int) := by
  obtain ⟨m, rfl⟩ := Int.eq_ofNat_of_zero_le h0
  obtain ⟨n, rfl⟩ := Int.eq_ofNat_of_zero_le h2
  exact (bits_nat .i64 62 (by decide) i64_small m n (by omega) (by omega)).1
theorem or_eq (a b : Int) (h0 : 0 ≤ a) (h1 : a ≤ 255) (h2 : 0 ≤ b) (h3 : b ≤ 255) : bits .or .i64 a b = ((a.toNat ||| b.toNat : Nat) : Int) := by
  obtain ⟨m, rfl⟩ := Int.eq_ofNat_of_zero_le h0
  obtain ⟨n, rfl⟩ := Int.eq_ofNat_of_zero_le h2
  exact (bits_nat .i64 62 (by decide) i64_small m n (by omega) (by omega)).2
theorem xor_eq (a b : Int) (h0 : 0 ≤ a) (h1 : a ≤ 255) (h2 : 0 ≤ b) (h3 : b ≤ 255) : bits .xor .i64 a b = ((a.toNat ^^^ b.toNat : Nat) : Int) := by
  obtain ⟨m, rfl⟩ := Int.eq_ofNat_of_zero_le h0
  obtain ⟨n, rfl⟩ := Int.eq_ofNat_of_zero_le h2
  have hm : m % 2 ^ 64 = m := Nat.mod_eq_of_lt (by omega)
  have hn : n % 2 ^ 64 = n := Nat.mod_eq_of_lt (by omega)
  have hx : m ^^^ n < 2 ^ 8 := Nat.xor_lt_two_pow (by omega) (by omega)
  have key : (BitVec.ofInt 64 (m : Int) ^^^ BitVec.ofInt 64 (n : Int)).toNat = m ^^^ n := by
    rw [BitVec.toNat_xor, BitVec.ofInt_natCast, BitVec.ofInt_natCast, BitVec.toNat_ofNat, BitVec.toNat_ofNat, hm, hn]
  show IntKind.i64.wrap ((BitVec.ofInt 64 (m : Int) ^^^ BitVec.ofInt 64 (n : Int)).toNat : Nat) = _
  rw [key, i64_small _ (by omega) (by have : ((m ^^^ n : Nat) : Int) < ((2 ^ 8 : Nat) : Int) := by exact_mod_cast hx
                                      omega)]
  rfl
theorem not_eq (a : Int) (h0 : 0 ≤ a) (h1 : a ≤ 255) : bits .xor .i64 (-1) a = -1 - a := by
  obtain ⟨m, rfl⟩ := Int.eq_ofNat_of_zero_le h0
  have hm : m % 2 ^ 64 = m := Nat.mod_eq_of_lt (by omega)
  have e1 : BitVec.ofInt 64 (-1) = BitVec.allOnes 64 := by decide
  have key : (BitVec.ofInt 64 (-1) ^^^ BitVec.ofInt 64 (m : Int)).toNat = 2 ^ 64 - 1 - m := by
    rw [e1, BitVec.allOnes_xor, BitVec.toNat_not, BitVec.ofInt_natCast, BitVec.toNat_ofNat, hm]
  show IntKind.i64.wrap ((BitVec.ofInt 64 (-1) ^^^ BitVec.ofInt 64 (m : Int)).toNat : Nat) = _
  rw [key, IntKind.wrap_i64]
  omega
theorem mask_nat (n : Int) (k : Nat) (hk : k ≤ 8) : bits .and .i64 n (2 ^ k - 1) = n % 2 ^ k := by
  have e : ((2 : Int) ^ k - 1) = ((2 ^ k - 1 : Nat) : Int) := by rw [Int.natCast_sub (Nat.two_pow_pos k)]; simp
  have hs : 2 ^ k ≤ 2 ^ 8 := Nat.pow_le_pow_right (by decide) hk
  have hp : 0 < 2 ^ k := Nat.two_pow_pos k
  have key : (BitVec.ofInt 64 n &&& BitVec.ofInt 64 ((2 : Int) ^ k - 1)).toNat = (n % ((2 ^ 64 : Nat) : Int)).toNat % 2 ^ k := by
    rw [BitVec.toNat_and, BitVec.toNat_ofInt, e, BitVec.ofInt_natCast, BitVec.toNat_ofNat, Nat.mod_eq_of_lt (a := 2 ^ k - 1) (by omega), Nat.and_two_pow_sub_one_eq_mod]
  show IntKind.i64.wrap ((BitVec.ofInt 64 n &&& BitVec.ofInt 64 ((2 : Int) ^ k - 1)).toNat : Nat) = n % 2 ^ k
  rw [key]
  have : k = 0 ∨ k = 1 ∨ k = 2 ∨ k = 3 ∨ k = 4 ∨ k = 5 ∨ k = 6 ∨ k = 7 ∨ k = 8 := by omega
  rw [IntKind.wrap_i64]
  rcases this with rfl | rfl | rfl | rfl | rfl | rfl | rfl | rfl | rfl <;> omega
theorem mask_eq (n w : Int) (h1 : 1 ≤ w) (h2 : w ≤ 8) : bits .and .i64 n (pw w - 1) = n % pw w := by
  unfold pw; exact mask_nat n _ (by omega)
theorem pw_pos {w : Int} : 0 < pw w := by unfold pw; exact Int.pow_pos (by decide)
theorem pw_le {w : Int} (h2 : w ≤ 8) : pw w ≤ 256 := by
  unfold pw
  have : w.toNat ≤ 8 := by omega
  have h := Nat.pow_le_pow_right (n := 2) (by decide) this
  have e : ((2 : Int) ^ w.toNat) = ((2 ^ w.toNat : Nat) : Int) := by simp
  rw [e]; omega
theorem shapedW_wd {op wd n : Int} {ws : List Int} (h : shapedW op wd n ws = true) : 1 ≤ wd ∧ wd ≤ 8 := by
  simp only [shapedW, Bool.and_eq_true, decide_eq_true_eq] at h; exact h.1
theorem shapedW_const {wd n : Int} {ws : List Int} (h : shapedW 1 wd n ws = true) : ws = [] ∧ 0 ≤ n ∧ n ≤ pw wd - 1 := by
  simp [shapedW] at h; exact ⟨h.2.1.1, h.2.1.2, by omega⟩
theorem shapedW_cell {op wd n : Int} {ws : List Int} (h : shapedW op wd n ws = true) (ho : op = 2 ∨ op = 3) : ws = [] ∧ 0 ≤ n ∧ n < 32 := by
  rcases ho with rfl | rfl <;> simp [shapedW] at h <;> exact ⟨h.2.1.1, h.2.1.2, h.2.2⟩
/-- What a shaped inner node has: an operator from 4 to 14, one to three kids. -/
theorem shapedW_inner {op wd n : Int} {ws : List Int} (h : shapedW op wd n ws = true) (h1 : op ≠ 1) (h2 : op ≠ 2) (h3 : op ≠ 3) : n = 0 ∧ 4 ≤ op ∧ op ≤ 14 ∧
    ((op = 4 ∧ ws = [wd]) ∨ (5 ≤ op ∧ op ≤ 10 ∧ ws = [wd, wd]) ∨ (11 ≤ op ∧ op ≤ 13 ∧ wd = 1 ∧ ∃ u, ws = [u, u]) ∨ (op = 14 ∧ ws = [1, wd, wd])) := by
  simp only [shapedW, Bool.and_eq_true] at h
  obtain ⟨_, h⟩ := h
  rw [if_neg h1, if_neg (by omega)] at h
  split at h
  · cases h
  · next hn =>
    have hn0 : n = 0 := by simpa using hn
    split at h
    · next e => simp at h; exact ⟨hn0, by omega, by omega, .inl ⟨e, h⟩⟩
    · split at h
      · next e => simp at h; exact ⟨hn0, by omega, by omega, .inr (.inl ⟨e.1, e.2, h⟩)⟩
      · split at h
        · next e =>
          simp at h
          refine ⟨hn0, by omega, by omega, .inr (.inr (.inl ⟨e.1, e.2, h.1.1, ?_⟩))⟩
          obtain ⟨⟨_, hl⟩, he⟩ := h
          match ws, hl with
          | [a, b], _ => simp at he; exact ⟨a, by rw [he]⟩
        · split at h
          · next e => simp at h; exact ⟨hn0, by omega, by omega, .inr (.inr (.inr ⟨e, h⟩))⟩
          · cases h
end Go.Proofs.YtlcgbdjmlnjhcaaGreatDoor
namespace Go.Proofs.YtlcgbdjmlnjhcaaGreatDoor
open Go.RowKit
theorem heap_lt' {w : World} {k : Nat} {o : Obj} (h : w.heap[k]? = some o) : k < w.heap.size := by
  rcases Nat.lt_or_ge k w.heap.size with h1 | h1
  · exact h1
  · rw [Array.getElem?_eq_none_iff.2 h1] at h; cases h
def constE (n wd : Int) : E := .mk 1 wd n []
end Go.Proofs.YtlcgbdjmlnjhcaaGreatDoor
