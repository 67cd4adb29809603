/-
  What Text computes; the walks of letter and Itoa; a builder in a world that grows.
-/
import Derived.Test.YtoopoljchhdobaaDoorBld
import Derived.Test.YtoopoljchhdobaaDoorShelf
import Derived.Lib.ItoaLen
namespace Go.Proofs.YtoopoljchhdobaaDoor
open Go.RowKit

def letterS (op : Int) : List UInt8 := if op = 2 then [99] else if op = 3 then [111] else []
/-- The names of the operators from 4 to 14. -/
def namesL : List (List UInt8) := [[110, 111, 116], [97, 110, 100], [111, 114], [120, 111, 114], [97, 100, 100], [115, 117, 98], [109, 117, 108], [101, 113], [108, 116], [108, 101], [105, 116, 101]]
def nameS (op : Int) : List UInt8 := namesL.getD (op - 4).toNat []
mutual
/-- The text of an expression. -/
def E.text : E → List UInt8
  | .mk op wd n ks => if op = 1 ∨ op = 2 ∨ op = 3 then letterS op ++ Lib.itoa n ++ [58] ++ Lib.itoa wd else nameS op ++ textAll [40] ks ++ [41]
def textAll (sep : List UInt8) : List E → List UInt8
  | [] => []
  | e :: r => sep ++ e.text ++ textAll [44] r
end
/-- The table of names. -/
def namesA : Array Value := (namesL.map fun l => Value.string ⟨l.toArray⟩).toArray
def Names (w : World) : Prop := ∃ t fr, w.heap[1]? = some (.cells namesA t fr)
theorem Names.ext {w w' : World} (h : Names w) (he : Ext w w') : Names w' := by
  obtain ⟨t, fr, h⟩ := h
  have hlt : 1 < w.heap.size := by
    rcases Nat.lt_or_ge 1 w.heap.size with h1 | h1
    · exact h1
    · rw [Array.getElem?_eq_none_iff.2 h1] at h; cases h
  exact ⟨t, fr, by rw [he.block _ hlt]; exact h⟩
theorem names_cases {k : Nat} (h : k < 11) : k = 0 ∨ k = 1 ∨ k = 2 ∨ k = 3 ∨ k = 4 ∨ k = 5 ∨ k = 6 ∨ k = 7 ∨ k = 8 ∨ k = 9 ∨ k = 10 := by omega
theorem Names.cell {w : World} (h : Names w) (k : Nat) (hk : k < 11) : w.cell? ⟨1, k, none⟩ = some (.string ⟨(namesL.getD k []).toArray⟩) := by
  obtain ⟨t, fr, h⟩ := h
  rw [Lib.cell_of_heap h]
  rcases names_cases hk with rfl | rfl | rfl | rfl | rfl | rfl | rfl | rfl | rfl | rfl | rfl <;> rfl
/-- The table of strconv's. -/
def Pow10 (w : World) : Prop := Lib.TabIs Tryd.prog w "internal/strconv.uint64pow10" .u64 Lib.pow10Tab
theorem Pow10.ext {w w' : World} (h : Pow10 w) (he : Ext w w') : Pow10 w' := by
  unfold Pow10 Lib.TabIs World.var? at *
  rw [show Tryd.prog.globalNamed "internal/strconv.uint64pow10" = some 4 by kernel_rfl] at h ⊢
  simp only [Option.bind_some] at h ⊢
  have hlt : 4 < w.heap.size := by
    rcases Nat.lt_or_ge 4 w.heap.size with h1 | h1
    · exact h1
    · rw [Array.getElem?_eq_none_iff.2 h1] at h; cases h
  rw [he.block _ hlt]; exact h
theorem ext_grow (w : World) (k : Nat) (os : Array Obj) : Ext w (Sort.grow (w.drewN k) os) :=
  ⟨rfl, rfl, rfl, by simp [Sort.grow], fun i hi => by simp [Sort.grow, World.drewN, Array.getElem?_append_left hi]⟩

theorem Itoa_any (n : Int) (w : World) (h0 : -9223372036854775808 ≤ n) (h1 : n ≤ 9223372036854775807) (hP : Pow10 w) :
    Calls Tryd.prog 23 #[.int .i64 n] w fun e w' => e = .returned (.string ⟨(Lib.itoa n).toArray⟩) ∧ Ext w w' :=
  (Tryd.strconv_Itoa n h0 h1 w hP).mono fun e w' ⟨h, k, os, hw⟩ => ⟨h, by rw [hw]; exact ext_grow w k os⟩

set_option maxHeartbeats 400000 in
theorem letter_any (op : Int) (w : World) (h : op = 1 ∨ op = 2 ∨ op = 3) : Calls Tryd.prog 42 #[.int .i64 op] w fun e w' => e = .returned (.string ⟨(letterS op).toArray⟩) ∧ w = w' := by
  rcases h with rfl | rfl | rfl
  all_goals
    go_enter Tryd.func42, Tryd.ntmps42
    go_wp2
    go_ret
    exact ⟨rfl, rfl⟩

/-- A builder stays one when the world grows. -/
theorem builder_ext {B b : Nat} {bs : List Value} {w w' : World} (h : Lib.IsBuilderF 72 5 B b bs w) (hx : Ext w w') : Lib.IsBuilderF 72 5 B b bs w' := by
  have key : ∀ p, Lib.BuilderAtF 72 5 B b p bs w → Lib.BuilderAtF 72 5 B b p bs w' := by
    rintro p hq
    have hlt := hq.lt
    obtain ⟨hB, v, hb, hown, hne⟩ := hq
    refine ⟨hB, v, by rw [hx.block b hlt]; exact hb, hown.kept (row := none) ⟨hx.os, hx.tape, hx.output, hx.size, fun i hi _ => hx.block i hi⟩ ?_, hne⟩
    cases v.ownBlock <;> simp
  exact h.elim (fun x => .inl (key _ x)) (fun x => .inr (key _ x))
theorem kept_ext {b : Option Nat} {w w' : World} (hx : Ext w w') : Lib.OthersKept 5 b w w' := fun k o hk _ _ => by
  have hlt : k < w.heap.size := by
    rcases Nat.lt_or_ge k w.heap.size with h1 | h1
    · exact h1
    · rw [Array.getElem?_eq_none_iff.2 h1] at hk; cases hk
  rw [hx.block k hlt]; exact hk
theorem strCells_list (l : List UInt8) : Lib.strCells ⟨l.toArray⟩ = Lib.byteCells l := by simp [Lib.strCells, Lib.byteCells]

/-- What the writing of an expression needs: the builder, the variable that holds the function, the frame. -/
def WEnv (B b V : Nat) (bs : List UInt8) (w : World) : Prop :=
  Lib.IsBuilderF 72 5 B b (Lib.byteCells bs) w ∧ w.heap[V]? = some (.cells #[.func (.func 41) #[] #[.pointer (some ⟨b, 0, none⟩), .pointer (some ⟨V, 0, none⟩)]] 82 (0, 0))
theorem WEnv.ext {B b V : Nat} {bs : List UInt8} {w w' : World} (h : WEnv B b V bs w) (hx : Ext w w') : WEnv B b V bs w' := by
  refine ⟨builder_ext h.1 hx, ?_⟩
  have hk := h.2
  have hlt : V < w.heap.size := by
    rcases Nat.lt_or_ge V w.heap.size with h1 | h1
    · exact h1
    · rw [Array.getElem?_eq_none_iff.2 h1] at hk; cases hk
  rw [hx.block V hlt]; exact hk
theorem WEnv.cell {B b V : Nat} {bs : List UInt8} {w : World} (h : WEnv B b V bs w) : w.cell? ⟨V, 0, none⟩ = some (.func (.func 41) #[] #[.pointer (some ⟨b, 0, none⟩), .pointer (some ⟨V, 0, none⟩)]) := by
  rw [Lib.cell_of_heap h.2]; rfl

/-- Some bytes are written. -/
theorem write_str (w0 : World) (b V : Nat) (bs l : List UInt8) (w : World) (hV : V ≠ b) (hE : WEnv w0.heap.size b V bs w) (hx : Ext w0 w) (hl : bs.length + l.length ≤ 1000000) :
    Calls Tryd.prog 35 #[.pointer (some ⟨b, 0, none⟩), .string ⟨l.toArray⟩] w fun e w' => e = .returned (.tuple #[.int .i64 l.length, .nilIface]) ∧ WEnv w0.heap.size b V (bs ++ l) w' ∧ Ext w0 w' := by
  have hs : ByteArray.size ⟨l.toArray⟩ = l.length := by simp [ByteArray.size]
  refine (WriteString_any w0.heap.size b (Lib.byteCells bs) ⟨l.toArray⟩ w hE.1 (by rw [Lib.byteCells_length, hs]; omega) hx.size).mono ?_
  rintro e w' ⟨rfl, h1, h2, h3⟩
  refine ⟨by rw [hs], ⟨.inr ?_, ?_⟩, Below.trans hx h2⟩
  · rw [strCells_list] at h1
    have : Lib.byteCells (bs ++ l) = Lib.byteCells bs ++ Lib.byteCells l := by simp [Lib.byteCells]
    rw [this]; exact h1
  · exact h3 V _ hE.2 (by simpa using hV) (fun c fz e => by cases e)
end Go.Proofs.YtoopoljchhdobaaDoor
