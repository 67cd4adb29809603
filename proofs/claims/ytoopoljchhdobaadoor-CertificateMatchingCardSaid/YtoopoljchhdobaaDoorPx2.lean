/-
  The walks of strings.Builder's methods at this translation, and of proof.Text.
-/
import Derived.Test.YtoopoljchhdobaaDoorPs1
import Derived.Test.YtoopoljchhdobaaDoorText
import Derived.Test.YtoopoljchhdobaaDoorPx1
import Derived.Shelf.Strings.BuilderK
namespace Go.Proofs.YtoopoljchhdobaaDoor
open Go.RowKit

set_option maxHeartbeats 2000000 in
set_option maxRecDepth 100000 in
theorem WriteByte_any (B b : Nat) (bs : List Value) (c : Int) (w : World) (h : Lib.IsBuilderF 72 5 B b bs w) (hlen : bs.length + 1 ≤ 140737488355328) (hBw : B ≤ w.heap.size) :
    Calls Tryd.prog 36 #[.pointer (some ⟨b, 0, none⟩), .int .u8 c] w fun e w' => e = .returned .nilIface ∧ (Lib.BuilderAtF 72 5 B b (.pointer (some ⟨b, 0, none⟩)) (bs ++ [.int .u8 c]) w' ∧ Below B w w' ∧ Lib.OthersKept 5 (some b) w w') := by
  obtain ⟨i0, hi, hz0, hz1, hz2⟩ := info_parts infoByte
  have H := Lib.hid h; clear h
  go_enter Tryd.func36, Tryd.ntmps36
  go_wp2_with (go_at_call 56; refine (copyCheck_any B b bs _ H.out).mono ?_)
  rintro e w1 ⟨rfl, h1, hb1, hk1⟩
  obtain ⟨hB, v, hbk, hown, hne⟩ := h1
  have c0 : w1.cell? ⟨b, 0, none⟩ = some (.pointer (some ⟨b, 0, none⟩)) := by rw [Lib.cell_of_heap hbk]; rfl
  have c1 : w1.cell? ⟨b, 1, none⟩ = some v := by rw [Lib.cell_of_heap hbk]; rfl
  go_wp2_with (at_builtin; refine wpList_append_ownF _ rfl _ _ 35 rfl B 5 i0 (.int .u8 0) 1 1 Tryd.underlying35 hi hz0 hz1 hz2 rfl (by decide) _ _ _ rfl (hown.alloc _) ⟨w1.heap.size, 0, none⟩ 1 1 [.int .u8 c] rfl rfl ?c1 ?c2 ?c3 ?c4 ?c5 ?_)
  case c1 =>
    intro j u hj
    match j, hj with
    | 0, hj => simp at hj; subst hj; simp [Addr.add]
  case c2 => intro u hu; simp at hu; subst hu; rfl
  case c3 => unfold maxLen; omega
  case c4 => omega
  case c5 => have := hb1.size; simp; omega
  intro v' w2 hown' hgrow _
  have hlt : b < w1.heap.size := by
    rcases Nat.lt_or_ge b w1.heap.size with h' | h'
    · exact h'
    · simp [Array.getElem?_eq_none h'] at hbk
  have hb2 : w2.heap[b]? = some (.cells #[.pointer (some ⟨b, 0, none⟩), v] 72 (0, 0)) := by
    rw [hgrow.block b (by simp; omega) (fun e => hne e.symm), Lib.alloc_old w1 _ b hlt]
    exact hbk
  have d0 : w2.cell? ⟨b, 0, none⟩ = some (.pointer (some ⟨b, 0, none⟩)) := by rw [Lib.cell_of_heap hb2]; rfl
  have d1 : w2.cell? ⟨b, 1, none⟩ = some v := by rw [Lib.cell_of_heap hb2]; rfl
  have f1 : w2.frozen? ⟨b, 1, none⟩ = false := Lib.frozen_of_heap hb2 1
  obtain ⟨g, cap, rfl⟩ : ∃ g cap, v' = .slice (some ⟨g, 0, none⟩) (bs.length + 1) cap := by
    rcases hown'.2 with ⟨_, h0⟩ | ⟨g, cap, cur, fz, hv, _⟩
    · omega
    · exact ⟨g, cap, hv⟩
  go_wp2
  go_ret
  refine ⟨rfl, ?_, ?_, ((hk1.alloc _).grown hgrow (Lib.ownsRowF_kind (hown.alloc _))).setCell ⟨b, 1, none⟩ rfl _⟩
  · exact Lib.BuilderAtF.put (T := 72) (e := 5) hB hb2 (bs' := bs ++ [.int .u8 c]) (by simpa using hown') (by decide)
  · exact ((hb1.alloc (by have := hb1.size; omega) _).grown hgrow (by have := hb1.size; simp; omega) (fun k hk => (hown.lt k hk).1)).setCell (p := ⟨b, 1, none⟩) hB _
/-- The builder of Text in a world that has grown from w0; 'K': a block beside that is kept. -/
def TEnv (w0 : World) (b : Nat) (bs : List UInt8) (w : World) : Prop := Lib.IsBuilderF 72 5 w0.heap.size b (Lib.byteCells bs) w ∧ Ext w0 w
theorem TEnv.ext {w0 : World} {b : Nat} {bs : List UInt8} {w w' : World} (h : TEnv w0 b bs w) (hx : Ext w w') : TEnv w0 b bs w' := ⟨builder_ext h.1 hx, h.2.trans hx⟩
def Kept (V : Nat) (o : Obj) (w : World) : Prop := w.heap[V]? = some o
theorem write_strP (w0 : World) (b V : Nat) (cs : Array Value) (bs l : List UInt8) (w : World) (hV : V ≠ b) (hE : TEnv w0 b bs w) (hK : Kept V (.cells cs 54 (0, 0)) w) (hl : bs.length + l.length ≤ 100000000) :
    Calls Tryd.prog 35 #[.pointer (some ⟨b, 0, none⟩), .string ⟨l.toArray⟩] w fun e w' => e = .returned (.tuple #[.int .i64 l.length, .nilIface]) ∧ TEnv w0 b (bs ++ l) w' ∧ Kept V (.cells cs 54 (0, 0)) w' := by
  have hs : ByteArray.size ⟨l.toArray⟩ = l.length := by simp [ByteArray.size]
  refine (WriteString_any w0.heap.size b (Lib.byteCells bs) ⟨l.toArray⟩ w hE.1 (by rw [Lib.byteCells_length, hs]; omega) hE.2.size).mono ?_
  rintro e w' ⟨rfl, h1, h2, h3⟩
  refine ⟨by rw [hs], ⟨.inr ?_, Below.trans hE.2 h2⟩, ?_⟩
  · rw [strCells_list] at h1
    have : Lib.byteCells (bs ++ l) = Lib.byteCells bs ++ Lib.byteCells l := by simp [Lib.byteCells]
    rw [this]; exact h1
  · exact h3 V _ hK (by simpa using hV) (fun c fz e => by cases e)
theorem write_byteP (w0 : World) (b V : Nat) (cs : Array Value) (bs : List UInt8) (c : UInt8) (n : Int) (hn : n = (c.toNat : Int)) (w : World) (hV : V ≠ b) (hE : TEnv w0 b bs w) (hK : Kept V (.cells cs 54 (0, 0)) w) (hl : bs.length + 1 ≤ 100000000) :
    Calls Tryd.prog 36 #[.pointer (some ⟨b, 0, none⟩), .int .u8 n] w fun e w' => e = .returned .nilIface ∧ TEnv w0 b (bs ++ [c]) w' ∧ Kept V (.cells cs 54 (0, 0)) w' := by
  subst hn
  refine (WriteByte_any w0.heap.size b (Lib.byteCells bs) c.toNat w hE.1 (by rw [Lib.byteCells_length]; omega) hE.2.size).mono ?_
  rintro e w' ⟨rfl, h1, h2, h3⟩
  refine ⟨rfl, ⟨.inr ?_, Below.trans hE.2 h2⟩, ?_⟩
  · have : Lib.byteCells (bs ++ [c]) = Lib.byteCells bs ++ [.int .u8 c.toNat] := by simp [Lib.byteCells]
    rw [this]; exact h1
  · exact h3 V _ hK (by simpa using hV) (fun c fz e => by cases e)
end Go.Proofs.YtoopoljchhdobaaDoor
