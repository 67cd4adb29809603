/-
  The walks of strings.Builder's copyCheck and WriteString at this translation (after the shelf's own proofs, whose closure is another one).
  What Text computes; the walks of letter and Itoa; a builder in a world that grows.
  The walks of Text's closure and of Text.
-/
import Derived.Test.YtlcgbdjmlnjhcaaGreatDoorG08
import Derived.Shelf.Strings.BuilderK
import Derived.Test.YtlcgbdjmlnjhcaaGreatDoorG03
import Derived.Test.YtlcgbdjmlnjhcaaGreatDoorG14
import Derived.Lib.ItoaLen
import Derived.Test.YtlcgbdjmlnjhcaaGreatDoorG11
import Derived.Test.YtlcgbdjmlnjhcaaGreatDoorG02
import Derived.Deep.RegionHeld3
import Derived.StillTailTactics
namespace Go.Proofs.YtlcgbdjmlnjhcaaGreatDoor
open Go.RowKit

theorem sizeBuilder : (Tryz.prog.info? 90).map (·.size) = some 2 := by kernel_rfl
theorem liesBuilder : liesAt Tryz.prog Tryz.prog.depth 90 (2 / Tryz.prog.cellsOf 90) 0 90 1 = true := by kernel_rfl
theorem infoByte : (Tryz.prog.info? 5).map (fun i => (i.zero, i.size, i.bytes)) = some (some (.int .u8 0), 1, 1) := by kernel_rfl

set_option maxHeartbeats 1000000 in
set_option maxRecDepth 100000 in
theorem copyCheck_used (b : Nat) (w : World) (h0 : w.cell? ⟨b, 0, none⟩ = some (.pointer (some ⟨b, 0, none⟩))) :
    Calls Tryz.prog 79 #[.pointer (some ⟨b, 0, none⟩)] w fun e w' => e = .returned (.tuple #[]) ∧ w' = w := by
  obtain ⟨j, hj, _⟩ := Option.map_eq_some_iff.1 sizeBuilder
  go_enter Tryz.func79, Tryz.ntmps79
  go_wp2
  rw [Lib.run_neq_ptr_same w _ Tryz.underlying87 hj]
  go_wp2
  go_end0
  exact ⟨rfl, rfl⟩

set_option maxHeartbeats 1000000 in
set_option maxRecDepth 100000 in
theorem copyCheck_fresh (b : Nat) (w : World) (h0 : w.cell? ⟨b, 0, none⟩ = some (.pointer none)) (hsh : w.shape? b = some (90, 2)) (hfz : w.frozen? ⟨b, 0, none⟩ = false) :
    Calls Tryz.prog 79 #[.pointer (some ⟨b, 0, none⟩)] w fun e w' => e = .returned (.tuple #[]) ∧ w' = w.setCell ⟨b, 0, none⟩ (.pointer (some ⟨b, 0, none⟩)) := by
  obtain ⟨j, hj, hjs⟩ := Option.map_eq_some_iff.1 sizeBuilder
  go_enter Tryz.func79, Tryz.ntmps79
  go_wp2
  rw [Lib.run_to_unsafe w ⟨b, 0, none⟩ Tryz.underlying87 Tryz.underlying135 hj (by rw [hjs]; decide) hsh (Nat.zero_lt_succ 1)]
  simp only [Result.andThen]
  rw [Oper.upon_value]
  go_wp2
  rw [run_callFunc_extern Tryz.func104 (by kernel_rfl) (by kernel_rfl) (by kernel_rfl) (e := Extern.AbiNoEscape.same) (by kernel_rfl)]
  rw [Lib.run_noEscape]
  simp only [Result.andThen]
  rw [Oper.upon_value]
  go_wp2
  rw [Lib.run_from_unsafe w ⟨b, 0, none⟩ Tryz.underlying135 Tryz.underlying87 hj hsh liesBuilder]
  simp only [Result.andThen]
  rw [Oper.upon_value]
  go_wp2
  go_end0
  exact ⟨rfl, rfl⟩

theorem copyCheck_any (B b : Nat) (bs : List Value) (w : World) (h : Lib.IsBuilderF 90 5 B b bs w) :
    Calls Tryz.prog 79 #[.pointer (some ⟨b, 0, none⟩)] w fun e w' => e = .returned (.tuple #[]) ∧ (Lib.BuilderAtF 90 5 B b (.pointer (some ⟨b, 0, none⟩)) bs w' ∧ Below B w w' ∧ Lib.OthersKept 5 (some b) w w') := by
  rcases h with h | h
  · refine (copyCheck_fresh b w h.cell0 h.shape h.frozen0).mono ?_
    rintro e w' ⟨rfl, rfl⟩
    exact ⟨rfl, h.used _, (Below.refl B w).setCell (p := ⟨b, 0, none⟩) h.1 _, (Lib.OthersKept.refl _ _ w).setCell ⟨b, 0, none⟩ rfl _⟩
  · refine (copyCheck_used b w h.cell0).mono ?_
    rintro e w' ⟨rfl, rfl⟩
    exact ⟨rfl, h, Below.refl B _, Lib.OthersKept.refl _ _ _⟩

set_option maxHeartbeats 2000000 in
set_option maxRecDepth 100000 in
theorem WriteString_any (B b : Nat) (bs : List Value) (s : ByteArray) (w : World) (h : Lib.IsBuilderF 90 5 B b bs w) (hlen : bs.length + s.size ≤ 140737488355328) (hBw : B ≤ w.heap.size) :
    Calls Tryz.prog 56 #[.pointer (some ⟨b, 0, none⟩), .string s] w fun e w' => e = .returned (.tuple #[.int .i64 s.size, .nilIface]) ∧ (Lib.BuilderAtF 90 5 B b (.pointer (some ⟨b, 0, none⟩)) (bs ++ Lib.strCells s) w' ∧ Below B w w' ∧ Lib.OthersKept 5 (some b) w w') := by
  obtain ⟨i0, hi, hz0, hz1, hz2⟩ := info_parts infoByte
  have H := Lib.hid h; clear h
  go_enter Tryz.func56, Tryz.ntmps56
  go_wp2_with (go_at_call 79; refine (copyCheck_any B b bs _ H.out).mono ?_)
  rintro e w1 ⟨rfl, h1, hb1, hk1⟩
  obtain ⟨hB, v, hbk, hown, hne⟩ := h1
  have c0 : w1.cell? ⟨b, 0, none⟩ = some (.pointer (some ⟨b, 0, none⟩)) := by rw [Lib.cell_of_heap hbk]; rfl
  have c1 : w1.cell? ⟨b, 1, none⟩ = some v := by rw [Lib.cell_of_heap hbk]; rfl
  go_wp2_with (at_builtin; refine Lib.wpList_append_own_stringF _ rfl _ _ 88 9 rfl B 5 i0 Tryz.underlying88 Tryz.underlying9 hi hz0 hz1 hz2 _ _ _ rfl hown s rfl ?c3 ?c4 ?c5 ?_)
  case c3 => unfold maxLen; omega
  case c4 => omega
  case c5 => have := hb1.size; omega
  intro v' w2 hown' hgrow _
  have hlt : b < w1.heap.size := by
    rcases Nat.lt_or_ge b w1.heap.size with h' | h'
    · exact h'
    · simp [Array.getElem?_eq_none h'] at hbk
  have hb2 : w2.heap[b]? = some (.cells #[.pointer (some ⟨b, 0, none⟩), v] 90 (0, 0)) := by
    rw [hgrow.block b hlt (fun e => hne e.symm)]
    exact hbk
  have d0 : w2.cell? ⟨b, 0, none⟩ = some (.pointer (some ⟨b, 0, none⟩)) := by rw [Lib.cell_of_heap hb2]; rfl
  have d1 : w2.cell? ⟨b, 1, none⟩ = some v := by rw [Lib.cell_of_heap hb2]; rfl
  have f1 : w2.frozen? ⟨b, 1, none⟩ = false := Lib.frozen_of_heap hb2 1
  obtain ⟨ao, n', cap, rfl⟩ : ∃ ao n' cap, v' = .slice ao n' cap := by
    rcases hown'.2 with ⟨hv, _⟩ | ⟨g, cap, cur, fz, hv, _⟩
    · exact ⟨_, _, _, hv⟩
    · exact ⟨_, _, _, hv⟩
  go_wp2
  go_ret2
  refine ⟨rfl, ?_, ?_, (hk1.grown hgrow (Lib.ownsRowF_kind hown)).setCell ⟨b, 1, none⟩ rfl _⟩
  · exact Lib.BuilderAtF.put (T := 90) (e := 5) hB hb2 (bs' := bs ++ Lib.strCells s) (by simpa [Lib.strCells_length] using hown') (by decide)
  · exact (hb1.grown hgrow (by have := hb1.size; omega) (fun k hk => (hown.lt k hk).1)).setCell (p := ⟨b, 1, none⟩) hB _
end Go.Proofs.YtlcgbdjmlnjhcaaGreatDoor
namespace Go.Proofs.YtlcgbdjmlnjhcaaGreatDoor
open Go.RowKit

def letterS (op : Int) : List UInt8 := if op = 2 then [99] else if op = 3 then [111] else []
/-- The names of the operators from 4 to 14. -/
def namesL : List (List UInt8) := [[110, 111, 116], [97, 110, 100], [111, 114], [120, 111, 114], [97, 100, 100], [115, 117, 98], [109, 117, 108], [101, 113], [108, 116], [108, 101], [105, 116, 101]]
def nameS (op : Int) : List UInt8 := namesL.getD (op - 4).toNat []
mutual
/-- The text of an expression. -/
def E.text : E → List UInt8
  | .mk op wd n ks => if op = 1 ∨ op = 2 ∨ op = 3 then letterS op ++ Lib.itoa n ++ [58] ++ Lib.itoa wd else nameS op ++ textAll [40] ks ++ [41]
def textAll (sep : List UInt8) : List E → List UInt8
  | [] => []
  | e :: r => sep ++ e.text ++ textAll [44] r
end
/-- The table of names. -/
def namesA : Array Value := (namesL.map fun l => Value.string ⟨l.toArray⟩).toArray
def Names (w : World) : Prop := ∃ t fr, w.heap[0]? = some (.cells namesA t fr)
theorem Names.ext {w w' : World} (h : Names w) (he : Ext w w') : Names w' := by
  obtain ⟨t, fr, h⟩ := h
  have hlt : 0 < w.heap.size := by
    rcases Nat.lt_or_ge 0 w.heap.size with h1 | h1
    · exact h1
    · rw [Array.getElem?_eq_none_iff.2 h1] at h; cases h
  exact ⟨t, fr, by rw [he.block _ hlt]; exact h⟩
theorem names_cases {k : Nat} (h : k < 11) : k = 0 ∨ k = 1 ∨ k = 2 ∨ k = 3 ∨ k = 4 ∨ k = 5 ∨ k = 6 ∨ k = 7 ∨ k = 8 ∨ k = 9 ∨ k = 10 := by omega
theorem Names.cell {w : World} (h : Names w) (k : Nat) (hk : k < 11) : w.cell? ⟨0, k, none⟩ = some (.string ⟨(namesL.getD k []).toArray⟩) := by
  obtain ⟨t, fr, h⟩ := h
  rw [Lib.cell_of_heap h]
  rcases names_cases hk with rfl | rfl | rfl | rfl | rfl | rfl | rfl | rfl | rfl | rfl | rfl <;> rfl
/-- The table of strconv's. -/
def Pow10 (w : World) : Prop := Lib.TabIs Tryz.prog w "internal/strconv.uint64pow10" .u64 Lib.pow10Tab
theorem Pow10.ext {w w' : World} (h : Pow10 w) (he : Ext w w') : Pow10 w' := by
  unfold Pow10 Lib.TabIs World.var? at *
  rw [show Tryz.prog.globalNamed "internal/strconv.uint64pow10" = some 2 by kernel_rfl] at h ⊢
  simp only [Option.bind_some] at h ⊢
  have hlt : 2 < w.heap.size := by
    rcases Nat.lt_or_ge 2 w.heap.size with h1 | h1
    · exact h1
    · rw [Array.getElem?_eq_none_iff.2 h1] at h; cases h
  rw [he.block _ hlt]; exact h
theorem ext_grow (w : World) (k : Nat) (os : Array Obj) : Ext w (Sort.grow (w.drewN k) os) :=
  ⟨rfl, rfl, rfl, by simp [Sort.grow], fun i hi => by simp [Sort.grow, World.drewN, Array.getElem?_append_left hi]⟩

theorem Itoa_any (n : Int) (w : World) (h0 : -9223372036854775808 ≤ n) (h1 : n ≤ 9223372036854775807) (hP : Pow10 w) :
    Calls Tryz.prog 58 #[.int .i64 n] w fun e w' => e = .returned (.string ⟨(Lib.itoa n).toArray⟩) ∧ Ext w w' :=
  (Tryz.strconv_Itoa n h0 h1 w hP).mono fun e w' ⟨h, k, os, hw⟩ => ⟨h, by rw [hw]; exact ext_grow w k os⟩

set_option maxHeartbeats 400000 in
theorem letter_any (op : Int) (w : World) (h : op = 1 ∨ op = 2 ∨ op = 3) : Calls Tryz.prog 57 #[.int .i64 op] w fun e w' => e = .returned (.string ⟨(letterS op).toArray⟩) ∧ w = w' := by
  rcases h with rfl | rfl | rfl
  all_goals
    go_enter Tryz.func57, Tryz.ntmps57
    go_wp2
    go_ret
    exact ⟨rfl, rfl⟩

/-- A builder stays one when the world grows. -/
theorem builder_ext {B b : Nat} {bs : List Value} {w w' : World} (h : Lib.IsBuilderF 90 5 B b bs w) (hx : Ext w w') : Lib.IsBuilderF 90 5 B b bs w' := by
  have key : ∀ p, Lib.BuilderAtF 90 5 B b p bs w → Lib.BuilderAtF 90 5 B b p bs w' := by
    rintro p hq
    have hlt := hq.lt
    obtain ⟨hB, v, hb, hown, hne⟩ := hq
    refine ⟨hB, v, by rw [hx.block b hlt]; exact hb, hown.kept (row := none) ⟨hx.os, hx.tape, hx.output, hx.size, fun i hi _ => hx.block i hi⟩ ?_, hne⟩
    cases v.ownBlock <;> simp
  exact h.elim (fun x => .inl (key _ x)) (fun x => .inr (key _ x))
theorem kept_ext {b : Option Nat} {w w' : World} (hx : Ext w w') : Lib.OthersKept 5 b w w' := fun k o hk _ _ => by
  have hlt : k < w.heap.size := by
    rcases Nat.lt_or_ge k w.heap.size with h1 | h1
    · exact h1
    · rw [Array.getElem?_eq_none_iff.2 h1] at hk; cases hk
  rw [hx.block k hlt]; exact hk
theorem strCells_list (l : List UInt8) : Lib.strCells ⟨l.toArray⟩ = Lib.byteCells l := by simp [Lib.strCells, Lib.byteCells]

/-- What the writing of an expression needs: the builder, the variable that holds the function, the frame. -/
def WEnv (B b V : Nat) (bs : List UInt8) (w : World) : Prop :=
  Lib.IsBuilderF 90 5 B b (Lib.byteCells bs) w ∧ w.heap[V]? = some (.cells #[.func (.func 55) #[] #[.pointer (some ⟨b, 0, none⟩), .pointer (some ⟨V, 0, none⟩)]] 76 (0, 0))
theorem WEnv.ext {B b V : Nat} {bs : List UInt8} {w w' : World} (h : WEnv B b V bs w) (hx : Ext w w') : WEnv B b V bs w' := by
  refine ⟨builder_ext h.1 hx, ?_⟩
  have hk := h.2
  have hlt : V < w.heap.size := by
    rcases Nat.lt_or_ge V w.heap.size with h1 | h1
    · exact h1
    · rw [Array.getElem?_eq_none_iff.2 h1] at hk; cases hk
  rw [hx.block V hlt]; exact hk
theorem WEnv.cell {B b V : Nat} {bs : List UInt8} {w : World} (h : WEnv B b V bs w) : w.cell? ⟨V, 0, none⟩ = some (.func (.func 55) #[] #[.pointer (some ⟨b, 0, none⟩), .pointer (some ⟨V, 0, none⟩)]) := by
  rw [Lib.cell_of_heap h.2]; rfl

/-- Some bytes are written. -/
theorem write_str (w0 : World) (b V : Nat) (bs l : List UInt8) (w : World) (hV : V ≠ b) (hE : WEnv w0.heap.size b V bs w) (hx : Ext w0 w) (hl : bs.length + l.length ≤ 1000000) :
    Calls Tryz.prog 56 #[.pointer (some ⟨b, 0, none⟩), .string ⟨l.toArray⟩] w fun e w' => e = .returned (.tuple #[.int .i64 l.length, .nilIface]) ∧ WEnv w0.heap.size b V (bs ++ l) w' ∧ Ext w0 w' := by
  have hs : ByteArray.size ⟨l.toArray⟩ = l.length := by simp [ByteArray.size]
  refine (WriteString_any w0.heap.size b (Lib.byteCells bs) ⟨l.toArray⟩ w hE.1 (by rw [Lib.byteCells_length, hs]; omega) hx.size).mono ?_
  rintro e w' ⟨rfl, h1, h2, h3⟩
  refine ⟨by rw [hs], ⟨.inr ?_, ?_⟩, Below.trans hx h2⟩
  · rw [strCells_list] at h1
    have : Lib.byteCells (bs ++ l) = Lib.byteCells bs ++ Lib.byteCells l := by simp [Lib.byteCells]
    rw [this]; exact h1
  · exact h3 V _ hE.2 (by simpa using hV) (fun c fz e => by cases e)
end Go.Proofs.YtlcgbdjmlnjhcaaGreatDoor
namespace Go.Proofs.YtlcgbdjmlnjhcaaGreatDoor
open Go.RowKit
theorem deepAll_iff' {ks : List E} {d : Nat} : deepAll ks d = true ↔ ∀ k ∈ ks, k.deep d = true := by
  induction ks with
  | nil => simp [deepAll]
  | cons a r ih => simp [deepAll, ih]
theorem deep_mk {op wd n : Int} {ks : List E} {d : Nat} : (E.mk op wd n ks).deep d = true ↔ 1 ≤ d ∧ shapedW op wd n (ks.map E.wd) = true ∧ ∀ k ∈ ks, k.deep (d - 1) = true := by
  simp [E.deep, deepAll_iff', and_assoc]

theorem keep3 {w w' : World} {p q r : Addr} {u v x : Value} (hx : Ext w w') (h : w.cell? p = some u) (k : w.cell? q = some v) (l : w.cell? r = some x) : w'.cell? p = some u ∧ w'.cell? q = some v ∧ w'.cell? r = some x := ⟨hx.cell h, hx.cell k, hx.cell l⟩

set_option maxRecDepth 100000 in
set_option maxHeartbeats 4000000 in
theorem write_leaf (w0 : World) (b V : Nat) (hV : V ≠ b) (hP : Pow10 w0) (op wd n : Int) (ks : List E) (w : World) (eb eo : Nat) (bs : List UInt8) (ho : op = 1 ∨ op = 2 ∨ op = 3) (hw1 : 1 ≤ wd) (hw8 : wd ≤ 8) (hn0 : 0 ≤ n) (hn : n ≤ 255) (hE : IsE w0 eb eo (.mk op wd n ks)) (hx : Ext w0 w) (hW : WEnv w0.heap.size b V bs w)
    (hl : bs.length + 61 ≤ 1000000) :
    Calls Tryz.prog 55 #[.pointer (some ⟨eb, eo, none⟩), .pointer (some ⟨b, 0, none⟩), .pointer (some ⟨V, 0, none⟩)] w fun r w' => r = .returned (.tuple #[]) ∧ WEnv w0.heap.size b V (bs ++ (E.mk op wd n ks).text) w' ∧ Ext w0 w' := by
  obtain ⟨h0, h1, h2, _⟩ := hE.cells
  simp only [E.op_mk, E.wd_mk, E.n_mk] at h0 h1 h2
  have q0 := hx.cell h0
  have q1 := hx.cell h1
  have q2 := hx.cell h2
  have HX := Lib.hid hx; have HW := Lib.hid hW; have HP := Lib.hid hP
  have hi1 := Lib.itoa_length_le n (by omega) (by omega)
  have hi2 := Lib.itoa_length_le wd (by omega) (by omega)
  have hi3 : (letterS op).length ≤ 1 := by unfold letterS; split; simp; split <;> simp
  obtain ⟨l1, hl1⟩ : ∃ l1, l1 = letterS op ++ Lib.itoa n := ⟨_, rfl⟩
  obtain ⟨l2, hl2⟩ : ∃ l2, l2 = l1 ++ [58] := ⟨_, rfl⟩
  obtain ⟨l3, hl3⟩ : ∃ l3, l3 = l2 ++ Lib.itoa wd := ⟨_, rfl⟩
  have e1 : l1.length ≤ 22 := by rw [hl1, List.length_append]; omega
  have e2 : l2.length ≤ 23 := by rw [hl2, List.length_append]; simp; omega
  have e3 : l3.length ≤ 44 := by rw [hl3, List.length_append]; omega
  have k1 : ∀ W : World, (Op.stringOp .add ⟨(letterS op).toArray⟩ ⟨(Lib.itoa n).toArray⟩).run Tryz.prog W = .ok (.string ⟨l1.toArray⟩) W := fun W => by rw [hl1]; exact run_string_add_lists W _ _ (by omega) (by omega)
  have k2 : ∀ W : World, (Op.stringOp .add ⟨l1.toArray⟩ ⟨#[58]⟩).run Tryz.prog W = .ok (.string ⟨l2.toArray⟩) W := fun W => by rw [hl2]; exact run_string_add_lists W l1 [58] (by omega) (by simp)
  have k3 : ∀ W : World, (Op.stringOp .add ⟨l2.toArray⟩ ⟨(Lib.itoa wd).toArray⟩).run Tryz.prog W = .ok (.string ⟨l3.toArray⟩) W := fun W => by rw [hl3]; exact run_string_add_lists W _ _ (by omega) (by omega)
  have HT : Hid ((E.mk op wd n ks).text = l3) := by unfold Hid; rw [E.text, if_pos ho, hl3, hl2, hl1]
  clear hl1 hl2 hl3
  have tok1 : True := trivial
  clear hx hW hP hE
  rcases ho with rfl | rfl | rfl
  · go_enter Tryz.func55, Tryz.ntmps55
    go_wp2_with fail
    go_region_held3 (fun w' => w'.cell? ⟨eb, eo, none⟩ = some (.int .i64 1) ∧ w'.cell? ⟨eb, eo + 2, none⟩ = some (.int .i64 n) ∧ w'.cell? ⟨eb, eo + 1, none⟩ = some (.int .i64 wd))
      (first | exact ⟨q0, q2, q1⟩ | (with_reducible exact keep3 hx1 h0 h2 h1) | (with_reducible exact keep3 hx2 h0 h2 h1) | (with_reducible exact keep3 hx3 h0 h2 h1))
      (first | (go_at_call 57; refine (letter_any 1 _ (.inl rfl)).mono ?_; rintro r w' ⟨rfl, rfl⟩) | (go_at_call 58; have _t := tok1; refine (Itoa_any _ _ (by omega) (by omega) (HP.out.ext HX.out.drew)).mono ?_; rintro r w1 ⟨rfl, hx1'⟩; have hx1 := HX.out.drew.trans hx1'; have HW1 := Lib.hid (HW.out.ext ((Ext.refl w).drew.trans hx1')); clear hx1' tok1) | (go_at_call 58; refine (Itoa_any _ _ (by omega) (by omega) (HP.out.ext hx1)).mono ?_; rintro r w2 ⟨rfl, hx2'⟩; have hx2 := hx1.trans hx2'; have HW2 := Lib.hid (HW1.out.ext hx2'); clear hx2') | (go_at_call 56; refine (write_str w0 b V bs l3 _ hV HW2.out hx2 (by omega)).mono ?_; rintro r w3 ⟨rfl, hw3, hx3⟩))
    have HW3 := Lib.hid hw3; clear hw3
    go_wp2_with fail
    exact bodyPost_ret (results_none rfl _ _ _) rfl ⟨rfl, by rw [HT.out]; exact HW3.out, hx3⟩
  · go_enter Tryz.func55, Tryz.ntmps55
    go_wp2_with fail
    go_region_held3 (fun w' => w'.cell? ⟨eb, eo, none⟩ = some (.int .i64 2) ∧ w'.cell? ⟨eb, eo + 2, none⟩ = some (.int .i64 n) ∧ w'.cell? ⟨eb, eo + 1, none⟩ = some (.int .i64 wd))
      (first | exact ⟨q0, q2, q1⟩ | (with_reducible exact keep3 hx1 h0 h2 h1) | (with_reducible exact keep3 hx2 h0 h2 h1) | (with_reducible exact keep3 hx3 h0 h2 h1))
      (first | (go_at_call 57; refine (letter_any 2 _ (.inr (.inl rfl))).mono ?_; rintro r w' ⟨rfl, rfl⟩) | (go_at_call 58; have _t := tok1; refine (Itoa_any _ _ (by omega) (by omega) (HP.out.ext HX.out.drew)).mono ?_; rintro r w1 ⟨rfl, hx1'⟩; have hx1 := HX.out.drew.trans hx1'; have HW1 := Lib.hid (HW.out.ext ((Ext.refl w).drew.trans hx1')); clear hx1' tok1) | (go_at_call 58; refine (Itoa_any _ _ (by omega) (by omega) (HP.out.ext hx1)).mono ?_; rintro r w2 ⟨rfl, hx2'⟩; have hx2 := hx1.trans hx2'; have HW2 := Lib.hid (HW1.out.ext hx2'); clear hx2') | (go_at_call 56; refine (write_str w0 b V bs l3 _ hV HW2.out hx2 (by omega)).mono ?_; rintro r w3 ⟨rfl, hw3, hx3⟩))
    have HW3 := Lib.hid hw3; clear hw3
    go_wp2_with fail
    exact bodyPost_ret (results_none rfl _ _ _) rfl ⟨rfl, by rw [HT.out]; exact HW3.out, hx3⟩
  · go_enter Tryz.func55, Tryz.ntmps55
    go_wp2_with fail
    go_region_held3 (fun w' => w'.cell? ⟨eb, eo, none⟩ = some (.int .i64 3) ∧ w'.cell? ⟨eb, eo + 2, none⟩ = some (.int .i64 n) ∧ w'.cell? ⟨eb, eo + 1, none⟩ = some (.int .i64 wd))
      (first | exact ⟨q0, q2, q1⟩ | (with_reducible exact keep3 hx1 h0 h2 h1) | (with_reducible exact keep3 hx2 h0 h2 h1) | (with_reducible exact keep3 hx3 h0 h2 h1))
      (first | (go_at_call 57; refine (letter_any 3 _ (.inr (.inr rfl))).mono ?_; rintro r w' ⟨rfl, rfl⟩) | (go_at_call 58; have _t := tok1; refine (Itoa_any _ _ (by omega) (by omega) (HP.out.ext HX.out.drew)).mono ?_; rintro r w1 ⟨rfl, hx1'⟩; have hx1 := HX.out.drew.trans hx1'; have HW1 := Lib.hid (HW.out.ext ((Ext.refl w).drew.trans hx1')); clear hx1' tok1) | (go_at_call 58; refine (Itoa_any _ _ (by omega) (by omega) (HP.out.ext hx1)).mono ?_; rintro r w2 ⟨rfl, hx2'⟩; have hx2 := hx1.trans hx2'; have HW2 := Lib.hid (HW1.out.ext hx2'); clear hx2') | (go_at_call 56; refine (write_str w0 b V bs l3 _ hV HW2.out hx2 (by omega)).mono ?_; rintro r w3 ⟨rfl, hw3, hx3⟩))
    have HW3 := Lib.hid hw3; clear hw3
    go_wp2_with fail
    exact bodyPost_ret (results_none rfl _ _ _) rfl ⟨rfl, by rw [HT.out]; exact HW3.out, hx3⟩

theorem textAll_ne {sep : List UInt8} {ks : List E} (h : ks ≠ []) : ∃ e r, ks = e :: r ∧ textAll sep ks = sep ++ e.text ++ textAll [44] r := by
  cases ks with
  | nil => exact absurd rfl h
  | cons e r => exact ⟨e, r, rfl, rfl⟩
/-- The text of the first k kids, each behind its separator. -/
def kidsText (ks : List E) (k : Nat) : List UInt8 := textAll [40] (ks.take k)
def sepS (k : Nat) : List UInt8 := if k = 0 then [40] else [44]
theorem sepS_len (k : Nat) : (sepS k).length = 1 := by unfold sepS; split <;> rfl
theorem textAll_snoc (sep : List UInt8) (ks : List E) (e : E) : textAll sep (ks ++ [e]) = textAll sep ks ++ (if ks = [] then sep else [44]) ++ e.text := by
  induction ks generalizing sep with
  | nil => simp [textAll]
  | cons x r ih =>
    simp only [List.cons_append, textAll, ih]
    by_cases h : r = [] <;> simp [h]
theorem kidsText_succ {ks : List E} {k : Nat} (h : k < ks.length) : kidsText ks (k + 1) = kidsText ks k ++ sepS k ++ ks[k].text := by
  unfold kidsText sepS
  rw [List.take_succ_eq_append_getElem h, textAll_snoc]
  by_cases c : k = 0
  · subst c; simp
  · have : ks.take k ≠ [] := by
      intro e
      have h1 : (ks.take k).length = 0 := by rw [e]; rfl
      rw [List.length_take] at h1
      omega
    rw [if_neg this, if_neg c]
theorem nameS_len (op : Int) : (nameS op).length ≤ 3 := by
  unfold nameS
  by_cases h : (op - 4).toNat < 11
  · have : (op - 4).toNat = 0 ∨ (op - 4).toNat = 1 ∨ (op - 4).toNat = 2 ∨ (op - 4).toNat = 3 ∨ (op - 4).toNat = 4 ∨ (op - 4).toNat = 5 ∨ (op - 4).toNat = 6 ∨ (op - 4).toNat = 7 ∨ (op - 4).toNat = 8 ∨ (op - 4).toNat = 9 ∨ (op - 4).toNat = 10 := by omega
    rcases this with e | e | e | e | e | e | e | e | e | e | e <;> rw [e] <;> decide
  · rw [List.getD_eq_getElem?_getD, List.getElem?_eq_none (by simp [namesL]; omega)]; simp
theorem leaf_facts {op wd n : Int} {ks : List E} {d : Nat} (h : (E.mk op wd n ks).deep d = true) (ho : op = 1 ∨ op = 2 ∨ op = 3) : 1 ≤ wd ∧ wd ≤ 8 ∧ 0 ≤ n ∧ n ≤ 255 := by
  obtain ⟨_, hs, _⟩ := deep_mk.1 h
  obtain ⟨h1, h8⟩ := shapedW_wd hs
  have := pw_le h8
  rcases ho with rfl | rfl | rfl
  · have := shapedW_const hs; omega
  · have := shapedW_cell hs (.inl rfl); omega
  · have := shapedW_cell hs (.inr rfl); omega
mutual
theorem text_len : (e : E) → (d : Nat) → e.deep d = true → e.text.length + 1 ≤ 61 * e.size
  | .mk op wd n ks, d, h => by
    have hk : deepAll ks (d - 1) = true := by simp only [E.deep, Bool.and_eq_true] at h; exact h.2
    have ih := textAll_len ks (d - 1) [40] (by simp) hk
    rw [E.text, E.size]
    split
    · next ho =>
      have hf := leaf_facts h ho
      have h1 := Lib.itoa_length_le n (by omega) (by omega)
      have h2 := Lib.itoa_length_le wd (by omega) (by omega)
      have h3 : (letterS op).length ≤ 1 := by unfold letterS; split; simp; split <;> simp
      simp only [List.length_append, List.length_cons, List.length_nil]; omega
    · have := nameS_len op
      simp only [List.length_append, List.length_cons, List.length_nil]; omega
theorem textAll_len : (ks : List E) → (d : Nat) → (sep : List UInt8) → sep.length ≤ 1 → deepAll ks d = true → (textAll sep ks).length ≤ 61 * sizeAll ks
  | [], _, _, _, _ => by simp [textAll]
  | e :: r, d, sep, hs, h => by
    simp only [deepAll, Bool.and_eq_true] at h
    have h1 := text_len e d h.1
    have h2 := textAll_len r d [44] (by simp) h.2
    simp only [textAll, sizeAll, List.length_append]; omega
end

set_option maxRecDepth 100000 in
set_option maxHeartbeats 4000000 in
theorem write_any (w0 : World) (b V : Nat) (hV : V ≠ b) (hN0 : Names w0) (hP : Pow10 w0) (N : Nat) : ∀ (e : E) (w : World) (eb eo d : Nat) (bs : List UInt8), e.size ≤ N → e.deep d = true → IsE w0 eb eo e → Ext w0 w → WEnv w0.heap.size b V bs w → bs.length + 61 * e.size ≤ 1000000 →
    Calls Tryz.prog 55 #[.pointer (some ⟨eb, eo, none⟩), .pointer (some ⟨b, 0, none⟩), .pointer (some ⟨V, 0, none⟩)] w fun r w' => r = .returned (.tuple #[]) ∧ WEnv w0.heap.size b V (bs ++ e.text) w' ∧ Ext w0 w' := by
  induction N with
  | zero => intro e w eb eo d bs h; have := e.size_pos; omega
  | succ N ih =>
    intro e w eb eo d bs hN hd hE hx hW hl
    obtain ⟨op, wd, n, ks⟩ := e
    by_cases ho : op = 1 ∨ op = 2 ∨ op = 3
    · obtain ⟨h1, h8, h0, hn⟩ := leaf_facts hd ho
      have : 1 ≤ (E.mk op wd n ks).size := E.size_pos _
      exact write_leaf w0 b V hV hP op wd n ks w eb eo bs ho h1 h8 h0 hn hE hx hW (by omega)
    · obtain ⟨hd1, hs, hdk⟩ := deep_mk.1 hd
      obtain ⟨_, h4, h14, hsh⟩ := shapedW_inner hs (by omega) (by omega) (by omega)
      have hne : ks ≠ [] := by
        rintro rfl
        rcases hsh with ⟨_, e⟩ | ⟨_, _, e⟩ | ⟨_, _, _, u, e⟩ | ⟨_, e⟩ <;> simp at e
      obtain ⟨c0, _⟩ := hE.cells
      simp only [E.op_mk] at c0
      obtain ⟨b', o', cap, c3, hlen, hk⟩ := hE.kid hne
      have HT : Hid ((E.mk op wd n ks).text = nameS op ++ kidsText ks ks.length ++ [41]) := by unfold Hid kidsText; rw [E.text, if_neg ho, List.take_length]
      have HD := Lib.hid hdk; have HK := Lib.hid hk; have IH := Lib.hid ih; have HX := Lib.hid hx; have HW := Lib.hid hW
      have hq0 := hx.cell c0
      have hq3 := hx.cell c3
      have hnm := hN0.cell (op - 4).toNat (by omega)
      have hnm' : w.cell? ⟨0, (op - 4).toNat, none⟩ = some (.string ⟨(nameS op).toArray⟩) := hx.cell hnm
      have HNL := Lib.hid (nameS_len op)
      have e1 : (op == 1) = false := by rw [beq_eq_false_iff_ne]; omega
      have e2 : (op == 2) = false := by rw [beq_eq_false_iff_ne]; omega
      have e3 : (op == 3) = false := by rw [beq_eq_false_iff_ne]; omega
      have hl' : bs.length + 61 * (1 + sizeAll ks) ≤ 1000000 := hl
      have HTL : Hid (∀ k, k ≤ ks.length → (kidsText ks k).length ≤ 61 * sizeAll (ks.take k)) := fun k _ => textAll_len _ (d - 1) [40] (by simp) ((deepAll_iff _ _).2 fun x hx => hdk x (List.mem_of_mem_take hx))
      have HNN := Lib.hid hN
      clear hx hW hE hk hdk ih hd hs hsh hN hl hnm ho
      go_enter Tryz.func55, Tryz.ntmps55
      go_wp2_with fail
      refine (write_str w0 b V bs (nameS op) _ hV HW.out HX.out (by have := HNL.out; omega)).mono ?_
      rintro r w1 ⟨rfl, hw1, hx1⟩
      have g3 := hx1.cell c3
      have HW1 := Lib.hid hw1; have HX1 := Lib.hid hx1; clear hw1 hx1 HW HX hq0 hq3 hnm'
      go_wp2_with fail
      go_loopw [4, 5, 46] (fun s4 _ i wr => ∃ k : Nat, k ≤ ks.length ∧ i = .int .i64 k ∧ s4 = .string ⟨(sepS k).toArray⟩ ∧ WEnv w0.heap.size b V (bs ++ nameS op ++ kidsText ks k) wr ∧ Ext w0 wr) (fun _ _ i _ => ks.length - (intOf i).toNat)
      case atStart => exact ⟨0, Nat.zero_le _, rfl, rfl, by simpa [kidsText, textAll] using HW1.out, HX1.out⟩
      case round =>
        obtain ⟨k, hk, rfl, rfl, hwr, hxr⟩ := hrel
        have hac : (bs ++ nameS op ++ kidsText ks k).length ≤ bs.length + 3 + 61 * sizeAll (ks.take k) := by
          have h1 := HNL.out; have h2 := HTL.out k hk
          simp only [List.length_append]; omega
        by_cases hlt : k < ks.length
        · have hst := sizeAll_take_succ hlt
          have hsl := sizeAll_take_le ks (k + 1)
          have hkp := ks[k].size_pos
          have HSU := Lib.hid (kidsText_succ hlt)
          have hin : ks[k] ∈ ks := List.getElem_mem hlt
          have hsz : ks[k].size ≤ N := by have h1 := size_kid (op := op) (wd := wd) (n := n) hin; have h2 := HNN.out; omega
          have HAC : Hid ((bs ++ nameS op ++ kidsText ks k).length + 61 * ks[k].size + 10 ≤ 1000000) := by unfold Hid; omega
          clear hst hsl hkp hac
          have HWr := Lib.hid hwr; have HXr := Lib.hid hxr; clear hwr hxr
          go_wp2_with fail
          refine (write_str w0 b V _ (sepS k) _ hV HWr.out HXr.out (by rw [sepS_len]; have := HAC.out; omega)).mono ?_
          rintro r w2 ⟨rfl, hw2, hx2⟩
          have g4 := hx2.cell c3
          have gv := hw2.cell
          have HW2 := Lib.hid hw2; have HX2 := Lib.hid hx2; clear hw2 hx2
          go_wp2_with fail
          go_still_tail 7, (by kernel_rfl)
          go_wp2_with fail
          refine (IH.out ks[k] w2.drew b' (o' + k * 4) (d - 1) _ hsz (HD.out _ hin) (HK.out k hlt) HX2.out.drew (HW2.out.ext (Ext.refl w2).drew) (by rw [List.length_append, sepS_len]; have := HAC.out; omega)).mono ?_
          rintro r w3 ⟨rfl, hw3, hx3⟩
          have HW3 : Hid (WEnv w0.heap.size b V (bs ++ nameS op ++ kidsText ks (k + 1)) w3) := by
            unfold Hid; rw [HSU.out]; simpa [List.append_assoc] using hw3
          have HX3 := Lib.hid hx3; clear hw3 hx3
          go_wp2_with fail
          exact ⟨⟨k + 1, by omega, by go_num, by simp [sepS], HW3.out, HX3.out⟩, by simp [intOf]; omega⟩
        · obtain rfl : k = ks.length := by omega
          have HWr := Lib.hid hwr; have HXr := Lib.hid hxr; clear hwr hxr
          have HAC : Hid ((bs ++ nameS op ++ kidsText ks ks.length).length + 10 ≤ 1000000) := by unfold Hid; rw [List.take_length] at hac; omega
          clear hac
          go_wp2_with fail
          refine (write_str w0 b V _ [41] _ hV HWr.out HXr.out (by have := HAC.out; simp only [List.length_cons, List.length_nil]; omega)).mono ?_
          rintro r w2 ⟨rfl, hw2, hx2⟩
          have HW2 := Lib.hid hw2; have HX2 := Lib.hid hx2; clear hw2 hx2
          go_wp2_with fail
          go_end0
          exact ⟨rfl, by rw [HT.out]; simpa [List.append_assoc] using HW2.out, HX2.out⟩

/-- What Text gives back. -/
def E.textTop (e : E) : List UInt8 := if e.wf then e.text else []

set_option maxHeartbeats 2000000 in
theorem Text_any (e : E) (v : Value) (w : World) (he : EVal w v e) (hM : Masks w) (hN : Names w) (hP : Pow10 w) : Calls Tryz.prog 30 #[v] w fun r w' => r = .returned (.string ⟨e.textTop.toArray⟩) ∧ Ext w w' := by
  obtain ⟨k, rfl, hk⟩ := he
  have hE := IsE.box (w := w) (e := e) (t := 25) hk
  generalize hw0 : w.alloc (.cells #[.int .i64 e.op, .int .i64 e.wd, .int .i64 e.n, k] 25) = w0 at hE
  have hx0 : Ext w w0 := by rw [← hw0]; exact (Ext.refl w).alloc _
  have hv0 : EVal w0 (.agg #[.int .i64 e.op, .int .i64 e.wd, .int .i64 e.n, k]) e := ⟨k, rfl, hk.ext hx0⟩
  have H0 := Lib.hid hw0; have HX0 := Lib.hid hx0; have HE := Lib.hid hE; have HV0 := Lib.hid hv0
  have HM0 := Lib.hid (hM.ext hx0); have HN0 := Lib.hid (hN.ext hx0); have HP0 := Lib.hid (hP.ext hx0)
  clear hw0 hx0 hE hk hM hv0 hN hP
  cases hw : e.wf with
  | false =>
    have HF : Hid (e.textTop = []) := by simp [Hid, E.textTop, hw]
    have HW := Lib.hid hw; clear hw
    go_enter Tryz.func30, Tryz.ntmps30
    go_wp2_with fail
    rw [H0.out]
    refine (wellFormed_any e _ _ HV0.out HM0.out).mono ?_
    rintro r w1 ⟨rfl, hx1⟩
    rw [HW.out]
    have HX1 := Lib.hid hx1; clear hx1
    go_wp2_with fail
    go_ret
    exact ⟨by rw [HF.out]; rfl, HX0.out.trans HX1.out⟩
  | true =>
    have HF : Hid (e.textTop = e.text) := by simp [Hid, E.textTop, hw]
    have HW := Lib.hid hw; clear hw
    go_enter Tryz.func30, Tryz.ntmps30
    go_wp2_with fail
    rw [H0.out]
    refine (wellFormed_any e _ _ HV0.out HM0.out).mono ?_
    rintro r w1 ⟨rfl, hx1⟩
    rw [HW.out]
    have HX1 := Lib.hid hx1; clear hx1
    go_wp2_with fail
    refine (write_any w1 w1.heap.size (w1.heap.size + 1) (by omega) (HN0.out.ext HX1.out) (HP0.out.ext HX1.out) e.size e _ w.heap.size 0 40 [] (Nat.le_refl _) (wf_deep HW.out) (HE.out.ext HX1.out) (((Ext.refl w1).alloc _).alloc _) ⟨?_, ?_⟩ ?_).mono ?_
    · exact (Lib.IsBuilderF.of (Lib.fresh_isBuilder _ _ w1)).alloc _
    · simpa using heap_new (w1.alloc _) _
    · have : e.size ≤ 600 := by have := HW.out; simp only [E.wf, Bool.and_eq_true, decide_eq_true_eq] at this; exact this.1
      simp only [List.length_nil]; omega
    rintro r w2 ⟨rfl, ⟨hw2, _⟩, hx2⟩
    rw [List.nil_append] at hw2
    have HW2 := Lib.hid hw2; have HX2 := Lib.hid hx2; clear hw2 hx2
    go_wp2_with fail
    refine (Tryz.Builder_String_any_k w1.heap.size w1.heap.size e.text w2 HW2.out HX2.out.size).mono ?_
    rintro r w3 ⟨rfl, _, hb3, _⟩
    have HX3 := Lib.hid (HX0.out.trans (HX1.out.trans (Below.trans HX2.out hb3))); clear hb3
    go_wp2_with fail
    go_ret
    exact ⟨by rw [HF.out]; rfl, HX3.out⟩
end Go.Proofs.YtlcgbdjmlnjhcaaGreatDoor
