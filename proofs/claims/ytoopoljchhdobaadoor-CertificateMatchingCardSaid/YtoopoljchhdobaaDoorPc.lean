/-
  The iterator pieces.
-/
import Derived.Test.YtoopoljchhdobaaDoorRs
import Derived.Test.YtoopoljchhdobaaDoorPx1
import Derived.Test.YtoopoljchhdobaaDoorOwn
import Derived.Test.YtoopoljchhdobaaDoorShelf
namespace Go.Proofs.YtoopoljchhdobaaDoor
open Go.RowKit Go.Shelf
attribute [local go_sem] Oper.semAt_some

theorem index_cut (c : UInt8) : ∀ l : List UInt8, ((∀ x ∈ l, x ≠ c) ∧ Lib.indexByte l c = -1) ∨ ∃ u v, l = u ++ c :: v ∧ (∀ x ∈ u, x ≠ c) ∧ Lib.indexByte l c = (u.length : Int)
  | [] => .inl ⟨by simp, rfl⟩
  | y :: r => by
    by_cases h : y = c
    · subst h
      exact .inr ⟨[], r, rfl, by simp, by simp [Lib.indexByte]⟩
    · have hb : (y == c) = false := by simpa using h
      rcases index_cut c r with ⟨h1, h2⟩ | ⟨u, v, h1, h2, h3⟩
      · refine .inl ⟨fun x hx => ?_, ?_⟩
        · rcases List.mem_cons.1 hx with rfl | hx
          · exact h
          · exact h1 x hx
        · simp [Lib.indexByte, hb, h2]
      · refine .inr ⟨y :: u, v, by rw [h1]; rfl, fun x hx => ?_, ?_⟩
        · rcases List.mem_cons.1 hx with rfl | hx
          · exact h
          · exact h2 x hx
        · have hn : ((u.length : Int) == -1) = false := by rw [beq_eq_false_iff_ne]; omega
          simp only [Lib.indexByte, hb, h3, hn, List.length_cons]; simp
def strAt (b : Nat) (W : World) : Nat := match W.cell? ⟨b, 0, none⟩ with
  | some (.string s) => s.size
  | _ => 0
theorem strAt_eq {b : Nat} {W : World} {l : List UInt8} (h : W.cell? ⟨b, 0, none⟩ = some (.string ⟨l.toArray⟩)) : strAt b W = l.length := by unfold strAt; rw [h]; rfl
/-- The next piece. -/
def NxP (c : UInt8) (text : List UInt8) (pre : List (List UInt8)) (x : List UInt8) : Prop := ∃ rest, splitB c text = pre ++ x :: rest
/-- The two boxes of pieces are kept. -/
def KeepB (b1 b2 : Nat) (W W' : World) : Prop := ∀ k, k = b1 ∨ k = b2 → W'.heap[k]? = W.heap[k]?
def boxed (W : World) (b : Nat) (t : TypeId) (v : Value) : Prop := W.heap[b]? = some (.cells #[v] t (0, 0))
theorem boxed_cell {W : World} {b : Nat} {t : TypeId} {v : Value} (h : boxed W b t v) : W.cell? ⟨b, 0, none⟩ = some v := by unfold boxed at h; simp [World.cell?, h]
theorem boxed_frozen {W : World} {b : Nat} {t : TypeId} {v : Value} (h : boxed W b t v) : W.frozen? ⟨b, 0, none⟩ = false := frozen_of_row W b 0 _ t h
theorem boxed_set {W : World} {b : Nat} {t : TypeId} {v : Value} (h : boxed W b t v) (u : Value) : boxed (W.setCell ⟨b, 0, none⟩ u) b t u := by
  unfold boxed; rw [heap_setCell_same W b 0 _ t _ h]; rfl
theorem boxed_other {W : World} {b : Nat} {t : TypeId} {v : Value} (h : boxed W b t v) {b' : Nat} (hne : b ≠ b') (u : Value) : boxed (W.setCell ⟨b', 0, none⟩ u) b t v := by
  unfold boxed; rw [heap_setCell_other W ⟨b', 0, none⟩ b u hne]; exact h

set_option maxRecDepth 100000 in
set_option maxHeartbeats 2000000 in
theorem pieces1_in (n : Nat) (hn : 1 ≤ n) (l b1 b2 : Nat) (hne : b1 ≠ b2) (c : UInt8) (text : List UInt8) (hlen : text.length ≤ 1000000000) (J Jx : List (List UInt8) → World → Prop) (hd : Deaf b1 J)
    (hY : ∀ pre x W, J pre W → NxP c text pre x → YieldAt Fence.wide (n - 1) Tryd.prog l #[.string ⟨x.toArray⟩] W fun e W' =>
      (e = .returned (.bool true) ∧ J (pre ++ [x]) W' ∧ KeepB b1 b2 W W') ∨ (e = .returned (.bool false) ∧ Jx (pre ++ [x]) W'))
    (W : World) (h1 : boxed W b1 9 (.string ⟨text.toArray⟩)) (h2 : boxed W b2 5 (.int .u8 (c.toNat : Int))) (h0 : J [] W) :
    CallsIn Fence.wide n Tryd.prog 48 #[.func (.yield l) #[] #[], .pointer (some ⟨b1, 0, none⟩), .pointer (some ⟨b2, 0, none⟩)] W fun e W' => (∃ v, e = .returned v) ∧
      ((∃ ys, ys = splitB c text ∧ J ys W') ∨ (∃ pre, True ∧ Jx pre W')) := by
  have HY := Lib.hid hY; have H0 := Lib.hid h0; have H1 := Lib.hid h1; have H2 := Lib.hid h2; have HD := Lib.hid hd; have HL := Lib.hid hlen; have HNE := Lib.hid hne
  clear hY h0 h1 h2 hd hlen hne
  refine callsIn_of_wp Tryd.func48 rfl trivial ?_ rfl
  simp only [Tryd.ntmps48, List.size_toArray, List.length_cons, List.length_nil, Nat.reduceAdd, Nat.reduceSub, Array.replicate_succ, Array.replicate_zero, List.push_toArray, List.append_toArray, List.nil_append, List.cons_append]
  gi_wp2
  gi_loopw [4] (fun _ wr => ∃ (pre : List (List UInt8)) (cur : List UInt8), splitB c text = pre ++ splitB c cur ∧ cur.length ≤ text.length ∧ boxed wr b1 9 (.string ⟨cur.toArray⟩) ∧ boxed wr b2 5 (.int .u8 (c.toNat : Int)) ∧ J pre wr) (fun _ wr => strAt b1 wr)
  case atStart => exact ⟨[], text, rfl, Nat.le_refl _, H1.out, H2.out, H0.out⟩
  case round =>
    obtain ⟨pre, cur, hs, hcl, hb1, hb2, hJ⟩ := hrel
    have q1 := boxed_cell hb1; have q2 := boxed_cell hb2; have f1 := boxed_frozen hb1
    have HS := Lib.hid hs; have HB1 := Lib.hid hb1; have HB2 := Lib.hid hb2; have HJ := Lib.hid hJ; have HCL := Lib.hid hcl
    clear hs hb1 hb2 hJ hcl
    have HC : Hid (∀ w, Calls Tryd.prog 49 #[.string ⟨cur.toArray⟩, .int .u8 (c.toNat : Int)] w fun e w' => e = .returned (.int .i64 (Lib.indexByte cur c)) ∧ w' = w) := fun w => by
      have h := Tryd.strings_IndexByte ⟨cur.toArray⟩ (c.toNat : Int) w
      simpa using h
    rcases index_cut c cur with ⟨k1, k2⟩ | ⟨u, v, k1, k2, k3⟩
    · rw [k2] at HC
      have HW : Hid (splitB c cur = [cur]) := splitB_word c k1
      clear k1 k2
      obtain ⟨fn, tmps, assign, body, hy, hR⟩ := HY.out pre cur wr HJ.out ⟨[], by rw [HS.out, HW.out]⟩
      have HR := Lib.hid hR
      clear hR
      gi_wp2_with (refine ⟨trivial, ?_⟩; gi_at_call 49; refine (callsIn_wide.2 (HC.out _)).mono ?_; rintro r w1 ⟨rfl, rfl⟩)
      refine HR.out.mono ?_
      rintro e W3 (⟨rfl, hJ3, _⟩ | ⟨rfl, hJx3⟩)
      · have HJ3 := Lib.hid hJ3
        clear hJ3 hy
        gi_wp2
        refine bodyPost_ret (results_none rfl _ _ _) rfl ?_
        exact ⟨⟨_, rfl⟩, .inl ⟨_, by rw [HS.out, HW.out], HJ3.out⟩⟩
      · have HJx3 := Lib.hid hJx3
        clear hJx3 hy
        gi_wp2
        refine bodyPost_ret (results_none rfl _ _ _) rfl ?_
        exact ⟨⟨_, rfl⟩, .inr ⟨_, trivial, HJx3.out⟩⟩
    · rw [k3] at HC
      have HW : Hid (splitB c cur = u :: splitB c v) := by rw [k1]; exact splitB_cons c v k2
      have hul : u.length < cur.length := by rw [k1]; simp
      have hvl : cur.length = u.length + 1 + v.length := by rw [k1]; simp; omega
      have HTK : Hid (cur.take u.length = u) := by unfold Hid; rw [k1]; simp
      have HDR : Hid (cur.drop (u.length + 1) = v) := by unfold Hid; rw [k1]; simp
      have HVL := Lib.hid hvl
      have hcl2 := HCL.out; have hl2 := HL.out
      clear k1 k2 k3 hvl
      have i0 : (0 : Int) ≤ (u.length : Int) := by omega
      have i1 : (u.length : Int) ≤ (cur.length : Int) := by omega
      have i2 : (u.length : Int) + 1 ≤ (cur.length : Int) := by omega
      have i3 : (0 : Int) ≤ (u.length : Int) + 1 := by omega
      have i4 : ¬ ((u.length : Int) < 0) := by omega
      obtain ⟨fn, tmps, assign, body, hy, hR⟩ := HY.out pre u wr HJ.out ⟨splitB c v, by rw [HS.out, HW.out]⟩
      have hex : ((⟨cur.toArray⟩ : ByteArray).extract 0 u.length) = ⟨u.toArray⟩ := by
        rw [← HTK.out]; apply ByteArray.ext; simp [HTK.out]
      rw [← hex] at hy
      clear hex
      have HR := Lib.hid hR
      clear hR
      gi_wp2_with (refine ⟨trivial, ?_⟩; gi_at_call 49; refine (callsIn_wide.2 (HC.out _)).mono ?_; rintro r w1 ⟨rfl, rfl⟩)
      refine HR.out.mono ?_
      rintro e W3 (⟨rfl, hJ3, hk3⟩ | ⟨rfl, hJx3⟩)
      · have hb31 : boxed W3 b1 9 (.string ⟨cur.toArray⟩) := (hk3 b1 (.inl rfl)).trans HB1.out
        have hb32 : boxed W3 b2 5 (.int .u8 (c.toNat : Int)) := (hk3 b2 (.inr rfl)).trans HB2.out
        have g1 := boxed_cell hb31; have f3 := boxed_frozen hb31
        have HB31 := Lib.hid hb31; have HB32 := Lib.hid hb32; have HJ3 := Lib.hid hJ3
        clear hJ3 hk3 hb31 hb32 hy q1 q2 f1
        gi_wp2
        have hex : ((⟨cur.toArray⟩ : ByteArray).extract (u.length + 1) cur.length) = ⟨v.toArray⟩ := by
          rw [← HDR.out]; apply ByteArray.ext; simp [List.extract_eq_take_drop, HDR.out]
          rw [List.take_of_length_le]
          have := HVL.out; omega
        rw [hex]
        have hb := boxed_set HB31.out (.string ⟨v.toArray⟩)
        refine ⟨⟨pre ++ [u], v, by rw [HS.out, HW.out]; simp, by have := HVL.out; omega, hb, boxed_other HB32.out (fun h => HNE.out h.symm) _, HD.out _ _ _ HJ3.out⟩, ?_⟩
        rw [strAt_eq (boxed_cell hb), strAt_eq (boxed_cell HB1.out)]
        have := HVL.out; omega
      · have HJx3 := Lib.hid hJx3
        clear hJx3 hy
        gi_wp2
        refine bodyPost_ret (results_none rfl _ _ _) rfl ?_
        exact ⟨⟨_, rfl⟩, .inr ⟨_, trivial, HJx3.out⟩⟩

theorem pieces_ranges (n : Nat) (hn : 1 ≤ n) (b1 b2 : Nat) (hne : b1 ≠ b2) (c : UInt8) (text : List UInt8) (hlen : text.length ≤ 1000000000) (w : World) (h1 : boxed w b1 9 (.string ⟨text.toArray⟩)) (h2 : boxed w b2 5 (.int .u8 (c.toNat : Int))) :
    Ranges Fence.wide n Tryd.prog 48 #[.pointer (some ⟨b1, 0, none⟩), .pointer (some ⟨b2, 0, none⟩)] (fun x : List UInt8 => #[.string ⟨x.toArray⟩]) b1 (KeepB b1 b2) (NxP c text) (fun ys => ys = splitB c text) (fun _ => True) w :=
  fun l J Jx W hW hd hY h0 => pieces1_in n hn l b1 b2 hne c text hlen J Jx hd hY W ((hW.block b1 (Array.getElem?_eq_some_iff.1 h1).1).trans h1) ((hW.block b2 (Array.getElem?_eq_some_iff.1 h2).1).trans h2) h0

set_option maxHeartbeats 1000000 in
theorem pieces_in (n : Nat) (s : ByteArray) (c : Int) (w : World) :
    CallsIn Fence.wide n Tryd.prog 25 #[.string s, .int .u8 c] w fun e w' => e = .returned (.func (.func 48) #[] #[.pointer (some ⟨w.heap.size, 0, none⟩), .pointer (some ⟨w.heap.size + 1, 0, none⟩)]) ∧ w' = (w.alloc (.cells #[.string s] 9)).alloc (.cells #[.int .u8 c] 5) := by
  refine callsIn_of_wp Tryd.func25 rfl trivial ?_ rfl
  simp only [Tryd.ntmps25, List.size_toArray, List.length_cons, List.length_nil, Nat.reduceAdd, Nat.reduceSub, Array.replicate_succ, Array.replicate_zero, List.push_toArray, List.append_toArray, List.nil_append, List.cons_append]
  gi_wp2
  go_ret
  exact ⟨rfl, rfl⟩
end Go.Proofs.YtoopoljchhdobaaDoor
