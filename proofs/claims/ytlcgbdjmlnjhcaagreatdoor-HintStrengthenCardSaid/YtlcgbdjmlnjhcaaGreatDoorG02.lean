/-
  Slices that a call makes for itself by append: ints; the laws that the walks use.
  The walks of package states: small, valid; slices.Equal.
  The walk of states.valid.
-/
import Derived.Test.YtlcgbdjmlnjhcaaGreatDoorG00
import Derived.Test.YtlcgbdjmlnjhcaaGreatDoorRows
import Derived.Test.YtlcgbdjmlnjhcaaGreatDoorG01
namespace Go.Proofs.YtlcgbdjmlnjhcaaGreatDoor
open Go.RowKit

/-- The newest block. -/
theorem heap_new (w : World) (o : Obj) : (w.alloc o).heap[w.heap.size]? = some o := by
  show (w.heap.push o)[w.heap.size]? = _
  simp
theorem infoInt : (Tryz.prog.info? 3).map (fun i => (i.zero, i.size, i.bytes)) = some (some (.int .i64 0), 1, 8) := by kernel_rfl

/-- A slice of ints of the call's own: nil, or at the head of a block from 'base' on. -/
def OwnInts (w : World) (base : Nat) (v : Value) (l : List Int) : Prop := w.ownsRow base 3 1 v l.length (l.map (Value.int .i64))

theorem OwnInts.nil (w : World) (base : Nat) : OwnInts w base (.slice none 0 0) [] := ⟨rfl, .inl ⟨rfl, rfl⟩⟩

/-- It reads as the list. -/
theorem OwnInts.ints {w : World} {base : Nat} {v : Value} {l : List Int} (h : OwnInts w base v l) : Ints w v l := by
  obtain ⟨_, h2⟩ := h
  rcases h2 with ⟨rfl, hl⟩ | ⟨g, cap, cur, rfl, _, hh, hn, hc, hs, ht⟩
  · exact .inl ⟨⟨_, _, rfl⟩, List.length_eq_zero_iff.1 hl⟩
  · refine .inr ⟨g, 0, cap, rfl, by unfold maxLen at hc; omega, fun i hi => ?_⟩
    rw [Nat.mul_one] at ht
    have e : cur.toList[i]? = some (.int .i64 l[i]) := by
      have := congrArg (fun x => x[i]?) ht
      simp only [List.getElem?_take, if_pos hi] at this
      rw [this]; simp [hi]
    simp only [IntAt, World.cell?, hh, Nat.zero_add, Nat.mul_one]
    simpa using e

/-- It is kept by what leaves its block alone. -/
theorem OwnInts.kept {w w' : World} {base : Nat} {v : Value} {l : List Int} (h : OwnInts w base v l) (hx : Ext w w') : OwnInts w' base v l := by
  obtain ⟨h1, h2⟩ := h
  refine ⟨h1, ?_⟩
  rcases h2 with h2 | ⟨g, cap, cur, hv, hg, hh, r⟩
  · exact .inl h2
  · refine .inr ⟨g, cap, cur, hv, hg, ?_, r⟩
    have hlt : g < w.heap.size := by
      rcases Nat.lt_or_ge g w.heap.size with h | h
      · exact h
      · rw [Array.getElem?_eq_none_iff.2 h] at hh; cases hh
    rw [hx.block g hlt]; exact hh

/-- The block of such a slice, if there is one, is from base on. -/
theorem OwnInts.base {w : World} {base : Nat} {v : Value} {l : List Int} (h : OwnInts w base v l) (k : Nat) (hk : v.ownBlock = some k) : base ≤ k := by
  rcases h.2 with ⟨rfl, _⟩ | ⟨g, cap, cur, rfl, hg, _⟩
  · cases hk
  · simp [Value.ownBlock] at hk; omega

/-- After an append: the world below 'B' is as it was. -/
theorem Ext.grown {a w w' : World} {row : Option Nat} (h : Ext a w) (hg : w.grownBy w' row) (hr : ∀ k, row = some k → a.heap.size ≤ k) : Ext a w' :=
  Below.grown h hg h.size hr

/-- 'append(list, n)' on a slice of ints of the call's own; wr: the world before the block of the one new element. -/
theorem wpList_append_int {ops : Array Oper} {rest : List Oper} {o : Oper} {a : Act} {Q : Exit → Act → World → Prop} (hgd : o.guard = none) (s x : Operand)
    (ho : o.op = .call { callee := .builtin .append, args := #[s, x], argTypes := #[35, 35] }) (base : Nat) (wr : World) (v : Value) (l : List Int) (n : Int)
    (hs : a.eval s = v) (hx : a.eval x = .slice (some ⟨wr.heap.size, 0, none⟩) 1 1) (hown : OwnInts wr base v l) (hl : l.length ≤ 1000000000) (hb : base ≤ wr.heap.size)
    (h : ∀ v' w', OwnInts w' base v' (l ++ [n]) → wr.grownBy w' v.ownBlock → wpList Tryz.prog ops Q rest (a.put o.dst v') w') : wpList Tryz.prog ops Q (o :: rest) a (wr.alloc (.cells #[.int .i64 n] 3)) := by
  obtain ⟨i0, hi, hz0, hz1, hz2⟩ := info_parts infoInt
  refine wpList_append_own _ hgd s x 35 ho base 3 i0 (.int .i64 0) 1 8 Tryz.underlying35 hi hz0 hz1 hz2 rfl (by decide) v l.length (l.map (Value.int .i64)) hs (hown.kept ((Ext.refl wr).alloc _)) ⟨wr.heap.size, 0, none⟩ 1 1 [.int .i64 n] hx rfl ?_ ?_ ?_ ?_ ?_ ?_
  · intro j u hj
    obtain ⟨rfl, rfl⟩ : j = 0 ∧ u = .int .i64 n := by
      cases j with
      | zero => simp at hj; exact ⟨rfl, hj.symm⟩
      | succ j => simp at hj
    simp [Addr.add]
  · intro u hu; simp at hu; subst hu; rfl
  · unfold maxLen; omega
  · omega
  · simp; omega
  · intro v' w' h1 h2 _
    refine h v' w' (by simpa [OwnInts] using h1) ⟨h2.os, h2.tape, h2.output, ?_, fun k hk hne => ?_⟩
    · have := h2.size; simp at this; omega
    · rw [h2.block k (by simp; omega) hne]; exact Below.heap_alloc wr _ k hk

end Go.Proofs.YtlcgbdjmlnjhcaaGreatDoor
namespace Go.Proofs.YtlcgbdjmlnjhcaaGreatDoor
open Go.RowKit

/-- A set of states by value. -/
def SetV (w : World) (v : Value) (cs ws is : List Int) : Prop := ∃ vc vw vi, v = .agg #[vc, vw, vi] ∧ Ints w vc cs ∧ Ints w vw ws ∧ Ints w vi is
theorem SetV.ext {w w' : World} {v : Value} {cs ws is : List Int} (h : SetV w v cs ws is) (hx : Ext w w') : SetV w' v cs ws is := by
  obtain ⟨a, b, c, h0, h1, h2, h3⟩ := h; exact ⟨a, b, c, h0, h1.ext hx, h2.ext hx, h3.ext hx⟩
theorem SetV.shape {w : World} {v : Value} {cs ws is : List Int} (h : SetV w v cs ws is) : ∃ ca cc wa wc ia ic, v = .agg #[.slice ca cs.length cc, .slice wa ws.length wc, .slice ia is.length ic] ∧ Ints w (.slice ca cs.length cc) cs ∧ Ints w (.slice wa ws.length wc) ws ∧ Ints w (.slice ia is.length ic) is := by
  obtain ⟨a, b, c, rfl, h1, h2, h3⟩ := h
  obtain ⟨_, _, rfl⟩ := h1.shape
  obtain ⟨_, _, rfl⟩ := h2.shape
  obtain ⟨_, _, rfl⟩ := h3.shape
  exact ⟨_, _, _, _, _, _, rfl, h1, h2, h3⟩
def smallB (cs ws : List Int) : Bool := shapeB cs ws && decide (sumI ws ≤ 12)
/-- Three values in a variable. -/
theorem cells3 {w : World} {R : Nat} {x y z : Value} {t : TypeId} (h : w.heap[R]? = some (.cells #[x, y, z] t (0, 0))) : w.cell? ⟨R, 0, none⟩ = some x ∧ w.cell? ⟨R, 1, none⟩ = some y ∧ w.cell? ⟨R, 2, none⟩ = some z := by
  simp [World.cell?, h]

set_option maxHeartbeats 1000000 in
theorem small_any (cs ws is : List Int) (v : Value) (w : World) (hv : SetV w v cs ws is) : Calls Tryz.prog 81 #[v] w fun r w' => r = .returned (.bool (smallB cs ws)) ∧ Ext w w' := by
  obtain ⟨ca, cc, wa, wc, ia, ic, rfl, h1, h2, h3⟩ := hv.shape
  obtain ⟨W, hW⟩ : ∃ W, W = w.alloc (.cells #[.slice ca cs.length cc, .slice wa ws.length wc, .slice ia is.length ic] 60) := ⟨_, rfl⟩
  have hx : Ext w W := by rw [hW]; exact (Ext.refl w).alloc _
  have HB : Hid (W.heap[w.heap.size]? = some (.cells #[.slice ca cs.length cc, .slice wa ws.length wc, .slice ia is.length ic] 60 (0, 0))) := by rw [hW]; exact heap_new _ _
  have HC := Lib.hid (h1.ext hx); have HWd := Lib.hid (h2.ext hx); have HX := Lib.hid hx; have HW := Lib.hid hW
  clear hv h1 h2 h3 hx hW
  obtain ⟨p0, p1, p2⟩ := cells3 HB.out
  have HF : Hid (smallB cs ws = (shapeB cs ws && decide (sumI ws ≤ 12))) := rfl
  cases hs : shapeB cs ws with
  | false =>
    have HS := Lib.hid hs; clear hs
    go_enter Tryz.func81, Tryz.ntmps81
    go_upto_region 1 with fail
    rw [← HW.out]
    go_wp2_with fail
    refine (shape_any cs ws _ _ _ HC.out HWd.out).mono ?_
    rintro r w1 ⟨rfl, x1⟩
    rw [HS.out]
    have HX1 := Lib.hid (HX.out.trans x1); clear x1
    go_wp2_with fail
    go_ret
    exact ⟨by rw [HF.out, HS.out]; rfl, HX1.out⟩
  | true =>
    have HS := Lib.hid hs; clear hs
    go_enter Tryz.func81, Tryz.ntmps81
    go_upto_region 1 with fail
    rw [← HW.out]
    go_wp2_with fail
    refine (shape_any cs ws _ _ _ HC.out HWd.out).mono ?_
    rintro r w1 ⟨rfl, x1⟩
    rw [HS.out]
    have HX1 := Lib.hid (HX.out.trans x1)
    have q1 := x1.cell p1
    have HWd1 := Lib.hid (HWd.out.ext x1)
    clear x1 p0 p1 p2
    go_wp2_with fail
    refine (sum_any ws _ _ HWd1.out (shape_widths HS.out)).mono ?_
    rintro r w2 ⟨rfl, rfl⟩
    generalize hsum : sumI ws = s at *
    go_wp2_with fail
    go_ret
    exact ⟨by rw [HF.out, HS.out]; rfl, HX1.out⟩

set_option maxHeartbeats 1000000 in
/-- Equal lists. -/
theorem Equal_any (l m : List Int) (vl vm : Value) (w : World) (hl : Ints w vl l) (hm : Ints w vm m) : Calls Tryz.prog 109 #[vl, vm] w fun r w' => r = .returned (.bool (decide (l = m))) ∧ Ext w w' := by
  obtain ⟨la, lc, rfl⟩ := hl.shape
  obtain ⟨ma, mc, rfl⟩ := hm.shape
  have hlen := SliceAt.len_le hl
  have hlen2 := SliceAt.len_le hm
  have HL := Lib.hid hl; have HM := Lib.hid hm; clear hl hm
  by_cases he : l.length = m.length
  · have heb : (((l.length : Nat) : Int) != ((m.length : Nat) : Int)) = false := by rw [he]; simp
    have HEQ := Lib.hid he; clear he
    go_enter Tryz.func109, Tryz.ntmps109
    go_wp2_with fail
    go_loopw [13] (fun i wr => ∃ k : Nat, k ≤ l.length ∧ i = .int .i64 k ∧ Ext w wr ∧ ∀ j, j < k → l.getD j 0 = m.getD j 0) (fun i _ => l.length - (intOf i).toNat)
    case atStart => exact ⟨0, Nat.zero_le _, rfl, Ext.refl _, fun j h => absurd h (by omega)⟩
    case round =>
      obtain ⟨k, hk, rfl, hX, hR⟩ := hrel
      have HX := Lib.hid hX; have HR := Lib.hid hR; clear hX hR
      by_cases hlt : k < l.length
      · rcases HL.out with ⟨_, e⟩ | ⟨b, o, cap', e, _, hc⟩
        · rw [e] at hlt; simp at hlt
        cases e
        rcases HM.out with ⟨_, e⟩ | ⟨b2, o2, cap2, e, _, hc2⟩
        · have := HEQ.out; rw [e] at this; simp at this; rw [this] at hlt; simp at hlt
        cases e
        have hlt2 : k < m.length := by have := HEQ.out; omega
        have g0 : wr.cell? ⟨b, o + k, none⟩ = some (.int .i64 (l.getD k 0)) := by have := HX.out.cell (hc k hlt); rw [Nat.mul_one] at this; rw [this]; simp [List.getD, hlt]
        have g1 : wr.cell? ⟨b2, o2 + k, none⟩ = some (.int .i64 (m.getD k 0)) := by have := HX.out.cell (hc2 k hlt2); rw [Nat.mul_one] at this; rw [this]; simp [List.getD, hlt2]
        clear hc hc2
        have HS : Hid (l = m → l.getD k 0 = m.getD k 0) := fun h => by rw [h]
        generalize ex : l.getD k 0 = x at *
        generalize ey : m.getD k 0 = y at *
        have EX := Lib.hid ex; have EY := Lib.hid ey; clear ex ey
        have i0 : (0 : Int) ≤ (k : Int) := by omega
        have i1 : (k : Int) < (l.length : Int) := by omega
        have i2 : (k : Int) < (m.length : Int) := by omega
        cases hq : (x != y) with
        | true =>
          have HF : Hid (decide (l = m) = false) := decide_eq_false fun h => by
            have := HS.out h; rw [this] at hq; simp at hq
          clear HS
          go_upto_region 6 with fail
          go_quiet (fail)
          go_wp2_with fail
          go_ret
          exact ⟨by rw [HF.out]; rfl, HX.out.drewN _⟩
        | false =>
          have HF : Hid (x = y) := by unfold Hid; simpa using hq
          clear HS
          go_upto_region 6 with fail
          go_quiet (fail)
          go_wp2_with fail
          refine ⟨⟨k + 1, by omega, by go_num, HX.out.drewN _, fun j hj => ?_⟩, by simp [intOf]; omega⟩
          by_cases c : j = k
          · subst c; rw [EX.out, EY.out]; exact HF.out
          · exact HR.out j (by omega)
      · have HF : Hid (decide (l = m) = true) := decide_eq_true (List.ext_getElem HEQ.out fun i h1 h2 => by
          have := HR.out i (by omega)
          simpa [List.getD, h1, h2] using this)
        go_wp2_with fail
        go_ret
        exact ⟨by rw [HF.out]; rfl, HX.out⟩
  · have heb : (((l.length : Nat) : Int) != ((m.length : Nat) : Int)) = true := by rw [bne_iff_ne]; omega
    have HF : Hid (decide (l = m) = false) := decide_eq_false fun h => he (by rw [h])
    go_enter Tryz.func109, Tryz.ntmps109
    go_wp2_with fail
    go_ret
    exact ⟨by rw [HF.out]; rfl, Ext.refl w⟩
end Go.Proofs.YtlcgbdjmlnjhcaaGreatDoor
namespace Go.Proofs.YtlcgbdjmlnjhcaaGreatDoor
open Go.RowKit

theorem pow_wrap {s : Int} (h0 : 0 ≤ s) (h1 : s ≤ 12) : wrap64 (2 ^ s.toNat) = pw s := by
  obtain ⟨k, rfl⟩ := Int.eq_ofNat_of_zero_le h0
  have hk : k ≤ 12 := by omega
  have h2 : 2 ^ k ≤ 2 ^ 12 := Nat.pow_le_pow_right (by omega) hk
  have h3 : (2 : Int) ^ k = ((2 ^ k : Nat) : Int) := by push_cast; rfl
  simp only [pw, Int.toNat_natCast, h3]
  generalize 2 ^ k = p at *
  unfold wrap64
  omega
def validB (cs ws is : List Int) : Bool := smallB cs ws && incB is && (decide (is = []) || (decide (0 ≤ is.getD 0 0) && decide (is.getD (is.length - 1) 0 < pw (sumI ws))))
set_option maxHeartbeats 1000000 in
theorem valid_any (cs ws is : List Int) (v : Value) (w : World) (hv : SetV w v cs ws is) : Calls Tryz.prog 60 #[v] w fun r w' => r = .returned (.bool (validB cs ws is)) ∧ Ext w w' := by
  obtain ⟨ca, cc, wa, wc, ia, ic, rfl, h1, h2, h3⟩ := hv.shape
  obtain ⟨W, hW⟩ : ∃ W, W = w.alloc (.cells #[.slice ca cs.length cc, .slice wa ws.length wc, .slice ia is.length ic] 60) := ⟨_, rfl⟩
  have hx : Ext w W := by rw [hW]; exact (Ext.refl w).alloc _
  have HB : Hid (W.heap[w.heap.size]? = some (.cells #[.slice ca cs.length cc, .slice wa ws.length wc, .slice ia is.length ic] 60 (0, 0))) := by rw [hW]; exact heap_new _ _
  have hlen := SliceAt.len_le h3
  have HV := Lib.hid (hv.ext hx); have HI := Lib.hid (h3.ext hx); have HWd := Lib.hid (h2.ext hx); have HX := Lib.hid hx; have HW := Lib.hid hW
  clear hv h1 h2 h3 hx hW
  obtain ⟨p0, p1, p2⟩ := cells3 HB.out
  cases hs : smallB cs ws with
  | false =>
    have HF : Hid (validB cs ws is = false) := by unfold Hid validB; rw [hs]; rfl
    have HS := Lib.hid hs; clear hs
    go_enter Tryz.func60, Tryz.ntmps60
    go_upto_region 1 with fail
    rw [← HW.out]
    go_wp2_with fail
    refine (small_any cs ws is _ _ HV.out).mono ?_
    rintro r w1 ⟨rfl, x1⟩
    rw [HS.out]
    have HX1 := Lib.hid (HX.out.trans x1); clear x1
    go_wp2_with fail
    go_ret
    exact ⟨by rw [HF.out]; rfl, HX1.out⟩
  | true =>
    have HS := Lib.hid hs; clear hs
    go_enter Tryz.func60, Tryz.ntmps60
    go_upto_region 1 with fail
    rw [← HW.out]
    go_wp2_with fail
    refine (small_any cs ws is _ _ HV.out).mono ?_
    rintro r w1 ⟨rfl, x1⟩
    rw [HS.out]
    replace HX := Lib.hid (HX.out.trans x1); replace HI := Lib.hid (HI.out.ext x1); replace HWd := Lib.hid (HWd.out.ext x1)
    have q1 := x1.cell p1; have q2 := x1.cell p2
    clear x1 p0 p1 p2
    go_wp2_with fail
    refine (increasing_any is _ _ HI.out).mono ?_
    rintro r w2 ⟨rfl, x1⟩
    replace HX := Lib.hid (HX.out.trans x1); replace HI := Lib.hid (HI.out.ext x1); replace HWd := Lib.hid (HWd.out.ext x1)
    have p1 := x1.cell q1; have p2 := x1.cell q2
    clear x1 q1 q2
    cases hi : incB is with
    | false =>
      have HF : Hid (validB cs ws is = false) := by unfold Hid validB; rw [hi]; simp
      clear hi
      go_wp2_with fail
      go_ret
      exact ⟨by rw [HF.out]; rfl, HX.out⟩
    | true =>
      have HIN := Lib.hid hi; clear hi
      rcases Nat.eq_zero_or_pos is.length with h0 | h0
      · have hz : is = [] := List.length_eq_zero_iff.1 h0
        subst hz
        have HF : Hid (validB cs ws [] = true) := by unfold Hid validB; rw [HS.out]; simp; exact HIN.out
        clear h0
        go_upto_region 4 with fail
        go_quiet (fail)
        go_wp2_with fail
        go_ret
        exact ⟨by rw [HF.out]; rfl, HX.out.drewN _⟩
      · obtain ⟨n, hn⟩ : ∃ n, is.length = n + 1 := ⟨is.length - 1, by omega⟩
        rcases HI.out with ⟨_, e⟩ | ⟨b, o, cap', e, _, hc⟩
        · rw [e] at h0; simp at h0
        cases e
        have g0 : w2.cell? ⟨b, o, none⟩ = some (.int .i64 (is.getD 0 0)) := by have := hc 0 (by omega); rw [Nat.zero_mul, Nat.add_zero] at this; rw [this]; simp [List.getD, h0]
        have g1 : w2.cell? ⟨b, o + n, none⟩ = some (.int .i64 (is.getD n 0)) := by have := hc n (by omega); rw [Nat.mul_one] at this; rw [this]; simp [List.getD, show n < is.length by omega]
        have HF : Hid (validB cs ws is = (decide (0 ≤ is.getD 0 0) && decide (is.getD n 0 < pw (sumI ws)))) := by
          unfold Hid validB
          have : ¬ is = [] := fun h => by rw [h] at h0; simp at h0
          rw [HS.out, HIN.out, decide_eq_false this, hn]; simp
        have hsm : 0 ≤ sumI ws ∧ sumI ws ≤ 12 := by
          have h1 := HS.out
          unfold smallB at h1
          rw [Bool.and_eq_true, decide_eq_true_eq] at h1
          have h2 := (sum_bound (shape_widths h1.1).2 ws.length (Nat.le_refl _)).1
          rw [List.take_length] at h2
          exact ⟨h2, h1.2⟩
        have HWS : Hid (Widths ws) := by
          have h1 := HS.out
          unfold smallB at h1
          rw [Bool.and_eq_true] at h1
          exact shape_widths h1.1
        have hsub : IntKind.i64.wrap ((is.length : Int) - 1) = (n : Int) := by rw [IntKind.wrap_i64]; omega
        have i0 : (0 : Int) < (is.length : Int) := by omega
        have i1 : (0 : Int) ≤ (n : Int) := by omega
        have i2 : (n : Int) < (is.length : Int) := by omega
        have hz : ((is.length : Int) == 0) = false := by rw [beq_eq_false_iff_ne]; omega
        have n0 : 0 < is.length := h0
        have n1 : n < is.length := by omega
        clear hc h0 hn HI HV HB HW
        generalize is.getD 0 0 = x at *
        generalize is.getD n 0 = y at *
        have HPW := Lib.hid (pow_wrap (s := sumI ws) (by omega) (by omega))
        cases hq : decide (0 ≤ x) with
        | false =>
          rw [hq] at HF
          go_upto_region 4 with fail
          go_quiet (fail)
          go_wp2_with fail
          go_ret
          exact ⟨by rw [HF.out]; rfl, HX.out.drewN _⟩
        | true =>
          rw [hq] at HF
          go_upto_region 4 with fail
          go_quiet ((go_at_call 83; exact Calls.quiet_of_same (sum_any ws _ _ (HWd.out.ext (Ext.drewN (Ext.refl _) _)) HWS.out)))
          go_wp2_with fail
          go_ret
          exact ⟨by rw [HF.out, Bool.true_and, HPW.out]; rfl, HX.out.drewN _⟩
end Go.Proofs.YtlcgbdjmlnjhcaaGreatDoor
