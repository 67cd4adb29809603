/-
  The walks of decide.union and decide.support.
  The references' Occur, Small, Formed, Parts of conditions.
  Reading: the runes of a text in memory; the walks of peek and accept.
-/
import Derived.Test.YtlcgbdjmlnjhcaaGreatDoorG22
import Derived.Test.YtlcgbdjmlnjhcaaGreatDoorG21
import Derived.Test.YtlcgbdjmlnjhcaaGreatDoorG03
import Derived.Test.YtlcgbdjmlnjhcaaGreatDoorG10
import Derived.Lib.OwnBridge
import Derived.Sort.OwnSortedInts
import Derived.Lib.RowBridge
import Derived.Test.YtlcgbdjmlnjhcaaGreatDoorG08
import Derived.Laws.AppendOwn
namespace Go.Proofs.YtlcgbdjmlnjhcaaGreatDoor
open Go.RowKit

theorem supOld_len (e : E) : e.supOld.length ≤ 32 := by
  unfold E.supOld
  split
  · unfold upTo; rw [List.length_map]; exact Nat.le_trans (List.length_filter_le _ _) (by simp)
  · simp
theorem supNow_len (e : E) : e.supNow.length ≤ 32 := by
  unfold E.supNow
  split
  · unfold upTo; rw [List.length_map]; exact Nat.le_trans (List.length_filter_le _ _) (by simp)
  · simp
set_option maxRecDepth 100000 in
set_option maxHeartbeats 4000000 in
theorem Union_any (a b : List Int) (va vb : Value) (w : World) (ha : Ints w va a) (hb : Ints w vb b) (hla : a.length ≤ 1000) (hlb : b.length ≤ 1000) :
    Calls Tryz.prog 73 #[va, vb] w fun r w' => (∃ v, r = .returned v ∧ Ints w' v (unionL a b)) ∧ Ext w w' := by
  obtain ⟨aa, ac, rfl⟩ := SliceAt.shape ha
  obtain ⟨ba, bc, rfl⟩ := SliceAt.shape hb
  obtain ⟨W, hW⟩ : ∃ W, W = w.alloc (.cells #[.slice aa a.length ac, .slice ba b.length bc] 35) := ⟨_, rfl⟩
  have hx : Ext w W := by rw [hW]; exact (Ext.refl w).alloc _
  have hb0 : W.heap[w.heap.size]? = some (.cells #[.slice aa a.length ac, .slice ba b.length bc] 35 (0, 0)) := by rw [hW]; exact heap_new _ _
  have HCC := Lib.hid (Concat_any a b w.heap.size aa ba ac bc W (by rw [Lib.cell_of_heap hb0]; rfl) (by rw [Lib.cell_of_heap hb0]; rfl) (ha.ext hx) (hb.ext hx) hla hlb)
  have HX := Lib.hid hx; have HW := Lib.hid hW
  have HUL : Hid (unionL a b = Lib.compact ((a ++ b).mergeSort fun x y => decide (x ≤ y))) := rfl
  have hlen : (a ++ b).length ≤ 2000 := by rw [List.length_append]; omega
  clear hx hb0 hW ha hb
  go_enter Tryz.func73, Tryz.ntmps73
  go_wp2_with (first | (rw [← HW.out]; refine HCC.out.mono ?_) | fail)
  rintro r wr ⟨v, rfl, hO, x1⟩
  generalize a ++ b = m at *
  obtain ⟨fa, fc, rfl⟩ := hO.ints.shape
  have HO := Lib.hid hO; have HXr := Lib.hid (HX.out.trans x1); have HXS := Lib.hid (Nat.le_trans HX.out.size (Nat.le_refl W.heap.size))
  clear hO x1
  cases m with
  | nil =>
    have HE : Hid (unionL a b = []) := by
      unfold Hid; rw [HUL.out, show ([] : List Int).mergeSort (fun x y => decide (x ≤ y)) = [] by simp]; rfl
    go_wp2_with fail
    refine (Tryz.slices_Sort_int_none fa fc wr).mono ?_
    rintro r w1 ⟨rfl, rfl⟩
    go_wp2_with fail
    refine (Tryz.slices_Compact_int_empty fa fc w1).mono ?_
    rintro r w2 ⟨rfl, rfl⟩
    go_wp2_with fail
    go_ret
    refine ⟨⟨_, rfl, ?_⟩, HXr.out⟩
    rw [HE.out]; exact .inl ⟨⟨_, _, rfl⟩, rfl⟩
  | cons m0 mr =>
    have hne : (Value.slice fa (m0 :: mr).length fc) ≠ .slice none 0 0 := by intro e; simp at e
    obtain ⟨g, cap, hv, hbg, hgl, hncap, hcm, _, hH⟩ := Lib.holds_of_ownsRow HO.out hne
    cases hv
    have HGB := Lib.hid (Nat.le_trans HXS.out hbg)
    generalize hmm : m0 :: mr = m at *
    clear hne hmm
    obtain ⟨t, ht⟩ : ∃ t, t = m.mergeSort fun x y => decide (x ≤ y) := ⟨_, rfl⟩
    have htl : t.length = m.length := by rw [ht, List.length_mergeSort]
    have HTL := Lib.hid htl
    rw [← ht] at HUL
    have hsort := Tryz.slices_Sort_int g 0 fc m wr hH hgl (by omega)
    rw [← ht] at hsort
    have HSo := Lib.hid hsort
    have HH := Lib.hid hH
    have HGL := Lib.hid hgl
    clear htl hsort ht hH hbg
    go_wp2_with fail
    refine HSo.out.mono ?_
    rintro r w1 ⟨rfl, nn, os, hw1⟩
    have hH2 : Go.Sort.Holds (Value.int .i64) w1 g 0 t.toArray := by
      rw [hw1]
      exact Go.Sort.holds_grow _ _ os g 0 _ (by simpa [Go.Sort.putRow, Go.Sort.mapBlock, Go.Sort.ahead] using hgl) (Go.Sort.holds_putRow _ _ g 0 _ _ (Go.Sort.holds_ahead _ wr nn g 0 _ HH.out) (by simpa using HTL.out))
    have hcomp := Tryz.slices_Compact_int g 0 fc t w1 hH2 (by have := HTL.out; omega) (by have := HTL.out; omega)
    rw [HTL.out] at hcomp
    have HCo := Lib.hid hcomp
    have HX1 : Hid (Below w.heap.size w w1) := by
      unfold Hid
      rw [hw1]
      exact Below.grown HXr.out (grownBy_sortedI _) HXr.out.size (fun j hj => by cases hj; exact HGB.out)
    have HH2 := Lib.hid hH2
    have hg1 : g < w1.heap.size := by rw [hw1]; simp [Go.Sort.putRow, Go.Sort.mapBlock, Go.Sort.ahead, Go.Sort.grow]; omega
    have HG1 := Lib.hid hg1
    clear hcomp hH2 hw1 hcm hg1
    go_wp2_with fail
    refine HCo.out.mono ?_
    rintro r w2 ⟨rfl, q, hw2⟩
    have HX2 : Hid (Ext w w2) := by
      unfold Hid
      rw [hw2]
      exact Lib.below_putRow HX1.out HGB.out
    have hcl := Lib.compact_length_le t
    have HI2 : Hid (Ints w2 (.slice (some ⟨g, 0, none⟩) (Lib.compact t).length fc) (Lib.compact t)) := by
      have hl := HTL.out
      have hsz : (Lib.compact t ++ List.replicate (m.length - (Lib.compact t).length) 0).toArray.size = t.toArray.size := by
        simp; omega
      have hH3 := Go.Sort.holds_putRow (Value.int .i64) (Go.Sort.ahead w1 q) g 0 t.toArray (Lib.compact t ++ List.replicate (m.length - (Lib.compact t).length) 0).toArray (Go.Sort.holds_ahead _ w1 q g 0 _ HH2.out) hsz
      rw [← hw2] at hH3
      refine .inr ⟨g, 0, fc, rfl, by omega, fun i hi => ?_⟩
      have h1 := (hH3 i (by rw [hsz]; simp; omega)).1
      rw [Nat.mul_one]
      show w2.cell? ⟨g, 0 + i, none⟩ = some (.int .i64 (Lib.compact t)[i])
      rw [h1]
      congr 2
      simp only [getElem!_def]
      rw [List.getElem?_toArray, List.getElem?_append_left hi, List.getElem?_eq_getElem hi]
    clear hw2
    rw [← HUL.out] at HI2 ⊢
    go_wp2_with fail
    go_ret
    exact ⟨⟨_, rfl, HI2.out⟩, HX2.out⟩

set_option maxRecDepth 100000 in
set_option maxHeartbeats 4000000 in
theorem DSupport_any (c : CondS) (cv : Value) (w : World) (hc : CondV w cv c) (hM : Masks w) :
    Calls Tryz.prog 44 #[cv] w fun r w' => (∃ v1 v2, r = .returned (.tuple #[v1, v2]) ∧ Ints w' v1 (unionL c.hyp.supOld c.goal.supOld) ∧ Ints w' v2 (unionL c.hyp.supNow c.goal.supNow)) ∧ Ext w w' := by
  obtain ⟨ha, hl, hcp, ga, gl, gc, rfl, e1, e2⟩ := hc
  obtain ⟨W, hW⟩ : ∃ W, W = w.alloc (.cells (condCells c ha hl hcp ga gl gc) 27) := ⟨_, rfl⟩
  have hX : Ext w W := by rw [hW]; exact (Ext.refl _).alloc _
  have hat : CondAt W w.heap.size c ha hl hcp ga gl gc := by rw [hW]; exact heap_new _ _
  have HE1 := Lib.hid (e1.ext hX); have HE2 := Lib.hid (e2.ext hX); have HM := Lib.hid (hM.ext hX); have HX := Lib.hid hX; have HWE := Lib.hid hW
  obtain ⟨⟨q0, q1, q2, q3⟩, p0, p1, p2, p3⟩ := And.intro hat.hyp hat.goal
  clear hX hat hW e1 e2 hM
  unfold condCells at *
  go_enter Tryz.func44, Tryz.ntmps44
  go_upto_region 1 with fail
  rw [← HWE.out]; clear HWE
  generalize w.heap.size = n0 at *
  go_wp2_with fail
  refine (Support_any c.hyp _ _ HE1.out HM.out).mono ?_
  rintro r w1 ⟨v1, v2, rfl, i1, i2, x1⟩
  obtain ⟨a1, b1, rfl⟩ := i1.shape
  obtain ⟨a2, b2, rfl⟩ := i2.shape
  have I1 := Lib.hid i1; have I2 := Lib.hid i2; have X1 := Lib.hid x1
  have p01 := x1.cell p0; have p11 := x1.cell p1; have p21 := x1.cell p2; have p31 := x1.cell p3
  clear i1 i2 x1 p0 p1 p2 p3 q0 q1 q2 q3
  go_wp2_with fail
  refine (Support_any c.goal _ _ (HE2.out.ext X1.out) (HM.out.ext X1.out)).mono ?_
  rintro r w2 ⟨v3, v4, rfl, i3, i4, x2⟩
  obtain ⟨a3, b3, rfl⟩ := i3.shape
  obtain ⟨a4, b4, rfl⟩ := i4.shape
  have I3 := Lib.hid i3; have I4 := Lib.hid i4; have X2 := Lib.hid (X1.out.trans x2)
  replace I1 := Lib.hid (I1.out.ext x2); replace I2 := Lib.hid (I2.out.ext x2)
  clear i3 i4 x2 p01 p11 p21 p31 X1
  have s1 : Hid (c.hyp.supOld.length ≤ 32 ∧ c.hyp.supNow.length ≤ 32 ∧ c.goal.supOld.length ≤ 32 ∧ c.goal.supNow.length ≤ 32) := ⟨supOld_len _, supNow_len _, supOld_len _, supNow_len _⟩
  go_wp2_with fail
  refine (Union_any c.hyp.supOld c.goal.supOld _ _ w2 I1.out I3.out (by have := s1.out; omega) (by have := s1.out; omega)).mono ?_
  rintro r w3 ⟨⟨v, rfl, i5⟩, x3⟩
  obtain ⟨a5, b5, rfl⟩ := i5.shape
  have I5 := Lib.hid i5; have X3 := Lib.hid (X2.out.trans x3)
  replace I2 := Lib.hid (I2.out.ext x3); replace I4 := Lib.hid (I4.out.ext x3)
  clear i5 x3 I1 I3
  go_wp2_with fail
  refine (Union_any c.hyp.supNow c.goal.supNow _ _ w3 I2.out I4.out (by have := s1.out; omega) (by have := s1.out; omega)).mono ?_
  rintro r w4 ⟨⟨v, rfl, i6⟩, x4⟩
  obtain ⟨a6, b6, rfl⟩ := i6.shape
  have I5' := Lib.hid (I5.out.ext x4); have I6 := Lib.hid i6; have X4 := Lib.hid (X3.out.trans x4)
  clear i6 x4 I5
  go_wp2_with fail
  go_ret2
  exact ⟨⟨_, _, rfl, I5'.out, I6.out⟩, HX.out.trans X4.out⟩
end Go.Proofs.YtlcgbdjmlnjhcaaGreatDoor
namespace Go.Proofs.YtlcgbdjmlnjhcaaGreatDoor
open Go.RowKit
attribute [local go_sem] Oper.semAt_some

/-- The cells of two lists, in order. -/
def occL (a b : List Int) : List Int := upTo (fun j => a.contains (j : Int) || b.contains (j : Int)) 32
theorem upTo_in {f : Nat → Bool} {k : Nat} {c : Int} (h : c ∈ upTo f k) : 0 ≤ c ∧ c < (k : Int) := by
  unfold upTo at h
  obtain ⟨j, hj, rfl⟩ := List.mem_map.1 h
  have := List.mem_range.1 (List.mem_filter.1 hj).1
  exact ⟨Int.natCast_nonneg j, Int.ofNat_lt.2 this⟩
theorem supOld_in {e : E} : ∀ c ∈ e.supOld, 0 ≤ c ∧ c < 32 := fun c h => by
  unfold E.supOld at h
  split at h
  · exact upTo_in h
  · cases h
theorem supNow_in {e : E} : ∀ c ∈ e.supNow, 0 ≤ c ∧ c < 32 := fun c h => by
  unfold E.supNow at h
  split at h
  · exact upTo_in h
  · cases h
theorem occL_len (a b : List Int) : (occL a b).length ≤ 32 := by
  unfold occL upTo; rw [List.length_map]; exact Nat.le_trans (List.length_filter_le _ _) (by simp)

set_option maxRecDepth 100000 in
set_option maxHeartbeats 4000000 in
theorem ROccur_any (c : CondS) (cv : Value) (w : World) (hc : CondV w cv c) :
    Calls Tryz.prog 49 #[cv] w fun r w' => (∃ v1 v2, r = .returned (.tuple #[v1, v2]) ∧ Ints w' v1 (occL c.hyp.supOld c.goal.supOld) ∧ Ints w' v2 (occL c.hyp.supNow c.goal.supNow)) ∧ Ext w w' := by
  obtain ⟨ha, hl, hcp, ga, gl, gc, rfl, e1, e2⟩ := hc
  obtain ⟨W, hW⟩ : ∃ W, W = w.alloc (.cells (condCells c ha hl hcp ga gl gc) 27) := ⟨_, rfl⟩
  have hX : Ext w W := by rw [hW]; exact (Ext.refl _).alloc _
  have hat : CondAt W w.heap.size c ha hl hcp ga gl gc := by rw [hW]; exact heap_new _ _
  have HE1 := Lib.hid (e1.ext hX); have HE2 := Lib.hid (e2.ext hX); have HX := Lib.hid hX; have HWE := Lib.hid hW
  obtain ⟨⟨q0, q1, q2, q3⟩, p0, p1, p2, p3⟩ := And.intro hat.hyp hat.goal
  clear hX hat hW e1 e2
  unfold condCells at *
  go_enter Tryz.func49, Tryz.ntmps49
  go_upto_region 1 with fail
  rw [← HWE.out]; clear HWE
  generalize w.heap.size = n0 at *
  go_wp2_with fail
  refine (RSupport_any c.hyp _ _ HE1.out).mono ?_
  rintro r w1 ⟨⟨v1, v2, rfl, i1, i2⟩, x1⟩
  obtain ⟨a1, b1, rfl⟩ := i1.shape
  obtain ⟨a2, b2, rfl⟩ := i2.shape
  have I1 := Lib.hid i1; have I2 := Lib.hid i2; have X1 := Lib.hid x1
  have p01 := x1.cell p0; have p11 := x1.cell p1; have p21 := x1.cell p2; have p31 := x1.cell p3
  clear i1 i2 x1 p0 p1 p2 p3 q0 q1 q2 q3
  go_wp2_with fail
  refine (RSupport_any c.goal _ _ (HE2.out.ext X1.out)).mono ?_
  rintro r w2 ⟨⟨v3, v4, rfl, i3, i4⟩, x2⟩
  obtain ⟨a3, b3, rfl⟩ := i3.shape
  obtain ⟨a4, b4, rfl⟩ := i4.shape
  have I3 := Lib.hid i3; have I4 := Lib.hid i4; have X2 := Lib.hid (X1.out.trans x2)
  replace I1 := Lib.hid (I1.out.ext x2); replace I2 := Lib.hid (I2.out.ext x2)
  clear i3 i4 x2 p01 p11 p21 p31 X1
  have s1 : Hid (c.hyp.supOld.length ≤ 32 ∧ c.hyp.supNow.length ≤ 32 ∧ c.goal.supOld.length ≤ 32 ∧ c.goal.supNow.length ≤ 32) := ⟨supOld_len _, supNow_len _, supOld_len _, supNow_len _⟩
  go_wp2_with fail
  refine (RMerge_any c.hyp.supOld c.goal.supOld _ _ w2 I1.out I3.out supOld_in supOld_in (by have := s1.out; omega) (by have := s1.out; omega)).mono ?_
  rintro r w3 ⟨⟨v, rfl, i5⟩, x3⟩
  have i5 : Ints w3 v (occL c.hyp.supOld c.goal.supOld) := i5
  obtain ⟨a5, b5, rfl⟩ := i5.shape
  have I5 := Lib.hid i5; have X3 := Lib.hid (X2.out.trans x3)
  replace I2 := Lib.hid (I2.out.ext x3); replace I4 := Lib.hid (I4.out.ext x3)
  clear i5 x3 I1 I3
  go_wp2_with fail
  refine (RMerge_any c.hyp.supNow c.goal.supNow _ _ w3 I2.out I4.out supNow_in supNow_in (by have := s1.out; omega) (by have := s1.out; omega)).mono ?_
  rintro r w4 ⟨⟨v, rfl, i6⟩, x4⟩
  have i6 : Ints w4 v (occL c.hyp.supNow c.goal.supNow) := i6
  obtain ⟨a6, b6, rfl⟩ := i6.shape
  have I5' := Lib.hid (I5.out.ext x4); have I6 := Lib.hid i6; have X4 := Lib.hid (X3.out.trans x4)
  clear i6 x4 I5
  go_wp2_with fail
  go_ret2
  exact ⟨⟨_, _, rfl, I5'.out, I6.out⟩, HX.out.trans X4.out⟩
end Go.Proofs.YtlcgbdjmlnjhcaaGreatDoor
namespace Go.Proofs.YtlcgbdjmlnjhcaaGreatDoor
open Go.RowKit

/-- The runes l lie in w, in a block other than RB, as the slice lv. -/
def RunesIn (w : World) (RB : Nat) (lv : Value) (l : List Int) : Prop :=
  RB < w.heap.size ∧ ((lv = .slice none 0 0 ∧ l = []) ∨ ∃ b o c : Nat, lv = .slice (some ⟨b, o, none⟩) l.length c ∧ l.length ≤ 1000000000 ∧ b ≠ RB ∧ b < w.heap.size ∧ l.length ≤ c ∧ ∀ (i : Nat) (h : i < l.length), w.cell? ⟨b, o + i, none⟩ = some (.int .i32 l[i]))
theorem grownBy_refl (w : World) (g : Option Nat) : w.grownBy w g := ⟨rfl, rfl, rfl, Nat.le_refl _, fun _ _ _ => rfl⟩
theorem grownBy_tr {a b c : World} {g : Option Nat} (h : a.grownBy b g) (k : b.grownBy c g) : a.grownBy c g :=
  ⟨k.os.trans h.os, k.tape.trans h.tape, k.output.trans h.output, Nat.le_trans h.size k.size, fun i hi hne => (k.block i (Nat.lt_of_lt_of_le hi h.size) hne).trans (h.block i hi hne)⟩
theorem grownBy_drewN {a b : World} {g : Option Nat} (h : a.grownBy b g) (n : Nat) : a.grownBy (b.drewN n) g := ⟨h.os, h.tape, h.output, h.size, h.block⟩
theorem grownBy_cell {a b : World} {g : Nat} (h : a.grownBy b (some g)) {p : Addr} {v : Value} (hp : p.block ≠ g) (hc : a.cell? p = some v) : b.cell? p = some v := by
  rw [World.cell?_of_block (h.block p.block (block_lt hc) (by simpa using hp))]; exact hc
theorem grownBy_set {a b : World} {g : Nat} (h : a.grownBy b (some g)) (o : Nat) (v : Value) : a.grownBy (b.setCell ⟨g, o, none⟩ v) (some g) :=
  ⟨h.os, h.tape, h.output, by simpa [World.setCell] using h.size, fun i hi hne => by rw [Below.heap_setCell _ _ _ _ (by simpa using hne)]; exact h.block i hi hne⟩

/-- The next rune, -1 at the end. -/
def peekS (l : List Int) (k : Nat) : Int := (l[k]?).getD (-1)
theorem peekS_lt {l : List Int} {k : Nat} (h : k < l.length) : peekS l k = l[k] := by simp [peekS, h]
theorem peekS_ge {l : List Int} {k : Nat} (h : ¬ k < l.length) : peekS l k = -1 := by simp [peekS, List.getElem?_eq_none (Nat.le_of_not_lt h)]

theorem RunesIn.len {w0 : World} {RB : Nat} {lv : Value} {l : List Int} (h : RunesIn w0 RB lv l) : l.length ≤ 1000000000 := by
  rcases h.2 with ⟨_, rfl⟩ | ⟨_, _, _, _, h, _⟩
  · simp
  · exact h
theorem peekS_in {l : List Int} {k : Nat} (h : peekS l k ≠ -1) : k < l.length := by
  rcases Nat.lt_or_ge k l.length with h1 | h1
  · exact h1
  · exact absurd (peekS_ge (by omega)) h

end Go.Proofs.YtlcgbdjmlnjhcaaGreatDoor
