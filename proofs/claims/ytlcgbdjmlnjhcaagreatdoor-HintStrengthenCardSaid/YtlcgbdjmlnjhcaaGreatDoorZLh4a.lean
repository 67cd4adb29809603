/-
  The walk of HintStrengthen. Printed by gen_law32.py.
-/
import Derived.Test.YtlcgbdjmlnjhcaaGreatDoorG39
import Derived.Test.YtlcgbdjmlnjhcaaGreatDoorG38
namespace Go.Proofs.YtlcgbdjmlnjhcaaGreatDoor
open Go.RowKit
attribute [local go_sem] Oper.semAt_some

def StS (bd bc ba bb : Nat) (d c : CondS) (a b : E) (da1 : Option Addr) (da2 : Nat) (da3 : Nat) (da4 : Option Addr) (da5 : Nat) (da6 : Nat) (ca1 : Option Addr) (ca2 : Nat) (ca3 : Nat) (ca4 : Option Addr) (ca5 : Nat) (ca6 : Nat) (a1 : Option Addr) (a2 : Nat) (a3 : Nat) (b1 : Option Addr) (b2 : Nat) (b3 : Nat) (w' : World) : Prop := w'.cell? ⟨bd, 0, none⟩ = some (.string ⟨d.id.toArray⟩) ∧ w'.cell? ⟨bd, 1, none⟩ = some (.int .i64 d.k1) ∧ w'.cell? ⟨bd, 2, none⟩ = some (.int .i64 d.k2) ∧ w'.cell? ⟨bd, 3, none⟩ = some (.int .i64 d.k3) ∧ w'.cell? ⟨bd, 4, none⟩ = some (.int .i64 d.k4) ∧ w'.cell? ⟨bd, 5, none⟩ = some (.int .i64 d.k5) ∧ w'.cell? ⟨bd, 6, none⟩ = some (.int .i64 d.hyp.op) ∧ w'.cell? ⟨bd, 7, none⟩ = some (.int .i64 d.hyp.wd) ∧ w'.cell? ⟨bd, 8, none⟩ = some (.int .i64 d.hyp.n) ∧ w'.cell? ⟨bd, 9, none⟩ = some (.slice da1 da2 da3) ∧ w'.cell? ⟨bd, 10, none⟩ = some (.int .i64 d.goal.op) ∧ w'.cell? ⟨bd, 11, none⟩ = some (.int .i64 d.goal.wd) ∧ w'.cell? ⟨bd, 12, none⟩ = some (.int .i64 d.goal.n) ∧ w'.cell? ⟨bd, 13, none⟩ = some (.slice da4 da5 da6) ∧ w'.cell? ⟨bc, 0, none⟩ = some (.string ⟨c.id.toArray⟩) ∧ w'.cell? ⟨bc, 1, none⟩ = some (.int .i64 c.k1) ∧ w'.cell? ⟨bc, 2, none⟩ = some (.int .i64 c.k2) ∧ w'.cell? ⟨bc, 3, none⟩ = some (.int .i64 c.k3) ∧ w'.cell? ⟨bc, 4, none⟩ = some (.int .i64 c.k4) ∧ w'.cell? ⟨bc, 5, none⟩ = some (.int .i64 c.k5) ∧ w'.cell? ⟨bc, 6, none⟩ = some (.int .i64 c.hyp.op) ∧ w'.cell? ⟨bc, 7, none⟩ = some (.int .i64 c.hyp.wd) ∧ w'.cell? ⟨bc, 8, none⟩ = some (.int .i64 c.hyp.n) ∧ w'.cell? ⟨bc, 9, none⟩ = some (.slice ca1 ca2 ca3) ∧ w'.cell? ⟨bc, 10, none⟩ = some (.int .i64 c.goal.op) ∧ w'.cell? ⟨bc, 11, none⟩ = some (.int .i64 c.goal.wd) ∧ w'.cell? ⟨bc, 12, none⟩ = some (.int .i64 c.goal.n) ∧ w'.cell? ⟨bc, 13, none⟩ = some (.slice ca4 ca5 ca6) ∧ w'.cell? ⟨ba, 0, none⟩ = some (.int .i64 a.op) ∧ w'.cell? ⟨ba, 1, none⟩ = some (.int .i64 a.wd) ∧ w'.cell? ⟨ba, 2, none⟩ = some (.int .i64 a.n) ∧ w'.cell? ⟨ba, 3, none⟩ = some (.slice a1 a2 a3) ∧ w'.cell? ⟨bb, 0, none⟩ = some (.int .i64 b.op) ∧ w'.cell? ⟨bb, 1, none⟩ = some (.int .i64 b.wd) ∧ w'.cell? ⟨bb, 2, none⟩ = some (.int .i64 b.n) ∧ w'.cell? ⟨bb, 3, none⟩ = some (.slice b1 b2 b3)
theorem wpAnyH_name {P : Program} {md : Region.Mode} {ops : Array Oper} {Q : Exit → Act → World → Prop} {S : World → Prop} {n : Nat} {d : Array Bool} {a : Act} {w : World} (h : ∀ G d0 A0, G = wpAnyH P md ops Q S → d0 = d → A0 = a → G n d0 A0 w) : wpAnyH P md ops Q S n d a w := h _ _ _ rfl rfl rfl
theorem wpAnyH_at {P : Program} {md : Region.Mode} {ops : Array Oper} {Q : Exit → Act → World → Prop} {S : World → Prop} {n : Nat} {d d' : Array Bool} {a a' : Act} {w : World} (h : wpAnyH P md ops Q S n d' a' w) (hd : d' = d) (ha : a' = a) : wpAnyH P md ops Q S n d a w := by subst hd ha; exact h
/-- Which operations of a region have come up. -/
structure Tag (n : Nat) : Prop where
theorem Tag.add {m : Nat} (_ : Tag m) (k : Nat) : Tag (m + k) := ⟨⟩
theorem condV_parts {w : World} {c : CondS} {a1 : Option Addr} {l1 c1 : Nat} {a2 : Option Addr} {l2 c2 : Nat} (h : CondV w (.agg (condCells c a1 l1 c1 a2 l2 c2)) c) :
    EVal w (.agg #[.int .i64 c.hyp.op, .int .i64 c.hyp.wd, .int .i64 c.hyp.n, .slice a1 l1 c1]) c.hyp ∧ EVal w (.agg #[.int .i64 c.goal.op, .int .i64 c.goal.wd, .int .i64 c.goal.n, .slice a2 l2 c2]) c.goal := by
  obtain ⟨_, _, _, _, _, _, e, h1, h2⟩ := h
  unfold condCells at e
  simp at e
  obtain ⟨⟨rfl, rfl, rfl⟩, rfl, rfl, rfl⟩ := e
  exact ⟨h1, h2⟩
theorem str_law2 {c d : CondS} {a : E} (hd : strC c a = d) (hop : d.hyp.op ≠ 0) : JoinS c.hyp a d.hyp ∧ ({ d with hyp := c.hyp } : CondS) = c := by
  subst hd
  obtain ⟨e, J⟩ := strC_law hop
  rw [e]
  exact ⟨J, rfl⟩
theorem setHyp {w V : World} {g : Nat} {t : TypeId} {x0 x1 x2 x3 x4 x5 x6 x7 x8 x9 x10 x11 x12 x13 v6 v7 v8 v9 : Value} (hV : V = (((w.setCell ⟨g, 6, none⟩ v6).setCell ⟨g, 7, none⟩ v7).setCell ⟨g, 8, none⟩ v8).setCell ⟨g, 9, none⟩ v9) (h : w.heap[g]? = some (.cells #[x0, x1, x2, x3, x4, x5, x6, x7, x8, x9, x10, x11, x12, x13] t (0, 0))) :
    V.heap[g]? = some (.cells #[x0, x1, x2, x3, x4, x5, v6, v7, v8, v9, x10, x11, x12, x13] t (0, 0)) ∧ ∀ u, Ext u w → u.heap.size ≤ g → Ext u V := by
  subst hV
  refine ⟨?_, fun u hu hg => ?_⟩
  · have k6 := heap_setCell_same _ g 6 _ _ v6 h
    have k7 := heap_setCell_same _ g 7 _ _ v7 k6
    have k8 := heap_setCell_same _ g 8 _ _ v8 k7
    have k9 := heap_setCell_same _ g 9 _ _ v9 k8
    simpa using k9
  · exact Below.setCell (Below.setCell (Below.setCell (Below.setCell hu (p := ⟨g, _, none⟩) hg _) (p := ⟨g, _, none⟩) hg _) (p := ⟨g, _, none⟩) hg _) (p := ⟨g, _, none⟩) hg _
theorem zeroC_val (w : World) : CondV w (.agg #[.string ⟨#[]⟩, .int .i64 0, .int .i64 0, .int .i64 0, .int .i64 0, .int .i64 0, .int .i64 0, .int .i64 0, .int .i64 0, .slice none 0 0, .int .i64 0, .int .i64 0, .int .i64 0, .slice none 0 0]) zeroC :=
  ⟨none, 0, 0, none, 0, 0, rfl, ⟨_, rfl, .inl ⟨⟨_, _, rfl⟩, rfl⟩⟩, ⟨_, rfl, .inl ⟨⟨_, _, rfl⟩, rfl⟩⟩⟩
def chC (w : World) (g : Nat) (d : CondS) (a1 : Option Addr) (l1 c1 : Nat) (a2 : Option Addr) (l2 c2 : Nat) : World := ((((((((((((((w).setCell ⟨g, 0, none⟩ (.string ⟨d.id.toArray⟩)).setCell ⟨g, 1, none⟩ (.int .i64 d.k1)).setCell ⟨g, 2, none⟩ (.int .i64 d.k2)).setCell ⟨g, 3, none⟩ (.int .i64 d.k3)).setCell ⟨g, 4, none⟩ (.int .i64 d.k4)).setCell ⟨g, 5, none⟩ (.int .i64 d.k5)).setCell ⟨g, 6, none⟩ (.int .i64 d.hyp.op)).setCell ⟨g, 7, none⟩ (.int .i64 d.hyp.wd)).setCell ⟨g, 8, none⟩ (.int .i64 d.hyp.n)).setCell ⟨g, 9, none⟩ (.slice a1 l1 c1)).setCell ⟨g, 10, none⟩ (.int .i64 d.goal.op)).setCell ⟨g, 11, none⟩ (.int .i64 d.goal.wd)).setCell ⟨g, 12, none⟩ (.int .i64 d.goal.n)).setCell ⟨g, 13, none⟩ (.slice a2 l2 c2)
/-- A statement that no tactic takes for another. -/
structure Hold (X : Prop) : Prop where
  out : X
set_option maxRecDepth 100000 in
set_option maxHeartbeats 16000000 in
/-- What is still to be shown behind the second Strengthen, and that it suffices. -/
noncomputable def hsPart :
    PSigma fun X : Prop => (Hold X → ∀ (cells : List CellD) (c : CondS) (a b : E) (s t : List Int) (kv cv av bv sv tv : Value) (w : World), Cells w kv cells → CondV w cv c → EVal w av a → EVal w bv b → Ints w sv s → Ints w tv t → Masks w → Names w → Pow10 w →
    Calls Tryz.prog 6 #[kv, cv, av, bv, sv, tv] w fun r w' => r = .returned (.bool true) ∧ Ext w w') := ⟨_, fun hStill => by
  intro cells c a b s t kv cv av bv sv tv w hC hc ha hb hs ht hM hN hP
  have hcV := hc
  obtain ⟨ca1, ca2, ca3, ca4, ca5, ca6, rfl, _, _⟩ := hc
  have haV := ha
  obtain ⟨a1, a3, rfl, _⟩ := ha.shape'
  obtain ⟨a2, ha2⟩ : ∃ n, a.kids.length = n := ⟨_, rfl⟩
  rw [ha2] at haV ⊢
  clear ha2
  have hbV := hb
  obtain ⟨b1, b3, rfl, _⟩ := hb.shape'
  obtain ⟨b2, hb2⟩ : ∃ n, b.kids.length = n := ⟨_, rfl⟩
  rw [hb2] at hbV ⊢
  clear hb2
  obtain ⟨ka, kc, rfl⟩ := SliceAt.shape hC
  have hkl := SliceAt.len_le hC
  obtain ⟨s1, s3, rfl⟩ := SliceAt.shape hs
  have hsL := SliceAt.len_le hs
  obtain ⟨t1, t3, rfl⟩ := SliceAt.shape ht
  have htL := SliceAt.len_le ht
  obtain ⟨W, hW⟩ : ∃ W, Boxes3 w W (.cells (condCells c ca1 ca2 ca3 ca4 ca5 ca6) 27) (.cells #[.int .i64 a.op, .int .i64 a.wd, .int .i64 a.n, .slice a1 a2 a3] 25) (.cells #[.int .i64 b.op, .int .i64 b.wd, .int .i64 b.n, .slice b1 b2 b3] 25) := ⟨_, Boxes3.mk' _ _ _ _⟩
  have hx := hW.ext
  have HVc : Hid (CondAt W w.heap.size c ca1 ca2 ca3 ca4 ca5 ca6) := hW.b0
  have Hc := Lib.hid (hcV.ext hx)
  have HVa : Hid (VarE W (w.heap.size + 1) a.op a.wd a.n (.slice a1 a2 a3)) := hW.b1
  have Ha := Lib.hid (haV.ext hx)
  have HVb : Hid (VarE W (w.heap.size + 1 + 1) b.op b.wd b.n (.slice b1 b2 b3)) := hW.b2
  have Hb := Lib.hid (hbV.ext hx)
  have Hs := Lib.hid (hs.ext hx)
  have Ht := Lib.hid (ht.ext hx)
  have HX := Lib.hid hx; have HC := Lib.hid (hC.ext hx); have HM := Lib.hid (hM.ext hx); have HN := Lib.hid (hN.ext hx); have HP := Lib.hid (hP.ext hx); have HW := Lib.hid hW.eq
  clear hW hx hM hN hP hC hcV haV ha hbV hb hs ht
  unfold condCells at *
  go_enter Tryz.func6, Tryz.ntmps6
  go_upto_region 1 with fail
  rw [← HW.out]
  clear HW
  generalize w.heap.size + 1 + 1 = bb at *
  generalize w.heap.size + 1 = ba at *
  generalize w.heap.size = bc at *
  go_wp2_with fail
  refine (head_any W HM.out HN.out HP.out).mono ?_
  rintro r wk1 ⟨rfl, x1⟩
  replace HX := Lib.hid (HX.out.trans x1); replace HC := Lib.hid (HC.out.ext x1); replace HM := Lib.hid (HM.out.ext x1); replace HVc := Lib.hid (HVc.out.ext x1); replace Hc := Lib.hid (Hc.out.ext x1); replace HVa := Lib.hid (HVa.out.ext x1); replace Ha := Lib.hid (Ha.out.ext x1); replace HVb := Lib.hid (HVb.out.ext x1); replace Hb := Lib.hid (Hb.out.ext x1); replace Hs := Lib.hid (Hs.out.ext x1); replace Ht := Lib.hid (Ht.out.ext x1)
  clear x1
  clear HN HP
  obtain ⟨qc0, qc1, qc2, qc3, qc4, qc5, qc6, qc7, qc8, qc9, qc10, qc11, qc12, qc13⟩ := HVc.out.all
  go_wp2_with fail
  refine (small32_any cells c _ _ _ HC.out Hc.out).mono ?_
  rintro r wk2 ⟨rfl, x1⟩
  replace HX := Lib.hid (HX.out.trans x1); replace HC := Lib.hid (HC.out.ext x1); replace HM := Lib.hid (HM.out.ext x1); replace HVc := Lib.hid (HVc.out.ext x1); replace Hc := Lib.hid (Hc.out.ext x1); replace HVa := Lib.hid (HVa.out.ext x1); replace Ha := Lib.hid (Ha.out.ext x1); replace HVb := Lib.hid (HVb.out.ext x1); replace Hb := Lib.hid (Hb.out.ext x1); replace Hs := Lib.hid (Hs.out.ext x1); replace Ht := Lib.hid (Ht.out.ext x1)
  clear x1 qc0 qc1 qc2 qc3 qc4 qc5 qc6 qc7 qc8 qc9 qc10 qc11 qc12 qc13
  cases hb1 : small32 cells c with
  | false =>
    clear hb1
    go_wp2_with fail
    exact bodyPost_ret (v := .bool true) (by simp [results, Tryz.results6, go_sem]) rfl ⟨rfl, by first | exact HX.out | exact HX.out.alloc _⟩
  | true =>
  have HS := Lib.hid (sm_of hb1)
  clear hb1
  obtain ⟨qa0, qa1, qa2, qa3⟩ := HVa.out.cells
  go_wp2_with fail
  refine (RSmall_any a _ _ 40 Ha.out (by omega) (by omega)).mono ?_
  rintro r wk3 ⟨rfl, x1⟩
  replace HX := Lib.hid (HX.out.trans x1); replace HC := Lib.hid (HC.out.ext x1); replace HM := Lib.hid (HM.out.ext x1); replace HVc := Lib.hid (HVc.out.ext x1); replace Hc := Lib.hid (Hc.out.ext x1); replace HVa := Lib.hid (HVa.out.ext x1); replace Ha := Lib.hid (Ha.out.ext x1); replace HVb := Lib.hid (HVb.out.ext x1); replace Hb := Lib.hid (Hb.out.ext x1); replace Hs := Lib.hid (Hs.out.ext x1); replace Ht := Lib.hid (Ht.out.ext x1)
  clear x1 qa0 qa1 qa2 qa3
  cases hb1 : decide ((a.size : Int) ≤ 40) with
  | false =>
    clear hb1
    go_wp2_with fail
    exact bodyPost_ret (v := .bool true) (by simp [results, Tryz.results6, go_sem]) rfl ⟨rfl, by first | exact HX.out | exact HX.out.alloc _⟩
  | true =>
  clear hb1
  obtain ⟨qb0, qb1, qb2, qb3⟩ := HVb.out.cells
  go_wp2_with fail
  refine (RSmall_any b _ _ 40 Hb.out (by omega) (by omega)).mono ?_
  rintro r wk4 ⟨rfl, x1⟩
  replace HX := Lib.hid (HX.out.trans x1); replace HC := Lib.hid (HC.out.ext x1); replace HM := Lib.hid (HM.out.ext x1); replace HVc := Lib.hid (HVc.out.ext x1); replace Hc := Lib.hid (Hc.out.ext x1); replace HVa := Lib.hid (HVa.out.ext x1); replace Ha := Lib.hid (Ha.out.ext x1); replace HVb := Lib.hid (HVb.out.ext x1); replace Hb := Lib.hid (Hb.out.ext x1); replace Hs := Lib.hid (Hs.out.ext x1); replace Ht := Lib.hid (Ht.out.ext x1)
  clear x1 qb0 qb1 qb2 qb3
  cases hb1 : decide ((b.size : Int) ≤ 40) with
  | false =>
    clear hb1
    go_wp2_with fail
    exact bodyPost_ret (v := .bool true) (by simp [results, Tryz.results6, go_sem]) rfl ⟨rfl, by first | exact HX.out | exact HX.out.alloc _⟩
  | true =>
  clear hb1
  by_cases t1 : 50 < s.length
  · go_wp2_with fail
    exact bodyPost_ret (v := .bool true) (by simp [results, Tryz.results6, go_sem]) rfl ⟨rfl, by first | exact HX.out | exact HX.out.alloc _⟩
  by_cases t2 : 50 < t.length
  · go_wp2_with fail
    exact bodyPost_ret (v := .bool true) (by simp [results, Tryz.results6, go_sem]) rfl ⟨rfl, by first | exact HX.out | exact HX.out.alloc _⟩
  obtain ⟨d, hd⟩ : ∃ d, strC c a = d := ⟨_, rfl⟩
  have HDE := Lib.hid hd
  clear hd
  obtain ⟨qc0, qc1, qc2, qc3, qc4, qc5, qc6, qc7, qc8, qc9, qc10, qc11, qc12, qc13⟩ := HVc.out.all
  obtain ⟨qa0, qa1, qa2, qa3⟩ := HVa.out.cells
  go_wp2_with fail
  refine (Str_s (by have := HS.out.s2; omega) HDE.out _ _ _ Hc.out Ha.out HM.out).mono ?_
  rintro r wk5 ⟨da1, da2, da3, da4, da5, da6, rfl, hv, x1⟩
  have Hd := Lib.hid hv; clear hv
  unfold condCells at Hd
  replace HX := Lib.hid (HX.out.trans x1); replace HC := Lib.hid (HC.out.ext x1); replace HM := Lib.hid (HM.out.ext x1); replace HVc := Lib.hid (HVc.out.ext x1); replace Hc := Lib.hid (Hc.out.ext x1); replace HVa := Lib.hid (HVa.out.ext x1); replace Ha := Lib.hid (Ha.out.ext x1); replace HVb := Lib.hid (HVb.out.ext x1); replace Hb := Lib.hid (Hb.out.ext x1); replace Hs := Lib.hid (Hs.out.ext x1); replace Ht := Lib.hid (Ht.out.ext x1)
  clear x1 qc0 qc1 qc2 qc3 qc4 qc5 qc6 qc7 qc8 qc9 qc10 qc11 qc12 qc13 qa0 qa1 qa2 qa3
  go_upto_region 5 with fail
  obtain ⟨Wk5, hWk⟩ : ∃ Wk, Wk = wk5.alloc (.cells #[.string ⟨d.id.toArray⟩, .int .i64 d.k1, .int .i64 d.k2, .int .i64 d.k3, .int .i64 d.k4, .int .i64 d.k5, .int .i64 d.hyp.op, .int .i64 d.hyp.wd, .int .i64 d.hyp.n, .slice da1 da2 da3, .int .i64 d.goal.op, .int .i64 d.goal.wd, .int .i64 d.goal.n, .slice da4 da5 da6] 27) := ⟨_, rfl⟩
  have x1 : Ext wk5 Wk5 := by rw [hWk]; exact (Ext.refl _).alloc _
  have HVd : Hid (CondAt Wk5 wk5.heap.size d da1 da2 da3 da4 da5 da6) := by rw [hWk]; exact heap_new _ _
  rw [← hWk]
  replace HX := Lib.hid (HX.out.trans x1); replace HC := Lib.hid (HC.out.ext x1); replace HM := Lib.hid (HM.out.ext x1); replace HVc := Lib.hid (HVc.out.ext x1); replace Hc := Lib.hid (Hc.out.ext x1); replace HVa := Lib.hid (HVa.out.ext x1); replace Ha := Lib.hid (Ha.out.ext x1); replace HVb := Lib.hid (HVb.out.ext x1); replace Hb := Lib.hid (Hb.out.ext x1); replace Hs := Lib.hid (Hs.out.ext x1); replace Ht := Lib.hid (Ht.out.ext x1); replace Hd := Lib.hid (Hd.out.ext x1)
  clear x1 hWk
  generalize wk5.heap.size = bd at *
  obtain ⟨qa0, qa1, qa2, qa3⟩ := HVa.out.cells
  go_wp2_with fail
  refine (RFormed_any a _ _ Ha.out).mono ?_
  rintro r wk6 ⟨rfl, x1⟩
  replace HX := Lib.hid (HX.out.trans x1); replace HC := Lib.hid (HC.out.ext x1); replace HM := Lib.hid (HM.out.ext x1); replace HVc := Lib.hid (HVc.out.ext x1); replace Hc := Lib.hid (Hc.out.ext x1); replace HVa := Lib.hid (HVa.out.ext x1); replace Ha := Lib.hid (Ha.out.ext x1); replace HVb := Lib.hid (HVb.out.ext x1); replace Hb := Lib.hid (Hb.out.ext x1); replace Hs := Lib.hid (Hs.out.ext x1); replace Ht := Lib.hid (Ht.out.ext x1); replace Hd := Lib.hid (Hd.out.ext x1); replace HVd := Lib.hid (HVd.out.ext x1)
  clear x1 qa0 qa1 qa2 qa3
  cases hwf : a.wf with
  | false =>
    have HWF := Lib.hid hwf; clear hwf
    have hdz : d = zeroC := by rw [← HDE.out]; exact strC_no (by unfold condE; rw [HWF.out]; simp)
    have HDZ := Lib.hid hdz
    clear hdz
    obtain ⟨qd0, qd1, qd2, qd3, qd4, qd5, qd6, qd7, qd8, qd9, qd10, qd11, qd12, qd13⟩ := HVd.out.all
    go_wp2_with fail
    refine (RSame32_any d _ _ wk6 Hd.out (by rw [HDZ.out]; exact zeroC_val _)).mono ?_
    rintro r wk7 ⟨rfl, x1⟩
    replace HX := Lib.hid (HX.out.trans x1); replace HC := Lib.hid (HC.out.ext x1); replace HM := Lib.hid (HM.out.ext x1); replace HVc := Lib.hid (HVc.out.ext x1); replace Hc := Lib.hid (Hc.out.ext x1); replace HVa := Lib.hid (HVa.out.ext x1); replace Ha := Lib.hid (Ha.out.ext x1); replace HVb := Lib.hid (HVb.out.ext x1); replace Hb := Lib.hid (Hb.out.ext x1); replace Hs := Lib.hid (Hs.out.ext x1); replace Ht := Lib.hid (Ht.out.ext x1); replace Hd := Lib.hid (Hd.out.ext x1); replace HVd := Lib.hid (HVd.out.ext x1)
    clear x1 qd0 qd1 qd2 qd3 qd4 qd5 qd6 qd7 qd8 qd9 qd10 qd11 qd12 qd13
    go_wp2_with fail
    exact bodyPost_ret (v := .bool true) (by simp [results, Tryz.results6, go_sem]) rfl ⟨rfl, by first | exact HX.out | exact HX.out.alloc _⟩
  | true =>
  have HWF := Lib.hid hwf; clear hwf
  by_cases hw1 : a.wd = 1
  case neg =>
    have HW1 := Lib.hid hw1
    have hwb : (a.wd != 1) = true := by simp [hw1]
    clear hw1
    obtain ⟨qa0, qa1, qa2, qa3⟩ := HVa.out.cells
    have hdz : d = zeroC := by rw [← HDE.out]; exact strC_no (by unfold condE; rw [show (a.wd == 1) = false by have := HW1.out; simp [this]]; rfl)
    have HDZ := Lib.hid hdz
    clear hdz
    obtain ⟨qd0, qd1, qd2, qd3, qd4, qd5, qd6, qd7, qd8, qd9, qd10, qd11, qd12, qd13⟩ := HVd.out.all
    go_wp2_with fail
    refine (RSame32_any d _ _ wk6 Hd.out (by rw [HDZ.out]; exact zeroC_val _)).mono ?_
    rintro r wk7 ⟨rfl, x1⟩
    replace HX := Lib.hid (HX.out.trans x1); replace HC := Lib.hid (HC.out.ext x1); replace HM := Lib.hid (HM.out.ext x1); replace HVc := Lib.hid (HVc.out.ext x1); replace Hc := Lib.hid (Hc.out.ext x1); replace HVa := Lib.hid (HVa.out.ext x1); replace Ha := Lib.hid (Ha.out.ext x1); replace HVb := Lib.hid (HVb.out.ext x1); replace Hb := Lib.hid (Hb.out.ext x1); replace Hs := Lib.hid (Hs.out.ext x1); replace Ht := Lib.hid (Ht.out.ext x1); replace Hd := Lib.hid (Hd.out.ext x1); replace HVd := Lib.hid (HVd.out.ext x1)
    clear x1 qa0 qa1 qa2 qa3 qd0 qd1 qd2 qd3 qd4 qd5 qd6 qd7 qd8 qd9 qd10 qd11 qd12 qd13
    go_wp2_with fail
    exact bodyPost_ret (v := .bool true) (by simp [results, Tryz.results6, go_sem]) rfl ⟨rfl, by first | exact HX.out | exact HX.out.alloc _⟩
  obtain ⟨qa0, qa1, qa2, qa3⟩ := HVa.out.cells
  rw [hw1] at qa1
  clear hw1
  by_cases hop : d.hyp.op = 0
  · have qz := HVd.out.hyp.1
    rw [hop] at qz
    go_wp2_with fail
    exact bodyPost_ret (v := .bool true) (by simp [results, Tryz.results6, go_sem]) rfl ⟨rfl, by first | exact HX.out | exact HX.out.alloc _⟩
  have hob : (d.hyp.op == 0) = false := by simp [hop]
  have qz := HVd.out.hyp.1
  obtain ⟨hj, hdc⟩ := str_law2 HDE.out hop
  have HOP := Lib.hid hop; have HJ := Lib.hid hj; have HDC := Lib.hid hdc
  clear hop hj hdc
  go_upto_region 9 with fail
  clear qz hob qa0 qa1 qa2 qa3
  obtain ⟨qd0, qd1, qd2, qd3, qd4, qd5, qd6, qd7, qd8, qd9, qd10, qd11, qd12, qd13⟩ := HVd.out.all
  go_upto_region 10 with fail
  obtain ⟨V1, hV1⟩ : ∃ V1, V1 = wk6.alloc (.cells #[.string ⟨d.id.toArray⟩, .int .i64 d.k1, .int .i64 d.k2, .int .i64 d.k3, .int .i64 d.k4, .int .i64 d.k5, .int .i64 d.hyp.op, .int .i64 d.hyp.wd, .int .i64 d.hyp.n, .slice da1 da2 da3, .int .i64 d.goal.op, .int .i64 d.goal.wd, .int .i64 d.goal.n, .slice da4 da5 da6] 27) := ⟨_, rfl⟩
  have x1 : Ext wk6 V1 := by rw [hV1]; exact (Ext.refl _).alloc _
  have hb1 : V1.heap[wk6.heap.size]? = some (.cells #[.string ⟨d.id.toArray⟩, .int .i64 d.k1, .int .i64 d.k2, .int .i64 d.k3, .int .i64 d.k4, .int .i64 d.k5, .int .i64 d.hyp.op, .int .i64 d.hyp.wd, .int .i64 d.hyp.n, .slice da1 da2 da3, .int .i64 d.goal.op, .int .i64 d.goal.wd, .int .i64 d.goal.n, .slice da4 da5 da6] 27 (0, 0)) := by rw [hV1]; exact heap_new _ _
  rw [← hV1]
  clear hV1 qd0 qd1 qd2 qd3 qd4 qd5 qd6 qd7 qd8 qd9 qd10 qd11 qd12 qd13
  obtain ⟨⟨g0, g1, g2, g3, g4, g5, g6, g7, g8, g9, g10, g11, g12, g13⟩, f0, f1, f2, f3, f4, f5, f6, f7, f8, f9, f10, f11, f12, f13⟩ := blocks14 hb1
  obtain ⟨p0, p1, p2, p3, p4, p5, p6, p7, p8, p9, p10, p11, p12, p13⟩ := CondAt.all (HVc.out.ext x1)
  go_upto_region 11 with fail
  clear g0 g1 g2 g3 g4 g5 g6 g7 g8 g9 g10 g11 g12 g13 f0 f1 f2 f3 f4 f5 f6 f7 f8 f9 f10 f11 f12 f13 p0 p1 p2 p3 p4 p5 p6 p7 p8 p9 p10 p11 p12 p13
  obtain ⟨V2, hV2⟩ : ∃ V2, V2 = (((V1.setCell ⟨wk6.heap.size, 6, none⟩ (.int .i64 c.hyp.op)).setCell ⟨wk6.heap.size, 7, none⟩ (.int .i64 c.hyp.wd)).setCell ⟨wk6.heap.size, 8, none⟩ (.int .i64 c.hyp.n)).setCell ⟨wk6.heap.size, 9, none⟩ (.slice ca1 ca2 ca3) := ⟨_, rfl⟩
  rw [← hV2]
  obtain ⟨k1, k2⟩ := setHyp hV2 hb1
  have HVx := Lib.hid k1
  replace x1 : Ext wk6 V2 := k2 _ x1 (Nat.le_refl _)
  clear hV2 hb1 k1 k2
  replace HX := Lib.hid (HX.out.trans x1); replace HC := Lib.hid (HC.out.ext x1); replace HM := Lib.hid (HM.out.ext x1); replace HVc := Lib.hid (HVc.out.ext x1); replace Hc := Lib.hid (Hc.out.ext x1); replace HVa := Lib.hid (HVa.out.ext x1); replace Ha := Lib.hid (Ha.out.ext x1); replace HVb := Lib.hid (HVb.out.ext x1); replace Hb := Lib.hid (Hb.out.ext x1); replace Hs := Lib.hid (Hs.out.ext x1); replace Ht := Lib.hid (Ht.out.ext x1); replace Hd := Lib.hid (Hd.out.ext x1); replace HVd := Lib.hid (HVd.out.ext x1)
  clear x1
  generalize wk6.heap.size = bx at *
  have HBL : Hid (VarE V2 ba a.op a.wd a.n (.slice a1 a2 a3)) := HVa.out
  have K1 : Hid (∀ w', Ext V2 w' → (w'.cell? ⟨bx, 0, none⟩ = some (.string ⟨d.id.toArray⟩) ∧ w'.cell? ⟨bx, 1, none⟩ = some (.int .i64 d.k1) ∧ w'.cell? ⟨bx, 2, none⟩ = some (.int .i64 d.k2) ∧ w'.cell? ⟨bx, 3, none⟩ = some (.int .i64 d.k3) ∧ w'.cell? ⟨bx, 4, none⟩ = some (.int .i64 d.k4) ∧ w'.cell? ⟨bx, 5, none⟩ = some (.int .i64 d.k5) ∧ w'.cell? ⟨bx, 6, none⟩ = some (.int .i64 c.hyp.op) ∧ w'.cell? ⟨bx, 7, none⟩ = some (.int .i64 c.hyp.wd) ∧ w'.cell? ⟨bx, 8, none⟩ = some (.int .i64 c.hyp.n) ∧ w'.cell? ⟨bx, 9, none⟩ = some (.slice ca1 ca2 ca3) ∧ w'.cell? ⟨bx, 10, none⟩ = some (.int .i64 d.goal.op) ∧ w'.cell? ⟨bx, 11, none⟩ = some (.int .i64 d.goal.wd) ∧ w'.cell? ⟨bx, 12, none⟩ = some (.int .i64 d.goal.n) ∧ w'.cell? ⟨bx, 13, none⟩ = some (.slice da4 da5 da6) ∧ w'.cell? ⟨bc, 0, none⟩ = some (.string ⟨c.id.toArray⟩) ∧ w'.cell? ⟨bc, 1, none⟩ = some (.int .i64 c.k1) ∧ w'.cell? ⟨bc, 2, none⟩ = some (.int .i64 c.k2) ∧ w'.cell? ⟨bc, 3, none⟩ = some (.int .i64 c.k3) ∧ w'.cell? ⟨bc, 4, none⟩ = some (.int .i64 c.k4) ∧ w'.cell? ⟨bc, 5, none⟩ = some (.int .i64 c.k5) ∧ w'.cell? ⟨bc, 6, none⟩ = some (.int .i64 c.hyp.op) ∧ w'.cell? ⟨bc, 7, none⟩ = some (.int .i64 c.hyp.wd) ∧ w'.cell? ⟨bc, 8, none⟩ = some (.int .i64 c.hyp.n) ∧ w'.cell? ⟨bc, 9, none⟩ = some (.slice ca1 ca2 ca3) ∧ w'.cell? ⟨bc, 10, none⟩ = some (.int .i64 c.goal.op) ∧ w'.cell? ⟨bc, 11, none⟩ = some (.int .i64 c.goal.wd) ∧ w'.cell? ⟨bc, 12, none⟩ = some (.int .i64 c.goal.n) ∧ w'.cell? ⟨bc, 13, none⟩ = some (.slice ca4 ca5 ca6) ∧ w'.cell? ⟨bd, 6, none⟩ = some (.int .i64 d.hyp.op) ∧ w'.cell? ⟨bd, 7, none⟩ = some (.int .i64 d.hyp.wd) ∧ w'.cell? ⟨bd, 8, none⟩ = some (.int .i64 d.hyp.n) ∧ w'.cell? ⟨bd, 9, none⟩ = some (.slice da1 da2 da3) ∧ w'.cell? ⟨ba, 0, none⟩ = some (.int .i64 a.op) ∧ w'.cell? ⟨ba, 1, none⟩ = some (.int .i64 a.wd) ∧ w'.cell? ⟨ba, 2, none⟩ = some (.int .i64 a.n) ∧ w'.cell? ⟨ba, 3, none⟩ = some (.slice a1 a2 a3))) := fun w' h => ⟨h.cell (by rw [Lib.cell_of_heap HVx.out]; rfl), h.cell (by rw [Lib.cell_of_heap HVx.out]; rfl), h.cell (by rw [Lib.cell_of_heap HVx.out]; rfl), h.cell (by rw [Lib.cell_of_heap HVx.out]; rfl), h.cell (by rw [Lib.cell_of_heap HVx.out]; rfl), h.cell (by rw [Lib.cell_of_heap HVx.out]; rfl), h.cell (by rw [Lib.cell_of_heap HVx.out]; rfl), h.cell (by rw [Lib.cell_of_heap HVx.out]; rfl), h.cell (by rw [Lib.cell_of_heap HVx.out]; rfl), h.cell (by rw [Lib.cell_of_heap HVx.out]; rfl), h.cell (by rw [Lib.cell_of_heap HVx.out]; rfl), h.cell (by rw [Lib.cell_of_heap HVx.out]; rfl), h.cell (by rw [Lib.cell_of_heap HVx.out]; rfl), h.cell (by rw [Lib.cell_of_heap HVx.out]; rfl), h.cell (by rw [Lib.cell_of_heap HVc.out]; rfl), h.cell (by rw [Lib.cell_of_heap HVc.out]; rfl), h.cell (by rw [Lib.cell_of_heap HVc.out]; rfl), h.cell (by rw [Lib.cell_of_heap HVc.out]; rfl), h.cell (by rw [Lib.cell_of_heap HVc.out]; rfl), h.cell (by rw [Lib.cell_of_heap HVc.out]; rfl), h.cell (by rw [Lib.cell_of_heap HVc.out]; rfl), h.cell (by rw [Lib.cell_of_heap HVc.out]; rfl), h.cell (by rw [Lib.cell_of_heap HVc.out]; rfl), h.cell (by rw [Lib.cell_of_heap HVc.out]; rfl), h.cell (by rw [Lib.cell_of_heap HVc.out]; rfl), h.cell (by rw [Lib.cell_of_heap HVc.out]; rfl), h.cell (by rw [Lib.cell_of_heap HVc.out]; rfl), h.cell (by rw [Lib.cell_of_heap HVc.out]; rfl), h.cell (by rw [Lib.cell_of_heap HVd.out]; rfl), h.cell (by rw [Lib.cell_of_heap HVd.out]; rfl), h.cell (by rw [Lib.cell_of_heap HVd.out]; rfl), h.cell (by rw [Lib.cell_of_heap HVd.out]; rfl), h.cell (by rw [Lib.cell_of_heap HBL.out]; rfl), h.cell (by rw [Lib.cell_of_heap HBL.out]; rfl), h.cell (by rw [Lib.cell_of_heap HBL.out]; rfl), h.cell (by rw [Lib.cell_of_heap HBL.out]; rfl)⟩
  have HCD := Lib.hid (condV_parts Hd.out)
  have HCC := Lib.hid (condV_parts Hc.out)
  have HXV : Hid (∀ w', Ext V2 w' → CondV w' (.agg #[.string ⟨d.id.toArray⟩, .int .i64 d.k1, .int .i64 d.k2, .int .i64 d.k3, .int .i64 d.k4, .int .i64 d.k5, .int .i64 c.hyp.op, .int .i64 c.hyp.wd, .int .i64 c.hyp.n, .slice ca1 ca2 ca3, .int .i64 d.goal.op, .int .i64 d.goal.wd, .int .i64 d.goal.n, .slice da4 da5 da6]) c) := fun w' h => by
    have h1 : CondV w' (.agg #[.string ⟨d.id.toArray⟩, .int .i64 d.k1, .int .i64 d.k2, .int .i64 d.k3, .int .i64 d.k4, .int .i64 d.k5, .int .i64 c.hyp.op, .int .i64 c.hyp.wd, .int .i64 c.hyp.n, .slice ca1 ca2 ca3, .int .i64 d.goal.op, .int .i64 d.goal.wd, .int .i64 d.goal.n, .slice da4 da5 da6]) { d with hyp := c.hyp } := ⟨ca1, ca2, ca3, da4, da5, da6, rfl, HCC.out.1.ext h, HCD.out.2.ext h⟩
    rw [HDC.out] at h1; exact h1
  have hbt := join_bits HJ.out s t
  obtain ⟨X, hX⟩ : ∃ X, d.hyp.eval s t = X := ⟨_, rfl⟩
  obtain ⟨Y, hY⟩ : ∃ Y, c.hyp.eval s t = Y := ⟨_, rfl⟩
  obtain ⟨Z, hZ⟩ : ∃ Z, a.eval s t = Z := ⟨_, rfl⟩
  rw [hX, hY, hZ] at hbt
  have HEX := Lib.hid hX; have HEY := Lib.hid hY; have HEZ := Lib.hid hZ
  clear hX hY hZ
  have HSC := Lib.hid (strC_one HS.out.cond1)
  have HGS : Hid (c.goal.size ≤ 100000) := by have := HS.out.s2; unfold Hid; omega
  go_region_held3 (fun w' => w'.cell? ⟨bx, 0, none⟩ = some (.string ⟨d.id.toArray⟩) ∧ w'.cell? ⟨bx, 1, none⟩ = some (.int .i64 d.k1) ∧ w'.cell? ⟨bx, 2, none⟩ = some (.int .i64 d.k2) ∧ w'.cell? ⟨bx, 3, none⟩ = some (.int .i64 d.k3) ∧ w'.cell? ⟨bx, 4, none⟩ = some (.int .i64 d.k4) ∧ w'.cell? ⟨bx, 5, none⟩ = some (.int .i64 d.k5) ∧ w'.cell? ⟨bx, 6, none⟩ = some (.int .i64 c.hyp.op) ∧ w'.cell? ⟨bx, 7, none⟩ = some (.int .i64 c.hyp.wd) ∧ w'.cell? ⟨bx, 8, none⟩ = some (.int .i64 c.hyp.n) ∧ w'.cell? ⟨bx, 9, none⟩ = some (.slice ca1 ca2 ca3) ∧ w'.cell? ⟨bx, 10, none⟩ = some (.int .i64 d.goal.op) ∧ w'.cell? ⟨bx, 11, none⟩ = some (.int .i64 d.goal.wd) ∧ w'.cell? ⟨bx, 12, none⟩ = some (.int .i64 d.goal.n) ∧ w'.cell? ⟨bx, 13, none⟩ = some (.slice da4 da5 da6) ∧ w'.cell? ⟨bc, 0, none⟩ = some (.string ⟨c.id.toArray⟩) ∧ w'.cell? ⟨bc, 1, none⟩ = some (.int .i64 c.k1) ∧ w'.cell? ⟨bc, 2, none⟩ = some (.int .i64 c.k2) ∧ w'.cell? ⟨bc, 3, none⟩ = some (.int .i64 c.k3) ∧ w'.cell? ⟨bc, 4, none⟩ = some (.int .i64 c.k4) ∧ w'.cell? ⟨bc, 5, none⟩ = some (.int .i64 c.k5) ∧ w'.cell? ⟨bc, 6, none⟩ = some (.int .i64 c.hyp.op) ∧ w'.cell? ⟨bc, 7, none⟩ = some (.int .i64 c.hyp.wd) ∧ w'.cell? ⟨bc, 8, none⟩ = some (.int .i64 c.hyp.n) ∧ w'.cell? ⟨bc, 9, none⟩ = some (.slice ca1 ca2 ca3) ∧ w'.cell? ⟨bc, 10, none⟩ = some (.int .i64 c.goal.op) ∧ w'.cell? ⟨bc, 11, none⟩ = some (.int .i64 c.goal.wd) ∧ w'.cell? ⟨bc, 12, none⟩ = some (.int .i64 c.goal.n) ∧ w'.cell? ⟨bc, 13, none⟩ = some (.slice ca4 ca5 ca6) ∧ w'.cell? ⟨bd, 6, none⟩ = some (.int .i64 d.hyp.op) ∧ w'.cell? ⟨bd, 7, none⟩ = some (.int .i64 d.hyp.wd) ∧ w'.cell? ⟨bd, 8, none⟩ = some (.int .i64 d.hyp.n) ∧ w'.cell? ⟨bd, 9, none⟩ = some (.slice da1 da2 da3) ∧ w'.cell? ⟨ba, 0, none⟩ = some (.int .i64 a.op) ∧ w'.cell? ⟨ba, 1, none⟩ = some (.int .i64 a.wd) ∧ w'.cell? ⟨ba, 2, none⟩ = some (.int .i64 a.n) ∧ w'.cell? ⟨ba, 3, none⟩ = some (.slice a1 a2 a3))
    ((first
      | assumption
      | (refine K1.out _ ?_; repeat (first | exact Ext.refl _ | exact Y7.out | apply Ext.drew | apply Ext.alloc)
         done)
      | (refine K1.out _ ?_; repeat (first | exact Ext.refl _ | exact Y6.out | apply Ext.drew | apply Ext.alloc)
         done)
      | (refine K1.out _ ?_; repeat (first | exact Ext.refl _ | exact Y5.out | apply Ext.drew | apply Ext.alloc)
         done)
      | (refine K1.out _ ?_; repeat (first | exact Ext.refl _ | exact Y4.out | apply Ext.drew | apply Ext.alloc)
         done)
      | (refine K1.out _ ?_; repeat (first | exact Ext.refl _ | exact Y3.out | apply Ext.drew | apply Ext.alloc)
         done)
      | (refine K1.out _ ?_; repeat (first | exact Ext.refl _ | exact Y2.out | apply Ext.drew | apply Ext.alloc)
         done)
      | (refine K1.out _ ?_; repeat (first | exact Ext.refl _ | exact Y1.out | apply Ext.drew | apply Ext.alloc)
         done)
      | (refine K1.out _ ?_; repeat (first | exact Ext.refl _ | apply Ext.drew | apply Ext.alloc)
         done)
      | fail))
    ((first
      | (go_at_call 22
         have hg0 := Y6.out
         clear hg0
         refine (RSame32_any c _ _ _ (HV6.out.ext (by repeat (first | exact Ext.refl _ | apply Ext.drew | apply Ext.alloc))) (Hc.out.ext (by repeat (first | exact Y6.out | apply Ext.drew | apply Ext.alloc)))).mono ?_
         rintro r y7 ⟨rfl, x7⟩
         have Y7 : Hid (Ext V2 y7) := Ext.trans (by repeat (first | exact Y6.out | apply Ext.drew | apply Ext.alloc)) x7
         clear x7)
      | (go_at_call 11
         have hg0 := Y5.out
         clear hg0
         refine (Str_s HGS.out HSC.out _ _ _ (Hc.out.ext (by repeat (first | exact Y5.out | apply Ext.drew | apply Ext.alloc))) (leafV _ _ _ _) (HM.out.ext (by repeat (first | exact Y5.out | apply Ext.drew | apply Ext.alloc)))).mono ?_
         rintro r y6 ⟨ea1, ea2, ea3, ea4, ea5, ea6, rfl, hv, x6⟩
         have Y6 : Hid (Ext V2 y6) := Ext.trans (by repeat (first | exact Y5.out | apply Ext.drew | apply Ext.alloc)) x6
         have HV6 := Lib.hid hv
         clear hv
         clear x6)
      | (go_at_call 23
         have hg0 := Y4.out
         clear hg0
         refine (RConst_any 1 1 _).mono ?_
         rintro r y5 ⟨rfl, x5⟩
         have Y5 : Hid (Ext V2 y5) := Ext.trans (by repeat (first | exact Y4.out | apply Ext.drew | apply Ext.alloc)) x5
         clear x5)
      | (go_at_call 20
         have hg0 := Y3.out
         clear hg0
         refine (Eval_any a _ _ _ s t _ (Ha.out.ext (by repeat (first | exact Y3.out | apply Ext.drew | apply Ext.alloc))) (Hs.out.ext (by repeat (first | exact Y3.out | apply Ext.drew | apply Ext.alloc))) (Ht.out.ext (by repeat (first | exact Y3.out | apply Ext.drew | apply Ext.alloc))) (HM.out.ext (by repeat (first | exact Y3.out | apply Ext.drew | apply Ext.alloc)))).mono ?_
         rintro r y4 ⟨rfl, x4⟩
         have Y4 : Hid (Ext V2 y4) := Ext.trans (by repeat (first | exact Y3.out | apply Ext.drew | apply Ext.alloc)) x4
         rw [HEZ.out]
         clear x4)
      | (go_at_call 20
         have hg0 := Y2.out
         clear hg0
         refine (Eval_any c.hyp _ _ _ s t _ (HCC.out.1.ext (by repeat (first | exact Y2.out | apply Ext.drew | apply Ext.alloc))) (Hs.out.ext (by repeat (first | exact Y2.out | apply Ext.drew | apply Ext.alloc))) (Ht.out.ext (by repeat (first | exact Y2.out | apply Ext.drew | apply Ext.alloc))) (HM.out.ext (by repeat (first | exact Y2.out | apply Ext.drew | apply Ext.alloc)))).mono ?_
         rintro r y3 ⟨rfl, x3⟩
         have Y3 : Hid (Ext V2 y3) := Ext.trans (by repeat (first | exact Y2.out | apply Ext.drew | apply Ext.alloc)) x3
         rw [HEY.out]
         clear x3)
      | (go_at_call 20
         have hg0 := Y1.out
         clear hg0
         refine (Eval_any d.hyp _ _ _ s t _ (HCD.out.1.ext (by repeat (first | exact Y1.out | apply Ext.drew | apply Ext.alloc))) (Hs.out.ext (by repeat (first | exact Y1.out | apply Ext.drew | apply Ext.alloc))) (Ht.out.ext (by repeat (first | exact Y1.out | apply Ext.drew | apply Ext.alloc))) (HM.out.ext (by repeat (first | exact Y1.out | apply Ext.drew | apply Ext.alloc)))).mono ?_
         rintro r y2 ⟨rfl, x2⟩
         have Y2 : Hid (Ext V2 y2) := Ext.trans (by repeat (first | exact Y1.out | apply Ext.drew | apply Ext.alloc)) x2
         rw [HEX.out]
         clear x2)
      | (go_at_call 22
         refine (RSame32_any c _ _ _ (HXV.out _ (by repeat (first | exact Ext.refl _ | apply Ext.drew | apply Ext.alloc))) (Hc.out.ext (by repeat (first | exact Ext.refl _ | apply Ext.drew | apply Ext.alloc)))).mono ?_
         rintro r y1 ⟨rfl, x1⟩
         have Y1 : Hid (Ext V2 y1) := Ext.trans (by repeat (first | exact Ext.refl _ | apply Ext.drew | apply Ext.alloc)) x1
         clear x1)
      | fail))
  have x1 := Y7.out
  replace HX := Lib.hid (HX.out.trans x1); replace HC := Lib.hid (HC.out.ext x1); replace HM := Lib.hid (HM.out.ext x1); replace HVc := Lib.hid (HVc.out.ext x1); replace Hc := Lib.hid (Hc.out.ext x1); replace HVa := Lib.hid (HVa.out.ext x1); replace Ha := Lib.hid (Ha.out.ext x1); replace HVb := Lib.hid (HVb.out.ext x1); replace Hb := Lib.hid (Hb.out.ext x1); replace Hs := Lib.hid (Hs.out.ext x1); replace Ht := Lib.hid (Ht.out.ext x1); replace Hd := Lib.hid (Hd.out.ext x1); replace HVd := Lib.hid (HVd.out.ext x1)
  clear x1 Y1 Y2 Y3 Y4 Y5 Y6 Y7 K1 HXV hbt HEX HEY HEZ HSC HV6 HVx HBL HDC HJ HCD HCC
  generalize y7 = U7 at *
  go_upto_region 13 with fail
  obtain ⟨g, hg⟩ : ∃ g, strC d b = g := ⟨_, rfl⟩
  obtain ⟨m, hm⟩ : ∃ m, strC c b = m := ⟨_, rfl⟩
  obtain ⟨z, hz⟩ : ∃ z, strC m a = z := ⟨_, rfl⟩
  have HGE := Lib.hid hg; have HME := Lib.hid hm; have HZE := Lib.hid hz
  clear hg hm hz
  have HGD : Hid (d.goal.size ≤ 100000) := by
    have h1 := (strC_law (c := c) (e := a) (by rw [HDE.out]; exact HOP.out)).1
    rw [HDE.out] at h1
    rw [Hid, h1]; exact HGS.out
  have HGM : Hid (m.goal.size ≤ 100000) := by
    rw [Hid, ← HME.out]; unfold strC
    split
    · show (1 : Nat) ≤ 100000; omega
    · exact HGS.out
  have HTd : Hid (∀ (Q : Nat → Prop) (w' : World), Ext U7 w' → (∀ k, k < U7.heap.size → Q k) → CondT Q w' (.agg #[.string ⟨d.id.toArray⟩, .int .i64 d.k1, .int .i64 d.k2, .int .i64 d.k3, .int .i64 d.k4, .int .i64 d.k5, .int .i64 d.hyp.op, .int .i64 d.hyp.wd, .int .i64 d.hyp.n, .slice da1 da2 da3, .int .i64 d.goal.op, .int .i64 d.goal.wd, .int .i64 d.goal.n, .slice da4 da5 da6]) d) := fun Q w' h hQ => by
    obtain ⟨e1, e2⟩ := condV_parts Hd.out
    exact ⟨da1, da2, da3, da4, da5, da6, rfl, (e1.t.keep fun k _ hk => h.block k hk).mono hQ, (e2.t.keep fun k _ hk => h.block k hk).mono hQ⟩
  have HTc : Hid (∀ (Q : Nat → Prop) (w' : World), Ext U7 w' → (∀ k, k < U7.heap.size → Q k) → CondT Q w' (.agg #[.string ⟨c.id.toArray⟩, .int .i64 c.k1, .int .i64 c.k2, .int .i64 c.k3, .int .i64 c.k4, .int .i64 c.k5, .int .i64 c.hyp.op, .int .i64 c.hyp.wd, .int .i64 c.hyp.n, .slice ca1 ca2 ca3, .int .i64 c.goal.op, .int .i64 c.goal.wd, .int .i64 c.goal.n, .slice ca4 ca5 ca6]) c) := fun Q w' h hQ => by
    obtain ⟨e1, e2⟩ := condV_parts Hc.out
    exact ⟨ca1, ca2, ca3, ca4, ca5, ca6, rfl, (e1.t.keep fun k _ hk => h.block k hk).mono hQ, (e2.t.keep fun k _ hk => h.block k hk).mono hQ⟩
  have HBa : Hid (U7.heap[ba]? = some (.cells #[.int .i64 a.op, .int .i64 a.wd, .int .i64 a.n, .slice a1 a2 a3] 25 (0, 0))) := HVa.out
  have HBb : Hid (U7.heap[bb]? = some (.cells #[.int .i64 b.op, .int .i64 b.wd, .int .i64 b.n, .slice b1 b2 b3] 25 (0, 0))) := HVb.out
  have K2 : Hid (∀ w', Ext U7 w' → (StS bd bc ba bb d c a b da1 da2 da3 da4 da5 da6 ca1 ca2 ca3 ca4 ca5 ca6 a1 a2 a3 b1 b2 b3) w') := fun w' h => ⟨h.cell (by rw [Lib.cell_of_heap HVd.out]; rfl), h.cell (by rw [Lib.cell_of_heap HVd.out]; rfl), h.cell (by rw [Lib.cell_of_heap HVd.out]; rfl), h.cell (by rw [Lib.cell_of_heap HVd.out]; rfl), h.cell (by rw [Lib.cell_of_heap HVd.out]; rfl), h.cell (by rw [Lib.cell_of_heap HVd.out]; rfl), h.cell (by rw [Lib.cell_of_heap HVd.out]; rfl), h.cell (by rw [Lib.cell_of_heap HVd.out]; rfl), h.cell (by rw [Lib.cell_of_heap HVd.out]; rfl), h.cell (by rw [Lib.cell_of_heap HVd.out]; rfl), h.cell (by rw [Lib.cell_of_heap HVd.out]; rfl), h.cell (by rw [Lib.cell_of_heap HVd.out]; rfl), h.cell (by rw [Lib.cell_of_heap HVd.out]; rfl), h.cell (by rw [Lib.cell_of_heap HVd.out]; rfl), h.cell (by rw [Lib.cell_of_heap HVc.out]; rfl), h.cell (by rw [Lib.cell_of_heap HVc.out]; rfl), h.cell (by rw [Lib.cell_of_heap HVc.out]; rfl), h.cell (by rw [Lib.cell_of_heap HVc.out]; rfl), h.cell (by rw [Lib.cell_of_heap HVc.out]; rfl), h.cell (by rw [Lib.cell_of_heap HVc.out]; rfl), h.cell (by rw [Lib.cell_of_heap HVc.out]; rfl), h.cell (by rw [Lib.cell_of_heap HVc.out]; rfl), h.cell (by rw [Lib.cell_of_heap HVc.out]; rfl), h.cell (by rw [Lib.cell_of_heap HVc.out]; rfl), h.cell (by rw [Lib.cell_of_heap HVc.out]; rfl), h.cell (by rw [Lib.cell_of_heap HVc.out]; rfl), h.cell (by rw [Lib.cell_of_heap HVc.out]; rfl), h.cell (by rw [Lib.cell_of_heap HVc.out]; rfl), h.cell (by rw [Lib.cell_of_heap HBa.out]; rfl), h.cell (by rw [Lib.cell_of_heap HBa.out]; rfl), h.cell (by rw [Lib.cell_of_heap HBa.out]; rfl), h.cell (by rw [Lib.cell_of_heap HBa.out]; rfl), h.cell (by rw [Lib.cell_of_heap HBb.out]; rfl), h.cell (by rw [Lib.cell_of_heap HBb.out]; rfl), h.cell (by rw [Lib.cell_of_heap HBb.out]; rfl), h.cell (by rw [Lib.cell_of_heap HBb.out]; rfl)⟩
  rename_i l0 l1 l2 l3 ta1 Q1 h50 h51 hHeld K1 hK1
  revert cells c a b s t w ca1 ca2 ca3 ca4 ca5 ca6 l0 l1 a1 a3 l2 a2 b1 b3 l3 b2 ka kc hkl s1 s3 hsL ta1 t3 htL W Q1 bb ba bc wk1 wk2 HS wk3 wk4 t1 t2 d HDE h50 h51 wk5 da1 da2 da3 da4 da5 da6 Wk5 bd wk6 HWF HOP V1 V2 bx X Y Z HGS y1 y2 y3 y4 y5 y6 ea1 ea2 ea3 ea4 ea5 ea6 y7 U7 hHeld HX HC HM HVc Hc HVa Ha HVb Hb Hs Ht Hd HVd K1 hK1 g m z HGE HME HZE HGD HGM HTd HTc HBa HBb K2
  exact hStill.out⟩
end Go.Proofs.YtlcgbdjmlnjhcaaGreatDoor
