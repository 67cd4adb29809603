/-
  The walk of the law CertificateDigest. (Printed by gen_law27d.py.)
-/
import Derived.Test.YtoopoljchhdobaaGreatDoorMMq
import Derived.Test.YtoopoljchhdobaaGreatDoorMMv
namespace Go.Proofs.YtoopoljchhdobaaGreatDoor
open Go.RowKit

theorem top_len {e : E} (h : (e.size : Int) ≤ 100) : e.textTop.length ≤ 1000000 := by
  by_cases hw : e.wf = true
  · have := text_len e 40 (wf_deep hw)
    rw [E.textTop, if_pos hw]; omega
  · rw [E.textTop, if_neg hw]; simp
theorem smallE_parts {c : CondS} (h : smallE c 100 = true) : (c.hyp.size : Int) ≤ 100 ∧ (c.goal.size : Int) ≤ 100 ∧ c.id.length ≤ 200 := by
  unfold smallE at h
  simp only [Bool.and_eq_true, decide_eq_true_eq] at h
  exact ⟨h.1, h.2.1, h.2.2⟩
theorem etext_ne (e : E) : e.text ≠ [] := by
  obtain ⟨op, wd, n, ks⟩ := e
  unfold E.text
  split <;> simp
theorem top_nil {e : E} (h : ¬ e.wf = true) : e.textTop = [] := by rw [E.textTop, if_neg h]
theorem top_ne {e : E} (h : e.wf = true) : e.textTop ≠ [] := by rw [E.textTop, if_pos h]; exact etext_ne e
theorem read_nil : readTop ⟨([] : List UInt8).toArray⟩ = none := by
  cases h : readTop ⟨([] : List UInt8).toArray⟩ with
  | none => rfl
  | some e =>
    obtain ⟨h1, h2⟩ := textTop_read _ h
    exact absurd h2.symm (top_ne h1)
/-- What reading the text of an expression gives. -/
def rdE (e : E) : E := if e.wf = true then e else .mk 0 0 0 []
def rdN (e : E) : Int := if e.wf = true then 0 else 130
theorem read_text27 (e : E) (w : World) (hl : e.textTop.length ≤ 1000000) (hM : Masks w) (hN : Names w) :
    Calls Tryz.prog 7 #[.string ⟨e.textTop.toArray⟩] w fun r w' => ∃ a l c, r = .returned (.tuple #[.agg #[.int .i64 (rdE e).op, .int .i64 (rdE e).wd, .int .i64 (rdE e).n, .slice a l c], .int .i64 (rdN e)]) ∧ KidsS (fun b => w.heap.size < b) w' (.slice a l c) (rdE e).kids ∧ Ext w w' := by
  refine (Read_own ⟨e.textTop.toArray⟩ w (by show e.textTop.toArray.size ≤ _; simpa using hl) hM hN).mono ?_
  rintro r w' ⟨v, hr, hv, hx⟩
  have key : readTop ⟨e.textTop.toArray⟩ = if e.wf = true then some e else none := by
    by_cases h : e.wf = true
    · rw [if_pos h]; exact readTop_text h _ (by simp)
    · rw [if_neg h, top_nil h]; exact read_nil
  have hE : (readTop ⟨e.textTop.toArray⟩).getD (.mk 0 0 0 []) = rdE e := by rw [key]; unfold rdE; split <;> rfl
  have hN : (if (readTop ⟨e.textTop.toArray⟩).isSome then 0 else 130 : Int) = rdN e := by
    rw [key]; unfold rdN
    by_cases h : e.wf = true
    · rw [if_pos h, if_pos h]; rfl
    · rw [if_neg h, if_neg h]; rfl
  rw [hE] at hv
  rw [hN] at hr
  obtain ⟨k, rfl, hk⟩ := hv
  obtain ⟨a, l, c, rfl⟩ := hk.shape
  exact ⟨a, _, c, hr, hk, hx⟩
theorem dig_self {a b : E} (h : digE a b ≠ []) : digB (digE a b) = true := by
  unfold digE at h ⊢
  split
  · rename_i hq; rw [if_pos hq] at h; exact absurd rfl h
  · exact digestS_ok _
theorem dig_wf {a b : E} (h1 : a.wf = true) (h2 : b.wf = true) : digE a b ≠ [] := by
  unfold digE
  rw [if_neg (fun h => h.elim (top_ne h1) (top_ne h2))]
  intro h
  have := digestS_ok (a.textTop ++ 10 :: b.textTop)
  rw [h] at this; cases this
theorem dig_not {a b : E} (h : ¬ (a.wf = true ∧ b.wf = true)) : digE a b = [] := by
  unfold digE
  rw [if_pos]
  by_cases h1 : a.wf = true
  · exact .inr (top_nil fun h2 => h ⟨h1, h2⟩)
  · exact .inl (top_nil h1)
/-- Another condition's formulas. -/
def condF (g : CondS) (a b : E) : CondS := { g with hyp := a, goal := b }
def put8 (w : World) (b : Nat) (x0 x1 x2 x3 y0 y1 y2 y3 : Value) : World := (((((((w.setCell ⟨b, 6, none⟩ x0).setCell ⟨b, 7, none⟩ x1).setCell ⟨b, 8, none⟩ x2).setCell ⟨b, 9, none⟩ x3).setCell ⟨b, 10, none⟩ y0).setCell ⟨b, 11, none⟩ y1).setCell ⟨b, 12, none⟩ y2).setCell ⟨b, 13, none⟩ y3
theorem set8 (v0 v1 v2 v3 v4 v5 v6 v7 v8 v9 v10 v11 v12 v13 x0 x1 x2 x3 y0 y1 y2 y3 : Value) : ((((((((#[v0, v1, v2, v3, v4, v5, v6, v7, v8, v9, v10, v11, v12, v13] : Array Value).setIfInBounds 6 x0).setIfInBounds 7 x1).setIfInBounds 8 x2).setIfInBounds 9 x3).setIfInBounds 10 y0).setIfInBounds 11 y1).setIfInBounds 12 y2).setIfInBounds 13 y3 = #[v0, v1, v2, v3, v4, v5, x0, x1, x2, x3, y0, y1, y2, y3] := by simp
theorem put8_at {w : World} {b : Nat} {g : CondS} {ha : Option Addr} {hl hc : Nat} {ga : Option Addr} {gl gc : Nat} (h : CondAt w b g ha hl hc ga gl gc) (x y : E) (xa : Option Addr) (xl xc : Nat) (ya : Option Addr) (yl yc : Nat) :
    CondAt (put8 w b (.int .i64 x.op) (.int .i64 x.wd) (.int .i64 x.n) (.slice xa xl xc) (.int .i64 y.op) (.int .i64 y.wd) (.int .i64 y.n) (.slice ya yl yc)) b (condF g x y) xa xl xc ya yl yc := by
  unfold CondAt condCells at h
  have h1 := setCell_block (o := 13) (v := .slice ya yl yc) (setCell_block (o := 12) (v := .int .i64 y.n) (setCell_block (o := 11) (v := .int .i64 y.wd) (setCell_block (o := 10) (v := .int .i64 y.op) (setCell_block (o := 9) (v := .slice xa xl xc) (setCell_block (o := 8) (v := .int .i64 x.n) (setCell_block (o := 7) (v := .int .i64 x.wd) (setCell_block (o := 6) (v := .int .i64 x.op) h)))))))
  rw [set8] at h1
  unfold CondAt condCells put8 condF
  exact h1
theorem put8_heap {w : World} {b : Nat} {x0 x1 x2 x3 y0 y1 y2 y3 : Value} (k : Nat) (h : k ≠ b) : (put8 w b x0 x1 x2 x3 y0 y1 y2 y3).heap[k]? = w.heap[k]? := by
  unfold put8
  rw [Below.heap_setCell _ _ _ _ h, Below.heap_setCell _ _ _ _ h, Below.heap_setCell _ _ _ _ h, Below.heap_setCell _ _ _ _ h, Below.heap_setCell _ _ _ _ h, Below.heap_setCell _ _ _ _ h, Below.heap_setCell _ _ _ _ h, Below.heap_setCell _ _ _ _ h]
theorem CondAt.drew {w : World} {b : Nat} {g : CondS} {ha : Option Addr} {hl hc : Nat} {ga : Option Addr} {gl gc : Nat} (h : CondAt w b g ha hl hc ga gl gc) : CondAt w.drew b g ha hl hc ga gl gc := h
theorem CondAt.other {w : World} {b k : Nat} {g : CondS} {ha : Option Addr} {hl hc : Nat} {ga : Option Addr} {gl gc : Nat} (h : CondAt w k g ha hl hc ga gl gc) (x0 x1 x2 x3 y0 y1 y2 y3 : Value) (hk : k ≠ b) : CondAt (put8 w b x0 x1 x2 x3 y0 y1 y2 y3) k g ha hl hc ga gl gc := (put8_heap k hk).trans h
theorem block_lt4 {w : World} {b : Nat} {o : Obj} (h : w.heap[b]? = some o) : b < w.heap.size := (Array.getElem?_eq_some_iff.1 h).1
theorem block_lt' {w : World} {b : Nat} {g : CondS} {ha : Option Addr} {hl hc : Nat} {ga : Option Addr} {gl gc : Nat} (h : CondAt w b g ha hl hc ga gl gc) : b < w.heap.size := (Array.getElem?_eq_some_iff.1 h).1
theorem put8_size {w : World} {b : Nat} {x0 x1 x2 x3 y0 y1 y2 y3 : Value} : (put8 w b x0 x1 x2 x3 y0 y1 y2 y3).heap.size = w.heap.size := by simp [put8, World.setCell]
theorem put8_ext {a w : World} {b : Nat} {x0 x1 x2 x3 y0 y1 y2 y3 : Value} (h : Ext a w) (hb : a.heap.size ≤ b) : Ext a (put8 w b x0 x1 x2 x3 y0 y1 y2 y3) :=
  (((((((h.setCell (p := ⟨b, 6, none⟩) hb x0).setCell (p := ⟨b, 7, none⟩) hb x1).setCell (p := ⟨b, 8, none⟩) hb x2).setCell (p := ⟨b, 9, none⟩) hb x3).setCell (p := ⟨b, 10, none⟩) hb y0).setCell (p := ⟨b, 11, none⟩) hb y1).setCell (p := ⟨b, 12, none⟩) hb y2).setCell (p := ⟨b, 13, none⟩) hb y3
theorem asIn_put8 {S : Nat → Prop} {w : World} {b : Nat} {x0 x1 x2 x3 y0 y1 y2 y3 : Value} (hR : ¬ S b) : AsIn S w (put8 w b x0 x1 x2 x3 y0 y1 y2 y3) := ⟨by rw [put8_size]; exact Nat.le_refl _, fun k hs _ => put8_heap k (fun e => hR (e ▸ hs))⟩

set_option maxRecDepth 100000 in
set_option maxHeartbeats 8000000 in
theorem CertificateDigest_any (c g : CondS) (vc vg : Value) (w : World) (hc : CondV w vc c) (hg : CondV w vg g) (hL : LTab w) :
    Calls Tryz.prog 3 #[vc, vg] w fun r w' => r = .returned (.bool true) ∧ Ext w w' := by
  obtain ⟨ha, hl, hcc, ga, gl, gc, rfl, he1, he2⟩ := hc
  obtain ⟨ja, jl, jc, ka, kl, kc, rfl, he3, he4⟩ := hg
  obtain ⟨W, hW⟩ : ∃ W, W = (w.alloc (.cells (condCells c ha hl hcc ga gl gc) 26)).alloc (.cells (condCells g ja jl jc ka kl kc) 26) := ⟨_, rfl⟩
  have hX : Ext w W := by rw [hW]; exact ((Ext.refl _).alloc _).alloc _
  have hD : CondAt W w.heap.size c ha hl hcc ga gl gc := by rw [hW]; exact (heap_alloc_old _ _ (by simp)).trans (heap_new _ _)
  have hG : CondAt W (w.heap.size + 1) g ja jl jc ka kl kc := by
    have := heap_new (w.alloc (.cells (condCells c ha hl hcc ga gl gc) 26)) (.cells (condCells g ja jl jc ka kl kc) 26)
    rw [World.size_alloc] at this; rw [hW]; exact this
  have HD := Lib.hid hD; have HG := Lib.hid hG; have HX := Lib.hid hX; have HWE := Lib.hid hW; have HE1 := Lib.hid he1; have HE2 := Lib.hid he2; have HL := Lib.hid hL
  have VCC : Hid (∀ w', Ext w w' → CondV w' (.agg (condCells c ha hl hcc ga gl gc)) c) := fun w' he => ⟨ha, hl, hcc, ga, gl, gc, rfl, he1.ext he, he2.ext he⟩
  have VGG : Hid (∀ w', Ext w w' → CondV w' (.agg (condCells g ja jl jc ka kl kc)) g) := fun w' he => ⟨ja, jl, jc, ka, kl, kc, rfl, he3.ext he, he4.ext he⟩
  clear hD hG hX hW he1 he2 he3 he4 hL
  unfold condCells at HWE
  unfold condCells
  go_enter Tryz.func3, Tryz.ntmps3
  go_upto_region 1 with fail
  rw [← HWE.out]
  clear HWE
  obtain ⟨b, hb⟩ : ∃ b, b = w.heap.size := ⟨_, rfl⟩
  rw [← hb] at HD HG ⊢
  have HB : Hid (w.heap.size ≤ b) := by unfold Hid; omega
  clear hb
  go_wp2_with fail
  refine (headL W (HL.out.ext HX.out)).mono ?_
  rintro r w1 ⟨rfl, x1⟩
  replace HX := Lib.hid (HX.out.trans x1); replace HD := Lib.hid (HD.out.ext x1); replace HG := Lib.hid (HG.out.ext x1)
  clear x1
  obtain ⟨p0, p1, p2, p3, p4, p5, p6, p7, p8, p9, p10, p11, p12, p13⟩ := HD.out.all
  go_wp2_with fail
  refine (small27_any c _ 100 w1 (VCC.out _ HX.out) (by decide) (by decide)).mono ?_
  rintro r w2 ⟨rfl, x1⟩
  replace HX := Lib.hid (HX.out.trans x1); replace HD := Lib.hid (HD.out.ext x1); replace HG := Lib.hid (HG.out.ext x1)
  clear x1 p0 p1 p2 p3 p4 p5 p6 p7 p8 p9 p10 p11 p12 p13
  cases hs : smallE c 100 with
  | false =>
    go_wp2_with fail
    go_ret
    exact ⟨rfl, HX.out⟩
  | true =>
  have HT1 := Lib.hid (top_len (smallE_parts hs).1)
  have HT2 := Lib.hid (top_len (smallE_parts hs).2.1)
  clear hs
  obtain ⟨o0, o1, o2, o3, o4, o5, o6, o7, o8, o9, o10, o11, o12, o13⟩ := HG.out.all
  go_wp2_with fail
  refine (small27_any g _ 100 w2 (VGG.out _ HX.out) (by decide) (by decide)).mono ?_
  rintro r w3 ⟨rfl, x1⟩
  replace HX := Lib.hid (HX.out.trans x1); replace HD := Lib.hid (HD.out.ext x1); replace HG := Lib.hid (HG.out.ext x1)
  clear x1 o0 o1 o2 o3 o4 o5 o6 o7 o8 o9 o10 o11 o12 o13
  cases hs : smallE g 100 with
  | false =>
    go_wp2_with fail
    go_ret
    exact ⟨rfl, HX.out⟩
  | true =>
  clear hs
  obtain ⟨d, hd⟩ : ∃ d, d = digE c.hyp c.goal := ⟨_, rfl⟩
  have HDG := Lib.hid hd
  clear hd
  have HDI : Hid (∀ (e : CondS) (ve : Value) (w' : World), CondV w' ve e → e.hyp = c.hyp → e.goal = c.goal → Ext w w' → Calls Tryz.prog 6 #[ve] w' fun r w2 => r = .returned (.string ⟨d.toArray⟩) ∧ Ext w' w2) := fun e ve w' h1 h2 h3 h4 => by
    have := Digest_any e ve w' h1 (by rw [h2]; exact HT1.out) (by rw [h3]; exact HT2.out) (HL.out.ext h4).c.masks (HL.out.ext h4).c.names (HL.out.ext h4).c.pow (HL.out.ext h4).c.deb
    rw [h2, h3, ← HDG.out] at this
    exact this
  obtain ⟨p0, p1, p2, p3, p4, p5, p6, p7, p8, p9, p10, p11, p12, p13⟩ := HD.out.all
  go_wp2_with fail
  refine (HDI.out c _ w3 (VCC.out _ HX.out) rfl rfl HX.out).mono ?_
  rintro r w4 ⟨rfl, x1⟩
  replace HX := Lib.hid (HX.out.trans x1); replace HD := Lib.hid (HD.out.ext x1); replace HG := Lib.hid (HG.out.ext x1)
  clear x1 p0 p1 p2 p3 p4 p5 p6 p7 p8 p9 p10 p11 p12 p13
  obtain ⟨o0, o1, o2, o3, o4, o5, o6, o7, o8, o9, o10, o11, o12, o13⟩ := HG.out.all
  go_upto_region 6 with fail
  obtain ⟨W5, hW5⟩ : ∃ V, V = w4.alloc (.cells (condCells g ja jl jc ka kl kc) 26) := ⟨_, rfl⟩
  have hW5' : w4.alloc (.cells #[.string ⟨g.id.toArray⟩, .int .i64 g.k1, .int .i64 g.k2, .int .i64 g.k3, .int .i64 g.k4, .int .i64 g.k5, .int .i64 g.hyp.op, .int .i64 g.hyp.wd, .int .i64 g.hyp.n, .slice ja jl jc, .int .i64 g.goal.op, .int .i64 g.goal.wd, .int .i64 g.goal.n, .slice ka kl kc] 26) = W5 := hW5.symm
  rw [hW5']
  have x1 : Ext w4 W5 := by rw [hW5]; exact (Ext.refl _).alloc _
  have HE : Hid (CondAt W5 w4.heap.size g ja jl jc ka kl kc) := by unfold Hid; rw [hW5]; exact heap_new _ _
  have HB2 : Hid (b + 1 < w4.heap.size) := (Array.getElem?_eq_some_iff.1 HG.out).1
  replace HX := Lib.hid (HX.out.trans x1); replace HD := Lib.hid (HD.out.ext x1); replace HG := Lib.hid (HG.out.ext x1)
  clear x1 hW5 hW5' o0 o1 o2 o3 o4 o5 o6 o7 o8 o9 o10 o11 o12 o13
  generalize w4.heap.size = be at *
  have hb2 := HB2.out
  obtain ⟨p0, p1, p2, p3, p4, p5, p6, p7, p8, p9, p10, p11, p12, p13⟩ := HD.out.all
  obtain ⟨o0, o1, o2, o3, o4, o5, o6, o7, o8, o9, o10, o11, o12, o13⟩ := HE.out.all
  have f6 := frozen_of_row W5 be 6 _ _ HE.out; have f7 := frozen_of_row W5 be 7 _ _ HE.out; have f8 := frozen_of_row W5 be 8 _ _ HE.out; have f9 := frozen_of_row W5 be 9 _ _ HE.out
  have f10 := frozen_of_row W5 be 10 _ _ HE.out; have f11 := frozen_of_row W5 be 11 _ _ HE.out; have f12 := frozen_of_row W5 be 12 _ _ HE.out; have f13 := frozen_of_row W5 be 13 _ _ HE.out
  go_region
  obtain ⟨W6, hW6⟩ : ∃ V, V = ((((((((W5.setCell ⟨be, 6, none⟩ (.int .i64 c.hyp.op)).setCell ⟨be, 7, none⟩ (.int .i64 c.hyp.wd)).setCell ⟨be, 8, none⟩ (.int .i64 c.hyp.n)).setCell ⟨be, 9, none⟩ (.slice ha hl hcc)).setCell ⟨be, 10, none⟩ (.int .i64 c.goal.op)).setCell ⟨be, 11, none⟩ (.int .i64 c.goal.wd)).setCell ⟨be, 12, none⟩ (.int .i64 c.goal.n)).setCell ⟨be, 13, none⟩ (.slice ga gl gc)).drew := ⟨_, rfl⟩
  rw [← hW6]
  replace hW6 : W6 = (put8 W5 be (.int .i64 c.hyp.op) (.int .i64 c.hyp.wd) (.int .i64 c.hyp.n) (.slice ha hl hcc) (.int .i64 c.goal.op) (.int .i64 c.goal.wd) (.int .i64 c.goal.n) (.slice ga gl gc)).drew := by unfold put8; exact hW6
  have HBE : Hid (w.heap.size < be) := by have := HB.out; unfold Hid; omega
  replace HX : Hid (Ext w W6) := by unfold Hid; rw [hW6]; exact (put8_ext HX.out (Nat.le_of_lt HBE.out)).drew
  replace HD : Hid (CondAt W6 b c ha hl hcc ga gl gc) := by unfold Hid; rw [hW6]; exact (HD.out.other _ _ _ _ _ _ _ _ (by omega)).drew
  replace HE : Hid (CondAt W6 be (condF g c.hyp c.goal) ha hl hcc ga gl gc) := by unfold Hid; rw [hW6]; exact (put8_at HE.out c.hyp c.goal _ _ _ _ _ _).drew
  clear hW6 HG p0 p1 p2 p3 p4 p5 p6 p7 p8 p9 p10 p11 p12 p13 o0 o1 o2 o3 o4 o5 o6 o7 o8 o9 o10 o11 o12 o13 f6 f7 f8 f9 f10 f11 f12 f13
  obtain ⟨o0, o1, o2, o3, o4, o5, o6, o7, o8, o9, o10, o11, o12, o13⟩ := HE.out.all
  go_wp2_with fail
  refine (HDI.out (condF g c.hyp c.goal) _ W6 ⟨ha, hl, hcc, ga, gl, gc, rfl, HE1.out.ext HX.out, HE2.out.ext HX.out⟩ rfl rfl HX.out).mono ?_
  rintro r w7 ⟨rfl, x1⟩
  replace HX := Lib.hid (HX.out.trans x1); replace HD := Lib.hid (HD.out.ext x1); replace HE := Lib.hid (HE.out.ext x1)
  have HBW : Hid (be < w7.heap.size) := block_lt' HE.out
  clear x1 o0 o1 o2 o3 o4 o5 o6 o7 o8 o9 o10 o11 o12 o13
  obtain ⟨p0, p1, p2, p3, p4, p5, p6, p7, p8, p9, p10, p11, p12, p13⟩ := HD.out.all
  go_wp2_with fail
  refine (Text_any c.hyp _ w7 (HE1.out.ext HX.out) (HL.out.ext HX.out).c.masks (HL.out.ext HX.out).c.names (HL.out.ext HX.out).c.pow).mono ?_
  rintro r w8 ⟨rfl, x1⟩
  replace HX := Lib.hid (HX.out.trans x1); replace HD := Lib.hid (HD.out.ext x1); replace HE := Lib.hid (HE.out.ext x1)
  replace HBW : Hid (be < w8.heap.size) := Nat.lt_of_lt_of_le HBW.out x1.size
  clear x1 p0 p1 p2 p3 p4 p5 p6 p7 p8 p9 p10 p11 p12 p13
  go_wp2_with fail
  refine (read_text27 c.hyp w8 HT1.out (HL.out.ext HX.out).c.masks (HL.out.ext HX.out).c.names).mono ?_
  rintro r w9 ⟨sa, sl, sc, rfl, hk, x1⟩
  replace HX := Lib.hid (HX.out.trans x1); replace HD := Lib.hid (HD.out.ext x1); replace HE := Lib.hid (HE.out.ext x1)
  have HK1 : Hid (KidsS (fun k => be < k) w9 (.slice sa sl sc) (rdE c.hyp).kids) := hk.mono (fun k _ h => Nat.lt_trans HBW.out h)
  replace HBW : Hid (be < w9.heap.size) := Nat.lt_of_lt_of_le HBW.out x1.size
  clear x1 hk
  obtain ⟨E1, hE1⟩ : ∃ x, x = rdE c.hyp := ⟨_, rfl⟩
  obtain ⟨N1, hN1⟩ : ∃ x, x = rdN c.hyp := ⟨_, rfl⟩
  rw [← hE1] at HK1 ⊢
  rw [← hN1]
  have HEE1 := Lib.hid hE1; have HN1 := Lib.hid hN1
  clear hE1 hN1
  go_upto_region 10 with fail
  obtain ⟨WA, hWA⟩ : ∃ V, V = w9.alloc (.cells #[.int .i64 E1.op, .int .i64 E1.wd, .int .i64 E1.n, .slice sa sl sc] 24) := ⟨_, rfl⟩
  rw [← hWA]
  have x1 : Ext w9 WA := by rw [hWA]; exact (Ext.refl _).alloc _
  have HBH : Hid (WA.heap[w9.heap.size]? = some (.cells #[.int .i64 E1.op, .int .i64 E1.wd, .int .i64 E1.n, .slice sa sl sc] 24 (0, 0))) := by unfold Hid; rw [hWA]; exact heap_new _ _
  replace HX := Lib.hid (HX.out.trans x1); replace HD := Lib.hid (HD.out.ext x1); replace HE := Lib.hid (HE.out.ext x1)
  replace HK1 : Hid (KidsS (fun k => be < k) WA (.slice sa sl sc) E1.kids) := HK1.out.keep (asIn_ext x1)
  have HBW2 : Hid (be < WA.heap.size) := Nat.lt_of_lt_of_le HBW.out x1.size
  have HBN : Hid (w9.heap.size ≠ be) := by have := HBW.out; unfold Hid; omega
  clear x1 hWA HBW
  generalize w9.heap.size = bh at *
  obtain ⟨p0, p1, p2, p3, p4, p5, p6, p7, p8, p9, p10, p11, p12, p13⟩ := HD.out.all
  go_wp2_with fail
  refine (Text_any c.goal _ WA (HE2.out.ext HX.out) (HL.out.ext HX.out).c.masks (HL.out.ext HX.out).c.names (HL.out.ext HX.out).c.pow).mono ?_
  rintro r w10 ⟨rfl, x1⟩
  replace HX := Lib.hid (HX.out.trans x1); replace HD := Lib.hid (HD.out.ext x1); replace HE := Lib.hid (HE.out.ext x1)
  replace HBH : Hid (w10.heap[bh]? = _) := (x1.block _ (block_lt4 HBH.out)).trans HBH.out
  replace HK1 : Hid (KidsS (fun k => be < k) w10 (.slice sa sl sc) E1.kids) := HK1.out.keep (asIn_ext x1)
  replace HBW2 : Hid (be < w10.heap.size) := Nat.lt_of_lt_of_le HBW2.out x1.size
  clear x1 p0 p1 p2 p3 p4 p5 p6 p7 p8 p9 p10 p11 p12 p13
  go_wp2_with fail
  refine (read_text27 c.goal w10 HT2.out (HL.out.ext HX.out).c.masks (HL.out.ext HX.out).c.names).mono ?_
  rintro r w11 ⟨ta, tl, tc, rfl, hk, x1⟩
  replace HX := Lib.hid (HX.out.trans x1); replace HD := Lib.hid (HD.out.ext x1); replace HE := Lib.hid (HE.out.ext x1)
  replace HBH : Hid (w11.heap[bh]? = _) := (x1.block _ (block_lt4 HBH.out)).trans HBH.out
  replace HK1 : Hid (KidsS (fun k => be < k) w11 (.slice sa sl sc) E1.kids) := HK1.out.keep (asIn_ext x1)
  have HK2 : Hid (KidsS (fun k => be < k) w11 (.slice ta tl tc) (rdE c.goal).kids) := hk.mono (fun k _ h => Nat.lt_trans HBW2.out h)
  replace HBW2 : Hid (be < w11.heap.size) := Nat.lt_of_lt_of_le HBW2.out x1.size
  clear x1 hk
  obtain ⟨E2, hE2⟩ : ∃ x, x = rdE c.goal := ⟨_, rfl⟩
  obtain ⟨N2, hN2⟩ : ∃ x, x = rdN c.goal := ⟨_, rfl⟩
  rw [← hE2] at HK2 ⊢
  rw [← hN2]
  have HEE2 := Lib.hid hE2; have HN2 := Lib.hid hN2
  clear hE2 hN2
  go_upto_region 11 with fail
  obtain ⟨WB, hWB⟩ : ∃ V, V = w11.alloc (.cells #[.int .i64 E2.op, .int .i64 E2.wd, .int .i64 E2.n, .slice ta tl tc] 24) := ⟨_, rfl⟩
  rw [← hWB]
  have x1 : Ext w11 WB := by rw [hWB]; exact (Ext.refl _).alloc _
  have HBK : Hid (WB.heap[w11.heap.size]? = some (.cells #[.int .i64 E2.op, .int .i64 E2.wd, .int .i64 E2.n, .slice ta tl tc] 24 (0, 0))) := by unfold Hid; rw [hWB]; exact heap_new _ _
  replace HX := Lib.hid (HX.out.trans x1); replace HD := Lib.hid (HD.out.ext x1); replace HE := Lib.hid (HE.out.ext x1)
  replace HBH : Hid (WB.heap[bh]? = _) := (x1.block _ (block_lt4 HBH.out)).trans HBH.out
  replace HK1 : Hid (KidsS (fun k => be < k) WB (.slice sa sl sc) E1.kids) := HK1.out.keep (asIn_ext x1)
  replace HK2 : Hid (KidsS (fun k => be < k) WB (.slice ta tl tc) E2.kids) := HK2.out.keep (asIn_ext x1)
  have HBN2 : Hid (w11.heap.size ≠ be) := by have := HBW2.out; unfold Hid; omega
  clear x1 hWB HBW2
  generalize w11.heap.size = bk at *
  by_cases hw : c.hyp.wf = true ∧ c.goal.wf = true
  case neg =>
    obtain rfl : d = [] := HDG.out.trans (dig_not hw)
    have hn1 : N1 = 0 ∨ N1 = 130 := by rw [HN1.out]; unfold rdN; split <;> simp
    have hn2 : N2 = 0 ∨ N2 = 130 := by rw [HN2.out]; unfold rdN; split <;> simp
    have hn3 : ¬ (N1 = 0 ∧ N2 = 0) := by
      rintro ⟨h1, h2⟩
      apply hw
      rw [HN1.out] at h1; rw [HN2.out] at h2
      unfold rdN at h1 h2
      constructor
      · apply Decidable.byContradiction; intro h; rw [if_neg h] at h1; cases h1
      · apply Decidable.byContradiction; intro h; rw [if_neg h] at h2; cases h2
    clear hw
    rcases hn1 with rfl | rfl
    · rcases hn2 with rfl | rfl
      · exact absurd ⟨rfl, rfl⟩ hn3
      · clear hn3
        go_wp2_with fail
        go_ret
        exact ⟨rfl, HX.out⟩
    · clear hn3 hn2
      go_wp2_with fail
      go_ret
      exact ⟨rfl, HX.out⟩
  obtain rfl : N1 = 0 := by rw [HN1.out]; unfold rdN; rw [if_pos hw.1]
  obtain rfl : N2 = 0 := by rw [HN2.out]; unfold rdN; rw [if_pos hw.2]
  obtain rfl : E1 = c.hyp := by rw [HEE1.out]; unfold rdE; rw [if_pos hw.1]
  obtain rfl : E2 = c.goal := by rw [HEE2.out]; unfold rdE; rw [if_pos hw.2]
  have HB1 : Hid (digB d = true) := by unfold Hid; rw [HDG.out]; exact dig_self (dig_wf hw.1 hw.2)
  clear hw HEE1 HEE2 HN1 HN2
  go_upto_region 13 with fail
  have hb1 := HBN.out; have hb2 := HBN2.out
  obtain ⟨c0, c1, c2, c3, _, _, _, _⟩ := cells_of_block HBH.out
  obtain ⟨d0, d1, d2, d3, _, _, _, _⟩ := cells_of_block HBK.out
  obtain ⟨o0, o1, o2, o3, o4, o5, o6, o7, o8, o9, o10, o11, o12, o13⟩ := HE.out.all
  have f6 := frozen_of_row WB be 6 _ _ HE.out; have f7 := frozen_of_row WB be 7 _ _ HE.out; have f8 := frozen_of_row WB be 8 _ _ HE.out; have f9 := frozen_of_row WB be 9 _ _ HE.out
  have f10 := frozen_of_row WB be 10 _ _ HE.out; have f11 := frozen_of_row WB be 11 _ _ HE.out; have f12 := frozen_of_row WB be 12 _ _ HE.out; have f13 := frozen_of_row WB be 13 _ _ HE.out
  go_region
  obtain ⟨WZ, hWZ⟩ : ∃ V, V = ((((((((WB.setCell ⟨be, 6, none⟩ (.int .i64 c.hyp.op)).setCell ⟨be, 7, none⟩ (.int .i64 c.hyp.wd)).setCell ⟨be, 8, none⟩ (.int .i64 c.hyp.n)).setCell ⟨be, 9, none⟩ (.slice sa sl sc)).setCell ⟨be, 10, none⟩ (.int .i64 c.goal.op)).setCell ⟨be, 11, none⟩ (.int .i64 c.goal.wd)).setCell ⟨be, 12, none⟩ (.int .i64 c.goal.n)).setCell ⟨be, 13, none⟩ (.slice ta tl tc)).drew := ⟨_, rfl⟩
  rw [← hWZ]
  replace hWZ : WZ = (put8 WB be (.int .i64 c.hyp.op) (.int .i64 c.hyp.wd) (.int .i64 c.hyp.n) (.slice sa sl sc) (.int .i64 c.goal.op) (.int .i64 c.goal.wd) (.int .i64 c.goal.n) (.slice ta tl tc)).drew := by unfold put8; exact hWZ
  have HV1 : Hid (EVal WZ (.agg #[.int .i64 c.hyp.op, .int .i64 c.hyp.wd, .int .i64 c.hyp.n, .slice sa sl sc]) c.hyp) := by
    unfold Hid; rw [hWZ]; exact ⟨_, rfl, ((HK1.out.keep (asIn_put8 (Nat.lt_irrefl _))).keep (asIn_ext (Ext.refl _).drew)).kids⟩
  have HV2 : Hid (EVal WZ (.agg #[.int .i64 c.goal.op, .int .i64 c.goal.wd, .int .i64 c.goal.n, .slice ta tl tc]) c.goal) := by
    unfold Hid; rw [hWZ]; exact ⟨_, rfl, ((HK2.out.keep (asIn_put8 (Nat.lt_irrefl _))).keep (asIn_ext (Ext.refl _).drew)).kids⟩
  replace HX : Hid (Ext w WZ) := by unfold Hid; rw [hWZ]; exact (put8_ext HX.out (Nat.le_of_lt HBE.out)).drew
  replace HE : Hid (CondAt WZ be (condF (condF g c.hyp c.goal) c.hyp c.goal) sa sl sc ta tl tc) := by unfold Hid; rw [hWZ]; exact (put8_at HE.out c.hyp c.goal _ _ _ _ _ _).drew
  clear hWZ o0 o1 o2 o3 o4 o5 o6 o7 o8 o9 o10 o11 o12 o13 f6 f7 f8 f9 f10 f11 f12 f13 c0 c1 c2 c3 d0 d1 d2 d3 HBH HBK HD HK1 HK2
  obtain ⟨o0, o1, o2, o3, o4, o5, o6, o7, o8, o9, o10, o11, o12, o13⟩ := HE.out.all
  have hdl : d.length ≤ 1000000000 := by have := HB1.out; unfold digB at this; simp at this; omega
  go_wp2_with fail
  refine (RIsDigest_any d _ hdl).mono ?_
  rintro r w12 ⟨rfl, rfl⟩
  rw [HB1.out]
  go_wp2_with fail
  refine (HDI.out (condF (condF g c.hyp c.goal) c.hyp c.goal) _ w12 ⟨sa, sl, sc, ta, tl, tc, rfl, HV1.out, HV2.out⟩ rfl rfl HX.out).mono ?_
  rintro r w13 ⟨rfl, x1⟩
  replace HX := Lib.hid (HX.out.trans x1)
  clear x1
  go_wp2_with fail
  all_goals (go_ret; exact ⟨rfl, HX.out⟩)
theorem CertificateDigest_card (c g : CondS) (vc vg : Value) (w : World) (hc : CondV w vc c) (hg : CondV w vg g) (hT : LTab w) :
    Calls Tryz.prog 3 #[vc, vg] w fun r w' => r = .returned (.bool true) ∧ Ext w w' := CertificateDigest_any c g vc vg w hc hg hT

end Go.Proofs.YtoopoljchhdobaaGreatDoor
