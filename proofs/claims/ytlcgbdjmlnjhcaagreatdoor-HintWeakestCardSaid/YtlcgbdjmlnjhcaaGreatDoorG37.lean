/-
  The walk of hint.Weakest.
-/
import Derived.Test.YtlcgbdjmlnjhcaaGreatDoorG36
import Derived.Test.YtlcgbdjmlnjhcaaGreatDoorG18
import Derived.Test.YtlcgbdjmlnjhcaaGreatDoorG17
import Derived.Test.YtlcgbdjmlnjhcaaGreatDoorG10
import Derived.Test.YtlcgbdjmlnjhcaaGreatDoorG26
namespace Go.Proofs.YtlcgbdjmlnjhcaaGreatDoor
open Go.RowKit Go.Shelf
attribute [local go_sem] Oper.semAt_some

/-- A good state before, by its number. -/
def goodV (cells : List CellD) (h g : E) (b : Nat) (n : Nat) : Bool := !((List.range (2 ^ b)).any fun m => violS (stepB cells h g) h g (stN (cP cells h g) (wOf cells (cP cells h g)) n) (stN (cQ cells h g) (wOf cells (cQ cells h g)) m))
theorem pw_nat {s : Int} {b : Nat} (h : s = (b : Int)) : (pw s).toNat = 2 ^ b := by
  subst h
  unfold pw
  have : (2 : Int) ^ (b : Int).toNat = ((2 ^ b : Nat) : Int) := by push_cast; rfl
  rw [this, Int.toNat_natCast]
theorem goodL_eq {cells : List CellD} {h g : E} {bp bq : Nat} (hp : sumI (wOf cells (cP cells h g)) = (bp : Int)) (hq : sumI (wOf cells (cQ cells h g)) = (bq : Int)) : goodL cells h g = (List.range (2 ^ bp)).filter (goodV cells h g bq) := by
  unfold goodL
  rw [pw_nat hp]
  congr 1
  funext n
  unfold goodB goodV
  rw [pw_nat hq, List.not_any_eq_all_not]
  first | rfl | (congr 1; funext m; unfold violN violS; cases stepB cells h g <;> rfl)
theorem infoInt2 : (Tryz.prog.info? 3).map (fun i => (i.zero, i.size, i.bytes)) = some (some (.int .i64 0), 1, 8) := by kernel_rfl
/-- Formed, by value. -/
def condF (cells : List CellD) (e : E) : Bool := (e.wd == 1) && e.valid cells true
theorem condF_form {cells : List CellD} {e : E} (h : condF cells e = true) : formC cells e := by
  unfold condF at h
  simp only [Bool.and_eq_true, beq_iff_eq] at h
  exact ⟨h.2, h.1⟩
/-- What Weakest answers. -/
def weakR (cells : List CellD) (h g : E) : E × Int :=
  if condF cells h && condF cells g then (if (weak0 cells h g).op = 0 then (.mk 0 0 0 [], 2) else (weakE cells h g, 0)) else (.mk 0 0 0 [], 60)
/-- The set in a variable: block q, its row of elements from q + 2 on; the iterator's side in block q + 1. -/
structure WkI (w0 : World) (q : Nat) (a b : Value) (sd : Array Value) (L : List Int) (W : World) : Prop where
  var : ∃ ra rc, W.heap[q]? = some (.cells #[a, b, .slice ra L.length rc] 60 (0, 0)) ∧ OwnInts W (q + 2) (.slice ra L.length rc) L
  box : W.heap[q + 1]? = some (.cells sd 66 (0, 0))
  ext : Ext w0 W
theorem WkI.later {w0 W W' : World} {q : Nat} {a b : Value} {sd : Array Value} {L : List Int} (h : WkI w0 q a b sd L W) (hx : Ext W W') : WkI w0 q a b sd L W' := by
  obtain ⟨ra, rc, h1, h2⟩ := h.var
  exact ⟨⟨ra, rc, (hx.block _ (lt_heap h1)).trans h1, h2.kept hx⟩, (hx.block _ (lt_heap h.box)).trans h.box, h.ext.trans hx⟩
theorem WkI.own {β : Type} {w0 : World} {q B : Nat} (hB : w0.heap.size ≤ B) {a b : Value} {sd : Array Value} (f : β → List Int) : OwnFrom B (fun s W => WkI w0 q a b sd (f s) W) := fun s A A' row h hg hr => by
  obtain ⟨ra, rc, h1, h2⟩ := h.var
  refine ⟨⟨ra, rc, (grown_oth hg (fun r e => (hr r e).2) _ _ h1 rfl).trans h1, h2.keep fun k e => ?_⟩, (grown_oth hg (fun r e => (hr r e).2) _ _ h.box rfl).trans h.box, h.ext.grown hg fun k e => by have := (hr k e).1; omega⟩
  obtain ⟨cs, hc⟩ := h2.typedB k e
  exact grown_oth hg (fun r e => (hr r e).2) _ _ hc rfl
theorem WkI.step {w0 W W5 : World} {q : Nat} {a b : Value} {sd : Array Value} {L : List Int} (h : WkI w0 q a b sd L W) (hq : w0.heap.size ≤ q) {ra : Option Addr} {rc : Nat} (hv : W.heap[q]? = some (.cells #[a, b, .slice ra L.length rc] 60 (0, 0))) (ho : OwnInts W (q + 2) (.slice ra L.length rc) L) {g cap : Nat} {x : Int}
    (hg : W.grownBy W5 (Value.slice ra L.length rc).ownBlock) (ho5 : OwnInts W5 (q + 2) (.slice (some ⟨g, 0, none⟩) (L.length + 1) cap) (L ++ [x])) :
    WkI w0 q a b sd (L ++ [x]) (W5.setCell ⟨q, 2, none⟩ (.slice (some ⟨g, 0, none⟩) (L.length + 1) cap)) := by
  have h5 := (hg.block q (lt_heap hv) fun e => by have := ho.base q e.symm; omega).trans hv
  have e1 : (L ++ [x]).length = L.length + 1 := by simp
  refine ⟨⟨some ⟨g, 0, none⟩, cap, ?_, ?_⟩, ?_, ?_⟩
  · rw [e1]; exact heap_setCell_same W5 q 2 _ _ _ h5
  · rw [e1]; exact ho5.keep fun k e => heap_setCell_other _ _ _ _ (by have := ho5.base k e; show k ≠ q; omega)
  · exact (heap_setCell_other _ _ _ _ (by show q + 1 ≠ q; omega)).trans ((hg.block _ (lt_heap h.box) fun e => by have := ho.base _ e.symm; omega).trans h.box)
  · exact (h.ext.grown hg fun k e => by have := ho.base k e; omega).setCell (p := ⟨q, 2, none⟩) hq _

theorem sums_pos {cells : List CellD} {h g : E} (hh : formC cells h) (hg : formC cells g) : 0 ≤ sumI (wOf cells (hOld cells h g)) ∧ 0 ≤ sumI (wOf cells (hNow cells h g)) := by
  have key : ∀ l : List Int, (∀ c ∈ l, 1 ≤ wAt cells c) → 0 ≤ sumI (wOf cells l) := fun l hl => by
    induction l with
    | nil => exact Int.le_refl _
    | cons a r ih =>
      rw [show wOf cells (a :: r) = wAt cells a :: wOf cells r from rfl, sumI_cons]
      have h1 := ih fun c hc => hl c (by simp [hc])
      have h2 := hl a (by simp)
      omega
  exact ⟨key _ fun c hc => (old_w hh hg hc).2.2.2.1, key _ fun c hc => (now_w hh hg hc).2.2.2.1⟩

set_option maxRecDepth 100000 in
set_option maxHeartbeats 8000000 in
theorem Weakest_any (c : CondS) (cells : List CellD) (cv kv : Value) (w : World) (hc : CondV w cv c) (hC : Cells w kv cells) (hM : Masks w) (hsm : condF cells c.hyp = true → condF cells c.goal = true → sumI (wOf cells (hOld cells c.hyp c.goal)) + sumI (wOf cells (hNow cells c.hyp c.goal)) ≤ 12) :
    Calls Tryz.prog 10 #[kv, cv] w fun r w' => (∃ v, r = .returned (.tuple #[v, .int .i64 (weakR cells c.hyp c.goal).2]) ∧ EVal w' v (weakR cells c.hyp c.goal).1) ∧ Ext w w' := by
  have HCV := Lib.hid hc
  obtain ⟨ha, hl, hcp, ga, gl, gc, rfl, e1, e2⟩ := hc
  obtain ⟨ka, kc, rfl⟩ := SliceAt.shape hC
  obtain ⟨W, hW⟩ : ∃ W, Boxes w W (.cells (condCells c ha hl hcp ga gl gc) 27) (.cells #[.int .i64 0, .int .i64 0, .int .i64 0, .slice none 0 0] 25) := ⟨_, Boxes.mk' _ _ _⟩
  have hX := hW.ext
  have hat : CondAt W w.heap.size c ha hl hcp ga gl gc := hW.b0
  have HIN : Hid (CondIn W w.heap.size c) := ⟨ha, hl, hcp, ga, gl, gc, hat, e1.ext hX, e2.ext hX⟩
  have HE1 := Lib.hid (e1.ext hX); have HE2 := Lib.hid (e2.ext hX); have HC := Lib.hid (hC.ext hX); have HM := Lib.hid (hM.ext hX); have HX := Lib.hid hX; have HWE := Lib.hid hW.eq; have HZW := Lib.hid hW.size; have HR := Lib.hid hW.b1
  have HAT := Lib.hid hat; have HSM := Lib.hid hsm
  replace HCV := Lib.hid (HCV.out.ext hX)
  obtain ⟨⟨q0, q1, q2, q3⟩, p0, p1, p2, p3⟩ := And.intro hat.hyp hat.goal
  clear hX hat hW e1 e2 hC hM hsm
  unfold condCells at *
  refine (callsIn_wide (n := 4)).1 ?_
  refine callsIn_of_wp_marks Tryz.func10 rfl trivial ?_ rfl
  simp only [Tryz.ntmps10, List.size_toArray, List.length_cons, List.length_nil, Nat.reduceAdd, Nat.reduceSub, Array.replicate_succ, Array.replicate_zero, List.push_toArray, List.append_toArray, List.nil_append, List.cons_append]
  gi_upto_region 1 with fail
  rw [← HWE.out]; clear HWE
  gi_wp2
  refine ⟨trivial, (callsIn_wide.2 (HFormed_any c.hyp _ _ cells _ HE1.out HC.out HM.out)).mono ?_⟩
  rintro r w1 ⟨rfl, x1⟩
  have HX1 := Lib.hid x1
  have p01 := x1.cell p0; have p11 := x1.cell p1; have p21 := x1.cell p2; have p31 := x1.cell p3
  clear x1 p0 p1 p2 p3 q0 q1 q2 q3
  rw [show ((c.hyp.wd == 1) && c.hyp.valid cells true) = condF cells c.hyp from rfl]
  cases hf1 : condF cells c.hyp with
  | false =>
    have HRR : Hid (weakR cells c.hyp c.goal = (.mk 0 0 0 [], 60)) := by unfold Hid weakR; rw [hf1]; rfl
    clear hf1
    gi_wp2
    refine ⟨trivial, ?_⟩
    have hR := (HX1.out.block _ (by have := HZW.out; omega)).trans HR.out
    obtain ⟨c0, c1, c2, c3, f0, f1, f2, f3⟩ := cells_of_block hR
    have HB := Lib.hid (put4_new (x := .int .i64 0) (y := .int .i64 0) (z := .int .i64 0) (u := .slice none 0 0) hR)
    have HXE : Hid (Ext w (put4 w1 (w.heap.size + 1) 0 (.int .i64 0) (.int .i64 0) (.int .i64 0) (.slice none 0 0))) := Below.trans (HX.out.trans HX1.out) (below_put4 (by omega))
    clear hR
    gi_wp2
    refine ⟨_, results_row_tmp Tryz.results10 _ _ (w.heap.size + 1) 25 _ (0, 0) _ rfl HB.out Tryz.underlying25 rfl sizeExpr, ?_⟩
    rw [HRR.out]
    exact ⟨⟨_, rfl, _, rfl, .inl ⟨⟨_, _, rfl⟩, rfl⟩⟩, HXE.out⟩
  | true =>
  have HF1 := Lib.hid hf1; clear hf1
  gi_wp2
  refine ⟨trivial, (callsIn_wide.2 (HFormed_any c.goal _ _ cells _ (HE2.out.ext HX1.out) (HC.out.ext HX1.out) (HM.out.ext HX1.out))).mono ?_⟩
  rintro r w2 ⟨rfl, x2⟩
  have HX2 := Lib.hid (HX1.out.trans x2)
  clear x2 p01 p11 p21 p31
  rw [show ((c.goal.wd == 1) && c.goal.valid cells true) = condF cells c.goal from rfl]
  cases hf2 : condF cells c.goal with
  | false =>
    have HRR : Hid (weakR cells c.hyp c.goal = (.mk 0 0 0 [], 60)) := by unfold Hid weakR; rw [hf2, Bool.and_false]; rfl
    clear hf2
    have hR := (HX2.out.block _ (by have := HZW.out; omega)).trans HR.out
    obtain ⟨c0, c1, c2, c3, f0, f1, f2, f3⟩ := cells_of_block hR
    have HB := Lib.hid (put4_new (x := .int .i64 0) (y := .int .i64 0) (z := .int .i64 0) (u := .slice none 0 0) hR)
    have HXE : Hid (Ext w (put4 w2 (w.heap.size + 1) 0 (.int .i64 0) (.int .i64 0) (.int .i64 0) (.slice none 0 0))) := Below.trans (HX.out.trans HX2.out) (below_put4 (by omega))
    clear hR
    gi_wp2
    refine ⟨_, results_row_tmp Tryz.results10 _ _ (w.heap.size + 1) 25 _ (0, 0) _ rfl HB.out Tryz.underlying25 rfl sizeExpr, ?_⟩
    rw [HRR.out]
    exact ⟨⟨_, rfl, _, rfl, .inl ⟨⟨_, _, rfl⟩, rfl⟩⟩, HXE.out⟩
  | true =>
  have HF2 := Lib.hid hf2; clear hf2
  have HRW : Hid (weakR cells c.hyp c.goal = if (weak0 cells c.hyp c.goal).op = 0 then (.mk 0 0 0 [], 2) else (weakE cells c.hyp c.goal, 0)) := by unfold Hid weakR; rw [HF1.out, HF2.out]; rfl
  have HFC := Lib.hid (condF_form HF1.out); have HGC := Lib.hid (condF_form HF2.out)
  have HSUM := Lib.hid (HSM.out HF1.out HF2.out)
  obtain ⟨d0, d1, d2, d3, d4, d5, d6, d7, d8, d9, d10, d11, d12, d13⟩ := (HAT.out.ext HX2.out).all
  gi_wp2
  refine ⟨trivial, (callsIn_wide.2 (Sides_any c cells _ _ _ (HCV.out.ext HX2.out) (HC.out.ext HX2.out) (HM.out.ext HX2.out) HFC.out HGC.out)).mono ?_⟩
  rintro r w3 ⟨⟨v1, v2, rfl, ⟨v3, v4, rfl, o3, o4⟩, ⟨v5, v6, rfl, o5, o6⟩⟩, x3⟩
  obtain ⟨a3, b3, rfl⟩ := o3.ints.shape
  obtain ⟨a4, b4, rfl⟩ := o4.ints.shape
  obtain ⟨a5, b5, rfl⟩ := o5.ints.shape
  obtain ⟨a6, b6, rfl⟩ := o6.ints.shape
  have HX3 := Lib.hid (HX2.out.trans x3)
  have hso : 0 ≤ sumI (wOf cells (hOld cells c.hyp c.goal)) ∧ 0 ≤ sumI (wOf cells (hNow cells c.hyp c.goal)) := sums_pos HFC.out HGC.out
  have hsl := HSUM.out
  have hPs : smallB (cP cells c.hyp c.goal) (wOf cells (cP cells c.hyp c.goal)) = true := by
    unfold cP
    split
    · exact small_of (choose_shape HFC.out HGC.out (.inl rfl)) (by omega)
    · exact small_of (choose_shape HFC.out HGC.out (.inr rfl)) (by omega)
  have hQs : smallB (cQ cells c.hyp c.goal) (wOf cells (cQ cells c.hyp c.goal)) = true := by
    unfold cQ
    split
    · exact small_of (choose_shape HFC.out HGC.out (.inr rfl)) (by omega)
    · exact small_of (choose_shape HFC.out HGC.out (.inl rfl)) (by omega)
  have hPQ : sumI (wOf cells (cP cells c.hyp c.goal)) + sumI (wOf cells (cQ cells c.hyp c.goal)) ≤ 12 := by
    unfold cP cQ; split <;> omega
  obtain ⟨bp, hbp⟩ := Int.eq_ofNat_of_zero_le (small_sum hPs).2.2.1
  obtain ⟨bq, hbq⟩ := Int.eq_ofNat_of_zero_le (small_sum hQs).2.2.1
  have HGL := Lib.hid (goodL_eq hbp hbq)
  have HGV : Hid (∀ n, goodV cells c.hyp c.goal bq n = !((List.range (2 ^ bq)).any fun m => violS (stepB cells c.hyp c.goal) c.hyp c.goal (stN (cP cells c.hyp c.goal) (wOf cells (cP cells c.hyp c.goal)) n) (stN (cQ cells c.hyp c.goal) (wOf cells (cQ cells c.hyp c.goal)) m))) := fun n => rfl
  have HW0 : Hid (weak0 cells c.hyp c.goal = exprS (cP cells c.hyp c.goal) (wOf cells (cP cells c.hyp c.goal)) (castL (goodL cells c.hyp c.goal))) := rfl
  have HWF : Hid (weakE cells c.hyp c.goal = if stepB cells c.hyp c.goal = true then (weak0 cells c.hyp c.goal).before else weak0 cells c.hyp c.goal) := by unfold Hid weakE; rfl
  rw [hbp, hbq] at hPQ ⊢
  have h12 : (bp : Int) + (bq : Int) ≤ 12 := hPQ
  have HPs := Lib.hid hPs; have HQs := Lib.hid hQs; have HBP := Lib.hid hbp; have HBQ := Lib.hid hbq
  have O3 := Lib.hid o3; have O4 := Lib.hid o4; have O5 := Lib.hid o5; have O6 := Lib.hid o6
  clear d0 d1 d2 d3 d4 d5 d6 d7 d8 d9 d10 d11 d12 d13 x3 hso hsl hPs hQs hPQ hbp hbq o3 o4 o5 o6
  generalize cP cells c.hyp c.goal = P at *
  generalize cQ cells c.hyp c.goal = Q at *
  generalize wOf cells P = wp at *
  generalize wOf cells Q = wq at *
  generalize stepB cells c.hyp c.goal = step at *
  obtain ⟨W5, hW5⟩ : ∃ W5, Boxes w3 W5 (.cells #[.slice a3 P.length b3, .slice a4 wp.length b4, .int .i64 (bp : Nat), .bool step] 66) (.cells #[.slice a5 Q.length b5, .slice a6 wq.length b6, .int .i64 (bq : Nat), .bool step] 66) := ⟨_, Boxes.mk' _ _ _⟩
  gi_upto_region 4 with fail
  rw [← hW5.eq]
  have x35 := hW5.ext
  have z5 := hW5.size
  obtain ⟨s0, s1, s2, s3⟩ := blocks4 hW5.b0
  obtain ⟨t0, t1, t2, t3⟩ := blocks4 hW5.b1
  have HB6 := Lib.hid hW5.b0; have HB7 := Lib.hid hW5.b1; have X35 := Lib.hid x35; have Z5 := Lib.hid z5
  have g1 : ¬ (12 : Int) < (bp : Int) := by omega
  have g2 : ¬ (14 : Int) < (bp : Int) + (bq : Int) := by omega
  clear hW5 x35 z5
  obtain ⟨FV, hFV⟩ : ∃ FV : Value, FV = .func (.func 36) #[] #[.pointer (some ⟨w3.heap.size + 1, 0, none⟩), .pointer (some ⟨w3.heap.size, 0, none⟩), .pointer (some ⟨w.heap.size, 0, none⟩)] := ⟨_, rfl⟩
  obtain ⟨W7, hW7⟩ : ∃ W7, W7 = W5.alloc (.cells #[FV] 72) := ⟨_, rfl⟩
  obtain ⟨W8, hW8⟩ : ∃ W8, W8 = W7.alloc (.cells #[.slice a3 P.length b3, .slice a4 wp.length b4, .slice none 0 0] 60) := ⟨_, rfl⟩
  have x57 : Ext W5 W7 := by rw [hW7]; exact (Ext.refl _).alloc _
  have x78 : Ext W7 W8 := by rw [hW8]; exact (Ext.refl _).alloc _
  have z7 : W7.heap.size = w3.heap.size + 3 := by rw [hW7, World.size_alloc, Z5.out]
  have z8 : W8.heap.size = w3.heap.size + 4 := by rw [hW8, World.size_alloc, z7]
  have hf7 : W7.heap[w3.heap.size + 2]? = some (.cells #[FV] 72 (0, 0)) := by
    have := heap_new W5 (.cells #[FV] 72)
    rw [Z5.out] at this; rw [hW7]; exact this
  have hs8 : W8.heap[w3.heap.size + 3]? = some (.cells #[.slice a3 P.length b3, .slice a4 wp.length b4, .slice none 0 0] 60 (0, 0)) := by
    have := heap_new W7 (.cells #[.slice a3 P.length b3, .slice a4 wp.length b4, .slice none 0 0] 60)
    rw [z7] at this; rw [hW8]; exact this
  have hX7 := HX3.out.trans (X35.out.trans x57)
  have HS8 := Lib.hid hs8; have HZ8 := Lib.hid z8
  have HF7 := Lib.hid hf7; have HX7 := Lib.hid hX7; have HX78 := Lib.hid x78; have Z7 := Lib.hid z7
  have hp6 := x57.block _ (lt_heap HB6.out)
  have hp7 := x57.block _ (lt_heap HB7.out)
  rw [HB6.out] at hp6; rw [HB7.out] at hp7
  have HS6 := Lib.hid hp6; have HS7 := Lib.hid hp7
  have HO3 := Lib.hid ((O3.out.kept (X35.out.trans x57)).ints); have HO4 := Lib.hid ((O4.out.kept (X35.out.trans x57)).ints); have HO5 := Lib.hid ((O5.out.kept (X35.out.trans x57)).ints); have HO6 := Lib.hid ((O6.out.kept (X35.out.trans x57)).ints)
  have HC3 := Lib.hid O3.out.intsC; have HC4 := Lib.hid O4.out.intsC
  have HX3w := Lib.hid (X35.out.trans x57)
  have HR1 : Hid (W7.heap[w.heap.size + 1]? = some (.cells #[.int .i64 0, .int .i64 0, .int .i64 0, .slice none 0 0] 25 (0, 0))) := (hX7.block _ (by have := HZW.out; omega)).trans HR.out
  have HWM : Hid (w.heap.size + 2 ≤ w3.heap.size) := by have h1 := HX3.out.size; have h2 := HZW.out; unfold Hid; omega
  clear hp6 hp7 hf7
  obtain ⟨s0, s1, s2, s3⟩ := blocks4 HB6.out
  obtain ⟨t0, t1, t2, t3⟩ := blocks4 HB7.out
  have y0 := (x57.trans x78).cell s0; have y1 := (x57.trans x78).cell s1; have y2 := (x57.trans x78).cell s2; have y3 := (x57.trans x78).cell s3
  have hW7' := hW7
  rw [hFV] at hW7'
  have HW8 := Lib.hid hW8; have HFV := Lib.hid hFV; have HZ5 := Lib.hid Z5.out
  clear hW8 hW7 hFV x57 x78 z7 z8 hs8 hX7 y0 y1 y2 y3
  gi_upto_region 7 with fail
  rw [← hW7']
  clear hW7'
  rw [Z5.out]
  obtain ⟨s0, s1, s2, s3⟩ := blocks4 HS6.out
  obtain ⟨t0, t1, t2, t3⟩ := blocks4 HS7.out
  gi_upto_region 8 with fail
  rw [← HW8.out, Z7.out]
  have y0 := HX78.out.cell s0; have y1 := HX78.out.cell s1; have y2 := HX78.out.cell s2; have y3 := HX78.out.cell s3
  clear s0 s1 s2 s3 t0 t1 t2 t3
  gi_wp2
  refine ⟨trivial, (states_in _ _ _ _ _ _).mono ?_⟩
  rintro r V3 ⟨rfl, hV3⟩
  rw [HZ8.out]
  generalize w3.heap.size = m at *
  have x83 : Ext W8 V3 := by rw [hV3]; exact (Ext.refl _).alloc _
  have z3 : V3.heap.size = m + 5 := by rw [hV3, World.size_alloc, HZ8.out]
  have hb4 : V3.heap[m + 3 + 1]? = some (.cells #[.slice a3 P.length b3, .slice a4 wp.length b4, .int .i64 (bp : Nat), .bool step] 66 (0, 0)) := by
    have := heap_new W8 (.cells #[.slice a3 P.length b3, .slice a4 wp.length b4, .int .i64 (bp : Nat), .bool step] 66)
    rw [HZ8.out] at this; rw [hV3]; exact this
  have hI0 : WkI W7 (m + 3) (.slice a3 P.length b3) (.slice a4 wp.length b4) #[.slice a3 P.length b3, .slice a4 wp.length b4, .int .i64 (bp : Nat), .bool step] (castL []) V3 :=
    ⟨⟨none, 0, (x83.block _ (by rw [HZ8.out]; omega)).trans HS8.out, OwnInts.nil _ _⟩, hb4, HX78.out.trans x83⟩
  have HI0 := Lib.hid hI0; have HZ3 := Lib.hid z3
  clear hV3 x83 hb4 hI0 y0 y1 y2 y3
  have hz3 := HZ3.out
  have hz7 := Z7.out
  clear z3
  obtain ⟨i0, hi, hz0, hz1, hz2⟩ := info_parts infoInt2
  gi_wp2
  refine wpIn_range_S rfl (by omega) (gf := 65) (lb := #[.pointer (some ⟨m + 3 + 1, 0, none⟩)]) rfl trivial (enters_of Tryz.func65 (by kernel_rfl) rfl)
    (states1_gives 3 (by omega) P wp bp step (m + 3 + 1) V3 HPs.out HBP.out) (Below.refl _ _) (fun k h => h.elim) (fun _ => rfl)
    (fun pre W => WkI W7 (m + 3) (.slice a3 P.length b3) (.slice a4 wp.length b4) #[.slice a3 P.length b3, .slice a4 wp.length b4, .int .i64 (bp : Nat), .bool step] (castL ((pre.map StX.n).filter (goodV cells c.hyp c.goal bq))) W)
    (fun _ _ _ => False)
    (WkI.own (by omega) _) (fun s A B h hx => h.later ⟨hx.os, hx.tape, hx.output, hx.size, fun k hk => hx.block k hk (fun h => h)⟩) (fun s A h => ⟨_, _, h.box, HO3.out.ext h.ext, HO4.out.ext h.ext⟩)
    (fun _ _ _ _ _ h _ _ => h) HI0.out ?a1 ?assign (fun b x A B h hk => h.keep hk) ?body ?done ?stop
  case assign =>
    intro lp x W K hK
    dsimp only [encSt]
    gi_wp2
    exact hK
  case body =>
    rintro lp pre x V hI hgd hsz hlen
    have hE := hI.ext
    have hXV := HX7.out.trans hE
    have hf8 := HF7.out
    rw [HFV.out] at hf8
    have f8 : V.cell? ⟨m + 2, 0, none⟩ = some (.func (.func 36) #[] #[.pointer (some ⟨m + 1, 0, none⟩), .pointer (some ⟨m, 0, none⟩), .pointer (some ⟨w.heap.size, 0, none⟩)]) := by rw [Lib.cell_of_heap ((hE.block _ (lt_heap hf8)).trans hf8)]; rfl
    have HCALL := Lib.hid (Viol_any c Q wq bq step step m (m + 1) w.heap.size (stN P wp x.n) _ V ⟨_, _, (hE.block _ (lt_heap HS7.out)).trans HS7.out, HO5.out.ext hE, HO6.out.ext hE⟩
      (hE.cell (blocks4 HS6.out).2.2.2) (HIN.out.ext hXV) hgd.2.ints (HM.out.ext hXV) HQs.out HBQ.out)
    have HGB := Lib.hid (HGV.out x.n)
    have HI := Lib.hid hI
    have HLEN : Hid ((castL ((pre.map StX.n).filter (goodV cells c.hyp c.goal bq))).length ≤ 4096) := by
      have h1 : ((pre.map StX.n).filter (goodV cells c.hyp c.goal bq)).length ≤ pre.length := by
        have := List.length_filter_le (goodV cells c.hyp c.goal bq) (pre.map StX.n); simpa using this
      have h2 := Nat.pow_le_pow_right (show 0 < 2 by decide) (show bp ≤ 12 by omega)
      have h3 : (2 : Nat) ^ 12 = 4096 := rfl
      unfold Hid castL; rw [List.length_map]; omega
    have HSN : Hid (castL (((pre ++ [x]).map StX.n).filter (goodV cells c.hyp c.goal bq)) = castL ((pre.map StX.n).filter (goodV cells c.hyp c.goal bq)) ++ if goodV cells c.hyp c.goal bq x.n = true then [(x.n : Int)] else []) := by
      unfold Hid
      rw [List.map_append, List.filter_append]
      unfold castL
      rw [List.map_append]
      congr 1
      cases hg : goodV cells c.hyp c.goal bq x.n <;> simp [hg]
    generalize castL ((pre.map StX.n).filter (goodV cells c.hyp c.goal bq)) = L at *
    clear hI hgd hXV hf8 hlen
    gi_wp2
    refine ⟨trivial, CallsIn.inRound lp (callsIn_wide.2 (HCALL.out.mono ?_))⟩
    rintro r w5 ⟨rfl, x5⟩
    have X5 := Lib.hid x5
    replace HI := Lib.hid (HI.out.later x5)
    clear x5 f8
    cases hgv : goodV cells c.hyp c.goal bq x.n with
    | false =>
      have HV : Hid ((List.range (2 ^ bq)).any (fun m => violS step c.hyp c.goal (stN P wp x.n) (stN Q wq m)) = true) := by
        have := HGB.out; rw [hgv] at this; unfold Hid; simpa using this.symm
      rw [HV.out]
      rw [hgv] at HSN
      clear hgv HV
      gi_wp2
      refine ⟨X5.out.keepsFrom _, ⟨X5.out.size, fun _ _ _ _ h => h.elim⟩, ?_⟩
      show WkI _ _ _ _ _ (castL (((pre ++ [x]).map StX.n).filter (goodV cells c.hyp c.goal bq))) _
      rw [HSN.out]; simpa using HI.out
    | true =>
      have HV : Hid ((List.range (2 ^ bq)).any (fun m => violS step c.hyp c.goal (stN P wp x.n) (stN Q wq m)) = false) := by
        have := HGB.out; rw [hgv] at this; unfold Hid; simpa using this.symm
      rw [HV.out]
      rw [hgv] at HSN
      clear hgv HV
      obtain ⟨ra, rc, hv, ho⟩ := HI.out.var
      have HVV := Lib.hid hv; have HO := Lib.hid ho
      have q2 : w5.cell? ⟨m + 3, 2, none⟩ = some (.slice ra L.length rc) := by rw [Lib.cell_of_heap hv]; rfl
      have hsz5 : m + 3 + 2 ≤ w5.heap.size := by have := lt_heap HI.out.box; omega
      have hll := HLEN.out
      clear hv ho
      gi_wp2_with (gi_at_builtin; refine wpListIn_append_own _ rfl (.tmp 64) (.tmp 66) 35 rfl (m + 3 + 2) 3 i0 (.int .i64 0) 1 8 Tryz.underlying35 hi hz0 hz1 hz2 rfl (by decide) _ L.length (L.map (Value.int .i64)) rfl (World.ownsRow.alloc HO.out _) ⟨w5.heap.size, 0, none⟩ 1 1 [.int .i64 (x.n : Int)] rfl rfl (cell_one_new _ _ _) (by simp [Value.oneCell']) (by unfold maxLen; omega) (by omega) (by simp; omega) ?_; intro v' w6 hown' hgrow _; obtain ⟨g', cap', rfl⟩ := ownsRow_succ hown'; replace hgrow := grown_alloc hgrow; have hown2 : OwnInts w6 (m + 3 + 2) (.slice (some ⟨g', 0, none⟩) (L.length + 1) cap') (L ++ [(x.n : Int)]) := (by unfold OwnInts; rw [List.map_append, List.length_append]; exact hown'); have HG := Lib.hid hgrow; have HST := Lib.hid (HI.out.step (by omega) HVV.out HO.out hgrow hown2); have hb4 : w6.heap[m + 3]? = _ := (hgrow.block _ (lt_heap HVV.out) (fun e => by have := HO.out.base _ e.symm; omega)).trans HVV.out; have d0 : w6.cell? ⟨m + 3, 2, none⟩ = some (.slice ra L.length rc) := (by rw [Lib.cell_of_heap hb4]; rfl); have d1 : w6.frozen? ⟨m + 3, 2, none⟩ = false := Lib.frozen_of_heap hb4 2; clear hown' hown2 hgrow hb4)
      refine ⟨(X5.out.keepsFrom _).trans (((KeepsOthers.of_grownBy HG.out fun j o hj ho => by obtain ⟨cs, hc⟩ := HO.out.typedB j hj; rw [hc] at ho; cases ho; rfl).trans (KeepsOthers.setCell _ _ _)).from _), ⟨?_, fun _ _ _ _ h => h.elim⟩, ?_⟩
      · have h1 := X5.out.size; have h2 := HG.out.size
        simp only [World.setCell]; simp; omega
      · show WkI _ _ _ _ _ (castL (((pre ++ [x]).map StX.n).filter (goodV cells c.hyp c.goal bq))) _
        rw [HSN.out]; exact HST.out
  case done =>
    rintro D xs V hD hxs hI hK
    rw [hxs, ← HGL.out] at hI
    have HK := Lib.hid hK
    obtain ⟨ra, rc, hv, ho⟩ := hI.var
    have hE := hI.ext
    have HSET : Hid (SetC V (.agg #[.slice a3 P.length b3, .slice a4 wp.length b4, .slice ra (castL (goodL cells c.hyp c.goal)).length rc]) P wp (castL (goodL cells c.hyp c.goal))) :=
      ⟨_, _, _, rfl, HC3.out.ext (HX3w.out.trans hE), HC4.out.ext (HX3w.out.trans hE), ho.intsC⟩
    obtain ⟨l0, l1, l2⟩ := cells3 hv
    have HE := Lib.hid hE
    have hz3 := HZ3.out
    have hDV : D < V.heap.size := lt_heap hK
    rw [HW0.out] at HRW HWF
    clear hxs hI hv ho hE hK
    generalize castL (goodL cells c.hyp c.goal) = L at *
    gi_wp2
    refine ⟨trivial, (callsIn_wide.2 (Expr_any P wp L _ V HSET.out)).mono ?_⟩
    rintro r w5 ⟨⟨v, rfl, hv⟩, x5⟩
    generalize exprS P wp L = e at *
    obtain ⟨ea, el, ec, rfl, hkT⟩ := hv.t.shape
    obtain ⟨W6, hW6⟩ : ∃ W6, W6 = w5.alloc (.cells #[.int .i64 e.op, .int .i64 e.wd, .int .i64 e.n, .slice ea el ec] 25) := ⟨_, rfl⟩
    have x56 : Ext w5 W6 := by rw [hW6]; exact (Ext.refl _).alloc _
    have hv6 : VarE W6 w5.heap.size e.op e.wd e.n (.slice ea el ec) := by rw [hW6]; exact VarE.new _ _ _ _ _
    have HV6 := Lib.hid hv6; have HXV6 := Lib.hid (x5.trans x56); have HX76 := Lib.hid (HE.out.trans (x5.trans x56))
    have HKD6 : Hid (W6.heap[D]? = some (.deferred (some []))) := ((x5.trans x56).block _ hDV).trans HK.out
    have HV5 : Hid (V.heap.size ≤ w5.heap.size) := x5.size
    have HKT : Hid (KidsT (fun k => (k ≠ w.heap.size + 1 ∧ k ≠ D) ∧ V.heap.size ≤ k ∧ k < w5.heap.size) W6 (.slice ea el ec) e.kids) := (hkT.keep fun k _ hk => x56.block k hk).mono fun k hk => by
      have := HWM.out
      exact ⟨⟨by omega, by omega⟩, hk⟩
    have y3 := (HX76.out.cell (blocks4 HS6.out).2.2.2)
    obtain ⟨p0, p1, p2, p3⟩ := HV6.out.cells
    clear x5 x56 hv6 hkT hv l0 l1 l2
    gi_upto_region 14 with fail
    rw [← hW6]
    clear hW6
    by_cases h0 : e.op = 0
    · have HRR : Hid (weakR cells c.hyp c.goal = (.mk 0 0 0 [], 2)) := by rw [Hid, HRW.out, if_pos h0]
      have hR := (HX76.out.block _ (lt_heap HR1.out)).trans HR1.out
      obtain ⟨c0, c1, c2, c3, f0, f1, f2, f3⟩ := cells_of_block hR
      have HB := Lib.hid (put4_new (x := .int .i64 0) (y := .int .i64 0) (z := .int .i64 0) (u := .slice none 0 0) hR)
      have HKD : Hid ((put4 W6 (w.heap.size + 1) 0 (.int .i64 0) (.int .i64 0) (.int .i64 0) (.slice none 0 0)).heap[D]? = some (.deferred (some []))) := (put4_heap D (by have := HWM.out; omega)).trans HKD6.out
      have HXE : Hid (Ext w (put4 W6 (w.heap.size + 1) 0 (.int .i64 0) (.int .i64 0) (.int .i64 0) (.slice none 0 0))) := Below.trans (HX.out.trans (HX7.out.trans HX76.out)) (below_put4 (by omega))
      clear hR
      gi_wp2
      refine ⟨by simp, .inl ⟨_, _, rfl, run_takeDeferred HKD.out, ?_⟩⟩
      refine ⟨_, results_row_tmp Tryz.results10 _ _ (w.heap.size + 1) 25 _ (0, 0) _ rfl ((World.putObj_heap_other (by have := HWM.out; omega)).trans HB.out) Tryz.underlying25 rfl sizeExpr, ?_⟩
      rw [HRR.out]
      exact ⟨⟨_, rfl, _, rfl, .inl ⟨⟨_, _, rfl⟩, rfl⟩⟩, HXE.out.putD (by have := HWM.out; omega) _⟩
    · have HRR : Hid (weakR cells c.hyp c.goal = (weakE cells c.hyp c.goal, 0)) := by rw [Hid, HRW.out, if_neg h0]
      cases step with
      | false =>
        have HWE : Hid (weakE cells c.hyp c.goal = e) := by rw [Hid, HWF.out]; rfl
        rw [HWE.out] at HRR
        have HKT1 : Hid (KidsT (fun k => k ≠ w.heap.size + 1 ∧ k ≠ D) W6 (.slice ea el ec) e.kids) := HKT.out.mono fun k hk => hk.1
        have hR := (HX76.out.block _ (lt_heap HR1.out)).trans HR1.out
        obtain ⟨c0, c1, c2, c3, f0, f1, f2, f3⟩ := cells_of_block hR
        have HB := Lib.hid (put4_new (x := .int .i64 e.op) (y := .int .i64 e.wd) (z := .int .i64 e.n) (u := .slice ea el ec) hR)
        have HKD : Hid ((put4 W6 (w.heap.size + 1) 0 (.int .i64 e.op) (.int .i64 e.wd) (.int .i64 e.n) (.slice ea el ec)).heap[D]? = some (.deferred (some []))) := (put4_heap D (by have := HWM.out; omega)).trans HKD6.out
        have HXE : Hid (Ext w (put4 W6 (w.heap.size + 1) 0 (.int .i64 e.op) (.int .i64 e.wd) (.int .i64 e.n) (.slice ea el ec))) := Below.trans (HX.out.trans (HX7.out.trans HX76.out)) (below_put4 (by omega))
        have HKE := Lib.hid (HKT1.out.keep (w' := put4 W6 (w.heap.size + 1) 0 (.int .i64 e.op) (.int .i64 e.wd) (.int .i64 e.n) (.slice ea el ec)) fun q hq _ => put4_heap q hq.1)
        clear hR
        gi_wp2
        refine ⟨by simp, .inl ⟨_, _, rfl, run_takeDeferred HKD.out, ?_⟩⟩
        refine ⟨_, results_row_tmp Tryz.results10 _ _ (w.heap.size + 1) 25 _ (0, 0) _ rfl ((World.putObj_heap_other (by have := HWM.out; omega)).trans HB.out) Tryz.underlying25 rfl sizeExpr, ?_⟩
        rw [HRR.out]
        refine ⟨⟨_, rfl, _, rfl, (HKE.out.keep fun q hq _ => World.putObj_heap_other hq.2).kids⟩, HXE.out.putD (by have := HWM.out; omega) _⟩
      | true =>
        have HWE : Hid (weakE cells c.hyp c.goal = e.before) := by rw [Hid, HWF.out]; rfl
        rw [HWE.out] at HRR
        gi_wp2
        refine ⟨trivial, (callsIn_wide.2 (Before_any e _ W6 ⟨_, rfl, HKT.out.kids⟩ (HM.out.ext (HX7.out.trans HX76.out)))).mono ?_⟩
        rintro r w7 ⟨⟨v, rfl, hv⟩, x7⟩
        generalize e.before = y at *
        obtain ⟨ya, yl, yc, rfl, hky⟩ := hv.t.shape
        have hV7 := HV6.out.ext x7
        have hRv := hV7
        obtain ⟨r0, r1, r2, r3, k0, k1, k2, k3⟩ := cells_of_block hRv
        obtain ⟨Z, hZ⟩ : ∃ Z, Z = (((w7.setCell ⟨w5.heap.size, 0, none⟩ (.int .i64 y.op)).setCell ⟨w5.heap.size, 1, none⟩ (.int .i64 y.wd)).setCell ⟨w5.heap.size, 2, none⟩ (.int .i64 y.n)).setCell ⟨w5.heap.size, 3, none⟩ (.slice ya yl yc) := ⟨_, rfl⟩
        have hZp : Z = put4 w7 w5.heap.size 0 (.int .i64 y.op) (.int .i64 y.wd) (.int .i64 y.n) (.slice ya yl yc) := hZ
        have hzo : ∀ k, k ≠ w5.heap.size → Z.heap[k]? = w7.heap[k]? := fun k hk => by rw [hZp]; exact put4_heap k hk
        have hZn : Z.heap[w5.heap.size]? = some (.cells #[.int .i64 y.op, .int .i64 y.wd, .int .i64 y.n, .slice ya yl yc] 25 (0, 0)) := by rw [hZp]; exact put4_new hRv
        have h65 : w5.heap.size < W6.heap.size := lt_heap HV6.out
        have HXZ : Hid (Ext W7 Z) := by
          have h1 := HX76.out.trans x7
          rw [hZp]
          exact Below.trans h1 (below_put4 (by have h2 := HE.out.size; have h3 := HV5.out; omega))
        have HKZ : Hid (Z.heap[D]? = some (.deferred (some []))) := (hzo D (by have := HV5.out; omega)).trans ((x7.block _ (lt_heap HKD6.out)).trans HKD6.out)
        have HKT2 : Hid (KidsT (fun k => k ≠ w.heap.size + 1 ∧ k ≠ D) Z (.slice ya yl yc) y.kids) := (hky.keep fun k hk _ => hzo k (by have := hk.1; omega)).mono fun k hk => by
          have h1 := HWM.out; have h2 := hk.1; have h3 := HV5.out
          exact ⟨by omega, by omega⟩
        obtain ⟨m0, m1, m2, m3⟩ := blocks4 hZn
        have HZ := Lib.hid hZ
        clear x7 hv hky hV7 hRv hZp hzo hZn p0 p1 p2 p3 y3 hZ
        gi_upto_region 18 with fail
        rw [← HZ.out]
        clear HZ r0 r1 r2 r3 k0 k1 k2 k3
        have hR := (HXZ.out.block _ (lt_heap HR1.out)).trans HR1.out
        obtain ⟨c0, c1, c2, c3, f0, f1, f2, f3⟩ := cells_of_block hR
        have HB := Lib.hid (put4_new (x := .int .i64 y.op) (y := .int .i64 y.wd) (z := .int .i64 y.n) (u := .slice ya yl yc) hR)
        have HKD : Hid ((put4 Z (w.heap.size + 1) 0 (.int .i64 y.op) (.int .i64 y.wd) (.int .i64 y.n) (.slice ya yl yc)).heap[D]? = some (.deferred (some []))) := (put4_heap D (by have := HWM.out; omega)).trans HKZ.out
        have HXE : Hid (Ext w (put4 Z (w.heap.size + 1) 0 (.int .i64 y.op) (.int .i64 y.wd) (.int .i64 y.n) (.slice ya yl yc))) := Below.trans (HX.out.trans (HX7.out.trans HXZ.out)) (below_put4 (by omega))
        have HKE := Lib.hid (HKT2.out.keep (w' := put4 Z (w.heap.size + 1) 0 (.int .i64 y.op) (.int .i64 y.wd) (.int .i64 y.n) (.slice ya yl yc)) fun q hq _ => put4_heap q hq.1)
        clear hR
        gi_wp2
        refine ⟨by simp, .inl ⟨_, _, rfl, run_takeDeferred HKD.out, ?_⟩⟩
        refine ⟨_, results_row_tmp Tryz.results10 _ _ (w.heap.size + 1) 25 _ (0, 0) _ rfl ((World.putObj_heap_other (by have := HWM.out; omega)).trans HB.out) Tryz.underlying25 rfl sizeExpr, ?_⟩
        rw [HRR.out]
        refine ⟨⟨_, rfl, _, rfl, (HKE.out.keep fun q hq _ => World.putObj_heap_other hq.2).kids⟩, HXE.out.putD (by have := HWM.out; omega) _⟩
  case stop =>
    rintro D cc pre W _ _ h _
    exact h.elim
end Go.Proofs.YtlcgbdjmlnjhcaaGreatDoor
