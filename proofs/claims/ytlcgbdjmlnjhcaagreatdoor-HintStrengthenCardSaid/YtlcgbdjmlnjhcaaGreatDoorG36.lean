/-
  The walk of hint.Weakest.
  The walks of decide.pairs, Decide's closure and Decide.
  law32's small; the parts of a formed condition.
-/
import Derived.Test.YtlcgbdjmlnjhcaaGreatDoorG35
import Derived.Test.YtlcgbdjmlnjhcaaGreatDoorG18
import Derived.Test.YtlcgbdjmlnjhcaaGreatDoorG16
import Derived.Test.YtlcgbdjmlnjhcaaGreatDoorG11
import Derived.Test.YtlcgbdjmlnjhcaaGreatDoorG26
import Derived.Test.YtlcgbdjmlnjhcaaGreatDoorG23
import Derived.Test.YtlcgbdjmlnjhcaaGreatDoorG34
import Derived.Test.YtlcgbdjmlnjhcaaGreatDoorG33
namespace Go.Proofs.YtlcgbdjmlnjhcaaGreatDoor
open Go.RowKit Go.Shelf
attribute [local go_sem] Oper.semAt_some

/-- A good state before, by its number. -/
def goodV (cells : List CellD) (h g : E) (b : Nat) (n : Nat) : Bool := !((List.range (2 ^ b)).any fun m => violS (stepB cells h g) h g (stN (cP cells h g) (wOf cells (cP cells h g)) n) (stN (cQ cells h g) (wOf cells (cQ cells h g)) m))
theorem pw_nat {s : Int} {b : Nat} (h : s = (b : Int)) : (pw s).toNat = 2 ^ b := by
  subst h
  unfold pw
  have : (2 : Int) ^ (b : Int).toNat = ((2 ^ b : Nat) : Int) := by push_cast; rfl
  rw [this, Int.toNat_natCast]
theorem goodL_eq {cells : List CellD} {h g : E} {bp bq : Nat} (hp : sumI (wOf cells (cP cells h g)) = (bp : Int)) (hq : sumI (wOf cells (cQ cells h g)) = (bq : Int)) : goodL cells h g = (List.range (2 ^ bp)).filter (goodV cells h g bq) := by
  unfold goodL
  rw [pw_nat hp]
  congr 1
  funext n
  unfold goodB goodV
  rw [pw_nat hq, List.not_any_eq_all_not]
  first | rfl | (congr 1; funext m; unfold violN violS; cases stepB cells h g <;> rfl)
theorem infoInt2 : (Tryz.prog.info? 3).map (fun i => (i.zero, i.size, i.bytes)) = some (some (.int .i64 0), 1, 8) := by kernel_rfl
/-- Formed, by value. -/
def condF (cells : List CellD) (e : E) : Bool := (e.wd == 1) && e.valid cells true
theorem condF_form {cells : List CellD} {e : E} (h : condF cells e = true) : formC cells e := by
  unfold condF at h
  simp only [Bool.and_eq_true, beq_iff_eq] at h
  exact ⟨h.2, h.1⟩
/-- What Weakest answers. -/
def weakR (cells : List CellD) (h g : E) : E × Int :=
  if condF cells h && condF cells g then (if (weak0 cells h g).op = 0 then (.mk 0 0 0 [], 2) else (weakE cells h g, 0)) else (.mk 0 0 0 [], 60)
/-- The set in a variable: block q, its row of elements from q + 2 on; the iterator's side in block q + 1. -/
structure WkI (w0 : World) (q : Nat) (a b : Value) (sd : Array Value) (L : List Int) (W : World) : Prop where
  var : ∃ ra rc, W.heap[q]? = some (.cells #[a, b, .slice ra L.length rc] 60 (0, 0)) ∧ OwnInts W (q + 2) (.slice ra L.length rc) L
  box : W.heap[q + 1]? = some (.cells sd 66 (0, 0))
  ext : Ext w0 W
theorem WkI.later {w0 W W' : World} {q : Nat} {a b : Value} {sd : Array Value} {L : List Int} (h : WkI w0 q a b sd L W) (hx : Ext W W') : WkI w0 q a b sd L W' := by
  obtain ⟨ra, rc, h1, h2⟩ := h.var
  exact ⟨⟨ra, rc, (hx.block _ (lt_heap h1)).trans h1, h2.kept hx⟩, (hx.block _ (lt_heap h.box)).trans h.box, h.ext.trans hx⟩
theorem WkI.own {β : Type} {w0 : World} {q B : Nat} (hB : w0.heap.size ≤ B) {a b : Value} {sd : Array Value} (f : β → List Int) : OwnFrom B (fun s W => WkI w0 q a b sd (f s) W) := fun s A A' row h hg hr => by
  obtain ⟨ra, rc, h1, h2⟩ := h.var
  refine ⟨⟨ra, rc, (grown_oth hg (fun r e => (hr r e).2) _ _ h1 rfl).trans h1, h2.keep fun k e => ?_⟩, (grown_oth hg (fun r e => (hr r e).2) _ _ h.box rfl).trans h.box, h.ext.grown hg fun k e => by have := (hr k e).1; omega⟩
  obtain ⟨cs, hc⟩ := h2.typedB k e
  exact grown_oth hg (fun r e => (hr r e).2) _ _ hc rfl
theorem WkI.step {w0 W W5 : World} {q : Nat} {a b : Value} {sd : Array Value} {L : List Int} (h : WkI w0 q a b sd L W) (hq : w0.heap.size ≤ q) {ra : Option Addr} {rc : Nat} (hv : W.heap[q]? = some (.cells #[a, b, .slice ra L.length rc] 60 (0, 0))) (ho : OwnInts W (q + 2) (.slice ra L.length rc) L) {g cap : Nat} {x : Int}
    (hg : W.grownBy W5 (Value.slice ra L.length rc).ownBlock) (ho5 : OwnInts W5 (q + 2) (.slice (some ⟨g, 0, none⟩) (L.length + 1) cap) (L ++ [x])) :
    WkI w0 q a b sd (L ++ [x]) (W5.setCell ⟨q, 2, none⟩ (.slice (some ⟨g, 0, none⟩) (L.length + 1) cap)) := by
  have h5 := (hg.block q (lt_heap hv) fun e => by have := ho.base q e.symm; omega).trans hv
  have e1 : (L ++ [x]).length = L.length + 1 := by simp
  refine ⟨⟨some ⟨g, 0, none⟩, cap, ?_, ?_⟩, ?_, ?_⟩
  · rw [e1]; exact heap_setCell_same W5 q 2 _ _ _ h5
  · rw [e1]; exact ho5.keep fun k e => heap_setCell_other _ _ _ _ (by have := ho5.base k e; show k ≠ q; omega)
  · exact (heap_setCell_other _ _ _ _ (by show q + 1 ≠ q; omega)).trans ((hg.block _ (lt_heap h.box) fun e => by have := ho.base _ e.symm; omega).trans h.box)
  · exact (h.ext.grown hg fun k e => by have := ho.base k e; omega).setCell (p := ⟨q, 2, none⟩) hq _

theorem sums_pos {cells : List CellD} {h g : E} (hh : formC cells h) (hg : formC cells g) : 0 ≤ sumI (wOf cells (hOld cells h g)) ∧ 0 ≤ sumI (wOf cells (hNow cells h g)) := by
  have key : ∀ l : List Int, (∀ c ∈ l, 1 ≤ wAt cells c) → 0 ≤ sumI (wOf cells l) := fun l hl => by
    induction l with
    | nil => exact Int.le_refl _
    | cons a r ih =>
      rw [show wOf cells (a :: r) = wAt cells a :: wOf cells r from rfl, sumI_cons]
      have h1 := ih fun c hc => hl c (by simp [hc])
      have h2 := hl a (by simp)
      omega
  exact ⟨key _ fun c hc => (old_w hh hg hc).2.2.2.1, key _ fun c hc => (now_w hh hg hc).2.2.2.1⟩

set_option maxRecDepth 100000 in
set_option maxHeartbeats 8000000 in
theorem Weakest_any (c : CondS) (cells : List CellD) (cv kv : Value) (w : World) (hc : CondV w cv c) (hC : Cells w kv cells) (hM : Masks w) (hsm : condF cells c.hyp = true → condF cells c.goal = true → sumI (wOf cells (hOld cells c.hyp c.goal)) + sumI (wOf cells (hNow cells c.hyp c.goal)) ≤ 12) :
    Calls Tryz.prog 10 #[kv, cv] w fun r w' => (∃ v, r = .returned (.tuple #[v, .int .i64 (weakR cells c.hyp c.goal).2]) ∧ EVal w' v (weakR cells c.hyp c.goal).1) ∧ Ext w w' := by
  have HCV := Lib.hid hc
  obtain ⟨ha, hl, hcp, ga, gl, gc, rfl, e1, e2⟩ := hc
  obtain ⟨ka, kc, rfl⟩ := SliceAt.shape hC
  obtain ⟨W, hW⟩ : ∃ W, Boxes w W (.cells (condCells c ha hl hcp ga gl gc) 27) (.cells #[.int .i64 0, .int .i64 0, .int .i64 0, .slice none 0 0] 25) := ⟨_, Boxes.mk' _ _ _⟩
  have hX := hW.ext
  have hat : CondAt W w.heap.size c ha hl hcp ga gl gc := hW.b0
  have HIN : Hid (CondIn W w.heap.size c) := ⟨ha, hl, hcp, ga, gl, gc, hat, e1.ext hX, e2.ext hX⟩
  have HE1 := Lib.hid (e1.ext hX); have HE2 := Lib.hid (e2.ext hX); have HC := Lib.hid (hC.ext hX); have HM := Lib.hid (hM.ext hX); have HX := Lib.hid hX; have HWE := Lib.hid hW.eq; have HZW := Lib.hid hW.size; have HR := Lib.hid hW.b1
  have HAT := Lib.hid hat; have HSM := Lib.hid hsm
  replace HCV := Lib.hid (HCV.out.ext hX)
  obtain ⟨⟨q0, q1, q2, q3⟩, p0, p1, p2, p3⟩ := And.intro hat.hyp hat.goal
  clear hX hat hW e1 e2 hC hM hsm
  unfold condCells at *
  refine (callsIn_wide (n := 4)).1 ?_
  refine callsIn_of_wp_marks Tryz.func10 rfl trivial ?_ rfl
  simp only [Tryz.ntmps10, List.size_toArray, List.length_cons, List.length_nil, Nat.reduceAdd, Nat.reduceSub, Array.replicate_succ, Array.replicate_zero, List.push_toArray, List.append_toArray, List.nil_append, List.cons_append]
  gi_upto_region 1 with fail
  rw [← HWE.out]; clear HWE
  gi_wp2
  refine ⟨trivial, (callsIn_wide.2 (HFormed_any c.hyp _ _ cells _ HE1.out HC.out HM.out)).mono ?_⟩
  rintro r w1 ⟨rfl, x1⟩
  have HX1 := Lib.hid x1
  have p01 := x1.cell p0; have p11 := x1.cell p1; have p21 := x1.cell p2; have p31 := x1.cell p3
  clear x1 p0 p1 p2 p3 q0 q1 q2 q3
  rw [show ((c.hyp.wd == 1) && c.hyp.valid cells true) = condF cells c.hyp from rfl]
  cases hf1 : condF cells c.hyp with
  | false =>
    have HRR : Hid (weakR cells c.hyp c.goal = (.mk 0 0 0 [], 60)) := by unfold Hid weakR; rw [hf1]; rfl
    clear hf1
    gi_wp2
    refine ⟨trivial, ?_⟩
    have hR := (HX1.out.block _ (by have := HZW.out; omega)).trans HR.out
    obtain ⟨c0, c1, c2, c3, f0, f1, f2, f3⟩ := cells_of_block hR
    have HB := Lib.hid (put4_new (x := .int .i64 0) (y := .int .i64 0) (z := .int .i64 0) (u := .slice none 0 0) hR)
    have HXE : Hid (Ext w (put4 w1 (w.heap.size + 1) 0 (.int .i64 0) (.int .i64 0) (.int .i64 0) (.slice none 0 0))) := Below.trans (HX.out.trans HX1.out) (below_put4 (by omega))
    clear hR
    gi_wp2
    refine ⟨_, results_row_tmp Tryz.results10 _ _ (w.heap.size + 1) 25 _ (0, 0) _ rfl HB.out Tryz.underlying25 rfl sizeExpr, ?_⟩
    rw [HRR.out]
    exact ⟨⟨_, rfl, _, rfl, .inl ⟨⟨_, _, rfl⟩, rfl⟩⟩, HXE.out⟩
  | true =>
  have HF1 := Lib.hid hf1; clear hf1
  gi_wp2
  refine ⟨trivial, (callsIn_wide.2 (HFormed_any c.goal _ _ cells _ (HE2.out.ext HX1.out) (HC.out.ext HX1.out) (HM.out.ext HX1.out))).mono ?_⟩
  rintro r w2 ⟨rfl, x2⟩
  have HX2 := Lib.hid (HX1.out.trans x2)
  clear x2 p01 p11 p21 p31
  rw [show ((c.goal.wd == 1) && c.goal.valid cells true) = condF cells c.goal from rfl]
  cases hf2 : condF cells c.goal with
  | false =>
    have HRR : Hid (weakR cells c.hyp c.goal = (.mk 0 0 0 [], 60)) := by unfold Hid weakR; rw [hf2, Bool.and_false]; rfl
    clear hf2
    have hR := (HX2.out.block _ (by have := HZW.out; omega)).trans HR.out
    obtain ⟨c0, c1, c2, c3, f0, f1, f2, f3⟩ := cells_of_block hR
    have HB := Lib.hid (put4_new (x := .int .i64 0) (y := .int .i64 0) (z := .int .i64 0) (u := .slice none 0 0) hR)
    have HXE : Hid (Ext w (put4 w2 (w.heap.size + 1) 0 (.int .i64 0) (.int .i64 0) (.int .i64 0) (.slice none 0 0))) := Below.trans (HX.out.trans HX2.out) (below_put4 (by omega))
    clear hR
    gi_wp2
    refine ⟨_, results_row_tmp Tryz.results10 _ _ (w.heap.size + 1) 25 _ (0, 0) _ rfl HB.out Tryz.underlying25 rfl sizeExpr, ?_⟩
    rw [HRR.out]
    exact ⟨⟨_, rfl, _, rfl, .inl ⟨⟨_, _, rfl⟩, rfl⟩⟩, HXE.out⟩
  | true =>
  have HF2 := Lib.hid hf2; clear hf2
  have HRW : Hid (weakR cells c.hyp c.goal = if (weak0 cells c.hyp c.goal).op = 0 then (.mk 0 0 0 [], 2) else (weakE cells c.hyp c.goal, 0)) := by unfold Hid weakR; rw [HF1.out, HF2.out]; rfl
  have HFC := Lib.hid (condF_form HF1.out); have HGC := Lib.hid (condF_form HF2.out)
  have HSUM := Lib.hid (HSM.out HF1.out HF2.out)
  obtain ⟨d0, d1, d2, d3, d4, d5, d6, d7, d8, d9, d10, d11, d12, d13⟩ := (HAT.out.ext HX2.out).all
  gi_wp2
  refine ⟨trivial, (callsIn_wide.2 (Sides_any c cells _ _ _ (HCV.out.ext HX2.out) (HC.out.ext HX2.out) (HM.out.ext HX2.out) HFC.out HGC.out)).mono ?_⟩
  rintro r w3 ⟨⟨v1, v2, rfl, ⟨v3, v4, rfl, o3, o4⟩, ⟨v5, v6, rfl, o5, o6⟩⟩, x3⟩
  obtain ⟨a3, b3, rfl⟩ := o3.ints.shape
  obtain ⟨a4, b4, rfl⟩ := o4.ints.shape
  obtain ⟨a5, b5, rfl⟩ := o5.ints.shape
  obtain ⟨a6, b6, rfl⟩ := o6.ints.shape
  have HX3 := Lib.hid (HX2.out.trans x3)
  have hso : 0 ≤ sumI (wOf cells (hOld cells c.hyp c.goal)) ∧ 0 ≤ sumI (wOf cells (hNow cells c.hyp c.goal)) := sums_pos HFC.out HGC.out
  have hsl := HSUM.out
  have hPs : smallB (cP cells c.hyp c.goal) (wOf cells (cP cells c.hyp c.goal)) = true := by
    unfold cP
    split
    · exact small_of (choose_shape HFC.out HGC.out (.inl rfl)) (by omega)
    · exact small_of (choose_shape HFC.out HGC.out (.inr rfl)) (by omega)
  have hQs : smallB (cQ cells c.hyp c.goal) (wOf cells (cQ cells c.hyp c.goal)) = true := by
    unfold cQ
    split
    · exact small_of (choose_shape HFC.out HGC.out (.inr rfl)) (by omega)
    · exact small_of (choose_shape HFC.out HGC.out (.inl rfl)) (by omega)
  have hPQ : sumI (wOf cells (cP cells c.hyp c.goal)) + sumI (wOf cells (cQ cells c.hyp c.goal)) ≤ 12 := by
    unfold cP cQ; split <;> omega
  obtain ⟨bp, hbp⟩ := Int.eq_ofNat_of_zero_le (small_sum hPs).2.2.1
  obtain ⟨bq, hbq⟩ := Int.eq_ofNat_of_zero_le (small_sum hQs).2.2.1
  have HGL := Lib.hid (goodL_eq hbp hbq)
  have HGV : Hid (∀ n, goodV cells c.hyp c.goal bq n = !((List.range (2 ^ bq)).any fun m => violS (stepB cells c.hyp c.goal) c.hyp c.goal (stN (cP cells c.hyp c.goal) (wOf cells (cP cells c.hyp c.goal)) n) (stN (cQ cells c.hyp c.goal) (wOf cells (cQ cells c.hyp c.goal)) m))) := fun n => rfl
  have HW0 : Hid (weak0 cells c.hyp c.goal = exprS (cP cells c.hyp c.goal) (wOf cells (cP cells c.hyp c.goal)) (castL (goodL cells c.hyp c.goal))) := rfl
  have HWF : Hid (weakE cells c.hyp c.goal = if stepB cells c.hyp c.goal = true then (weak0 cells c.hyp c.goal).before else weak0 cells c.hyp c.goal) := by unfold Hid weakE; rfl
  rw [hbp, hbq] at hPQ ⊢
  have h12 : (bp : Int) + (bq : Int) ≤ 12 := hPQ
  have HPs := Lib.hid hPs; have HQs := Lib.hid hQs; have HBP := Lib.hid hbp; have HBQ := Lib.hid hbq
  have O3 := Lib.hid o3; have O4 := Lib.hid o4; have O5 := Lib.hid o5; have O6 := Lib.hid o6
  clear d0 d1 d2 d3 d4 d5 d6 d7 d8 d9 d10 d11 d12 d13 x3 hso hsl hPs hQs hPQ hbp hbq o3 o4 o5 o6
  generalize cP cells c.hyp c.goal = P at *
  generalize cQ cells c.hyp c.goal = Q at *
  generalize wOf cells P = wp at *
  generalize wOf cells Q = wq at *
  generalize stepB cells c.hyp c.goal = step at *
  obtain ⟨W5, hW5⟩ : ∃ W5, Boxes w3 W5 (.cells #[.slice a3 P.length b3, .slice a4 wp.length b4, .int .i64 (bp : Nat), .bool step] 66) (.cells #[.slice a5 Q.length b5, .slice a6 wq.length b6, .int .i64 (bq : Nat), .bool step] 66) := ⟨_, Boxes.mk' _ _ _⟩
  gi_upto_region 4 with fail
  rw [← hW5.eq]
  have x35 := hW5.ext
  have z5 := hW5.size
  obtain ⟨s0, s1, s2, s3⟩ := blocks4 hW5.b0
  obtain ⟨t0, t1, t2, t3⟩ := blocks4 hW5.b1
  have HB6 := Lib.hid hW5.b0; have HB7 := Lib.hid hW5.b1; have X35 := Lib.hid x35; have Z5 := Lib.hid z5
  have g1 : ¬ (12 : Int) < (bp : Int) := by omega
  have g2 : ¬ (14 : Int) < (bp : Int) + (bq : Int) := by omega
  clear hW5 x35 z5
  obtain ⟨FV, hFV⟩ : ∃ FV : Value, FV = .func (.func 36) #[] #[.pointer (some ⟨w3.heap.size + 1, 0, none⟩), .pointer (some ⟨w3.heap.size, 0, none⟩), .pointer (some ⟨w.heap.size, 0, none⟩)] := ⟨_, rfl⟩
  obtain ⟨W7, hW7⟩ : ∃ W7, W7 = W5.alloc (.cells #[FV] 72) := ⟨_, rfl⟩
  obtain ⟨W8, hW8⟩ : ∃ W8, W8 = W7.alloc (.cells #[.slice a3 P.length b3, .slice a4 wp.length b4, .slice none 0 0] 60) := ⟨_, rfl⟩
  have x57 : Ext W5 W7 := by rw [hW7]; exact (Ext.refl _).alloc _
  have x78 : Ext W7 W8 := by rw [hW8]; exact (Ext.refl _).alloc _
  have z7 : W7.heap.size = w3.heap.size + 3 := by rw [hW7, World.size_alloc, Z5.out]
  have z8 : W8.heap.size = w3.heap.size + 4 := by rw [hW8, World.size_alloc, z7]
  have hf7 : W7.heap[w3.heap.size + 2]? = some (.cells #[FV] 72 (0, 0)) := by
    have := heap_new W5 (.cells #[FV] 72)
    rw [Z5.out] at this; rw [hW7]; exact this
  have hs8 : W8.heap[w3.heap.size + 3]? = some (.cells #[.slice a3 P.length b3, .slice a4 wp.length b4, .slice none 0 0] 60 (0, 0)) := by
    have := heap_new W7 (.cells #[.slice a3 P.length b3, .slice a4 wp.length b4, .slice none 0 0] 60)
    rw [z7] at this; rw [hW8]; exact this
  have hX7 := HX3.out.trans (X35.out.trans x57)
  have HS8 := Lib.hid hs8; have HZ8 := Lib.hid z8
  have HF7 := Lib.hid hf7; have HX7 := Lib.hid hX7; have HX78 := Lib.hid x78; have Z7 := Lib.hid z7
  have hp6 := x57.block _ (lt_heap HB6.out)
  have hp7 := x57.block _ (lt_heap HB7.out)
  rw [HB6.out] at hp6; rw [HB7.out] at hp7
  have HS6 := Lib.hid hp6; have HS7 := Lib.hid hp7
  have HO3 := Lib.hid ((O3.out.kept (X35.out.trans x57)).ints); have HO4 := Lib.hid ((O4.out.kept (X35.out.trans x57)).ints); have HO5 := Lib.hid ((O5.out.kept (X35.out.trans x57)).ints); have HO6 := Lib.hid ((O6.out.kept (X35.out.trans x57)).ints)
  have HC3 := Lib.hid O3.out.intsC; have HC4 := Lib.hid O4.out.intsC
  have HX3w := Lib.hid (X35.out.trans x57)
  have HR1 : Hid (W7.heap[w.heap.size + 1]? = some (.cells #[.int .i64 0, .int .i64 0, .int .i64 0, .slice none 0 0] 25 (0, 0))) := (hX7.block _ (by have := HZW.out; omega)).trans HR.out
  have HWM : Hid (w.heap.size + 2 ≤ w3.heap.size) := by have h1 := HX3.out.size; have h2 := HZW.out; unfold Hid; omega
  clear hp6 hp7 hf7
  obtain ⟨s0, s1, s2, s3⟩ := blocks4 HB6.out
  obtain ⟨t0, t1, t2, t3⟩ := blocks4 HB7.out
  have y0 := (x57.trans x78).cell s0; have y1 := (x57.trans x78).cell s1; have y2 := (x57.trans x78).cell s2; have y3 := (x57.trans x78).cell s3
  have hW7' := hW7
  rw [hFV] at hW7'
  have HW8 := Lib.hid hW8; have HFV := Lib.hid hFV; have HZ5 := Lib.hid Z5.out
  clear hW8 hW7 hFV x57 x78 z7 z8 hs8 hX7 y0 y1 y2 y3
  gi_upto_region 7 with fail
  rw [← hW7']
  clear hW7'
  rw [Z5.out]
  obtain ⟨s0, s1, s2, s3⟩ := blocks4 HS6.out
  obtain ⟨t0, t1, t2, t3⟩ := blocks4 HS7.out
  gi_upto_region 8 with fail
  rw [← HW8.out, Z7.out]
  have y0 := HX78.out.cell s0; have y1 := HX78.out.cell s1; have y2 := HX78.out.cell s2; have y3 := HX78.out.cell s3
  clear s0 s1 s2 s3 t0 t1 t2 t3
  gi_wp2
  refine ⟨trivial, (states_in _ _ _ _ _ _).mono ?_⟩
  rintro r V3 ⟨rfl, hV3⟩
  rw [HZ8.out]
  generalize w3.heap.size = m at *
  have x83 : Ext W8 V3 := by rw [hV3]; exact (Ext.refl _).alloc _
  have z3 : V3.heap.size = m + 5 := by rw [hV3, World.size_alloc, HZ8.out]
  have hb4 : V3.heap[m + 3 + 1]? = some (.cells #[.slice a3 P.length b3, .slice a4 wp.length b4, .int .i64 (bp : Nat), .bool step] 66 (0, 0)) := by
    have := heap_new W8 (.cells #[.slice a3 P.length b3, .slice a4 wp.length b4, .int .i64 (bp : Nat), .bool step] 66)
    rw [HZ8.out] at this; rw [hV3]; exact this
  have hI0 : WkI W7 (m + 3) (.slice a3 P.length b3) (.slice a4 wp.length b4) #[.slice a3 P.length b3, .slice a4 wp.length b4, .int .i64 (bp : Nat), .bool step] (castL []) V3 :=
    ⟨⟨none, 0, (x83.block _ (by rw [HZ8.out]; omega)).trans HS8.out, OwnInts.nil _ _⟩, hb4, HX78.out.trans x83⟩
  have HI0 := Lib.hid hI0; have HZ3 := Lib.hid z3
  clear hV3 x83 hb4 hI0 y0 y1 y2 y3
  have hz3 := HZ3.out
  have hz7 := Z7.out
  clear z3
  obtain ⟨i0, hi, hz0, hz1, hz2⟩ := info_parts infoInt2
  gi_wp2
  refine wpIn_range_S rfl (by omega) (gf := 65) (lb := #[.pointer (some ⟨m + 3 + 1, 0, none⟩)]) rfl trivial (enters_of Tryz.func65 (by kernel_rfl) rfl)
    (states1_gives 3 (by omega) P wp bp step (m + 3 + 1) V3 HPs.out HBP.out) (Below.refl _ _) (fun k h => h.elim) (fun _ => rfl)
    (fun pre W => WkI W7 (m + 3) (.slice a3 P.length b3) (.slice a4 wp.length b4) #[.slice a3 P.length b3, .slice a4 wp.length b4, .int .i64 (bp : Nat), .bool step] (castL ((pre.map StX.n).filter (goodV cells c.hyp c.goal bq))) W)
    (fun _ _ _ => False)
    (WkI.own (by omega) _) (fun s A B h hx => h.later ⟨hx.os, hx.tape, hx.output, hx.size, fun k hk => hx.block k hk (fun h => h)⟩) (fun s A h => ⟨_, _, h.box, HO3.out.ext h.ext, HO4.out.ext h.ext⟩)
    (fun _ _ _ _ _ h _ _ => h) HI0.out ?a1 ?assign (fun b x A B h hk => h.keep hk) ?body ?done ?stop
  case assign =>
    intro lp x W K hK
    dsimp only [encSt]
    gi_wp2
    exact hK
  case body =>
    rintro lp pre x V hI hgd hsz hlen
    have hE := hI.ext
    have hXV := HX7.out.trans hE
    have hf8 := HF7.out
    rw [HFV.out] at hf8
    have f8 : V.cell? ⟨m + 2, 0, none⟩ = some (.func (.func 36) #[] #[.pointer (some ⟨m + 1, 0, none⟩), .pointer (some ⟨m, 0, none⟩), .pointer (some ⟨w.heap.size, 0, none⟩)]) := by rw [Lib.cell_of_heap ((hE.block _ (lt_heap hf8)).trans hf8)]; rfl
    have HCALL := Lib.hid (Viol_any c Q wq bq step step m (m + 1) w.heap.size (stN P wp x.n) _ V ⟨_, _, (hE.block _ (lt_heap HS7.out)).trans HS7.out, HO5.out.ext hE, HO6.out.ext hE⟩
      (hE.cell (blocks4 HS6.out).2.2.2) (HIN.out.ext hXV) hgd.2.ints (HM.out.ext hXV) HQs.out HBQ.out)
    have HGB := Lib.hid (HGV.out x.n)
    have HI := Lib.hid hI
    have HLEN : Hid ((castL ((pre.map StX.n).filter (goodV cells c.hyp c.goal bq))).length ≤ 4096) := by
      have h1 : ((pre.map StX.n).filter (goodV cells c.hyp c.goal bq)).length ≤ pre.length := by
        have := List.length_filter_le (goodV cells c.hyp c.goal bq) (pre.map StX.n); simpa using this
      have h2 := Nat.pow_le_pow_right (show 0 < 2 by decide) (show bp ≤ 12 by omega)
      have h3 : (2 : Nat) ^ 12 = 4096 := rfl
      unfold Hid castL; rw [List.length_map]; omega
    have HSN : Hid (castL (((pre ++ [x]).map StX.n).filter (goodV cells c.hyp c.goal bq)) = castL ((pre.map StX.n).filter (goodV cells c.hyp c.goal bq)) ++ if goodV cells c.hyp c.goal bq x.n = true then [(x.n : Int)] else []) := by
      unfold Hid
      rw [List.map_append, List.filter_append]
      unfold castL
      rw [List.map_append]
      congr 1
      cases hg : goodV cells c.hyp c.goal bq x.n <;> simp [hg]
    generalize castL ((pre.map StX.n).filter (goodV cells c.hyp c.goal bq)) = L at *
    clear hI hgd hXV hf8 hlen
    gi_wp2
    refine ⟨trivial, CallsIn.inRound lp (callsIn_wide.2 (HCALL.out.mono ?_))⟩
    rintro r w5 ⟨rfl, x5⟩
    have X5 := Lib.hid x5
    replace HI := Lib.hid (HI.out.later x5)
    clear x5 f8
    cases hgv : goodV cells c.hyp c.goal bq x.n with
    | false =>
      have HV : Hid ((List.range (2 ^ bq)).any (fun m => violS step c.hyp c.goal (stN P wp x.n) (stN Q wq m)) = true) := by
        have := HGB.out; rw [hgv] at this; unfold Hid; simpa using this.symm
      rw [HV.out]
      rw [hgv] at HSN
      clear hgv HV
      gi_wp2
      refine ⟨X5.out.keepsFrom _, ⟨X5.out.size, fun _ _ _ _ h => h.elim⟩, ?_⟩
      show WkI _ _ _ _ _ (castL (((pre ++ [x]).map StX.n).filter (goodV cells c.hyp c.goal bq))) _
      rw [HSN.out]; simpa using HI.out
    | true =>
      have HV : Hid ((List.range (2 ^ bq)).any (fun m => violS step c.hyp c.goal (stN P wp x.n) (stN Q wq m)) = false) := by
        have := HGB.out; rw [hgv] at this; unfold Hid; simpa using this.symm
      rw [HV.out]
      rw [hgv] at HSN
      clear hgv HV
      obtain ⟨ra, rc, hv, ho⟩ := HI.out.var
      have HVV := Lib.hid hv; have HO := Lib.hid ho
      have q2 : w5.cell? ⟨m + 3, 2, none⟩ = some (.slice ra L.length rc) := by rw [Lib.cell_of_heap hv]; rfl
      have hsz5 : m + 3 + 2 ≤ w5.heap.size := by have := lt_heap HI.out.box; omega
      have hll := HLEN.out
      clear hv ho
      gi_wp2_with (gi_at_builtin; refine wpListIn_append_own _ rfl (.tmp 64) (.tmp 66) 35 rfl (m + 3 + 2) 3 i0 (.int .i64 0) 1 8 Tryz.underlying35 hi hz0 hz1 hz2 rfl (by decide) _ L.length (L.map (Value.int .i64)) rfl (World.ownsRow.alloc HO.out _) ⟨w5.heap.size, 0, none⟩ 1 1 [.int .i64 (x.n : Int)] rfl rfl (cell_one_new _ _ _) (by simp [Value.oneCell']) (by unfold maxLen; omega) (by omega) (by simp; omega) ?_; intro v' w6 hown' hgrow _; obtain ⟨g', cap', rfl⟩ := ownsRow_succ hown'; replace hgrow := grown_alloc hgrow; have hown2 : OwnInts w6 (m + 3 + 2) (.slice (some ⟨g', 0, none⟩) (L.length + 1) cap') (L ++ [(x.n : Int)]) := (by unfold OwnInts; rw [List.map_append, List.length_append]; exact hown'); have HG := Lib.hid hgrow; have HST := Lib.hid (HI.out.step (by omega) HVV.out HO.out hgrow hown2); have hb4 : w6.heap[m + 3]? = _ := (hgrow.block _ (lt_heap HVV.out) (fun e => by have := HO.out.base _ e.symm; omega)).trans HVV.out; have d0 : w6.cell? ⟨m + 3, 2, none⟩ = some (.slice ra L.length rc) := (by rw [Lib.cell_of_heap hb4]; rfl); have d1 : w6.frozen? ⟨m + 3, 2, none⟩ = false := Lib.frozen_of_heap hb4 2; clear hown' hown2 hgrow hb4)
      refine ⟨(X5.out.keepsFrom _).trans (((KeepsOthers.of_grownBy HG.out fun j o hj ho => by obtain ⟨cs, hc⟩ := HO.out.typedB j hj; rw [hc] at ho; cases ho; rfl).trans (KeepsOthers.setCell _ _ _)).from _), ⟨?_, fun _ _ _ _ h => h.elim⟩, ?_⟩
      · have h1 := X5.out.size; have h2 := HG.out.size
        simp only [World.setCell]; simp; omega
      · show WkI _ _ _ _ _ (castL (((pre ++ [x]).map StX.n).filter (goodV cells c.hyp c.goal bq))) _
        rw [HSN.out]; exact HST.out
  case done =>
    rintro D xs V hD hxs hI hK
    rw [hxs, ← HGL.out] at hI
    have HK := Lib.hid hK
    obtain ⟨ra, rc, hv, ho⟩ := hI.var
    have hE := hI.ext
    have HSET : Hid (SetC V (.agg #[.slice a3 P.length b3, .slice a4 wp.length b4, .slice ra (castL (goodL cells c.hyp c.goal)).length rc]) P wp (castL (goodL cells c.hyp c.goal))) :=
      ⟨_, _, _, rfl, HC3.out.ext (HX3w.out.trans hE), HC4.out.ext (HX3w.out.trans hE), ho.intsC⟩
    obtain ⟨l0, l1, l2⟩ := cells3 hv
    have HE := Lib.hid hE
    have hz3 := HZ3.out
    have hDV : D < V.heap.size := lt_heap hK
    rw [HW0.out] at HRW HWF
    clear hxs hI hv ho hE hK
    generalize castL (goodL cells c.hyp c.goal) = L at *
    gi_wp2
    refine ⟨trivial, (callsIn_wide.2 (Expr_any P wp L _ V HSET.out)).mono ?_⟩
    rintro r w5 ⟨⟨v, rfl, hv⟩, x5⟩
    generalize exprS P wp L = e at *
    obtain ⟨ea, el, ec, rfl, hkT⟩ := hv.t.shape
    obtain ⟨W6, hW6⟩ : ∃ W6, W6 = w5.alloc (.cells #[.int .i64 e.op, .int .i64 e.wd, .int .i64 e.n, .slice ea el ec] 25) := ⟨_, rfl⟩
    have x56 : Ext w5 W6 := by rw [hW6]; exact (Ext.refl _).alloc _
    have hv6 : VarE W6 w5.heap.size e.op e.wd e.n (.slice ea el ec) := by rw [hW6]; exact VarE.new _ _ _ _ _
    have HV6 := Lib.hid hv6; have HXV6 := Lib.hid (x5.trans x56); have HX76 := Lib.hid (HE.out.trans (x5.trans x56))
    have HKD6 : Hid (W6.heap[D]? = some (.deferred (some []))) := ((x5.trans x56).block _ hDV).trans HK.out
    have HV5 : Hid (V.heap.size ≤ w5.heap.size) := x5.size
    have HKT : Hid (KidsT (fun k => (k ≠ w.heap.size + 1 ∧ k ≠ D) ∧ V.heap.size ≤ k ∧ k < w5.heap.size) W6 (.slice ea el ec) e.kids) := (hkT.keep fun k _ hk => x56.block k hk).mono fun k hk => by
      have := HWM.out
      exact ⟨⟨by omega, by omega⟩, hk⟩
    have y3 := (HX76.out.cell (blocks4 HS6.out).2.2.2)
    obtain ⟨p0, p1, p2, p3⟩ := HV6.out.cells
    clear x5 x56 hv6 hkT hv l0 l1 l2
    gi_upto_region 14 with fail
    rw [← hW6]
    clear hW6
    by_cases h0 : e.op = 0
    · have HRR : Hid (weakR cells c.hyp c.goal = (.mk 0 0 0 [], 2)) := by rw [Hid, HRW.out, if_pos h0]
      have hR := (HX76.out.block _ (lt_heap HR1.out)).trans HR1.out
      obtain ⟨c0, c1, c2, c3, f0, f1, f2, f3⟩ := cells_of_block hR
      have HB := Lib.hid (put4_new (x := .int .i64 0) (y := .int .i64 0) (z := .int .i64 0) (u := .slice none 0 0) hR)
      have HKD : Hid ((put4 W6 (w.heap.size + 1) 0 (.int .i64 0) (.int .i64 0) (.int .i64 0) (.slice none 0 0)).heap[D]? = some (.deferred (some []))) := (put4_heap D (by have := HWM.out; omega)).trans HKD6.out
      have HXE : Hid (Ext w (put4 W6 (w.heap.size + 1) 0 (.int .i64 0) (.int .i64 0) (.int .i64 0) (.slice none 0 0))) := Below.trans (HX.out.trans (HX7.out.trans HX76.out)) (below_put4 (by omega))
      clear hR
      gi_wp2
      refine ⟨by simp, .inl ⟨_, _, rfl, run_takeDeferred HKD.out, ?_⟩⟩
      refine ⟨_, results_row_tmp Tryz.results10 _ _ (w.heap.size + 1) 25 _ (0, 0) _ rfl ((World.putObj_heap_other (by have := HWM.out; omega)).trans HB.out) Tryz.underlying25 rfl sizeExpr, ?_⟩
      rw [HRR.out]
      exact ⟨⟨_, rfl, _, rfl, .inl ⟨⟨_, _, rfl⟩, rfl⟩⟩, HXE.out.putD (by have := HWM.out; omega) _⟩
    · have HRR : Hid (weakR cells c.hyp c.goal = (weakE cells c.hyp c.goal, 0)) := by rw [Hid, HRW.out, if_neg h0]
      cases step with
      | false =>
        have HWE : Hid (weakE cells c.hyp c.goal = e) := by rw [Hid, HWF.out]; rfl
        rw [HWE.out] at HRR
        have HKT1 : Hid (KidsT (fun k => k ≠ w.heap.size + 1 ∧ k ≠ D) W6 (.slice ea el ec) e.kids) := HKT.out.mono fun k hk => hk.1
        have hR := (HX76.out.block _ (lt_heap HR1.out)).trans HR1.out
        obtain ⟨c0, c1, c2, c3, f0, f1, f2, f3⟩ := cells_of_block hR
        have HB := Lib.hid (put4_new (x := .int .i64 e.op) (y := .int .i64 e.wd) (z := .int .i64 e.n) (u := .slice ea el ec) hR)
        have HKD : Hid ((put4 W6 (w.heap.size + 1) 0 (.int .i64 e.op) (.int .i64 e.wd) (.int .i64 e.n) (.slice ea el ec)).heap[D]? = some (.deferred (some []))) := (put4_heap D (by have := HWM.out; omega)).trans HKD6.out
        have HXE : Hid (Ext w (put4 W6 (w.heap.size + 1) 0 (.int .i64 e.op) (.int .i64 e.wd) (.int .i64 e.n) (.slice ea el ec))) := Below.trans (HX.out.trans (HX7.out.trans HX76.out)) (below_put4 (by omega))
        have HKE := Lib.hid (HKT1.out.keep (w' := put4 W6 (w.heap.size + 1) 0 (.int .i64 e.op) (.int .i64 e.wd) (.int .i64 e.n) (.slice ea el ec)) fun q hq _ => put4_heap q hq.1)
        clear hR
        gi_wp2
        refine ⟨by simp, .inl ⟨_, _, rfl, run_takeDeferred HKD.out, ?_⟩⟩
        refine ⟨_, results_row_tmp Tryz.results10 _ _ (w.heap.size + 1) 25 _ (0, 0) _ rfl ((World.putObj_heap_other (by have := HWM.out; omega)).trans HB.out) Tryz.underlying25 rfl sizeExpr, ?_⟩
        rw [HRR.out]
        refine ⟨⟨_, rfl, _, rfl, (HKE.out.keep fun q hq _ => World.putObj_heap_other hq.2).kids⟩, HXE.out.putD (by have := HWM.out; omega) _⟩
      | true =>
        have HWE : Hid (weakE cells c.hyp c.goal = e.before) := by rw [Hid, HWF.out]; rfl
        rw [HWE.out] at HRR
        gi_wp2
        refine ⟨trivial, (callsIn_wide.2 (Before_any e _ W6 ⟨_, rfl, HKT.out.kids⟩ (HM.out.ext (HX7.out.trans HX76.out)))).mono ?_⟩
        rintro r w7 ⟨⟨v, rfl, hv⟩, x7⟩
        generalize e.before = y at *
        obtain ⟨ya, yl, yc, rfl, hky⟩ := hv.t.shape
        have hV7 := HV6.out.ext x7
        have hRv := hV7
        obtain ⟨r0, r1, r2, r3, k0, k1, k2, k3⟩ := cells_of_block hRv
        obtain ⟨Z, hZ⟩ : ∃ Z, Z = (((w7.setCell ⟨w5.heap.size, 0, none⟩ (.int .i64 y.op)).setCell ⟨w5.heap.size, 1, none⟩ (.int .i64 y.wd)).setCell ⟨w5.heap.size, 2, none⟩ (.int .i64 y.n)).setCell ⟨w5.heap.size, 3, none⟩ (.slice ya yl yc) := ⟨_, rfl⟩
        have hZp : Z = put4 w7 w5.heap.size 0 (.int .i64 y.op) (.int .i64 y.wd) (.int .i64 y.n) (.slice ya yl yc) := hZ
        have hzo : ∀ k, k ≠ w5.heap.size → Z.heap[k]? = w7.heap[k]? := fun k hk => by rw [hZp]; exact put4_heap k hk
        have hZn : Z.heap[w5.heap.size]? = some (.cells #[.int .i64 y.op, .int .i64 y.wd, .int .i64 y.n, .slice ya yl yc] 25 (0, 0)) := by rw [hZp]; exact put4_new hRv
        have h65 : w5.heap.size < W6.heap.size := lt_heap HV6.out
        have HXZ : Hid (Ext W7 Z) := by
          have h1 := HX76.out.trans x7
          rw [hZp]
          exact Below.trans h1 (below_put4 (by have h2 := HE.out.size; have h3 := HV5.out; omega))
        have HKZ : Hid (Z.heap[D]? = some (.deferred (some []))) := (hzo D (by have := HV5.out; omega)).trans ((x7.block _ (lt_heap HKD6.out)).trans HKD6.out)
        have HKT2 : Hid (KidsT (fun k => k ≠ w.heap.size + 1 ∧ k ≠ D) Z (.slice ya yl yc) y.kids) := (hky.keep fun k hk _ => hzo k (by have := hk.1; omega)).mono fun k hk => by
          have h1 := HWM.out; have h2 := hk.1; have h3 := HV5.out
          exact ⟨by omega, by omega⟩
        obtain ⟨m0, m1, m2, m3⟩ := blocks4 hZn
        have HZ := Lib.hid hZ
        clear x7 hv hky hV7 hRv hZp hzo hZn p0 p1 p2 p3 y3 hZ
        gi_upto_region 18 with fail
        rw [← HZ.out]
        clear HZ r0 r1 r2 r3 k0 k1 k2 k3
        have hR := (HXZ.out.block _ (lt_heap HR1.out)).trans HR1.out
        obtain ⟨c0, c1, c2, c3, f0, f1, f2, f3⟩ := cells_of_block hR
        have HB := Lib.hid (put4_new (x := .int .i64 y.op) (y := .int .i64 y.wd) (z := .int .i64 y.n) (u := .slice ya yl yc) hR)
        have HKD : Hid ((put4 Z (w.heap.size + 1) 0 (.int .i64 y.op) (.int .i64 y.wd) (.int .i64 y.n) (.slice ya yl yc)).heap[D]? = some (.deferred (some []))) := (put4_heap D (by have := HWM.out; omega)).trans HKZ.out
        have HXE : Hid (Ext w (put4 Z (w.heap.size + 1) 0 (.int .i64 y.op) (.int .i64 y.wd) (.int .i64 y.n) (.slice ya yl yc))) := Below.trans (HX.out.trans (HX7.out.trans HXZ.out)) (below_put4 (by omega))
        have HKE := Lib.hid (HKT2.out.keep (w' := put4 Z (w.heap.size + 1) 0 (.int .i64 y.op) (.int .i64 y.wd) (.int .i64 y.n) (.slice ya yl yc)) fun q hq _ => put4_heap q hq.1)
        clear hR
        gi_wp2
        refine ⟨by simp, .inl ⟨_, _, rfl, run_takeDeferred HKD.out, ?_⟩⟩
        refine ⟨_, results_row_tmp Tryz.results10 _ _ (w.heap.size + 1) 25 _ (0, 0) _ rfl ((World.putObj_heap_other (by have := HWM.out; omega)).trans HB.out) Tryz.underlying25 rfl sizeExpr, ?_⟩
        rw [HRR.out]
        refine ⟨⟨_, rfl, _, rfl, (HKE.out.keep fun q hq _ => World.putObj_heap_other hq.2).kids⟩, HXE.out.putD (by have := HWM.out; omega) _⟩
  case stop =>
    rintro D cc pre W _ _ h _
    exact h.elim
end Go.Proofs.YtlcgbdjmlnjhcaaGreatDoor
namespace Go.Proofs.YtlcgbdjmlnjhcaaGreatDoor
open Go.RowKit Go.Shelf
attribute [local go_sem] Oper.semAt_some

set_option maxHeartbeats 1000000 in
theorem pairsD_in (n : Nat) (a1 a3 a4 : Option Addr) (l1 l3 l4 d1 d3 d4 : Nat) (k : Int) (w : World) :
    CallsIn Fence.wide n Tryz.prog 46 #[.slice a1 l1 d1, .slice a3 l3 d3, .slice a4 l4 d4, .int .i64 k] w fun e w' => e = .returned (.func (.func 74) #[] #[.pointer (some ⟨w.heap.size, 0, none⟩), .pointer (some ⟨w.heap.size + 3, 0, none⟩), .pointer (some ⟨w.heap.size + 1, 0, none⟩), .pointer (some ⟨w.heap.size + 2, 0, none⟩)]) ∧
      w' = (((w.alloc (.cells #[.slice a1 l1 d1] 22)).alloc (.cells #[.slice a3 l3 d3] 35)).alloc (.cells #[.slice a4 l4 d4] 35)).alloc (.cells #[.int .i64 k] 3) := by
  refine callsIn_of_wp Tryz.func46 rfl trivial ?_ rfl
  simp only [Tryz.ntmps46, List.size_toArray, List.length_cons, List.length_nil, Nat.reduceAdd, Nat.reduceSub, Array.replicate_succ, Array.replicate_zero, List.push_toArray, List.append_toArray, List.nil_append, List.cons_append]
  gi_wp2
  go_ret
  exact ⟨rfl, rfl⟩

set_option maxHeartbeats 1000000 in
theorem Falsifies_any (c : CondS) (Bc : Nat) (st1 st2 : List Int) (v1 v2 : Value) (w : World) (hc : CondIn w Bc c) (h1 : Ints w v1 st1) (h2 : Ints w v2 st2) (hM : Masks w) :
    Calls Tryz.prog 45 #[v1, v2, .pointer (some ⟨Bc, 0, none⟩)] w fun r w' => r = .returned (.bool (violB c.hyp c.goal st1 st2)) ∧ Ext w w' := by
  obtain ⟨ha, hl, hcp, ga, gl, gc, hat, e1, e2⟩ := hc
  obtain ⟨a1, d1, rfl⟩ := h1.shape
  obtain ⟨a2, d2, rfl⟩ := h2.shape
  obtain ⟨⟨q0, q1, q2, q3⟩, p0, p1, p2, p3⟩ := And.intro hat.hyp hat.goal
  have HE1 := Lib.hid e1; have HE2 := Lib.hid e2; have HI1 := Lib.hid h1; have HI2 := Lib.hid h2; have HM := Lib.hid hM
  have HV : Hid (violB c.hyp c.goal st1 st2 = (decide (c.hyp.eval st1 st2 = 1) && decide (c.goal.eval st1 st2 = 0))) := rfl
  clear hat e1 e2 h1 h2 hM
  go_enter Tryz.func45, Tryz.ntmps45
  go_wp2_with fail
  refine (Eval_any c.hyp _ _ _ st1 st2 _ HE1.out HI1.out HI2.out HM.out).mono ?_
  rintro r w1 ⟨rfl, x1⟩
  have HX1 := Lib.hid x1
  have p01 := x1.cell p0; have p11 := x1.cell p1; have p21 := x1.cell p2; have p31 := x1.cell p3
  clear x1 p0 p1 p2 p3 q0 q1 q2 q3
  generalize c.hyp.eval st1 st2 = x1 at *
  by_cases hq : x1 = 1
  · go_wp2_with fail
    refine (Eval_any c.goal _ _ _ st1 st2 _ (HE2.out.ext HX1.out) (HI1.out.ext HX1.out) (HI2.out.ext HX1.out) (HM.out.ext HX1.out)).mono ?_
    rintro r w2 ⟨rfl, x2⟩
    have HX2 := Lib.hid (HX1.out.trans x2)
    clear x2 p01 p11 p21 p31
    generalize c.goal.eval st1 st2 = y1 at *
    by_cases hq2 : y1 = 0
    · have HF : Hid (violB c.hyp c.goal st1 st2 = true) := by rw [Hid, HV.out, decide_eq_true hq, decide_eq_true hq2]; rfl
      go_wp2_with fail
      go_ret
      exact ⟨by rw [HF.out]; rfl, HX2.out⟩
    · have HF : Hid (violB c.hyp c.goal st1 st2 = false) := by rw [Hid, HV.out, decide_eq_false hq2]; simp
      go_wp2_with fail
      go_ret
      refine ⟨?_, HX2.out⟩
      rw [HF.out]
      show Ending.returned (.bool (y1 == 0)) = _
      simp [hq2]
  · have HF : Hid (violB c.hyp c.goal st1 st2 = false) := by rw [Hid, HV.out, decide_eq_false hq]; rfl
    go_wp2_with fail
    go_ret
    exact ⟨by rw [HF.out]; rfl, HX1.out⟩

/-- The four results: verdict, two states, error; in blocks b .. b + 3. -/
structure Res4 (b : Nat) (v : Int) (x y : Value) (e : Int) (w : World) : Prop where
  r0 : w.heap[b]? = some (.cells #[.int .i64 v] 3 (0, 0))
  r1 : w.heap[b + 1]? = some (.cells #[x] 35 (0, 0))
  r2 : w.heap[b + 2]? = some (.cells #[y] 35 (0, 0))
  r3 : w.heap[b + 3]? = some (.cells #[.int .i64 e] 30 (0, 0))
theorem Res4.ext {b : Nat} {v : Int} {x y : Value} {e : Int} {w w' : World} (h : Res4 b v x y e w) (hx : Ext w w') : Res4 b v x y e w' :=
  ⟨(hx.block _ (lt_heap h.r0)).trans h.r0, (hx.block _ (lt_heap h.r1)).trans h.r1, (hx.block _ (lt_heap h.r2)).trans h.r2, (hx.block _ (lt_heap h.r3)).trans h.r3⟩
theorem Res4.keep {b : Nat} {v : Int} {x y : Value} {e : Int} {w w' : World} (h : Res4 b v x y e w) (hx : ∀ k, k < b + 4 → w'.heap[k]? = w.heap[k]?) : Res4 b v x y e w' :=
  ⟨(hx _ (by omega)).trans h.r0, (hx _ (by omega)).trans h.r1, (hx _ (by omega)).trans h.r2, (hx _ (by omega)).trans h.r3⟩
theorem res4_set {b : Nat} {v : Int} {x y : Value} {e : Int} {w V : World} (h : Res4 b v x y e w) (v' : Int) (x' y' : Value) (e' : Int)
    (hV : V = (((w.setCell ⟨b, 0, none⟩ (.int .i64 v')).setCell ⟨b + 1, 0, none⟩ x').setCell ⟨b + 2, 0, none⟩ y').setCell ⟨b + 3, 0, none⟩ (.int .i64 e')) :
    Res4 b v' x' y' e' V ∧ (∀ k, (k < b ∨ b + 4 ≤ k) → V.heap[k]? = w.heap[k]?) ∧ ∀ u, Ext u w → u.heap.size ≤ b → Ext u V := by
  subst hV
  have o : ∀ (W : World) (k g : Nat) (z : Value), k ≠ g → (W.setCell ⟨g, 0, none⟩ z).heap[k]? = W.heap[k]? := fun W k g z hk => heap_setCell_other _ _ _ _ hk
  refine ⟨⟨?_, ?_, ?_, ?_⟩, fun k hk => ?_, fun u hu hb => ?_⟩
  · rw [o _ _ _ _ (by omega), o _ _ _ _ (by omega), o _ _ _ _ (by omega)]; exact heap_setCell_same _ _ _ _ _ _ h.r0
  · rw [o _ _ _ _ (by omega), o _ _ _ _ (by omega)]; exact heap_setCell_same _ _ _ _ _ _ ((o _ _ _ _ (by omega)).trans h.r1)
  · rw [o _ _ _ _ (by omega)]; exact heap_setCell_same _ _ _ _ _ _ ((o _ _ _ _ (by omega)).trans ((o _ _ _ _ (by omega)).trans h.r2))
  · exact heap_setCell_same _ _ _ _ _ _ ((o _ _ _ _ (by omega)).trans ((o _ _ _ _ (by omega)).trans ((o _ _ _ _ (by omega)).trans h.r3)))
  · rw [o _ _ _ _ (by omega), o _ _ _ _ (by omega), o _ _ _ _ (by omega), o _ _ _ _ (by omega)]
  · exact Below.setCell (Below.setCell (Below.setCell (Below.setCell hu (p := ⟨b, 0, none⟩) hb _) (p := ⟨b + 1, 0, none⟩) (by show _ ≤ b + 1; omega) _) (p := ⟨b + 2, 0, none⟩) (by show _ ≤ b + 2; omega) _) (p := ⟨b + 3, 0, none⟩) (by show _ ≤ b + 3; omega) _
theorem Res4.run {b : Nat} {v : Int} {x y : Value} {e : Int} {w : World} (h : Res4 b v x y e w) {tm : Array Value} (h4 : tm.getD 4 undef = .pointer (some ⟨b, 0, none⟩)) (h5 : tm.getD 5 undef = .pointer (some ⟨b + 1, 0, none⟩)) (h6 : tm.getD 6 undef = .pointer (some ⟨b + 2, 0, none⟩)) (h7 : tm.getD 7 undef = .pointer (some ⟨b + 3, 0, none⟩)) :
    (results Tryz.f13 tm).run Tryz.prog w = .ok (.tuple #[.int .i64 v, x, y, .int .i64 e]) w := by
  have g4 : tm[4]?.getD undef = .pointer (some ⟨b, 0, none⟩) := by simpa using h4
  have g5 : tm[5]?.getD undef = .pointer (some ⟨b + 1, 0, none⟩) := by simpa using h5
  have g6 : tm[6]?.getD undef = .pointer (some ⟨b + 2, 0, none⟩) := by simpa using h6
  have g7 : tm[7]?.getD undef = .pointer (some ⟨b + 3, 0, none⟩) := by simpa using h7
  have k0 : w.cell? ⟨b, 0, none⟩ = some (.int .i64 v) := by rw [Lib.cell_of_heap h.r0]; rfl
  have k1 : w.cell? ⟨b + 1, 0, none⟩ = some x := by rw [Lib.cell_of_heap h.r1]; rfl
  have k2 : w.cell? ⟨b + 2, 0, none⟩ = some y := by rw [Lib.cell_of_heap h.r2]; rfl
  have k3 : w.cell? ⟨b + 3, 0, none⟩ = some (.int .i64 e) := by rw [Lib.cell_of_heap h.r3]; rfl
  simp [results, Tryz.results13, g4, g5, g6, g7, asAddr, go_sem, k0, k1, k2, k3]
/-- What Decide answers. -/
def DecPost (cells : List CellD) (h g : E) (w : World) (r : Ending) (w' : World) : Prop :=
  (((condF cells h && condF cells g) = false ∧ r = .returned (.tuple #[.int .i64 0, .slice none 0 0, .slice none 0 0, .int .i64 60])) ∨
    ((condF cells h && condF cells g) = true ∧ (((∀ old now, violB h g old now = false) ∧ r = .returned (.tuple #[.int .i64 1, .slice none 0 0, .slice none 0 0, .int .i64 0])) ∨
      ∃ st1 st2 v1 v2, violB h g st1 st2 = true ∧ Ints w' v1 st1 ∧ Ints w' v2 st2 ∧ r = .returned (.tuple #[.int .i64 2, v1, v2, .int .i64 0])))) ∧ Ext w w'

structure Boxes5 (w0 W : World) (x0 x1 x2 x3 x4 : Obj) : Prop where
  eq : W = ((((w0.alloc x0).alloc x1).alloc x2).alloc x3).alloc x4
  ext : Ext w0 W
  size : W.heap.size = w0.heap.size + 5
  b0 : W.heap[w0.heap.size]? = some x0
  b1 : W.heap[w0.heap.size + 1]? = some x1
  b2 : W.heap[w0.heap.size + 2]? = some x2
  b3 : W.heap[w0.heap.size + 3]? = some x3
  b4 : W.heap[w0.heap.size + 4]? = some x4
theorem Boxes5.mk' (w0 : World) (x0 x1 x2 x3 x4 : Obj) : Boxes5 w0 (((((w0.alloc x0).alloc x1).alloc x2).alloc x3).alloc x4) x0 x1 x2 x3 x4 := by
  have h3 := Boxes3.mk' w0 x0 x1 x2
  generalize ((w0.alloc x0).alloc x1).alloc x2 = V at *
  have h2 := Boxes.mk' V x3 x4
  have e := h3.eq
  have s := h3.size
  refine ⟨by rw [e], h3.ext.trans h2.ext, by rw [h2.size, s], ?_, ?_, ?_, ?_, ?_⟩
  · exact (h2.ext.block _ (by omega)).trans h3.b0
  · exact (h2.ext.block _ (by omega)).trans h3.b1
  · exact (h2.ext.block _ (by omega)).trans h3.b2
  · have := h2.b0; rwa [s] at this
  · have := h2.b1; rwa [s] at this
theorem Boxes4.mk' (w0 : World) (x0 x1 x2 x3 : Obj) {W : World} (h : W = (((w0.alloc x0).alloc x1).alloc x2).alloc x3) : Ext w0 W ∧ W.heap.size = w0.heap.size + 4 ∧ W.heap[w0.heap.size]? = some x0 ∧ W.heap[w0.heap.size + 1]? = some x1 ∧ W.heap[w0.heap.size + 2]? = some x2 ∧ W.heap[w0.heap.size + 3]? = some x3 := by
  have h3 := Boxes3.mk' w0 x0 x1 x2
  subst h
  generalize ((w0.alloc x0).alloc x1).alloc x2 = V at *
  have s := h3.size
  have x : Ext V (V.alloc x3) := (Ext.refl _).alloc _
  refine ⟨h3.ext.trans x, by rw [World.size_alloc, s], ?_, ?_, ?_, ?_⟩
  · exact (x.block _ (by omega)).trans h3.b0
  · exact (x.block _ (by omega)).trans h3.b1
  · exact (x.block _ (by omega)).trans h3.b2
  · have := heap_new V x3; rwa [s] at this
theorem res4_keeps (b : Nat) (v' : Int) (x' y' : Value) (e' : Int) (B : Nat) {w V : World} (hV : V = (((w.setCell ⟨b, 0, none⟩ (.int .i64 v')).setCell ⟨b + 1, 0, none⟩ x').setCell ⟨b + 2, 0, none⟩ y').setCell ⟨b + 3, 0, none⟩ (.int .i64 e')) : KeepsFrom B w V := by
  subst hV
  exact (((KeepsOthers.setCell _ _ _).from _).trans ((KeepsOthers.setCell _ _ _).from _)).trans (((KeepsOthers.setCell _ _ _).from _).trans ((KeepsOthers.setCell _ _ _).from _))
theorem Res4.grown {b : Nat} {v : Int} {x y : Value} {e : Int} {w w' : World} {row : Option Nat} (h : Res4 b v x y e w) (hg : w.grownBy w' row) (hr : ∀ r, row = some r → ∃ o : Obj, w.heap[r]? = some o ∧ o.isCells = false) : Res4 b v x y e w' :=
  ⟨(grown_oth hg hr _ _ h.r0 rfl).trans h.r0, (grown_oth hg hr _ _ h.r1 rfl).trans h.r1, (grown_oth hg hr _ _ h.r2 rfl).trans h.r2, (grown_oth hg hr _ _ h.r3 rfl).trans h.r3⟩
theorem IRow.grown {w w' : World} {g L : Nat} {f : Nat → Int} {row : Option Nat} (h : IRow w g L f) (hg : w.grownBy w' row) (hr : ∀ r, row = some r → ∃ o : Obj, w.heap[r]? = some o ∧ o.isCells = false) : IRow w' g L f := by
  obtain ⟨c, hc, h2⟩ := h
  exact ⟨c, (grown_oth hg hr _ _ hc rfl).trans hc, h2⟩
theorem IRow.extB {w w' : World} {g L : Nat} {f : Nat → Int} (h : IRow w g L f) (hx : Ext w w') : IRow w' g L f := by
  obtain ⟨c, hc, h2⟩ := h
  exact ⟨c, (hx.block _ (lt_heap hc)).trans hc, h2⟩
def rowL (L : Nat) (f : Nat → Int) : List Int := (List.range L).map f
theorem rowL_dig {cs ws : List Int} {n : Int} {f : Nat → Int} {L : Nat} (h : DigTo cs ws n f cs.length) (hb : ∀ c ∈ cs, 0 ≤ c ∧ c < (L : Int)) : DigL cs ws n (rowL L f) := fun i hi => by
  have h1 := hb _ (List.getElem_mem hi)
  have hg : cs.getD i 0 = cs[i] := by simp [List.getD, hi]
  rw [← hg] at h1
  rw [← h i hi]
  unfold elemS rowL
  rw [List.getD_eq_getElem?_getD, List.getElem?_map, List.getElem?_range (by omega)]
  rfl
theorem ext_stepX {w A B : World} {b : Nat} (hb : w.heap.size ≤ b) (h : Ext w A) (hx : StepX (fun k => k = b ∨ k = b + 1) A B) : Ext w B :=
  ⟨hx.os.trans h.os, hx.tape.trans h.tape, hx.output.trans h.output, Nat.le_trans h.size hx.size, fun k hk => (hx.block k (Nat.lt_of_lt_of_le hk h.size) (by omega)).trans (h.block k hk)⟩
theorem sums_take {cells : List CellD} {l : List Int} (hb : ∀ c ∈ l, 1 ≤ wAt cells c ∧ wAt cells c ≤ 8) (k : Nat) : 0 ≤ sumI (wOf cells (l.take k)) ∧ sumI (wOf cells (l.take k)) ≤ 8 * (k : Int) := by
  induction k with
  | zero => exact ⟨Int.le_refl _, Int.le_refl _⟩
  | succ k ih =>
    by_cases hk : k < l.length
    · rw [List.take_succ_eq_append_getElem hk, wOf_app, sumI_snoc]
      have := hb _ (List.getElem_mem hk)
      omega
    · rw [List.take_of_length_le (by omega)] at ih ⊢
      omega
theorem IRow.block {w w' : World} {g L : Nat} {f : Nat → Int} (h : IRow w g L f) (e : w'.heap[g]? = w.heap[g]?) : IRow w' g L f := World.rowIs.of_block h e

set_option maxRecDepth 100000 in
set_option maxHeartbeats 16000000 in
theorem Decide_any (c : CondS) (cells : List CellD) (cv kv : Value) (w : World) (hc : CondV w cv c) (hC : Cells w kv cells) (hM : Masks w) (hL : cells.length ≤ 1000) (hsm : condF cells c.hyp = true → condF cells c.goal = true → sumI (wOf cells (hOld cells c.hyp c.goal)) + sumI (wOf cells (hNow cells c.hyp c.goal)) ≤ 12) :
    Calls Tryz.prog 13 #[kv, cv] w (DecPost cells c.hyp c.goal w) := by
  have HCV := Lib.hid hc
  obtain ⟨ha, hl, hcp, ga, gl, gc, rfl, e1, e2⟩ := hc
  obtain ⟨ka, kc, rfl⟩ := SliceAt.shape hC
  obtain ⟨W, hW⟩ : ∃ W, Boxes5 w W (.cells (condCells c ha hl hcp ga gl gc) 27) (.cells #[.int .i64 0] 3) (.cells #[.slice none 0 0] 35) (.cells #[.slice none 0 0] 35) (.cells #[.int .i64 0] 30) := ⟨_, Boxes5.mk' _ _ _ _ _ _⟩
  have hX := hW.ext
  have hat : CondAt W w.heap.size c ha hl hcp ga gl gc := hW.b0
  have HIN : Hid (CondIn W w.heap.size c) := ⟨ha, hl, hcp, ga, gl, gc, hat, e1.ext hX, e2.ext hX⟩
  have HRES : Hid (Res4 (w.heap.size + 1) 0 (.slice none 0 0) (.slice none 0 0) 0 W) := ⟨hW.b1, hW.b2, hW.b3, hW.b4⟩
  have HE1 := Lib.hid (e1.ext hX); have HE2 := Lib.hid (e2.ext hX); have HC := Lib.hid (hC.ext hX); have HM := Lib.hid (hM.ext hX); have HX := Lib.hid hX; have HWE := Lib.hid hW.eq; have HGE : Hid (∀ V, Ext W V → w.heap.size + 5 ≤ V.heap.size) := fun V h => by have h1 := h.size; have h2 := hW.size; omega
  have HAT := Lib.hid hat; have HSM := Lib.hid hsm
  replace HCV := Lib.hid (HCV.out.ext hX)
  obtain ⟨⟨q0, q1, q2, q3⟩, p0, p1, p2, p3⟩ := And.intro hat.hyp hat.goal
  have hcl := SliceAt.len_le hC
  clear hX hat hW e1 e2 hC hM hsm
  unfold condCells at *
  refine (callsIn_wide (n := 4)).1 ?_
  refine callsIn_of_wp_marks Tryz.func13 rfl trivial ?_ rfl
  simp only [Tryz.ntmps13, List.size_toArray, List.length_cons, List.length_nil, Nat.reduceAdd, Nat.reduceSub, Array.replicate_succ, Array.replicate_zero, List.push_toArray, List.append_toArray, List.nil_append, List.cons_append]
  gi_upto_region 1 with fail
  rw [← HWE.out]; clear HWE
  obtain ⟨V, hV⟩ : ∃ V, V = W.alloc (.cells #[.int .i64 c.hyp.op, .int .i64 c.hyp.wd, .int .i64 c.hyp.n, .slice ha hl hcp, .int .i64 c.goal.op, .int .i64 c.goal.wd, .int .i64 c.goal.n, .slice ga gl gc] 25) := ⟨_, rfl⟩
  have xv : Ext W V := by rw [hV]; exact (Ext.refl _).alloc _
  have hvb : V.heap[W.heap.size]? = some (.cells #[.int .i64 c.hyp.op, .int .i64 c.hyp.wd, .int .i64 c.hyp.n, .slice ha hl hcp, .int .i64 c.goal.op, .int .i64 c.goal.wd, .int .i64 c.goal.n, .slice ga gl gc] 25 (0, 0)) := by rw [hV]; exact heap_new _ _
  have HXV := Lib.hid xv; have HVB := Lib.hid hvb; have HV := Lib.hid hV
  clear xv hvb hV
  gi_wp2
  rw [← HV.out]
  clear HV q0 q1 q2 q3 p0 p1 p2 p3
  generalize W.heap.size = rb at *
  gi_loopw [26] (fun iv wr => ∃ i : Nat, i ≤ 2 ∧ iv = .int .i64 i ∧ Ext V wr ∧ (0 < i → condF cells c.hyp = true) ∧ (1 < i → condF cells c.goal = true)) (fun iv _ => 2 - (intOf iv).toNat)
  case atStart => exact ⟨0, by omega, rfl, Ext.refl _, fun h => absurd h (by omega), fun h => absurd h (by omega)⟩
  case round =>
    obtain ⟨i, hi, rfl, hX, hc1, hc2⟩ := hrel
    have HXr := Lib.hid hX; have HC1 := Lib.hid hc1; have HC2 := Lib.hid hc2
    clear hX hc1 hc2
    have hi3 : i = 0 ∨ i = 1 ∨ i = 2 := by omega
    rcases hi3 with rfl | rfl | rfl
    · have hvb := HXr.out.block _ (lt_heap HVB.out)
      rw [HVB.out] at hvb
      have u0 : wr.cell? ⟨rb, 0, none⟩ = some (.int .i64 c.hyp.op) := by rw [Lib.cell_of_heap hvb]; rfl
      have u1 : wr.cell? ⟨rb, 1, none⟩ = some (.int .i64 c.hyp.wd) := by rw [Lib.cell_of_heap hvb]; rfl
      have u2 : wr.cell? ⟨rb, 2, none⟩ = some (.int .i64 c.hyp.n) := by rw [Lib.cell_of_heap hvb]; rfl
      have u3 : wr.cell? ⟨rb, 3, none⟩ = some (.slice ha hl hcp) := by rw [Lib.cell_of_heap hvb]; rfl
      clear hvb
      gi_upto_region 4 with fail
      obtain ⟨W2, hW2⟩ : ∃ W2, W2 = wr.alloc (.cells #[.int .i64 c.hyp.op, .int .i64 c.hyp.wd, .int .i64 c.hyp.n, .slice ha hl hcp] 25) := ⟨_, rfl⟩
      have hxw : Ext wr W2 := by rw [hW2]; exact (Ext.refl _).alloc _
      have hb2 : W2.heap[wr.heap.size]? = some (.cells #[.int .i64 c.hyp.op, .int .i64 c.hyp.wd, .int .i64 c.hyp.n, .slice ha hl hcp] 25 (0, 0)) := by rw [hW2]; exact heap_new _ _
      rw [← hW2]
      obtain ⟨m0, m1, m2, m3⟩ := blocks4 hb2
      have HXW2 := Lib.hid (HXr.out.trans hxw)
      clear hW2 hb2 hxw u0 u1 u2 u3
      have hW2x := HXV.out.trans HXW2.out
      cases hwb : (c.hyp.wd == 1) with
      | true =>
        have hwn : (c.hyp.wd != 1) = false := by unfold bne; rw [hwb]; rfl
        gi_wp2
        refine ⟨trivial, (callsIn_wide.2 (Valid_any c.hyp _ _ cells true _ (HE1.out.ext hW2x) (HC.out.ext hW2x) (HM.out.ext hW2x))).mono ?_⟩
        rintro r w3 ⟨rfl, x3⟩
        have HX3 := Lib.hid (HXW2.out.trans x3)
        clear x3 m0 m1 m2 m3 hW2x
        cases hv : c.hyp.valid cells true with
        | false =>
          have HFF : Hid (condF cells c.hyp = false) := by unfold Hid condF; rw [hwb, hv]; rfl
          clear hv
          have hres := HRES.out.ext (HXV.out.trans HX3.out)
          obtain ⟨r0, r1, r2, r3⟩ := id hres
          have k0 : w3.cell? ⟨w.heap.size + 1, 0, none⟩ = some (.int .i64 0) := by rw [Lib.cell_of_heap r0]; rfl
          have k1 : w3.cell? ⟨w.heap.size + 1 + 1, 0, none⟩ = some (.slice none 0 0) := by rw [Lib.cell_of_heap r1]; rfl
          have k2 : w3.cell? ⟨w.heap.size + 1 + 2, 0, none⟩ = some (.slice none 0 0) := by rw [Lib.cell_of_heap r2]; rfl
          have k3 : w3.cell? ⟨w.heap.size + 1 + 3, 0, none⟩ = some (.int .i64 0) := by rw [Lib.cell_of_heap r3]; rfl
          have f0 := Lib.frozen_of_heap r0 0; have f1 := Lib.frozen_of_heap r1 0; have f2 := Lib.frozen_of_heap r2 0; have f3 := Lib.frozen_of_heap r3 0
          obtain ⟨V9, hV9⟩ : ∃ V9, V9 = (((w3.setCell ⟨w.heap.size + 1, 0, none⟩ (.int .i64 0)).setCell ⟨w.heap.size + 1 + 1, 0, none⟩ (.slice none 0 0)).setCell ⟨w.heap.size + 1 + 2, 0, none⟩ (.slice none 0 0)).setCell ⟨w.heap.size + 1 + 3, 0, none⟩ (.int .i64 60) := ⟨_, rfl⟩
          obtain ⟨j1, j2, j3⟩ := res4_set hres 0 (.slice none 0 0) (.slice none 0 0) 60 hV9
          have HJ1 := Lib.hid j1; have HXE := Lib.hid (j3 w (HX.out.trans (HXV.out.trans HX3.out)) (by omega)); have HV9 := Lib.hid hV9
          clear j1 j2 j3 hV9 hres r0 r1 r2 r3
          gi_wp2
          rw [← HV9.out]
          refine ⟨_, HJ1.out.run rfl rfl rfl rfl, ?_⟩
          exact ⟨.inl ⟨by rw [HFF.out]; rfl, rfl⟩, HXE.out⟩
        | true =>
          have HFT : Hid (condF cells c.hyp = true) := by unfold Hid condF; rw [hwb, hv]; rfl
          clear hv
          gi_wp2
          go_roundw
          case rel => exact ⟨1, by omega, rfl, HX3.out, fun _ => HFT.out, fun h => absurd h (by omega)⟩
          case measure => simp [intOf]
      | false =>
        have HFF : Hid (condF cells c.hyp = false) := by unfold Hid condF; rw [hwb]; rfl
        have hwn : (c.hyp.wd != 1) = true := by unfold bne; rw [hwb]; rfl
        gi_wp2
        refine ⟨trivial, ?_⟩
        have hres := HRES.out.ext (HXV.out.trans HXW2.out)
        obtain ⟨r0, r1, r2, r3⟩ := id hres
        have k0 : W2.cell? ⟨w.heap.size + 1, 0, none⟩ = some (.int .i64 0) := by rw [Lib.cell_of_heap r0]; rfl
        have k1 : W2.cell? ⟨w.heap.size + 1 + 1, 0, none⟩ = some (.slice none 0 0) := by rw [Lib.cell_of_heap r1]; rfl
        have k2 : W2.cell? ⟨w.heap.size + 1 + 2, 0, none⟩ = some (.slice none 0 0) := by rw [Lib.cell_of_heap r2]; rfl
        have k3 : W2.cell? ⟨w.heap.size + 1 + 3, 0, none⟩ = some (.int .i64 0) := by rw [Lib.cell_of_heap r3]; rfl
        have f0 := Lib.frozen_of_heap r0 0; have f1 := Lib.frozen_of_heap r1 0; have f2 := Lib.frozen_of_heap r2 0; have f3 := Lib.frozen_of_heap r3 0
        obtain ⟨V9, hV9⟩ : ∃ V9, V9 = (((W2.setCell ⟨w.heap.size + 1, 0, none⟩ (.int .i64 0)).setCell ⟨w.heap.size + 1 + 1, 0, none⟩ (.slice none 0 0)).setCell ⟨w.heap.size + 1 + 2, 0, none⟩ (.slice none 0 0)).setCell ⟨w.heap.size + 1 + 3, 0, none⟩ (.int .i64 60) := ⟨_, rfl⟩
        obtain ⟨j1, j2, j3⟩ := res4_set hres 0 (.slice none 0 0) (.slice none 0 0) 60 hV9
        have HJ1 := Lib.hid j1; have HXE := Lib.hid (j3 w (HX.out.trans (HXV.out.trans HXW2.out)) (by omega)); have HV9 := Lib.hid hV9
        clear j1 j2 j3 hV9 hres r0 r1 r2 r3
        gi_wp2
        rw [← HV9.out]
        refine ⟨_, HJ1.out.run rfl rfl rfl rfl, ?_⟩
        exact ⟨.inl ⟨by rw [HFF.out]; rfl, rfl⟩, HXE.out⟩
    · have hvb := HXr.out.block _ (lt_heap HVB.out)
      rw [HVB.out] at hvb
      have u0 : wr.cell? ⟨rb, 4, none⟩ = some (.int .i64 c.goal.op) := by rw [Lib.cell_of_heap hvb]; rfl
      have u1 : wr.cell? ⟨rb, 5, none⟩ = some (.int .i64 c.goal.wd) := by rw [Lib.cell_of_heap hvb]; rfl
      have u2 : wr.cell? ⟨rb, 6, none⟩ = some (.int .i64 c.goal.n) := by rw [Lib.cell_of_heap hvb]; rfl
      have u3 : wr.cell? ⟨rb, 7, none⟩ = some (.slice ga gl gc) := by rw [Lib.cell_of_heap hvb]; rfl
      clear hvb
      gi_upto_region 4 with fail
      obtain ⟨W2, hW2⟩ : ∃ W2, W2 = wr.alloc (.cells #[.int .i64 c.goal.op, .int .i64 c.goal.wd, .int .i64 c.goal.n, .slice ga gl gc] 25) := ⟨_, rfl⟩
      have hxw : Ext wr W2 := by rw [hW2]; exact (Ext.refl _).alloc _
      have hb2 : W2.heap[wr.heap.size]? = some (.cells #[.int .i64 c.goal.op, .int .i64 c.goal.wd, .int .i64 c.goal.n, .slice ga gl gc] 25 (0, 0)) := by rw [hW2]; exact heap_new _ _
      rw [← hW2]
      obtain ⟨m0, m1, m2, m3⟩ := blocks4 hb2
      have HXW2 := Lib.hid (HXr.out.trans hxw)
      clear hW2 hb2 hxw u0 u1 u2 u3
      have hW2x := HXV.out.trans HXW2.out
      cases hwb : (c.goal.wd == 1) with
      | true =>
        have hwn : (c.goal.wd != 1) = false := by unfold bne; rw [hwb]; rfl
        gi_wp2
        refine ⟨trivial, (callsIn_wide.2 (Valid_any c.goal _ _ cells true _ (HE2.out.ext hW2x) (HC.out.ext hW2x) (HM.out.ext hW2x))).mono ?_⟩
        rintro r w3 ⟨rfl, x3⟩
        have HX3 := Lib.hid (HXW2.out.trans x3)
        clear x3 m0 m1 m2 m3 hW2x
        cases hv : c.goal.valid cells true with
        | false =>
          have HFF : Hid (condF cells c.goal = false) := by unfold Hid condF; rw [hwb, hv]; rfl
          clear hv
          have hres := HRES.out.ext (HXV.out.trans HX3.out)
          obtain ⟨r0, r1, r2, r3⟩ := id hres
          have k0 : w3.cell? ⟨w.heap.size + 1, 0, none⟩ = some (.int .i64 0) := by rw [Lib.cell_of_heap r0]; rfl
          have k1 : w3.cell? ⟨w.heap.size + 1 + 1, 0, none⟩ = some (.slice none 0 0) := by rw [Lib.cell_of_heap r1]; rfl
          have k2 : w3.cell? ⟨w.heap.size + 1 + 2, 0, none⟩ = some (.slice none 0 0) := by rw [Lib.cell_of_heap r2]; rfl
          have k3 : w3.cell? ⟨w.heap.size + 1 + 3, 0, none⟩ = some (.int .i64 0) := by rw [Lib.cell_of_heap r3]; rfl
          have f0 := Lib.frozen_of_heap r0 0; have f1 := Lib.frozen_of_heap r1 0; have f2 := Lib.frozen_of_heap r2 0; have f3 := Lib.frozen_of_heap r3 0
          obtain ⟨V9, hV9⟩ : ∃ V9, V9 = (((w3.setCell ⟨w.heap.size + 1, 0, none⟩ (.int .i64 0)).setCell ⟨w.heap.size + 1 + 1, 0, none⟩ (.slice none 0 0)).setCell ⟨w.heap.size + 1 + 2, 0, none⟩ (.slice none 0 0)).setCell ⟨w.heap.size + 1 + 3, 0, none⟩ (.int .i64 60) := ⟨_, rfl⟩
          obtain ⟨j1, j2, j3⟩ := res4_set hres 0 (.slice none 0 0) (.slice none 0 0) 60 hV9
          have HJ1 := Lib.hid j1; have HXE := Lib.hid (j3 w (HX.out.trans (HXV.out.trans HX3.out)) (by omega)); have HV9 := Lib.hid hV9
          clear j1 j2 j3 hV9 hres r0 r1 r2 r3
          gi_wp2
          rw [← HV9.out]
          refine ⟨_, HJ1.out.run rfl rfl rfl rfl, ?_⟩
          exact ⟨.inl ⟨by rw [HFF.out, Bool.and_false], rfl⟩, HXE.out⟩
        | true =>
          have HFT : Hid (condF cells c.goal = true) := by unfold Hid condF; rw [hwb, hv]; rfl
          clear hv
          gi_wp2
          go_roundw
          case rel => exact ⟨2, by omega, rfl, HX3.out, fun _ => HC1.out (by omega), fun _ => HFT.out⟩
          case measure => simp [intOf]
      | false =>
        have HFF : Hid (condF cells c.goal = false) := by unfold Hid condF; rw [hwb]; rfl
        have hwn : (c.goal.wd != 1) = true := by unfold bne; rw [hwb]; rfl
        gi_wp2
        refine ⟨trivial, ?_⟩
        have hres := HRES.out.ext (HXV.out.trans HXW2.out)
        obtain ⟨r0, r1, r2, r3⟩ := id hres
        have k0 : W2.cell? ⟨w.heap.size + 1, 0, none⟩ = some (.int .i64 0) := by rw [Lib.cell_of_heap r0]; rfl
        have k1 : W2.cell? ⟨w.heap.size + 1 + 1, 0, none⟩ = some (.slice none 0 0) := by rw [Lib.cell_of_heap r1]; rfl
        have k2 : W2.cell? ⟨w.heap.size + 1 + 2, 0, none⟩ = some (.slice none 0 0) := by rw [Lib.cell_of_heap r2]; rfl
        have k3 : W2.cell? ⟨w.heap.size + 1 + 3, 0, none⟩ = some (.int .i64 0) := by rw [Lib.cell_of_heap r3]; rfl
        have f0 := Lib.frozen_of_heap r0 0; have f1 := Lib.frozen_of_heap r1 0; have f2 := Lib.frozen_of_heap r2 0; have f3 := Lib.frozen_of_heap r3 0
        obtain ⟨V9, hV9⟩ : ∃ V9, V9 = (((W2.setCell ⟨w.heap.size + 1, 0, none⟩ (.int .i64 0)).setCell ⟨w.heap.size + 1 + 1, 0, none⟩ (.slice none 0 0)).setCell ⟨w.heap.size + 1 + 2, 0, none⟩ (.slice none 0 0)).setCell ⟨w.heap.size + 1 + 3, 0, none⟩ (.int .i64 60) := ⟨_, rfl⟩
        obtain ⟨j1, j2, j3⟩ := res4_set hres 0 (.slice none 0 0) (.slice none 0 0) 60 hV9
        have HJ1 := Lib.hid j1; have HXE := Lib.hid (j3 w (HX.out.trans (HXV.out.trans HXW2.out)) (by omega)); have HV9 := Lib.hid hV9
        clear j1 j2 j3 hV9 hres r0 r1 r2 r3
        gi_wp2
        rw [← HV9.out]
        refine ⟨_, HJ1.out.run rfl rfl rfl rfl, ?_⟩
        exact ⟨.inl ⟨by rw [HFF.out, Bool.and_false], rfl⟩, HXE.out⟩
    · have hf1 := HC1.out (by omega); have hf2 := HC2.out (by omega)
      have hfc := condF_form hf1; have hgc := condF_form hf2
      have HFT : Hid ((condF cells c.hyp && condF cells c.goal) = true) := by unfold Hid; rw [hf1, hf2]; rfl
      have hs12 := HSM.out hf1 hf2
      have HWR := Lib.hid (HXV.out.trans HXr.out)
      obtain ⟨⟨d0, d1, d2, d3, d4, d5, d6, d7, d8, d9, d10, d11, d12, d13⟩, _⟩ := blocks14 ((HWR.out.block _ (lt_heap HAT.out)).trans HAT.out)
      obtain ⟨hso, hsn⟩ := sums_pos hfc hgc
      obtain ⟨bo, hbo⟩ := Int.eq_ofNat_of_zero_le hso
      obtain ⟨bn, hbn⟩ := Int.eq_ofNat_of_zero_le hsn
      have h12 : bo + bn ≤ 12 := by omega
      have HNUM := Lib.hid (dec_num hfc hgc hbo hbn h12)
      have hP1 := (unionL_law c.hyp.supOld c.goal.supOld).1; have hP2 := (unionL_law c.hyp.supNow c.goal.supNow).1
      have hU1 := union_old hfc hgc; have hU2 := union_now hfc hgc
      have hl1 := unionL_len c.hyp.supOld c.goal.supOld; have hl2 := unionL_len c.hyp.supNow c.goal.supNow
      have s1 := supOld_len c.hyp; have s2 := supOld_len c.goal; have s3 := supNow_len c.hyp; have s4 := supNow_len c.goal
      rw [hU1] at hP1 hl1; rw [hU2] at hP2 hl2
      have hB1 : ∀ x ∈ hOld cells c.hyp c.goal, 0 ≤ x ∧ x < (cells.length : Int) ∧ 1 ≤ wAt cells x ∧ wAt cells x ≤ 8 := fun x hx => by have := old_w hfc hgc hx; omega
      have hB2 : ∀ x ∈ hNow cells c.hyp c.goal, 0 ≤ x ∧ x < (cells.length : Int) ∧ 1 ≤ wAt cells x ∧ wAt cells x ≤ 8 := fun x hx => by have := now_w hfc hgc hx; omega
      have HSUP := Lib.hid (DSupport_any c _ wr (HCV.out.ext HWR.out) (HM.out.ext HWR.out))
      rw [hU1, hU2] at HSUP
      have ho64 : (hOld cells c.hyp c.goal).length ≤ 64 := by omega
      have hn64 : (hNow cells c.hyp c.goal).length ≤ 64 := by omega
      have HP1 := Lib.hid hP1; have HP2 := Lib.hid hP2; have HB1 := Lib.hid hB1; have HB2 := Lib.hid hB2; have HBO := Lib.hid hbo; have HBN := Lib.hid hbn
      clear hf1 hf2 hfc hgc hs12 hso hsn hbo hbn hP1 hP2 hU1 hU2 hl1 hl2 s1 s2 s3 s4 hB1 hB2 HXr HC1 HC2 hi
      generalize hOld cells c.hyp c.goal = o at *
      generalize hNow cells c.hyp c.goal = nw at *
      gi_wp2
      refine ⟨trivial, (callsIn_wide.2 (HSUP.out.mono ?_))⟩
      rintro r w2 ⟨⟨v1, v2, rfl, i1, i2⟩, x2⟩
      obtain ⟨a1, e1, rfl⟩ := i1.shape
      obtain ⟨a2, e2, rfl⟩ := i2.shape
      have HX2 := Lib.hid (HWR.out.trans x2)
      obtain ⟨V2, hV2⟩ : ∃ V2, V2 = w2.alloc (.cells #[.slice a1 o.length e1, .slice a2 nw.length e2] 35) := ⟨_, rfl⟩
      have xv2 : Ext w2 V2 := by rw [hV2]; exact (Ext.refl _).alloc _
      have hvb2 : V2.heap[w2.heap.size]? = some (.cells #[.slice a1 o.length e1, .slice a2 nw.length e2] 35 (0, 0)) := by rw [hV2]; exact heap_new _ _
      have HI1 := Lib.hid (i1.ext xv2); have HI2 := Lib.hid (i2.ext xv2); have HXV2 := Lib.hid (HX2.out.trans xv2); have HVB2 := Lib.hid hvb2; have HV2 := Lib.hid hV2
      clear i1 i2 x2 xv2 hvb2 hV2 d0 d1 d2 d3 d4 d5 d6 d7 d8 d9 d10 d11 d12 d13
      gi_wp2
      rw [← HV2.out]
      clear HV2
      generalize w2.heap.size = rc at *
      gi_loopw [49, 12] (fun iv bv wr => ∃ j : Nat, j ≤ 2 ∧ iv = .int .i64 j ∧ bv = .int .i64 (if j = 0 then 0 else if j = 1 then (bo : Int) else (bo : Int) + (bn : Int)) ∧ Ext V2 wr) (fun iv _ _ => 2 - (intOf iv).toNat)
      case atStart => exact ⟨0, by omega, rfl, rfl, Ext.refl _⟩
      case round =>
        obtain ⟨j, hj, rfl, rfl, hX⟩ := hrel
        have HXr := Lib.hid hX
        clear hX
        have hj3 : j = 0 ∨ j = 1 ∨ j = 2 := by omega
        rcases hj3 with rfl | rfl | rfl
        · have hvb := HXr.out.block _ (lt_heap HVB2.out)
          rw [HVB2.out] at hvb
          have u0 : wr.cell? ⟨rc, 0, none⟩ = some (.slice a1 o.length e1) := by rw [Lib.cell_of_heap hvb]; rfl
          clear hvb
          have hif : (if 0 = 0 then (0 : Int) else if 0 = 1 then (bo : Int) else (bo : Int) + (bn : Int)) = (0 : Int) := by simp
          rw [hif]
          gi_wp2
          gi_loopw [55, 12] (fun iv bv wr => ∃ k : Nat, k ≤ o.length ∧ iv = .int .i64 k ∧ bv = .int .i64 ((0 : Int) + sumI (wOf cells (o.take k))) ∧ Ext V2 wr) (fun iv _ _ => o.length - (intOf iv).toNat)
          case atStart => exact ⟨0, Nat.zero_le _, rfl, by simp [wOf, sumI], HXr.out⟩
          case round =>
            clear u0 hif
            obtain ⟨k, hk, rfl, rfl, hX⟩ := hrel
            have HXi := Lib.hid hX
            clear hX HXr
            by_cases hlt : k < o.length
            · rcases HI1.out with ⟨_, ee⟩ | ⟨b3, o3, cap3, ee, _, hcl3⟩
              · rw [ee] at hlt; simp at hlt
              cases ee
              have g0 : wr.cell? ⟨b3, o3 + k, none⟩ = some (.int .i64 o[k]) := by have := HXi.out.cell (hcl3 k hlt); rw [Nat.mul_one] at this; exact this
              have hbd := HB1.out _ (List.getElem_mem hlt)
              have hst := sums_take (fun c hc => (HB1.out c hc).2.2) k
              have HSN : Hid (sumI (wOf cells (o.take (k + 1))) = sumI (wOf cells (o.take k)) + wAt cells o[k]) := by unfold Hid; rw [List.take_succ_eq_append_getElem hlt, wOf_app, sumI_snoc]
              obtain ⟨cN, hcN⟩ := Int.eq_ofNat_of_zero_le hbd.1
              have hcL : cN < cells.length := by omega
              have hxc : ∃ (cb co : Nat), ka = some ⟨cb, co, none⟩ ∧ wr.cell? ⟨cb, co + cN * 6 + 1, none⟩ = some (.int .i64 (wAt cells o[k])) := by
                rcases HC.out with ⟨_, ee⟩ | ⟨cb, co, cap', ee, _, hcc⟩
                · rw [ee] at hcL; simp at hcL
                cases ee
                refine ⟨cb, co, rfl, ?_⟩
                rw [(HXV2.out.trans HXi.out).cell (hcc cN hcL).2.1]
                congr 2
                unfold wAt
                rw [hcN]
                simp [hcL]
              obtain ⟨cb, co, rfl, hcW⟩ := hxc
              rw [hcN] at g0 hbd HSN hcW
              clear hcl3 hcN
              generalize wAt cells (cN : Int) = wd at *
              generalize hsk : sumI (wOf cells (o.take k)) = sk at *
              clear hsk
              have hcI : (cN : Int) < (cells.length : Int) := by omega
              have hc0 : (0 : Int) ≤ (cN : Int) := by omega
              have hwr : wrap64 ((0 : Int) + sk + wd) = (0 : Int) + sk + wd := by unfold wrap64; omega
              gi_wp2
              go_roundw
              case rel => exact ⟨k + 1, by omega, by go_num, by rw [HSN.out]; simp, HXi.out⟩
              case measure => simp [intOf]; omega
            · obtain rfl : k = o.length := by omega
              have hse : sumI (wOf cells (o.take o.length)) = _ := (congrArg (fun l => sumI (wOf cells l)) (List.take_length)).trans HBO.out
              rw [hse]
              clear hse
              gi_wp2
              go_roundw
              case rel => exact ⟨1, by omega, rfl, by simp, HXi.out⟩
              case measure => simp [intOf]
        · have hvb := HXr.out.block _ (lt_heap HVB2.out)
          rw [HVB2.out] at hvb
          have u0 : wr.cell? ⟨rc, 1, none⟩ = some (.slice a2 nw.length e2) := by rw [Lib.cell_of_heap hvb]; rfl
          clear hvb
          have hif : (if 1 = 0 then (0 : Int) else if 1 = 1 then (bo : Int) else (bo : Int) + (bn : Int)) = (bo : Int) := by simp
          rw [hif]
          gi_wp2
          gi_loopw [55, 12] (fun iv bv wr => ∃ k : Nat, k ≤ nw.length ∧ iv = .int .i64 k ∧ bv = .int .i64 ((bo : Int) + sumI (wOf cells (nw.take k))) ∧ Ext V2 wr) (fun iv _ _ => nw.length - (intOf iv).toNat)
          case atStart => exact ⟨0, Nat.zero_le _, rfl, by simp [wOf, sumI], HXr.out⟩
          case round =>
            clear u0 hif
            obtain ⟨k, hk, rfl, rfl, hX⟩ := hrel
            have HXi := Lib.hid hX
            clear hX HXr
            by_cases hlt : k < nw.length
            · rcases HI2.out with ⟨_, ee⟩ | ⟨b3, o3, cap3, ee, _, hcl3⟩
              · rw [ee] at hlt; simp at hlt
              cases ee
              have g0 : wr.cell? ⟨b3, o3 + k, none⟩ = some (.int .i64 nw[k]) := by have := HXi.out.cell (hcl3 k hlt); rw [Nat.mul_one] at this; exact this
              have hbd := HB2.out _ (List.getElem_mem hlt)
              have hst := sums_take (fun c hc => (HB2.out c hc).2.2) k
              have HSN : Hid (sumI (wOf cells (nw.take (k + 1))) = sumI (wOf cells (nw.take k)) + wAt cells nw[k]) := by unfold Hid; rw [List.take_succ_eq_append_getElem hlt, wOf_app, sumI_snoc]
              obtain ⟨cN, hcN⟩ := Int.eq_ofNat_of_zero_le hbd.1
              have hcL : cN < cells.length := by omega
              have hxc : ∃ (cb co : Nat), ka = some ⟨cb, co, none⟩ ∧ wr.cell? ⟨cb, co + cN * 6 + 1, none⟩ = some (.int .i64 (wAt cells nw[k])) := by
                rcases HC.out with ⟨_, ee⟩ | ⟨cb, co, cap', ee, _, hcc⟩
                · rw [ee] at hcL; simp at hcL
                cases ee
                refine ⟨cb, co, rfl, ?_⟩
                rw [(HXV2.out.trans HXi.out).cell (hcc cN hcL).2.1]
                congr 2
                unfold wAt
                rw [hcN]
                simp [hcL]
              obtain ⟨cb, co, rfl, hcW⟩ := hxc
              rw [hcN] at g0 hbd HSN hcW
              clear hcl3 hcN
              generalize wAt cells (cN : Int) = wd at *
              generalize hsk : sumI (wOf cells (nw.take k)) = sk at *
              clear hsk
              have hcI : (cN : Int) < (cells.length : Int) := by omega
              have hc0 : (0 : Int) ≤ (cN : Int) := by omega
              have hwr : wrap64 ((bo : Int) + sk + wd) = (bo : Int) + sk + wd := by unfold wrap64; omega
              gi_wp2
              go_roundw
              case rel => exact ⟨k + 1, by omega, by go_num, by rw [HSN.out]; simp [Int.add_assoc], HXi.out⟩
              case measure => simp [intOf]; omega
            · obtain rfl : k = nw.length := by omega
              have hse : sumI (wOf cells (nw.take nw.length)) = _ := (congrArg (fun l => sumI (wOf cells l)) (List.take_length)).trans HBN.out
              rw [hse]
              clear hse
              gi_wp2
              go_roundw
              case rel => exact ⟨2, by omega, rfl, by simp, HXi.out⟩
              case measure => simp [intOf]
        · have h4096 : bo + bn ≤ 12 := h12
          have hif : (if 2 = 0 then (0 : Int) else if 2 = 1 then (bo : Int) else (bo : Int) + (bn : Int)) = (((bo + bn : Nat) : Int)) := by simp
          rw [hif]
          clear hif
          have HXN := Lib.hid (HXV2.out.trans HXr.out)
          have HXRR := Lib.hid HXr.out
          clear hj HXr HVB2
          obtain ⟨bt, hbt⟩ : ∃ bt, bt = bo + bn := ⟨_, rfl⟩
          have hbt12 : ¬ ((14 : Int) < (bt : Int)) := by omega
          rw [← hbt]
          have HBT := Lib.hid hbt
          clear hbt h4096
          gi_upto_region 20 with fail
          gi_upto_region 21 with fail
          obtain ⟨WF, hWF⟩ : ∃ WF, WF = wr.alloc (.cells #[.func (.func 45) #[] #[.pointer (some ⟨w.heap.size, 0, none⟩)]] 79) := ⟨_, rfl⟩
          have hbF : WF.heap[wr.heap.size]? = some (.cells #[.func (.func 45) #[] #[.pointer (some ⟨w.heap.size, 0, none⟩)]] 79 (0, 0)) := by rw [hWF]; exact heap_new _ _
          have xF : Ext wr WF := by rw [hWF]; exact (Ext.refl _).alloc _
          have HXF := Lib.hid (HXN.out.trans xF); have HBF := Lib.hid hbF
          have HI1o := Lib.hid (HI1.out.ext (HXRR.out.trans xF)); have HI2o := Lib.hid (HI2.out.ext (HXRR.out.trans xF))
          rw [← hWF]
          clear hWF xF hbF HXN
          generalize wr.heap.size = rf at *
          gi_wp2
          refine ⟨trivial, (pairsD_in _ _ _ _ _ _ _ _ _ _ _ _).mono ?_⟩
          rintro r V3 ⟨rfl, hV3⟩
          obtain ⟨x3, z3, b0, b1, b2, b3⟩ := Boxes4.mk' _ _ _ _ _ hV3
          have hXV3 := HXF.out.trans x3
          have HX3 := Lib.hid (HX.out.trans hXV3)
          have HX3W := Lib.hid hXV3
          have HWV : Hid (w.heap.size + 5 ≤ V3.heap.size) := HGE.out _ hXV3
          have HBF3 := Lib.hid ((x3.block _ (lt_heap HBF.out)).trans HBF.out)
          have HR3 := Lib.hid (HRES.out.ext hXV3)
          have HPA : Hid (PairAt cells o nw bt (.slice ka cells.length kc) (.slice a1 o.length e1) (.slice a2 nw.length e2) WF.heap.size (WF.heap.size + 3) (WF.heap.size + 1) (WF.heap.size + 2) V3) :=
            ⟨by rw [Lib.cell_of_heap b0]; rfl, HC.out.ext hXV3, by rw [Lib.cell_of_heap b3]; rfl, by rw [Lib.cell_of_heap b1]; rfl, HI1o.out.ext x3, by rw [Lib.cell_of_heap b2]; rfl, HI2o.out.ext x3⟩
          clear hV3 x3 z3 b0 b1 b2 b3 hXV3
          generalize WF.heap.size = q at *
          have HG := Lib.hid (pairs1_gives 3 (by omega) cells o nw bo bn (.slice ka cells.length kc) (.slice a1 o.length e1) (.slice a2 nw.length e2) q (q + 3) (q + 1) (q + 2) V3 hL HBO.out HBN.out h12 HP1.out HP2.out HB1.out HB2.out)
          rw [← HBT.out] at HG HNUM
          have hwv := HWV.out
          gi_wp2
          refine wpIn_range_S rfl (by omega) (gf := 74) (lb := #[.pointer (some ⟨q, 0, none⟩), .pointer (some ⟨q + 3, 0, none⟩), .pointer (some ⟨q + 1, 0, none⟩), .pointer (some ⟨q + 2, 0, none⟩)]) rfl trivial (enters_of Tryz.func74 (by kernel_rfl) rfl)
            HG.out (Below.refl _ _) (fun k h => by rcases h with h | h <;> omega) (fun _ => rfl)
            (fun pre W => Ext V3 W ∧ ∀ x ∈ pre, ∃ r1 r2, DigL o (wOf cells o) ((x : PX).n : Int) r1 ∧ DigL nw (wOf cells nw) ((x.n : Int) / pw (bo : Int)) r2 ∧ violB c.hyp c.goal r1 r2 = false)
            (fun cc pre W => cc = .ret ∧ Ext w W ∧ ∃ (ga gb : Nat) (f1 f2 : Nat → Int), Res4 (w.heap.size + 1) 2 (.slice (some ⟨ga, 0, none⟩) cells.length cells.length) (.slice (some ⟨gb, 0, none⟩) cells.length cells.length) 0 W ∧ IRow W ga cells.length f1 ∧ IRow W gb cells.length f2 ∧ violB c.hyp c.goal (rowL cells.length f1) (rowL cells.length f2) = true)
            (ext_own (Nat.le_refl _) _) (fun s A B h hx => ⟨ext_stepX (b := V3.heap.size + 2) (by omega) h.1 hx, h.2⟩) (fun s A h => HPA.out.ext h.1)
            (fun cc s A B row h hg hr => ⟨h.1, h.2.1.grown hg (fun k e => by have := (hr k e).1; omega), by
              obtain ⟨ga, gb, f1, f2, g1, g2, g3, g4⟩ := h.2.2
              exact ⟨ga, gb, f1, f2, g1.grown hg (fun r e => (hr r e).2), g2.grown hg (fun r e => (hr r e).2), g3.grown hg (fun r e => (hr r e).2), g4⟩⟩)
            ⟨Ext.refl _, fun x h => by cases h⟩ ?a1 ?assign (fun b x A B h hk => h.keep hk) ?body ?done ?stop
          case assign =>
            intro lp x W K hK
            dsimp only [encP]
            gi_wp2
            exact hK
          case body =>
            rintro lp pre x W ⟨hX, hpre⟩ hgd hsz _
            obtain ⟨hxn, hxa, hxb, f1, f2, hr1, hr2, hd1, hd2⟩ := hgd
            have hbF := (hX.block _ (lt_heap HBF3.out)).trans HBF3.out
            have y0 : W.cell? ⟨rf, 0, none⟩ = some (.func (.func 45) #[] #[.pointer (some ⟨w.heap.size, 0, none⟩)]) := by rw [Lib.cell_of_heap hbF]; rfl
            have hXW := HX3W.out.trans hX
            have HFAL := Lib.hid (Falsifies_any c w.heap.size (rowL cells.length f1) (rowL cells.length f2) _ _ W (HIN.out.ext hXW) (hr1.ints hL) (hr2.ints hL) (HM.out.ext hXW))
            have HD1 := Lib.hid (rowL_dig hd1 fun c hc => ⟨(HB1.out c hc).1, (HB1.out c hc).2.1⟩)
            have HD2 := Lib.hid (rowL_dig hd2 fun c hc => ⟨(HB2.out c hc).1, (HB2.out c hc).2.1⟩)
            have HXV := Lib.hid hX; have HPR := Lib.hid hpre; have HXW := Lib.hid hXW; have HI1 := Lib.hid hr1; have HI2 := Lib.hid hr2
            clear hX hpre hXW hr1 hr2 hd1 hd2 hbF
            gi_wp2
            refine ⟨trivial, CallsIn.inRound lp (callsIn_wide.2 (HFAL.out.mono ?_))⟩
            rintro r w5 ⟨rfl, x5⟩
            have X5 := Lib.hid x5
            clear x5 y0
            cases hv : violB c.hyp c.goal (rowL cells.length f1) (rowL cells.length f2) with
            | true =>
              have HVT := Lib.hid hv
              clear hv
              have hX5 := HXV.out.trans X5.out
              have hres := HR3.out.ext hX5
              obtain ⟨r0, r1, r2, r3⟩ := id hres
              have k0 : w5.cell? ⟨w.heap.size + 1, 0, none⟩ = some (.int .i64 0) := by rw [Lib.cell_of_heap r0]; rfl
              have k1 : w5.cell? ⟨w.heap.size + 1 + 1, 0, none⟩ = some (.slice none 0 0) := by rw [Lib.cell_of_heap r1]; rfl
              have k2 : w5.cell? ⟨w.heap.size + 1 + 2, 0, none⟩ = some (.slice none 0 0) := by rw [Lib.cell_of_heap r2]; rfl
              have k3 : w5.cell? ⟨w.heap.size + 1 + 3, 0, none⟩ = some (.int .i64 0) := by rw [Lib.cell_of_heap r3]; rfl
              have f0 := Lib.frozen_of_heap r0 0; have f1' := Lib.frozen_of_heap r1 0; have f2' := Lib.frozen_of_heap r2 0; have f3 := Lib.frozen_of_heap r3 0
              obtain ⟨V9, hV9⟩ : ∃ V9, V9 = (((w5.setCell ⟨w.heap.size + 1, 0, none⟩ (.int .i64 2)).setCell ⟨w.heap.size + 1 + 1, 0, none⟩ (.slice (some ⟨x.a, 0, none⟩) cells.length cells.length)).setCell ⟨w.heap.size + 1 + 2, 0, none⟩ (.slice (some ⟨x.b, 0, none⟩) cells.length cells.length)).setCell ⟨w.heap.size + 1 + 3, 0, none⟩ (.int .i64 0) := ⟨_, rfl⟩
              obtain ⟨j1, j2, j3⟩ := res4_set hres 2 (.slice (some ⟨x.a, 0, none⟩) cells.length cells.length) (.slice (some ⟨x.b, 0, none⟩) cells.length cells.length) 0 hV9
              have HJ1 := Lib.hid j1; have HXE := Lib.hid (j3 w (HX3.out.trans hX5) (by omega)); have HV9 := Lib.hid hV9
              have HKF := Lib.hid (res4_keeps (w.heap.size + 1) 2 _ _ 0 V3.heap.size hV9)
              have HI1' := Lib.hid ((HI1.out.extB X5.out).block (j2 x.a (.inr (by omega))))
              have HI2' := Lib.hid ((HI2.out.extB X5.out).block (j2 x.b (.inr (by omega))))
              clear j1 j2 j3 hV9 hres r0 r1 r2 r3 hX5
              gi_wp2
              rw [← HV9.out]
              exact ⟨(X5.out.keepsFrom _).trans HKF.out, rfl, HXE.out, x.a, x.b, f1, f2, HJ1.out, HI1'.out, HI2'.out, HVT.out⟩
            | false =>
              have HVF := Lib.hid hv
              clear hv
              gi_wp2
              refine ⟨X5.out.keepsFrom _, ⟨X5.out.size, fun k cs t fr _ hk => (X5.out.block k (lt_heap hk)).trans hk⟩, HXV.out.trans X5.out, fun y hy => ?_⟩
              rcases List.mem_append.1 hy with hy | hy
              · exact HPR.out y hy
              · rw [List.mem_singleton] at hy; subst hy; exact ⟨_, _, HD1.out, HD2.out, HVF.out⟩
          case done =>
            rintro D xs W hD hxs ⟨hX, hall⟩ hK
            have HYES : Hid (∀ old now, violB c.hyp c.goal old now = false) := fun old now => by
              obtain ⟨n, hn, hk⟩ := HNUM.out old now
              have hm : n ∈ xs.map PX.n := by rw [hxs]; exact List.mem_range.2 hn
              obtain ⟨x, hx, rfl⟩ := List.mem_map.1 hm
              obtain ⟨r1, r2, d1, d2, hv⟩ := hall x hx
              rw [← hk r1 r2 d1 d2]; exact hv
            have hres := HR3.out.ext hX
            obtain ⟨r0, r1, r2, r3⟩ := id hres
            have k0 : W.cell? ⟨w.heap.size + 1, 0, none⟩ = some (.int .i64 0) := by rw [Lib.cell_of_heap r0]; rfl
            have k1 : W.cell? ⟨w.heap.size + 1 + 1, 0, none⟩ = some (.slice none 0 0) := by rw [Lib.cell_of_heap r1]; rfl
            have k2 : W.cell? ⟨w.heap.size + 1 + 2, 0, none⟩ = some (.slice none 0 0) := by rw [Lib.cell_of_heap r2]; rfl
            have k3 : W.cell? ⟨w.heap.size + 1 + 3, 0, none⟩ = some (.int .i64 0) := by rw [Lib.cell_of_heap r3]; rfl
            have f0 := Lib.frozen_of_heap r0 0; have f1' := Lib.frozen_of_heap r1 0; have f2' := Lib.frozen_of_heap r2 0; have f3 := Lib.frozen_of_heap r3 0
            obtain ⟨V9, hV9⟩ : ∃ V9, V9 = (((W.setCell ⟨w.heap.size + 1, 0, none⟩ (.int .i64 1)).setCell ⟨w.heap.size + 1 + 1, 0, none⟩ (.slice none 0 0)).setCell ⟨w.heap.size + 1 + 2, 0, none⟩ (.slice none 0 0)).setCell ⟨w.heap.size + 1 + 3, 0, none⟩ (.int .i64 0) := ⟨_, rfl⟩
            obtain ⟨j1, j2, j3⟩ := res4_set hres 1 (.slice none 0 0) (.slice none 0 0) 0 hV9
            have HXE := Lib.hid (j3 w (HX3.out.trans hX) (by omega)); have HV9 := Lib.hid hV9
            have HKD : Hid (V9.heap[D]? = some (.deferred (some []))) := (j2 D (.inr (by omega))).trans hK
            have HJP : Hid (Res4 (w.heap.size + 1) 1 (.slice none 0 0) (.slice none 0 0) 0 (V9.putObj D (.deferred none))) := j1.keep fun k hk => World.putObj_heap_other (by omega)
            clear j1 j2 j3 hV9 hres r0 r1 r2 r3 hxs hX hall hK
            gi_wp2
            rw [← HV9.out]
            refine ⟨by simp, .inl ⟨_, _, rfl, run_takeDeferred HKD.out, ?_⟩⟩
            refine ⟨_, HJP.out.run rfl rfl rfl rfl, ?_⟩
            exact ⟨.inr ⟨HFT.out, .inl ⟨HYES.out, rfl⟩⟩, HXE.out.putD (by omega) _⟩
          case stop =>
            rintro D cc pre W hD _ ⟨rfl, hX, ga', gb', f1, f2, hres, hr1, hr2, hv⟩ hK
            have HK := Lib.hid hK; have HX := Lib.hid hX
            have HJP : Hid (Res4 (w.heap.size + 1) 2 (.slice (some ⟨ga', 0, none⟩) cells.length cells.length) (.slice (some ⟨gb', 0, none⟩) cells.length cells.length) 0 (W.putObj D (.deferred none))) := hres.keep fun k hk => World.putObj_heap_other (by omega)
            have key : ∀ {g : Nat} {f : Nat → Int}, IRow W g cells.length f → IRow (W.putObj D (.deferred none)) g cells.length f := fun {g f} h => h.block (World.putObj_heap_other (fun e => by
              obtain ⟨cc, hc, _⟩ := h
              rw [e, hK] at hc; cases hc))
            have HI1 := Lib.hid ((key hr1).ints hL); have HI2 := Lib.hid ((key hr2).ints hL); have HVT := Lib.hid hv
            clear hK hX hres hr1 hr2 hv key
            gi_wp2
            refine ⟨by simp, .inl ⟨_, _, rfl, run_takeDeferred HK.out, ?_⟩⟩
            refine ⟨_, HJP.out.run rfl rfl rfl rfl, ?_⟩
            exact ⟨.inr ⟨HFT.out, .inr ⟨_, _, _, _, HVT.out, HI1.out, HI2.out, rfl⟩⟩, HX.out.putD (by omega) _⟩
end Go.Proofs.YtlcgbdjmlnjhcaaGreatDoor
namespace Go.Proofs.YtlcgbdjmlnjhcaaGreatDoor
open Go.RowKit
attribute [local go_sem] Oper.semAt_some

theorem formCC_iff {cells : List CellD} {c : CondS} : formCC cells c = true ↔ formC cells c.hyp ∧ formC cells c.goal := by
  unfold formCC formC
  simp only [Bool.and_eq_true, beq_iff_eq]
  constructor
  · rintro ⟨a, b, x, y⟩; exact ⟨⟨a, x⟩, b, y⟩
  · rintro ⟨⟨a, x⟩, b, y⟩; exact ⟨a, b, x, y⟩
theorem occ_choose {cells : List CellD} {a b : List Int} (h : ∀ x, x ∈ a ∨ x ∈ b → ∃ j : Nat, x = (j : Int) ∧ j < cells.length) : occL a b = chooseL cells a b := by
  unfold occL chooseL
  refine upTo_congr fun j _ => ?_
  cases h1 : a.contains (j : Int) || b.contains (j : Int) with
  | false => simp
  | true =>
    simp only [Bool.or_eq_true, List.contains_iff_mem] at h1
    obtain ⟨i, hi, hl⟩ := h _ h1
    have : j < cells.length := by omega
    simp [this]
section
variable {cells : List CellD} {h g : E} (hh : formC cells h) (hg : formC cells g)
include hh hg
theorem occ_old : occL h.supOld g.supOld = hOld cells h g := by
  have key : ∀ e : E, formC cells e → ∀ x ∈ e.supOld, ∃ j : Nat, x = (j : Int) ∧ j < cells.length := fun e he x hx => by
    obtain ⟨y, hy, h3, hn⟩ := sup_leaf.2 hx
    obtain ⟨j, hj, h32, hl, _⟩ := form_leaf he hy (.inr h3)
    exact ⟨j, by rw [← hn, hj], hl⟩
  exact occ_choose fun x hx => hx.elim (key h hh x) (key g hg x)
theorem occ_now : occL h.supNow g.supNow = hNow cells h g := by
  have key : ∀ e : E, formC cells e → ∀ x ∈ e.supNow, ∃ j : Nat, x = (j : Int) ∧ j < cells.length := fun e he x hx => by
    obtain ⟨y, hy, h3, hn⟩ := sup_leaf.1 hx
    obtain ⟨j, hj, h32, hl, _⟩ := form_leaf he hy (.inl h3)
    exact ⟨j, by rw [← hn, hj], hl⟩
  exact occ_choose fun x hx => hx.elim (key h hh x) (key g hg x)
end
theorem parts_eq {cells : List CellD} {c : CondS} (hh : formC cells c.hyp) (hg : formC cells c.goal) : partP c = cP cells c.hyp c.goal ∧ partQ c = cQ cells c.hyp c.goal ∧ partS c = stepB cells c.hyp c.goal := by
  unfold partP partQ partS cP cQ stepB
  rw [occ_old hh hg, occ_now hh hg]
  cases hOld cells c.hyp c.goal with
  | nil => exact ⟨rfl, rfl, rfl⟩
  | cons a r => exact ⟨rfl, rfl, rfl⟩
def small32 (cells : List CellD) (c : CondS) : Bool := small22S cells c 60 && (formCC cells c && decide (sumI (wOf cells (partP c)) + sumI (wOf cells (partQ c)) ≤ 10))

set_option maxRecDepth 100000 in
set_option maxHeartbeats 4000000 in
theorem small32_any (cells : List CellD) (c : CondS) (kv v : Value) (w : World) (hC : Cells w kv cells) (hv : CondV w v c) :
    Calls Tryz.prog 9 #[kv, v] w fun r w' => r = .returned (.bool (small32 cells c)) ∧ Ext w w' := by
  have HCV := hv
  obtain ⟨ha, hl, hcp, ga, gl, gc, rfl, e1, e2⟩ := hv
  obtain ⟨ka, kc, rfl⟩ := SliceAt.shape hC
  have hcl := SliceAt.len_le hC
  obtain ⟨W, hW⟩ : ∃ W, W = w.alloc (.cells (condCells c ha hl hcp ga gl gc) 27) := ⟨_, rfl⟩
  have hX : Ext w W := by rw [hW]; exact (Ext.refl _).alloc _
  have hat : CondAt W w.heap.size c ha hl hcp ga gl gc := by rw [hW]; exact heap_new _ _
  have HAT := Lib.hid hat
  obtain ⟨⟨d0, d1, d2, d3, d4, d5, d6, d7, d8, d9, d10, d11, d12, d13⟩, _⟩ := blocks14 hat
  have HC := Lib.hid (hC.ext hX); have HV := Lib.hid (HCV.ext hX)
  have HX := Lib.hid hX; have HW := Lib.hid hW
  have HS1 := Lib.hid (RSmall22_any cells c _ _ 60 W HC.out HV.out (by omega) (by omega))
  have HF : Hid (small32 cells c = (small22S cells c 60 && (formCC cells c && decide (sumI (wOf cells (partP c)) + sumI (wOf cells (partQ c)) ≤ 10)))) := rfl
  clear hC HCV hX hat e1 e2 hW
  unfold condCells at *
  go_enter Tryz.func9, Tryz.ntmps9
  go_upto_region 1 with fail
  rw [← HW.out]
  clear HW
  generalize w.heap.size = b at *
  go_wp2_with fail
  refine HS1.out.mono ?_
  rintro r w1 ⟨rfl, x1⟩
  have X1 := Lib.hid x1
  clear x1 d0 d1 d2 d3 d4 d5 d6 d7 d8 d9 d10 d11 d12 d13 HS1
  obtain ⟨⟨d0, d1, d2, d3, d4, d5, d6, d7, d8, d9, d10, d11, d12, d13⟩, _⟩ := blocks14 ((X1.out.block _ (lt_heap HAT.out)).trans HAT.out)
  cases hz1 : small22S cells c 60 with
  | false =>
    rw [hz1] at HF
    clear hz1
    go_wp2_with fail
    go_ret
    rw [HF.out]; exact ⟨rfl, HX.out.trans X1.out⟩
  | true =>
    have hcl40 : cells.length ≤ 40 := by
      unfold small22S at hz1
      simp only [Bool.and_eq_true, decide_eq_true_eq] at hz1
      exact hz1.1
    rw [hz1] at HF
    clear hz1
    have HV2 := Lib.hid (RFormed32_any cells c _ _ w1 (HC.out.ext X1.out) (HV.out.ext X1.out))
    go_wp2_with fail
    refine HV2.out.mono ?_
    rintro r w2 ⟨rfl, x2⟩
    have X2 := Lib.hid (X1.out.trans x2)
    clear x2 HV2 d0 d1 d2 d3 d4 d5 d6 d7 d8 d9 d10 d11 d12 d13
    obtain ⟨⟨d0, d1, d2, d3, d4, d5, d6, d7, d8, d9, d10, d11, d12, d13⟩, _⟩ := blocks14 ((X2.out.block _ (lt_heap HAT.out)).trans HAT.out)
    cases hz2 : formCC cells c with
    | false =>
      rw [hz2] at HF
      clear hz2
      go_wp2_with fail
      go_ret
      rw [HF.out]; exact ⟨rfl, HX.out.trans X2.out⟩
    | true =>
      have hform := formCC_iff.1 hz2
      rw [hz2] at HF
      have hpq := parts_eq hform.1 hform.2
      have HB1 : Hid (∀ x ∈ partP c, 0 ≤ x ∧ x < (cells.length : Int) ∧ 1 ≤ wAt cells x ∧ wAt cells x ≤ 8) := fun x hx => by
        rw [hpq.1] at hx; unfold cP at hx
        split at hx
        · have := old_w hform.1 hform.2 hx; omega
        · have := now_w hform.1 hform.2 hx; omega
      have HB2 : Hid (∀ x ∈ partQ c, 0 ≤ x ∧ x < (cells.length : Int) ∧ 1 ≤ wAt cells x ∧ wAt cells x ≤ 8) := fun x hx => by
        rw [hpq.2.1] at hx; unfold cQ at hx
        split at hx
        · have := now_w hform.1 hform.2 hx; omega
        · have := old_w hform.1 hform.2 hx; omega
      have hl1 : (partP c).length ≤ 32 := by
        unfold partP; split
        · exact occL_len _ _
        · exact occL_len _ _
      have hl2 : (partQ c).length ≤ 32 := by
        unfold partQ; split
        · exact Nat.zero_le _
        · exact occL_len _ _
      have HPT := Lib.hid (RParts_any c _ w2 (HV.out.ext X2.out))
      clear hz2 hform hpq
      generalize partP c = P at *
      generalize partQ c = Q at *
      generalize partS c = S at *
      go_wp2_with fail
      refine HPT.out.mono ?_
      rintro r w3 ⟨⟨v1, v2, rfl, i1, i2⟩, x3⟩
      obtain ⟨a1, b1, rfl⟩ := i1.shape
      obtain ⟨a2, b2, rfl⟩ := i2.shape
      have HI1 := Lib.hid i1; have HI2 := Lib.hid i2; have X3 := Lib.hid (X2.out.trans x3)
      clear i1 i2 x3 HPT d0 d1 d2 d3 d4 d5 d6 d7 d8 d9 d10 d11 d12 d13
      go_wp2_with fail
      go_loopw [9, 8] (fun iv nv wr => ∃ k : Nat, k ≤ P.length ∧ iv = .int .i64 k ∧ nv = .int .i64 (sumI (wOf cells (P.take k))) ∧ Ext w3 wr) (fun iv _ _ => P.length - (intOf iv).toNat)
      case atStart => exact ⟨0, Nat.zero_le _, rfl, by simp [wOf, sumI], Ext.refl _⟩
      case round =>
        obtain ⟨k, hk, rfl, rfl, hX⟩ := hrel
        have HXi := Lib.hid hX
        clear hX
        by_cases hlt : k < P.length
        · rcases HI1.out with ⟨_, ee⟩ | ⟨b3, o3, cap3, ee, _, hcl3⟩
          · rw [ee] at hlt; simp at hlt
          cases ee
          have g0 : wr.cell? ⟨b3, o3 + k, none⟩ = some (.int .i64 P[k]) := by have := HXi.out.cell (hcl3 k hlt); rw [Nat.mul_one] at this; exact this
          have hbd := HB1.out _ (List.getElem_mem hlt)
          have hst := sums_take (fun c hc => (HB1.out c hc).2.2) k
          have HSN : Hid (sumI (wOf cells (P.take (k + 1))) = sumI (wOf cells (P.take k)) + wAt cells P[k]) := by unfold Hid; rw [List.take_succ_eq_append_getElem hlt, wOf_app, sumI_snoc]
          obtain ⟨cN, hcN⟩ := Int.eq_ofNat_of_zero_le hbd.1
          have hcL : cN < cells.length := by omega
          have hxc : ∃ (cb co : Nat), ka = some ⟨cb, co, none⟩ ∧ wr.cell? ⟨cb, co + cN * 6 + 1, none⟩ = some (.int .i64 (wAt cells P[k])) := by
            rcases HC.out with ⟨_, ee⟩ | ⟨cb, co, cap', ee, _, hcc⟩
            · rw [ee] at hcL; simp at hcL
            cases ee
            refine ⟨cb, co, rfl, ?_⟩
            rw [(X3.out.trans HXi.out).cell (hcc cN hcL).2.1]
            congr 2
            unfold wAt
            rw [hcN]
            simp [hcL]
          obtain ⟨cb, co, rfl, hcW⟩ := hxc
          rw [hcN] at g0 hbd HSN hcW
          clear hcl3 hcN
          generalize wAt cells (cN : Int) = wd at *
          generalize hsk : sumI (wOf cells (P.take k)) = sk at *
          clear hsk
          have hcI : (cN : Int) < (cells.length : Int) := by omega
          have hc0 : (0 : Int) ≤ (cN : Int) := by omega
          have hwr : wrap64 (sk + wd) = sk + wd := by unfold wrap64; omega
          go_wp2_with fail
          exact ⟨⟨k + 1, by omega, by go_num, by rw [HSN.out], HXi.out⟩, by simp [intOf]; omega⟩
        · obtain rfl : k = P.length := by omega
          rw [List.take_length]
          have hst := sums_take (fun c hc => (HB1.out c hc).2.2) P.length
          rw [List.take_length] at hst
          generalize sumI (wOf cells P) = bo at *
          have HX1 := HXi
          clear HXi
          go_wp2_with fail
          go_loopw [10, 8] (fun iv nv wr => ∃ k : Nat, k ≤ Q.length ∧ iv = .int .i64 k ∧ nv = .int .i64 (bo + sumI (wOf cells (Q.take k))) ∧ Ext w3 wr) (fun iv _ _ => Q.length - (intOf iv).toNat)
          case atStart => exact ⟨0, Nat.zero_le _, rfl, by simp [wOf, sumI], HX1.out⟩
          case round =>
            obtain ⟨k, hk, rfl, rfl, hX⟩ := hrel
            have HXi := Lib.hid hX
            clear hX
            by_cases hlt : k < Q.length
            · rcases HI2.out with ⟨_, ee⟩ | ⟨b3, o3, cap3, ee, _, hcl3⟩
              · rw [ee] at hlt; simp at hlt
              cases ee
              have g0 : wr.cell? ⟨b3, o3 + k, none⟩ = some (.int .i64 Q[k]) := by have := HXi.out.cell (hcl3 k hlt); rw [Nat.mul_one] at this; exact this
              have hbd := HB2.out _ (List.getElem_mem hlt)
              have hst := sums_take (fun c hc => (HB2.out c hc).2.2) k
              have HSN : Hid (sumI (wOf cells (Q.take (k + 1))) = sumI (wOf cells (Q.take k)) + wAt cells Q[k]) := by unfold Hid; rw [List.take_succ_eq_append_getElem hlt, wOf_app, sumI_snoc]
              obtain ⟨cN, hcN⟩ := Int.eq_ofNat_of_zero_le hbd.1
              have hcL : cN < cells.length := by omega
              have hxc : ∃ (cb co : Nat), ka = some ⟨cb, co, none⟩ ∧ wr.cell? ⟨cb, co + cN * 6 + 1, none⟩ = some (.int .i64 (wAt cells Q[k])) := by
                rcases HC.out with ⟨_, ee⟩ | ⟨cb, co, cap', ee, _, hcc⟩
                · rw [ee] at hcL; simp at hcL
                cases ee
                refine ⟨cb, co, rfl, ?_⟩
                rw [(X3.out.trans HXi.out).cell (hcc cN hcL).2.1]
                congr 2
                unfold wAt
                rw [hcN]
                simp [hcL]
              obtain ⟨cb, co, rfl, hcW⟩ := hxc
              rw [hcN] at g0 hbd HSN hcW
              clear hcl3 hcN
              generalize wAt cells (cN : Int) = wd at *
              generalize hsk : sumI (wOf cells (Q.take k)) = sk at *
              clear hsk
              have hcI : (cN : Int) < (cells.length : Int) := by omega
              have hc0 : (0 : Int) ≤ (cN : Int) := by omega
              have hwr : wrap64 (bo + sk + wd) = bo + sk + wd := by unfold wrap64; omega
              go_wp2_with fail
              exact ⟨⟨k + 1, by omega, by go_num, by rw [HSN.out]; simp [Int.add_assoc], HXi.out⟩, by simp [intOf]; omega⟩
            · obtain rfl : k = Q.length := by omega
              rw [List.take_length]
              go_wp2_with fail
              go_ret
              rw [HF.out]; exact ⟨by simp, HX.out.trans (X3.out.trans HXi.out)⟩
end Go.Proofs.YtlcgbdjmlnjhcaaGreatDoor
