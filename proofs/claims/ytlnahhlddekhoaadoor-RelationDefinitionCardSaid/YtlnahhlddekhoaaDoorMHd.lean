/-
  What law15's first check computes, in plain words.
  The first check of law15 is true.
  The first check of law15 is true: the walk.
-/
import Derived.Test.YtlnahhlddekhoaaDoorMRp
import Derived.Test.YtlnahhlddekhoaaDoorMQf
import Derived.Deep.RegionHeld3
namespace Go.Proofs.YtlnahhlddekhoaaDoor
open Go.RowKit
def hdE : E := .mk 11 1 0 [.mk 2 2 0 [], .mk 8 2 0 [.mk 3 2 0 [], .mk 1 2 1 []]]
def hdCell : CellD := ⟨⟨#[120]⟩, 2, 0, -1, false, 0⟩
def hdSeven : CellD := ⟨⟨#[]⟩, 7, 0, 0, false, 0⟩
def hdP : List (Nat × Nat) := [(0, 1), (1, 2), (2, 3), (3, 0)]
theorem hd_err : relErr [hdCell] [0] hdE = 0 := by decide
theorem hd_wd : wOf [hdCell] [0] = [2] := by decide
theorem hd_rel : relP [hdCell] [0] hdE = hdP := by decide
theorem hd_valid : ValidR [0] [2] hdP := ⟨by decide, by decide, by simp [hdP, ltP], by decide⟩
theorem hd_set : ValidS [0] [2] [0, 1, 2] := ⟨by decide, by decide, by decide⟩
theorem hd_cmp : cmpP hdP hdP = [(0, 2), (1, 3), (2, 0), (3, 1)] := by decide
theorem hd_clo : (cloP (nn [2]) hdP).length = 16 := by decide +kernel
theorem hd_img : imgL hdP [0, 1, 2] = [1, 2, 3] := by decide
theorem hd_ins : insL hdP [0, 1, 2] = [0, 1] := by decide
theorem hd_ins2 : insL (cloP (nn [2]) hdP) [0, 1, 2] = [] := by decide +kernel
theorem hd_seven : shapeErr [hdSeven] [0] = 2 := by decide
theorem hd_imgB : decide (castL (imgL hdP [0, 1, 2]) = [1, 2, 3]) = true := by rw [hd_img]; decide
theorem hd_insB : decide (castL (insL hdP [0, 1, 2]) = [0, 1]) = true := by rw [hd_ins]; decide
end Go.Proofs.YtlnahhlddekhoaaDoor
namespace Go.Proofs.YtlnahhlddekhoaaDoor
open Go.RowKit

/-- A variable that holds an expression. -/
def VarE (w : World) (b : Nat) (op wd n : Int) (kv : Value) : Prop := w.heap[b]? = some (.cells #[.int .i64 op, .int .i64 wd, .int .i64 n, kv] 53 (0, 0))
theorem VarE.ext {w w' : World} {b : Nat} {op wd n : Int} {kv : Value} (h : VarE w b op wd n kv) (hx : Ext w w') : VarE w' b op wd n kv := (hx.block b (lt_heap h)).trans h
theorem VarE.new (w : World) (op wd n : Int) (kv : Value) : VarE (w.alloc (.cells #[.int .i64 op, .int .i64 wd, .int .i64 n, kv] 53)) w.heap.size op wd n kv := heap_new _ _
theorem VarE.cells {w : World} {b : Nat} {op wd n : Int} {kv : Value} (h : VarE w b op wd n kv) : w.cell? ⟨b, 0, none⟩ = some (.int .i64 op) ∧ w.cell? ⟨b, 1, none⟩ = some (.int .i64 wd) ∧ w.cell? ⟨b, 2, none⟩ = some (.int .i64 n) ∧ w.cell? ⟨b, 3, none⟩ = some kv := by
  unfold VarE at h; simp [World.cell?, h]
theorem EVal.shapeN {w : World} {v : Value} {op wd n : Int} {ks : List E} (h : EVal w v (.mk op wd n ks)) : ∃ a l c, v = .agg #[.int .i64 op, .int .i64 wd, .int .i64 n, .slice a l c] ∧ EVal w (.agg #[.int .i64 op, .int .i64 wd, .int .i64 n, .slice a l c]) (.mk op wd n ks) := by
  obtain ⟨a, c, h1, h2⟩ := h.shape'; exact ⟨a, _, c, h1, ⟨_, rfl, h2⟩⟩
theorem ev_leaf (w : World) (op wd n : Int) : EVal w (.agg #[.int .i64 op, .int .i64 wd, .int .i64 n, .slice none 0 0]) (.mk op wd n []) := ⟨_, rfl, .inl ⟨⟨_, _, rfl⟩, rfl⟩⟩
theorem old_at {w w' : World} {b : Nat} {o : Obj} (h : w.heap[b]? = some o) (hx : Ext w w') : w'.heap[b]? = some o := (hx.block b (lt_heap h)).trans h
theorem heap_new1 (w : World) (a b : Obj) : ((w.alloc a).alloc b).heap[w.heap.size]? = some a := old_at (heap_new w a) ((Ext.refl _).alloc _)
theorem heap_new2 (w : World) (a b : Obj) : ((w.alloc a).alloc b).heap[w.heap.size + 1]? = some b := by
  have := heap_new (w.alloc a) b; rwa [World.size_alloc] at this
theorem ints_one {w : World} {b : Nat} {x : Int} {t : TypeId} (h : w.heap[b]? = some (.cells #[.int .i64 x] t (0, 0))) : Ints w (.slice (some ⟨b, 0, none⟩) 1 1) [x] := by
  refine .inr ⟨b, 0, 1, rfl, by simp, fun i hi => ?_⟩
  have : i = 0 := by simp at hi; omega
  subst this
  simp [IntAt, World.cell?, h]
theorem cells_one {W : World} {B : Nat} {t : TypeId} {s : ByteArray} {x y : Int} (hb : W.heap[B]? = some (.cells #[.string s, .int .i64 x, .int .i64 0, .int .i64 y, .bool false, .int .i64 0] t (0, 0))) : Cells W (.slice (some ⟨B, 0, none⟩) 1 1) [⟨s, x, 0, y, false, 0⟩] := by
  refine .inr ⟨B, 0, 1, rfl, by simp, fun i h => ?_⟩
  have : i = 0 := by simp at h; omega
  subst this
  simp [CellAt, World.cell?, hb]

theorem one_any (w : World) : Calls Tryd.prog 37 #[] w fun r w' => ∃ B : Nat, r = .returned (.slice (some ⟨B, 0, none⟩) 1 1) ∧ Cells w' (.slice (some ⟨B, 0, none⟩) 1 1) [hdCell] ∧ Ext w w' := by
  go_enter Tryd.func37, Tryd.ntmps37
  go_wp2_with fail
  go_ret
  exact ⟨_, rfl, cells_one (heap_new _ _), (Ext.refl _).alloc _⟩

/-- relation.Of on the fixed input. -/
theorem hd_of {W V : World} {ve vc vl : Value} (he : EVal W ve hdE) (hM : Masks W) (hT : DeB W) (hx : Ext W V) (hc : Cells V vc [hdCell]) (hl : Ints V vl [0]) : Calls Tryd.prog 30 #[vc, vl, ve] V fun r w' =>
    ∃ a1 l1 c1 a2 l2 c2 a3 l3 c3, r = .returned (.tuple #[.agg #[.slice a1 l1 c1, .slice a2 l2 c2, .slice a3 l3 c3], .int .i64 0]) ∧ RelO w' V.heap.size (.agg #[.slice a1 l1 c1, .slice a2 l2 c2, .slice a3 l3 c3]) [0] [2] (castP hdP) ∧ Ext V w' := by
  refine (ROf_any [hdCell] [0] hdE vc vl ve V hc hl (he.ext hx) (by simp) (hM.ext hx) (hT.ext hx)).mono fun r w' hr => ?_
  unfold RelPost at hr
  rw [hd_err, if_pos rfl, hd_wd, hd_rel] at hr
  obtain ⟨v, rfl, h1, h2⟩ := hr
  obtain ⟨a1, l1, c1, a2, l2, c2, a3, l3, c3, rfl⟩ := h1.relV.shape'
  exact ⟨a1, l1, c1, a2, l2, c2, a3, l3, c3, rfl, h1, h2⟩
/-- The region's end: the variable was made ahead of the call, or behind it. -/
theorem hd_end {W wf : World} {b n : Nat} {x y z : Value} (hE : Ext W wf) (hb0 : W.heap.size ≤ b) (hb : b < n) (hz : wf.heap[b]? = some (.cells #[.slice none 0 0, .slice none 0 0, .slice none 0 0] 25 (0, 0))) (ho : RelO wf n (.agg #[x, y, z]) [0] [2] (castP hdP)) :
    Var3 25 (put3 wf b x y z) b x y z ∧ RelV (put3 wf b x y z) (.agg #[x, y, z]) [0] [2] (castP hdP) ∧ Ext W (put3 wf b x y z) :=
  ⟨put3_new hz, (ho.put3 hb _ _ _).relV, hE.put3 hb0 _ _ _⟩
theorem hd_end' {W wf : World} {n : Nat} {x y z : Value} (hE : Ext W wf) (ho : RelO wf n (.agg #[x, y, z]) [0] [2] (castP hdP)) :
    Var3 25 (wf.alloc (.cells #[x, y, z] 25)) wf.heap.size x y z ∧ RelV (wf.alloc (.cells #[x, y, z] 25)) (.agg #[x, y, z]) [0] [2] (castP hdP) ∧ Ext W (wf.alloc (.cells #[x, y, z] 25)) :=
  ⟨Var3.new _ _ _ _ _, ho.relV.ext ((Ext.refl _).alloc _), hE.alloc _⟩
theorem ints_two {W : World} {B : Nat} {t : TypeId} {x y : Int} (hb : W.heap[B]? = some (.cells #[.int .i64 x, .int .i64 y] t (0, 0))) : Ints W (.slice (some ⟨B, 0, none⟩) 2 2) [x, y] := by
  refine .inr ⟨B, 0, 2, rfl, by simp, fun i h => ?_⟩
  have : i = 0 ∨ i = 1 := by simp at h; omega
  rcases this with rfl | rfl <;> simp [IntAt, World.cell?, hb]
theorem ints_three {W : World} {B : Nat} {t : TypeId} {x y z : Int} (hb : W.heap[B]? = some (.cells #[.int .i64 x, .int .i64 y, .int .i64 z] t (0, 0))) : Ints W (.slice (some ⟨B, 0, none⟩) 3 3) [x, y, z] := by
  refine .inr ⟨B, 0, 3, rfl, by simp, fun i h => ?_⟩
  have : i = 0 ∨ i = 1 ∨ i = 2 := by simp at h; omega
  rcases this with rfl | rfl | rfl <;> simp [IntAt, World.cell?, hb]
theorem hd_setv (w : World) (t u : TypeId) : SetV ((((w.alloc (.cells #[.int .i64 0] 3)).alloc (.cells #[.int .i64 2] 3)).alloc (.cells #[.int .i64 0, .int .i64 1, .int .i64 2] t)).alloc (.cells #[.slice (some ⟨w.heap.size, 0, none⟩) 1 1, .slice (some ⟨w.heap.size + 1, 0, none⟩) 1 1, .slice (some ⟨w.heap.size + 1 + 1, 0, none⟩) 3 3] u))
    (.agg #[.slice (some ⟨w.heap.size, 0, none⟩) 1 1, .slice (some ⟨w.heap.size + 1, 0, none⟩) 1 1, .slice (some ⟨w.heap.size + 1 + 1, 0, none⟩) 3 3]) [0] [2] (castL [0, 1, 2]) := by
  have h3 : ∀ o, ((((w.alloc (.cells #[.int .i64 0] 3)).alloc (.cells #[.int .i64 2] 3)).alloc (.cells #[.int .i64 0, .int .i64 1, .int .i64 2] t)).alloc o).heap[w.heap.size + 1 + 1]? = some (.cells #[.int .i64 0, .int .i64 1, .int .i64 2] t (0, 0)) := fun o => old_at (by have := heap_new ((w.alloc (.cells #[.int .i64 0] 3)).alloc (.cells #[.int .i64 2] 3)) (.cells #[.int .i64 0, .int .i64 1, .int .i64 2] t); simpa using this) ((Ext.refl _).alloc _)
  refine ⟨_, _, _, rfl, (ints_one (heap_new _ _)).ext ((((Ext.refl _).alloc _).alloc _).alloc _), (ints_one (heap_new2 _ _ _)).ext (((Ext.refl _).alloc _).alloc _), ints_three (h3 _)⟩
theorem hd_var (w : World) (a b c : Obj) {x y z : Value} : Var3 27 ((((w.alloc a).alloc b).alloc c).alloc (.cells #[x, y, z] 27)) (w.heap.size + 1 + 1 + 1) x y z := by
  have := heap_new (((w.alloc a).alloc b).alloc c) (.cells #[x, y, z] 27)
  simpa [Var3] using this
theorem pair_lit {w : World} {v1 v2 : Value} {a : Option Addr} {n c : Nat} {cs ws : List Int} {P : List (Int × Int)} (h : RelV w (.agg #[v1, v2, .slice a n c]) cs ws P) {m : Nat} (hm : P.length = m) (k : Nat) (hk : k < P.length) {x y : Int} (hx : P[k] = (x, y)) :
    ∃ b o, a = some ⟨b, o, none⟩ ∧ n = m ∧ w.cell? ⟨b, o + k * 2, none⟩ = some (.int .i64 x) ∧ w.cell? ⟨b, o + k * 2 + 1, none⟩ = some (.int .i64 y) := by
  obtain ⟨_, _, _, e, _, _, h3⟩ := h
  cases e
  obtain ⟨b, o, c', e, g0, g1⟩ := pairAt_of h3 hk
  cases e
  rw [hx] at g0 g1
  exact ⟨b, o, rfl, hm, g0, g1⟩
theorem relv_len {w : World} {v1 v2 : Value} {a : Option Addr} {n c : Nat} {cs ws : List Int} {P : List (Nat × Nat)} (h : RelV w (.agg #[v1, v2, .slice a n c]) cs ws (castP P)) : n = P.length := by
  obtain ⟨_, _, _, e, _, _, h3⟩ := h
  cases e
  obtain ⟨_, _, e⟩ := SliceAt.shape h3
  cases e
  exact castP_len P
theorem setv_len {w : World} {v1 v2 : Value} {a : Option Addr} {n c : Nat} {cs ws : List Int} {l : List Nat} (h : SetV w (.agg #[v1, v2, .slice a n c]) cs ws (castL l)) : n = l.length := by
  obtain ⟨_, _, _, e, _, _, h3⟩ := h
  cases e
  obtain ⟨_, _, e⟩ := SliceAt.shape h3
  cases e
  simp [castL]
theorem setv_in {w : World} {v1 v2 v3 : Value} {cs ws is : List Int} (h : SetV w (.agg #[v1, v2, v3]) cs ws is) : Ints w v3 is := by
  obtain ⟨_, _, _, e, _, _, h3⟩ := h
  cases e; exact h3
/-- The identity of a cell of seven bits: too large. -/
theorem hd_id {w : World} (hM : Masks w) (hT : DeB w) (t u : TypeId) : Calls Tryd.prog 23 #[.slice (some ⟨w.heap.size, 0, none⟩) 1 1, .slice (some ⟨w.heap.size + 1, 0, none⟩) 1 1] ((w.alloc (.cells #[.string ⟨#[]⟩, .int .i64 7, .int .i64 0, .int .i64 0, .bool false, .int .i64 0] t)).alloc (.cells #[.int .i64 0] u)) fun r w' =>
    ∃ a1 l1 c1 a2 l2 c2 a3 l3 c3, r = .returned (.tuple #[.agg #[.slice a1 l1 c1, .slice a2 l2 c2, .slice a3 l3 c3], .int .i64 2]) ∧ Ext w w' := by
  have hx : Ext w ((w.alloc (.cells #[.string ⟨#[]⟩, .int .i64 7, .int .i64 0, .int .i64 0, .bool false, .int .i64 0] t)).alloc (.cells #[.int .i64 0] u)) := ((Ext.refl _).alloc _).alloc _
  refine (Identity_any [hdSeven] [0] _ _ _ ((cells_one (heap_new _ _)).ext ((Ext.refl _).alloc _)) (ints_one (heap_new2 _ _ _)) (by simp) (hM.ext hx) (hT.ext hx)).mono fun r w' hr => ?_
  unfold IdPost at hr
  rw [hd_seven, if_neg (by decide)] at hr
  obtain ⟨v, rfl, h1, h2⟩ := hr
  obtain ⟨a1, l1, c1, a2, l2, c2, a3, l3, c3, rfl⟩ := h1.relV.shape'
  exact ⟨a1, l1, c1, a2, l2, c2, a3, l3, c3, rfl, hx.trans h2⟩
end Go.Proofs.YtlnahhlddekhoaaDoor
namespace Go.Proofs.YtlnahhlddekhoaaDoor
open Go.RowKit

set_option maxRecDepth 100000 in
set_option maxHeartbeats 8000000 in
theorem head_any (w : World) (hT : DeB w) (hM : Masks w) : Calls Tryd.prog 9 #[] w fun r w' => r = .returned (.bool true) ∧ Ext w w' := by
  have HT := Lib.hid hT; have HM := Lib.hid hM
  clear hT hM
  go_enter Tryd.func9, Tryd.ntmps9
  go_wp2_with fail
  refine (RCell_any 0 2 _).mono ?_
  rintro r w1 ⟨rfl, x1⟩
  have HX := Lib.hid x1; clear x1
  go_wp2_with fail
  refine (ROld_any 0 2 _).mono ?_
  rintro r w2 ⟨rfl, x1⟩
  replace HX := Lib.hid (HX.out.trans x1); clear x1
  go_wp2_with fail
  refine (RConst_any 1 2 _).mono ?_
  rintro r w3 ⟨rfl, x1⟩
  replace HX := Lib.hid (HX.out.trans x1); clear x1
  go_wp2_with fail
  refine (RTwo_any 8 2 (.mk 3 2 0 []) (.mk 1 2 1 []) _ _ _ (ev_leaf _ _ _ _) (ev_leaf _ _ _ _)).mono ?_
  rintro r w4 ⟨⟨v, rfl, e⟩, x1⟩
  obtain ⟨ya, yl, yc, rfl, e⟩ := e.shapeN
  have HY := Lib.hid e
  replace HX := Lib.hid (HX.out.trans x1); clear x1 e
  go_wp2_with fail
  refine (RTwo_any 11 1 (.mk 2 2 0 []) (.mk 8 2 0 [.mk 3 2 0 [], .mk 1 2 1 []]) _ _ _ (ev_leaf _ _ _ _) HY.out).mono ?_
  rintro r w5 ⟨⟨v, rfl, e⟩, x1⟩
  obtain ⟨ea, el, ec, rfl, e⟩ := e.shapeN
  have HE := Lib.hid e
  replace HX := Lib.hid (HX.out.trans x1); clear x1 e HY
  go_upto_region 2 with fail
  obtain ⟨W1, hW1⟩ : ∃ W1, W1 = w5.alloc (.cells #[.int .i64 11, .int .i64 1, .int .i64 0, .slice ea el ec] 53) := ⟨_, rfl⟩
  have x1 : Ext w5 W1 := by rw [hW1]; exact (Ext.refl _).alloc _
  have HVe : Hid (VarE W1 w5.heap.size 11 1 0 (.slice ea el ec)) := by rw [hW1]; exact VarE.new _ _ _ _ _
  rw [← hW1]
  replace HX := Lib.hid (HX.out.trans x1); replace HE : Hid (EVal W1 _ hdE) := Lib.hid (HE.out.ext x1); replace HT := Lib.hid (HT.out.ext HX.out); replace HM := Lib.hid (HM.out.ext HX.out)
  clear x1 hW1
  generalize w5.heap.size = be at *
  go_cut [2, 3] (fun s2 s3 W => ∃ (b : Nat) (a1 : Option Addr) (l1 c1 : Nat) (a2 : Option Addr) (l2 c2 : Nat) (a3 : Option Addr) (l3 c3 : Nat), s2 = .pointer (some ⟨b, 0, none⟩) ∧ s3 = .int .i64 0 ∧ Var3 25 W b (.slice a1 l1 c1) (.slice a2 l2 c2) (.slice a3 l3 c3) ∧ RelV W (.agg #[.slice a1 l1 c1, .slice a2 l2 c2, .slice a3 l3 c3]) [0] [2] (castP hdP) ∧ Ext W1 W)
  case first =>
    obtain ⟨z0, z1, z2, z3⟩ := HVe.out.cells
    go_region_held3 (fun w' => w'.cell? ⟨be, 0, none⟩ = some (.int .i64 11) ∧ w'.cell? ⟨be, 1, none⟩ = some (.int .i64 1) ∧ w'.cell? ⟨be, 2, none⟩ = some (.int .i64 0) ∧ w'.cell? ⟨be, 3, none⟩ = some (.slice ea el ec))
      ((first
        | exact ⟨z0, z1, z2, z3⟩
        | (refine (HVe.out.ext ?_).cells; repeat (first | exact Ext.refl _ | exact HEf.out | exact HEo.out | apply Ext.drew | apply Ext.alloc)
           done)
        | (refine (HVe.out.ext ?_).cells; exact HEf.out.put3 (b := W1.heap.size) (Nat.le_refl _) _ _ _)
        | (refine (HVe.out.ext ?_).cells; exact HEf.out.put3 (b := W1.heap.size + 1) (Nat.le_succ _) _ _ _)
        | (refine (HVe.out.ext ?_).cells; exact HEf.out.put3 (b := wo.heap.size) HEo.out.size _ _ _)
        | (refine (HVe.out.ext ?_).cells; exact HEf.out.put3 (b := wo.heap.size + 1) (Nat.le_succ_of_le HEo.out.size) _ _ _)
        | fail))
      ((first
        | (go_at_call 37; refine (one_any _).mono ?_; rintro r wo ⟨B, rfl, hc, x1⟩
           have HEo : Hid (Ext W1 wo) := Ext.trans (by repeat (first | exact Ext.refl _ | apply Ext.drew | apply Ext.alloc)) x1
           have HC := Lib.hid hc
           try (have HI : Hid (Ints wo (.slice (some ⟨W1.heap.size, 0, none⟩) 1 1) [0]) := by first | exact (ints_one (heap_new _ _)).ext ((Ext.refl _).drew.trans x1) | exact (ints_one (heap_new1 _ _ _)).ext ((Ext.refl _).drew.trans x1))
           try (have HI : Hid (Ints wo (.slice (some ⟨W1.heap.size + 1, 0, none⟩) 1 1) [0]) := (ints_one (heap_new2 _ _ _)).ext ((Ext.refl _).drew.trans x1))
           try (have HZ : Hid (wo.heap[W1.heap.size]? = some (.cells #[.slice none 0 0, .slice none 0 0, .slice none 0 0] 25 (0, 0))) := by first | exact old_at (heap_new _ _) ((Ext.refl _).drew.trans x1) | exact old_at (heap_new1 _ _ _) ((Ext.refl _).drew.trans x1))
           try (have HZ : Hid (wo.heap[W1.heap.size + 1]? = some (.cells #[.slice none 0 0, .slice none 0 0, .slice none 0 0] 25 (0, 0))) := old_at (heap_new2 _ _ _) ((Ext.refl _).drew.trans x1))
           clear hc x1)
        | (go_at_call 30
           refine (hd_of HE.out HM.out HT.out (by repeat (first | exact Ext.refl _ | exact HEo.out | apply Ext.drew | apply Ext.alloc)) (HC.out.ext (by repeat (first | exact Ext.refl _ | apply Ext.drew | apply Ext.alloc))) (by first | exact ints_one (heap_new _ _) | exact ints_one (heap_new1 _ _ _) | exact ints_one (heap_new2 _ _ _) | exact HI.out.ext (by repeat (first | exact Ext.refl _ | apply Ext.drew | apply Ext.alloc)))).mono ?_
           rintro r wf ⟨a1, l1, c1, a2, l2, c2, a3, l3, c3, rfl, ho, x1⟩
           have HO := Lib.hid ho; have X1 := Lib.hid x1
           have HEf : Hid (Ext W1 wf) := Ext.trans (by repeat (first | exact Ext.refl _ | exact HEo.out | apply Ext.drew | apply Ext.alloc)) x1
           try (have HZf := Lib.hid (old_at (old_at HZ.out (by repeat (first | exact Ext.refl _ | apply Ext.drew | apply Ext.alloc))) x1); obtain ⟨y0, y1, y2, f0, f1, f2⟩ := block3 HZf.out)
           try (have HZf : Hid (wf.heap[wo.heap.size]? = some (.cells #[.slice none 0 0, .slice none 0 0, .slice none 0 0] 25 (0, 0))) := by first | exact old_at (heap_new _ _) x1 | exact old_at (heap_new1 _ _ _) x1
                obtain ⟨y0, y1, y2, f0, f1, f2⟩ := block3 HZf.out)
           try (have HZf : Hid (wf.heap[wo.heap.size + 1]? = some (.cells #[.slice none 0 0, .slice none 0 0, .slice none 0 0] 25 (0, 0))) := old_at (heap_new2 _ _ _) x1
                obtain ⟨y0, y1, y2, f0, f1, f2⟩ := block3 HZf.out)
           clear ho x1)))
    all_goals
      go_wp2_with fail
      go_meet
      first
      | (have h := hd_end' HEf.out HO.out; exact ⟨_, a1, l1, c1, a2, l2, c2, a3, l3, c3, rfl, rfl, h.1, h.2.1, h.2.2⟩)
      | (have h0 := lt_heap HZf.out
         have h1 := HEo.out.size
         have h := hd_end HEf.out (by first | exact Nat.le_refl _ | exact Nat.le_succ _ | exact h1 | exact Nat.le_succ_of_le h1) (by first | (simp only [World.size_alloc]; omega) | (have := lt_heap HZ.out; simp only [World.size_alloc]; omega) | exact lt_heap HZ.out) HZf.out HO.out
         exact ⟨_, a1, l1, c1, a2, l2, c2, a3, l3, c3, rfl, rfl, h.1, h.2.1, h.2.2⟩)
  case rest =>
    obtain ⟨br, r1, r2, r3, r4, r5, r6, r7, r8, r9, rfl, rfl, hV, hR, hx⟩ := hcut
    generalize wc = W2 at *
    have HVr := Lib.hid hV; have Hr := Lib.hid hR
    have HDe := Lib.hid (HT.out.ext hx); have HMk := Lib.hid (HM.out.ext hx)
    replace HX := Lib.hid (HX.out.trans hx)
    clear hV hR hx HT HM HE HVe
    obtain ⟨qr0, qr1, qr2⟩ := HVr.out.cells
    go_wp2_with fail
    refine (Compose_ok hd_valid hd_valid _ _ _ Hr.out Hr.out HDe.out).mono ?_
    rintro r wk1 ⟨c1, c2, c3, c4, c5, c6, c7, c8, c9, rfl, e, x1⟩
    have Hc := Lib.hid e
    replace HX := Lib.hid (HX.out.trans x1); replace HDe := Lib.hid (HDe.out.ext x1); replace HMk := Lib.hid (HMk.out.ext x1); replace HVr := Lib.hid (HVr.out.ext x1); replace Hr := Lib.hid (Hr.out.ext x1)
    clear x1 e qr0 qr1 qr2
    go_upto_region 4 with fail
    obtain ⟨Wk1, hWk⟩ : ∃ Wk, Wk = wk1.alloc (.cells #[.slice c1 c2 c3, .slice c4 c5 c6, .slice c7 c8 c9] 25) := ⟨_, rfl⟩
    have x1 : Ext wk1 Wk1 := by rw [hWk]; exact (Ext.refl _).alloc _
    have HVc : Hid (Var3 25 Wk1 wk1.heap.size (.slice c1 c2 c3) (.slice c4 c5 c6) (.slice c7 c8 c9)) := by rw [hWk]; exact Var3.new _ _ _ _ _
    rw [← hWk]
    replace HX := Lib.hid (HX.out.trans x1); replace HDe := Lib.hid (HDe.out.ext x1); replace HMk := Lib.hid (HMk.out.ext x1); replace HVr := Lib.hid (HVr.out.ext x1); replace Hr := Lib.hid (Hr.out.ext x1); replace Hc := Lib.hid (Hc.out.ext x1)
    clear x1 hWk
    generalize wk1.heap.size = bc at *
    obtain ⟨qr0, qr1, qr2⟩ := HVr.out.cells
    go_wp2_with fail
    refine (Closure_ok hd_valid _ _ Hr.out HDe.out).mono ?_
    rintro r wk2 ⟨k1, k2, k3, k4, k5, k6, k7, k8, k9, rfl, e, x1⟩
    have Hk := Lib.hid e
    replace HX := Lib.hid (HX.out.trans x1); replace HDe := Lib.hid (HDe.out.ext x1); replace HMk := Lib.hid (HMk.out.ext x1); replace HVr := Lib.hid (HVr.out.ext x1); replace Hr := Lib.hid (Hr.out.ext x1); replace Hc := Lib.hid (Hc.out.ext x1); replace HVc := Lib.hid (HVc.out.ext x1)
    clear x1 e qr0 qr1 qr2
    go_upto_region 5 with fail
    obtain ⟨Wk2, hWk⟩ : ∃ Wk, Wk = wk2.alloc (.cells #[.slice k1 k2 k3, .slice k4 k5 k6, .slice k7 k8 k9] 25) := ⟨_, rfl⟩
    have x1 : Ext wk2 Wk2 := by rw [hWk]; exact (Ext.refl _).alloc _
    have HVk : Hid (Var3 25 Wk2 wk2.heap.size (.slice k1 k2 k3) (.slice k4 k5 k6) (.slice k7 k8 k9)) := by rw [hWk]; exact Var3.new _ _ _ _ _
    rw [← hWk]
    replace HX := Lib.hid (HX.out.trans x1); replace HDe := Lib.hid (HDe.out.ext x1); replace HMk := Lib.hid (HMk.out.ext x1); replace HVr := Lib.hid (HVr.out.ext x1); replace Hr := Lib.hid (Hr.out.ext x1); replace Hc := Lib.hid (Hc.out.ext x1); replace HVc := Lib.hid (HVc.out.ext x1); replace Hk := Lib.hid (Hk.out.ext x1)
    clear x1 hWk
    generalize wk2.heap.size = bk at *
    go_upto_region 6 with fail
    obtain ⟨Ws, hWs⟩ : ∃ Ws, Ws = (((Wk2.alloc (.cells #[.int .i64 0] 3)).alloc (.cells #[.int .i64 2] 3)).alloc (.cells #[.int .i64 0, .int .i64 1, .int .i64 2] 3)).alloc (.cells #[.slice (some ⟨Wk2.heap.size, 0, none⟩) 1 1, .slice (some ⟨Wk2.heap.size + 1, 0, none⟩) 1 1, .slice (some ⟨Wk2.heap.size + 1 + 1, 0, none⟩) 3 3] 27) := ⟨_, rfl⟩
    have x1 : Ext Wk2 Ws := by rw [hWs]; exact (((Ext.refl _).alloc _).alloc _).alloc _ |>.alloc _
    have Hs : Hid (SetV Ws (.agg #[.slice (some ⟨Wk2.heap.size, 0, none⟩) 1 1, .slice (some ⟨Wk2.heap.size + 1, 0, none⟩) 1 1, .slice (some ⟨Wk2.heap.size + 1 + 1, 0, none⟩) 3 3]) [0] [2] (castL [0, 1, 2])) := by rw [hWs]; exact hd_setv _ _ _
    obtain ⟨s1, es1⟩ : ∃ s1 : Option Addr, s1 = some ⟨Wk2.heap.size, 0, none⟩ := ⟨_, rfl⟩
    obtain ⟨s4, es4⟩ : ∃ s4 : Option Addr, s4 = some ⟨Wk2.heap.size + 1, 0, none⟩ := ⟨_, rfl⟩
    obtain ⟨s7, es7⟩ : ∃ s7 : Option Addr, s7 = some ⟨Wk2.heap.size + 1 + 1, 0, none⟩ := ⟨_, rfl⟩
    have HVs : Hid (Var3 27 Ws (Wk2.heap.size + 1 + 1 + 1) (.slice s1 1 1) (.slice s4 1 1) (.slice s7 3 3)) := by rw [hWs, es1, es4, es7]; exact hd_var _ _ _ _
    rw [← hWs]
    rw [← es1, ← es4, ← es7] at Hs
    clear es1 es4 es7
    replace HX := Lib.hid (HX.out.trans x1); replace HDe := Lib.hid (HDe.out.ext x1); replace HMk := Lib.hid (HMk.out.ext x1); replace HVr := Lib.hid (HVr.out.ext x1); replace Hr := Lib.hid (Hr.out.ext x1); replace Hc := Lib.hid (Hc.out.ext x1); replace HVc := Lib.hid (HVc.out.ext x1); replace Hk := Lib.hid (Hk.out.ext x1); replace HVk := Lib.hid (HVk.out.ext x1)
    clear x1 hWs
    generalize Wk2.heap.size + 1 + 1 + 1 = bs at *
    obtain ⟨qr0, qr1, qr2⟩ := HVr.out.cells
    obtain ⟨qs0, qs1, qs2⟩ := HVs.out.cells
    go_wp2_with fail
    refine (Image_ok hd_valid hd_set _ _ _ Hr.out Hs.out HDe.out).mono ?_
    rintro r wk3 ⟨i1, i2, i3, i4, i5, i6, i7, i8, i9, rfl, e, x1⟩
    have Hi := Lib.hid e
    replace HX := Lib.hid (HX.out.trans x1); replace HDe := Lib.hid (HDe.out.ext x1); replace HMk := Lib.hid (HMk.out.ext x1); replace HVr := Lib.hid (HVr.out.ext x1); replace Hr := Lib.hid (Hr.out.ext x1); replace Hc := Lib.hid (Hc.out.ext x1); replace HVc := Lib.hid (HVc.out.ext x1); replace Hk := Lib.hid (Hk.out.ext x1); replace HVk := Lib.hid (HVk.out.ext x1); replace Hs := Lib.hid (Hs.out.ext x1); replace HVs := Lib.hid (HVs.out.ext x1)
    clear x1 e qr0 qr1 qr2 qs0 qs1 qs2
    go_upto_region 7 with fail
    obtain ⟨Wk3, hWk⟩ : ∃ Wk, Wk = wk3.alloc (.cells #[.slice i1 i2 i3, .slice i4 i5 i6, .slice i7 i8 i9] 27) := ⟨_, rfl⟩
    have x1 : Ext wk3 Wk3 := by rw [hWk]; exact (Ext.refl _).alloc _
    have HVi : Hid (Var3 27 Wk3 wk3.heap.size (.slice i1 i2 i3) (.slice i4 i5 i6) (.slice i7 i8 i9)) := by rw [hWk]; exact Var3.new _ _ _ _ _
    rw [← hWk]
    replace HX := Lib.hid (HX.out.trans x1); replace HDe := Lib.hid (HDe.out.ext x1); replace HMk := Lib.hid (HMk.out.ext x1); replace HVr := Lib.hid (HVr.out.ext x1); replace Hr := Lib.hid (Hr.out.ext x1); replace Hc := Lib.hid (Hc.out.ext x1); replace HVc := Lib.hid (HVc.out.ext x1); replace Hk := Lib.hid (Hk.out.ext x1); replace HVk := Lib.hid (HVk.out.ext x1); replace Hs := Lib.hid (Hs.out.ext x1); replace HVs := Lib.hid (HVs.out.ext x1); replace Hi := Lib.hid (Hi.out.ext x1)
    clear x1 hWk
    generalize wk3.heap.size = bi at *
    obtain ⟨qr0, qr1, qr2⟩ := HVr.out.cells
    obtain ⟨qs0, qs1, qs2⟩ := HVs.out.cells
    go_wp2_with fail
    refine (Inside_ok hd_valid hd_set _ _ _ Hr.out Hs.out HDe.out).mono ?_
    rintro r wk4 ⟨j1, j2, j3, j4, j5, j6, j7, j8, j9, rfl, e, x1⟩
    have Hj := Lib.hid e
    replace HX := Lib.hid (HX.out.trans x1); replace HDe := Lib.hid (HDe.out.ext x1); replace HMk := Lib.hid (HMk.out.ext x1); replace HVr := Lib.hid (HVr.out.ext x1); replace Hr := Lib.hid (Hr.out.ext x1); replace Hc := Lib.hid (Hc.out.ext x1); replace HVc := Lib.hid (HVc.out.ext x1); replace Hk := Lib.hid (Hk.out.ext x1); replace HVk := Lib.hid (HVk.out.ext x1); replace Hs := Lib.hid (Hs.out.ext x1); replace HVs := Lib.hid (HVs.out.ext x1); replace Hi := Lib.hid (Hi.out.ext x1); replace HVi := Lib.hid (HVi.out.ext x1)
    clear x1 e qr0 qr1 qr2 qs0 qs1 qs2
    go_upto_region 8 with fail
    obtain ⟨Wk4, hWk⟩ : ∃ Wk, Wk = wk4.alloc (.cells #[.slice j1 j2 j3, .slice j4 j5 j6, .slice j7 j8 j9] 27) := ⟨_, rfl⟩
    have x1 : Ext wk4 Wk4 := by rw [hWk]; exact (Ext.refl _).alloc _
    have HVj : Hid (Var3 27 Wk4 wk4.heap.size (.slice j1 j2 j3) (.slice j4 j5 j6) (.slice j7 j8 j9)) := by rw [hWk]; exact Var3.new _ _ _ _ _
    rw [← hWk]
    replace HX := Lib.hid (HX.out.trans x1); replace HDe := Lib.hid (HDe.out.ext x1); replace HMk := Lib.hid (HMk.out.ext x1); replace HVr := Lib.hid (HVr.out.ext x1); replace Hr := Lib.hid (Hr.out.ext x1); replace Hc := Lib.hid (Hc.out.ext x1); replace HVc := Lib.hid (HVc.out.ext x1); replace Hk := Lib.hid (Hk.out.ext x1); replace HVk := Lib.hid (HVk.out.ext x1); replace Hs := Lib.hid (Hs.out.ext x1); replace HVs := Lib.hid (HVs.out.ext x1); replace Hi := Lib.hid (Hi.out.ext x1); replace HVi := Lib.hid (HVi.out.ext x1); replace Hj := Lib.hid (Hj.out.ext x1)
    clear x1 hWk
    generalize wk4.heap.size = bj at *
    obtain ⟨qk0, qk1, qk2⟩ := HVk.out.cells
    obtain ⟨qs0, qs1, qs2⟩ := HVs.out.cells
    go_wp2_with fail
    refine (Inside_ok (clo_valid hd_valid) hd_set _ _ _ Hk.out Hs.out HDe.out).mono ?_
    rintro r wk5 ⟨l1, l2, l3, l4, l5, l6, l7, l8, l9, rfl, e, x1⟩
    have Hl := Lib.hid e
    replace HX := Lib.hid (HX.out.trans x1); replace HDe := Lib.hid (HDe.out.ext x1); replace HMk := Lib.hid (HMk.out.ext x1); replace HVr := Lib.hid (HVr.out.ext x1); replace Hr := Lib.hid (Hr.out.ext x1); replace Hc := Lib.hid (Hc.out.ext x1); replace HVc := Lib.hid (HVc.out.ext x1); replace Hk := Lib.hid (Hk.out.ext x1); replace HVk := Lib.hid (HVk.out.ext x1); replace Hs := Lib.hid (Hs.out.ext x1); replace HVs := Lib.hid (HVs.out.ext x1); replace Hi := Lib.hid (Hi.out.ext x1); replace HVi := Lib.hid (HVi.out.ext x1); replace Hj := Lib.hid (Hj.out.ext x1); replace HVj := Lib.hid (HVj.out.ext x1)
    clear x1 e qk0 qk1 qk2 qs0 qs1 qs2
    go_upto_region 9 with fail
    obtain ⟨Wk5, hWk⟩ : ∃ Wk, Wk = wk5.alloc (.cells #[.slice l1 l2 l3, .slice l4 l5 l6, .slice l7 l8 l9] 27) := ⟨_, rfl⟩
    have x1 : Ext wk5 Wk5 := by rw [hWk]; exact (Ext.refl _).alloc _
    have HVl : Hid (Var3 27 Wk5 wk5.heap.size (.slice l1 l2 l3) (.slice l4 l5 l6) (.slice l7 l8 l9)) := by rw [hWk]; exact Var3.new _ _ _ _ _
    rw [← hWk]
    replace HX := Lib.hid (HX.out.trans x1); replace HDe := Lib.hid (HDe.out.ext x1); replace HMk := Lib.hid (HMk.out.ext x1); replace HVr := Lib.hid (HVr.out.ext x1); replace Hr := Lib.hid (Hr.out.ext x1); replace Hc := Lib.hid (Hc.out.ext x1); replace HVc := Lib.hid (HVc.out.ext x1); replace Hk := Lib.hid (Hk.out.ext x1); replace HVk := Lib.hid (HVk.out.ext x1); replace Hs := Lib.hid (Hs.out.ext x1); replace HVs := Lib.hid (HVs.out.ext x1); replace Hi := Lib.hid (Hi.out.ext x1); replace HVi := Lib.hid (HVi.out.ext x1); replace Hj := Lib.hid (Hj.out.ext x1); replace HVj := Lib.hid (HVj.out.ext x1); replace Hl := Lib.hid (Hl.out.ext x1)
    clear x1 hWk
    generalize wk5.heap.size = bl at *
    have HID := Lib.hid (hd_id HMk.out HDe.out 44 3)
    go_wp2_with fail
    refine HID.out.mono ?_
    rintro r wp ⟨n1, n2, n3, n4, n5, n6, n7, n8, n9, rfl, x1⟩
    replace HX := Lib.hid (HX.out.trans x1); replace HDe := Lib.hid (HDe.out.ext x1); replace HMk := Lib.hid (HMk.out.ext x1); replace HVr := Lib.hid (HVr.out.ext x1); replace Hr := Lib.hid (Hr.out.ext x1); replace Hc := Lib.hid (Hc.out.ext x1); replace HVc := Lib.hid (HVc.out.ext x1); replace Hk := Lib.hid (Hk.out.ext x1); replace HVk := Lib.hid (HVk.out.ext x1); replace Hs := Lib.hid (Hs.out.ext x1); replace HVs := Lib.hid (HVs.out.ext x1); replace Hi := Lib.hid (Hi.out.ext x1); replace HVi := Lib.hid (HVi.out.ext x1); replace Hj := Lib.hid (Hj.out.ext x1); replace HVj := Lib.hid (HVj.out.ext x1); replace Hl := Lib.hid (Hl.out.ext x1); replace HVl := Lib.hid (HVl.out.ext x1)
    clear x1 HID
    obtain ⟨rb, ro, rfl, rfl, g0, g1⟩ := pair_lit (w := wp) Hr.out (m := 4) rfl 3 (by decide) (show (castP hdP)[3] = (3, 0) from rfl)
    obtain ⟨cb, co, rfl, rfl, g2, g3⟩ := pair_lit (w := wp) (hd_cmp ▸ Hc.out) (m := 4) rfl 1 (by decide) (show (castP [(0, 2), (1, 3), (2, 0), (3, 1)])[1] = (1, 3) from rfl)
    obtain rfl : k8 = 16 := (relv_len Hk.out).trans hd_clo
    obtain rfl : l8 = 0 := (setv_len Hl.out).trans (congrArg List.length hd_ins2)
    have HI := Lib.hid (setv_in Hi.out); have HJ := Lib.hid (setv_in Hj.out)
    have hqp := run_eqlPair
    obtain ⟨qr0, qr1, qr2⟩ := HVr.out.cells
    obtain ⟨qc0, qc1, qc2⟩ := HVc.out.cells
    obtain ⟨qk0, qk1, qk2⟩ := HVk.out.cells
    obtain ⟨qi0, qi1, qi2⟩ := HVi.out.cells
    obtain ⟨qj0, qj1, qj2⟩ := HVj.out.cells
    obtain ⟨ql0, ql1, ql2⟩ := HVl.out.cells
    simp only [Nat.reduceMul] at g0 g1 g2 g3
    have y1 := lt_heap HVr.out; have y2 := lt_heap HVc.out; have y3 := lt_heap HVk.out; have y4 := lt_heap HVi.out; have y5 := lt_heap HVj.out; have y6 := lt_heap HVl.out; have y7 := block_lt g0; have y8 := block_lt g2
    dsimp only at y7 y8
    go_wp2_with fail
    refine (RInts_any (castL (imgL hdP [0, 1, 2])) [1, 2, 3] _ _ _ (HI.out.ext (((Ext.refl _).alloc _).alloc _)) (ints_three (heap_new2 _ _ _))).mono ?_
    rintro r wq ⟨rfl, x1⟩
    rw [hd_imgB]
    replace x1 : Ext wp wq := (((Ext.refl _).alloc _).alloc _).trans x1
    replace HX := Lib.hid (HX.out.trans x1); replace HVj := Lib.hid (HVj.out.ext x1); replace HVl := Lib.hid (HVl.out.ext x1); replace HJ := Lib.hid (HJ.out.ext x1)
    clear x1 qr0 qr1 qr2 qc0 qc1 qc2 qk0 qk1 qk2 qi0 qi1 qi2 qj0 qj1 qj2 ql0 ql1 ql2 g0 g1 g2 g3 y1 y2 y3 y4 y5 y6 y7 y8
    obtain ⟨qj0, qj1, qj2⟩ := HVj.out.cells
    go_wp2_with fail
    refine (RInts_any (castL (insL hdP [0, 1, 2])) [0, 1] _ _ _ (HJ.out.ext ((Ext.refl _).alloc _)) (ints_two (heap_new _ _))).mono ?_
    rintro r wr ⟨rfl, x1⟩
    rw [hd_insB]
    replace x1 : Ext wq wr := ((Ext.refl _).alloc _).trans x1
    replace HX := Lib.hid (HX.out.trans x1); replace HVl := Lib.hid (HVl.out.ext x1)
    clear x1 qj0 qj1 qj2
    obtain ⟨ql0, ql1, ql2⟩ := HVl.out.cells
    go_wp2_with fail
    go_ret
    exact ⟨rfl, HX.out⟩
end Go.Proofs.YtlnahhlddekhoaaDoor
