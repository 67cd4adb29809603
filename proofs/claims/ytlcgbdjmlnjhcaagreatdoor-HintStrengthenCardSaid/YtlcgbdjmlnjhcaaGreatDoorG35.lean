/-
  A drawn region in a round of a range over a function.
  The walk of the closure of hint.Weakest: whether a state before is violated.
  The walk of hint.formed.
-/
import Derived.RangeFuncNested
import Derived.RangeFuncBound
import Derived.RangeFuncCalls
import Derived.RangeFuncLeaves
import Derived.RangeFuncWrites
import Derived.Shelf.Abstract
import Derived.Shelf.RegionOpen
import Derived.OwnWalkIn
import Derived.TacticsInMore
import Derived.LoopNIn
import Derived.LoopIn
import Derived.BigQuiet
import Derived.StillTailTactics
import Derived.Sort.CutIn
import Derived.Test.YtlcgbdjmlnjhcaaGreatDoorProg
import Derived.Test.YtlcgbdjmlnjhcaaGreatDoorG33
import Derived.Test.YtlcgbdjmlnjhcaaGreatDoorG29
import Derived.Test.YtlcgbdjmlnjhcaaGreatDoorG09
namespace Go.Proofs.YtlcgbdjmlnjhcaaGreatDoor
open Go.RowKit Go.Shelf
attribute [local go_sem] Oper.semAt_some

theorem opIn_of_op {P : Program} {o : Oper} {a : Act} {w : World} {K : Act → World → Prop} {Q : Exit → Act → World → Prop} (l n : Nat) (hd : ∀ c, o.op ≠ .defer c) (h : o.wp P a w K Q) : o.wpIn (Fence.wide.inRound l) n P a w K Q := by
  unfold Oper.wp at h; unfold Oper.wpIn
  refine ⟨fun _ _ => trivial, ?_⟩
  rw [show (Fence.wide.inRound l).round = some l from rfl, Oper.semAt_some l _ _ hd]
  generalize (execOp a.eval o).run P w = r at *
  cases r with
  | ok x w' =>
    cases x <;> simp only [Oper.upon, Oper.uponIn] at *
    case value => exact h
    case skip => exact h
    case defer => exact h
    case enter => exact ⟨(fun h => nomatch h), CallsIn.inRound l (callsIn_wide.2 h)⟩
    case row row args => exact ⟨(fun h => nomatch h), fun c cs _ => let ⟨v, w', r, s⟩ := h c cs; ⟨v, w', r, stepsIn_wide.2 s⟩⟩
  | halt x w' => cases x <;> simp only [Oper.upon, Oper.uponIn] at * <;> exact h
theorem anyIn_of_any {P : Program} {md : Region.Mode} {ops : Array Oper} {Q : Exit → Act → World → Prop} (l n : Nat) (hQ : ¬ LetsOut Q) (hd : ∀ (i : Nat) (o : Oper), ops[i]? = some o → ∀ c, o.op ≠ .defer c) :
    ∀ (fuel : Nat) (listed : Array Bool) (a : Act) (w : World), wpAny P md ops Q fuel listed a w → wpAnyIn (Fence.wide.inRound l) n P md ops Q fuel listed a w
  | 0, _, _, _, h => h
  | fuel + 1, listed, a, w, h => by
    refine ⟨h.1, fun i hi => ?_⟩
    have h1 := h.2 i hi
    unfold wpOp at h1
    unfold wpOpIn
    cases ho : ops[i]? with
    | none => rw [ho] at h1; exact anyIn_of_any l n hQ hd fuel _ _ _ h1
    | some o =>
      rw [ho] at h1
      simp only at h1 ⊢
      have d1 := hd i o ho
      split
      · next c =>
        rw [if_pos c] at h1
        rcases h1 with h1 | ⟨_, h1⟩
        · exact opIn_of_op l n d1 (Oper.wp_mono (fun a' w' h' => anyIn_of_any l n hQ hd fuel _ a' w' h') h1)
        · exact absurd h1 hQ
      · next c =>
        rw [if_neg c] at h1
        exact ⟨fun _ _ => trivial, anyIn_of_any l n hQ hd fuel _ _ _ h1⟩
/-- No deferred call among the operations. -/
def noDefer (ops : Array Oper) : Bool := ops.all fun o => match o.op with | .defer _ => false | _ => true
theorem noDefer_spec {ops : Array Oper} (h : noDefer ops = true) (i : Nat) (o : Oper) (hi : ops[i]? = some o) : ∀ c, o.op ≠ .defer c := by
  intro c hc
  have := (Array.all_eq_true_iff_forall_mem.1 h) o (Array.mem_of_getElem? hi)
  rw [hc] at this; cases this
/-- A still head and one chain behind it, in whatever order. -/
theorem any_still_tail {P : Program} {l : List Oper} {Q : Exit → Act → World → Prop} {a : Act} {w : World} (n : Nat) (hB : Region.lexTailB .any l.toArray n = true)
    (h : wpStill P l.toArray w (fun a' => wpList P l.toArray Q (l.drop n) a' w) (l.take n) a) : wpAny P .any l.toArray Q l.toArray.size (Array.replicate l.toArray.size false) a w := by
  simp only [Region.lexTailB, Bool.and_eq_true, decide_eq_true_eq] at hB
  obtain ⟨⟨⟨⟨h1, h2⟩, h3⟩, h4⟩, h5⟩ := hB
  have e1 : (l.take n).length = n := by have : n < l.length := by simpa using h2
                                        simp; omega
  have e2 : (l.drop n).length = l.toArray.size - n := by simp
  have head := wpAnyL_lex (md := .any) (g := l.toArray.size - n) h1 h3 h4 h2 (l.take n) 0 (Array.replicate l.toArray.size false) a (fun j hj => by rw [e1] at hj; simp [hj]) (by simpa using e1)
    ⟨by simp, fun j oj _ hl => (by rw [getD_replicate_false] at hl; cases hl), fun t _ ht => getD_in (by simpa using ht) (getD_replicate_false _ _)⟩ (by rw [e1]; exact h5) h
  have all := wpAny_of_head (Q' := Q) (g := l.toArray.size - n) (fun listed a' hL => by
    have tail := wpAny_of_seq (md := .any) (Q' := Q) (l.drop n) n listed a' w (fun j => by simp [List.getElem?_drop]) (by rw [e2]; exact hL.1) hL.2
    rwa [e2] at tail) _ _ _ head
  rw [e1, show n + (l.toArray.size - n) = l.toArray.size by omega] at all
  exact all
/-- Such a region in a round. -/
theorem regionIn_still_tail {P : Program} {id : Nat} {ops : List Oper} {Q : Exit → Act → World → Prop} {a : Act} {w : World} (l n k : Nat) (hm : P.follows .mixedOrders = true) (hd : noDefer ops.toArray = true) (hB : Region.lexTailB .any ops.toArray k = true)
    (h : wpStill P ops.toArray { w with drawn := w.drawn + 1 } (fun a' => wpList P ops.toArray (fun e a' w' => e = .normal ∧ Q .normal a' w') (ops.drop k) a' { w with drawn := w.drawn + 1 }) (ops.take k) a) : (Code.region id ops.toArray true).wpIn (Fence.wide.inRound l) n P Q a w := by
  refine Go.wpIn_mono (wpIn_region_any hm (anyIn_of_any l n ?_ (noDefer_spec hd) _ _ _ _ (any_still_tail k hB h))) ?_
  · rintro ⟨a', w', h', _⟩; cases h'
  · rintro e a' w' ⟨rfl, h'⟩; exact h'
end Go.Proofs.YtlcgbdjmlnjhcaaGreatDoor
namespace Go.Proofs.YtlcgbdjmlnjhcaaGreatDoor
open Go.RowKit Go.Shelf
attribute [local go_sem] Oper.semAt_some

set_option maxHeartbeats 1000000 in
theorem states_in (n : Nat) (a b : Value) (s : Int) (step : Bool) (w : World) :
    CallsIn Fence.wide n Tryz.prog 37 #[.agg #[a, b, .int .i64 s, .bool step]] w fun e w' => e = .returned (.func (.func 65) #[] #[.pointer (some ⟨w.heap.size, 0, none⟩)]) ∧ w' = w.alloc (.cells #[a, b, .int .i64 s, .bool step] 66) := by
  refine callsIn_of_wp Tryz.func37 rfl trivial ?_ rfl
  simp only [Tryz.ntmps37, List.size_toArray, List.length_cons, List.length_nil, Nat.reduceAdd, Nat.reduceSub, Array.replicate_succ, Array.replicate_zero, List.push_toArray, List.append_toArray, List.nil_append, List.cons_append]
  gi_wp2
  go_ret
  exact ⟨rfl, rfl⟩
theorem results_boolH {fn : Func} {p : Tmp} (h : fn.results = #[.cell p 4]) (tmps : Array Value) (w : World) (g : Nat) (v : Value) (hp : tmps.getD p undef = .pointer (some ⟨g, 0, none⟩)) (hc : w.cell? ⟨g, 0, none⟩ = some v) : (results fn tmps).run Tryz.prog w = .ok v w := by
  have hp' : tmps[p]?.getD undef = .pointer (some ⟨g, 0, none⟩) := by simpa using hp
  simp [results, h, hp', asAddr, go_sem, hc]
def violS (step : Bool) (h g : E) (st st2 : List Int) : Bool := if step then violB h g st st2 else violB h g st2 st
theorem Ext.keepsFrom {A B : World} (h : Ext A B) (k : Nat) : KeepsFrom k A B := ⟨h.size, fun j _ _ hj _ => (h.block j (Array.getElem?_eq_some_iff.1 hj).1).trans hj⟩
theorem Ext.putD {w W : World} (h : Ext w W) {D : Nat} (hD : w.heap.size ≤ D) (o : Obj) : Ext w (W.putObj D o) := h.grown (grownBy_putObj' _ _ _) fun k e => by cases e; exact hD
theorem ext_own {β : Type} {w : World} {B : Nat} (hB : w.heap.size ≤ B) (p : β → Prop) : OwnFrom B (fun s W => Ext w W ∧ p s) := fun _ _ _ _ h hg hr => ⟨h.1.grown hg fun k e => by have := (hr k e).1; omega, h.2⟩

set_option maxRecDepth 100000 in
set_option maxHeartbeats 4000000 in
theorem Viol_any (c : CondS) (l ws : List Int) (b : Nat) (step st2 : Bool) (B1 B2 Bc : Nat) (st : List Int) (v : Value) (w : World) (hS : SideAt l ws b st2 B2 w) (h1 : w.cell? ⟨B1, 3, none⟩ = some (.bool step)) (hc : CondIn w Bc c) (hv : Ints w v st) (hM : Masks w) (hs : smallB l ws = true) (hb : sumI ws = (b : Int)) :
    Calls Tryz.prog 36 #[v, .pointer (some ⟨B2, 0, none⟩), .pointer (some ⟨B1, 0, none⟩), .pointer (some ⟨Bc, 0, none⟩)] w fun r w' => r = .returned (.bool ((List.range (2 ^ b)).any fun m => violS step c.hyp c.goal st (stN l ws m))) ∧ Ext w w' := by
  obtain ⟨va, vc, rfl⟩ := hv.shape
  obtain ⟨V2, hV2⟩ : ∃ V, Boxes w V (.cells #[.slice va st.length vc] 35) (.cells #[.bool false] 4) := ⟨_, Boxes.mk' _ _ _⟩
  have x2 := hV2.ext
  have z2 := hV2.size
  have c4 : V2.cell? ⟨w.heap.size, 0, none⟩ = some (.slice va st.length vc) := by rw [Lib.cell_of_heap hV2.b0]; rfl
  obtain ⟨sa, sb, hB2, i1, i2⟩ := hS.ext x2
  obtain ⟨a1, d1, rfl⟩ := i1.shape
  obtain ⟨a2, d2, rfl⟩ := i2.shape
  obtain ⟨k0, k1, k2, k3⟩ := blocks4 hB2
  have HV2 := Lib.hid hV2; have X2 := Lib.hid x2; have H1 := Lib.hid h1; have HC := Lib.hid hc; have HV := Lib.hid hv; have HM := Lib.hid hM; have HS := Lib.hid hs; have HB := Lib.hid hb; have I1 := Lib.hid i1; have I2 := Lib.hid i2
  clear hS h1 hc hv hM hs hb hV2 i1 i2 hB2
  refine (callsIn_wide (n := 3)).1 ?_
  refine callsIn_of_wp_marks Tryz.func36 rfl trivial ?_ rfl
  simp only [Tryz.ntmps36, List.size_toArray, List.length_cons, List.length_nil, Nat.reduceAdd, Nat.reduceSub, Array.replicate_succ, Array.replicate_zero, List.push_toArray, List.append_toArray, List.nil_append, List.cons_append]
  gi_upto_region 1 with fail
  rw [← HV2.out.eq]
  gi_wp2
  refine ⟨trivial, (states_in _ _ _ _ _ _).mono ?_⟩
  rintro r V3 ⟨rfl, hV3⟩
  have x3 : Ext V2 V3 := by rw [hV3]; exact (Ext.refl _).alloc _
  have z3 : V3.heap.size = w.heap.size + 3 := by rw [hV3]; simp [z2]
  rw [z2]
  have hB3 : V3.heap[w.heap.size + 2]? = some (.cells #[.slice a1 l.length d1, .slice a2 ws.length d2, .int .i64 (b : Nat), .bool st2] 66 (0, 0)) := by
    have := heap_new V2 (.cells #[.slice a1 l.length d1, .slice a2 ws.length d2, .int .i64 (b : Nat), .bool st2] 66)
    rw [z2] at this; rw [hV3]; exact this
  have hSA : SideAt l ws b st2 (w.heap.size + 2) V3 := ⟨_, _, hB3, I1.out.ext x3, I2.out.ext x3⟩
  have hR5 : V3.heap[w.heap.size + 1]? = some (.cells #[.bool false] 4 (0, 0)) := (x3.block _ (by omega)).trans HV2.out.b1
  have hX3 := x2.trans x3
  have hc4 := x3.cell c4
  have HSA := Lib.hid hSA; have HR5 := Lib.hid hR5; have X3 := Lib.hid hX3; have HC4 := Lib.hid hc4; have Z3 := Lib.hid z3
  clear x2 x3 z2 c4 hB3 hSA hR5 hX3 hc4 hV3 k0 k1 k2 k3 HV2 z3
  have z3 := Z3.out
  gi_wp2
  refine wpIn_range_S rfl (by omega) (gf := 65) (lb := #[.pointer (some ⟨w.heap.size + 2, 0, none⟩)]) rfl trivial (enters_of Tryz.func65 (by kernel_rfl) rfl)
    (states1_gives 2 (by omega) l ws b st2 (w.heap.size + 2) V3 HS.out HB.out) (Below.refl _ _) (fun k h => h.elim) (fun _ => rfl)
    (fun pre W => Ext V3 W ∧ ∀ x ∈ pre, violS step c.hyp c.goal st (stN l ws (x : StX).n) = false)
    (fun cc pre W => cc = .ret ∧ Ext w W ∧ W.heap[w.heap.size + 1]? = some (.cells #[.bool true] 4 (0, 0)) ∧ ∃ m, m < 2 ^ b ∧ violS step c.hyp c.goal st (stN l ws m) = true)
    (ext_own (Nat.le_refl _) _) (fun s A B h hx => ⟨h.1.trans ⟨hx.os, hx.tape, hx.output, hx.size, fun k hk => hx.block k hk (fun h => h)⟩, h.2⟩) (fun s A h => HSA.out.ext h.1)
    (fun cc s A B row h hg hr => ⟨h.1, h.2.1.grown hg (fun k e => by have := (hr k e).1; omega), (grown_oth hg (fun r e => (hr r e).2) _ _ h.2.2.1 rfl).trans h.2.2.1, h.2.2.2⟩)
    ⟨Ext.refl _, fun x h => by cases h⟩
    (fun x => { tmps := #[.slice va st.length vc, .pointer (some ⟨B2, 0, none⟩), .pointer (some ⟨B1, 0, none⟩), .pointer (some ⟨Bc, 0, none⟩), .pointer (some ⟨w.heap.size, 0, none⟩), .pointer (some ⟨w.heap.size + 1, 0, none⟩), undef, .slice (some ⟨x.g, 0, none⟩) 32 32, undef, undef, .agg #[.slice a1 l.length d1, .slice a2 ws.length d2, .int .i64 (b : Nat), .bool st2], .func (.func 65) #[] #[.pointer (some ⟨w.heap.size + 2, 0, none⟩)], .int .i64 (x.n : Nat), .slice (some ⟨x.g, 0, none⟩) 32 32, undef, undef, undef, undef, undef, undef, undef, undef, undef, undef, undef, undef, undef, undef, undef, undef, undef, undef, undef, undef, undef], defers := [] }) ?assign (fun b x A B h hk => h.keep hk) ?body ?done ?stop
  case assign =>
    intro lp x W K hK
    dsimp only [encSt]
    gi_wp2
    exact hK
  case body =>
    rintro lp pre x W ⟨hX, hpre⟩ hgd hsz _
    have hXW := X3.out.trans hX
    have k3 := hXW.cell H1.out
    have c4 := hX.cell HC4.out
    obtain ⟨ha, hl, hcp, ga, gl, gc, hat, he1, he2⟩ := HC.out.ext hXW
    have HXV := Lib.hid hX; have HXW := Lib.hid hXW; have HPR := Lib.hid hpre; have HGD := Lib.hid hgd
    have HVW := Lib.hid (HV.out.ext hXW)
    clear hX hpre hgd hXW
    dsimp only
    cases step with
    | true =>
      obtain ⟨⟨q0, q1, q2, q3⟩, p0, p1, p2, p3⟩ := And.intro hat.hyp hat.goal
      have HE : Hid (violS true c.hyp c.goal st (stN l ws x.n) = (decide (c.hyp.eval st (stN l ws x.n) = 1) && decide (c.goal.eval st (stN l ws x.n) = 0))) := rfl
      have HI1 : Hid (Ints W (.slice va st.length vc) st) := HVW.out
      have HI2 : Hid (Ints W (.slice (some ⟨x.g, 0, none⟩) 32 32) (stN l ws x.n)) := HGD.out.2.ints
      clear hat
      gi_wp2
      have HXQ : Hid (Ext W W) := Ext.refl _
      refine ⟨trivial, CallsIn.inRound lp (callsIn_wide.2 ((Eval_any c.hyp _ _ _ st (stN l ws x.n) _ (he1.ext HXQ.out) (HI1.out.ext HXQ.out) (HI2.out.ext HXQ.out) ((HM.out.ext HXW.out).ext HXQ.out)).mono ?_))⟩
      rintro r w5 ⟨rfl, x5⟩
      have HX5 := Lib.hid (HXQ.out.trans x5)
      replace p0 := x5.cell p0; replace p1 := x5.cell p1; replace p2 := x5.cell p2; replace p3 := x5.cell p3
      clear x5 q0 q1 q2 q3
      generalize c.hyp.eval st (stN l ws x.n) = e1 at *
      by_cases hq : e1 = 1
      · gi_wp2
        refine ⟨trivial, CallsIn.inRound lp (callsIn_wide.2 ((Eval_any c.goal _ _ _ st (stN l ws x.n) _ (he2.ext HX5.out) (HI1.out.ext HX5.out) (HI2.out.ext HX5.out) ((HM.out.ext HXW.out).ext HX5.out)).mono ?_))⟩
        rintro r w6 ⟨rfl, x6⟩
        have HX6 := Lib.hid (HX5.out.trans x6)
        clear x6 p0 p1 p2 p3
        generalize c.goal.eval st (stN l ws x.n) = e2 at *
        by_cases hq2 : e2 = 0
        · have HVT : Hid (violS true c.hyp c.goal st (stN l ws x.n) = true) := by unfold Hid; rw [HE.out, decide_eq_true hq, decide_eq_true hq2]; rfl
          have hb5 := ((HXV.out.trans HX6.out).block _ (by omega)).trans HR5.out
          have f5 := frozen_of_row w6 (w.heap.size + 1) 0 _ _ hb5
          have g5 : w6.cell? ⟨w.heap.size + 1, 0, none⟩ = some (.bool false) := by simp [World.cell?, hb5]
          have HST := Lib.hid (heap_setCell_same w6 (w.heap.size + 1) 0 _ _ (.bool true) hb5)
          clear hb5
          gi_wp2
          refine ⟨((HX6.out.keepsFrom _).trans ((KeepsOthers.setCell _ _ _).from _)), rfl, ((X3.out.trans HXV.out).trans HX6.out).setCell (p := ⟨w.heap.size + 1, 0, none⟩) (Nat.le_succ _) _, HST.out, ⟨x.n, HGD.out.1, HVT.out⟩⟩
        · have HVF : Hid (violS true c.hyp c.goal st (stN l ws x.n) = false) := by unfold Hid; rw [HE.out, decide_eq_false hq2]; simp
          gi_wp2
          refine ⟨HX6.out.keepsFrom _, ⟨HX6.out.size, fun _ _ _ _ h => h.elim⟩, HXV.out.trans HX6.out, fun y hy => ?_⟩
          rcases List.mem_append.1 hy with hy | hy
          · exact HPR.out y hy
          · rw [List.mem_singleton] at hy; subst hy; exact HVF.out
      · have HVF : Hid (violS true c.hyp c.goal st (stN l ws x.n) = false) := by unfold Hid; rw [HE.out, decide_eq_false hq]; rfl
        gi_wp2
        refine ⟨trivial, ?_⟩
        gi_wp2
        refine ⟨HX5.out.keepsFrom _, ⟨HX5.out.size, fun _ _ _ _ h => h.elim⟩, HXV.out.trans HX5.out, fun y hy => ?_⟩
        rcases List.mem_append.1 hy with hy | hy
        · exact HPR.out y hy
        · rw [List.mem_singleton] at hy; subst hy; exact HVF.out
    | false =>
      obtain ⟨⟨q0, q1, q2, q3⟩, p0, p1, p2, p3⟩ := And.intro hat.hyp hat.goal
      have HE : Hid (violS false c.hyp c.goal st (stN l ws x.n) = (decide (c.hyp.eval (stN l ws x.n) st = 1) && decide (c.goal.eval (stN l ws x.n) st = 0))) := rfl
      have HI1 : Hid (Ints W (.slice (some ⟨x.g, 0, none⟩) 32 32) (stN l ws x.n)) := HGD.out.2.ints
      have HI2 : Hid (Ints W (.slice va st.length vc) st) := HVW.out
      clear hat
      gi_wp2
      refine regionIn_still_tail lp _ 3 (by kernel_rfl) (by kernel_rfl) (by kernel_rfl) ?_
      simp only [List.take_succ_cons, List.take_zero, List.drop_succ_cons, List.drop_zero]
      repeat still_step
      refine wpStill_nil ?_
      change wpList _ _ _ _ _ W.drew
      have HXQ : Hid (Ext W W.drew) := (Ext.refl _).drew
      generalize hWQ : W.drew = WQ at *
      clear hWQ
      replace q0 := HXQ.out.cell q0; replace q1 := HXQ.out.cell q1; replace q2 := HXQ.out.cell q2; replace q3 := HXQ.out.cell q3
      replace p0 := HXQ.out.cell p0; replace p1 := HXQ.out.cell p1; replace p2 := HXQ.out.cell p2; replace p3 := HXQ.out.cell p3
      go_wp2_with fail
      gi_wp2
      refine ⟨trivial, CallsIn.inRound lp (callsIn_wide.2 ((Eval_any c.hyp _ _ _ (stN l ws x.n) st _ (he1.ext HXQ.out) (HI1.out.ext HXQ.out) (HI2.out.ext HXQ.out) ((HM.out.ext HXW.out).ext HXQ.out)).mono ?_))⟩
      rintro r w5 ⟨rfl, x5⟩
      have HX5 := Lib.hid (HXQ.out.trans x5)
      replace p0 := x5.cell p0; replace p1 := x5.cell p1; replace p2 := x5.cell p2; replace p3 := x5.cell p3
      clear x5 q0 q1 q2 q3
      generalize c.hyp.eval (stN l ws x.n) st = e1 at *
      by_cases hq : e1 = 1
      · gi_wp2
        refine ⟨trivial, CallsIn.inRound lp (callsIn_wide.2 ((Eval_any c.goal _ _ _ (stN l ws x.n) st _ (he2.ext HX5.out) (HI1.out.ext HX5.out) (HI2.out.ext HX5.out) ((HM.out.ext HXW.out).ext HX5.out)).mono ?_))⟩
        rintro r w6 ⟨rfl, x6⟩
        have HX6 := Lib.hid (HX5.out.trans x6)
        clear x6 p0 p1 p2 p3
        generalize c.goal.eval (stN l ws x.n) st = e2 at *
        by_cases hq2 : e2 = 0
        · have HVT : Hid (violS false c.hyp c.goal st (stN l ws x.n) = true) := by unfold Hid; rw [HE.out, decide_eq_true hq, decide_eq_true hq2]; rfl
          have hb5 := ((HXV.out.trans HX6.out).block _ (by omega)).trans HR5.out
          have f5 := frozen_of_row w6 (w.heap.size + 1) 0 _ _ hb5
          have g5 : w6.cell? ⟨w.heap.size + 1, 0, none⟩ = some (.bool false) := by simp [World.cell?, hb5]
          have HST := Lib.hid (heap_setCell_same w6 (w.heap.size + 1) 0 _ _ (.bool true) hb5)
          clear hb5
          gi_wp2
          refine ⟨((HX6.out.keepsFrom _).trans ((KeepsOthers.setCell _ _ _).from _)), rfl, ((X3.out.trans HXV.out).trans HX6.out).setCell (p := ⟨w.heap.size + 1, 0, none⟩) (Nat.le_succ _) _, HST.out, ⟨x.n, HGD.out.1, HVT.out⟩⟩
        · have HVF : Hid (violS false c.hyp c.goal st (stN l ws x.n) = false) := by unfold Hid; rw [HE.out, decide_eq_false hq2]; simp
          gi_wp2
          refine ⟨HX6.out.keepsFrom _, ⟨HX6.out.size, fun _ _ _ _ h => h.elim⟩, HXV.out.trans HX6.out, fun y hy => ?_⟩
          rcases List.mem_append.1 hy with hy | hy
          · exact HPR.out y hy
          · rw [List.mem_singleton] at hy; subst hy; exact HVF.out
      · have HVF : Hid (violS false c.hyp c.goal st (stN l ws x.n) = false) := by unfold Hid; rw [HE.out, decide_eq_false hq]; rfl
        gi_wp2
        refine ⟨trivial, ?_⟩
        gi_wp2
        refine ⟨HX5.out.keepsFrom _, ⟨HX5.out.size, fun _ _ _ _ h => h.elim⟩, HXV.out.trans HX5.out, fun y hy => ?_⟩
        rcases List.mem_append.1 hy with hy | hy
        · exact HPR.out y hy
        · rw [List.mem_singleton] at hy; subst hy; exact HVF.out

  case done =>
    rintro D xs W hD hxs ⟨hX, hall⟩ hK
    have HF : Hid ((List.range (2 ^ b)).any (fun m => violS step c.hyp c.goal st (stN l ws m)) = false) := by
      unfold Hid
      rw [List.any_eq_false]
      intro m hm
      rw [← hxs] at hm
      obtain ⟨x, hx, rfl⟩ := List.mem_map.1 hm
      rw [hall x hx]; simp
    have hb5 := (hX.block _ (by omega)).trans HR5.out
    have f5 := frozen_of_row W (w.heap.size + 1) 0 _ _ hb5
    have g5 : W.cell? ⟨w.heap.size + 1, 0, none⟩ = some (.bool false) := by simp [World.cell?, hb5]
    have HST := Lib.hid (heap_setCell_same W (w.heap.size + 1) 0 _ _ (.bool false) hb5)
    have HK : Hid ((W.setCell ⟨w.heap.size + 1, 0, none⟩ (.bool false)).heap[D]? = some (.deferred (some []))) := (heap_setCell_other W ⟨w.heap.size + 1, 0, none⟩ D _ (by show D ≠ w.heap.size + 1; omega)).trans hK
    have HXE : Hid (Ext w (W.setCell ⟨w.heap.size + 1, 0, none⟩ (.bool false))) := (X3.out.trans hX).setCell (p := ⟨w.heap.size + 1, 0, none⟩) (Nat.le_succ _) _
    clear hxs hX hall hK hb5
    gi_wp2
    refine ⟨by simp, .inl ⟨_, _, rfl, run_takeDeferred HK.out, ?_⟩⟩
    have h3 : ((W.setCell ⟨w.heap.size + 1, 0, none⟩ (.bool false)).putObj D (.deferred none)).heap[w.heap.size + 1]? = some (.cells #[.bool false] 4 (0, 0)) := (World.putObj_heap_other (by omega)).trans HST.out
    refine ⟨_, results_boolH rfl _ _ (w.heap.size + 1) (.bool false) rfl (by simp only [World.cell?, h3]; rfl), ?_⟩
    rw [HF.out]
    exact ⟨rfl, HXE.out.putD (by omega) _⟩
  case stop =>
    rintro D cc pre W hD _ ⟨rfl, hX, hres, m, hm, hvm⟩ hK
    have HF : Hid ((List.range (2 ^ b)).any (fun m => violS step c.hyp c.goal st (stN l ws m)) = true) := List.any_eq_true.2 ⟨m, List.mem_range.2 hm, hvm⟩
    have HK := Lib.hid hK; have HRS := Lib.hid hres; have HX := Lib.hid hX
    clear hK hres hX hvm hm
    gi_wp2
    refine ⟨by simp, .inl ⟨_, _, rfl, run_takeDeferred HK.out, ?_⟩⟩
    have h3 : (W.putObj D (.deferred none)).heap[w.heap.size + 1]? = some (.cells #[.bool true] 4 (0, 0)) := (World.putObj_heap_other (by omega)).trans HRS.out
    refine ⟨_, results_boolH rfl _ _ (w.heap.size + 1) (.bool true) rfl (by simp only [World.cell?, h3]; rfl), ?_⟩
    rw [HF.out]
    exact ⟨rfl, HX.out.putD (by omega) _⟩
end Go.Proofs.YtlcgbdjmlnjhcaaGreatDoor
namespace Go.Proofs.YtlcgbdjmlnjhcaaGreatDoor
open Go.RowKit

set_option maxHeartbeats 1000000 in
theorem HFormed_any (e : E) (v cv : Value) (cells : List CellD) (w : World) (he : EVal w v e) (hC : Cells w cv cells) (hM : Masks w) : Calls Tryz.prog 34 #[cv, v] w fun r w' => r = .returned (.bool ((e.wd == 1) && e.valid cells true)) ∧ Ext w w' := by
  obtain ⟨kv, rfl, hk⟩ := id he
  obtain ⟨a, c, rfl⟩ := SliceAt.shape hk
  obtain ⟨ca, cc, rfl⟩ := SliceAt.shape hC
  have hx0 : Ext w (w.alloc (.cells #[.int .i64 e.op, .int .i64 e.wd, .int .i64 e.n, .slice a e.kids.length c] 25)) := (Ext.refl w).alloc _
  have HV := Lib.hid (he.ext hx0); have HX := Lib.hid hx0; have HM := Lib.hid (hM.ext hx0); have HC := Lib.hid (hC.ext hx0)
  clear hx0 he hk hM hC
  cases hw : (e.wd == 1) with
  | false =>
    go_enter Tryz.func34, Tryz.ntmps34
    go_wp2_with fail
    go_ret
    exact ⟨rfl, HX.out⟩
  | true =>
    go_enter Tryz.func34, Tryz.ntmps34
    go_wp2_with fail
    refine (Valid_any e _ _ cells true _ HV.out HC.out HM.out).mono ?_
    rintro r w1 ⟨rfl, x1⟩
    have HX1 := Lib.hid (HX.out.trans x1); clear x1
    go_wp2_with fail
    go_ret
    exact ⟨rfl, HX1.out⟩
end Go.Proofs.YtlcgbdjmlnjhcaaGreatDoor
