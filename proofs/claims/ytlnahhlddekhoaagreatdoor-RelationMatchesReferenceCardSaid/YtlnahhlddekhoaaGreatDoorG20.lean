/-
  The walk of the builder of Compose. Printed by gen_rg4.py out of XRg4.src.
  The walks of relation.Union, Compose and Closure. Printed by gen_rg5.py.
  ref15.Valid. Printed by gen_rr3.py.
-/
import Derived.Test.YtlnahhlddekhoaaGreatDoorG19
import Derived.Sort.CutIn
import Derived.Test.YtlnahhlddekhoaaGreatDoorG15
namespace Go.Proofs.YtlnahhlddekhoaaGreatDoor
open Go.RowKit Go.Shelf
attribute [local go_sem] Oper.semAt_some

theorem opIn_of_op {P : Program} {o : Oper} {a : Act} {w : World} {K : Act → World → Prop} {Q : Exit → Act → World → Prop} (l n : Nat) (hd : ∀ c, o.op ≠ .defer c) (h : o.wp P a w K Q) : o.wpIn (Fence.wide.inRound l) n P a w K Q := by
  unfold Oper.wp at h; unfold Oper.wpIn
  refine ⟨fun _ _ => trivial, ?_⟩
  rw [show (Fence.wide.inRound l).round = some l from rfl, Oper.semAt_some l _ _ hd]
  generalize (execOp a.eval o).run P w = r at *
  cases r with
  | ok x w' =>
    cases x <;> simp only [Oper.upon, Oper.uponIn] at *
    case value => exact h
    case skip => exact h
    case defer => exact h
    case enter => exact ⟨(fun h => nomatch h), CallsIn.inRound l (callsIn_wide.2 h)⟩
    case row row args => exact ⟨(fun h => nomatch h), fun c cs _ => let ⟨v, w', r, s⟩ := h c cs; ⟨v, w', r, stepsIn_wide.2 s⟩⟩
  | halt x w' => cases x <;> simp only [Oper.upon, Oper.uponIn] at * <;> exact h
theorem anyIn_of_any {P : Program} {md : Region.Mode} {ops : Array Oper} {Q : Exit → Act → World → Prop} (l n : Nat) (hQ : ¬ LetsOut Q) (hd : ∀ (i : Nat) (o : Oper), ops[i]? = some o → ∀ c, o.op ≠ .defer c) :
    ∀ (fuel : Nat) (listed : Array Bool) (a : Act) (w : World), wpAny P md ops Q fuel listed a w → wpAnyIn (Fence.wide.inRound l) n P md ops Q fuel listed a w
  | 0, _, _, _, h => h
  | fuel + 1, listed, a, w, h => by
    refine ⟨h.1, fun i hi => ?_⟩
    have h1 := h.2 i hi
    unfold wpOp at h1
    unfold wpOpIn
    cases ho : ops[i]? with
    | none => rw [ho] at h1; exact anyIn_of_any l n hQ hd fuel _ _ _ h1
    | some o =>
      rw [ho] at h1
      simp only at h1 ⊢
      have d1 := hd i o ho
      split
      · next c =>
        rw [if_pos c] at h1
        rcases h1 with h1 | ⟨_, h1⟩
        · exact opIn_of_op l n d1 (Oper.wp_mono (fun a' w' h' => anyIn_of_any l n hQ hd fuel _ a' w' h') h1)
        · exact absurd h1 hQ
      · next c =>
        rw [if_neg c] at h1
        exact ⟨fun _ _ => trivial, anyIn_of_any l n hQ hd fuel _ _ _ h1⟩
/-- No deferred call among the operations. -/
def noDefer (ops : Array Oper) : Bool := ops.all fun o => match o.op with | .defer _ => false | _ => true
theorem noDefer_spec {ops : Array Oper} (h : noDefer ops = true) (i : Nat) (o : Oper) (hi : ops[i]? = some o) : ∀ c, o.op ≠ .defer c := by
  intro c hc
  have := (Array.all_eq_true_iff_forall_mem.1 h) o (Array.mem_of_getElem? hi)
  rw [hc] at this; cases this
/-- A still head and one chain behind it, in whatever order. -/
theorem any_still_tail {P : Program} {l : List Oper} {Q : Exit → Act → World → Prop} {a : Act} {w : World} (n : Nat) (hB : Region.lexTailB .any l.toArray n = true)
    (h : wpStill P l.toArray w (fun a' => wpList P l.toArray Q (l.drop n) a' w) (l.take n) a) : wpAny P .any l.toArray Q l.toArray.size (Array.replicate l.toArray.size false) a w := by
  simp only [Region.lexTailB, Bool.and_eq_true, decide_eq_true_eq] at hB
  obtain ⟨⟨⟨⟨h1, h2⟩, h3⟩, h4⟩, h5⟩ := hB
  have e1 : (l.take n).length = n := by have : n < l.length := by simpa using h2
                                        simp; omega
  have e2 : (l.drop n).length = l.toArray.size - n := by simp
  have head := wpAnyL_lex (md := .any) (g := l.toArray.size - n) h1 h3 h4 h2 (l.take n) 0 (Array.replicate l.toArray.size false) a (fun j hj => by rw [e1] at hj; simp [hj]) (by simpa using e1)
    ⟨by simp, fun j oj _ hl => (by rw [getD_replicate_false] at hl; cases hl), fun t _ ht => getD_in (by simpa using ht) (getD_replicate_false _ _)⟩ (by rw [e1]; exact h5) h
  have all := wpAny_of_head (Q' := Q) (g := l.toArray.size - n) (fun listed a' hL => by
    have tail := wpAny_of_seq (md := .any) (Q' := Q) (l.drop n) n listed a' w (fun j => by simp [List.getElem?_drop]) (by rw [e2]; exact hL.1) hL.2
    rwa [e2] at tail) _ _ _ head
  rw [e1, show n + (l.toArray.size - n) = l.toArray.size by omega] at all
  exact all
/-- Such a region in a round. -/
theorem regionIn_still_tail {P : Program} {id : Nat} {ops : List Oper} {Q : Exit → Act → World → Prop} {a : Act} {w : World} (l n k : Nat) (hm : P.follows .mixedOrders = true) (hd : noDefer ops.toArray = true) (hB : Region.lexTailB .any ops.toArray k = true)
    (h : wpStill P ops.toArray { w with drawn := w.drawn + 1 } (fun a' => wpList P ops.toArray (fun e a' w' => e = .normal ∧ Q .normal a' w') (ops.drop k) a' { w with drawn := w.drawn + 1 }) (ops.take k) a) : (Code.region id ops.toArray true).wpIn (Fence.wide.inRound l) n P Q a w := by
  refine Go.wpIn_mono (wpIn_region_any hm (anyIn_of_any l n ?_ (noDefer_spec hd) _ _ _ _ (any_still_tail k hB h))) ?_
  · rintro ⟨a', w', h', _⟩; cases h'
  · rintro e a' w' ⟨rfl, h'⟩; exact h'

/-- Two matrices, the second in a variable. -/
structure CompVars (W : World) (b c b4 : Nat) (M N : List Nat) (V : World) : Prop where
  hb : W.heap.size ≤ b
  hc : W.heap.size ≤ c
  h4 : W.heap.size ≤ b4
  bc : b ≠ c
  n4 : b ≠ b4 ∧ c ≠ b4
  m : WordsAt 67 V b M
  n : WordsAt 67 V c N
  box : V.heap[b4]? = some (.cells #[.pointer (some ⟨c, 0, none⟩)] 64 (0, 0))
  ext : Ext W V
theorem CompVars.mk1 {W V : World} {b c b4 : Nat} {M N : List Nat} {x : Value} (bc : b ≠ c) (hb : W.heap.size ≤ b) (hc : W.heap.size ≤ c) (hM : WordsAt 67 V b M) (hN : WordsAt 67 V c N) (hR : V.heap[b4]? = some (.cells #[x] 64 (0, 0))) (h4 : W.heap.size ≤ b4) (n4 : b ≠ b4 ∧ c ≠ b4) (hx : Ext W V) :
    CompVars W b c b4 M N (V.setCell ⟨b4, 0, none⟩ (.pointer (some ⟨c, 0, none⟩))) :=
  ⟨hb, hc, h4, bc, n4, hM.other n4.1 _, hN.other n4.2 _, heap_setCell_same _ _ _ _ _ _ hR, hx.setCell (p := ⟨b4, 0, none⟩) h4 _⟩

/-- What is composed when some pairs are done. -/
def compTo (N : List Nat) (l : List (Nat × Nat)) : List Nat := l.foldl (fun M p => orAt M p.1 (rowM N p.2)) zeroM
theorem compTo_snoc (N : List Nat) (l : List (Nat × Nat)) (p : Nat × Nat) : compTo N (l ++ [p]) = orAt (compTo N l) p.1 (rowM N p.2) := by unfold compTo; rw [List.foldl_append]; rfl
/-- Between two rounds. -/
structure CompI (V : World) (c b4 b5 m : Nat) (M N : List Nat) (W : World) : Prop where
  wm : WordsAt 67 W m M
  wn : WordsAt 67 W c N
  x4 : W.heap[b4]? = some (.cells #[.pointer (some ⟨c, 0, none⟩)] 64 (0, 0))
  x5 : W.heap[b5]? = some (.cells #[.pointer (some ⟨m, 0, none⟩)] 64 (0, 0))
  lm : V.heap.size ≤ m
  nm : c ≠ m ∧ b4 ≠ m ∧ b5 ≠ m
  ext : Ext V W
theorem CompI.own {V : World} {c b4 b5 m B : Nat} {N : List Nat} (hB : V.heap.size ≤ B) : OwnFrom B (fun (pre : List Pt) W => CompI V c b4 b5 m (compTo N (ptsL pre)) N W) := by
  intro s W W' row h hg hr
  have hr' : ∀ r, row = some r → ∃ o : Obj, W.heap[r]? = some o ∧ o.isCells = false := fun r e => (hr r e).2
  exact ⟨⟨(grown_other hg hr' _ _ h.wm.heap rfl).trans h.wm.heap, h.wm.len, h.wm.lt⟩, ⟨(grown_other hg hr' _ _ h.wn.heap rfl).trans h.wn.heap, h.wn.len, h.wn.lt⟩, (grown_other hg hr' _ _ h.x4 rfl).trans h.x4, (grown_other hg hr' _ _ h.x5 rfl).trans h.x5, h.lm, h.nm, h.ext.grown hg fun k e => Nat.le_trans hB (hr k e).1⟩
theorem CompI.step {V W : World} {c b4 b5 m : Nat} {M N : List Nat} (h : CompI V c b4 b5 m M N W) {p q : Nat} (hp : p < 64) (k : Nat) : CompI V c b4 b5 m (orAt M p (rowM N q)) N ((W.setCell ⟨m, p, none⟩ (.int .u64 (rowM M p ||| rowM N q : Nat))).drewN k) := by
  have ho : ∀ j, j ≠ m → (W.setCell ⟨m, p, none⟩ (.int .u64 (rowM M p ||| rowM N q : Nat))).heap[j]? = W.heap[j]? := fun j hj => heap_setCell_other _ _ _ _ hj
  exact ⟨(h.wm.set hp (Nat.or_lt_two_pow (n := 64) (h.wm.lt p) (h.wn.lt q))).drewN k, (h.wn.other h.nm.1 _).drewN k, (ho b4 h.nm.2.1).trans h.x4, (ho b5 h.nm.2.2).trans h.x5, h.lm, h.nm, (h.ext.setCell (p := ⟨m, p, none⟩) h.lm _).drewN k⟩

theorem wp_normal {P : Program} {c : Code} {K : Act → World → Prop} {Q : Exit → Act → World → Prop} {a : Act} {w : World} (h : c.wp P (fun e a w => e = .normal ∧ K a w) a w) : c.wp P (Exit.then K Q) a w := by
  refine wp_mono h ?_
  intro e a' w' hq
  obtain ⟨rfl, hk⟩ := hq
  exact hk

set_option maxRecDepth 100000 in
set_option maxHeartbeats 4000000 in
theorem Compose1_any (w : World) (A B : Nat) (cs ws : List Int) (P : List (Nat × Nat)) (cs2 ws2 : List Int) (Q : List (Nat × Nat)) (ca wa ia : Option Addr) (cc wcp ic : Nat) (ca2 wa2 ia2 : Option Addr) (cc2 wc2 ic2 : Nat)
    (hA : RelBox w A cs ws P ca wa ia cc wcp ic) (hB : RelBox w B cs2 ws2 Q ca2 wa2 ia2 cc2 wc2 ic2) :
    Calls Tryz.prog 54 #[.pointer (some ⟨A, 0, none⟩), .pointer (some ⟨B, 0, none⟩)] w fun r w' => ∃ v', r = .returned v' ∧ RelO w' w.heap.size v' cs ws (castP (pairsM (composeM (rowsL P) (rowsL Q)))) ∧ Ext w w' := by
  obtain ⟨W, hW⟩ : ∃ W, W = w.alloc (.cells #[.slice none 0 0, .slice none 0 0, .slice none 0 0] 29) := ⟨_, rfl⟩
  have hx : Ext w W := by rw [hW]; exact (Ext.refl w).alloc _
  have hz : W.heap.size = w.heap.size + 1 := by rw [hW]; simp
  have hB1 : W.heap[w.heap.size]? = some (.cells #[.slice none 0 0, .slice none 0 0, .slice none 0 0] 29 (0, 0)) := by rw [hW]; exact heap_new _ _
  have hA1 := hA.ext hx; have hB2 := hB.ext hx
  obtain ⟨p0, p1, p2⟩ := cells3 hA1.ba
  obtain ⟨r0, r1, r2⟩ := cells3 hB2.ba
  have HA := Lib.hid hA1; have HB := Lib.hid hB2; have HX := Lib.hid hx; have HZ := Lib.hid hz; have HW := Lib.hid hW; have B1 := Lib.hid hB1
  clear hA hB hA1 hB2 hx hz hW hB1
  refine (callsIn_wide (n := 3)).1 ?_
  refine callsIn_of_wp_marks Tryz.func54 rfl trivial ?_ rfl
  simp only [Tryz.ntmps54, List.size_toArray, List.length_cons, List.length_nil, Nat.reduceAdd, Nat.reduceSub, Array.replicate_succ, Array.replicate_zero, List.push_toArray, List.append_toArray, List.nil_append, List.cons_append]
  gi_upto_region 1 with fail
  rw [← HW.out]
  gi_cut [3, 4] from 8 (fun s3 s4 V => ∃ b c b4 : Nat, s3 = .pointer (some ⟨b, 0, none⟩) ∧ s4 = .pointer (some ⟨b4, 0, none⟩) ∧ CompVars W b c b4 (rowsL P) (rowsL Q) V)
  case first =>
    rename_i JJ KK hJJ hKK
    refine wpIn_wide.2 ?_
    refine wp_normal ?_
    refine wp_region_held (S := fun w' => Ext W w') (by kernel_rfl) ?_
    refine wpAnyH_take (i := 0) (v := .agg #[.slice ca cs.length cc, .slice wa ws.length wcp, .slice ia P.length ic]) rfl (by kernel_rfl) (by kernel_rfl) (by kernel_rfl) (fun _ _ _ h => nomatch h.1) (.inl ⟨rfl, fun w' hx' => by have c0 := hx'.cell p0; have c1 := hx'.cell p1; have c2 := hx'.cell p2; go_simp⟩) (Ext.refl W).drew ?_
    refine wpAnyH_take (i := 2) (v := .agg #[.slice ca2 cs2.length cc2, .slice wa2 ws2.length wc2, .slice ia2 Q.length ic2]) rfl (by kernel_rfl) (by kernel_rfl) (by kernel_rfl) (fun _ _ _ h => nomatch h.1) (.inl ⟨rfl, fun w' hx' => by have c0 := hx'.cell r0; have c1 := hx'.cell r1; have c2 := hx'.cell r2; go_simp⟩) (Ext.refl W).drew ?_
    generalize hv0 : ({ W with drawn := W.drawn + 1 } : World) = v0
    have E0 : Ext W v0 := by rw [← hv0]; exact (Ext.refl W).drew
    clear hv0
    refine wpAnyH_all (rs := [1, 4]) (by kernel_rfl) (by simp) ?_
    intro i hi
    have hi' : i = 1 ∨ i = 4 := by simpa using hi
    clear hi
    rcases hi' with rfl | rfl
    · unfold wpOp
      go_simp
      refine .inl ((rows_any cs ws P _ _ (HA.out.va.ext (E0)) HA.out.ok.lt64).mono ?_)
      rintro r v1 ⟨b, rfl, hb, hM, y1⟩
      have E1 : Ext W v1 := (E0).trans y1
      have s1 : v0.heap.size ≤ v1.heap.size := y1.size
      have t1 : b < v1.heap.size := hM.lt_size
      refine ⟨E1, ?_⟩
      refine wpAnyH_all (rs := [3, 4]) (by kernel_rfl) (by simp) ?_
      intro i hi
      have hi' : i = 3 ∨ i = 4 := by simpa using hi
      clear hi
      rcases hi' with rfl | rfl
      · unfold wpOp
        go_simp
        refine .inl ((rows_any cs2 ws2 Q _ _ (HB.out.va.ext (E1)) HB.out.ok.lt64).mono ?_)
        rintro r v2 ⟨c, rfl, hc, hN, y3⟩
        have E2 : Ext W v2 := (E1).trans y3
        have s3 : v1.heap.size ≤ v2.heap.size := y3.size
        have t3 : c < v2.heap.size := hN.lt_size
        have hbc : b ≠ c := by omega
        refine ⟨E2, ?_⟩
        refine wpAnyH_all (rs := [4]) (by kernel_rfl) (by simp) ?_
        intro i hi
        obtain rfl : i = 4 := by simpa using hi
        unfold wpOp
        go_simp
        refine .inl ⟨(E2).alloc _, ?_⟩
        have R3 := heap_new v2 (.cells #[.pointer none] 64)
        have L3 : W.heap.size ≤ v2.heap.size := Ext.size (E2)
        obtain ⟨v3, hv3⟩ : ∃ v, v = v2.alloc (.cells #[.pointer none] 64) := ⟨_, rfl⟩
        have y4 : Ext v2 v3 := by rw [hv3]; exact (Ext.refl _).alloc _
        have s4 : v2.heap.size + 1 ≤ v3.heap.size := by rw [hv3]; simp
        rw [← hv3] at R3 ⊢
        have HV3 := Lib.hid hv3; clear hv3
        have HR3 := Lib.hid R3; clear R3
        refine wpAnyH_all (rs := [5]) (by kernel_rfl) (by simp) ?_
        intro i hi
        obtain rfl : i = 5 := by simpa using hi
        unfold wpOp
        go_simp
        first | refine .inl ⟨((E2).trans y4), ?_⟩ | refine .inl ?_
        refine wpAnyH_all (rs := [6]) (by kernel_rfl) (by simp) ?_
        intro i hi
        obtain rfl : i = 6 := by simpa using hi
        have z0 : v3.cell? ⟨v2.heap.size, 0, none⟩ = some (.pointer none) := by rw [cell_of_row _ _ _ _ _ _ HR3.out]; rfl
        have f0 : v3.frozen? ⟨v2.heap.size, 0, none⟩ = false := frozen_of_row _ _ _ _ _ HR3.out
        unfold wpOp
        go_simp
        refine .inl ⟨(((E2).trans y4)).setCell (p := ⟨v2.heap.size, 0, none⟩) L3 _, ?_⟩
        have HFIN := Lib.hid (CompVars.mk1 (W := W) (b := b) (c := c) hbc (by have := Ext.size (E0); omega) (by have := Ext.size (E1); omega) ((((hM).ext y3)).ext y4) ((hN).ext y4) HR3.out L3 (by constructor <;> omega) (((E2).trans y4)))
        clear z0 f0
        refine wpAnyH_done (by kernel_rfl) ?_ _
        refine ⟨rfl, hKK _ _ (Met.intro (hJJ _ _ ?_))⟩
        repeat apply Exists.intro
        exact ⟨⟨_, _, _, rfl, rfl, HFIN.out⟩, rfl⟩
      · unfold wpOp
        go_simp
        refine .inl ⟨(E1).alloc _, ?_⟩
        have R2 := heap_new v1 (.cells #[.pointer none] 64)
        have L2 : W.heap.size ≤ v1.heap.size := Ext.size (E1)
        obtain ⟨v2, hv2⟩ : ∃ v, v = v1.alloc (.cells #[.pointer none] 64) := ⟨_, rfl⟩
        have y4 : Ext v1 v2 := by rw [hv2]; exact (Ext.refl _).alloc _
        have s4 : v1.heap.size + 1 ≤ v2.heap.size := by rw [hv2]; simp
        rw [← hv2] at R2 ⊢
        have HV2 := Lib.hid hv2; clear hv2
        have HR2 := Lib.hid R2; clear R2
        refine wpAnyH_all (rs := [3]) (by kernel_rfl) (by simp) ?_
        intro i hi
        obtain rfl : i = 3 := by simpa using hi
        unfold wpOp
        go_simp
        refine .inl ((rows_any cs2 ws2 Q _ _ (HB.out.va.ext (((E1).trans y4))) HB.out.ok.lt64).mono ?_)
        rintro r v3 ⟨c, rfl, hc, hN, y3⟩
        have E3 : Ext W v3 := (((E1).trans y4)).trans y3
        have s3 : v2.heap.size ≤ v3.heap.size := y3.size
        have t3 : c < v3.heap.size := hN.lt_size
        have hbc : b ≠ c := by omega
        refine ⟨E3, ?_⟩
        refine wpAnyH_all (rs := [5]) (by kernel_rfl) (by simp) ?_
        intro i hi
        obtain rfl : i = 5 := by simpa using hi
        unfold wpOp
        go_simp
        first | refine .inl ⟨E3, ?_⟩ | refine .inl ?_
        refine wpAnyH_all (rs := [6]) (by kernel_rfl) (by simp) ?_
        intro i hi
        obtain rfl : i = 6 := by simpa using hi
        have z0 : v3.cell? ⟨v1.heap.size, 0, none⟩ = some (.pointer none) := by rw [cell_of_row _ _ _ _ _ _ ((y3.block _ (lt_heap HR2.out)).trans HR2.out)]; rfl
        have f0 : v3.frozen? ⟨v1.heap.size, 0, none⟩ = false := frozen_of_row _ _ _ _ _ ((y3.block _ (lt_heap HR2.out)).trans HR2.out)
        unfold wpOp
        go_simp
        refine .inl ⟨(E3).setCell (p := ⟨v1.heap.size, 0, none⟩) L2 _, ?_⟩
        have HFIN := Lib.hid (CompVars.mk1 (W := W) (b := b) (c := c) hbc (by have := Ext.size (E0); omega) (by have := Ext.size (((E1).trans y4)); omega) ((((hM).ext y4)).ext y3) hN ((y3.block _ (lt_heap HR2.out)).trans HR2.out) L2 (by constructor <;> omega) (E3))
        clear z0 f0
        refine wpAnyH_done (by kernel_rfl) ?_ _
        refine ⟨rfl, hKK _ _ (Met.intro (hJJ _ _ ?_))⟩
        repeat apply Exists.intro
        exact ⟨⟨_, _, _, rfl, rfl, HFIN.out⟩, rfl⟩
    · unfold wpOp
      go_simp
      refine .inl ⟨(E0).alloc _, ?_⟩
      have R1 := heap_new v0 (.cells #[.pointer none] 64)
      have L1 : W.heap.size ≤ v0.heap.size := Ext.size (E0)
      obtain ⟨v1, hv1⟩ : ∃ v, v = v0.alloc (.cells #[.pointer none] 64) := ⟨_, rfl⟩
      have y4 : Ext v0 v1 := by rw [hv1]; exact (Ext.refl _).alloc _
      have s4 : v0.heap.size + 1 ≤ v1.heap.size := by rw [hv1]; simp
      rw [← hv1] at R1 ⊢
      have HV1 := Lib.hid hv1; clear hv1
      have HR1 := Lib.hid R1; clear R1
      refine wpAnyH_all (rs := [1]) (by kernel_rfl) (by simp) ?_
      intro i hi
      obtain rfl : i = 1 := by simpa using hi
      unfold wpOp
      go_simp
      refine .inl ((rows_any cs ws P _ _ (HA.out.va.ext (((E0).trans y4))) HA.out.ok.lt64).mono ?_)
      rintro r v2 ⟨b, rfl, hb, hM, y1⟩
      have E2 : Ext W v2 := (((E0).trans y4)).trans y1
      have s1 : v1.heap.size ≤ v2.heap.size := y1.size
      have t1 : b < v2.heap.size := hM.lt_size
      refine ⟨E2, ?_⟩
      refine wpAnyH_all (rs := [3]) (by kernel_rfl) (by simp) ?_
      intro i hi
      obtain rfl : i = 3 := by simpa using hi
      unfold wpOp
      go_simp
      refine .inl ((rows_any cs2 ws2 Q _ _ (HB.out.va.ext (E2)) HB.out.ok.lt64).mono ?_)
      rintro r v3 ⟨c, rfl, hc, hN, y3⟩
      have E3 : Ext W v3 := (E2).trans y3
      have s3 : v2.heap.size ≤ v3.heap.size := y3.size
      have t3 : c < v3.heap.size := hN.lt_size
      have hbc : b ≠ c := by omega
      refine ⟨E3, ?_⟩
      refine wpAnyH_all (rs := [5]) (by kernel_rfl) (by simp) ?_
      intro i hi
      obtain rfl : i = 5 := by simpa using hi
      unfold wpOp
      go_simp
      first | refine .inl ⟨E3, ?_⟩ | refine .inl ?_
      refine wpAnyH_all (rs := [6]) (by kernel_rfl) (by simp) ?_
      intro i hi
      obtain rfl : i = 6 := by simpa using hi
      have z0 : v3.cell? ⟨v0.heap.size, 0, none⟩ = some (.pointer none) := by rw [cell_of_row _ _ _ _ _ _ ((y3.block _ (lt_heap ((y1.block _ (lt_heap HR1.out)).trans HR1.out))).trans ((y1.block _ (lt_heap HR1.out)).trans HR1.out))]; rfl
      have f0 : v3.frozen? ⟨v0.heap.size, 0, none⟩ = false := frozen_of_row _ _ _ _ _ ((y3.block _ (lt_heap ((y1.block _ (lt_heap HR1.out)).trans HR1.out))).trans ((y1.block _ (lt_heap HR1.out)).trans HR1.out))
      unfold wpOp
      go_simp
      refine .inl ⟨(E3).setCell (p := ⟨v0.heap.size, 0, none⟩) L1 _, ?_⟩
      have HFIN := Lib.hid (CompVars.mk1 (W := W) (b := b) (c := c) hbc (by have := Ext.size (((E0).trans y4)); omega) (by have := Ext.size (E2); omega) ((hM).ext y3) hN ((y3.block _ (lt_heap ((y1.block _ (lt_heap HR1.out)).trans HR1.out))).trans ((y1.block _ (lt_heap HR1.out)).trans HR1.out)) L1 (by constructor <;> omega) (E3))
      clear z0 f0
      refine wpAnyH_done (by kernel_rfl) ?_ _
      refine ⟨rfl, hKK _ _ (Met.intro (hJJ _ _ ?_))⟩
      repeat apply Exists.intro
      exact ⟨⟨_, _, _, rfl, rfl, HFIN.out⟩, rfl⟩
  case rest =>
    obtain ⟨b, c, b4, rfl, rfl, hcv⟩ := hcut
    have HCV := Lib.hid hcv; clear hcv
    generalize wc = V at *
    clear p0 p1 p2 r0 r1 r2
    generalize hm : rowsL P = M at *
    generalize hn : rowsL Q = N at *
    have HMM := Lib.hid hm; have HNN := Lib.hid hn; clear hm hn
    gi_upto_region 3 with fail
    rw [← words_zero]
    obtain ⟨V2, hV2⟩ : ∃ V2, Boxes V V2 (.cells (wordsV zeroM) 67) (.cells #[.pointer (some ⟨V.heap.size, 0, none⟩)] 64) := ⟨_, Boxes.mk' _ _ _⟩
    rw [← hV2.eq]
    have HV2 := Lib.hid hV2; clear hV2
    gi_wp2
    refine ⟨trivial, (pairs_in _ _ _).mono ?_⟩
    rintro r V3 ⟨rfl, hV3⟩
    have z3 : V3.heap.size = V2.heap.size + 1 := by rw [hV3]; simp
    have x3 : Ext V2 V3 := by rw [hV3]; exact (Ext.refl _).alloc _
    have hBn : V3.cell? ⟨V2.heap.size, 0, none⟩ = some (.pointer (some ⟨b, 0, none⟩)) := by
      have : V3.heap[V2.heap.size]? = some (.cells #[.pointer (some ⟨b, 0, none⟩)] 64 (0, 0)) := by rw [hV3]; exact heap_new _ _
      simp [World.cell?, this]
    have xV3 : Ext V V3 := HV2.out.ext.trans x3
    have hI0 : CompI V c b4 (V.heap.size + 1) V.heap.size (compTo N (ptsL [])) N V3 := by
      have h1 := HCV.out.n.lt_size; have h2 := lt_heap HCV.out.box
      refine ⟨⟨?_, len_zeroM, zero_lt⟩, HCV.out.n.ext xV3, ?_, ?_, Nat.le_refl _, ⟨by omega, by omega, by omega⟩, xV3⟩
      · rw [x3.block _ (by have := HV2.out.size; omega)]; exact HV2.out.b0
      · rw [xV3.block _ h2]; exact HCV.out.box
      · rw [x3.block _ (by have := HV2.out.size; omega)]; exact HV2.out.b1
    have HI0 := Lib.hid hI0; have HBN := Lib.hid hBn; have Z3 := Lib.hid z3; have XV3 := Lib.hid xV3; have HM3 := Lib.hid (HCV.out.m.ext xV3)
    have HBV := Lib.hid HCV.out.m.lt_size
    clear hI0 hBn z3 xV3 x3 hV3
    gi_wp2
    refine wpIn_rangeFunc_ownG rfl (by omega) (gf := 93) (lb := #[.pointer (some ⟨V2.heap.size, 0, none⟩)]) rfl trivial (enters_of Tryz.func93 (by kernel_rfl) rfl)
      (pairs_stopsP 2 (by omega) V2.heap.size V.heap.size b M V3 (by have := Z3.out; omega) HBN.out HM3.out HBV.out) belowK_t (belowK_b (XV3.out.size)) (Below.refl _ _) (fun _ => rfl)
      (fun pre W' => CompI V c b4 (V.heap.size + 1) V.heap.size (compTo N (ptsL pre)) N W')
      (fun _ _ _ => False) (CompI.own XV3.out.size) (fun _ _ _ _ _ hs _ _ => hs) HI0.out
      (fun x => { tmps := #[.pointer (some ⟨A, 0, none⟩), .pointer (some ⟨B, 0, none⟩), .pointer (some ⟨w.heap.size, 0, none⟩), .pointer (some ⟨b, 0, none⟩), .pointer (some ⟨b4, 0, none⟩), .pointer (some ⟨V.heap.size + 1, 0, none⟩), .int .i64 x.1.1, .int .i64 x.1.2, u8, u9, u10, u11, .agg (wordsV zeroM), .pointer (some ⟨V.heap.size, 0, none⟩), .pointer (some ⟨b, 0, none⟩), .func (.func 93) #[] #[.pointer (some ⟨V2.heap.size, 0, none⟩)], .int .i64 x.1.1, .int .i64 x.1.2, u18, u19, u20, u21, u22, u23, u24, u25, u26, u27, u28, u29, u30, u31, u32, u33, u34, u35, u36], defers := [] }) ?assign ?body ?done ?stop
    case assign =>
      intro l x W' K hK
      gi_wp2
      exact hK
    case body =>
      rintro l pre ⟨⟨p, q⟩, hp, hq⟩ W' hI hlt
      have HI := Lib.hid hI; clear hI
      have c5 : W'.cell? ⟨V.heap.size + 1, 0, none⟩ = some (.pointer (some ⟨V.heap.size, 0, none⟩)) := by rw [cell_of_row _ _ _ _ _ _ HI.out.x5]; rfl
      have c4 : W'.cell? ⟨b4, 0, none⟩ = some (.pointer (some ⟨c, 0, none⟩)) := by rw [cell_of_row _ _ _ _ _ _ HI.out.x4]; rfl
      have cm := HI.out.wm.cell hp
      have cn := HI.out.wn.cell hq
      have fm := HI.out.wm.frozen p
      have LM := Lib.hid (HI.out.wm.lt p)
      have LN := Lib.hid (HI.out.wn.lt q)
      have HSN : Hid (compTo N (ptsL (pre ++ [⟨(p, q), hp, hq⟩])) = orAt (compTo N (ptsL pre)) p (rowM N q)) := by have := ptsL_snoc pre ⟨(p, q), hp, hq⟩; unfold Hid; exact (congrArg (compTo N) this).trans (compTo_snoc N (ptsL pre) (p, q))
      have HST := Lib.hid (fun k => HI.out.step (q := q) hp k)
      have i0 : (0 : Int) ≤ (p : Int) := by omega
      have i1 : (p : Int) < 64 := by have : p < 64 := hp; omega
      have i2 : (0 : Int) ≤ (q : Int) := by omega
      have i3 : (q : Int) < 64 := by have : q < 64 := hq; omega
      have HOR := Lib.hid (u64_or LM.out LN.out)
      generalize rowM (compTo N (ptsL pre)) p = xm at *
      generalize rowM N q = xn at *
      dsimp only
      gi_wp2
      refine regionIn_still_tail l _ 13 (by kernel_rfl) (by kernel_rfl) (by kernel_rfl) ?_
      simp only [List.take_succ_cons, List.take_zero, List.drop_succ_cons, List.drop_zero]
      repeat still_step
      refine wpStill_nil ?_
      go_wp2_with fail
      have hst := HST.out 1
      rw [← HOR.out] at hst
      refine ⟨?_, ?_, ?_⟩
      · exact ((KeepsOthers.setCell _ _ _).trans (KeepsOthers.drew _)).from _
      · exact ((Below.refl V.heap.size W').setCell (p := ⟨V.heap.size, p, none⟩) (Nat.le_refl _) _).drew
      · show CompI V c b4 _ _ (compTo N (ptsL (pre ++ [⟨(p, q), hp, hq⟩]))) N _
        rw [HSN.out]; exact hst
    case done =>
      rintro D ys W' hD hys hI hK
      have HI := Lib.hid hI; have HK := Lib.hid hK; clear hI hK
      have hys' : compTo N (ptsL ys) = composeM M N := by rw [hys]; rfl
      rw [hys'] at HI
      generalize hu : composeM M N = U at *
      have HUU := Lib.hid hu
      clear hu hys' hys
      have XW := Lib.hid (HCV.out.ext.trans HI.out.ext)
      have A5 := Lib.hid (HA.out.ext XW.out)
      obtain ⟨p0, p1, p2⟩ := cells3 A5.out.ba
      obtain ⟨l1, l2⟩ := A5.out.lens
      have c5 : W'.cell? ⟨V.heap.size + 1, 0, none⟩ = some (.pointer (some ⟨V.heap.size, 0, none⟩)) := by rw [cell_of_row _ _ _ _ _ _ HI.out.x5]; rfl
      gi_wp2
      refine ⟨trivial, (callsIn_wide.2 (relation_any cs ws U V.heap.size _ _ _ A5.out.vc A5.out.vw HI.out.wm l1 l2)).mono ?_⟩
      rintro r w2 ⟨v, rfl, hv, x2⟩
      obtain ⟨sa, sb, sc, sd, se, sf, rfl⟩ := hv.shape
      have hR := (XW.out.trans x2).block w.heap.size (by have := HZ.out; omega)
      rw [B1.out] at hR
      obtain ⟨z0, z1, z2, f0, f1, f2⟩ := block3 hR
      have HR := Lib.hid hR
      have hwW : w.heap.size < W'.heap.size := by have := HZ.out; have := XW.out.size; omega
      have HF := Lib.hid (RelO.fin (HX.out.trans XW.out) hwW hv x2)
      have hK2 : w2.heap[D]? = some (.deferred (some [])) := by rw [x2.block D (lt_heap HK.out)]; exact HK.out
      have HK2 := Lib.hid hK2; have X2 := Lib.hid x2; have HV := Lib.hid hv
      have hDl : w.heap.size < D := by have := XV3.out.size; have := HCV.out.ext.size; have := HZ.out; omega
      clear hR hv x2 hK2
      gi_wp2
      obtain ⟨W6, hW6⟩ : ∃ W6, W6 = put3 w2 w.heap.size (.slice sa cs.length sb) (.slice sc ws.length sd) (.slice se (castP (pairsM U)).length sf) := ⟨_, rfl⟩
      change bodyPostM _ _ _ _ _ _ _ (put3 w2 w.heap.size (.slice sa cs.length sb) (.slice sc ws.length sd) (.slice se (castP (pairsM U)).length sf))
      rw [← hW6]
      have hfin := HF.out
      rw [← hW6] at hfin
      have hK6 : W6.heap[D]? = some (.deferred (some [])) := by rw [hW6, put3_other D (by omega)]; exact HK2.out
      have h60 : W6.heap[w.heap.size]? = some (.cells #[.slice sa cs.length sb, .slice sc ws.length sd, .slice se (castP (pairsM U)).length sf] 29 (0, 0)) := by rw [hW6]; exact put3_new HR.out
      have hg7 := grownBy_putObj' W6 D (.deferred none)
      have h7o : ∀ k (o : Obj), W6.heap[k]? = some o → o.isCells = true → (W6.putObj D (.deferred none)).heap[k]? = W6.heap[k]? := fun k o hk ho =>
        hg7.block k (lt_heap hk) fun e => by cases e; rw [hK6] at hk; cases hk; cases ho
      refine ⟨by simp, .inl ⟨_, _, rfl, run_takeDeferred hK6, ?_⟩⟩
      refine ⟨_, results_cell_row (by rfl) _ _ w.heap.size 29 _ (0, 0) _ (by rfl) ((h7o _ _ h60 rfl).trans h60) Tryz.underlying29 rfl sizeRel, ?_⟩
      obtain ⟨⟨vc, vw, vi, he, q1, q2, q3⟩, qx⟩ := hfin
      refine ⟨_, rfl, ?_, qx.grown hg7 fun k e => by cases e; omega⟩
      rw [HMM.out, HNN.out, HUU.out]
      exact ⟨vc, vw, vi, he, q1.keep fun k hk => by obtain ⟨o, h1, h2⟩ := q1.isCells k hk; exact h7o k o h1 h2, q2.keep fun k hk => by obtain ⟨o, h1, h2⟩ := q2.isCells k hk; exact h7o k o h1 h2, q3.keep fun k hk => by obtain ⟨o, h1, h2⟩ := q3.isCells k hk; exact h7o k o h1 h2⟩
    case stop =>
      rintro D c pre W _ _ h _
      exact h.elim
end Go.Proofs.YtlnahhlddekhoaaGreatDoor
namespace Go.Proofs.YtlnahhlddekhoaaGreatDoor
open Go.RowKit

def OpPostR (ok : Bool) (C D : List Int) (I : List (Int × Int)) (w : World) (r : Ending) (w' : World) : Prop := if ok then RelRes 0 C D I w r w' else RelRes 1 [] [] [] w r w'
theorem OpPostR.res {ok : Bool} {C D : List Int} {I : List (Int × Int)} {w : World} {r : Ending} {w' : World} (h : OpPostR ok C D I w r w') : ∃ e C' D' I', RelRes e C' D' I' w r w' ∧ ∀ w0 r2 w2, RelRes e C' D' I' w0 r2 w2 → OpPostR ok C D I w0 r2 w2 := by
  unfold OpPostR at *
  cases ok with
  | true => exact ⟨_, _, _, _, h, fun _ _ _ h => h⟩
  | false => exact ⟨_, _, _, _, h, fun _ _ _ h => h⟩
theorem alike_parts {cs ws : List Int} {P : List (Int × Int)} {cs2 ws2 : List Int} {Q : List (Int × Int)} (h : alikeB cs ws P cs2 ws2 Q = true) : cs = cs2 ∧ ws = ws2 ∧ castP (natP P) = P ∧ ValidR cs ws (natP P) ∧ castP (natP Q) = Q ∧ ValidR cs2 ws2 (natP Q) := by
  unfold alikeB at h
  simp only [Bool.and_eq_true, decide_eq_true_eq] at h
  obtain ⟨⟨⟨h1, h2⟩, h3⟩, h4⟩ := h
  exact ⟨h3, h4, (rvalid_nat h1).1, (rvalid_nat h1).2, (rvalid_nat h2).1, (rvalid_nat h2).2⟩

theorem Union_cf (args : Array Value) (w : World) : (callFunc 50 args).run Tryz.prog w = .ok (.enter 50 args) w := by go_simp
set_option maxRecDepth 100000 in
set_option maxHeartbeats 2000000 in
theorem Union_any (cs ws : List Int) (P : List (Int × Int)) (cs2 ws2 : List Int) (Q : List (Int × Int)) (va vs : Value) (w : World) (ha : RelV w va cs ws P) (hs : RelV w vs cs2 ws2 Q) (hT : DeB w) :
    Calls Tryz.prog 13 #[va, vs] w (OpPostR (alikeB cs ws P cs2 ws2 Q) cs ws (castP (pairsM (unionM (rowsL (natP P)) (rowsL (natP Q))))) w) := by
  obtain ⟨ca, cc, wa, wcp, ia, ic, rfl, a1, a2, a3⟩ := ha.shape
  obtain ⟨ca2, cc2, wa2, wc2, ia2, ic2, rfl, b1, b2, b3⟩ := hs.shape
  obtain ⟨W, hW⟩ : ∃ W, Boxes3 w W (.cells #[.slice ca cs.length cc, .slice wa ws.length wcp, .slice ia P.length ic] 29) (.cells #[.slice ca2 cs2.length cc2, .slice wa2 ws2.length wc2, .slice ia2 Q.length ic2] 29) (.cells #[.slice none 0 0, .slice none 0 0, .slice none 0 0] 29) := ⟨_, Boxes3.mk' _ _ _ _⟩
  obtain ⟨p0, p1, p2⟩ := cells3 hW.b0
  obtain ⟨q0, q1, q2⟩ := cells3 hW.b1
  have HA := Lib.hid (ha.ext hW.ext); have HS := Lib.hid (hs.ext hW.ext); have HT := Lib.hid (hT.ext hW.ext)
  have A1 := Lib.hid (a1.ext hW.ext); have A2 := Lib.hid (a2.ext hW.ext); have B1 := Lib.hid (b1.ext hW.ext); have B2 := Lib.hid (b2.ext hW.ext)
  have HW := Lib.hid hW
  clear ha hs hT a1 a2 a3 b1 b2 b3 hW
  go_enter Tryz.func13, Tryz.ntmps13
  go_upto_region 1 with fail
  rw [← HW.out.eq]
  go_wp2_with fail
  refine (alike_any cs ws P cs2 ws2 Q _ _ _ HA.out HS.out HT.out).mono ?_
  rintro r w1 ⟨rfl, x1⟩
  have hcall : ∀ f, f = .func (.func 50) #[] #[.pointer (some ⟨w.heap.size, 0, none⟩), .pointer (some ⟨w.heap.size + 1, 0, none⟩)] → Calls Tryz.prog 48 #[.bool (alikeB cs ws P cs2 ws2 Q), f] w1 (OpPostR (alikeB cs ws P cs2 ws2 Q) cs ws (castP (pairsM (unionM (rowsL (natP P)) (rowsL (natP Q))))) w1) := by
    rintro f rfl
    cases hap : alikeB cs ws P cs2 ws2 Q with
    | false => exact checkedR_no _ _
    | true =>
      obtain ⟨e1, e2, e3, e4, e5, e6⟩ := alike_parts hap
      have hVA : RelBox W w.heap.size cs ws (natP P) ca wa ia cc wcp ic := ⟨by rw [natP_len]; exact HW.out.b0, by rw [natP_len, e3]; exact HA.out, A1.out, A2.out, e4⟩
      have hVB : RelBox W (w.heap.size + 1) cs2 ws2 (natP Q) ca2 wa2 ia2 cc2 wc2 ic2 := ⟨by rw [natP_len]; exact HW.out.b1, by rw [natP_len, e5]; exact HS.out, B1.out, B2.out, e6⟩
      exact checkedR_yes _ _ _ _ _ _ ⟨Union_cf, fun w' hx' => Union1_any w' _ _ cs ws (natP P) cs2 ws2 (natP Q) ca wa ia cc wcp ic ca2 wa2 ia2 cc2 wc2 ic2 (hVA.ext (x1.trans hx')) (hVB.ext (x1.trans hx'))⟩
  have HC := Lib.hid hcall; have X1 := Lib.hid x1
  clear hcall x1
  generalize alikeB cs ws P cs2 ws2 Q = ok at *
  generalize castP (pairsM (unionM (rowsL (natP P)) (rowsL (natP Q)))) = I at *
  go_wp2_with fail
  refine (HC.out _ rfl).mono ?_
  intro r w2 h2
  obtain ⟨e, C', D', I', ⟨v, rfl, hv, x2⟩, hback⟩ := h2.res
  obtain ⟨sa, sb, sc, sd, se, sf, rfl⟩ := hv.shape
  clear h2
  have hR := (X1.out.trans x2).block (w.heap.size + 2) (by have := HW.out.size; omega)
  rw [HW.out.b2] at hR
  obtain ⟨z0, z1, z2, f0, f1, f2⟩ := block3 hR
  have HR := Lib.hid (put3_new (x := .slice sa C'.length sb) (y := .slice sc D'.length sd) (z := .slice se I'.length sf) hR)
  have HF : Hid (OpPostR ok cs ws I w (.returned (.tuple #[.agg #[.slice sa C'.length sb, .slice sc D'.length sd, .slice se I'.length sf], .int .i64 e])) (put3 w2 (w.heap.size + 2) (.slice sa C'.length sb) (.slice sc D'.length sd) (.slice se I'.length sf))) := by
    have hz := HW.out.size
    have hz1 := X1.out.size
    exact hback _ _ _ ⟨_, rfl, (hv.put3 (by omega) _ _ _).mono (by omega), (HW.out.ext.trans (X1.out.trans x2)).put3 (by omega) _ _ _⟩
  clear hR hback hv x2
  go_wp2_with fail
  exact bodyPost_ret (v := .tuple #[.agg #[.slice sa C'.length sb, .slice sc D'.length sd, .slice se I'.length sf], .int .i64 e]) (results_row_tmp Tryz.results13 _ _ (w.heap.size + 2) 29 _ (0, 0) _ rfl HR.out Tryz.underlying29 rfl sizeRel) rfl HF.out

theorem Compose_cf (args : Array Value) (w : World) : (callFunc 54 args).run Tryz.prog w = .ok (.enter 54 args) w := by go_simp
set_option maxRecDepth 100000 in
set_option maxHeartbeats 2000000 in
theorem Compose_any (cs ws : List Int) (P : List (Int × Int)) (cs2 ws2 : List Int) (Q : List (Int × Int)) (va vs : Value) (w : World) (ha : RelV w va cs ws P) (hs : RelV w vs cs2 ws2 Q) (hT : DeB w) :
    Calls Tryz.prog 15 #[va, vs] w (OpPostR (alikeB cs ws P cs2 ws2 Q) cs ws (castP (pairsM (composeM (rowsL (natP P)) (rowsL (natP Q))))) w) := by
  obtain ⟨ca, cc, wa, wcp, ia, ic, rfl, a1, a2, a3⟩ := ha.shape
  obtain ⟨ca2, cc2, wa2, wc2, ia2, ic2, rfl, b1, b2, b3⟩ := hs.shape
  obtain ⟨W, hW⟩ : ∃ W, Boxes3 w W (.cells #[.slice ca cs.length cc, .slice wa ws.length wcp, .slice ia P.length ic] 29) (.cells #[.slice ca2 cs2.length cc2, .slice wa2 ws2.length wc2, .slice ia2 Q.length ic2] 29) (.cells #[.slice none 0 0, .slice none 0 0, .slice none 0 0] 29) := ⟨_, Boxes3.mk' _ _ _ _⟩
  obtain ⟨p0, p1, p2⟩ := cells3 hW.b0
  obtain ⟨q0, q1, q2⟩ := cells3 hW.b1
  have HA := Lib.hid (ha.ext hW.ext); have HS := Lib.hid (hs.ext hW.ext); have HT := Lib.hid (hT.ext hW.ext)
  have A1 := Lib.hid (a1.ext hW.ext); have A2 := Lib.hid (a2.ext hW.ext); have B1 := Lib.hid (b1.ext hW.ext); have B2 := Lib.hid (b2.ext hW.ext)
  have HW := Lib.hid hW
  clear ha hs hT a1 a2 a3 b1 b2 b3 hW
  go_enter Tryz.func15, Tryz.ntmps15
  go_upto_region 1 with fail
  rw [← HW.out.eq]
  go_wp2_with fail
  refine (alike_any cs ws P cs2 ws2 Q _ _ _ HA.out HS.out HT.out).mono ?_
  rintro r w1 ⟨rfl, x1⟩
  have hcall : ∀ f, f = .func (.func 54) #[] #[.pointer (some ⟨w.heap.size, 0, none⟩), .pointer (some ⟨w.heap.size + 1, 0, none⟩)] → Calls Tryz.prog 48 #[.bool (alikeB cs ws P cs2 ws2 Q), f] w1 (OpPostR (alikeB cs ws P cs2 ws2 Q) cs ws (castP (pairsM (composeM (rowsL (natP P)) (rowsL (natP Q))))) w1) := by
    rintro f rfl
    cases hap : alikeB cs ws P cs2 ws2 Q with
    | false => exact checkedR_no _ _
    | true =>
      obtain ⟨e1, e2, e3, e4, e5, e6⟩ := alike_parts hap
      have hVA : RelBox W w.heap.size cs ws (natP P) ca wa ia cc wcp ic := ⟨by rw [natP_len]; exact HW.out.b0, by rw [natP_len, e3]; exact HA.out, A1.out, A2.out, e4⟩
      have hVB : RelBox W (w.heap.size + 1) cs2 ws2 (natP Q) ca2 wa2 ia2 cc2 wc2 ic2 := ⟨by rw [natP_len]; exact HW.out.b1, by rw [natP_len, e5]; exact HS.out, B1.out, B2.out, e6⟩
      exact checkedR_yes _ _ _ _ _ _ ⟨Compose_cf, fun w' hx' => Compose1_any w' _ _ cs ws (natP P) cs2 ws2 (natP Q) ca wa ia cc wcp ic ca2 wa2 ia2 cc2 wc2 ic2 (hVA.ext (x1.trans hx')) (hVB.ext (x1.trans hx'))⟩
  have HC := Lib.hid hcall; have X1 := Lib.hid x1
  clear hcall x1
  generalize alikeB cs ws P cs2 ws2 Q = ok at *
  generalize castP (pairsM (composeM (rowsL (natP P)) (rowsL (natP Q)))) = I at *
  go_wp2_with fail
  refine (HC.out _ rfl).mono ?_
  intro r w2 h2
  obtain ⟨e, C', D', I', ⟨v, rfl, hv, x2⟩, hback⟩ := h2.res
  obtain ⟨sa, sb, sc, sd, se, sf, rfl⟩ := hv.shape
  clear h2
  have hR := (X1.out.trans x2).block (w.heap.size + 2) (by have := HW.out.size; omega)
  rw [HW.out.b2] at hR
  obtain ⟨z0, z1, z2, f0, f1, f2⟩ := block3 hR
  have HR := Lib.hid (put3_new (x := .slice sa C'.length sb) (y := .slice sc D'.length sd) (z := .slice se I'.length sf) hR)
  have HF : Hid (OpPostR ok cs ws I w (.returned (.tuple #[.agg #[.slice sa C'.length sb, .slice sc D'.length sd, .slice se I'.length sf], .int .i64 e])) (put3 w2 (w.heap.size + 2) (.slice sa C'.length sb) (.slice sc D'.length sd) (.slice se I'.length sf))) := by
    have hz := HW.out.size
    have hz1 := X1.out.size
    exact hback _ _ _ ⟨_, rfl, (hv.put3 (by omega) _ _ _).mono (by omega), (HW.out.ext.trans (X1.out.trans x2)).put3 (by omega) _ _ _⟩
  clear hR hback hv x2
  go_wp2_with fail
  exact bodyPost_ret (v := .tuple #[.agg #[.slice sa C'.length sb, .slice sc D'.length sd, .slice se I'.length sf], .int .i64 e]) (results_row_tmp Tryz.results15 _ _ (w.heap.size + 2) 29 _ (0, 0) _ rfl HR.out Tryz.underlying29 rfl sizeRel) rfl HF.out

theorem Closure_cf (args : Array Value) (w : World) : (callFunc 58 args).run Tryz.prog w = .ok (.enter 58 args) w := by go_simp
set_option maxRecDepth 100000 in
set_option maxHeartbeats 2000000 in
theorem Closure_any (cs ws : List Int) (P : List (Int × Int)) (va : Value) (w : World) (ha : RelV w va cs ws P) (hT : DeB w) :
    Calls Tryz.prog 17 #[va] w (OpPostR (rvalidB cs ws P) cs ws (castP (pairsM (closeM (pw (sumI ws)).toNat (rowsL (natP P))))) w) := by
  obtain ⟨ca, cc, wa, wcp, ia, ic, rfl, a1, a2, a3⟩ := ha.shape
  obtain ⟨W, hW⟩ : ∃ W, Boxes w W (.cells #[.slice ca cs.length cc, .slice wa ws.length wcp, .slice ia P.length ic] 29) (.cells #[.slice none 0 0, .slice none 0 0, .slice none 0 0] 29) := ⟨_, Boxes.mk' _ _ _⟩
  obtain ⟨p0, p1, p2⟩ := cells3 hW.b0
  have HA := Lib.hid (ha.ext hW.ext); have HT := Lib.hid (hT.ext hW.ext)
  have A1 := Lib.hid (a1.ext hW.ext); have A2 := Lib.hid (a2.ext hW.ext)
  have HW := Lib.hid hW
  clear ha hT a1 a2 a3 hW
  go_enter Tryz.func17, Tryz.ntmps17
  go_upto_region 1 with fail
  rw [← HW.out.eq]
  go_wp2_with fail
  refine (rvalid_any cs ws P _ _ HA.out HT.out).mono ?_
  rintro r w1 ⟨rfl, x1⟩
  have hcall : ∀ f, f = .func (.func 58) #[] #[.pointer (some ⟨w.heap.size, 0, none⟩)] → Calls Tryz.prog 48 #[.bool (rvalidB cs ws P), f] w1 (OpPostR (rvalidB cs ws P) cs ws (castP (pairsM (closeM (pw (sumI ws)).toNat (rowsL (natP P))))) w1) := by
    rintro f rfl
    cases hap : rvalidB cs ws P with
    | false => exact checkedR_no _ _
    | true =>
      obtain ⟨e3, e4⟩ := rvalid_nat hap
      have hVA : RelBox W w.heap.size cs ws (natP P) ca wa ia cc wcp ic := ⟨by rw [natP_len]; exact HW.out.b0, by rw [natP_len, e3]; exact HA.out, A1.out, A2.out, e4⟩
      exact checkedR_yes _ _ _ _ _ _ ⟨Closure_cf, fun w' hx' => Closure1_any w' _ cs ws (natP P) ca wa ia cc wcp ic (hVA.ext (x1.trans hx'))⟩
  have HC := Lib.hid hcall; have X1 := Lib.hid x1
  clear hcall x1
  generalize rvalidB cs ws P = ok at *
  generalize castP (pairsM (closeM (pw (sumI ws)).toNat (rowsL (natP P)))) = I at *
  go_wp2_with fail
  refine (HC.out _ rfl).mono ?_
  intro r w2 h2
  obtain ⟨e, C', D', I', ⟨v, rfl, hv, x2⟩, hback⟩ := h2.res
  obtain ⟨sa, sb, sc, sd, se, sf, rfl⟩ := hv.shape
  clear h2
  have hR := (X1.out.trans x2).block (w.heap.size + 1) (by have := HW.out.size; omega)
  rw [HW.out.b1] at hR
  obtain ⟨z0, z1, z2, f0, f1, f2⟩ := block3 hR
  have HR := Lib.hid (put3_new (x := .slice sa C'.length sb) (y := .slice sc D'.length sd) (z := .slice se I'.length sf) hR)
  have HF : Hid (OpPostR ok cs ws I w (.returned (.tuple #[.agg #[.slice sa C'.length sb, .slice sc D'.length sd, .slice se I'.length sf], .int .i64 e])) (put3 w2 (w.heap.size + 1) (.slice sa C'.length sb) (.slice sc D'.length sd) (.slice se I'.length sf))) := by
    have hz := HW.out.size
    have hz1 := X1.out.size
    exact hback _ _ _ ⟨_, rfl, (hv.put3 (by omega) _ _ _).mono (by omega), (HW.out.ext.trans (X1.out.trans x2)).put3 (by omega) _ _ _⟩
  clear hR hback hv x2
  go_wp2_with fail
  exact bodyPost_ret (v := .tuple #[.agg #[.slice sa C'.length sb, .slice sc D'.length sd, .slice se I'.length sf], .int .i64 e]) (results_row_tmp Tryz.results17 _ _ (w.heap.size + 1) 29 _ (0, 0) _ rfl HR.out Tryz.underlying29 rfl sizeRel) rfl HF.out

end Go.Proofs.YtlnahhlddekhoaaGreatDoor
namespace Go.Proofs.YtlnahhlddekhoaaGreatDoor
open Go.RowKit

theorem rvalid_bits {cs ws : List Int} {P : List (Int × Int)} (h : ¬ (shapeB cs ws = true ∧ sumI ws ≤ 6)) : rvalidB cs ws P = false := by
  rw [Bool.eq_false_iff]
  intro c
  obtain ⟨h1, h2, _⟩ := rvalid_iff.1 c
  exact h ⟨(small_sum h1).1, h2⟩
set_option maxRecDepth 100000 in
set_option maxHeartbeats 4000000 in
theorem RValid_any (cs ws : List Int) (P : List (Int × Int)) (v : Value) (w : World) (hv : RelV w v cs ws P) : Calls Tryz.prog 59 #[v] w fun r w' => r = .returned (.bool (rvalidB cs ws P)) ∧ Ext w w' := by
  obtain ⟨ca, cc, wa, wcp, ia, ic, rfl, a1, a2, a3⟩ := hv.shape
  have hlen := SliceAt.len_le a3
  obtain ⟨W, hW⟩ : ∃ W, W = w.alloc (.cells #[.slice ca cs.length cc, .slice wa ws.length wcp, .slice ia P.length ic] 29) := ⟨_, rfl⟩
  have hx : Ext w W := by rw [hW]; exact (Ext.refl w).alloc _
  have hB1 : W.heap[w.heap.size]? = some (.cells #[.slice ca cs.length cc, .slice wa ws.length wcp, .slice ia P.length ic] 29 (0, 0)) := by rw [hW]; exact heap_new _ _
  obtain ⟨p0, p1, p2⟩ := cells3 hB1
  have A1 := Lib.hid (a1.ext hx); have A2 := Lib.hid (a2.ext hx); have A3 := Lib.hid (a3.ext hx)
  have HX := Lib.hid hx; have HW := Lib.hid hW
  clear hv a1 a2 a3 hx hW hB1
  go_enter Tryz.func59, Tryz.ntmps59
  go_upto_region 1 with fail
  rw [← HW.out]
  go_wp2_with fail
  refine (RBits_any cs ws 6 _ _ _ A1.out A2.out).mono ?_
  rintro r w1 ⟨rfl, x1⟩
  have X2 := Lib.hid x1
  have p21 := x1.cell p2
  clear x1 p0 p1 p2
  by_cases hb : shapeB cs ws = true ∧ sumI ws ≤ 6
  · obtain ⟨hsh, h6⟩ := hb
    have hs0 := shape_sum0 hsh
    have hbe : bitsI cs ws 6 = sumI ws := by unfold bitsI; rw [if_pos ⟨hsh, h6⟩]
    rw [hbe]
    have HSM := Lib.hid (small_of hsh (by omega))
    have HRV : Hid (∀ Q : Prop, (PairsOk (pw (sumI ws)) P P.length ↔ Q) → (Q → rvalidB cs ws P = true) ∧ (¬ Q → rvalidB cs ws P = false)) := fun Q hQ => ⟨fun q => rvalid_iff.2 ⟨HSM.out, h6, hQ.2 q⟩, fun q => rvalid_no fun c => q (hQ.1 c)⟩
    generalize sumI ws = sm at *
    clear hbe hsh
    go_wp2_with fail
    refine (Power_any sm _ (by omega)).mono ?_
    rintro r w3 ⟨rfl, hw3⟩
    rw [← hw3]; clear hw3 w3
    have hn1 : 1 ≤ pw sm ∧ pw sm ≤ 64 := by
      have h1 := pw_mono (s := 0) (t := sm) (by omega) hs0
      have h2 := pw_mono hs0 h6
      have e1 : pw 0 = 1 := by decide
      have e2 : pw 6 = 64 := by decide
      omega
    generalize pw sm = n at *
    go_wp2_with fail
    have A34 := Lib.hid (A3.out.ext X2.out)
    go_loopw [5] (fun i wr => ∃ k : Nat, k ≤ P.length ∧ i = .int .i64 k ∧ Ext w1 wr ∧ PairsOk n P k) (fun i _ => P.length - (intOf i).toNat)
    case atStart => exact ⟨0, Nat.zero_le _, rfl, Ext.refl _, ⟨fun i _ h => absurd h (by omega), fun i _ h => absurd h (by omega)⟩⟩
    case round =>
      obtain ⟨k, hk, rfl, hX, hR⟩ := hrel
      have HXr := Lib.hid hX; have HR := Lib.hid hR; clear hX hR
      have p2r := HXr.out.cell p21
      by_cases hlt : k < P.length
      · rcases A34.out with ⟨_, e⟩ | ⟨b, o, cap', e, _, hc⟩
        · rw [e] at hlt; simp at hlt
        cases e
        obtain ⟨g0, g1⟩ := hc k hlt
        replace g0 := HXr.out.cell g0; replace g1 := HXr.out.cell g1
        have HBD : Hid (¬ (0 ≤ P[k].1 ∧ P[k].1 < n ∧ 0 ≤ P[k].2 ∧ P[k].2 < n) → rvalidB cs ws P = false) := fun h => (HRV.out _ Iff.rfl).2 fun c => h (c.bd k hlt hlt)
        have HC := Lib.hid hc; clear hc
        generalize hx : P[k].1 = x at *
        generalize hy : P[k].2 = y at *
        have HXX := Lib.hid hx; have HYY := Lib.hid hy; clear hx hy
        go_upto_region 9 with fail
        obtain ⟨w5, hw5⟩ : ∃ w5, w5 = wr.alloc (.cells #[.int .i64 x, .int .i64 y] 52) := ⟨_, rfl⟩
        rw [← hw5]
        have x5 : Ext wr w5 := by rw [hw5]; exact (Ext.refl _).alloc _
        have hb5 : w5.heap[wr.heap.size]? = some (.cells #[.int .i64 x, .int .i64 y] 52 (0, 0)) := by rw [hw5]; exact heap_new _ _
        have d0 : w5.cell? ⟨wr.heap.size, 0, none⟩ = some (.int .i64 x) := by simp [World.cell?, hb5]
        have d1 : w5.cell? ⟨wr.heap.size, 1, none⟩ = some (.int .i64 y) := by simp [World.cell?, hb5]
        have p25 := (HXr.out.trans x5).cell p21
        have X5 := Lib.hid (HXr.out.trans x5)
        clear hw5 x5 hb5 g0 g1 p2r
        by_cases t1 : x < 0
        · have HF := Lib.hid (HBD.out (by omega))
          go_quiet (fail)
          go_wp2_with fail
          go_ret
          exact ⟨by rw [HF.out]; rfl, (HX.out.trans (X2.out.trans X5.out)).drewN _⟩
        have t1' : decide (x < 0) = false := decide_eq_false t1
        by_cases t2 : n ≤ x
        · have HF := Lib.hid (HBD.out (by omega))
          go_quiet (fail)
          go_wp2_with fail
          go_ret
          exact ⟨by rw [HF.out]; rfl, (HX.out.trans (X2.out.trans X5.out)).drewN _⟩
        have t2' : decide (n ≤ x) = false := decide_eq_false t2
        by_cases t3 : y < 0
        · have HF := Lib.hid (HBD.out (by omega))
          go_quiet (fail)
          go_wp2_with fail
          go_ret
          exact ⟨by rw [HF.out]; rfl, (HX.out.trans (X2.out.trans X5.out)).drewN _⟩
        have t3' : decide (y < 0) = false := decide_eq_false t3
        by_cases t4 : n ≤ y
        · have HF := Lib.hid (HBD.out (by omega))
          go_quiet (fail)
          go_wp2_with fail
          go_ret
          exact ⟨by rw [HF.out]; rfl, (HX.out.trans (X2.out.trans X5.out)).drewN _⟩
        have t4' : decide (n ≤ y) = false := decide_eq_false t4
        have BNEW : Hid (0 ≤ P[k].1 ∧ P[k].1 < n ∧ 0 ≤ P[k].2 ∧ P[k].2 < n) := by unfold Hid; rw [HXX.out, HYY.out]; omega
        rcases Nat.eq_zero_or_pos k with hk0 | hk0
        · subst hk0
          have HF : Hid (PairsOk n P (0 + 1)) := ⟨fun i h hi => by
            obtain rfl : i = 0 := by omega
            exact BNEW.out, fun i h hi => absurd hi (by omega)⟩
          go_quiet (fail)
          go_wp2_with fail
          exact ⟨⟨0 + 1, by omega, by go_num, X5.out.drewN _, HF.out⟩, by simp [intOf]; omega⟩
        · obtain ⟨m, hm⟩ : ∃ m, k = m + 1 := ⟨k - 1, by omega⟩
          have hml : m < P.length := by omega
          obtain ⟨g0, g1⟩ := HC.out m hml
          replace g0 := X5.out.cell g0; replace g1 := X5.out.cell g1
          have hsub : IntKind.i64.wrap ((k : Int) - 1) = (m : Int) := by rw [IntKind.wrap_i64]; omega
          have i0 : (0 : Int) ≤ (m : Int) := by omega
          have i1 : (m : Int) < (P.length : Int) := by omega
          have i2 : (0 : Int) < (k : Int) := by omega
          have HLT : Hid (¬ ltI P[m] P[k] → rvalidB cs ws P = false) := fun h => (HRV.out _ Iff.rfl).2 fun c => h (by subst hm; exact c.inc m hlt hlt)
          have HNEW : Hid (ltI P[m] P[k] → PairsOk n P (k + 1)) := fun h => ⟨fun i h2 hi => by
            by_cases c : i = k
            · subst c; exact BNEW.out
            · exact HR.out.bd i h2 (by omega), fun i h2 hi => by
            by_cases c : i = m
            · subst c; subst hm; exact h
            · exact HR.out.inc i h2 (by omega)⟩
          have HLI : Hid (ltI P[m] P[k] ↔ (P[m].1 < x ∨ (P[m].1 = x ∧ P[m].2 < y))) := by unfold Hid ltI; rw [HXX.out, HYY.out]
          generalize hx2 : P[m].1 = x2 at *
          generalize hy2 : P[m].2 = y2 at *
          have HX2 := Lib.hid hx2; have HY2 := Lib.hid hy2; have HMM := Lib.hid hm; clear hx2 hy2 hm HC HRV HBD
          by_cases u1 : x < x2
          · have HF := Lib.hid (HLT.out fun c => by have := HLI.out.1 c; omega)
            clear HLT HNEW HLI
            go_quiet (fail)
            go_wp2_with fail
            go_ret
            exact ⟨by rw [HF.out]; rfl, (HX.out.trans (X2.out.trans X5.out)).drewN _⟩
          · have u1' : decide (x < x2) = false := decide_eq_false u1
            by_cases u2 : x = x2
            · have u2' : (x == x2) = true := by simp [u2]
              by_cases u3 : y ≤ y2
              · have HF := Lib.hid (HLT.out fun c => by have := HLI.out.1 c; omega)
                clear HLT HNEW HLI
                have HU2 := Lib.hid u2
                clear u2
                go_quiet (fail)
                go_wp2_with fail
                go_ret
                exact ⟨by rw [HF.out]; rfl, (HX.out.trans (X2.out.trans X5.out)).drewN _⟩
              · have HF := Lib.hid (HNEW.out (HLI.out.2 (.inr ⟨u2.symm, by omega⟩)))
                have u3' : decide (y ≤ y2) = false := decide_eq_false u3
                have HU2 := Lib.hid u2
                clear HLT HNEW HLI u2
                go_quiet (fail)
                go_wp2_with fail
                exact ⟨⟨k + 1, by omega, by go_num, X5.out.drewN _, HF.out⟩, by simp [intOf]; omega⟩
            · have u2' : (x == x2) = false := by simp [u2]
              have HF := Lib.hid (HNEW.out (HLI.out.2 (.inl (by omega))))
              clear HLT HNEW HLI u2
              go_quiet (fail)
              go_wp2_with fail
              exact ⟨⟨k + 1, by omega, by go_num, X5.out.drewN _, HF.out⟩, by simp [intOf]; omega⟩
      · have HF : Hid (rvalidB cs ws P = true) := (HRV.out _ Iff.rfl).1 (by
          obtain rfl : k = P.length := by omega
          exact HR.out)
        go_wp2_with fail
        go_ret
        exact ⟨by rw [HF.out]; rfl, HX.out.trans (X2.out.trans HXr.out)⟩
  · have hbe : bitsI cs ws 6 = -1 := by unfold bitsI; rw [if_neg hb]
    have HF := Lib.hid (rvalid_bits (P := P) hb)
    rw [hbe]
    go_wp2_with fail
    go_ret
    exact ⟨by rw [HF.out]; rfl, HX.out.trans X2.out⟩
end Go.Proofs.YtlnahhlddekhoaaGreatDoor
