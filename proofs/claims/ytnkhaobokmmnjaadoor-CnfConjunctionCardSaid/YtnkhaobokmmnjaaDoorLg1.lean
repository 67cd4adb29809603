/-
  The walk of CnfConjunction.
-/
import Derived.Test.YtnkhaobokmmnjaaDoorLg0
namespace Go.Proofs.YtnkhaobokmmnjaaDoor
open Go.RowKit Go.Shelf
attribute [local go_sem] Oper.semAt_some

def inFirst (first : List Bool) (i : Nat) : Bool := decide (i < first.length) && first.getD i false
def partG (first : List Bool) (cl : List (List Int)) (k : Nat) : List (List Int) := ((List.range k).filter (inFirst first)).map fun i => cl.getD i []
def partH (first : List Bool) (cl : List (List Int)) (k : Nat) : List (List Int) := ((List.range k).filter fun i => !inFirst first i).map fun i => cl.getD i []
theorem partG_yes {first : List Bool} {cl : List (List Int)} {k : Nat} (hk : k < cl.length) (h : inFirst first k = true) : partG first cl (k + 1) = partG first cl k ++ [cl[k]] ∧ partH first cl (k + 1) = partH first cl k := by
  unfold partG partH
  rw [List.range_succ, List.filter_append, List.filter_append, List.map_append, List.map_append]
  have e : cl.getD k [] = cl[k] := by simp [List.getD, hk]
  constructor
  · rw [List.filter_cons, if_pos h]; simp [hk]
  · rw [List.filter_cons, if_neg (by rw [h]; simp)]; simp
theorem partG_no {first : List Bool} {cl : List (List Int)} {k : Nat} (hk : k < cl.length) (h : inFirst first k = false) : partH first cl (k + 1) = partH first cl k ++ [cl[k]] ∧ partG first cl (k + 1) = partG first cl k := by
  unfold partG partH
  rw [List.range_succ, List.filter_append, List.filter_append, List.map_append, List.map_append]
  constructor
  · rw [List.filter_cons, if_pos (by rw [h]; rfl)]; simp [hk]
  · rw [List.filter_cons, if_neg (by rw [h]; simp)]; simp
theorem part_len (first : List Bool) (cl : List (List Int)) (k : Nat) : (partG first cl k).length ≤ k ∧ (partH first cl k).length ≤ k := by
  constructor
  · unfold partG; rw [List.length_map]; exact Nat.le_trans (List.length_filter_le _ _) (by simp)
  · unfold partH; rw [List.length_map]; exact Nat.le_trans (List.length_filter_le _ _) (by simp)
theorem part_law {vars : Int} {cl : List (List Int)} (hv : validC vars cl = true) (first vs : List Bool) : validC vars (partG first cl cl.length) = true ∧ validC vars (partH first cl cl.length) = true ∧ evalC vars cl vs = (evalC vars (partG first cl cl.length) vs && evalC vars (partH first cl cl.length) vs) := by
  have hl : cl.length ≤ 40000 := by unfold validC at hv; simp only [Bool.and_eq_true, decide_eq_true_eq] at hv; exact hv.1.2
  have hm : ∀ (p : Nat → Bool) c, c ∈ ((List.range cl.length).filter p).map (fun i => cl.getD i []) → c ∈ cl := fun p c hc => by
    obtain ⟨i, hi, rfl⟩ := List.mem_map.1 hc
    have h1 := List.mem_range.1 (List.mem_filter.1 hi).1
    simp [List.getD, h1]
  refine validC_parts hv (hm _) (hm _) ?_ ?_ (fun c hc => ?_) vs
  · exact Nat.le_trans (part_len first cl cl.length).1 hl
  · exact Nat.le_trans (part_len first cl cl.length).2 hl
  · obtain ⟨i, hi, rfl⟩ := List.mem_iff_getElem.1 hc
    have e : cl.getD i [] = cl[i] := by simp [List.getD, hi]
    cases hf : inFirst first i with
    | true => exact .inl (List.mem_map.2 ⟨i, List.mem_filter.2 ⟨List.mem_range.2 hi, hf⟩, e⟩)
    | false => exact .inr (List.mem_map.2 ⟨i, List.mem_filter.2 ⟨List.mem_range.2 hi, by rw [hf]; rfl⟩, e⟩)
theorem part_tame {vars : Int} {cl : List (List Int)} (ht : TameC vars cl) (first : List Bool) : TameC vars (partG first cl cl.length) ∧ TameC vars (partH first cl cl.length) := by
  have hm : ∀ (p : Nat → Bool) c, c ∈ ((List.range cl.length).filter p).map (fun i => cl.getD i []) → c ∈ cl := fun p c hc => by
    obtain ⟨i, hi, rfl⟩ := List.mem_map.1 hc
    have h1 := List.mem_range.1 (List.mem_filter.1 hi).1
    simp [List.getD, h1]
  have hl := part_len first cl cl.length
  have := ht.len
  exact ⟨⟨ht.vars, by omega, fun c hc => ht.lits c (hm _ c hc)⟩, ⟨ht.vars, by omega, fun c hc => ht.lits c (hm _ c hc)⟩⟩

set_option maxRecDepth 100000 in
set_option maxHeartbeats 8000000 in
theorem CnfConjunction_any (vars : Int) (cl : List (List Int)) (vs fs : List Bool) (vf vv vb : Value) (w : World) (hf : CnfV w vf vars cl) (hn : CnfN vars cl) (hv : Bools w vv vs) (hb : Bools w vb fs) (hT : CTab w) :
    Calls Tryd.prog 8 #[vf, vv, vb] w fun r w' => r = .returned (.bool true) ∧ Ext w w' := by
  obtain ⟨fa, fc, rfl, hcl⟩ := hf.shape
  obtain ⟨va, vc, rfl⟩ := SliceAt.shape hv
  obtain ⟨ba, bc, rfl⟩ := SliceAt.shape hb
  obtain ⟨W, hW⟩ : ∃ W, W = w.alloc (.cells #[.int .i64 vars, .slice fa cl.length fc] 24) := ⟨_, rfl⟩
  have hx : Ext w W := by rw [hW]; exact (Ext.refl w).alloc _
  have hA : W.heap[w.heap.size]? = some (.cells #[.int .i64 vars, .slice fa cl.length fc] 24 (0, 0)) := by rw [hW]; exact heap_new _ _
  have HF := Lib.hid hf; have HX := Lib.hid hx; have HW := Lib.hid hW; have HN := Lib.hid hn; have HV := Lib.hid hv; have HB := Lib.hid hb; have HT := Lib.hid (hT.ext hx); have HA := Lib.hid (CnfAt.cells hA)
  have hvl := SliceAt.len_le hv
  have hbl := SliceAt.len_le hb
  clear hf hx hW hn hv hb hT hcl hA
  go_enter Tryd.func8, Tryd.ntmps8
  go_upto_region 1 with fail
  rw [← HW.out]
  clear HW
  generalize w.heap.size = b0 at *
  go_wp2_with fail
  refine (head_any W HT.out).mono ?_
  rintro r w2 ⟨rfl, x2⟩
  have HX2 := Lib.hid x2
  obtain ⟨p0, p1⟩ := HA.out
  replace p0 := x2.cell p0; replace p1 := x2.cell p1
  clear x2
  go_wp2_with fail
  refine (LSmall_any vars cl _ w2 (HF.out.ext (HX.out.trans HX2.out))).mono ?_
  rintro r w3 ⟨rfl, x3⟩
  have HX3 := Lib.hid (HX2.out.trans x3)
  replace p0 := x3.cell p0; replace p1 := x3.cell p1
  clear x3
  cases hsm : smallC cl with
  | false =>
    go_wp2_with fail
    go_ret
    exact ⟨rfl, HX.out.trans HX3.out⟩
  | true =>
  have HTM := Lib.hid (HN.out.tame hsm)
  have HSM := Lib.hid (small_len hsm)
  clear hsm
  by_cases h100 : 100 < vs.length
  · have h100' : (100 : Int) < (vs.length : Int) := by omega
    go_wp2_with fail
    go_ret
    exact ⟨rfl, HX.out.trans HX3.out⟩
  have h100' : ¬ (100 : Int) < (vs.length : Int) := by omega
  go_wp2_with fail
  refine (RValid_any vars cl _ w3 (HF.out.ext (HX.out.trans HX3.out)) HTM.out).mono ?_
  rintro r w4 ⟨rfl, x4⟩
  have HX4 := Lib.hid (HX3.out.trans x4)
  replace p0 := x4.cell p0; replace p1 := x4.cell p1
  clear x4
  cases hvd : validC vars cl with
  | false =>
    go_wp2_with fail
    go_ret
    exact ⟨rfl, HX.out.trans HX4.out⟩
  | true =>
  have HPL := Lib.hid (part_law hvd fs vs)
  have HTP := Lib.hid (part_tame HTM.out fs)
  clear hvd
  have HL4 := Lib.hid (HF.out.ext (HX.out.trans HX4.out))
  have HV4 := Lib.hid (SliceAt.ext BoolAt.keeps HV.out (HX.out.trans HX4.out))
  have HB4 := Lib.hid (SliceAt.ext BoolAt.keeps HB.out (HX.out.trans HX4.out))
  have P0 := Lib.hid p0; have P1 := Lib.hid p1
  clear HF HV HB
  go_upto_region 5 with fail
  have x5 : Ext w4 (w4.alloc (.cells #[.int .i64 vars, .slice none 0 0] 24)) := (Ext.refl _).alloc _
  have hG5 := heap_new w4 (.cells #[.int .i64 vars, .slice none 0 0] 24)
  have hs5 : (w4.alloc (.cells #[.int .i64 vars, .slice none 0 0] 24)).heap.size = w4.heap.size + 1 := by simp
  have HX5 := Lib.hid x5
  replace p0 := x5.cell p0; replace p1 := x5.cell p1
  clear x5
  generalize w4.alloc (.cells #[.int .i64 vars, .slice none 0 0] 24) = w5 at *
  go_upto_region 6 with fail
  have x6 : Ext w5 (w5.alloc (.cells #[.int .i64 vars, .slice none 0 0] 24)) := (Ext.refl _).alloc _
  have hH6 := heap_new w5 (.cells #[.int .i64 vars, .slice none 0 0] 24)
  rw [hs5] at hH6
  have hG6 := (x6.block _ (lt_heap hG5)).trans hG5
  have HX6 := Lib.hid (HX5.out.trans x6)
  have hs6 : (w5.alloc (.cells #[.int .i64 vars, .slice none 0 0] 24)).heap.size = w4.heap.size + 2 := by simp [hs5]
  clear x6 p0 p1 hG5
  generalize w5.alloc (.cells #[.int .i64 vars, .slice none 0 0] 24) = w6 at *
  have hb04 : b0 < w4.heap.size := block_lt P0.out
  have HG0 : Hid (GVar w4 (w4.heap.size + 2) w4.heap.size vars w6 (.slice none 0 0) [] (partG fs cl 0)) := ⟨hG6, OwnL.nil _ _, rfl, fun i h1 => by simp at h1⟩
  have HH0 : Hid (GVar w4 (w4.heap.size + 2) (w4.heap.size + 1) vars w6 (.slice none 0 0) [] (partH fs cl 0)) := ⟨hH6, OwnL.nil _ _, rfl, fun i h1 => by simp at h1⟩
  clear hs5 hG6 hH6
  generalize hr : w4.heap.size = r1 at *
  have HSZ4 := Lib.hid hr
  clear hr
  go_wp2_with fail
  go_loopw [10] (fun i wr => ∃ k : Nat, i = .int .i64 k ∧ k ≤ cl.length ∧ Ext w4 wr ∧ r1 + 2 ≤ wr.heap.size ∧ ∃ gv gs hv hs, GVar w4 (r1 + 2) r1 vars wr gv gs (partG fs cl k) ∧ GVar w4 (r1 + 2) (r1 + 1) vars wr hv hs (partH fs cl k) ∧ ∀ x, gv.ownBlock = some x → hv.ownBlock ≠ some x) (fun i _ => cl.length - (intOf i).toNat)
  case atStart => exact ⟨0, rfl, Nat.zero_le _, HX6.out, by omega, _, _, _, _, HG0.out, HH0.out, fun x e => by cases e⟩
  case round =>
    obtain ⟨k, rfl, hk, hX, hsz, gv, gs, hv, hs, hG, hH, hsep⟩ := hrel
    have HXr := Lib.hid hX; have HG := Lib.hid hG; have HH := Lib.hid hH; have HSEP := Lib.hid hsep
    have p1 := hX.cell P1.out
    clear hX hG hH hsep
    by_cases hlt : k < cl.length
    · rcases HL4.out with ⟨_, e, hcl⟩
      cases e
      rcases hcl with ⟨_, e⟩ | ⟨b, o, cap, e, _, hc⟩
      · rw [e] at hlt; simp at hlt
      cases e
      obtain ⟨v1, g4, i1⟩ := hc k hlt
      rw [Nat.mul_one] at g4
      obtain ⟨c1, c2, rfl⟩ := i1.shape
      have HCI := Lib.hid i1; have G4 := Lib.hid g4
      have g1 := HXr.out.cell g4
      obtain ⟨ga, gc, rfl⟩ := HG.out.own.shape
      obtain ⟨ha, hcc, rfl⟩ := HH.out.own.shape
      have hkc : (k : Int) < (cl.length : Int) := by omega
      have HIF : Hid (inFirst fs k = (decide (k < fs.length) && fs.getD k false)) := rfl
      cases hif : inFirst fs k with
      | true =>
        have HPA := Lib.hid (partG_yes hlt hif)
        rw [HIF.out, Bool.and_eq_true, decide_eq_true_eq] at hif
        obtain ⟨hk1, hk2⟩ := hif
        have hk1' : (k : Int) < (fs.length : Int) := by omega
        rcases SliceAt.ext BoolAt.keeps HB4.out HXr.out with ⟨_, e⟩ | ⟨bb, bo, bcap, e, _, hbc⟩
        · rw [e] at hk1; simp at hk1
        cases e
        have g2 : wr.cell? ⟨bb, bo + k, none⟩ = some (.bool true) := by
          have := hbc k hk1
          rw [Nat.mul_one] at this
          have e : fs[k] = true := by simpa [List.getD, hk1] using hk2
          rw [e] at this; exact this
        clear hc hbc g4 i1 HIF
        generalize cl[k] = c at *
        go_upto_region 10 with fail
        have HS0 : Hid (wr.drew.cell? ⟨b0, 1, none⟩ = some (.slice (some ⟨b, o, none⟩) cl.length fc) ∧ wr.drew.cell? ⟨b, o + k, none⟩ = some (.slice c1 c.length c2)) := ⟨p1, g1⟩
        have HOLD : Hid (∀ w', Ext w4 w' → w'.cell? ⟨b0, 1, none⟩ = some (.slice (some ⟨b, o, none⟩) cl.length fc) ∧ w'.cell? ⟨b, o + k, none⟩ = some (.slice c1 c.length c2)) := fun w' he => ⟨he.cell P1.out, he.cell G4.out⟩
        have HC1 : Hid (wr.drew.cell? ⟨r1, 1, none⟩ = some (.slice ga gs.length gc)) := HG.out.cells.2
        have HOW : Hid (OwnL wr.drew (r1 + 2) (.slice ga gs.length gc) gs) := HG.out.own.kept (Ext.refl _).drew
        have HSL : Hid (isSl (.slice c1 c.length c2)) := ⟨_, _, _, rfl⟩
        have hgl : gs.length ≤ 1000000 := by have h1 := HG.out.len; have h2 := (part_len fs cl k); have h3 := HSM.out.1; omega
        have hbs : r1 + 2 ≤ wr.drew.heap.size := hsz
        have HFIN : Hid (∀ g cap w5, OwnL w5 (r1 + 2) (.slice (some ⟨g, 0, none⟩) (gs.length + 1) cap) (gs ++ [.slice c1 c.length c2]) → wr.drew.grownBy w5 (Value.slice ga gs.length gc).ownBlock → ((Value.slice ga gs.length gc).ownBlock = some g ∨ wr.drew.heap.size ≤ g) →
            Ext w4 w5 ∧ w5.cell? ⟨r1, 1, none⟩ = some (.slice ga gs.length gc) ∧ w5.frozen? ⟨r1, 1, none⟩ = false ∧ Ext w4 (w5.setCell ⟨r1, 1, none⟩ (.slice (some ⟨g, 0, none⟩) (gs.length + 1) cap)) ∧ r1 + 2 ≤ (w5.setCell ⟨r1, 1, none⟩ (.slice (some ⟨g, 0, none⟩) (gs.length + 1) cap)).heap.size ∧
            ∃ gv2 gs2 hv2 hs2, GVar w4 (r1 + 2) r1 vars (w5.setCell ⟨r1, 1, none⟩ (.slice (some ⟨g, 0, none⟩) (gs.length + 1) cap)) gv2 gs2 (partG fs cl (k + 1)) ∧ GVar w4 (r1 + 2) (r1 + 1) vars (w5.setCell ⟨r1, 1, none⟩ (.slice (some ⟨g, 0, none⟩) (gs.length + 1) cap)) hv2 hs2 (partH fs cl (k + 1)) ∧ ∀ x, gv2.ownBlock = some x → hv2.ownBlock ≠ some x) := by
          intro g cap w5 ho hg' hn
          have hg : wr.grownBy w5 (Value.slice ga gs.length gc).ownBlock := ⟨hg'.os, hg'.tape, hg'.output, hg'.size, hg'.block⟩
          have hn' : (Value.slice ga gs.length gc).ownBlock = some g ∨ wr.heap.size ≤ g := hn
          have hx5 : Ext w4 w5 := HXr.out.grown hg fun x e => by have := (HG.out.own.typed x e).1; have := HSZ4.out; omega
          have hb5 := (hg.block (r1) (lt_heap HG.out.blk) fun e => by have := (HG.out.own.typed _ e.symm).1; omega).trans HG.out.blk
          have hadd := HG.out.add (by omega) hg ho HCI.out
          refine ⟨hx5, by rw [Lib.cell_of_heap hb5]; rfl, Lib.frozen_of_heap hb5 1, hx5.setCell (p := ⟨r1, 1, none⟩) (by have := HSZ4.out; show w4.heap.size ≤ r1; omega) _, by have := hg.size; simp [World.setCell]; omega, ?_⟩
          rw [HPA.out.1, HPA.out.2]
          have hoth := HH.out.other (r2 := r1) hg (fun e => by have := (HG.out.own.typed _ e).1; omega) (fun x e e2 => HSEP.out x e2 e) (by omega) (fun x e => by have := (HH.out.own.typed x e).1; omega) 1 (.slice (some ⟨g, 0, none⟩) (gs.length + 1) cap)
          refine ⟨_, _, _, _, hadd, hoth, fun x e e2 => ?_⟩
          cases e
          rcases hn' with e3 | e3
          · exact HSEP.out _ e3 e2
          · have e4 : g < wr.heap.size := lt_heap (HH.out.own.typed _ e2).2.choose_spec
            omega
        clear p1 g1 HG HH HSEP HPA
        refine wp_normal2 ?_
        refine wp_region_held (S := fun w' => w'.cell? ⟨b0, 1, none⟩ = some (.slice (some ⟨b, o, none⟩) cl.length fc) ∧ w'.cell? ⟨b, o + k, none⟩ = some (.slice c1 c.length c2)) (by kernel_rfl) ?_
        change wpAnyH _ _ _ _ _ _ _ _ wr.drew
        have HXd : Hid (Ext w4 wr.drew) := HXr.out.drew
        generalize wr.drew = v0 at *
        refine wpAnyH_take (i := 0) (v := .pointer (some ⟨r1, 1, none⟩)) rfl (by kernel_rfl) (by kernel_rfl) (by kernel_rfl) (fun _ _ _ h => h) (.inl ⟨rfl, fun w' hx' => by obtain ⟨q1, q2⟩ := hx'; go_simp⟩) HS0.out ?_
        refine wpAnyH_take (i := 2) (v := .pointer (some ⟨b0, 1, none⟩)) rfl (by kernel_rfl) (by kernel_rfl) (by kernel_rfl) (fun _ _ _ h => h) (.inl ⟨rfl, fun w' hx' => by obtain ⟨q1, q2⟩ := hx'; go_simp⟩) HS0.out ?_
        refine wpAnyH_take (i := 3) (v := .slice (some ⟨b, o, none⟩) cl.length fc) rfl (by kernel_rfl) (by kernel_rfl) (by kernel_rfl) (fun _ _ _ h => h) (.inl ⟨rfl, fun w' hx' => by obtain ⟨q1, q2⟩ := hx'; go_simp⟩) HS0.out ?_
        refine wpAnyH_take (i := 4) (v := .int .i64 (k : Nat)) rfl (by kernel_rfl) (by kernel_rfl) (by kernel_rfl) (fun _ _ _ h => h) (.inl ⟨rfl, fun w' hx' => by obtain ⟨q1, q2⟩ := hx'; go_simp⟩) HS0.out ?_
        refine wpAnyH_take (i := 5) (v := .pointer (some ⟨b, o + k, none⟩)) rfl (by kernel_rfl) (by kernel_rfl) (by kernel_rfl) (fun _ _ _ h => h) (.inl ⟨rfl, fun w' hx' => by obtain ⟨q1, q2⟩ := hx'; go_simp⟩) HS0.out ?_
        refine wpAnyH_take (i := 6) (v := .slice c1 c.length c2) rfl (by kernel_rfl) (by kernel_rfl) (by kernel_rfl) (fun _ _ _ h => h) (.inl ⟨rfl, fun w' hx' => by obtain ⟨q1, q2⟩ := hx'; go_simp⟩) HS0.out ?_
        refine wpAnyH_all (rs := [1, 7]) (by kernel_rfl) (by simp) ?_
        intro i hi
        have hi' : i = 1 ∨ i = 7 := by simpa using hi
        clear hi
        rcases hi' with rfl | rfl
        · have e1 := HC1.out
          unfold wpOp
          go_simp
          refine .inl ⟨HS0.out, ?_⟩
          clear e1
          refine wpAnyH_all (rs := [7]) (by kernel_rfl) (by simp) ?_
          intro i hi
          obtain rfl : i = 7 := by simpa using hi
          clear hi
          unfold wpOp
          go_simp
          have HSa := Lib.hid (HOLD.out _ (HXd.out.alloc (.cells #[.slice c1 c.length c2] 30)))
          refine .inl ⟨HSa.out, ?_⟩
          refine wpAnyH_all (rs := [8]) (by kernel_rfl) (by simp) ?_
          intro i hi
          obtain rfl : i = 8 := by simpa using hi
          clear hi
          refine wpOp_step rfl ?_
          intro KK hKK
          refine step_append_rowL rfl (.tmp 50) (.tmp 56) rfl (r1 + 2) v0 v0.heap.size rfl _ gs _ rfl rfl HOW.out HSL.out hgl hbs ?_
          intro g cap w5 ho hg hn
          obtain ⟨f0, f1, f2, f3, f4, f5⟩ := HFIN.out g cap w5 ho hg hn
          have F0 := Lib.hid (HOLD.out _ f0); have F3 := Lib.hid (HOLD.out _ f3); have F4 := Lib.hid f4; have F5 := Lib.hid f5; have FX := Lib.hid f3
          clear ho hg hn f0 f3 f4 f5
          refine hKK _ _ ⟨F0.out, ?_⟩
          refine wpAnyH_take (i := 9) (v := .pointer (some ⟨r1, 1, none⟩)) rfl (by kernel_rfl) (by kernel_rfl) (by kernel_rfl) (fun _ _ _ h => h) (.inl ⟨rfl, fun w' hx' => by obtain ⟨q1, q2⟩ := hx'; go_simp⟩) F0.out ?_
          refine wpAnyH_all (rs := [10]) (by kernel_rfl) (by simp) ?_
          intro i hi
          obtain rfl : i = 10 := by simpa using hi
          clear hi
          unfold wpOp
          go_simp
          first | refine .inl ⟨F3.out, ?_⟩ | refine .inl ⟨⟨F0.out.1, F3.out.2⟩, ?_⟩
          refine wpAnyH_done (by kernel_rfl) ?_ _
          unfold onlyNormal
          clear f1 f2
          go_wp2_with fail
          exact ⟨⟨k + 1, by go_num, by omega, FX.out, F4.out, F5.out⟩, by simp [intOf]; omega⟩
        · unfold wpOp
          go_simp
          have HSa := Lib.hid (HOLD.out _ (HXd.out.alloc (.cells #[.slice c1 c.length c2] 30)))
          have e1 := ((Ext.refl v0).alloc (.cells #[.slice c1 c.length c2] 30)).cell HC1.out
          refine .inl ⟨HSa.out, ?_⟩
          refine wpAnyH_all (rs := [1]) (by kernel_rfl) (by simp) ?_
          intro i hi
          obtain rfl : i = 1 := by simpa using hi
          clear hi
          unfold wpOp
          go_simp
          refine .inl ⟨HSa.out, ?_⟩
          clear e1
          refine wpAnyH_all (rs := [8]) (by kernel_rfl) (by simp) ?_
          intro i hi
          obtain rfl : i = 8 := by simpa using hi
          clear hi
          refine wpOp_step rfl ?_
          intro KK hKK
          refine step_append_rowL rfl (.tmp 50) (.tmp 56) rfl (r1 + 2) v0 v0.heap.size rfl _ gs _ rfl rfl HOW.out HSL.out hgl hbs ?_
          intro g cap w5 ho hg hn
          obtain ⟨f0, f1, f2, f3, f4, f5⟩ := HFIN.out g cap w5 ho hg hn
          have F0 := Lib.hid (HOLD.out _ f0); have F3 := Lib.hid (HOLD.out _ f3); have F4 := Lib.hid f4; have F5 := Lib.hid f5; have FX := Lib.hid f3
          clear ho hg hn f0 f3 f4 f5
          refine hKK _ _ ⟨F0.out, ?_⟩
          refine wpAnyH_take (i := 9) (v := .pointer (some ⟨r1, 1, none⟩)) rfl (by kernel_rfl) (by kernel_rfl) (by kernel_rfl) (fun _ _ _ h => h) (.inl ⟨rfl, fun w' hx' => by obtain ⟨q1, q2⟩ := hx'; go_simp⟩) F0.out ?_
          refine wpAnyH_all (rs := [10]) (by kernel_rfl) (by simp) ?_
          intro i hi
          obtain rfl : i = 10 := by simpa using hi
          clear hi
          unfold wpOp
          go_simp
          first | refine .inl ⟨F3.out, ?_⟩ | refine .inl ⟨⟨F0.out.1, F3.out.2⟩, ?_⟩
          refine wpAnyH_done (by kernel_rfl) ?_ _
          unfold onlyNormal
          clear f1 f2
          go_wp2_with fail
          exact ⟨⟨k + 1, by go_num, by omega, FX.out, F4.out, F5.out⟩, by simp [intOf]; omega⟩
      | false =>
        have HPA := Lib.hid (partG_no hlt hif)
        clear hc g4 i1
        generalize cl[k] = c at *
        by_cases hk1 : k < fs.length
        · have hk1' : (k : Int) < (fs.length : Int) := by omega
          rw [HIF.out, decide_eq_true hk1, Bool.true_and] at hif
          rcases SliceAt.ext BoolAt.keeps HB4.out HXr.out with ⟨_, e⟩ | ⟨bb, bo, bcap, e, _, hbc⟩
          · rw [e] at hk1; simp at hk1
          cases e
          have g2 : wr.cell? ⟨bb, bo + k, none⟩ = some (.bool false) := by
            have := hbc k hk1
            rw [Nat.mul_one] at this
            have e : fs[k] = false := by simpa [List.getD, hk1] using hif
            rw [e] at this; exact this
          clear hbc HIF
          go_upto_region 11 with fail
          have HS0 : Hid (wr.drew.cell? ⟨b0, 1, none⟩ = some (.slice (some ⟨b, o, none⟩) cl.length fc) ∧ wr.drew.cell? ⟨b, o + k, none⟩ = some (.slice c1 c.length c2)) := ⟨p1, g1⟩
          have HOLD : Hid (∀ w', Ext w4 w' → w'.cell? ⟨b0, 1, none⟩ = some (.slice (some ⟨b, o, none⟩) cl.length fc) ∧ w'.cell? ⟨b, o + k, none⟩ = some (.slice c1 c.length c2)) := fun w' he => ⟨he.cell P1.out, he.cell G4.out⟩
          have HC1 : Hid (wr.drew.cell? ⟨r1 + 1, 1, none⟩ = some (.slice ha hs.length hcc)) := HH.out.cells.2
          have HOW : Hid (OwnL wr.drew (r1 + 2) (.slice ha hs.length hcc) hs) := HH.out.own.kept (Ext.refl _).drew
          have HSL : Hid (isSl (.slice c1 c.length c2)) := ⟨_, _, _, rfl⟩
          have hgl : hs.length ≤ 1000000 := by have h1 := HH.out.len; have h2 := (part_len fs cl k); have h3 := HSM.out.1; omega
          have hbs : r1 + 2 ≤ wr.drew.heap.size := hsz
          have HFIN : Hid (∀ g cap w5, OwnL w5 (r1 + 2) (.slice (some ⟨g, 0, none⟩) (hs.length + 1) cap) (hs ++ [.slice c1 c.length c2]) → wr.drew.grownBy w5 (Value.slice ha hs.length hcc).ownBlock → ((Value.slice ha hs.length hcc).ownBlock = some g ∨ wr.drew.heap.size ≤ g) →
              Ext w4 w5 ∧ w5.cell? ⟨r1 + 1, 1, none⟩ = some (.slice ha hs.length hcc) ∧ w5.frozen? ⟨r1 + 1, 1, none⟩ = false ∧ Ext w4 (w5.setCell ⟨r1 + 1, 1, none⟩ (.slice (some ⟨g, 0, none⟩) (hs.length + 1) cap)) ∧ r1 + 2 ≤ (w5.setCell ⟨r1 + 1, 1, none⟩ (.slice (some ⟨g, 0, none⟩) (hs.length + 1) cap)).heap.size ∧
              ∃ gv2 gs2 hv2 hs2, GVar w4 (r1 + 2) r1 vars (w5.setCell ⟨r1 + 1, 1, none⟩ (.slice (some ⟨g, 0, none⟩) (hs.length + 1) cap)) gv2 gs2 (partG fs cl (k + 1)) ∧ GVar w4 (r1 + 2) (r1 + 1) vars (w5.setCell ⟨r1 + 1, 1, none⟩ (.slice (some ⟨g, 0, none⟩) (hs.length + 1) cap)) hv2 hs2 (partH fs cl (k + 1)) ∧ ∀ x, gv2.ownBlock = some x → hv2.ownBlock ≠ some x) := by
            intro g cap w5 ho hg' hn
            have hg : wr.grownBy w5 (Value.slice ha hs.length hcc).ownBlock := ⟨hg'.os, hg'.tape, hg'.output, hg'.size, hg'.block⟩
            have hn' : (Value.slice ha hs.length hcc).ownBlock = some g ∨ wr.heap.size ≤ g := hn
            have hx5 : Ext w4 w5 := HXr.out.grown hg fun x e => by have := (HH.out.own.typed x e).1; have := HSZ4.out; omega
            have hb5 := (hg.block (r1 + 1) (lt_heap HH.out.blk) fun e => by have := (HH.out.own.typed _ e.symm).1; omega).trans HH.out.blk
            have hadd := HH.out.add (by omega) hg ho HCI.out
            refine ⟨hx5, by rw [Lib.cell_of_heap hb5]; rfl, Lib.frozen_of_heap hb5 1, hx5.setCell (p := ⟨r1 + 1, 1, none⟩) (by have := HSZ4.out; show w4.heap.size ≤ r1 + 1; omega) _, by have := hg.size; simp [World.setCell]; omega, ?_⟩
            rw [HPA.out.1, HPA.out.2]
            have hoth := HG.out.other (r2 := r1 + 1) hg (fun e => by have := (HH.out.own.typed _ e).1; omega) (fun x e e2 => HSEP.out x e e2) (by omega) (fun x e => by have := (HG.out.own.typed x e).1; omega) 1 (.slice (some ⟨g, 0, none⟩) (hs.length + 1) cap)
            refine ⟨_, _, _, _, hoth, hadd, fun x e e2 => ?_⟩
            cases e2
            rcases hn' with e3 | e3
            · exact HSEP.out _ e e3
            · have e4 : g < wr.heap.size := lt_heap (HG.out.own.typed _ e).2.choose_spec
              omega
          clear p1 g1 HG HH HSEP HPA
          refine wp_normal2 ?_
          refine wp_region_held (S := fun w' => w'.cell? ⟨b0, 1, none⟩ = some (.slice (some ⟨b, o, none⟩) cl.length fc) ∧ w'.cell? ⟨b, o + k, none⟩ = some (.slice c1 c.length c2)) (by kernel_rfl) ?_
          change wpAnyH _ _ _ _ _ _ _ _ wr.drew
          have HXd : Hid (Ext w4 wr.drew) := HXr.out.drew
          generalize wr.drew = v0 at *
          refine wpAnyH_take (i := 0) (v := .pointer (some ⟨r1 + 1, 1, none⟩)) rfl (by kernel_rfl) (by kernel_rfl) (by kernel_rfl) (fun _ _ _ h => h) (.inl ⟨rfl, fun w' hx' => by obtain ⟨q1, q2⟩ := hx'; go_simp⟩) HS0.out ?_
          refine wpAnyH_take (i := 2) (v := .pointer (some ⟨b0, 1, none⟩)) rfl (by kernel_rfl) (by kernel_rfl) (by kernel_rfl) (fun _ _ _ h => h) (.inl ⟨rfl, fun w' hx' => by obtain ⟨q1, q2⟩ := hx'; go_simp⟩) HS0.out ?_
          refine wpAnyH_take (i := 3) (v := .slice (some ⟨b, o, none⟩) cl.length fc) rfl (by kernel_rfl) (by kernel_rfl) (by kernel_rfl) (fun _ _ _ h => h) (.inl ⟨rfl, fun w' hx' => by obtain ⟨q1, q2⟩ := hx'; go_simp⟩) HS0.out ?_
          refine wpAnyH_take (i := 4) (v := .int .i64 (k : Nat)) rfl (by kernel_rfl) (by kernel_rfl) (by kernel_rfl) (fun _ _ _ h => h) (.inl ⟨rfl, fun w' hx' => by obtain ⟨q1, q2⟩ := hx'; go_simp⟩) HS0.out ?_
          refine wpAnyH_take (i := 5) (v := .pointer (some ⟨b, o + k, none⟩)) rfl (by kernel_rfl) (by kernel_rfl) (by kernel_rfl) (fun _ _ _ h => h) (.inl ⟨rfl, fun w' hx' => by obtain ⟨q1, q2⟩ := hx'; go_simp⟩) HS0.out ?_
          refine wpAnyH_take (i := 6) (v := .slice c1 c.length c2) rfl (by kernel_rfl) (by kernel_rfl) (by kernel_rfl) (fun _ _ _ h => h) (.inl ⟨rfl, fun w' hx' => by obtain ⟨q1, q2⟩ := hx'; go_simp⟩) HS0.out ?_
          refine wpAnyH_all (rs := [1, 7]) (by kernel_rfl) (by simp) ?_
          intro i hi
          have hi' : i = 1 ∨ i = 7 := by simpa using hi
          clear hi
          rcases hi' with rfl | rfl
          · have e1 := HC1.out
            unfold wpOp
            go_simp
            refine .inl ⟨HS0.out, ?_⟩
            clear e1
            refine wpAnyH_all (rs := [7]) (by kernel_rfl) (by simp) ?_
            intro i hi
            obtain rfl : i = 7 := by simpa using hi
            clear hi
            unfold wpOp
            go_simp
            have HSa := Lib.hid (HOLD.out _ (HXd.out.alloc (.cells #[.slice c1 c.length c2] 30)))
            refine .inl ⟨HSa.out, ?_⟩
            refine wpAnyH_all (rs := [8]) (by kernel_rfl) (by simp) ?_
            intro i hi
            obtain rfl : i = 8 := by simpa using hi
            clear hi
            refine wpOp_step rfl ?_
            intro KK hKK
            refine step_append_rowL rfl (.tmp 60) (.tmp 66) rfl (r1 + 2) v0 v0.heap.size rfl _ hs _ rfl rfl HOW.out HSL.out hgl hbs ?_
            intro g cap w5 ho hg hn
            obtain ⟨f0, f1, f2, f3, f4, f5⟩ := HFIN.out g cap w5 ho hg hn
            have F0 := Lib.hid (HOLD.out _ f0); have F3 := Lib.hid (HOLD.out _ f3); have F4 := Lib.hid f4; have F5 := Lib.hid f5; have FX := Lib.hid f3
            clear ho hg hn f0 f3 f4 f5
            refine hKK _ _ ⟨F0.out, ?_⟩
            refine wpAnyH_take (i := 9) (v := .pointer (some ⟨r1 + 1, 1, none⟩)) rfl (by kernel_rfl) (by kernel_rfl) (by kernel_rfl) (fun _ _ _ h => h) (.inl ⟨rfl, fun w' hx' => by obtain ⟨q1, q2⟩ := hx'; go_simp⟩) F0.out ?_
            refine wpAnyH_all (rs := [10]) (by kernel_rfl) (by simp) ?_
            intro i hi
            obtain rfl : i = 10 := by simpa using hi
            clear hi
            unfold wpOp
            go_simp
            first | refine .inl ⟨F3.out, ?_⟩ | refine .inl ⟨⟨F0.out.1, F3.out.2⟩, ?_⟩
            refine wpAnyH_done (by kernel_rfl) ?_ _
            unfold onlyNormal
            clear f1 f2
            go_wp2_with fail
            exact ⟨⟨k + 1, by go_num, by omega, FX.out, F4.out, F5.out⟩, by simp [intOf]; omega⟩
          · unfold wpOp
            go_simp
            have HSa := Lib.hid (HOLD.out _ (HXd.out.alloc (.cells #[.slice c1 c.length c2] 30)))
            have e1 := ((Ext.refl v0).alloc (.cells #[.slice c1 c.length c2] 30)).cell HC1.out
            refine .inl ⟨HSa.out, ?_⟩
            refine wpAnyH_all (rs := [1]) (by kernel_rfl) (by simp) ?_
            intro i hi
            obtain rfl : i = 1 := by simpa using hi
            clear hi
            unfold wpOp
            go_simp
            refine .inl ⟨HSa.out, ?_⟩
            clear e1
            refine wpAnyH_all (rs := [8]) (by kernel_rfl) (by simp) ?_
            intro i hi
            obtain rfl : i = 8 := by simpa using hi
            clear hi
            refine wpOp_step rfl ?_
            intro KK hKK
            refine step_append_rowL rfl (.tmp 60) (.tmp 66) rfl (r1 + 2) v0 v0.heap.size rfl _ hs _ rfl rfl HOW.out HSL.out hgl hbs ?_
            intro g cap w5 ho hg hn
            obtain ⟨f0, f1, f2, f3, f4, f5⟩ := HFIN.out g cap w5 ho hg hn
            have F0 := Lib.hid (HOLD.out _ f0); have F3 := Lib.hid (HOLD.out _ f3); have F4 := Lib.hid f4; have F5 := Lib.hid f5; have FX := Lib.hid f3
            clear ho hg hn f0 f3 f4 f5
            refine hKK _ _ ⟨F0.out, ?_⟩
            refine wpAnyH_take (i := 9) (v := .pointer (some ⟨r1 + 1, 1, none⟩)) rfl (by kernel_rfl) (by kernel_rfl) (by kernel_rfl) (fun _ _ _ h => h) (.inl ⟨rfl, fun w' hx' => by obtain ⟨q1, q2⟩ := hx'; go_simp⟩) F0.out ?_
            refine wpAnyH_all (rs := [10]) (by kernel_rfl) (by simp) ?_
            intro i hi
            obtain rfl : i = 10 := by simpa using hi
            clear hi
            unfold wpOp
            go_simp
            first | refine .inl ⟨F3.out, ?_⟩ | refine .inl ⟨⟨F0.out.1, F3.out.2⟩, ?_⟩
            refine wpAnyH_done (by kernel_rfl) ?_ _
            unfold onlyNormal
            clear f1 f2
            go_wp2_with fail
            exact ⟨⟨k + 1, by go_num, by omega, FX.out, F4.out, F5.out⟩, by simp [intOf]; omega⟩
        · have hk1' : ¬ (k : Int) < (fs.length : Int) := by omega
          clear HIF
          go_upto_region 11 with fail
          have HS0 : Hid (wr.drew.cell? ⟨b0, 1, none⟩ = some (.slice (some ⟨b, o, none⟩) cl.length fc) ∧ wr.drew.cell? ⟨b, o + k, none⟩ = some (.slice c1 c.length c2)) := ⟨p1, g1⟩
          have HOLD : Hid (∀ w', Ext w4 w' → w'.cell? ⟨b0, 1, none⟩ = some (.slice (some ⟨b, o, none⟩) cl.length fc) ∧ w'.cell? ⟨b, o + k, none⟩ = some (.slice c1 c.length c2)) := fun w' he => ⟨he.cell P1.out, he.cell G4.out⟩
          have HC1 : Hid (wr.drew.cell? ⟨r1 + 1, 1, none⟩ = some (.slice ha hs.length hcc)) := HH.out.cells.2
          have HOW : Hid (OwnL wr.drew (r1 + 2) (.slice ha hs.length hcc) hs) := HH.out.own.kept (Ext.refl _).drew
          have HSL : Hid (isSl (.slice c1 c.length c2)) := ⟨_, _, _, rfl⟩
          have hgl : hs.length ≤ 1000000 := by have h1 := HH.out.len; have h2 := (part_len fs cl k); have h3 := HSM.out.1; omega
          have hbs : r1 + 2 ≤ wr.drew.heap.size := hsz
          have HFIN : Hid (∀ g cap w5, OwnL w5 (r1 + 2) (.slice (some ⟨g, 0, none⟩) (hs.length + 1) cap) (hs ++ [.slice c1 c.length c2]) → wr.drew.grownBy w5 (Value.slice ha hs.length hcc).ownBlock → ((Value.slice ha hs.length hcc).ownBlock = some g ∨ wr.drew.heap.size ≤ g) →
              Ext w4 w5 ∧ w5.cell? ⟨r1 + 1, 1, none⟩ = some (.slice ha hs.length hcc) ∧ w5.frozen? ⟨r1 + 1, 1, none⟩ = false ∧ Ext w4 (w5.setCell ⟨r1 + 1, 1, none⟩ (.slice (some ⟨g, 0, none⟩) (hs.length + 1) cap)) ∧ r1 + 2 ≤ (w5.setCell ⟨r1 + 1, 1, none⟩ (.slice (some ⟨g, 0, none⟩) (hs.length + 1) cap)).heap.size ∧
              ∃ gv2 gs2 hv2 hs2, GVar w4 (r1 + 2) r1 vars (w5.setCell ⟨r1 + 1, 1, none⟩ (.slice (some ⟨g, 0, none⟩) (hs.length + 1) cap)) gv2 gs2 (partG fs cl (k + 1)) ∧ GVar w4 (r1 + 2) (r1 + 1) vars (w5.setCell ⟨r1 + 1, 1, none⟩ (.slice (some ⟨g, 0, none⟩) (hs.length + 1) cap)) hv2 hs2 (partH fs cl (k + 1)) ∧ ∀ x, gv2.ownBlock = some x → hv2.ownBlock ≠ some x) := by
            intro g cap w5 ho hg' hn
            have hg : wr.grownBy w5 (Value.slice ha hs.length hcc).ownBlock := ⟨hg'.os, hg'.tape, hg'.output, hg'.size, hg'.block⟩
            have hn' : (Value.slice ha hs.length hcc).ownBlock = some g ∨ wr.heap.size ≤ g := hn
            have hx5 : Ext w4 w5 := HXr.out.grown hg fun x e => by have := (HH.out.own.typed x e).1; have := HSZ4.out; omega
            have hb5 := (hg.block (r1 + 1) (lt_heap HH.out.blk) fun e => by have := (HH.out.own.typed _ e.symm).1; omega).trans HH.out.blk
            have hadd := HH.out.add (by omega) hg ho HCI.out
            refine ⟨hx5, by rw [Lib.cell_of_heap hb5]; rfl, Lib.frozen_of_heap hb5 1, hx5.setCell (p := ⟨r1 + 1, 1, none⟩) (by have := HSZ4.out; show w4.heap.size ≤ r1 + 1; omega) _, by have := hg.size; simp [World.setCell]; omega, ?_⟩
            rw [HPA.out.1, HPA.out.2]
            have hoth := HG.out.other (r2 := r1 + 1) hg (fun e => by have := (HH.out.own.typed _ e).1; omega) (fun x e e2 => HSEP.out x e e2) (by omega) (fun x e => by have := (HG.out.own.typed x e).1; omega) 1 (.slice (some ⟨g, 0, none⟩) (hs.length + 1) cap)
            refine ⟨_, _, _, _, hoth, hadd, fun x e e2 => ?_⟩
            cases e2
            rcases hn' with e3 | e3
            · exact HSEP.out _ e e3
            · have e4 : g < wr.heap.size := lt_heap (HG.out.own.typed _ e).2.choose_spec
              omega
          clear p1 g1 HG HH HSEP HPA
          refine wp_normal2 ?_
          refine wp_region_held (S := fun w' => w'.cell? ⟨b0, 1, none⟩ = some (.slice (some ⟨b, o, none⟩) cl.length fc) ∧ w'.cell? ⟨b, o + k, none⟩ = some (.slice c1 c.length c2)) (by kernel_rfl) ?_
          change wpAnyH _ _ _ _ _ _ _ _ wr.drew
          have HXd : Hid (Ext w4 wr.drew) := HXr.out.drew
          generalize wr.drew = v0 at *
          refine wpAnyH_take (i := 0) (v := .pointer (some ⟨r1 + 1, 1, none⟩)) rfl (by kernel_rfl) (by kernel_rfl) (by kernel_rfl) (fun _ _ _ h => h) (.inl ⟨rfl, fun w' hx' => by obtain ⟨q1, q2⟩ := hx'; go_simp⟩) HS0.out ?_
          refine wpAnyH_take (i := 2) (v := .pointer (some ⟨b0, 1, none⟩)) rfl (by kernel_rfl) (by kernel_rfl) (by kernel_rfl) (fun _ _ _ h => h) (.inl ⟨rfl, fun w' hx' => by obtain ⟨q1, q2⟩ := hx'; go_simp⟩) HS0.out ?_
          refine wpAnyH_take (i := 3) (v := .slice (some ⟨b, o, none⟩) cl.length fc) rfl (by kernel_rfl) (by kernel_rfl) (by kernel_rfl) (fun _ _ _ h => h) (.inl ⟨rfl, fun w' hx' => by obtain ⟨q1, q2⟩ := hx'; go_simp⟩) HS0.out ?_
          refine wpAnyH_take (i := 4) (v := .int .i64 (k : Nat)) rfl (by kernel_rfl) (by kernel_rfl) (by kernel_rfl) (fun _ _ _ h => h) (.inl ⟨rfl, fun w' hx' => by obtain ⟨q1, q2⟩ := hx'; go_simp⟩) HS0.out ?_
          refine wpAnyH_take (i := 5) (v := .pointer (some ⟨b, o + k, none⟩)) rfl (by kernel_rfl) (by kernel_rfl) (by kernel_rfl) (fun _ _ _ h => h) (.inl ⟨rfl, fun w' hx' => by obtain ⟨q1, q2⟩ := hx'; go_simp⟩) HS0.out ?_
          refine wpAnyH_take (i := 6) (v := .slice c1 c.length c2) rfl (by kernel_rfl) (by kernel_rfl) (by kernel_rfl) (fun _ _ _ h => h) (.inl ⟨rfl, fun w' hx' => by obtain ⟨q1, q2⟩ := hx'; go_simp⟩) HS0.out ?_
          refine wpAnyH_all (rs := [1, 7]) (by kernel_rfl) (by simp) ?_
          intro i hi
          have hi' : i = 1 ∨ i = 7 := by simpa using hi
          clear hi
          rcases hi' with rfl | rfl
          · have e1 := HC1.out
            unfold wpOp
            go_simp
            refine .inl ⟨HS0.out, ?_⟩
            clear e1
            refine wpAnyH_all (rs := [7]) (by kernel_rfl) (by simp) ?_
            intro i hi
            obtain rfl : i = 7 := by simpa using hi
            clear hi
            unfold wpOp
            go_simp
            have HSa := Lib.hid (HOLD.out _ (HXd.out.alloc (.cells #[.slice c1 c.length c2] 30)))
            refine .inl ⟨HSa.out, ?_⟩
            refine wpAnyH_all (rs := [8]) (by kernel_rfl) (by simp) ?_
            intro i hi
            obtain rfl : i = 8 := by simpa using hi
            clear hi
            refine wpOp_step rfl ?_
            intro KK hKK
            refine step_append_rowL rfl (.tmp 60) (.tmp 66) rfl (r1 + 2) v0 v0.heap.size rfl _ hs _ rfl rfl HOW.out HSL.out hgl hbs ?_
            intro g cap w5 ho hg hn
            obtain ⟨f0, f1, f2, f3, f4, f5⟩ := HFIN.out g cap w5 ho hg hn
            have F0 := Lib.hid (HOLD.out _ f0); have F3 := Lib.hid (HOLD.out _ f3); have F4 := Lib.hid f4; have F5 := Lib.hid f5; have FX := Lib.hid f3
            clear ho hg hn f0 f3 f4 f5
            refine hKK _ _ ⟨F0.out, ?_⟩
            refine wpAnyH_take (i := 9) (v := .pointer (some ⟨r1 + 1, 1, none⟩)) rfl (by kernel_rfl) (by kernel_rfl) (by kernel_rfl) (fun _ _ _ h => h) (.inl ⟨rfl, fun w' hx' => by obtain ⟨q1, q2⟩ := hx'; go_simp⟩) F0.out ?_
            refine wpAnyH_all (rs := [10]) (by kernel_rfl) (by simp) ?_
            intro i hi
            obtain rfl : i = 10 := by simpa using hi
            clear hi
            unfold wpOp
            go_simp
            first | refine .inl ⟨F3.out, ?_⟩ | refine .inl ⟨⟨F0.out.1, F3.out.2⟩, ?_⟩
            refine wpAnyH_done (by kernel_rfl) ?_ _
            unfold onlyNormal
            clear f1 f2
            go_wp2_with fail
            exact ⟨⟨k + 1, by go_num, by omega, FX.out, F4.out, F5.out⟩, by simp [intOf]; omega⟩
          · unfold wpOp
            go_simp
            have HSa := Lib.hid (HOLD.out _ (HXd.out.alloc (.cells #[.slice c1 c.length c2] 30)))
            have e1 := ((Ext.refl v0).alloc (.cells #[.slice c1 c.length c2] 30)).cell HC1.out
            refine .inl ⟨HSa.out, ?_⟩
            refine wpAnyH_all (rs := [1]) (by kernel_rfl) (by simp) ?_
            intro i hi
            obtain rfl : i = 1 := by simpa using hi
            clear hi
            unfold wpOp
            go_simp
            refine .inl ⟨HSa.out, ?_⟩
            clear e1
            refine wpAnyH_all (rs := [8]) (by kernel_rfl) (by simp) ?_
            intro i hi
            obtain rfl : i = 8 := by simpa using hi
            clear hi
            refine wpOp_step rfl ?_
            intro KK hKK
            refine step_append_rowL rfl (.tmp 60) (.tmp 66) rfl (r1 + 2) v0 v0.heap.size rfl _ hs _ rfl rfl HOW.out HSL.out hgl hbs ?_
            intro g cap w5 ho hg hn
            obtain ⟨f0, f1, f2, f3, f4, f5⟩ := HFIN.out g cap w5 ho hg hn
            have F0 := Lib.hid (HOLD.out _ f0); have F3 := Lib.hid (HOLD.out _ f3); have F4 := Lib.hid f4; have F5 := Lib.hid f5; have FX := Lib.hid f3
            clear ho hg hn f0 f3 f4 f5
            refine hKK _ _ ⟨F0.out, ?_⟩
            refine wpAnyH_take (i := 9) (v := .pointer (some ⟨r1 + 1, 1, none⟩)) rfl (by kernel_rfl) (by kernel_rfl) (by kernel_rfl) (fun _ _ _ h => h) (.inl ⟨rfl, fun w' hx' => by obtain ⟨q1, q2⟩ := hx'; go_simp⟩) F0.out ?_
            refine wpAnyH_all (rs := [10]) (by kernel_rfl) (by simp) ?_
            intro i hi
            obtain rfl : i = 10 := by simpa using hi
            clear hi
            unfold wpOp
            go_simp
            first | refine .inl ⟨F3.out, ?_⟩ | refine .inl ⟨⟨F0.out.1, F3.out.2⟩, ?_⟩
            refine wpAnyH_done (by kernel_rfl) ?_ _
            unfold onlyNormal
            clear f1 f2
            go_wp2_with fail
            exact ⟨⟨k + 1, by go_num, by omega, FX.out, F4.out, F5.out⟩, by simp [intOf]; omega⟩
    · obtain rfl : k = cl.length := by omega
      obtain ⟨ga, gc, rfl⟩ := HG.out.own.shape
      obtain ⟨ha, hcc, rfl⟩ := HH.out.own.shape
      have HE0 : Hid (∀ w', Ext wr w' → Calls Tryd.prog 16 #[.agg #[.int .i64 vars, .slice fa cl.length fc], .slice va vs.length vc] w' fun e w3 => e = .returned (.bool (evalC vars cl vs)) ∧ Ext w' w3) := fun w' he => CEval_any vars cl vs _ _ w' (HL4.out.ext (HXr.out.trans he)) HTM.out (SliceAt.ext BoolAt.keeps HV4.out (HXr.out.trans he))
      have HE1 : Hid (∀ w', Ext wr w' → Calls Tryd.prog 16 #[.agg #[.int .i64 vars, .slice ga gs.length gc], .slice va vs.length vc] w' fun e w3 => e = .returned (.bool (evalC vars (partG fs cl cl.length) vs)) ∧ Ext w' w3) := fun w' he => CEval_any vars _ vs _ _ w' ⟨_, rfl, (HG.out.later he).lists (HXr.out.trans he)⟩ HTP.out.1 (SliceAt.ext BoolAt.keeps HV4.out (HXr.out.trans he))
      have HE2 : Hid (∀ w', Ext wr w' → Calls Tryd.prog 16 #[.agg #[.int .i64 vars, .slice ha hs.length hcc], .slice va vs.length vc] w' fun e w3 => e = .returned (.bool (evalC vars (partH fs cl cl.length) vs)) ∧ Ext w' w3) := fun w' he => CEval_any vars _ vs _ _ w' ⟨_, rfl, (HH.out.later he).lists (HXr.out.trans he)⟩ HTP.out.2 (SliceAt.ext BoolAt.keeps HV4.out (HXr.out.trans he))
      have HCE : Hid (∀ w', Ext wr w' → w'.cell? ⟨b0, 0, none⟩ = some (.int .i64 vars) ∧ w'.cell? ⟨b0, 1, none⟩ = some (.slice fa cl.length fc) ∧ w'.cell? ⟨r1, 0, none⟩ = some (.int .i64 vars) ∧ w'.cell? ⟨r1, 1, none⟩ = some (.slice ga gs.length gc) ∧ w'.cell? ⟨r1 + 1, 0, none⟩ = some (.int .i64 vars) ∧ w'.cell? ⟨r1 + 1, 1, none⟩ = some (.slice ha hs.length hcc)) := fun w' he => by
        obtain ⟨a1, a2⟩ := (HG.out.later he).cells
        obtain ⟨a3, a4⟩ := (HH.out.later he).cells
        exact ⟨(HXr.out.trans he).cell P0.out, (HXr.out.trans he).cell P1.out, a1, a2, a3, a4⟩
      have HPE := Lib.hid HPL.out.2.2
      have HXR := Lib.hid (HX.out.trans (HX4.out.trans HXr.out))
      clear HPL HTP HG HH HSEP HL4 HV4 HB4 hsz
      generalize evalC vars cl vs = e0 at *
      generalize evalC vars (partG fs cl cl.length) vs = e1 at *
      generalize evalC vars (partH fs cl cl.length) vs = e2 at *
      have hgc := HCE.out _ ((Ext.refl wr).drew)
      cases e1 with
      | false =>
        obtain rfl : e0 = false := by rw [HPE.out]; rfl
        go_upto_region 12 with fail
        clear p1
        refine wp_normal2 ?_
        refine wp_region_held (S := fun w' => w'.cell? ⟨b0, 0, none⟩ = some (.int .i64 vars) ∧ w'.cell? ⟨b0, 1, none⟩ = some (.slice fa cl.length fc) ∧ w'.cell? ⟨r1, 0, none⟩ = some (.int .i64 vars) ∧ w'.cell? ⟨r1, 1, none⟩ = some (.slice ga gs.length gc) ∧ w'.cell? ⟨r1 + 1, 0, none⟩ = some (.int .i64 vars) ∧ w'.cell? ⟨r1 + 1, 1, none⟩ = some (.slice ha hs.length hcc)) (by kernel_rfl) ?_
        change wpAnyH _ _ _ _ _ _ _ _ wr.drew
        have HXd : Hid (Ext wr wr.drew) := (Ext.refl _).drew
        have HS0 := Lib.hid hgc
        clear hgc
        generalize wr.drew = v0 at *
        refine wpAnyH_take (i := 0) (v := .bool true) rfl (by kernel_rfl) (by kernel_rfl) (by kernel_rfl) (fun _ _ _ h => h) (.inl ⟨rfl, fun w' hx' => by obtain ⟨q1, q2, q3, q4, q5, q6⟩ := hx'; go_simp⟩) HS0.out ?_
        refine wpAnyH_take (i := 1) (v := .bool true) rfl (by kernel_rfl) (by kernel_rfl) (by kernel_rfl) (fun _ _ _ h => h) (.inl ⟨rfl, fun w' hx' => by obtain ⟨q1, q2, q3, q4, q5, q6⟩ := hx'; go_simp⟩) HS0.out ?_
        refine wpAnyH_take (i := 2) (v := .agg #[.int .i64 vars, .slice fa cl.length fc]) rfl (by kernel_rfl) (by kernel_rfl) (by kernel_rfl) (fun _ _ _ h => h) (.inl ⟨rfl, fun w' hx' => by obtain ⟨q1, q2, q3, q4, q5, q6⟩ := hx'; go_simp⟩) HS0.out ?_
        refine wpAnyH_take (i := 3) (v := .slice va vs.length vc) rfl (by kernel_rfl) (by kernel_rfl) (by kernel_rfl) (fun _ _ _ h => h) (.inl ⟨rfl, fun w' hx' => by obtain ⟨q1, q2, q3, q4, q5, q6⟩ := hx'; go_simp⟩) HS0.out ?_
        refine wpAnyH_take (i := 5) (v := .agg #[.int .i64 vars, .slice ga gs.length gc]) rfl (by kernel_rfl) (by kernel_rfl) (by kernel_rfl) (fun _ _ _ h => h) (.inl ⟨rfl, fun w' hx' => by obtain ⟨q1, q2, q3, q4, q5, q6⟩ := hx'; go_simp⟩) HS0.out ?_
        refine wpAnyH_take (i := 6) (v := .slice va vs.length vc) rfl (by kernel_rfl) (by kernel_rfl) (by kernel_rfl) (fun _ _ _ h => h) (.inl ⟨rfl, fun w' hx' => by obtain ⟨q1, q2, q3, q4, q5, q6⟩ := hx'; go_simp⟩) HS0.out ?_
        refine wpAnyH_all (rs := [4]) (by kernel_rfl) (by simp) ?_
        intro i hi
        obtain rfl : i = 4 := by simpa using hi
        clear hi
        unfold wpOp
        go_simp
        refine .inl ((HE0.out _ HXd.out).mono ?_)
        rintro r y1 ⟨rfl, x1⟩
        have Y1 := Lib.hid (HXd.out.trans x1)
        have HS1 := Lib.hid (HCE.out _ Y1.out)
        clear x1
        go_simp
        first | refine ⟨HS1.out, ?_⟩ | skip
        refine wpAnyH_all (rs := [7]) (by kernel_rfl) (by simp) ?_
        intro i hi
        obtain rfl : i = 7 := by simpa using hi
        clear hi
        unfold wpOp
        go_simp
        refine .inl ((HE1.out _ Y1.out).mono ?_)
        rintro r y2 ⟨rfl, x2⟩
        have Y2 := Lib.hid (Y1.out.trans x2)
        have HS2 := Lib.hid (HCE.out _ Y2.out)
        clear x2
        go_simp
        first | refine ⟨HS2.out, ?_⟩ | skip
        refine wpAnyH_take (i := 8) (v := .bool false) rfl (by kernel_rfl) (by kernel_rfl) (by kernel_rfl) (fun _ _ _ h => h) (.inl ⟨rfl, fun w' hx' => by obtain ⟨q1, q2, q3, q4, q5, q6⟩ := hx'; go_simp⟩) HS2.out ?_
        refine wpAnyH_take (i := 9) (v := undef) rfl (by kernel_rfl) (by kernel_rfl) (by kernel_rfl) (fun _ _ _ h => h) (.inr ⟨rfl, rfl⟩) HS2.out ?_
        refine wpAnyH_take (i := 10) (v := undef) rfl (by kernel_rfl) (by kernel_rfl) (by kernel_rfl) (fun _ _ _ h => h) (.inr ⟨rfl, rfl⟩) HS2.out ?_
        refine wpAnyH_take (i := 11) (v := undef) rfl (by kernel_rfl) (by kernel_rfl) (by kernel_rfl) (fun _ _ _ h => h) (.inr ⟨rfl, rfl⟩) HS2.out ?_
        refine wpAnyH_take (i := 12) (v := .bool false) rfl (by kernel_rfl) (by kernel_rfl) (by kernel_rfl) (fun _ _ _ h => h) (.inl ⟨rfl, fun w' hx' => by obtain ⟨q1, q2, q3, q4, q5, q6⟩ := hx'; go_simp⟩) HS2.out ?_
        refine wpAnyH_take (i := 13) (v := .bool true) rfl (by kernel_rfl) (by kernel_rfl) (by kernel_rfl) (fun _ _ _ h => h) (.inl ⟨rfl, fun w' hx' => by obtain ⟨q1, q2, q3, q4, q5, q6⟩ := hx'; go_simp⟩) HS2.out ?_
        refine wpAnyH_take (i := 14) (v := .bool true) rfl (by kernel_rfl) (by kernel_rfl) (by kernel_rfl) (fun _ _ _ h => h) (.inl ⟨rfl, fun w' hx' => by obtain ⟨q1, q2, q3, q4, q5, q6⟩ := hx'; go_simp⟩) HS2.out ?_
        refine wpAnyH_take (i := 15) (v := .bool true) rfl (by kernel_rfl) (by kernel_rfl) (by kernel_rfl) (fun _ _ _ h => h) (.inl ⟨rfl, fun w' hx' => by obtain ⟨q1, q2, q3, q4, q5, q6⟩ := hx'; go_simp⟩) HS2.out ?_
        refine wpAnyH_done (by kernel_rfl) ?_ _
        unfold onlyNormal
        have HXE := Lib.hid (HXR.out.trans Y2.out)
        go_wp2_with fail
        go_ret
        exact ⟨rfl, HXE.out⟩
      | true =>
        obtain rfl : e0 = e2 := by rw [HPE.out]; rfl
        go_upto_region 12 with fail
        clear p1
        refine wp_normal2 ?_
        refine wp_region_held (S := fun w' => w'.cell? ⟨b0, 0, none⟩ = some (.int .i64 vars) ∧ w'.cell? ⟨b0, 1, none⟩ = some (.slice fa cl.length fc) ∧ w'.cell? ⟨r1, 0, none⟩ = some (.int .i64 vars) ∧ w'.cell? ⟨r1, 1, none⟩ = some (.slice ga gs.length gc) ∧ w'.cell? ⟨r1 + 1, 0, none⟩ = some (.int .i64 vars) ∧ w'.cell? ⟨r1 + 1, 1, none⟩ = some (.slice ha hs.length hcc)) (by kernel_rfl) ?_
        change wpAnyH _ _ _ _ _ _ _ _ wr.drew
        have HXd : Hid (Ext wr wr.drew) := (Ext.refl _).drew
        have HS0 := Lib.hid hgc
        clear hgc
        generalize wr.drew = v0 at *
        refine wpAnyH_take (i := 0) (v := .bool true) rfl (by kernel_rfl) (by kernel_rfl) (by kernel_rfl) (fun _ _ _ h => h) (.inl ⟨rfl, fun w' hx' => by obtain ⟨q1, q2, q3, q4, q5, q6⟩ := hx'; go_simp⟩) HS0.out ?_
        refine wpAnyH_take (i := 1) (v := .bool true) rfl (by kernel_rfl) (by kernel_rfl) (by kernel_rfl) (fun _ _ _ h => h) (.inl ⟨rfl, fun w' hx' => by obtain ⟨q1, q2, q3, q4, q5, q6⟩ := hx'; go_simp⟩) HS0.out ?_
        refine wpAnyH_take (i := 2) (v := .agg #[.int .i64 vars, .slice fa cl.length fc]) rfl (by kernel_rfl) (by kernel_rfl) (by kernel_rfl) (fun _ _ _ h => h) (.inl ⟨rfl, fun w' hx' => by obtain ⟨q1, q2, q3, q4, q5, q6⟩ := hx'; go_simp⟩) HS0.out ?_
        refine wpAnyH_take (i := 3) (v := .slice va vs.length vc) rfl (by kernel_rfl) (by kernel_rfl) (by kernel_rfl) (fun _ _ _ h => h) (.inl ⟨rfl, fun w' hx' => by obtain ⟨q1, q2, q3, q4, q5, q6⟩ := hx'; go_simp⟩) HS0.out ?_
        refine wpAnyH_take (i := 5) (v := .agg #[.int .i64 vars, .slice ga gs.length gc]) rfl (by kernel_rfl) (by kernel_rfl) (by kernel_rfl) (fun _ _ _ h => h) (.inl ⟨rfl, fun w' hx' => by obtain ⟨q1, q2, q3, q4, q5, q6⟩ := hx'; go_simp⟩) HS0.out ?_
        refine wpAnyH_take (i := 6) (v := .slice va vs.length vc) rfl (by kernel_rfl) (by kernel_rfl) (by kernel_rfl) (fun _ _ _ h => h) (.inl ⟨rfl, fun w' hx' => by obtain ⟨q1, q2, q3, q4, q5, q6⟩ := hx'; go_simp⟩) HS0.out ?_
        refine wpAnyH_all (rs := [4]) (by kernel_rfl) (by simp) ?_
        intro i hi
        obtain rfl : i = 4 := by simpa using hi
        clear hi
        unfold wpOp
        go_simp
        refine .inl ((HE0.out _ HXd.out).mono ?_)
        rintro r y1 ⟨rfl, x1⟩
        have Y1 := Lib.hid (HXd.out.trans x1)
        have HS1 := Lib.hid (HCE.out _ Y1.out)
        clear x1
        go_simp
        first | refine ⟨HS1.out, ?_⟩ | skip
        refine wpAnyH_all (rs := [7]) (by kernel_rfl) (by simp) ?_
        intro i hi
        obtain rfl : i = 7 := by simpa using hi
        clear hi
        unfold wpOp
        go_simp
        refine .inl ((HE1.out _ Y1.out).mono ?_)
        rintro r y2 ⟨rfl, x2⟩
        have Y2 := Lib.hid (Y1.out.trans x2)
        have HS2 := Lib.hid (HCE.out _ Y2.out)
        clear x2
        go_simp
        first | refine ⟨HS2.out, ?_⟩ | skip
        refine wpAnyH_take (i := 8) (v := .bool true) rfl (by kernel_rfl) (by kernel_rfl) (by kernel_rfl) (fun _ _ _ h => h) (.inl ⟨rfl, fun w' hx' => by obtain ⟨q1, q2, q3, q4, q5, q6⟩ := hx'; go_simp⟩) HS2.out ?_
        refine wpAnyH_take (i := 9) (v := .agg #[.int .i64 vars, .slice ha hs.length hcc]) rfl (by kernel_rfl) (by kernel_rfl) (by kernel_rfl) (fun _ _ _ h => h) (.inl ⟨rfl, fun w' hx' => by obtain ⟨q1, q2, q3, q4, q5, q6⟩ := hx'; go_simp⟩) HS2.out ?_
        refine wpAnyH_take (i := 10) (v := .slice va vs.length vc) rfl (by kernel_rfl) (by kernel_rfl) (by kernel_rfl) (fun _ _ _ h => h) (.inl ⟨rfl, fun w' hx' => by obtain ⟨q1, q2, q3, q4, q5, q6⟩ := hx'; go_simp⟩) HS2.out ?_
        refine wpAnyH_all (rs := [11]) (by kernel_rfl) (by simp) ?_
        intro i hi
        obtain rfl : i = 11 := by simpa using hi
        clear hi
        unfold wpOp
        go_simp
        refine .inl ((HE2.out _ Y2.out).mono ?_)
        rintro r y3 ⟨rfl, x3⟩
        have Y3 := Lib.hid (Y2.out.trans x3)
        have HS3 := Lib.hid (HCE.out _ Y3.out)
        clear x3
        go_simp
        first | refine ⟨HS3.out, ?_⟩ | skip
        refine wpAnyH_take (i := 12) (v := .bool e0) rfl (by kernel_rfl) (by kernel_rfl) (by kernel_rfl) (fun _ _ _ h => h) (.inl ⟨rfl, fun w' hx' => by obtain ⟨q1, q2, q3, q4, q5, q6⟩ := hx'; go_simp⟩) HS3.out ?_
        refine wpAnyH_take (i := 13) (v := .bool true) rfl (by kernel_rfl) (by kernel_rfl) (by kernel_rfl) (fun _ _ _ h => h) (.inl ⟨rfl, fun w' hx' => by obtain ⟨q1, q2, q3, q4, q5, q6⟩ := hx'; go_simp⟩) HS3.out ?_
        refine wpAnyH_take (i := 14) (v := .bool true) rfl (by kernel_rfl) (by kernel_rfl) (by kernel_rfl) (fun _ _ _ h => h) (.inl ⟨rfl, fun w' hx' => by obtain ⟨q1, q2, q3, q4, q5, q6⟩ := hx'; go_simp⟩) HS3.out ?_
        refine wpAnyH_take (i := 15) (v := .bool true) rfl (by kernel_rfl) (by kernel_rfl) (by kernel_rfl) (fun _ _ _ h => h) (.inl ⟨rfl, fun w' hx' => by obtain ⟨q1, q2, q3, q4, q5, q6⟩ := hx'; go_simp⟩) HS3.out ?_
        refine wpAnyH_done (by kernel_rfl) ?_ _
        unfold onlyNormal
        have HXE := Lib.hid (HXR.out.trans Y3.out)
        go_wp2_with fail
        go_ret
        exact ⟨rfl, HXE.out⟩
end Go.Proofs.YtnkhaobokmmnjaaDoor
