/-
  The walk of HintStrengthen, behind the second Strengthen; the law. Printed by split_lh4.py.
-/
import Derived.Test.YtlcgbdjmlnjhcaaGreatDoorZLh4a
namespace Go.Proofs.YtlcgbdjmlnjhcaaGreatDoor
open Go.RowKit
attribute [local go_sem] Oper.semAt_some

set_option maxRecDepth 100000 in
set_option maxHeartbeats 16000000 in
theorem hs_rest : hsPart.1 := by
  delta hsPart
  intro cells c a b s t w ca1 ca2 ca3 ca4 ca5 ca6 l0 l1 a1 a3 l2 a2 b1 b3 l3 b2 ka kc hkl s1 s3 hsL ta1 t3 htL W Q1 bb ba bc wk1 wk2 HS wk3 wk4 t1 t2 d HDE h50 h51 wk5 da1 da2 da3 da4 da5 da6 Wk5 bd wk6 HWF HOP V1 V2 bx X Y Z HGS y1 y2 y3 y4 y5 y6 ea1 ea2 ea3 ea4 ea5 ea6 y7 U7 hHeld HX HC HM HVc Hc HVa Ha HVb Hb Hs Ht Hd HVd K1 hK1 g m z HGE HME HZE HGD HGM HTd HTc HBa HBb K2
  go_cut [16, 17] (fun s16 s17 W => ∃ b1 b2 : Nat, s16 = .pointer (some ⟨b1, 0, none⟩) ∧ s17 = .pointer (some ⟨b2, 0, none⟩) ∧ CondIn W b1 g ∧ CondIn W b2 z ∧ Ext U7 W)
  case first => 
    refine wp_normal2 ?_
    refine wp_region_held (S := (StS bd bc ba bb d c a b da1 da2 da3 da4 da5 da6 ca1 ca2 ca3 ca4 ca5 ca6 a1 a2 a3 b1 b2 b3)) (by kernel_rfl) ?_
    change wpAnyH _ _ _ _ _ _ _ _ U7.drew
    have Y : Hid (Ext U7 U7.drew) := (Ext.refl _).drew
    have HS := Lib.hid (K2.out _ Y.out)
    generalize U7.drew = y at *
    refine wpAnyH_take (i := 0) (v := .agg #[.string ⟨d.id.toArray⟩, .int .i64 d.k1, .int .i64 d.k2, .int .i64 d.k3, .int .i64 d.k4, .int .i64 d.k5, .int .i64 d.hyp.op, .int .i64 d.hyp.wd, .int .i64 d.hyp.n, .slice da1 da2 da3, .int .i64 d.goal.op, .int .i64 d.goal.wd, .int .i64 d.goal.n, .slice da4 da5 da6]) rfl (by kernel_rfl) (by kernel_rfl) (by kernel_rfl) (fun _ _ _ h => h) (.inl ⟨rfl, fun w' hx' => by obtain ⟨q0, q1, q2, q3, q4, q5, q6, q7, q8, q9, q10, q11, q12, q13, q14, q15, q16, q17, q18, q19, q20, q21, q22, q23, q24, q25, q26, q27, q28, q29, q30, q31, q32, q33, q34, q35⟩ := hx'; go_simp⟩) HS.out ?_
    refine wpAnyH_take (i := 1) (v := .agg #[.int .i64 b.op, .int .i64 b.wd, .int .i64 b.n, .slice b1 b2 b3]) rfl (by kernel_rfl) (by kernel_rfl) (by kernel_rfl) (fun _ _ _ h => h) (.inl ⟨rfl, fun w' hx' => by obtain ⟨q0, q1, q2, q3, q4, q5, q6, q7, q8, q9, q10, q11, q12, q13, q14, q15, q16, q17, q18, q19, q20, q21, q22, q23, q24, q25, q26, q27, q28, q29, q30, q31, q32, q33, q34, q35⟩ := hx'; go_simp⟩) HS.out ?_
    refine wpAnyH_take (i := 3) (v := .agg #[.string ⟨c.id.toArray⟩, .int .i64 c.k1, .int .i64 c.k2, .int .i64 c.k3, .int .i64 c.k4, .int .i64 c.k5, .int .i64 c.hyp.op, .int .i64 c.hyp.wd, .int .i64 c.hyp.n, .slice ca1 ca2 ca3, .int .i64 c.goal.op, .int .i64 c.goal.wd, .int .i64 c.goal.n, .slice ca4 ca5 ca6]) rfl (by kernel_rfl) (by kernel_rfl) (by kernel_rfl) (fun _ _ _ h => h) (.inl ⟨rfl, fun w' hx' => by obtain ⟨q0, q1, q2, q3, q4, q5, q6, q7, q8, q9, q10, q11, q12, q13, q14, q15, q16, q17, q18, q19, q20, q21, q22, q23, q24, q25, q26, q27, q28, q29, q30, q31, q32, q33, q34, q35⟩ := hx'; go_simp⟩) HS.out ?_
    refine wpAnyH_take (i := 4) (v := .agg #[.int .i64 b.op, .int .i64 b.wd, .int .i64 b.n, .slice b1 b2 b3]) rfl (by kernel_rfl) (by kernel_rfl) (by kernel_rfl) (fun _ _ _ h => h) (.inl ⟨rfl, fun w' hx' => by obtain ⟨q0, q1, q2, q3, q4, q5, q6, q7, q8, q9, q10, q11, q12, q13, q14, q15, q16, q17, q18, q19, q20, q21, q22, q23, q24, q25, q26, q27, q28, q29, q30, q31, q32, q33, q34, q35⟩ := hx'; go_simp⟩) HS.out ?_
    refine wpAnyH_take (i := 6) (v := .agg #[.int .i64 a.op, .int .i64 a.wd, .int .i64 a.n, .slice a1 a2 a3]) rfl (by kernel_rfl) (by kernel_rfl) (by kernel_rfl) (fun _ _ _ h => h) (.inl ⟨rfl, fun w' hx' => by obtain ⟨q0, q1, q2, q3, q4, q5, q6, q7, q8, q9, q10, q11, q12, q13, q14, q15, q16, q17, q18, q19, q20, q21, q22, q23, q24, q25, q26, q27, q28, q29, q30, q31, q32, q33, q34, q35⟩ := hx'; go_simp⟩) HS.out ?_
    refine wpAnyH_name ?_
    intro G d0 A0 hG hd hA
    have TAIL : ∀ (y : World) (bp bq nG0 nG1 nM0 nM1 nZ0 nZ1 : Nat) (ga1 : Option Addr) (ga2 ga3 : Nat) (ga4 : Option Addr) (ga5 ga6 : Nat) (ma1 : Option Addr) (ma2 ma3 : Nat) (ma4 : Option Addr) (ma5 ma6 : Nat) (za1 : Option Addr) (za2 za3 : Nat) (za4 : Option Addr) (za5 za6 : Nat),
        Hid (Ext U7 y) → Hid (y.heap[bp]? = some (.cells #[.string ⟨#[]⟩, .int .i64 0, .int .i64 0, .int .i64 0, .int .i64 0, .int .i64 0, .int .i64 0, .int .i64 0, .int .i64 0, .slice none 0 0, .int .i64 0, .int .i64 0, .int .i64 0, .slice none 0 0] 27 (0, 0))) → Hid (y.heap[bq]? = some (.cells #[.string ⟨#[]⟩, .int .i64 0, .int .i64 0, .int .i64 0, .int .i64 0, .int .i64 0, .int .i64 0, .int .i64 0, .int .i64 0, .slice none 0 0, .int .i64 0, .int .i64 0, .int .i64 0, .slice none 0 0] 27 (0, 0))) → Hid (U7.heap.size ≤ bp) → Hid (U7.heap.size ≤ bq) → Hid (bq ≠ bp) → Hid (bp < nG0 ∨ nG1 ≤ bp) → Hid (bq < nG0 ∨ nG1 ≤ bq) → Hid (bp < nM0 ∨ nM1 ≤ bp) → Hid (bq < nM0 ∨ nM1 ≤ bq) → Hid (bp < nZ0 ∨ nZ1 ≤ bp) → Hid (bq < nZ0 ∨ nZ1 ≤ bq) →
        Hid (EValT (fun k => k < U7.heap.size ∨ (nG0 ≤ k ∧ k < nG1)) y (.agg #[.int .i64 g.hyp.op, .int .i64 g.hyp.wd, .int .i64 g.hyp.n, .slice ga1 ga2 ga3]) g.hyp) → Hid (EValT (fun k => k < U7.heap.size ∨ (nG0 ≤ k ∧ k < nG1)) y (.agg #[.int .i64 g.goal.op, .int .i64 g.goal.wd, .int .i64 g.goal.n, .slice ga4 ga5 ga6]) g.goal) → Hid (EValT (fun k => k < U7.heap.size ∨ (nM0 ≤ k ∧ k < nM1) ∨ (nZ0 ≤ k ∧ k < nZ1)) y (.agg #[.int .i64 z.hyp.op, .int .i64 z.hyp.wd, .int .i64 z.hyp.n, .slice za1 za2 za3]) z.hyp) → Hid (EValT (fun k => k < U7.heap.size ∨ (nM0 ≤ k ∧ k < nM1) ∨ (nZ0 ≤ k ∧ k < nZ1)) y (.agg #[.int .i64 z.goal.op, .int .i64 z.goal.wd, .int .i64 z.goal.n, .slice za4 za5 za6]) z.goal) →
        G 2 (((((d0.setIfInBounds 2 true).setIfInBounds 5 true).setIfInBounds 7 true).setIfInBounds 8 true).setIfInBounds 9 true) (((((A0.put (some 106) (.agg #[.string ⟨g.id.toArray⟩, .int .i64 g.k1, .int .i64 g.k2, .int .i64 g.k3, .int .i64 g.k4, .int .i64 g.k5, .int .i64 g.hyp.op, .int .i64 g.hyp.wd, .int .i64 g.hyp.n, .slice ga1 ga2 ga3, .int .i64 g.goal.op, .int .i64 g.goal.wd, .int .i64 g.goal.n, .slice ga4 ga5 ga6])).put (some 109) (.agg #[.string ⟨m.id.toArray⟩, .int .i64 m.k1, .int .i64 m.k2, .int .i64 m.k3, .int .i64 m.k4, .int .i64 m.k5, .int .i64 m.hyp.op, .int .i64 m.hyp.wd, .int .i64 m.hyp.n, .slice ma1 ma2 ma3, .int .i64 m.goal.op, .int .i64 m.goal.wd, .int .i64 m.goal.n, .slice ma4 ma5 ma6])).put (some 111) (.agg #[.string ⟨z.id.toArray⟩, .int .i64 z.k1, .int .i64 z.k2, .int .i64 z.k3, .int .i64 z.k4, .int .i64 z.k5, .int .i64 z.hyp.op, .int .i64 z.hyp.wd, .int .i64 z.hyp.n, .slice za1 za2 za3, .int .i64 z.goal.op, .int .i64 z.goal.wd, .int .i64 z.goal.n, .slice za4 za5 za6])).put (some 16) (.pointer (some ⟨bp, 0, none⟩))).put (some 17) (.pointer (some ⟨bq, 0, none⟩))) y := by
      intro y bp bq nG0 nG1 nM0 nM1 nZ0 nZ1 ga1 ga2 ga3 ga4 ga5 ga6 ma1 ma2 ma3 ma4 ma5 ma6 za1 za2 za3 za4 za5 za6 Y HZp HZq HGp HGq HNE HLGp HLGq HLMp HLMq HLZp HLZq HFgh HFgg HFzh HFzg
      have HS := Lib.hid (K2.out _ Y.out)
      subst hG hd hA
      refine wpAnyH_all (rs := [10]) (by kernel_rfl) (by simp) ?_
      intro i hi
      replace hi : i = 10 := by simpa using hi
      subst hi
      obtain ⟨⟨_, _, _, _, _, _, _, _, _, _, _, _, _, _⟩, _, _, _, _, _, _, _, _, _, _, _, _, _, _⟩ := blocks14 HZp.out
      unfold wpOp
      go_simp
      obtain ⟨y, hy⟩ : ∃ y2, y2 = chC y bp g ga1 ga2 ga3 ga4 ga5 ga6 := ⟨_, rfl⟩
      unfold chC at hy
      rw [← hy]
      obtain ⟨k1, k2, k3⟩ := set14 hy HZp.out
      replace Y := Lib.hid (k3 _ Y.out HGp.out); replace HS := Lib.hid (K2.out _ Y.out)
      have hne := HNE.out
      replace HZq := Lib.hid ((k2 _ hne).trans HZq.out)
      replace HFgh := Lib.hid (HFgh.out.keep fun k hk _ => k2 k (by have h0 := HGp.out; have h1 := HLGp.out; rcases hk with h | h <;> omega))
      replace HFgg := Lib.hid (HFgg.out.keep fun k hk _ => k2 k (by have h0 := HGp.out; have h1 := HLGp.out; rcases hk with h | h <;> omega))
      replace HFzh := Lib.hid (HFzh.out.keep fun k hk _ => k2 k (by have h0 := HGp.out; have h1 := HLMp.out; have h2 := HLZp.out; rcases hk with h | h | h <;> omega))
      replace HFzg := Lib.hid (HFzg.out.keep fun k hk _ => k2 k (by have h0 := HGp.out; have h1 := HLMp.out; have h2 := HLZp.out; rcases hk with h | h | h <;> omega))
      replace HZp := Lib.hid k1
      clear hy k1 k2 k3 hne
      refine .inl ⟨HS.out, ?_⟩
      refine wpAnyH_all (rs := [11]) (by kernel_rfl) (by simp) ?_
      intro i hi
      replace hi : i = 11 := by simpa using hi
      subst hi
      obtain ⟨⟨_, _, _, _, _, _, _, _, _, _, _, _, _, _⟩, _, _, _, _, _, _, _, _, _, _, _, _, _, _⟩ := blocks14 HZq.out
      unfold wpOp
      go_simp
      obtain ⟨y, hy⟩ : ∃ y2, y2 = chC y bq z za1 za2 za3 za4 za5 za6 := ⟨_, rfl⟩
      unfold chC at hy
      rw [← hy]
      obtain ⟨k1, k2, k3⟩ := set14 hy HZq.out
      replace Y := Lib.hid (k3 _ Y.out HGq.out); replace HS := Lib.hid (K2.out _ Y.out)
      have hne := HNE.out.symm
      replace HZp := Lib.hid ((k2 _ hne).trans HZp.out)
      replace HFgh := Lib.hid (HFgh.out.keep fun k hk _ => k2 k (by have h0 := HGq.out; have h1 := HLGq.out; rcases hk with h | h <;> omega))
      replace HFgg := Lib.hid (HFgg.out.keep fun k hk _ => k2 k (by have h0 := HGq.out; have h1 := HLGq.out; rcases hk with h | h <;> omega))
      replace HFzh := Lib.hid (HFzh.out.keep fun k hk _ => k2 k (by have h0 := HGq.out; have h1 := HLMq.out; have h2 := HLZq.out; rcases hk with h | h | h <;> omega))
      replace HFzg := Lib.hid (HFzg.out.keep fun k hk _ => k2 k (by have h0 := HGq.out; have h1 := HLMq.out; have h2 := HLZq.out; rcases hk with h | h | h <;> omega))
      replace HZq := Lib.hid k1
      clear hy k1 k2 k3 hne
      refine .inl ⟨HS.out, ?_⟩
      refine wpAnyH_done (by kernel_rfl) ?_ _
      unfold onlyNormal
      go_wp2_with fail
      go_meet
      exact ⟨_, _, rfl, rfl, ⟨_, _, _, _, _, _, HZp.out, HFgh.out.eVal, HFgg.out.eVal⟩, ⟨_, _, _, _, _, _, HZq.out, HFzh.out.eVal, HFzg.out.eVal⟩, Y.out⟩
    subst hG hd hA
    have HT : Tag 0 := ⟨⟩
    iterate 5
      all_goals
        first
         | (have ht : Tag 0 := HT; clear ht; refine wpAnyH_all (rs := [2, 8, 9]) (by kernel_rfl) (by simp) ?_; intro i hi
            replace hi : i = 2 ∨ i = 8 ∨ i = 9 := by simpa using hi
            rcases hi with hi | hi | hi)
         | (have ht : Tag 4 := HT; clear ht; refine wpAnyH_all (rs := [5, 8, 9]) (by kernel_rfl) (by simp) ?_; intro i hi
            replace hi : i = 5 ∨ i = 8 ∨ i = 9 := by simpa using hi
            rcases hi with hi | hi | hi)
         | (have ht : Tag 36 := HT; clear ht; refine wpAnyH_all (rs := [7, 8, 9]) (by kernel_rfl) (by simp) ?_; intro i hi
            replace hi : i = 7 ∨ i = 8 ∨ i = 9 := by simpa using hi
            rcases hi with hi | hi | hi)
         | (have ht : Tag 164 := HT; clear ht; refine wpAnyH_all (rs := [8, 9]) (by kernel_rfl) (by simp) ?_; intro i hi
            replace hi : i = 8 ∨ i = 9 := by simpa using hi
            rcases hi with hi | hi)
         | (have ht : Tag 256 := HT; clear ht; refine wpAnyH_all (rs := [2, 9]) (by kernel_rfl) (by simp) ?_; intro i hi
            replace hi : i = 2 ∨ i = 9 := by simpa using hi
            rcases hi with hi | hi)
         | (have ht : Tag 260 := HT; clear ht; refine wpAnyH_all (rs := [5, 9]) (by kernel_rfl) (by simp) ?_; intro i hi
            replace hi : i = 5 ∨ i = 9 := by simpa using hi
            rcases hi with hi | hi)
         | (have ht : Tag 292 := HT; clear ht; refine wpAnyH_all (rs := [7, 9]) (by kernel_rfl) (by simp) ?_; intro i hi
            replace hi : i = 7 ∨ i = 9 := by simpa using hi
            rcases hi with hi | hi)
         | (have ht : Tag 420 := HT; clear ht; refine wpAnyH_all (rs := [9]) (by kernel_rfl) (by simp) ?_; intro i hi
            replace hi : i = 9 := by simpa using hi)
         | (have ht : Tag 512 := HT; clear ht; refine wpAnyH_all (rs := [2, 8]) (by kernel_rfl) (by simp) ?_; intro i hi
            replace hi : i = 2 ∨ i = 8 := by simpa using hi
            rcases hi with hi | hi)
         | (have ht : Tag 516 := HT; clear ht; refine wpAnyH_all (rs := [5, 8]) (by kernel_rfl) (by simp) ?_; intro i hi
            replace hi : i = 5 ∨ i = 8 := by simpa using hi
            rcases hi with hi | hi)
         | (have ht : Tag 548 := HT; clear ht; refine wpAnyH_all (rs := [7, 8]) (by kernel_rfl) (by simp) ?_; intro i hi
            replace hi : i = 7 ∨ i = 8 := by simpa using hi
            rcases hi with hi | hi)
         | (have ht : Tag 676 := HT; clear ht; refine wpAnyH_all (rs := [8]) (by kernel_rfl) (by simp) ?_; intro i hi
            replace hi : i = 8 := by simpa using hi)
         | (have ht : Tag 768 := HT; clear ht; refine wpAnyH_all (rs := [2]) (by kernel_rfl) (by simp) ?_; intro i hi
            replace hi : i = 2 := by simpa using hi)
         | (have ht : Tag 772 := HT; clear ht; refine wpAnyH_all (rs := [5]) (by kernel_rfl) (by simp) ?_; intro i hi
            replace hi : i = 5 := by simpa using hi)
         | (have ht : Tag 804 := HT; clear ht; refine wpAnyH_all (rs := [7]) (by kernel_rfl) (by simp) ?_; intro i hi
            replace hi : i = 7 := by simpa using hi)
         | fail
      all_goals
        first
         | (have hi0 : i = 2 := hi
            subst hi0
            clear hi
            replace HT := Tag.add HT 4
            obtain ⟨nG0, hn⟩ : ∃ n, n = y.heap.size := ⟨_, rfl⟩
            try (have h9 := lt_heap HZp.out; rw [← hn] at h9; have HLGp := Lib.hid h9; clear h9)
            try (have h9 := lt_heap HZq.out; rw [← hn] at h9; have HLGq := Lib.hid h9; clear h9)
            unfold wpOp
            go_simp
            refine .inl ((Strengthen_anyT (fun k => k < U7.heap.size ∨ nG0 ≤ k) d b _ _ _ (HTd.out _ _ Y.out fun k hk => .inl hk) (Hb.out.ext Y.out) (HM.out.ext Y.out) HGD.out (fun k hk => .inr (by omega))).mono ?_)
            rintro r y ⟨⟨v, rfl, hv⟩, x⟩
            rw [HGE.out] at hv
            obtain ⟨ga1, ga2, ga3, ga4, ga5, ga6, rfl, hv1, hv2⟩ := hv
            unfold condCells
            replace Y := Lib.hid (Y.out.trans x); replace HS := Lib.hid (K2.out _ Y.out)
            try replace HZp := Lib.hid ((x.block _ (lt_heap HZp.out)).trans HZp.out)
            try replace HZq := Lib.hid ((x.block _ (lt_heap HZq.out)).trans HZq.out)
            try replace HFgh := Lib.hid (HFgh.out.keep fun k _ hk => x.block k hk)
            try replace HFgg := Lib.hid (HFgg.out.keep fun k _ hk => x.block k hk)
            try replace HFmh := Lib.hid (HFmh.out.keep fun k _ hk => x.block k hk)
            try replace HFmg := Lib.hid (HFmg.out.keep fun k _ hk => x.block k hk)
            try replace HFzh := Lib.hid (HFzh.out.keep fun k _ hk => x.block k hk)
            try replace HFzg := Lib.hid (HFzg.out.keep fun k _ hk => x.block k hk)
            try replace HXG := Lib.hid (Nat.le_trans HXG.out x.size)
            try replace HXM := Lib.hid (Nat.le_trans HXM.out x.size)
            try replace HXZ := Lib.hid (Nat.le_trans HXZ.out x.size)
            obtain ⟨nG1, hn1⟩ : ∃ n, n = y.heap.size := ⟨_, rfl⟩
            have HXG : Hid (nG1 ≤ y.heap.size) := Nat.le_of_eq hn1
            have HFgh : Hid (EValT (fun k => k < U7.heap.size ∨ (nG0 ≤ k ∧ k < nG1)) y (.agg #[.int .i64 g.hyp.op, .int .i64 g.hyp.wd, .int .i64 g.hyp.n, .slice ga1 ga2 ga3]) g.hyp) := hv1.there.mono (fun k hk => hk.1.elim .inl (fun h => .inr ⟨h, by have := hk.2; omega⟩))
            have HFgg : Hid (EValT (fun k => k < U7.heap.size ∨ (nG0 ≤ k ∧ k < nG1)) y (.agg #[.int .i64 g.goal.op, .int .i64 g.goal.wd, .int .i64 g.goal.n, .slice ga4 ga5 ga6]) g.goal) := hv2.there.mono (fun k hk => hk.1.elim .inl (fun h => .inr ⟨h, by have := hk.2; omega⟩))
            clear x hn hn1 hv1 hv2
            refine ⟨HS.out, ?_⟩)
         | (have hi0 : i = 5 := hi
            subst hi0
            clear hi
            replace HT := Tag.add HT 32
            obtain ⟨nM0, hn⟩ : ∃ n, n = y.heap.size := ⟨_, rfl⟩
            try (have h9 := lt_heap HZp.out; rw [← hn] at h9; have HLMp := Lib.hid h9; clear h9)
            try (have h9 := lt_heap HZq.out; rw [← hn] at h9; have HLMq := Lib.hid h9; clear h9)
            unfold wpOp
            go_simp
            refine .inl ((Strengthen_anyT (fun k => k < U7.heap.size ∨ nM0 ≤ k) c b _ _ _ (HTc.out _ _ Y.out fun k hk => .inl hk) (Hb.out.ext Y.out) (HM.out.ext Y.out) HGS.out (fun k hk => .inr (by omega))).mono ?_)
            rintro r y ⟨⟨v, rfl, hv⟩, x⟩
            rw [HME.out] at hv
            obtain ⟨ma1, ma2, ma3, ma4, ma5, ma6, rfl, hv1, hv2⟩ := hv
            unfold condCells
            replace Y := Lib.hid (Y.out.trans x); replace HS := Lib.hid (K2.out _ Y.out)
            try replace HZp := Lib.hid ((x.block _ (lt_heap HZp.out)).trans HZp.out)
            try replace HZq := Lib.hid ((x.block _ (lt_heap HZq.out)).trans HZq.out)
            try replace HFgh := Lib.hid (HFgh.out.keep fun k _ hk => x.block k hk)
            try replace HFgg := Lib.hid (HFgg.out.keep fun k _ hk => x.block k hk)
            try replace HFmh := Lib.hid (HFmh.out.keep fun k _ hk => x.block k hk)
            try replace HFmg := Lib.hid (HFmg.out.keep fun k _ hk => x.block k hk)
            try replace HFzh := Lib.hid (HFzh.out.keep fun k _ hk => x.block k hk)
            try replace HFzg := Lib.hid (HFzg.out.keep fun k _ hk => x.block k hk)
            try replace HXG := Lib.hid (Nat.le_trans HXG.out x.size)
            try replace HXM := Lib.hid (Nat.le_trans HXM.out x.size)
            try replace HXZ := Lib.hid (Nat.le_trans HXZ.out x.size)
            obtain ⟨nM1, hn1⟩ : ∃ n, n = y.heap.size := ⟨_, rfl⟩
            have HXM : Hid (nM1 ≤ y.heap.size) := Nat.le_of_eq hn1
            have HFmh : Hid (EValT (fun k => k < U7.heap.size ∨ (nM0 ≤ k ∧ k < nM1)) y (.agg #[.int .i64 m.hyp.op, .int .i64 m.hyp.wd, .int .i64 m.hyp.n, .slice ma1 ma2 ma3]) m.hyp) := hv1.there.mono (fun k hk => hk.1.elim .inl (fun h => .inr ⟨h, by have := hk.2; omega⟩))
            have HFmg : Hid (EValT (fun k => k < U7.heap.size ∨ (nM0 ≤ k ∧ k < nM1)) y (.agg #[.int .i64 m.goal.op, .int .i64 m.goal.wd, .int .i64 m.goal.n, .slice ma4 ma5 ma6]) m.goal) := hv2.there.mono (fun k hk => hk.1.elim .inl (fun h => .inr ⟨h, by have := hk.2; omega⟩))
            clear x hn hn1 hv1 hv2
            refine ⟨HS.out, ?_⟩)
         | (have hi0 : i = 7 := hi
            subst hi0
            clear hi
            replace HT := Tag.add HT 128
            obtain ⟨nZ0, hn⟩ : ∃ n, n = y.heap.size := ⟨_, rfl⟩
            try (have h9 := lt_heap HZp.out; rw [← hn] at h9; have HLZp := Lib.hid h9; clear h9)
            try (have h9 := lt_heap HZq.out; rw [← hn] at h9; have HLZq := Lib.hid h9; clear h9)
            unfold wpOp
            go_simp
            refine .inl ((Strengthen_anyT (fun k => (k < U7.heap.size ∨ (nM0 ≤ k ∧ k < nM1)) ∨ nZ0 ≤ k) m a _ _ _ (⟨_, _, _, _, _, _, rfl, HFmh.out.mono fun k hk => .inl hk, HFmg.out.mono fun k hk => .inl hk⟩) (Ha.out.ext Y.out) (HM.out.ext Y.out) HGM.out (fun k hk => .inr (by omega))).mono ?_)
            rintro r y ⟨⟨v, rfl, hv⟩, x⟩
            rw [HZE.out] at hv
            obtain ⟨za1, za2, za3, za4, za5, za6, rfl, hv1, hv2⟩ := hv
            unfold condCells
            replace Y := Lib.hid (Y.out.trans x); replace HS := Lib.hid (K2.out _ Y.out)
            try replace HZp := Lib.hid ((x.block _ (lt_heap HZp.out)).trans HZp.out)
            try replace HZq := Lib.hid ((x.block _ (lt_heap HZq.out)).trans HZq.out)
            try replace HFgh := Lib.hid (HFgh.out.keep fun k _ hk => x.block k hk)
            try replace HFgg := Lib.hid (HFgg.out.keep fun k _ hk => x.block k hk)
            try replace HFmh := Lib.hid (HFmh.out.keep fun k _ hk => x.block k hk)
            try replace HFmg := Lib.hid (HFmg.out.keep fun k _ hk => x.block k hk)
            try replace HFzh := Lib.hid (HFzh.out.keep fun k _ hk => x.block k hk)
            try replace HFzg := Lib.hid (HFzg.out.keep fun k _ hk => x.block k hk)
            try replace HXG := Lib.hid (Nat.le_trans HXG.out x.size)
            try replace HXM := Lib.hid (Nat.le_trans HXM.out x.size)
            try replace HXZ := Lib.hid (Nat.le_trans HXZ.out x.size)
            obtain ⟨nZ1, hn1⟩ : ∃ n, n = y.heap.size := ⟨_, rfl⟩
            have HXZ : Hid (nZ1 ≤ y.heap.size) := Nat.le_of_eq hn1
            have HFzh : Hid (EValT (fun k => k < U7.heap.size ∨ (nM0 ≤ k ∧ k < nM1) ∨ (nZ0 ≤ k ∧ k < nZ1)) y (.agg #[.int .i64 z.hyp.op, .int .i64 z.hyp.wd, .int .i64 z.hyp.n, .slice za1 za2 za3]) z.hyp) := hv1.there.mono (fun k hk => hk.1.elim (fun h => h.elim .inl (fun h => .inr (.inl h))) (fun h => .inr (.inr ⟨h, by have := hk.2; omega⟩)))
            have HFzg : Hid (EValT (fun k => k < U7.heap.size ∨ (nM0 ≤ k ∧ k < nM1) ∨ (nZ0 ≤ k ∧ k < nZ1)) y (.agg #[.int .i64 z.goal.op, .int .i64 z.goal.wd, .int .i64 z.goal.n, .slice za4 za5 za6]) z.goal) := hv2.there.mono (fun k hk => hk.1.elim (fun h => h.elim .inl (fun h => .inr (.inl h))) (fun h => .inr (.inr ⟨h, by have := hk.2; omega⟩)))
            clear x hn hn1 hv1 hv2
            refine ⟨HS.out, ?_⟩)
         | (have hi0 : i = 8 := hi
            subst hi0
            clear hi
            replace HT := Tag.add HT 256
            unfold wpOp
            go_simp
            obtain ⟨bp, hb⟩ : ∃ n, n = y.heap.size := ⟨_, rfl⟩
            have h8 := Y.out.size
            rw [← hb] at h8 ⊢
            have HGp := Lib.hid h8
            try (have h9 := lt_heap HZq.out; rw [← hb] at h9; have HOqp := Lib.hid h9; clear h9)
            try (have h9 := HXG.out; rw [← hb] at h9; have HLGp := Lib.hid h9; clear h9)
            try (have h9 := HXM.out; rw [← hb] at h9; have HLMp := Lib.hid h9; clear h9)
            try (have h9 := HXZ.out; rw [← hb] at h9; have HLZp := Lib.hid h9; clear h9)
            have x := (Ext.refl y).alloc (.cells #[.string ⟨#[]⟩, .int .i64 0, .int .i64 0, .int .i64 0, .int .i64 0, .int .i64 0, .int .i64 0, .int .i64 0, .int .i64 0, .slice none 0 0, .int .i64 0, .int .i64 0, .int .i64 0, .slice none 0 0] 27)
            have hz := heap_new y (.cells #[.string ⟨#[]⟩, .int .i64 0, .int .i64 0, .int .i64 0, .int .i64 0, .int .i64 0, .int .i64 0, .int .i64 0, .int .i64 0, .slice none 0 0, .int .i64 0, .int .i64 0, .int .i64 0, .slice none 0 0] 27)
            rw [← hb] at hz
            obtain ⟨y, hy⟩ : ∃ y2, y2 = y.alloc (.cells #[.string ⟨#[]⟩, .int .i64 0, .int .i64 0, .int .i64 0, .int .i64 0, .int .i64 0, .int .i64 0, .int .i64 0, .int .i64 0, .slice none 0 0, .int .i64 0, .int .i64 0, .int .i64 0, .slice none 0 0] 27) := ⟨_, rfl⟩
            rw [← hy] at x hz ⊢
            clear hy hb h8
            replace Y := Lib.hid (Y.out.trans x); replace HS := Lib.hid (K2.out _ Y.out)
            try replace HZp := Lib.hid ((x.block _ (lt_heap HZp.out)).trans HZp.out)
            try replace HZq := Lib.hid ((x.block _ (lt_heap HZq.out)).trans HZq.out)
            try replace HFgh := Lib.hid (HFgh.out.keep fun k _ hk => x.block k hk)
            try replace HFgg := Lib.hid (HFgg.out.keep fun k _ hk => x.block k hk)
            try replace HFmh := Lib.hid (HFmh.out.keep fun k _ hk => x.block k hk)
            try replace HFmg := Lib.hid (HFmg.out.keep fun k _ hk => x.block k hk)
            try replace HFzh := Lib.hid (HFzh.out.keep fun k _ hk => x.block k hk)
            try replace HFzg := Lib.hid (HFzg.out.keep fun k _ hk => x.block k hk)
            try replace HXG := Lib.hid (Nat.le_trans HXG.out x.size)
            try replace HXM := Lib.hid (Nat.le_trans HXM.out x.size)
            try replace HXZ := Lib.hid (Nat.le_trans HXZ.out x.size)
            have HZp := Lib.hid hz
            clear x hz
            refine .inl ⟨HS.out, ?_⟩)
         | (have hi0 : i = 9 := hi
            subst hi0
            clear hi
            replace HT := Tag.add HT 512
            unfold wpOp
            go_simp
            obtain ⟨bq, hb⟩ : ∃ n, n = y.heap.size := ⟨_, rfl⟩
            have h8 := Y.out.size
            rw [← hb] at h8 ⊢
            have HGq := Lib.hid h8
            try (have h9 := lt_heap HZp.out; rw [← hb] at h9; have HOpq := Lib.hid h9; clear h9)
            try (have h9 := HXG.out; rw [← hb] at h9; have HLGq := Lib.hid h9; clear h9)
            try (have h9 := HXM.out; rw [← hb] at h9; have HLMq := Lib.hid h9; clear h9)
            try (have h9 := HXZ.out; rw [← hb] at h9; have HLZq := Lib.hid h9; clear h9)
            have x := (Ext.refl y).alloc (.cells #[.string ⟨#[]⟩, .int .i64 0, .int .i64 0, .int .i64 0, .int .i64 0, .int .i64 0, .int .i64 0, .int .i64 0, .int .i64 0, .slice none 0 0, .int .i64 0, .int .i64 0, .int .i64 0, .slice none 0 0] 27)
            have hz := heap_new y (.cells #[.string ⟨#[]⟩, .int .i64 0, .int .i64 0, .int .i64 0, .int .i64 0, .int .i64 0, .int .i64 0, .int .i64 0, .int .i64 0, .slice none 0 0, .int .i64 0, .int .i64 0, .int .i64 0, .slice none 0 0] 27)
            rw [← hb] at hz
            obtain ⟨y, hy⟩ : ∃ y2, y2 = y.alloc (.cells #[.string ⟨#[]⟩, .int .i64 0, .int .i64 0, .int .i64 0, .int .i64 0, .int .i64 0, .int .i64 0, .int .i64 0, .int .i64 0, .slice none 0 0, .int .i64 0, .int .i64 0, .int .i64 0, .slice none 0 0] 27) := ⟨_, rfl⟩
            rw [← hy] at x hz ⊢
            clear hy hb h8
            replace Y := Lib.hid (Y.out.trans x); replace HS := Lib.hid (K2.out _ Y.out)
            try replace HZp := Lib.hid ((x.block _ (lt_heap HZp.out)).trans HZp.out)
            try replace HZq := Lib.hid ((x.block _ (lt_heap HZq.out)).trans HZq.out)
            try replace HFgh := Lib.hid (HFgh.out.keep fun k _ hk => x.block k hk)
            try replace HFgg := Lib.hid (HFgg.out.keep fun k _ hk => x.block k hk)
            try replace HFmh := Lib.hid (HFmh.out.keep fun k _ hk => x.block k hk)
            try replace HFmg := Lib.hid (HFmg.out.keep fun k _ hk => x.block k hk)
            try replace HFzh := Lib.hid (HFzh.out.keep fun k _ hk => x.block k hk)
            try replace HFzg := Lib.hid (HFzg.out.keep fun k _ hk => x.block k hk)
            try replace HXG := Lib.hid (Nat.le_trans HXG.out x.size)
            try replace HXM := Lib.hid (Nat.le_trans HXM.out x.size)
            try replace HXZ := Lib.hid (Nat.le_trans HXZ.out x.size)
            have HZq := Lib.hid hz
            clear x hz
            refine .inl ⟨HS.out, ?_⟩)
         | fail
    all_goals
      exact wpAnyH_at (TAIL y bp bq nG0 nG1 nM0 nM1 nZ0 nZ1 ga1 ga2 ga3 ga4 ga5 ga6 ma1 ma2 ma3 ma4 ma5 ma6 za1 za2 za3 za4 za5 za6 Y HZp HZq HGp HGq (by first | exact Nat.ne_of_lt HOqp.out | exact Nat.ne_of_gt HOpq.out) (by first | exact .inl HLGp.out | exact .inr HLGp.out) (by first | exact .inl HLGq.out | exact .inr HLGq.out) (by first | exact .inl HLMp.out | exact .inr HLMp.out) (by first | exact .inl HLMq.out | exact .inr HLMq.out) (by first | exact .inl HLZp.out | exact .inr HLZp.out) (by first | exact .inl HLZq.out | exact .inr HLZq.out) HFgh HFgg HFzh HFzg) (by kernel_rfl) (by kernel_rfl)
  case rest => 
    obtain ⟨bg, bz, rfl, rfl, ⟨ga1, ga2, ga3, ga4, ga5, ga6, hat1, e1, e2⟩, ⟨za1, za2, za3, za4, za5, za6, hat2, e3, e4⟩, x1⟩ := hcut
    generalize wc = U8 at *
    have HVg := Lib.hid hat1; have HVz := Lib.hid hat2
    have Hg : Hid (CondV U8 (.agg #[.string ⟨g.id.toArray⟩, .int .i64 g.k1, .int .i64 g.k2, .int .i64 g.k3, .int .i64 g.k4, .int .i64 g.k5, .int .i64 g.hyp.op, .int .i64 g.hyp.wd, .int .i64 g.hyp.n, .slice ga1 ga2 ga3, .int .i64 g.goal.op, .int .i64 g.goal.wd, .int .i64 g.goal.n, .slice ga4 ga5 ga6]) g) := ⟨ga1, ga2, ga3, ga4, ga5, ga6, rfl, e1, e2⟩
    have Hz : Hid (CondV U8 (.agg #[.string ⟨z.id.toArray⟩, .int .i64 z.k1, .int .i64 z.k2, .int .i64 z.k3, .int .i64 z.k4, .int .i64 z.k5, .int .i64 z.hyp.op, .int .i64 z.hyp.wd, .int .i64 z.hyp.n, .slice za1 za2 za3, .int .i64 z.goal.op, .int .i64 z.goal.wd, .int .i64 z.goal.n, .slice za4 za5 za6]) z) := ⟨za1, za2, za3, za4, za5, za6, rfl, e3, e4⟩
    replace HX := Lib.hid (HX.out.trans x1); replace HC := Lib.hid (HC.out.ext x1); replace HM := Lib.hid (HM.out.ext x1); replace HVc := Lib.hid (HVc.out.ext x1); replace Hc := Lib.hid (Hc.out.ext x1); replace HVa := Lib.hid (HVa.out.ext x1); replace Ha := Lib.hid (Ha.out.ext x1); replace HVb := Lib.hid (HVb.out.ext x1); replace Hb := Lib.hid (Hb.out.ext x1); replace Hs := Lib.hid (Hs.out.ext x1); replace Ht := Lib.hid (Ht.out.ext x1); replace Hd := Lib.hid (Hd.out.ext x1); replace HVd := Lib.hid (HVd.out.ext x1)
    clear x1 hat1 hat2 e1 e2 e3 e4 K2 HTd HTc HBa HBb
    obtain ⟨qg0, qg1, qg2, qg3, qg4, qg5, qg6, qg7, qg8, qg9, qg10, qg11, qg12, qg13⟩ := HVg.out.all
    go_wp2_with fail
    refine (small32_any cells g _ _ _ HC.out Hg.out).mono ?_
    rintro r wk7 ⟨rfl, x1⟩
    replace HX := Lib.hid (HX.out.trans x1); replace HC := Lib.hid (HC.out.ext x1); replace HM := Lib.hid (HM.out.ext x1); replace HVc := Lib.hid (HVc.out.ext x1); replace Hc := Lib.hid (Hc.out.ext x1); replace HVa := Lib.hid (HVa.out.ext x1); replace Ha := Lib.hid (Ha.out.ext x1); replace HVb := Lib.hid (HVb.out.ext x1); replace Hb := Lib.hid (Hb.out.ext x1); replace Hs := Lib.hid (Hs.out.ext x1); replace Ht := Lib.hid (Ht.out.ext x1); replace Hd := Lib.hid (Hd.out.ext x1); replace HVd := Lib.hid (HVd.out.ext x1); replace HVg := Lib.hid (HVg.out.ext x1); replace HVz := Lib.hid (HVz.out.ext x1); replace Hg := Lib.hid (Hg.out.ext x1); replace Hz := Lib.hid (Hz.out.ext x1)
    clear x1 qg0 qg1 qg2 qg3 qg4 qg5 qg6 qg7 qg8 qg9 qg10 qg11 qg12 qg13
    cases hb1 : small32 cells g with
    | false =>
      clear hb1
      go_wp2_with fail
      exact bodyPost_ret (v := .bool true) (by simp [results, Tryz.results6, go_sem]) rfl ⟨rfl, by first | exact HX.out | exact HX.out.alloc _⟩
    | true =>
    have HSg := Lib.hid (sm_of hb1)
    clear hb1
    obtain ⟨qz0, qz1, qz2, qz3, qz4, qz5, qz6, qz7, qz8, qz9, qz10, qz11, qz12, qz13⟩ := HVz.out.all
    go_wp2_with fail
    refine (small32_any cells z _ _ _ HC.out Hz.out).mono ?_
    rintro r wk8 ⟨rfl, x1⟩
    replace HX := Lib.hid (HX.out.trans x1); replace HC := Lib.hid (HC.out.ext x1); replace HM := Lib.hid (HM.out.ext x1); replace HVc := Lib.hid (HVc.out.ext x1); replace Hc := Lib.hid (Hc.out.ext x1); replace HVa := Lib.hid (HVa.out.ext x1); replace Ha := Lib.hid (Ha.out.ext x1); replace HVb := Lib.hid (HVb.out.ext x1); replace Hb := Lib.hid (Hb.out.ext x1); replace Hs := Lib.hid (Hs.out.ext x1); replace Ht := Lib.hid (Ht.out.ext x1); replace Hd := Lib.hid (Hd.out.ext x1); replace HVd := Lib.hid (HVd.out.ext x1); replace HVg := Lib.hid (HVg.out.ext x1); replace HVz := Lib.hid (HVz.out.ext x1); replace Hg := Lib.hid (Hg.out.ext x1); replace Hz := Lib.hid (Hz.out.ext x1)
    clear x1 qz0 qz1 qz2 qz3 qz4 qz5 qz6 qz7 qz8 qz9 qz10 qz11 qz12 qz13
    cases hb1 : small32 cells z with
    | false =>
      clear hb1
      go_wp2_with fail
      exact bodyPost_ret (v := .bool true) (by simp [results, Tryz.results6, go_sem]) rfl ⟨rfl, by first | exact HX.out | exact HX.out.alloc _⟩
    | true =>
    have HSz := Lib.hid (sm_of hb1)
    clear hb1
    have hsw : weakR cells g.hyp g.goal = weakR cells z.hyp z.goal := by
      have h1 : strC (strC c a) b = g := by rw [HDE.out]; exact HGE.out
      have h2 : strC (strC c b) a = z := by rw [HME.out]; exact HZE.out
      rw [← h1, ← h2]
      exact swap_law (by rw [HDE.out]; exact HOP.out) (by rw [h1]; exact HSg.out) (by rw [h2]; exact HSz.out)
    obtain ⟨⟨u, k⟩, hu⟩ : ∃ r, weakR cells g.hyp g.goal = r := ⟨_, rfl⟩
    have HWG := Lib.hid hu
    have HWZ := Lib.hid (hsw.symm.trans hu)
    clear hsw hu
    obtain ⟨v, hv⟩ : ∃ v, u = v := ⟨_, rfl⟩
    have HUV := Lib.hid hv
    rw [hv] at HWZ
    clear hv
    obtain ⟨qg0, qg1, qg2, qg3, qg4, qg5, qg6, qg7, qg8, qg9, qg10, qg11, qg12, qg13⟩ := HVg.out.all
    go_wp2_with fail
    refine (Weak_s HSg.out HWG.out _ _ _ Hg.out HC.out HM.out).mono ?_
    rintro r wk9 ⟨u1, u2, u3, rfl, he, x1⟩
    have Hu := Lib.hid he; clear he
    replace HX := Lib.hid (HX.out.trans x1); replace HC := Lib.hid (HC.out.ext x1); replace HM := Lib.hid (HM.out.ext x1); replace HVc := Lib.hid (HVc.out.ext x1); replace Hc := Lib.hid (Hc.out.ext x1); replace HVa := Lib.hid (HVa.out.ext x1); replace Ha := Lib.hid (Ha.out.ext x1); replace HVb := Lib.hid (HVb.out.ext x1); replace Hb := Lib.hid (Hb.out.ext x1); replace Hs := Lib.hid (Hs.out.ext x1); replace Ht := Lib.hid (Ht.out.ext x1); replace Hd := Lib.hid (Hd.out.ext x1); replace HVd := Lib.hid (HVd.out.ext x1); replace HVg := Lib.hid (HVg.out.ext x1); replace HVz := Lib.hid (HVz.out.ext x1); replace Hg := Lib.hid (Hg.out.ext x1); replace Hz := Lib.hid (Hz.out.ext x1)
    clear x1 qg0 qg1 qg2 qg3 qg4 qg5 qg6 qg7 qg8 qg9 qg10 qg11 qg12 qg13
    go_upto_region 17 with fail
    obtain ⟨Wk9, hWk⟩ : ∃ Wk, Wk = wk9.alloc (.cells #[.int .i64 u.op, .int .i64 u.wd, .int .i64 u.n, .slice u1 u2 u3] 25) := ⟨_, rfl⟩
    have x1 : Ext wk9 Wk9 := by rw [hWk]; exact (Ext.refl _).alloc _
    have HVu : Hid (VarE Wk9 wk9.heap.size u.op u.wd u.n (.slice u1 u2 u3)) := by rw [hWk]; exact heap_new _ _
    rw [← hWk]
    replace HX := Lib.hid (HX.out.trans x1); replace HC := Lib.hid (HC.out.ext x1); replace HM := Lib.hid (HM.out.ext x1); replace HVc := Lib.hid (HVc.out.ext x1); replace Hc := Lib.hid (Hc.out.ext x1); replace HVa := Lib.hid (HVa.out.ext x1); replace Ha := Lib.hid (Ha.out.ext x1); replace HVb := Lib.hid (HVb.out.ext x1); replace Hb := Lib.hid (Hb.out.ext x1); replace Hs := Lib.hid (Hs.out.ext x1); replace Ht := Lib.hid (Ht.out.ext x1); replace Hd := Lib.hid (Hd.out.ext x1); replace HVd := Lib.hid (HVd.out.ext x1); replace HVg := Lib.hid (HVg.out.ext x1); replace HVz := Lib.hid (HVz.out.ext x1); replace Hg := Lib.hid (Hg.out.ext x1); replace Hz := Lib.hid (Hz.out.ext x1); replace Hu := Lib.hid (Hu.out.ext x1)
    clear x1 hWk
    generalize wk9.heap.size = bu at *
    obtain ⟨qz0, qz1, qz2, qz3, qz4, qz5, qz6, qz7, qz8, qz9, qz10, qz11, qz12, qz13⟩ := HVz.out.all
    go_wp2_with fail
    refine (Weak_s HSz.out HWZ.out _ _ _ Hz.out HC.out HM.out).mono ?_
    rintro r wk10 ⟨v1, v2, v3, rfl, he, x1⟩
    have Hv := Lib.hid he; clear he
    replace HX := Lib.hid (HX.out.trans x1); replace HC := Lib.hid (HC.out.ext x1); replace HM := Lib.hid (HM.out.ext x1); replace HVc := Lib.hid (HVc.out.ext x1); replace Hc := Lib.hid (Hc.out.ext x1); replace HVa := Lib.hid (HVa.out.ext x1); replace Ha := Lib.hid (Ha.out.ext x1); replace HVb := Lib.hid (HVb.out.ext x1); replace Hb := Lib.hid (Hb.out.ext x1); replace Hs := Lib.hid (Hs.out.ext x1); replace Ht := Lib.hid (Ht.out.ext x1); replace Hd := Lib.hid (Hd.out.ext x1); replace HVd := Lib.hid (HVd.out.ext x1); replace HVg := Lib.hid (HVg.out.ext x1); replace HVz := Lib.hid (HVz.out.ext x1); replace Hg := Lib.hid (Hg.out.ext x1); replace Hz := Lib.hid (Hz.out.ext x1); replace Hu := Lib.hid (Hu.out.ext x1); replace HVu := Lib.hid (HVu.out.ext x1)
    clear x1 qz0 qz1 qz2 qz3 qz4 qz5 qz6 qz7 qz8 qz9 qz10 qz11 qz12 qz13
    go_upto_region 18 with fail
    obtain ⟨Wk10, hWk⟩ : ∃ Wk, Wk = wk10.alloc (.cells #[.int .i64 v.op, .int .i64 v.wd, .int .i64 v.n, .slice v1 v2 v3] 25) := ⟨_, rfl⟩
    have x1 : Ext wk10 Wk10 := by rw [hWk]; exact (Ext.refl _).alloc _
    have HVv : Hid (VarE Wk10 wk10.heap.size v.op v.wd v.n (.slice v1 v2 v3)) := by rw [hWk]; exact heap_new _ _
    rw [← hWk]
    replace HX := Lib.hid (HX.out.trans x1); replace HC := Lib.hid (HC.out.ext x1); replace HM := Lib.hid (HM.out.ext x1); replace HVc := Lib.hid (HVc.out.ext x1); replace Hc := Lib.hid (Hc.out.ext x1); replace HVa := Lib.hid (HVa.out.ext x1); replace Ha := Lib.hid (Ha.out.ext x1); replace HVb := Lib.hid (HVb.out.ext x1); replace Hb := Lib.hid (Hb.out.ext x1); replace Hs := Lib.hid (Hs.out.ext x1); replace Ht := Lib.hid (Ht.out.ext x1); replace Hd := Lib.hid (Hd.out.ext x1); replace HVd := Lib.hid (HVd.out.ext x1); replace HVg := Lib.hid (HVg.out.ext x1); replace HVz := Lib.hid (HVz.out.ext x1); replace Hg := Lib.hid (Hg.out.ext x1); replace Hz := Lib.hid (Hz.out.ext x1); replace Hu := Lib.hid (Hu.out.ext x1); replace HVu := Lib.hid (HVu.out.ext x1); replace Hv := Lib.hid (Hv.out.ext x1)
    clear x1 hWk
    generalize wk10.heap.size = bv at *
    have hkk : (k == k) = true := by simp
    obtain ⟨qu0, qu1, qu2, qu3⟩ := HVu.out.cells
    obtain ⟨qv0, qv1, qv2, qv3⟩ := HVv.out.cells
    go_wp2_with fail
    refine (RSame_any u.size u v _ _ _ (Nat.le_refl _) Hu.out Hv.out).mono ?_
    rintro r wk11 ⟨rfl, x1⟩
    rw [(eqB_iff u v).2 HUV.out]
    replace HX := Lib.hid (HX.out.trans x1); replace HC := Lib.hid (HC.out.ext x1); replace HM := Lib.hid (HM.out.ext x1); replace HVc := Lib.hid (HVc.out.ext x1); replace Hc := Lib.hid (Hc.out.ext x1); replace HVa := Lib.hid (HVa.out.ext x1); replace Ha := Lib.hid (Ha.out.ext x1); replace HVb := Lib.hid (HVb.out.ext x1); replace Hb := Lib.hid (Hb.out.ext x1); replace Hs := Lib.hid (Hs.out.ext x1); replace Ht := Lib.hid (Ht.out.ext x1); replace Hd := Lib.hid (Hd.out.ext x1); replace HVd := Lib.hid (HVd.out.ext x1); replace HVg := Lib.hid (HVg.out.ext x1); replace HVz := Lib.hid (HVz.out.ext x1); replace Hg := Lib.hid (Hg.out.ext x1); replace Hz := Lib.hid (Hz.out.ext x1); replace Hu := Lib.hid (Hu.out.ext x1); replace HVu := Lib.hid (HVu.out.ext x1); replace Hv := Lib.hid (Hv.out.ext x1); replace HVv := Lib.hid (HVv.out.ext x1)
    clear x1 qu0 qu1 qu2 qu3 qv0 qv1 qv2 qv3
    go_wp2_with fail
    exact bodyPost_ret (v := .bool true) (by simp [results, Tryz.results6, go_sem]) rfl ⟨rfl, by first | exact HX.out | exact HX.out.alloc _⟩
theorem HintStrengthen_any (cells : List CellD) (c : CondS) (a b : E) (s t : List Int) (kv cv av bv sv tv : Value) (w : World) (hC : Cells w kv cells) (hc : CondV w cv c) (ha : EVal w av a) (hb : EVal w bv b) (hs : Ints w sv s) (ht : Ints w tv t) (hM : Masks w) (hN : Names w) (hP : Pow10 w) :
    Calls Tryz.prog 6 #[kv, cv, av, bv, sv, tv] w fun r w' => r = .returned (.bool true) ∧ Ext w w' := hsPart.2 ⟨hs_rest⟩ cells c a b s t kv cv av bv sv tv w hC hc ha hb hs ht hM hN hP
end Go.Proofs.YtlcgbdjmlnjhcaaGreatDoor
