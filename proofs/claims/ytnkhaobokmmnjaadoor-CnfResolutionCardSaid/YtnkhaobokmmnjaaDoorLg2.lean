/-
  The walk of CnfResolution.
-/
import Derived.Test.YtnkhaobokmmnjaaDoorLgL
namespace Go.Proofs.YtnkhaobokmmnjaaDoor
open Go.RowKit Go.Shelf
attribute [local go_sem] Oper.semAt_some

theorem lists_at {w : World} {fa : Option Addr} {fc : Nat} {cl : List (List Int)} (h : Lists w (.slice fa cl.length fc) cl) {k : Nat} (hk : k < cl.length) : ∃ b o c1 c2, fa = some ⟨b, o, none⟩ ∧ w.cell? ⟨b, o + k, none⟩ = some (.slice c1 cl[k].length c2) ∧ Ints w (.slice c1 cl[k].length c2) cl[k] := by
  rcases h with ⟨_, e⟩ | ⟨b, o, cap, e, _, hc⟩
  · rw [e] at hk; simp at hk
  cases e
  obtain ⟨v1, g4, i1⟩ := hc k hk
  rw [Nat.mul_one] at g4
  obtain ⟨c1, c2, rfl⟩ := i1.shape
  exact ⟨b, o, c1, c2, rfl, g4, i1⟩
/-- A row of one clause. -/
theorem lists_one {w : World} {v : Value} {l : List Int} (h : Ints w v l) : Lists (w.alloc (.cells #[v] 30)) (.slice (some ⟨w.heap.size, 0, none⟩) 1 1) [l] := by
  refine .inr ⟨w.heap.size, 0, 1, rfl, by simp, fun i hi => ?_⟩
  obtain rfl : i = 0 := by simpa using hi
  refine ⟨v, ?_, h.ext ((Ext.refl w).alloc _)⟩
  rw [Lib.cell_of_heap (heap_new w _)]; rfl
theorem tmod_nat (a n : Nat) : (a : Int).tmod (n : Int) = ((a % n : Nat) : Int) := by
  rw [Int.tmod_eq_emod_of_nonneg (by omega)]; push_cast; rfl

set_option maxRecDepth 100000 in
set_option maxHeartbeats 8000000 in
theorem CnfResolution_any (vars : Int) (cl : List (List Int)) (vs : List Bool) (pa pb : Nat) (vf vv : Value) (w : World) (hf : CnfV w vf vars cl) (hn : CnfN vars cl) (hv : Bools w vv vs) (ha : pa ≤ 255) (hb : pb ≤ 255) (hT : CTab w) :
    Calls Tryd.prog 6 #[vf, vv, .int .u8 (pa : Int), .int .u8 (pb : Int)] w fun r w' => r = .returned (.bool true) ∧ Ext w w' := by
  obtain ⟨fa, fc, rfl, hcl⟩ := hf.shape
  obtain ⟨va, vc, rfl⟩ := SliceAt.shape hv
  obtain ⟨W, hW⟩ : ∃ W, W = w.alloc (.cells #[.int .i64 vars, .slice fa cl.length fc] 24) := ⟨_, rfl⟩
  have hx : Ext w W := by rw [hW]; exact (Ext.refl w).alloc _
  have hA : W.heap[w.heap.size]? = some (.cells #[.int .i64 vars, .slice fa cl.length fc] 24 (0, 0)) := by rw [hW]; exact heap_new _ _
  have HF := Lib.hid hf; have HX := Lib.hid hx; have HW := Lib.hid hW; have HN := Lib.hid hn; have HV := Lib.hid hv; have HT := Lib.hid (hT.ext hx); have HA := Lib.hid (CnfAt.cells hA)
  have hvl := SliceAt.len_le hv
  clear hf hx hW hn hv hT hcl hA
  go_enter Tryd.func6, Tryd.ntmps6
  go_upto_region 1 with fail
  rw [← HW.out]
  clear HW
  generalize w.heap.size = b0 at *
  go_wp2_with fail
  refine (head_any W HT.out).mono ?_
  rintro r w2 ⟨rfl, x2⟩
  have HX2 := Lib.hid x2
  obtain ⟨p0, p1⟩ := HA.out
  replace p0 := x2.cell p0; replace p1 := x2.cell p1
  clear x2
  go_wp2_with fail
  refine (LSmall_any vars cl _ w2 (HF.out.ext (HX.out.trans HX2.out))).mono ?_
  rintro r w3 ⟨rfl, x3⟩
  have HX3 := Lib.hid (HX2.out.trans x3)
  replace p0 := x3.cell p0; replace p1 := x3.cell p1
  clear x3
  cases hsm : smallC cl with
  | false =>
    go_wp2_with fail
    go_ret
    exact ⟨rfl, HX.out.trans HX3.out⟩
  | true =>
  have HTM := Lib.hid (HN.out.tame hsm)
  have HSM := Lib.hid (small_len hsm)
  clear hsm
  by_cases h100 : 100 < vs.length
  · have h100' : (100 : Int) < (vs.length : Int) := by omega
    go_wp2_with fail
    go_ret
    exact ⟨rfl, HX.out.trans HX3.out⟩
  have h100' : ¬ (100 : Int) < (vs.length : Int) := by omega
  go_wp2_with fail
  refine (RValid_any vars cl _ w3 (HF.out.ext (HX.out.trans HX3.out)) HTM.out).mono ?_
  rintro r w4 ⟨rfl, x4⟩
  have HX4 := Lib.hid (HX.out.trans (HX3.out.trans x4))
  replace p0 := x4.cell p0; replace p1 := x4.cell p1
  clear x4
  cases hvd : validC vars cl with
  | false =>
    go_wp2_with fail
    go_ret
    exact ⟨rfl, HX4.out⟩
  | true =>
  have HVD := Lib.hid hvd
  clear hvd
  by_cases hz : cl.length = 0
  · have hzb : ((cl.length : Int) == 0) = true := by rw [hz]; rfl
    go_wp2_with fail
    go_ret
    exact ⟨rfl, HX4.out⟩
  have hzb : ((cl.length : Int) == 0) = false := beq_eq_false_iff_ne.2 (by omega)
  have HL4 := Lib.hid (HF.out.ext HX4.out)
  have HV4 := Lib.hid (SliceAt.ext BoolAt.keeps HV.out HX4.out)
  have P0 := Lib.hid p0; have P1 := Lib.hid p1
  clear HF HV HA HT HX HX2 HX3 hvl
  obtain ⟨i, hi⟩ : ∃ i, i = pa % cl.length := ⟨_, rfl⟩
  obtain ⟨j, hj⟩ : ∃ j, j = pb % cl.length := ⟨_, rfl⟩
  have hil : i < cl.length := by rw [hi]; exact Nat.mod_lt _ (by omega)
  have hjl : j < cl.length := by rw [hj]; exact Nat.mod_lt _ (by omega)
  have ei : (pa : Int).tmod (cl.length : Int) = (i : Int) := by rw [tmod_nat, ← hi]
  have ej : (pb : Int).tmod (cl.length : Int) = (j : Int) := by rw [tmod_nat, ← hj]
  have i0 : (0 : Int) ≤ (i : Int) := by omega
  have j0 : (0 : Int) ≤ (j : Int) := by omega
  have i1 : (i : Int) < (cl.length : Int) := by omega
  have j1 : (j : Int) < (cl.length : Int) := by omega
  clear hi hj
  obtain ⟨b, o, c1, c2, gc, HC, HRES, HTR, HLC, HLD, HBC, d1, d2, gd, HD, hfa⟩ : ∃ b o c1 c2, w4.cell? ⟨b, o + i, none⟩ = some (.slice c1 cl[i].length c2) ∧ Hid (Ints w4 (.slice c1 cl[i].length c2) cl[i]) ∧
      Hid (∀ l ∈ cl[i], evalC vars cl vs = true → evalC vars [resOut cl[i] cl[j] l] vs = true) ∧ Hid (∀ l, TameC vars [resOut cl[i] cl[j] l]) ∧ Hid (cl[i].length ≤ 20) ∧ Hid (cl[j].length ≤ 20) ∧ Hid (∀ x ∈ cl[i], -8000 ≤ x ∧ x ≤ 8000) ∧
      ∃ d1 d2, w4.cell? ⟨b, o + j, none⟩ = some (.slice d1 cl[j].length d2) ∧ Hid (Ints w4 (.slice d1 cl[j].length d2) cl[j]) ∧ fa = some ⟨b, o, none⟩ := by
    rcases HL4.out with ⟨_, e, hcl⟩
    cases e
    obtain ⟨b, o, c1, c2, rfl, gc, hc⟩ := lists_at hcl hil
    obtain ⟨b', o', d1, d2, e, gd, hd⟩ := lists_at hcl hjl
    cases e
    have hm1 : cl[i] ∈ cl := List.getElem_mem hil
    have hm2 : cl[j] ∈ cl := List.getElem_mem hjl
    exact ⟨b, o, c1, c2, gc, hc, fun l hl ht => res_law HVD.out hm1 hm2 hl ht, fun l => res_tame HTM.out hm1 hm2 (HSM.out.2 _ hm1) (HSM.out.2 _ hm2) l, HSM.out.2 _ hm1, HSM.out.2 _ hm2,
      fun x hx => (lit_in (validC_vars HVD.out).2 (validC_lit HVD.out hm1 hx)).2, d1, d2, gd, hd, rfl⟩
  subst hfa
  generalize cl[i] = c at *
  generalize cl[j] = d at *
  have hlc : c.length ≤ 20 := HLC.out
  have hld : d.length ≤ 20 := HLD.out
  go_upto_region 4 with fail
  go_quiet (fail)
  go_upto_region 5 with fail
  go_quiet (fail)
  go_wp2_with fail
  refine (CEval_any vars cl vs _ _ _ (HL4.out.ext (by repeat (first | exact Ext.refl _ | apply Ext.drewN))) HTM.out (SliceAt.ext BoolAt.keeps HV4.out (by repeat (first | exact Ext.refl _ | apply Ext.drewN)))).mono ?_
  rintro r w6 ⟨rfl, x6⟩
  have HX6 : Hid (Ext w4 w6) := Ext.trans (by repeat (first | exact Ext.refl _ | apply Ext.drewN)) x6
  clear x6 p0 p1 gc gd ei ej i0 i1 j0 j1 hil hjl hz hzb HL4
  generalize evalC vars cl vs = t0 at *
  go_wp2_with fail
  go_loopw [13] (fun v wr => ∃ k : Nat, k ≤ c.length ∧ v = .int .i64 k ∧ Ext w6 wr) (fun v _ => c.length - (intOf v).toNat)
  case atStart => exact ⟨0, Nat.zero_le _, rfl, Ext.refl _⟩
  case round =>
    obtain ⟨k, hk, rfl, hX⟩ := hrel
    have HXr := Lib.hid (HX6.out.trans hX); have HXs := Lib.hid hX; clear hX
    by_cases hlt : k < c.length
    · obtain ⟨b3, o3, h3, g3⟩ := ints_at (HC.out.ext HXr.out) k hlt
      subst h3
      have hg : c.getD k 0 = c[k] := by simp [List.getD, hlt]
      rw [hg] at g3
      have hlb := HBC.out _ (List.getElem_mem hlt)
      have HRL := Lib.hid (HRES.out _ (List.getElem_mem hlt))
      clear hg
      generalize c[k] = l at *
      have G3 := Lib.hid g3
      have hw : wrap64 (-l) = -l := by unfold wrap64; omega
      go_wp2_with fail
      refine (RHas_any d (-l) _ wr (HD.out.ext HXr.out) (by have := HLD.out; omega)).mono ?_
      rintro r w7 ⟨rfl, x7⟩
      have HX7 := Lib.hid (HXr.out.trans x7); have HY7 := Lib.hid (HXs.out.trans x7)
      have g3 := x7.cell G3.out
      have G7 := Lib.hid g3
      clear x7
      cases hdb : decide (-l ∈ d) with
      | false =>
        clear hdb
        go_wp2_with fail
        exact ⟨⟨k + 1, by omega, by go_num, HY7.out⟩, by simp [intOf]; omega⟩
      | true =>
        clear hdb
        go_wp2_with fail
        go_loopw [14, 15] (fun v i wx => ∃ q : Nat, q ≤ c.length ∧ i = .int .i64 q ∧ Ext w7 wx ∧ OwnInts wx w7.heap.size v (without c l q)) (fun _ i _ => c.length - (intOf i).toNat)
        case atStart => exact ⟨0, Nat.zero_le _, rfl, Ext.refl _, OwnInts.nil _ _⟩
        case round =>
          obtain ⟨q, hq, rfl, hX, hO⟩ := hrel
          have HXq := Lib.hid hX; have HO := Lib.hid hO; clear hX hO
          have g5 := HXq.out.cell G7.out
          by_cases hlq : q < c.length
          · obtain ⟨b4, o4, h4, g4⟩ := ints_at (HC.out.ext (HX7.out.trans HXq.out)) q hlq
            cases h4
            have hg : c.getD q 0 = c[q] := by simp [List.getD, hlq]
            rw [hg] at g4
            have HYES := Lib.hid (without_yes (l := l) hlq)
            have HNO := Lib.hid (without_no (l := l) hlq)
            have HLN := Lib.hid (without_len c l q)
            have q0 : (0 : Int) ≤ (q : Int) := by omega
            have q1 : (q : Int) < (c.length : Int) := by omega
            have k0 : (0 : Int) ≤ (k : Int) := by omega
            have k1 : (k : Int) < (c.length : Int) := by omega
            clear hg
            generalize c[q] = x at *
            by_cases hne : x = l
            · have hneb : (x != l) = false := by simp [hne]
              have HS := Lib.hid (HNO.out hne)
              clear HYES HNO hne
              go_upto_region 15 with fail
              go_quiet (fail)
              go_wp2_with fail
              exact ⟨⟨q + 1, by omega, by go_num, HXq.out.drewN _, by rw [HS.out]; exact HO.out.kept ((Ext.refl _).drewN _)⟩, by simp [intOf]; omega⟩
            · have hneb : (x != l) = true := by simp [hne]
              have HS := Lib.hid (HYES.out hne)
              clear HYES HNO hne
              go_upto_region 15 with fail
              go_quiet (fail)
              have HXy : Hid (Ext w7 (wr.drewN nq)) := HXq.out.drewN _
              have HOy : Hid (OwnInts (wr.drewN nq) w7.heap.size _ (without c l q)) := HO.out.kept ((Ext.refl _).drewN _)
              have hlw : w7.heap.size ≤ (wr.drewN nq).heap.size := HXy.out.size
              go_wp2_with (at_builtin; refine wpList_append_int rfl (.tmp 90) (.tmp 95) rfl w7.heap.size (wr.drewN nq) _ _ _ rfl rfl HOy.out (by have := HLN.out; have := HLC.out; omega) hlw ?_)
              intro v' w' hown' hg
              rw [← HS.out] at hown'
              have hx' : Ext w7 w' := HXy.out.grown hg (fun q hq => HOy.out.base q hq)
              have HO' := Lib.hid hown'; have HX' := Lib.hid hx'
              clear hown' hx' hg
              go_wp2_with fail
              exact ⟨⟨q + 1, by omega, by go_num, HX'.out, HO'.out⟩, by simp [intOf]; omega⟩
          · have hql : q = c.length := by omega
            subst hql
            clear hlq hq
            go_wp2_with fail
            go_loopw [14, 16] (fun v i wz => ∃ u : Nat, u ≤ d.length ∧ i = .int .i64 u ∧ Ext w7 wz ∧ OwnInts wz w7.heap.size v (without c l c.length ++ without d (-l) u)) (fun _ i _ => d.length - (intOf i).toNat)
            case atStart => exact ⟨0, Nat.zero_le _, rfl, HXq.out, by rw [show without d (-l) 0 = [] from rfl, List.append_nil]; exact HO.out⟩
            case round =>
              obtain ⟨u, hu, rfl, hX, hO2⟩ := hrel
              have HXz := Lib.hid hX; have HO2 := Lib.hid hO2; clear hX hO2
              have g6 := HXz.out.cell G7.out
              by_cases hlu : u < d.length
              · obtain ⟨b4, o4, h4, g4⟩ := ints_at (HD.out.ext (HX7.out.trans HXz.out)) u hlu
                subst h4
                have hg : d.getD u 0 = d[u] := by simp [List.getD, hlu]
                rw [hg] at g4
                have HYES := Lib.hid (without_yes (l := -l) hlu)
                have HNO := Lib.hid (without_no (l := -l) hlu)
                have HLN1 := Lib.hid (without_len c l c.length)
                have HLN2 := Lib.hid (without_len d (-l) u)
                have u0 : (0 : Int) ≤ (u : Int) := by omega
                have u1 : (u : Int) < (d.length : Int) := by omega
                have k0 : (0 : Int) ≤ (k : Int) := by omega
                have k1 : (k : Int) < (c.length : Int) := by omega
                clear hg
                generalize d[u] = x at *
                by_cases hne : x = -l
                · have hneb : (x != -l) = false := by simp [hne]
                  have HS := Lib.hid (HNO.out hne)
                  clear HYES HNO hne
                  go_upto_region 20 with fail
                  go_quiet (fail)
                  go_wp2_with fail
                  exact ⟨⟨u + 1, by omega, by go_num, HXz.out.drewN _, by rw [HS.out]; exact HO2.out.kept ((Ext.refl _).drewN _)⟩, by simp [intOf]; omega⟩
                · have hneb : (x != -l) = true := by simp [hne]
                  have HS := Lib.hid (HYES.out hne)
                  clear HYES HNO hne
                  go_upto_region 20 with fail
                  go_quiet (fail)
                  have HXy : Hid (Ext w7 (wr.drewN nq)) := HXz.out.drewN _
                  have HOy : Hid (OwnInts (wr.drewN nq) w7.heap.size _ (without c l c.length ++ without d (-l) u)) := HO2.out.kept ((Ext.refl _).drewN _)
                  have hlw : w7.heap.size ≤ (wr.drewN nq).heap.size := HXy.out.size
                  go_wp2_with (at_builtin; refine wpList_append_int rfl (.tmp 113) (.tmp 118) rfl w7.heap.size (wr.drewN nq) _ _ _ rfl rfl HOy.out (by have := HLN1.out; have := HLN2.out; have := HLC.out; have := HLD.out; rw [List.length_append]; omega) hlw ?_)
                  intro v' w' hown' hg
                  rw [← HS.out] at hown'
                  have hx' : Ext w7 w' := HXy.out.grown hg (fun q hq => HOy.out.base q hq)
                  have HO' := Lib.hid hown'; have HX' := Lib.hid hx'
                  clear hown' hx' hg
                  go_wp2_with fail
                  exact ⟨⟨u + 1, by omega, by go_num, HX'.out, HO'.out⟩, by simp [intOf]; omega⟩
              · have hul : u = d.length := by omega
                subst hul
                clear hlu hu
                have p0 := (HX7.out.trans HXz.out).cell P0.out
                cases t0 with
                | false =>
                  go_wp2_with fail
                  exact ⟨⟨k + 1, by omega, by go_num, HY7.out.trans HXz.out⟩, by simp [intOf]; omega⟩
                | true =>
                  obtain ⟨y1, y2, y3, rfl⟩ := HO2.out.isSl
                  have HOI := Lib.hid (HO2.out.ints)
                  go_wp2_with fail
                  refine (CEval_any vars [resOut c d l] vs _ _ _ ⟨_, rfl, lists_one HOI.out⟩ (HTR.out l) (SliceAt.ext BoolAt.keeps HV4.out ((HX7.out.trans HXz.out).alloc _))).mono ?_
                  rintro r w8 ⟨rfl, x8⟩
                  have HX8 := Lib.hid (((HY7.out.trans HXz.out).alloc _).trans x8)
                  clear x8 p0
                  rw [HRL.out (by trivial)]
                  go_wp2_with fail
                  exact ⟨⟨k + 1, by omega, by go_num, HX8.out⟩, by simp [intOf]; omega⟩
    · have hkl : k = c.length := by omega
      subst hkl
      go_wp2_with fail
      go_ret
      exact ⟨rfl, HX4.out.trans HXr.out⟩
end Go.Proofs.YtnkhaobokmmnjaaDoor
