/-
  The walk of the law ProofLiterals. (Printed by gen_lp5.py.)
-/
import Derived.Test.YteclcnbaaiidbaaDoorLp0
import Derived.Test.YteclcnbaaiidbaaDoorPj1
namespace Go.Proofs.YteclcnbaaiidbaaDoor
open Go.RowKit

def otherS (keep : Bool) (s : St) : St := ⟨if keep then s.lits.map (fun x => wrap64 (-x)) else [], s.hints⟩
def otherTo (keep : Bool) (l : List St) (k : Nat) : List St := (l.take k).map (otherS keep)
theorem otherTo_succ (keep : Bool) (l : List St) (k : Nat) (h : k < l.length) : otherTo keep l (k + 1) = otherTo keep l k ++ [otherS keep (l.getD k st0)] := by
  unfold otherTo; rw [List.take_succ_eq_append_getElem h, List.map_append]; simp [List.getD, h]
theorem otherTo_len (keep : Bool) (l : List St) (k : Nat) (h : k ≤ l.length) : (otherTo keep l k).length = k := by unfold otherTo; rw [List.length_map, List.length_take]; omega
theorem otherTo_all (keep : Bool) (l : List St) : otherTo keep l l.length = l.map (otherS keep) := by unfold otherTo; rw [List.take_length]
theorem other_getD (keep : Bool) (l : List St) (k : Nat) : (l.map (otherS keep)).getD k st0 = otherS keep (l.getD k st0) := by
  by_cases h : k < l.length
  · simp [List.getD, h]
  · have e : otherS keep st0 = st0 := by cases keep <;> rfl
    have h1 : l.getD k st0 = st0 := by rw [List.getD_eq_getElem?_getD, List.getElem?_eq_none (by omega)]; rfl
    have h2 : (l.map (otherS keep)).getD k st0 = st0 := by rw [List.getD_eq_getElem?_getD, List.getElem?_eq_none (by simp; omega)]; rfl
    rw [h1, h2, e]
theorem other_same (keep : Bool) (l : List St) : SameH l (l.map (otherS keep)) := ⟨by simp, fun k => by rw [other_getD]; rfl⟩
theorem wrap_neg {vars x : Int} (hv : InI vars) (h : absI x ≤ vars) : wrap64 (-x) = -x := by
  unfold absI at h; unfold InI at hv; unfold wrap64; split at h <;> omega
theorem lits_other {keep : Bool} {vars : Int} {l : List Int} (hv : InI vars) (h : litsOk vars l = true) : litsOk vars (if keep then l.map (fun x => wrap64 (-x)) else []) = true := by
  cases keep with
  | false => rfl
  | true =>
    have hl : ∀ x ∈ l, 1 ≤ absI x ∧ absI x ≤ vars := fun x hx => by
      unfold litsOk at h
      rw [Bool.and_eq_true, List.all_eq_true] at h
      have := h.1 x hx
      simpa using this
    have hn : ∀ x, absI (-x) = absI x := fun x => by unfold absI; split <;> split <;> omega
    have e : l.map (fun x => wrap64 (-x)) = l.map (fun x => -x) := List.map_congr_left fun x hx => wrap_neg hv (hl x hx).2
    have e2 : (l.map (fun x => -x)).map absI = l.map absI := by rw [List.map_map]; exact List.map_congr_left fun x _ => hn x
    have hnd : (l.map absI).Nodup := by
      unfold litsOk at h
      rw [Bool.and_eq_true] at h
      exact of_decide_eq_true h.2
    show litsOk vars (l.map (fun x => wrap64 (-x))) = true
    unfold litsOk
    rw [e, e2, Bool.and_eq_true, List.all_eq_true]
    refine ⟨fun y hy => ?_, decide_eq_true hnd⟩
    obtain ⟨x, hx, rfl⟩ := List.mem_map.1 hy
    rw [hn]
    have := hl x hx
    simp [this.1, this.2]
theorem valid_other {keep : Bool} {vars : Int} {n : Nat} {l : List St} (hi : InI vars) (h : validP vars n l = true) : validP vars n (l.map (otherS keep)) = true := by
  have hv := valid_iff.1 h
  refine valid_iff.2 ⟨by rw [List.length_map]; exact hv.len, fun k hk => ?_, fun k hk => ?_⟩
  · rw [List.length_map] at hk
    rw [other_getD]; exact lits_other hi (hv.lits k hk)
  · rw [List.length_map] at hk
    rw [other_getD]; exact hv.hints k hk
theorem small_other {keep : Bool} {cl : List (List Int)} {l : List St} (h : SmallI cl l) : SmallI cl (l.map (otherS keep)) :=
  ⟨h.clen, by rw [List.length_map]; exact h.len, h.cls, fun s hs => by
    obtain ⟨t, ht, rfl⟩ := List.mem_map.1 hs
    have := h.lits t ht
    cases keep
    · exact Nat.zero_le _
    · show (t.lits.map _).length ≤ 24; rw [List.length_map]; exact this, fun s hs => by
    obtain ⟨t, ht, rfl⟩ := List.mem_map.1 hs
    exact h.hints t ht⟩
theorem wrap_in (x : Int) : InI (wrap64 x) := by unfold InI wrap64; omega
theorem Inp.other {keep : Bool} {vars : Int} {l : List St} (h : Inp vars l) : Inp vars (l.map (otherS keep)) := ⟨h.vars, fun s hs => by
  obtain ⟨t, ht, rfl⟩ := List.mem_map.1 hs
  cases keep
  · intro x hx; cases hx
  · intro x hx
    have hx : x ∈ t.lits.map (fun x => wrap64 (-x)) := hx
    obtain ⟨y, _, rfl⟩ := List.mem_map.1 hx
    exact wrap_in _⟩
theorem OwnSteps.empty (w : World) (base : Nat) (hb : base ≤ w.heap.size) : OwnSteps (w.alloc (.cells #[] 35)) base (.slice (some ⟨w.heap.size, 0, none⟩) 0 0) [] :=
  ⟨[], ⟨rfl, .inr ⟨w.heap.size, 0, #[], rfl, hb, heap_new _ _, by simp, by simp, by simp, by simp [flatV]⟩⟩, trivial⟩
theorem neg_all (lits : List Int) : negTo lits lits.length = lits.map (fun x => wrap64 (-x)) := by unfold negTo; rw [List.take_length]
set_option maxRecDepth 100000 in
set_option maxHeartbeats 8000000 in
theorem ProofLiterals_any (vars : Int) (cl : List (List Int)) (l : List St) (keep : Bool) (vf vl : Value) (w : World) (hf : CnfV w vf vars cl) (hl : Steps w vl l) (hi : Inp vars l) (hT : PTab w) :
    Calls Tryd.prog 7 #[vf, vl, .bool keep] w fun r w' => r = .returned (.bool true) ∧ Ext w w' := by
  obtain ⟨fa, fc, rfl, hcl⟩ := hf.shape
  obtain ⟨la, lc, rfl⟩ := SliceAt.shape hl
  obtain ⟨W, hW⟩ : ∃ W, W = w.alloc (.cells #[.int .i64 vars, .slice fa cl.length fc] 27) := ⟨_, rfl⟩
  have hx : Ext w W := by rw [hW]; exact (Ext.refl w).alloc _
  have hB : W.heap[w.heap.size]? = some (.cells #[.int .i64 vars, .slice fa cl.length fc] 27 (0, 0)) := by rw [hW]; exact heap_new _ _
  have HX := Lib.hid hx; have HB := Lib.hid hB; have HW := Lib.hid hW; have HF := Lib.hid (hf.ext hx); have HL := Lib.hid (hl.ext hx); have HI := Lib.hid hi; have HT := Lib.hid (hT.ext hx)
  clear hf hl hcl hx hB hW hi hT
  go_enter Tryd.func7, Tryd.ntmps7
  go_upto_region 1 with fail
  rw [← HW.out]
  clear HW
  generalize w.heap.size = b0 at *
  go_wp2_with fail
  refine (head_any W HT.out).mono ?_
  rintro r w1 ⟨rfl, x1⟩
  have X1 := Lib.hid x1
  have g0 : w1.cell? ⟨b0, 0, none⟩ = some (.int .i64 vars) := by rw [Lib.cell_of_heap ((x1.block _ (lt_heap HB.out)).trans HB.out)]; rfl
  have g1 : w1.cell? ⟨b0, 1, none⟩ = some (.slice fa cl.length fc) := by rw [Lib.cell_of_heap ((x1.block _ (lt_heap HB.out)).trans HB.out)]; rfl
  clear x1
  go_wp2_with fail
  refine (PSmall_any vars cl l _ _ w1 (HF.out.ext X1.out) (HL.out.ext X1.out)).mono ?_
  rintro r w2 ⟨rfl, x2⟩
  have X2 := Lib.hid (X1.out.trans x2)
  replace g0 := x2.cell g0; replace g1 := x2.cell g1
  clear x2
  cases hs : smallP cl l with
  | false =>
    go_wp2_with fail
    go_ret
    exact ⟨rfl, HX.out.trans X2.out⟩
  | true =>
    have HS := Lib.hid (small_iff hs).1
    go_wp2_with fail
    refine (PValid_any vars cl l _ _ w2 (HF.out.ext X2.out) (HL.out.ext X2.out) (HS.out.tame HI.out)).mono ?_
    rintro r w3 ⟨rfl, x3⟩
    have X3 := Lib.hid (X2.out.trans x3)
    replace g0 := x3.cell g0; replace g1 := x3.cell g1
    clear x3
    cases hv : validP vars cl.length l with
    | false =>
      go_wp2_with fail
      go_ret
      exact ⟨rfl, HX.out.trans X3.out⟩
    | true =>
      have HV := Lib.hid hv
      have HLN := Lib.hid HS.out.len
      have HO0 : Hid (OwnSteps (w3.alloc (.cells #[] 35)) w3.heap.size (.slice (some ⟨w3.heap.size, 0, none⟩) 0 0) (otherTo keep l 0)) := OwnSteps.empty _ _ (Nat.le_refl _)
      have HX0 : Hid (Ext w3 (w3.alloc (.cells #[] 35))) := (Ext.refl _).alloc _
      have G0 := Lib.hid g0; have G1 := Lib.hid g1
      clear hs hv g0 g1
      go_wp2_with fail
      go_loopw [8, 9] (fun v p wr => ∃ k : Nat, k ≤ l.length ∧ p = .int .i64 k ∧ Ext w3 wr ∧ OwnSteps wr w3.heap.size v (otherTo keep l k)) (fun _ p _ => l.length - (intOf p).toNat)
      case atStart => exact ⟨0, Nat.zero_le _, rfl, HX0.out, HO0.out⟩
      case round =>
        obtain ⟨k, hk, rfl, hXr, hOr⟩ := hrel
        have HXr := Lib.hid hXr; have HOr := Lib.hid hOr; clear hXr hOr
        by_cases hlt : k < l.length
        · obtain ⟨lb, lo, a5, c5, a6, c6, hla, d0, d1, i1, i2⟩ := ((HL.out.ext X3.out).ext HXr.out).getD_at hlt
          subst hla
          have hmem := getD_mem hlt
          have HHL : Hid ((l.getD k st0).lits.length ≤ 24) := HS.out.lits _ hmem
          have HHH : Hid ((l.getD k st0).hints.length ≤ 24) := HS.out.hints _ hmem
          have HSU := Lib.hid (otherTo_succ keep l k hlt)
          have HOS : Hid (otherS keep (l.getD k st0) = ⟨if keep then (l.getD k st0).lits.map (fun x => wrap64 (-x)) else [], (l.getD k st0).hints⟩) := rfl
          have HTL := Lib.hid (otherTo_len keep l k hk)
          have I1 := Lib.hid i1; have I2 := Lib.hid i2
          have k0 : (0 : Int) ≤ (k : Int) := by omega
          have k1 : (k : Int) < (l.length : Int) := by omega
          have lb1 := SliceAt.len_le i1
          clear i1 i2 hmem
          generalize otherS keep (l.getD k st0) = os at *
          generalize (l.getD k st0).lits = lits at *
          generalize (l.getD k st0).hints = hints at *
          obtain ⟨va8, vc8, rfl⟩ := SliceAt.shape HOr.out.steps
          have hal : ∀ o : Obj, (wr.alloc o).cell? ⟨lb, lo + k * 2 + 1, none⟩ = some (.slice a6 hints.length c6) := fun o => ((Ext.refl wr).alloc o).cell d1
          go_wp2_with (at_builtin; refine wpList_append_list rfl (.tmp 36) (.tmp 41) rfl wr.heap.size _ _ [] hints rfl rfl (OwnInts.empty wr _ (Nat.le_refl _)) (I2.out.ext ((Ext.refl wr).alloc _)) (by have := HHH.out; simp; omega) (by simp) ?_)
          intro vh Wb how hgw
          have xb : Ext wr Wb := ((Ext.refl wr).alloc _).grown hgw (fun q hq => by cases hq; exact Nat.le_refl _)
          obtain ⟨vha, vhc, rfl⟩ := how.ints.shape
          have HWH := Lib.hid how; have HXB := Lib.hid xb
          replace d0 := xb.cell d0
          have HOB := Lib.hid (HOr.out.kept xb); have HXW := Lib.hid (HXr.out.trans xb)
          clear how hgw xb hal d1
          go_upto_region 9 with fail
          obtain ⟨b10, hb10⟩ : ∃ b, Wb.heap.size = b := ⟨_, rfl⟩
          obtain ⟨W4, hW4⟩ : ∃ W4, W4 = Wb.alloc (.cells #[.slice none 0 0, .slice vha hints.length vhc] 35) := ⟨_, rfl⟩
          have x4 : Ext Wb W4 := by rw [hW4]; exact (Ext.refl _).alloc _
          have hB10 : W4.heap[b10]? = some (.cells #[.slice none 0 0, .slice vha hints.length vhc] 35 (0, 0)) := by rw [hW4, ← hb10]; exact heap_new _ _
          have HB10 := Lib.hid hb10; have X4 := Lib.hid x4; have BK := Lib.hid hB10
          rw [← hW4, hb10]
          clear x4 hB10 hb10 hW4
          go_wp2_with fail
          go_loopw [11] (fun p wr => ∃ (j : Nat) (v1 : Value), j ≤ lits.length ∧ p = .int .i64 j ∧ (keep = false → j = 0) ∧ Ext Wb wr ∧ wr.heap[b10]? = some (.cells #[v1, .slice vha hints.length vhc] 35 (0, 0)) ∧ OwnInts wr (b10 + 1) v1 (negTo lits j)) (fun p _ => lits.length - (intOf p).toNat)
          case atStart => exact ⟨0, _, Nat.zero_le _, rfl, fun _ => rfl, X4.out, BK.out, OwnInts.nil _ _⟩
          case round =>
            obtain ⟨j, v1, hj, rfl, hkj, hXj, hB5, hO5⟩ := hrel
            have HXj := Lib.hid hXj; have HB5 := Lib.hid hB5; have HO5 := Lib.hid hO5; have HKJ := Lib.hid hkj
            clear hXj hB5 hO5 hkj
            have e0 := HXj.out.cell d0
            obtain ⟨va, vc, rfl⟩ := HO5.out.ints.shape
            cases keep with
            | false =>
              obtain rfl : j = 0 := HKJ.out rfl
              have HOSL : Hid (os.lits = negTo lits 0) := by unfold Hid; rw [HOS.out]; rfl
              have HOSH : Hid (os.hints = hints) := by unfold Hid; rw [HOS.out]
              clear e0
              have e0 := HXj.out.cell d0
              by_cases hz : 0 < lits.length
              · have hz' : (0 : Int) < (lits.length : Int) := by omega
                have h1 : wr.cell? ⟨b10, 0, none⟩ = some (.slice va (negTo lits 0).length vc) := by rw [Lib.cell_of_heap HB5.out]; rfl
                have h2 : wr.cell? ⟨b10, 1, none⟩ = some (.slice vha hints.length vhc) := by rw [Lib.cell_of_heap HB5.out]; rfl
                have HWX : Hid (w3.heap.size ≤ Wb.heap.size) := HXW.out.size
                have HQ1 : Hid (OwnInts wr w3.heap.size (.slice va (negTo lits 0).length vc) os.lits) := by
                  unfold Hid; rw [HOSL.out]; exact HO5.out.mono (by have h1 := HWX.out; have h2 := HB10.out; omega)
                have HQ2 : Hid (OwnInts wr w3.heap.size (.slice vha hints.length vhc) os.hints) := by
                  unfold Hid; rw [HOSH.out]; exact (HWH.out.kept HXj.out).mono HXr.out.size
                have HO7 := Lib.hid (HOB.out.kept HXj.out)
                have HXE := Lib.hid (HXW.out.trans HXj.out)
                have hol : (otherTo false l k).length ≤ 1000000 := by rw [HTL.out]; have := HLN.out; omega
                have HLNx := HLN.out
                generalize (negTo lits 0).length = n1 at *
                go_upto_region 13 with fail
                go_wp2_with (at_builtin; refine wpList_append_step rfl (.tmp 71) (.tmp 73) rfl w3.heap.size wr _ (otherTo false l k) _ _ os rfl rfl HO7.out HQ1.out HQ2.out hol HXE.out.size ?_)
                intro v' w5 ho hg
                have HO8 := Lib.hid ho
                have HX8 := Lib.hid (HXE.out.grown hg fun q hq => (HO7.out.typed q hq).1)
                clear ho hg
                go_wp2_with fail
                exact ⟨⟨k + 1, by omega, by go_num, HX8.out, by rw [HSU.out]; exact HO8.out⟩, by simp [intOf]; omega⟩
              · have hz' : ¬ (0 : Int) < (lits.length : Int) := by omega
                have h1 : wr.cell? ⟨b10, 0, none⟩ = some (.slice va (negTo lits 0).length vc) := by rw [Lib.cell_of_heap HB5.out]; rfl
                have h2 : wr.cell? ⟨b10, 1, none⟩ = some (.slice vha hints.length vhc) := by rw [Lib.cell_of_heap HB5.out]; rfl
                have HWX : Hid (w3.heap.size ≤ Wb.heap.size) := HXW.out.size
                have HQ1 : Hid (OwnInts wr w3.heap.size (.slice va (negTo lits 0).length vc) os.lits) := by
                  unfold Hid; rw [HOSL.out]; exact HO5.out.mono (by have h1 := HWX.out; have h2 := HB10.out; omega)
                have HQ2 : Hid (OwnInts wr w3.heap.size (.slice vha hints.length vhc) os.hints) := by
                  unfold Hid; rw [HOSH.out]; exact (HWH.out.kept HXj.out).mono HXr.out.size
                have HO7 := Lib.hid (HOB.out.kept HXj.out)
                have HXE := Lib.hid (HXW.out.trans HXj.out)
                have hol : (otherTo false l k).length ≤ 1000000 := by rw [HTL.out]; have := HLN.out; omega
                have HLNx := HLN.out
                generalize (negTo lits 0).length = n1 at *
                go_upto_region 13 with fail
                go_wp2_with (at_builtin; refine wpList_append_step rfl (.tmp 71) (.tmp 73) rfl w3.heap.size wr _ (otherTo false l k) _ _ os rfl rfl HO7.out HQ1.out HQ2.out hol HXE.out.size ?_)
                intro v' w5 ho hg
                have HO8 := Lib.hid ho
                have HX8 := Lib.hid (HXE.out.grown hg fun q hq => (HO7.out.typed q hq).1)
                clear ho hg
                go_wp2_with fail
                exact ⟨⟨k + 1, by omega, by go_num, HX8.out, by rw [HSU.out]; exact HO8.out⟩, by simp [intOf]; omega⟩
            | true =>
              by_cases hlj : j < lits.length
              · have hjl := HHL.out
                have hI3 : Ints Wb (.slice a5 lits.length c5) lits := I1.out.ext HXB.out
                have ew := HXj.out.cell d0
                obtain ⟨bh, oh, rfl, ch⟩ := ints_at hI3 j hlj
                have hgd : lits.getD j 0 = lits[j] := by simp [List.getD, hlj]
                rw [hgd] at ch
                have HNG : Hid (negTo lits (j + 1) = negTo lits j ++ [wrap64 (-(lits[j]))]) := negTo_succ lits hlj
                have hl5 : (negTo lits j).length ≤ 1000000000 := by rw [negTo_len lits hj]; omega
                have HSZ : Hid (b10 + 1 ≤ wr.heap.size) := lt_heap HB5.out
                have j0 : (0 : Int) ≤ (j : Int) := by omega
                have j1 : (j : Int) < (lits.length : Int) := by omega
                clear hI3 hgd
                generalize lits[j] = x at *
                generalize hyy : wrap64 (-x) = y at *
                have hyw : IntKind.i64.wrap (-x) = y := by rw [← hyy, IntKind.wrap_i64]; unfold wrap64; omega
                go_upto_region 12 with fail
                refine wp_normal2 ?_
                refine wp_region_held (S := fun w' => Ext Wb w') (by kernel_rfl) ?_
                generalize hv0 : ({ wr with drawn := wr.drawn + 1 } : World) = v0
                have E0 : Hid (Ext wr v0) := by unfold Hid; rw [← hv0]; exact (Ext.refl wr).drew
                have hv0s : v0.heap.size = wr.heap.size := by rw [← hv0]
                have hb0 : v0.heap[b10]? = some (.cells #[.slice va (negTo lits j).length vc, .slice vha hints.length vhc] 35 (0, 0)) := by rw [← hv0]; exact HB5.out
                have g0 : v0.cell? ⟨b10, 0, none⟩ = some (.slice va (negTo lits j).length vc) := by rw [Lib.cell_of_heap hb0]; rfl
                have HXV : Hid (Ext Wb v0) := HXj.out.trans E0.out
                have HB0 := Lib.hid hb0; have HV0 := Lib.hid (HO5.out.kept E0.out); have HVS := Lib.hid hv0s
                have HAPP : Hid (∀ g cap w1, OwnInts w1 (b10 + 1) (.slice (some ⟨g, 0, none⟩) ((negTo lits j).length + 1) cap) (negTo lits j ++ [y]) → v0.grownBy w1 (Value.slice va (negTo lits j).length vc).ownBlock → w1.heap[b10]? = some (.cells #[.slice va (negTo lits j).length vc, .slice vha hints.length vhc] 35 (0, 0)) ∧ Ext Wb (w1.setCell ⟨b10, 0, none⟩ (.slice (some ⟨g, 0, none⟩) ((negTo lits j).length + 1) cap)) ∧ OwnInts (w1.setCell ⟨b10, 0, none⟩ (.slice (some ⟨g, 0, none⟩) ((negTo lits j).length + 1) cap)) (b10 + 1) (.slice (some ⟨g, 0, none⟩) ((negTo lits j).length + 1) cap) (negTo lits (j + 1)) ∧ (w1.setCell ⟨b10, 0, none⟩ (.slice (some ⟨g, 0, none⟩) ((negTo lits j).length + 1) cap)).heap[b10]? = some (.cells #[.slice (some ⟨g, 0, none⟩) ((negTo lits j).length + 1) cap, .slice vha hints.length vhc] 35 (0, 0)) ∧ Ext Wb w1) := fun g cap w1 ho hg => by
                  have hbb := HB10.out
                  have hb8 := (hg.block b10 (by have := HSZ.out; have := HVS.out; show b10 < v0.heap.size; omega) (fun e => by have := HO5.out.base b10 e.symm; omega)).trans HB0.out
                  have hxw := (HXj.out.trans E0.out).grown hg (fun q hq => by have := HO5.out.base q hq; omega)
                  refine ⟨hb8, hxw.setCell (p := ⟨b10, 0, none⟩) (by show Wb.heap.size ≤ b10; omega) _, ?_, (by have := heap_setCell_same w1 b10 0 _ _ (.slice (some ⟨g, 0, none⟩) ((negTo lits j).length + 1) cap) hb8; simpa using this), hxw⟩
                  rw [HNG.out]; exact ho.keep fun q hq => heap_setCell_other _ _ _ _ (by have := ho.base q hq; show q ≠ b10; omega)
                clear hv0 hb0 hv0s HX HF HI HT HB X1 X2 HV G0 G1 HO0 HX0 HL HHH HOS HTL I1 I2 X4 BK HWH HOB HXW HXr HOr HSU
                refine wpAnyH_take (i := 0) (v := .pointer (some ⟨b10, 0, none⟩)) rfl (by kernel_rfl) (by kernel_rfl) (by kernel_rfl) (fun _ _ _ h => h) (.inl ⟨rfl, fun w' hx' => by go_simp⟩) HXV.out ?_
                refine wpAnyH_take (i := 2) (v := .slice (some ⟨lb, lo, none⟩) l.length lc) rfl (by kernel_rfl) (by kernel_rfl) (by kernel_rfl) (fun _ _ _ h => h) (.inl ⟨rfl, fun w' hx' => by go_simp⟩) HXV.out ?_
                refine wpAnyH_take (i := 3) (v := .int .i64 (k : Int)) rfl (by kernel_rfl) (by kernel_rfl) (by kernel_rfl) (fun _ _ _ h => h) (.inl ⟨rfl, fun w' hx' => by go_simp⟩) HXV.out ?_
                refine wpAnyH_take (i := 4) (v := .pointer (some ⟨lb, lo + k * 2, none⟩)) rfl (by kernel_rfl) (by kernel_rfl) (by kernel_rfl) (fun _ _ _ h => h) (.inl ⟨rfl, fun w' hx' => by go_simp⟩) HXV.out ?_
                refine wpAnyH_take (i := 5) (v := .pointer (some ⟨lb, lo + k * 2, none⟩)) rfl (by kernel_rfl) (by kernel_rfl) (by kernel_rfl) (fun _ _ _ h => h) (.inl ⟨rfl, fun w' hx' => by go_simp⟩) HXV.out ?_
                refine wpAnyH_take (i := 6) (v := .slice (some ⟨bh, oh, none⟩) lits.length c5) rfl (by kernel_rfl) (by kernel_rfl) (by kernel_rfl) (fun _ _ _ h => h) (.inl ⟨rfl, fun w' hx' => by have c0 := hx'.cell d0; go_simp⟩) HXV.out ?_
                refine wpAnyH_take (i := 7) (v := .int .i64 (j : Int)) rfl (by kernel_rfl) (by kernel_rfl) (by kernel_rfl) (fun _ _ _ h => h) (.inl ⟨rfl, fun w' hx' => by go_simp⟩) HXV.out ?_
                refine wpAnyH_take (i := 8) (v := .pointer (some ⟨bh, oh + j, none⟩)) rfl (by kernel_rfl) (by kernel_rfl) (by kernel_rfl) (fun _ _ _ h => h) (.inl ⟨rfl, fun w' hx' => by go_simp⟩) HXV.out ?_
                refine wpAnyH_take (i := 9) (v := .int .i64 x) rfl (by kernel_rfl) (by kernel_rfl) (by kernel_rfl) (fun _ _ _ h => h) (.inl ⟨rfl, fun w' hx' => by have c0 := hx'.cell ch; go_simp⟩) HXV.out ?_
                refine wpAnyH_take (i := 10) (v := .int .i64 y) rfl (by kernel_rfl) (by kernel_rfl) (by kernel_rfl) (fun _ _ _ h => h) (.inl ⟨rfl, fun w' hx' => by go_simp⟩) HXV.out ?_
                refine wpAnyH_all (rs := [1, 11]) (by kernel_rfl) (by simp) ?_
                intro i hi
                have hi' : i = 1 ∨ i = 11 := by simpa using hi
                clear hi
                rcases hi' with rfl | rfl
                · unfold wpOp
                  go_simp
                  refine .inl ⟨HXV.out, ?_⟩
                  refine wpAnyH_all (rs := [11]) (by kernel_rfl) (by simp) ?_
                  intro i hi
                  obtain rfl : i = 11 := by simpa using hi
                  clear hi
                  unfold wpOp
                  go_simp
                  refine .inl ⟨HXV.out.alloc _, ?_⟩
                  refine wpAnyH_all (rs := [12]) (by kernel_rfl) (by simp) ?_
                  intro i hi
                  obtain rfl : i = 12 := by simpa using hi
                  clear hi
                  refine wpOp_step rfl ?_
                  intro KK hKK
                  refine step_append_int rfl (.tmp 58) (.tmp 68) rfl (b10 + 1) v0 v0.heap.size rfl _ (negTo lits j) y rfl rfl HV0.out hl5 (by have := HSZ.out; have := HVS.out; omega) ?_
                  intro g cap w1 ho hg
                  obtain ⟨hb7, z1, z2, z3, z4⟩ := HAPP.out g cap w1 ho hg
                  refine hKK _ _ ⟨z4, ?_⟩
                  have hk1 : w1.cell? ⟨b10, 0, none⟩ = some (.slice va (negTo lits j).length vc) := by rw [Lib.cell_of_heap hb7]; rfl
                  have fz : w1.frozen? ⟨b10, 0, none⟩ = false := Lib.frozen_of_heap hb7 0
                  have Z1 := Lib.hid z1; have Z2 := Lib.hid z2; have Z3 := Lib.hid z3; have Z4 := Lib.hid z4
                  clear ho hg hb7 z1 z2 z3 z4
                  refine wpAnyH_take (i := 13) (v := .pointer (some ⟨b10, 0, none⟩)) rfl (by kernel_rfl) (by kernel_rfl) (by kernel_rfl) (fun _ _ _ h => h) (.inl ⟨rfl, fun w' hx' => by go_simp⟩) Z4.out ?_
                  refine wpAnyH_all (rs := [14]) (by kernel_rfl) (by simp) ?_
                  intro i hi
                  obtain rfl : i = 14 := by simpa using hi
                  clear hi
                  unfold wpOp
                  go_simp
                  refine .inl ⟨Z1.out, ?_⟩
                  refine wpAnyH_done (by kernel_rfl) ?_ _
                  unfold onlyNormal
                  go_wp2_with fail
                  refine ⟨⟨j + 1, _, by omega, by go_num, (fun e => by cases e), Z1.out, Z3.out, Z2.out⟩, ?_⟩
                  have hjl := HHL.out
                  simp [intOf]; omega
                · unfold wpOp
                  go_simp
                  refine .inl ⟨HXV.out.alloc _, ?_⟩
                  have g2 : (v0.alloc (.cells #[.int .i64 y] 3)).cell? ⟨b10, 0, none⟩ = some (.slice va (negTo lits j).length vc) := ((Ext.refl v0).alloc _).cell g0
                  refine wpAnyH_all (rs := [1]) (by kernel_rfl) (by simp) ?_
                  intro i hi
                  obtain rfl : i = 1 := by simpa using hi
                  clear hi
                  unfold wpOp
                  go_simp
                  refine .inl ⟨HXV.out.alloc _, ?_⟩
                  refine wpAnyH_all (rs := [12]) (by kernel_rfl) (by simp) ?_
                  intro i hi
                  obtain rfl : i = 12 := by simpa using hi
                  clear hi
                  refine wpOp_step rfl ?_
                  intro KK hKK
                  refine step_append_int rfl (.tmp 58) (.tmp 68) rfl (b10 + 1) v0 v0.heap.size rfl _ (negTo lits j) y rfl rfl HV0.out hl5 (by have := HSZ.out; have := HVS.out; omega) ?_
                  intro g cap w1 ho hg
                  obtain ⟨hb7, z1, z2, z3, z4⟩ := HAPP.out g cap w1 ho hg
                  refine hKK _ _ ⟨z4, ?_⟩
                  have hk1 : w1.cell? ⟨b10, 0, none⟩ = some (.slice va (negTo lits j).length vc) := by rw [Lib.cell_of_heap hb7]; rfl
                  have fz : w1.frozen? ⟨b10, 0, none⟩ = false := Lib.frozen_of_heap hb7 0
                  have Z1 := Lib.hid z1; have Z2 := Lib.hid z2; have Z3 := Lib.hid z3; have Z4 := Lib.hid z4
                  clear ho hg hb7 z1 z2 z3 z4
                  refine wpAnyH_take (i := 13) (v := .pointer (some ⟨b10, 0, none⟩)) rfl (by kernel_rfl) (by kernel_rfl) (by kernel_rfl) (fun _ _ _ h => h) (.inl ⟨rfl, fun w' hx' => by go_simp⟩) Z4.out ?_
                  refine wpAnyH_all (rs := [14]) (by kernel_rfl) (by simp) ?_
                  intro i hi
                  obtain rfl : i = 14 := by simpa using hi
                  clear hi
                  unfold wpOp
                  go_simp
                  refine .inl ⟨Z1.out, ?_⟩
                  refine wpAnyH_done (by kernel_rfl) ?_ _
                  unfold onlyNormal
                  go_wp2_with fail
                  refine ⟨⟨j + 1, _, by omega, by go_num, (fun e => by cases e), Z1.out, Z3.out, Z2.out⟩, ?_⟩
                  have hjl := HHL.out
                  simp [intOf]; omega
              · obtain rfl : j = lits.length := by omega
                have HOSL : Hid (os.lits = negTo lits lits.length) := by unfold Hid; rw [HOS.out, neg_all]; rfl
                have HOSH : Hid (os.hints = hints) := by unfold Hid; rw [HOS.out]
                have h1 : wr.cell? ⟨b10, 0, none⟩ = some (.slice va (negTo lits lits.length).length vc) := by rw [Lib.cell_of_heap HB5.out]; rfl
                have h2 : wr.cell? ⟨b10, 1, none⟩ = some (.slice vha hints.length vhc) := by rw [Lib.cell_of_heap HB5.out]; rfl
                have HWX : Hid (w3.heap.size ≤ Wb.heap.size) := HXW.out.size
                have HQ1 : Hid (OwnInts wr w3.heap.size (.slice va (negTo lits lits.length).length vc) os.lits) := by
                  unfold Hid; rw [HOSL.out]; exact HO5.out.mono (by have h1 := HWX.out; have h2 := HB10.out; omega)
                have HQ2 : Hid (OwnInts wr w3.heap.size (.slice vha hints.length vhc) os.hints) := by
                  unfold Hid; rw [HOSH.out]; exact (HWH.out.kept HXj.out).mono HXr.out.size
                have HO7 := Lib.hid (HOB.out.kept HXj.out)
                have HXE := Lib.hid (HXW.out.trans HXj.out)
                have hol : (otherTo true l k).length ≤ 1000000 := by rw [HTL.out]; have := HLN.out; omega
                have HLNx := HLN.out
                generalize (negTo lits lits.length).length = n1 at *
                go_upto_region 13 with fail
                go_wp2_with (at_builtin; refine wpList_append_step rfl (.tmp 71) (.tmp 73) rfl w3.heap.size wr _ (otherTo true l k) _ _ os rfl rfl HO7.out HQ1.out HQ2.out hol HXE.out.size ?_)
                intro v' w5 ho hg
                have HO8 := Lib.hid ho
                have HX8 := Lib.hid (HXE.out.grown hg fun q hq => (HO7.out.typed q hq).1)
                clear ho hg
                go_wp2_with fail
                exact ⟨⟨k + 1, by omega, by go_num, HX8.out, by rw [HSU.out]; exact HO8.out⟩, by simp [intOf]; omega⟩
        · obtain rfl : k = l.length := by omega
          rw [otherTo_all] at HOr
          have HXA := Lib.hid (X3.out.trans HXr.out)
          have HOV : Hid (validP vars cl.length (l.map (otherS keep)) = true) := valid_other HI.out.vars HV.out
          have HOS : Hid (SmallI cl (l.map (otherS keep))) := small_other HS.out
          have HOI : Hid (Inp vars (l.map (otherS keep))) := HI.out.other
          have HSH := Lib.hid (SameH.trim (n := cl.length) (other_same keep l))
          have HSL : Hid (keep = true → (trimL cl.length l).map (fun s => s.lits.length) = (trimL cl.length (l.map (otherS keep))).map (fun s => s.lits.length)) := fun hk => SameH.lits (other_same keep l) fun k => by rw [other_getD, hk]; show _ = ((l.getD k st0).lits.map _).length; rw [List.length_map]
          have HST := Lib.hid HOr.out.steps
          obtain ⟨ua, uc, rfl⟩ := SliceAt.shape HOr.out.steps
          have HAL : Hid ((trimL cl.length l).length ≤ 61) := Nat.le_trans (trim_le _ _) HS.out.len
          generalize l.map (otherS keep) = O at *
          have g0 := HXr.out.cell G0.out; have g1 := HXr.out.cell G1.out
          clear HO0 HX0
          go_wp2_with fail
          refine (Trim_ok (HF.out.ext HXA.out) (HL.out.ext HXA.out) (HS.out.tame HI.out) HV.out).mono ?_
          rintro r w5 ⟨aa, ac, rfl, hta, x5⟩
          have X5 := Lib.hid (HXA.out.trans x5); have TA := Lib.hid hta; have ST5 := Lib.hid (HST.out.ext x5)
          replace g0 := x5.cell g0; replace g1 := x5.cell g1
          clear x5 hta
          go_wp2_with fail
          refine (Trim_ok (HF.out.ext X5.out) ST5.out (HOS.out.tame HOI.out) HOV.out).mono ?_
          rintro r w6 ⟨ba, bc, rfl, htb, x6⟩
          have X6 := Lib.hid (X5.out.trans x6); have TB := Lib.hid htb; have TA6 := Lib.hid (TA.out.ext x6)
          clear x6 htb g0 g1
          generalize trimL cl.length l = P at *
          generalize trimL cl.length O = R at *
          have hpr : ((P.length : Int) != (R.length : Int)) = false := by rw [HSH.out.2]; simp
          have HPR := Lib.hid HSH.out.2
          go_wp2_with fail
          clear hpr
          go_loopw [16] (fun p wr => ∃ i : Nat, i ≤ P.length ∧ p = .int .i64 i ∧ Ext w6 wr) (fun p _ => P.length - (intOf p).toNat)
          case atStart => exact ⟨0, Nat.zero_le _, rfl, Ext.refl _⟩
          case round =>
            obtain ⟨i, hi, rfl, hXi⟩ := hrel
            have HXi := Lib.hid hXi; clear hXi
            by_cases hli : i < P.length
            · have hlr : i < R.length := by have := HPR.out; omega
              obtain ⟨pb, po, a5, c5, a6, c6, hpa, d0, d1, i1, i2⟩ := (TA6.out.ext HXi.out).getD_at hli
              obtain ⟨rb, ro, a7, c7, a8, c8, hra, d2, d3, i3, i4⟩ := (TB.out.ext HXi.out).getD_at hlr
              cases hpa; cases hra
              have hhe : (P.getD i st0).hints = (R.getD i st0).hints := by
                have := congrArg (fun x => x[i]?) HSH.out.1
                simpa [List.getD, hli, hlr] using this
              have hle : keep = true → (P.getD i st0).lits.length = (R.getD i st0).lits.length := fun hk => by
                have := congrArg (fun x => x[i]?) (HSL.out hk)
                simpa [List.getD, hli, hlr] using this
              have i0 : (0 : Int) ≤ (i : Int) := by omega
              have ip : (i : Int) < (P.length : Int) := by omega
              have ir : (i : Int) < (R.length : Int) := by omega
              rw [← hhe] at d3 i4
              have HC1 : Hid (∀ q : Nat, Calls Tryd.prog 16 #[.slice a6 (P.getD i st0).hints.length c6, .slice a8 (P.getD i st0).hints.length c8] (wr.drewN q) fun e w' => e = .returned (.bool true) ∧ ∃ u, w' = wr.drewN u) := fun q => by
                have := Calls.quiet_of (RInts_q (P.getD i st0).hints (P.getD i st0).hints _ _ _ (i2.ext ((Ext.refl wr).drewN q)) (i4.ext ((Ext.refl wr).drewN q)))
                rw [decide_eq_true rfl] at this
                exact this
              have HAX := HAL.out
              clear i1 i2 i3 i4 hhe
              generalize (P.getD i st0).hints.length = n1 at *
              generalize (P.getD i st0).lits.length = n2 at *
              generalize (R.getD i st0).lits.length = n3 at *
              cases keep with
              | false =>
                clear hle
                go_upto_region 21 with fail
                go_quiet ((go_at_call 16; with_reducible exact HC1.out _))
                go_wp2_with fail
                exact ⟨⟨i + 1, by omega, by go_num, HXi.out.drewN _⟩, by simp [intOf]; omega⟩
              | true =>
                have hle2 := hle rfl
                subst hle2
                have hnn : ((n2 : Int) != (n2 : Int)) = false := by simp
                clear hle
                go_upto_region 21 with fail
                go_quiet ((go_at_call 16; with_reducible exact HC1.out _))
                go_wp2_with fail
                exact ⟨⟨i + 1, by omega, by go_num, HXi.out.drewN _⟩, by simp [intOf]; omega⟩
            · obtain rfl : i = P.length := by omega
              go_wp2_with fail
              go_ret
              exact ⟨rfl, HX.out.trans (X6.out.trans HXi.out)⟩
end Go.Proofs.YteclcnbaaiidbaaDoor
