/-
  The walk of law25's Justified.
-/
import Derived.Test.YteclcnbaaiidbaaDoorPq2
import Derived.Deep.RegionHeld3
namespace Go.Proofs.YteclcnbaaiidbaaDoor
open Go.RowKit

theorem OwnInts.empty (w : World) (base : Nat) (hb : base ≤ w.heap.size) : OwnInts (w.alloc (.cells #[] 3)) base (.slice (some ⟨w.heap.size, 0, none⟩) 0 0) [] :=
  ⟨rfl, .inr ⟨w.heap.size, 0, #[], rfl, hb, heap_new _ _, by simp, by simp, by simp, by simp⟩⟩
theorem openL_take (held : List Int) (c : List Int) {k : Nat} (hk : k < c.length) : ∀ o, openL held (c.take (k + 1)) o = (if ¬ (wrap64 (-(c[k])) ∈ held) ∧ ¬ (c[k] ∈ openL held (c.take k) o) then openL held (c.take k) o ++ [c[k]] else openL held (c.take k) o) := by
  induction c generalizing k with
  | nil => simp at hk
  | cons a r ih =>
    intro o
    cases k with
    | zero => rfl
    | succ k =>
      have := ih (k := k) (by simpa using hk) (if ¬ (wrap64 (-a) ∈ held) ∧ ¬ (a ∈ o) then o ++ [a] else o)
      simpa [openL] using this
theorem openL_len (held c : List Int) : ∀ o, (openL held c o).length ≤ o.length + c.length := by
  induction c with
  | nil => intro o; simp [openL]
  | cons a r ih =>
    intro o
    unfold openL
    refine Nat.le_trans (ih _) ?_
    split <;> simp <;> omega
/-- The walk's inner loop: the open literals of a clause. -/
def negTo (l : List Int) (k : Nat) : List Int := (l.take k).map fun x => wrap64 (-x)
theorem negTo_succ (l : List Int) {k : Nat} (h : k < l.length) : negTo l (k + 1) = negTo l k ++ [wrap64 (-(l[k]))] := by unfold negTo; rw [List.take_succ_eq_append_getElem h, List.map_append]; rfl
theorem negTo_len (l : List Int) {k : Nat} (h : k ≤ l.length) : (negTo l k).length = k := by unfold negTo; rw [List.length_map, List.length_take]; omega
theorem drop_map {α β : Type} (f : α → β) (l : List α) {i : Nat} (h : i < l.length) : (l.drop i).map f = f l[i] :: (l.drop (i + 1)).map f := by
  rw [List.drop_eq_getElem_cons h, List.map_cons]
theorem drop_nil {α β : Type} (f : α → β) (l : List α) (i : Nat) : (l.drop i).map f = [] ↔ l.length ≤ i := by simp
set_option maxRecDepth 100000 in
set_option maxHeartbeats 8000000 in
theorem Justified_any (vars : Int) (cl : List (List Int)) (l : List St) (k : Nat) (vf vl : Value) (w : World) (hf : CnfV w vf vars cl) (hl : Steps w vl l) (hk : k < l.length) (hc1 : cl.length ≤ 100000) (hc2 : l.length ≤ 100000)
    (hn1 : (l.getD k st0).lits.length ≤ 100000) (hn2 : (l.getD k st0).hints.length ≤ 100000) (hh : ∀ h ∈ (l.getD k st0).hints, 0 ≤ h ∧ h < (cl.length : Int) + l.length ∧ (clauseS cl l h).length ≤ 100000) :
    Calls Tryd.prog 19 #[vf, vl, .int .i64 (k : Int)] w fun r w' => r = .returned (.bool (jsP cl l k)) ∧ Ext w w' := by
  obtain ⟨fa, fc, rfl, hcl⟩ := hf.shape
  obtain ⟨la, lc, rfl⟩ := SliceAt.shape hl
  obtain ⟨W, hW⟩ : ∃ W, W = w.alloc (.cells #[.int .i64 vars, .slice fa cl.length fc] 27) := ⟨_, rfl⟩
  have hx : Ext w W := by rw [hW]; exact (Ext.refl w).alloc _
  have hB : W.heap[w.heap.size]? = some (.cells #[.int .i64 vars, .slice fa cl.length fc] 27 (0, 0)) := by rw [hW]; exact heap_new _ _
  have p0 : W.cell? ⟨w.heap.size, 0, none⟩ = some (.int .i64 vars) := by simp [World.cell?, hB]
  have p1 : W.cell? ⟨w.heap.size, 1, none⟩ = some (.slice fa cl.length fc) := by simp [World.cell?, hB]
  obtain ⟨b, o, a1, c1, a2, c2, rfl, g0, g1, i1, i2⟩ := (hl.ext hx).getD_at hk
  have P0 := Lib.hid p0; have P1 := Lib.hid p1; have G0 := Lib.hid g0; have G1 := Lib.hid g1; have I1 := Lib.hid i1; have I2 := Lib.hid i2
  have HL := Lib.hid (hl.ext hx); have HF := Lib.hid (hf.ext hx); have HX := Lib.hid hx; have HW := Lib.hid hW; have HH := Lib.hid hh
  have HJ : Hid (jsP cl l k = justF (negTo (l.getD k st0).lits (l.getD k st0).lits.length) (((l.getD k st0).hints.drop 0).map (clauseS cl l))) := by unfold Hid jsP negTo; rw [List.take_length]; rfl
  have k0 : (0 : Int) ≤ (k : Int) := by omega
  have k1 : (k : Int) < (l.length : Int) := by omega
  generalize (l.getD k st0).lits = lits at *
  generalize (l.getD k st0).hints = hints at *
  clear hf hl hcl hB p0 p1 hx hW g0 g1 i1 i2 hh
  go_enter Tryd.func19, Tryd.ntmps19
  go_upto_region 1 with fail
  rw [← HW.out]
  clear HW
  generalize w.heap.size = b0 at *
  go_wp2_with fail
  go_loopw [7, 8] (fun v i wr => ∃ j : Nat, j ≤ lits.length ∧ i = .int .i64 j ∧ Ext W wr ∧ OwnInts wr W.heap.size v (negTo lits j)) (fun _ i _ => lits.length - (intOf i).toNat)
  case atStart => exact ⟨0, Nat.zero_le _, rfl, (Ext.refl _).alloc _, OwnInts.empty _ _ (Nat.le_refl _)⟩
  case round =>
    obtain ⟨j, hj, rfl, hX, hO⟩ := hrel
    have HXr := Lib.hid hX; have HO := Lib.hid hO; clear hX hO
    have g0 := HXr.out.cell G0.out
    by_cases hlt : j < lits.length
    · obtain ⟨b3, o3, h3, g3⟩ := ints_at (I1.out.ext HXr.out) j hlt
      subst h3
      have hg : lits.getD j 0 = lits[j] := by simp [List.getD, hlt]
      rw [hg] at g3
      have HS := Lib.hid (negTo_succ lits hlt)
      have HLn := Lib.hid (negTo_len lits hj)
      have hlw : W.heap.size ≤ wr.heap.size := HXr.out.size
      clear hg
      generalize lits[j] = x at *
      go_wp2_with (at_builtin; refine wpList_append_int rfl (.tmp 24) (.tmp 34) rfl W.heap.size wr _ _ _ rfl rfl HO.out (by have := HLn.out; omega) hlw ?_)
      intro v' w' hown' hg
      rw [← HS.out] at hown'
      have hx' : Ext W w' := HXr.out.grown hg (fun q hq => HO.out.base q hq)
      have HO' := Lib.hid hown'; have HX' := Lib.hid hx'
      clear hown' hx' hg
      go_wp2_with fail
      exact ⟨⟨j + 1, by omega, by go_num, HX'.out, HO'.out⟩, by simp [intOf]; omega⟩
    · have hjl : j = lits.length := by omega
      subst hjl
      go_wp2_with fail
      clear g0
      go_loopw [7, 9] (fun v i wx => ∃ (q : Nat) (held : List Int), q ≤ hints.length ∧ i = .int .i64 q ∧ Ext W wx ∧ OwnInts wx W.heap.size v held ∧ held.length ≤ lits.length + q ∧ jsP cl l k = justF held ((hints.drop q).map (clauseS cl l))) (fun _ i _ => hints.length - (intOf i).toNat)
      case atStart => exact ⟨0, _, Nat.zero_le _, rfl, HXr.out, HO.out, by rw [negTo_len _ (Nat.le_refl _)]; omega, HJ.out⟩
      case round =>
        obtain ⟨q, held, hq, rfl, hX, hO2, hhl, hjs⟩ := hrel
        obtain ⟨va, vc, rfl⟩ := hO2.ints.shape
        have HXq := Lib.hid hX; have HO2 := Lib.hid hO2; have HHl := Lib.hid hhl; have HJS := Lib.hid hjs
        clear hX hO2 hhl hjs
        have g1 := HXq.out.cell G1.out
        by_cases hlq : q < hints.length
        · have HDR := Lib.hid (drop_map (clauseS cl l) hints hlq)
          obtain ⟨h0, hb, hcl⟩ := HH.out hints[q] (List.getElem_mem hlq)
          obtain ⟨b4, o4, h4, g4⟩ := ints_at (I2.out.ext HXq.out) q hlq
          subst h4
          have hg : hints.getD q 0 = hints[q] := by simp [List.getD, hlq]
          rw [hg] at g4
          have hrest : Hid ((hints.drop (q + 1)).map (clauseS cl l) = [] ↔ hints.length ≤ q + 1) := drop_nil _ _ _
          rw [HDR.out] at HJS
          clear hg HDR
          generalize hints[q] = h at *
          generalize hrs : (hints.drop (q + 1)).map (clauseS cl l) = rest at *
          have HRS := Lib.hid hrs
          clear hrs
          generalize wr = wx at *
          have HFk : Hid (∀ V : World, Ext wx V → (V.cell? ⟨b0, 0, none⟩ = some (.int .i64 vars) ∧ V.cell? ⟨b0, 1, none⟩ = some (.slice fa cl.length fc)) ∧ V.cell? ⟨b, o + k * 2 + 1, none⟩ = some (.slice (some ⟨b4, o4, none⟩) hints.length c2) ∧ V.cell? ⟨b4, o4 + q, none⟩ = some (.int .i64 h)) := fun V hx => ⟨⟨(HXq.out.trans hx).cell P0.out, (HXq.out.trans hx).cell P1.out⟩, hx.cell g1, hx.cell g4⟩
          obtain ⟨⟨z0, z1⟩, z2, z3⟩ := HFk.out wx (Ext.refl _)
          have q0 : (0 : Int) ≤ (q : Int) := by omega
          have q1 : (q : Int) < (hints.length : Int) := by omega
          go_upto_region 9 with fail
          go_region_held3 (fun w' => (w'.cell? ⟨b0, 0, none⟩ = some (.int .i64 vars) ∧ w'.cell? ⟨b0, 1, none⟩ = some (.slice fa cl.length fc)) ∧ w'.cell? ⟨b, o + k * 2 + 1, none⟩ = some (.slice (some ⟨b4, o4, none⟩) hints.length c2) ∧ w'.cell? ⟨b4, o4 + q, none⟩ = some (.int .i64 h))
            ((first
              | exact ⟨⟨z0, z1⟩, z2, z3⟩
              | (refine HFk.out _ ?_; repeat (first | exact Ext.refl _ | exact HR1.out | apply Ext.drew | apply Ext.alloc)
                 done)
              | fail))
            ((first
              | (go_at_call 31
                 refine (clause_any vars cl l h _ _ _ (HF.out.ext (HXq.out.trans (by repeat (first | exact Ext.refl _ | apply Ext.drew)))) (HL.out.ext (HXq.out.trans (by repeat (first | exact Ext.refl _ | apply Ext.drew)))) h0 hb hc1 hc2).mono ?_
                 rintro r wf ⟨⟨xa, xc, rfl, hi⟩, x1⟩
                 have HI := Lib.hid hi
                 have HR1 : Hid (Ext wx wf) := Ext.trans (by repeat (first | exact Ext.refl _ | apply Ext.drew)) x1
                 clear hi x1)))
          clear z0 z1 z2 z3 g1 g4 h0 hb
          have HXf := Lib.hid (HXq.out.trans HR1.out); have HO3 := Lib.hid (HO2.out.kept HR1.out)
          generalize clauseS cl l h = c at *
          clear HFk HR1 HO2 HXq
          go_wp2_with fail
          go_loopw [11, 12] (fun v i wz => ∃ t : Nat, t ≤ c.length ∧ i = .int .i64 t ∧ Ext wf wz ∧ OwnInts wz wf.heap.size v (openL held (c.take t) [])) (fun _ i _ => c.length - (intOf i).toNat)
          case atStart => exact ⟨0, Nat.zero_le _, rfl, (Ext.refl _).alloc _, OwnInts.empty _ _ (Nat.le_refl _)⟩
          case round =>
            obtain ⟨t, ht, rfl, hX, hO⟩ := hrel
            obtain ⟨ua, uc, rfl⟩ := hO.ints.shape
            have HXz := Lib.hid hX; have HOp := Lib.hid hO
            clear hX hO
            generalize wr = wz at *
            have HHeld := Lib.hid (HO3.out.ints.ext HXz.out)
            by_cases hlt : t < c.length
            · obtain ⟨b5, o5, h5, g5⟩ := ints_at (HI.out.ext HXz.out) t hlt
              subst h5
              have hg : c.getD t 0 = c[t] := by simp [List.getD, hlt]
              rw [hg] at g5
              have HTk := Lib.hid (openL_take held c hlt [])
              have hol := openL_len held (c.take t) []
              have HOL : Hid ((openL held (c.take t) []).length ≤ 100000) := by unfold Hid; simp at hol; omega
              have hlw : wf.heap.size ≤ wz.heap.size := HXz.out.size
              clear hg hol
              generalize c[t] = x at *
              generalize openL held (c.take t) [] = op at *
              go_wp2_with fail
              refine (has_any held (wrap64 (-x)) _ _ HHeld.out).mono ?_
              rintro r wh ⟨rfl, hwh⟩
              rw [hwh]; clear hwh wh
              by_cases e1 : wrap64 (-x) ∈ held
              · have HS : Hid (openL held (c.take (t + 1)) [] = op) := by unfold Hid; rw [HTk.out, if_neg (fun h => h.1 e1)]
                rw [decide_eq_true e1]
                clear HTk e1
                go_wp2_with fail
                exact ⟨⟨t + 1, by omega, by go_num, HXz.out, by rw [HS.out]; exact HOp.out⟩, by simp [intOf]; omega⟩
              · rw [decide_eq_false e1]
                have E1 := Lib.hid e1; clear e1
                go_wp2_with fail
                refine (has_any op x _ _ HOp.out.ints).mono ?_
                rintro r wh ⟨rfl, hwh⟩
                rw [hwh]; clear hwh wh
                by_cases e2 : x ∈ op
                · have HS : Hid (openL held (c.take (t + 1)) [] = op) := by unfold Hid; rw [HTk.out, if_neg (fun h => h.2 e2)]
                  rw [decide_eq_true e2]
                  clear HTk e2
                  go_wp2_with fail
                  exact ⟨⟨t + 1, by omega, by go_num, HXz.out, by rw [HS.out]; exact HOp.out⟩, by simp [intOf]; omega⟩
                · have HS : Hid (openL held (c.take (t + 1)) [] = op ++ [x]) := by unfold Hid; rw [HTk.out, if_pos ⟨E1.out, e2⟩]
                  rw [decide_eq_false e2]
                  clear HTk e2
                  go_wp2_with (at_builtin; refine wpList_append_int rfl (.tmp 81) (.tmp 86) rfl wf.heap.size wz _ _ _ rfl rfl HOp.out (by have := HOL.out; omega) hlw ?_)
                  intro v' w' hown' hg
                  rw [← HS.out] at hown'
                  have hx' : Ext wf w' := HXz.out.grown hg (fun q hq => HOp.out.base q hq)
                  have HO' := Lib.hid hown'; have HX' := Lib.hid hx'
                  clear hown' hx' hg
                  go_wp2_with fail
                  exact ⟨⟨t + 1, by omega, by go_num, HX'.out, HO'.out⟩, by simp [intOf]; omega⟩
            · have HTk : Hid (c.take t = c) := List.take_of_length_le (by omega)
              rw [HTk.out] at HOp
              rw [HTk.out]
              have HJ3 : Hid (jsP cl l k = if (openL held c []).length = 0 then decide (rest = []) else if 1 < (openL held c []).length ∨ (openL held c []).getD 0 0 ∈ held then false else justF (held ++ [(openL held c []).getD 0 0]) rest) := HJS.out
              clear HJS HTk
              generalize openL held c [] = op at *
              have g1 := (HXf.out.trans HXz.out).cell G1.out
              have HXe := Lib.hid (HX.out.trans (HXf.out.trans HXz.out))
              by_cases z0 : op.length = 0
              · rw [if_pos z0] at HJ3
                have hwr : wrap64 ((hints.length : Int) - 1) = (hints.length : Int) - 1 := by unfold wrap64; omega
                have HRes : Hid (jsP cl l k = decide ((q : Int) = (hints.length : Int) - 1)) := by
                  unfold Hid
                  rw [HJ3.out, decide_eq_decide, hrest.out]; omega
                clear HJ3
                rw [z0]
                go_wp2_with fail
                go_ret
                exact ⟨by rw [HRes.out]; first | rfl | simp, HXe.out⟩
              · rw [if_neg z0] at HJ3
                by_cases h1 : 1 < op.length
                · rw [if_pos (Or.inl h1)] at HJ3
                  go_wp2_with fail
                  go_ret
                  exact ⟨by rw [HJ3.out]; rfl, HXe.out⟩
                · have hl1 : op.length = 1 := by omega
                  obtain ⟨b6, o6, h6, g6⟩ := ints_at HOp.out.ints 0 (by omega)
                  subst h6
                  rw [Nat.add_zero] at g6
                  rw [hl1] at *
                  generalize op.getD 0 0 = y at *
                  go_wp2_with fail
                  refine (has_any held y _ _ HHeld.out).mono ?_
                  rintro r wh ⟨rfl, hwh⟩
                  rw [hwh]; clear hwh wh
                  by_cases e1 : y ∈ held
                  · rw [if_pos (Or.inr e1)] at HJ3
                    rw [decide_eq_true e1]
                    clear e1
                    go_wp2_with fail
                    go_ret
                    exact ⟨by rw [HJ3.out]; rfl, HXe.out⟩
                  · rw [if_neg (by intro h; rcases h with h | h; · omega
                                   · exact e1 h)] at HJ3
                    rw [decide_eq_false e1]
                    clear e1
                    have HO4 := Lib.hid (HO3.out.kept HXz.out)
                    have HXw := Lib.hid (HXf.out.trans HXz.out)
                    have hlw : W.heap.size ≤ wz.heap.size := HXw.out.size
                    have hhl := HHl.out
                    go_wp2_with (at_builtin; refine wpList_append_int rfl (.tmp 110) (.tmp 114) rfl W.heap.size wz _ _ _ rfl rfl HO4.out (by omega) hlw ?_)
                    intro v' w' hown' hg
                    have hx' : Ext W w' := HXw.out.grown hg (fun q hq => HO4.out.base q hq)
                    have HO' := Lib.hid hown'; have HX' := Lib.hid hx'
                    clear hown' hx' hg
                    go_wp2_with fail
                    exact ⟨⟨q + 1, held ++ [y], by omega, by go_num, HX'.out, HO'.out, by simp; omega, by rw [HJ3.out, HRS.out]⟩, by simp [intOf]; omega⟩
        · have hql : q = hints.length := by omega
          have HRes : Hid (jsP cl l k = false) := by unfold Hid; rw [HJS.out, hql, List.drop_length]; rfl
          go_wp2_with fail
          go_ret
          exact ⟨by rw [HRes.out]; rfl, HX.out.trans HXq.out⟩
end Go.Proofs.YteclcnbaaiidbaaDoor
