/-
  The walk of proof.parseStep.
  The walk of proof.Parse.
-/
import Derived.Test.YtoopoljchhdobaaGreatDoorMMl
namespace Go.Proofs.YtoopoljchhdobaaGreatDoor
open Go.RowKit

theorem results_row_tmp {P : Program} {fn : Func} {p u : Tmp} {ty : TypeId} (h : fn.results = #[.cell p ty, .tmp u]) (tmps : Array Value) (w : World) (g : Nat) (t : TypeId) (cs : Array Value) (fr : Nat × Nat) (d : TypeDesc)
    (hp : tmps.getD p undef = .pointer (some ⟨g, 0, none⟩)) (hg : w.heap[g]? = some (.cells cs t fr)) (hu : P.underlying ty = some d) (hd : (match d with | .struct _ | .array _ _ => true | _ => false) = true) (hi : (P.info? ty).map (·.size) = some cs.size) :
    (results fn tmps).run P w = .ok (.tuple #[.agg cs, tmps.getD u undef]) w := by
  rw [results_cell_tmp h, hp]
  simp [asAddr, run_loadVar_row w g t ty cs fr d hg hu hd hi, Result.andThen]
theorem sizeLearn : (Tryz.prog.info? 47).map (·.size) = some 2 := by kernel_rfl
theorem put2_new {w : World} {b : Nat} {x0 y0 x y : Value} {t : TypeId} (h : w.heap[b]? = some (.cells #[x0, y0] t (0, 0))) : ((w.setCell ⟨b, 0, none⟩ x).setCell ⟨b, 1, none⟩ y).heap[b]? = some (.cells #[x, y] t (0, 0)) := by
  have h1 := heap_setCell_same w b 0 _ _ x h
  have h2 := heap_setCell_same (w.setCell ⟨b, 0, none⟩ x) b 1 _ _ y h1
  simpa using h2
theorem put2_other {w : World} {b k : Nat} {x y : Value} (h : k ≠ b) : ((w.setCell ⟨b, 0, none⟩ x).setCell ⟨b, 1, none⟩ y).heap[k]? = w.heap[k]? := by
  rw [heap_setCell_other _ _ _ _ h, heap_setCell_other _ _ _ _ h]
/-- What parseStep gives. -/
def StepPost (w : World) (l : List UInt8) (r : Ending) (w' : World) : Prop :=
  (parseStepP l = none ∧ ∃ a1 n1 c1 a2 n2 c2, r = .returned (.tuple #[.agg #[.slice a1 n1 c1, .slice a2 n2 c2], .bool false])) ∨
  ∃ s v1 v2, parseStepP l = some s ∧ r = .returned (.tuple #[.agg #[v1, v2], .bool true]) ∧ OwnInts w' w.heap.size v1 s.lits ∧ OwnInts w' w.heap.size v2 s.hints
set_option maxRecDepth 100000 in
set_option maxHeartbeats 4000000 in
theorem parseStep_any (l : List UInt8) (w : World) (hl : l.length ≤ 1000000) (hT : PTab w) :
    Calls Tryz.prog 54 #[.string ⟨l.toArray⟩] w fun r w' => Ext w w' ∧ StepPost w l r w' := by
  obtain ⟨W, hW⟩ : ∃ W, W = (w.alloc (.cells #[.slice none 0 0, .slice none 0 0] 47)).alloc (.cells #[.slice none 0 0, .slice none 0 0] 47) := ⟨_, rfl⟩
  have hx : Ext w W := by rw [hW]; exact ((Ext.refl w).alloc _).alloc _
  have hz : W.heap.size = w.heap.size + 2 := by rw [hW]; simp
  have hP0 : PEnv w pst0 (.slice none 0 0) (.slice none 0 0) (w.heap.size + 2) W := by
    refine ⟨hx, ?_, ?_, OwnInts.nil _ _, OwnInts.nil _ _, (fun k e => by cases e), Nat.le_refl _, by omega, fun _ => ⟨rfl, rfl⟩⟩
    · rw [hW, heap_alloc_old _ _ (by simp)]; exact heap_new _ _
    · rw [hW]
      have := heap_new (w.alloc (.cells #[.slice none 0 0, .slice none 0 0] 47)) (.cells #[.slice none 0 0, .slice none 0 0] 47)
      rwa [World.size_alloc] at this
  have HP0 := Lib.hid hP0; have HW := Lib.hid hW; have HT := Lib.hid hT; have HL := Lib.hid hl
  clear hx hz hP0 hW hT hl
  go_enter Tryz.func54, Tryz.ntmps54
  go_upto_region 2 with fail
  rw [← HW.out]
  generalize hB : w.heap.size = B at *
  go_wp2_with fail
  go_loopw [0, 5, 6] (fun s c m wr => ∃ (line : List UInt8) (p : PSt) (more : Bool) (v1 v2 : Value) (base : Nat), s = .string ⟨line.toArray⟩ ∧ c = .bool p.colon ∧ m = .bool more ∧ line.length ≤ 1000000 ∧ p.lits.length + p.hints.length + (if more = true then line.length + 1 else 0) ≤ l.length + 1 ∧ PEnv w p v1 v2 base wr ∧ wordsW p (if more = true then splitB 32 line else []) = wordsW pst0 (splitB 32 l)) (fun s _ m _ => match s, m with | .string x, .bool true => x.size + 1 | _, _ => 0)
  case atStart => exact ⟨l, pst0, true, _, _, _, rfl, rfl, rfl, HL.out, by simp [pst0], HP0.out, rfl⟩
  case round =>
    obtain ⟨line, p, more, v1, v2, base, rfl, rfl, rfl, hln, hcnt, hE, hWd⟩ := hrel
    have HLN := Lib.hid hln; have HCN := Lib.hid hcnt; have HE := Lib.hid hE; have HWD := Lib.hid hWd
    clear hln hcnt hE hWd
    cases more with
    | false =>
      have hwd : wordsW pst0 (splitB 32 l) = some p := by rw [← HWD.out]; rfl
      obtain ⟨a1, c1, rfl⟩ := HE.out.o1.ints.shape
      obtain ⟨a2, c2, rfl⟩ := HE.out.o2.ints.shape
      have HF := Lib.hid hwd
      have hb0 := HE.out.b0; have hb1 := HE.out.b1
      rw [hB] at hb0 hb1
      have f0 : wr.frozen? ⟨B, 0, none⟩ = false := Lib.frozen_of_heap hb0 0
      have f1 : wr.frozen? ⟨B, 1, none⟩ = false := Lib.frozen_of_heap hb0 1
      have g0 : wr.cell? ⟨B, 0, none⟩ = some (.slice none 0 0) := by rw [Lib.cell_of_heap hb0]; rfl
      have g1 : wr.cell? ⟨B, 1, none⟩ = some (.slice none 0 0) := by rw [Lib.cell_of_heap hb0]; rfl
      have g2 : wr.cell? ⟨B + 1, 0, none⟩ = some (.slice a1 p.lits.length c1) := by rw [Lib.cell_of_heap hb1]; rfl
      have g3 : wr.cell? ⟨B + 1, 1, none⟩ = some (.slice a2 p.hints.length c2) := by rw [Lib.cell_of_heap hb1]; rfl
      have HB0 := Lib.hid hb0
      clear hb0 hb1 hwd HWD
      go_wp2_with fail
      refine bodyPost_ret (v := .tuple #[.agg #[.slice a1 p.lits.length c1, .slice a2 p.hints.length c2], .bool p.colon]) (results_row_tmp Tryz.results54 _ _ B 47 _ (0, 0) _ rfl (put2_new HB0.out) Tryz.underlying47 rfl sizeLearn) rfl ⟨(HE.out.ext.setCell (p := ⟨B, 0, none⟩) (by show w.heap.size ≤ B; omega) _).setCell (p := ⟨B, 1, none⟩) (by show w.heap.size ≤ B; omega) _, ?_⟩
      cases hc : p.colon with
      | false => exact .inl ⟨by unfold parseStepP; rw [HF.out]; simp [hc], _, _, _, _, _, _, rfl⟩
      | true => exact .inr ⟨⟨p.lits, p.hints⟩, _, _, by unfold parseStepP; rw [HF.out]; simp [hc], rfl, (HE.out.o1.keep fun k hk => put2_other (by have := HE.out.o1.base k hk; omega)).mono (by omega), (HE.out.o2.keep fun k hk => put2_other (by have := HE.out.o2.base k hk; have := HE.out.lb; omega)).mono (by have := HE.out.lb; omega)⟩
    | true =>
      obtain ⟨wd, r, m, e1, e2, e3, e4, e5⟩ := cut_split 32 line
      have E1 := Lib.hid e1; have E2 := Lib.hid e2; have E3 := Lib.hid e3; have E4 := Lib.hid e4; have E5 := Lib.hid e5
      clear e1 e2 e3 e4 e5
      have HW0 : Hid (wordsW p (wd :: (if m = true then splitB 32 r else [])) = wordsW pst0 (splitB 32 l)) := by have := HWD.out; rw [if_pos rfl, E2.out] at this; exact this
      have HC0 : Hid (p.lits.length + p.hints.length + line.length ≤ l.length) := by have := HCN.out; simp at this; unfold Hid; omega
      clear HWD HCN
      by_cases hw : wd = [58]
      · subst hw
        cases hc : p.colon with
        | false =>
          have HS : Hid (wordsW { p with colon := true } (if m = true then splitB 32 r else []) = wordsW pst0 (splitB 32 l)) := by
            unfold Hid; rw [← HW0.out, wordsW]; simp [stepW, hc]
          go_wp2_with fail
          refine (Cut_any line 32 _ HLN.out (HT.out.ext HE.out.ext)).mono ?_
          rintro rr w1 ⟨rfl, x1⟩
          rw [E1.out]
          have HE1 := Lib.hid (HE.out.later x1).colon
          clear x1
          go_wp2_with fail
          refine ⟨⟨r, { p with colon := true }, m, v1, v2, base, rfl, rfl, rfl, by have := E4.out; have := HLN.out; omega, by have h1 := HC0.out; have h2 := E5.out; cases m <;> simp at h2 ⊢ <;> omega, HE1.out, HS.out⟩, ?_⟩
          have h2 := E5.out
          cases m <;> simp [ByteArray.size] at h2 ⊢ <;> omega
        | true =>
          have HS : Hid (wordsW pst0 (splitB 32 l) = none) := by
            unfold Hid; rw [← HW0.out, wordsW]; simp [stepW, hc, show numW [58] = none from rfl]
          go_wp2_with fail
          refine (Cut_any line 32 _ HLN.out (HT.out.ext HE.out.ext)).mono ?_
          rintro rr w1 ⟨rfl, x1⟩
          rw [E1.out]
          have HE1 := Lib.hid (HE.out.later x1)
          clear x1
          go_wp2_with fail
          refine (Atoi_any [58] _ (by simp) (HT.out.ext HE1.out.ext)).mono ?_
          rintro rr w2 ⟨⟨v, hv, _⟩ | ⟨_, n, tp, pv, rfl⟩, x2⟩
          · cases hv
          have HE2 := Lib.hid (HE1.out.later x2)
          have hb0 := HE2.out.b0
          rw [hB] at hb0
          have f0 : w2.frozen? ⟨B, 0, none⟩ = false := Lib.frozen_of_heap hb0 0
          have f1 : w2.frozen? ⟨B, 1, none⟩ = false := Lib.frozen_of_heap hb0 1
          have g0 : w2.cell? ⟨B, 0, none⟩ = some (.slice none 0 0) := by rw [Lib.cell_of_heap hb0]; rfl
          have g1 : w2.cell? ⟨B, 1, none⟩ = some (.slice none 0 0) := by rw [Lib.cell_of_heap hb0]; rfl
          have HB0 := Lib.hid hb0
          clear x2 hb0
          go_wp2_with fail
          exact bodyPost_ret (v := .tuple #[.agg #[.slice none 0 0, .slice none 0 0], .bool false]) (results_row_tmp Tryz.results54 _ _ B 47 _ (0, 0) _ rfl (put2_new HB0.out) Tryz.underlying47 rfl sizeLearn) rfl ⟨(HE2.out.ext.setCell (p := ⟨B, 0, none⟩) (by show w.heap.size ≤ B; omega) _).setCell (p := ⟨B, 1, none⟩) (by show w.heap.size ≤ B; omega) _, .inl ⟨by unfold parseStepP; rw [HS.out], _, _, _, _, _, _, rfl⟩⟩
      · have HWN := Lib.hid hw
        go_wp2_with fail
        refine (Cut_any line 32 _ HLN.out (HT.out.ext HE.out.ext)).mono ?_
        rintro rr w1 ⟨rfl, x1⟩
        rw [E1.out]
        have HE1 := Lib.hid (HE.out.later x1)
        clear x1
        go_wp2_with fail
        refine (Atoi_any wd _ (by have := E3.out; have := HLN.out; omega) (HT.out.ext HE1.out.ext)).mono ?_
        rintro rr w2 ⟨⟨v, hv, hi, rfl⟩ | ⟨hno, n, tp, pv, rfl⟩, x2⟩
        · have HV := Lib.hid hv; have HI := Lib.hid hi
          clear hv hi
          by_cases hg1 : v < -1000000000
          · have HS : Hid (wordsW pst0 (splitB 32 l) = none) := by
              unfold Hid; rw [← HW0.out, wordsW]; simp only [stepW, HWN.out, false_and, if_false, numW, HV.out]; rw [if_neg (fun h => by have := h.1; simp [inG] at this; omega)]
            have HE2 := Lib.hid (HE1.out.later x2)
            have hb0 := HE2.out.b0
            rw [hB] at hb0
            have f0 : w2.frozen? ⟨B, 0, none⟩ = false := Lib.frozen_of_heap hb0 0
            have f1 : w2.frozen? ⟨B, 1, none⟩ = false := Lib.frozen_of_heap hb0 1
            have g0 : w2.cell? ⟨B, 0, none⟩ = some (.slice none 0 0) := by rw [Lib.cell_of_heap hb0]; rfl
            have g1 : w2.cell? ⟨B, 1, none⟩ = some (.slice none 0 0) := by rw [Lib.cell_of_heap hb0]; rfl
            have HB0 := Lib.hid hb0
            clear x2 hb0
            go_wp2_with fail
            exact bodyPost_ret (v := .tuple #[.agg #[.slice none 0 0, .slice none 0 0], .bool false]) (results_row_tmp Tryz.results54 _ _ B 47 _ (0, 0) _ rfl (put2_new HB0.out) Tryz.underlying47 rfl sizeLearn) rfl ⟨(HE2.out.ext.setCell (p := ⟨B, 0, none⟩) (by show w.heap.size ≤ B; omega) _).setCell (p := ⟨B, 1, none⟩) (by show w.heap.size ≤ B; omega) _, .inl ⟨by unfold parseStepP; rw [HS.out], _, _, _, _, _, _, rfl⟩⟩
          by_cases hg2 : v > 1000000000
          · have HS : Hid (wordsW pst0 (splitB 32 l) = none) := by
              unfold Hid; rw [← HW0.out, wordsW]; simp only [stepW, HWN.out, false_and, if_false, numW, HV.out]; rw [if_neg (fun h => by have := h.1; simp [inG] at this; omega)]
            have HE2 := Lib.hid (HE1.out.later x2)
            have hb0 := HE2.out.b0
            rw [hB] at hb0
            have f0 : w2.frozen? ⟨B, 0, none⟩ = false := Lib.frozen_of_heap hb0 0
            have f1 : w2.frozen? ⟨B, 1, none⟩ = false := Lib.frozen_of_heap hb0 1
            have g0 : w2.cell? ⟨B, 0, none⟩ = some (.slice none 0 0) := by rw [Lib.cell_of_heap hb0]; rfl
            have g1 : w2.cell? ⟨B, 1, none⟩ = some (.slice none 0 0) := by rw [Lib.cell_of_heap hb0]; rfl
            have HB0 := Lib.hid hb0
            clear x2 hb0
            go_wp2_with fail
            exact bodyPost_ret (v := .tuple #[.agg #[.slice none 0 0, .slice none 0 0], .bool false]) (results_row_tmp Tryz.results54 _ _ B 47 _ (0, 0) _ rfl (put2_new HB0.out) Tryz.underlying47 rfl sizeLearn) rfl ⟨(HE2.out.ext.setCell (p := ⟨B, 0, none⟩) (by show w.heap.size ≤ B; omega) _).setCell (p := ⟨B, 1, none⟩) (by show w.heap.size ≤ B; omega) _, .inl ⟨by unfold parseStepP; rw [HS.out], _, _, _, _, _, _, rfl⟩⟩
          by_cases hg3 : Lib.itoa v = wd
          · subst hg3
            have HNUM : Hid (numW (Lib.itoa v) = some v) := by
              unfold Hid numW; rw [HV.out]; simp [inG]; omega
            have HT2 := Lib.hid (HT.out.ext (HE1.out.later x2).ext)
            have HE2 := Lib.hid (HE1.out.later x2)
            clear x2
            go_wp2_with fail
            refine (Itoa_any v _ (by have := HI.out.1; omega) (by have := HI.out.2; omega) HT2.out.pow).mono ?_
            rintro rr w3 ⟨rfl, x3⟩
            have HE3 := Lib.hid (HE2.out.later x3)
            have hb1 := HE3.out.b1
            rw [hB] at hb1
            have HBB := Lib.hid hb1
            have f0 : w3.frozen? ⟨B + 1, 0, none⟩ = false := Lib.frozen_of_heap hb1 0
            have f1 : w3.frozen? ⟨B + 1, 1, none⟩ = false := Lib.frozen_of_heap hb1 1
            have g0 : w3.cell? ⟨B + 1, 0, none⟩ = some v1 := by rw [Lib.cell_of_heap hb1]; rfl
            have g1 : w3.cell? ⟨B + 1, 1, none⟩ = some v2 := by rw [Lib.cell_of_heap hb1]; rfl
            clear x3 hb1
            cases hc : p.colon with
            | true =>
              have HS : Hid (wordsW { p with hints := p.hints ++ [v] } (if m = true then splitB 32 r else []) = wordsW pst0 (splitB 32 l)) := by
                unfold Hid; rw [← HW0.out, wordsW]; simp [stepW, HWN.out, HNUM.out, hc]
              go_wp2_with (at_builtin; refine wpList_append_int rfl (.tmp 47) (.tmp 49) rfl base _ _ p.hints v rfl rfl HE3.out.o2 (by have := HC0.out; have := HL.out; omega) HE3.out.ub ?_)
              intro v' w4 ho hg
              have hb4 : w4.heap[B + 1]? = w3.heap[B + 1]? := hg.block _ (lt_heap HBB.out) fun e => by have h1 := HE3.out.o2.base _ e.symm; have h2 := HE3.out.lb; omega
              rw [HBB.out] at hb4
              have k1 : w4.frozen? ⟨B + 1, 1, none⟩ = false := Lib.frozen_of_heap hb4 1
              have k2 : w4.cell? ⟨B + 1, 1, none⟩ = some v2 := by rw [Lib.cell_of_heap hb4]; rfl
              have he4 := HE3.out.hint hc v hg ho
              rw [hB] at he4
              have HE4 := Lib.hid he4
              clear ho hg hb4 he4 f0 f1 g0 g1
              obtain ⟨a', c', rfl⟩ : ∃ a' c', v' = .slice a' (p.hints.length + 1) c' := by
                obtain ⟨a', c', e⟩ := HE4.out.o2.ints.shape
                exact ⟨a', c', by rw [e]; simp⟩
              go_wp2_with fail
              refine ⟨⟨r, { p with hints := p.hints ++ [v] }, m, _, _, base, rfl, by rw [hc], rfl, by have := E4.out; have := HLN.out; omega, by have h1 := HC0.out; have h2 := E5.out; cases m <;> simp at h2 ⊢ <;> omega, HE4.out, HS.out⟩, ?_⟩
              have h2 := E5.out
              cases m <;> simp [ByteArray.size] at h2 ⊢ <;> omega
            | false =>
              have HS : Hid (wordsW { p with lits := p.lits ++ [v] } (if m = true then splitB 32 r else []) = wordsW pst0 (splitB 32 l)) := by
                unfold Hid; rw [← HW0.out, wordsW]; simp [stepW, HWN.out, HNUM.out, hc]
              go_wp2_with (at_builtin; refine wpList_append_int rfl (.tmp 53) (.tmp 55) rfl (w.heap.size + 2) _ _ p.lits v rfl rfl HE3.out.o1 (by have := HC0.out; have := HL.out; omega) (by have h1 := HE3.out.lb; have h2 := HE3.out.ub; omega) ?_)
              intro v' w4 ho hg
              have hb4 : w4.heap[B + 1]? = w3.heap[B + 1]? := hg.block _ (lt_heap HBB.out) fun e => by have h1 := HE3.out.o1.base _ e.symm; omega
              rw [HBB.out] at hb4
              have k1 : w4.frozen? ⟨B + 1, 0, none⟩ = false := Lib.frozen_of_heap hb4 0
              have k2 : w4.cell? ⟨B + 1, 0, none⟩ = some v1 := by rw [Lib.cell_of_heap hb4]; rfl
              have he4 := HE3.out.lit hc v hg (by rw [hB]; exact ho)
              rw [hB] at he4
              have HE4 := Lib.hid he4
              clear ho hg hb4 he4 f0 f1 g0 g1
              obtain ⟨a', c', rfl⟩ : ∃ a' c', v' = .slice a' (p.lits.length + 1) c' := by
                obtain ⟨a', c', e⟩ := HE4.out.o1.ints.shape
                exact ⟨a', c', by rw [e]; simp⟩
              go_wp2_with fail
              refine ⟨⟨r, { p with lits := p.lits ++ [v] }, m, _, _, _, rfl, by rw [hc], rfl, by have := E4.out; have := HLN.out; omega, by have h1 := HC0.out; have h2 := E5.out; cases m <;> simp at h2 ⊢ <;> omega, HE4.out, HS.out⟩, ?_⟩
              have h2 := E5.out
              cases m <;> simp [ByteArray.size] at h2 ⊢ <;> omega
          · have HS : Hid (wordsW pst0 (splitB 32 l) = none) := by
              unfold Hid; rw [← HW0.out, wordsW]; simp only [stepW, HWN.out, false_and, if_false, numW, HV.out]; rw [if_neg (fun h => hg3 h.2)]
            have hg4 : (Lib.itoa v == wd) = false := by simp [hg3]
            clear hg3
            have HT2 := Lib.hid (HT.out.ext (HE1.out.later x2).ext)
            go_wp2_with fail
            refine (Itoa_any v _ (by have := HI.out.1; omega) (by have := HI.out.2; omega) HT2.out.pow).mono ?_
            rintro rr w3 ⟨rfl, x3⟩
            have HE2 := Lib.hid ((HE1.out.later x2).later x3)
            have hb0 := HE2.out.b0
            rw [hB] at hb0
            have f0 : w3.frozen? ⟨B, 0, none⟩ = false := Lib.frozen_of_heap hb0 0
            have f1 : w3.frozen? ⟨B, 1, none⟩ = false := Lib.frozen_of_heap hb0 1
            have g0 : w3.cell? ⟨B, 0, none⟩ = some (.slice none 0 0) := by rw [Lib.cell_of_heap hb0]; rfl
            have g1 : w3.cell? ⟨B, 1, none⟩ = some (.slice none 0 0) := by rw [Lib.cell_of_heap hb0]; rfl
            have HB0 := Lib.hid hb0
            clear x2 x3 hb0
            go_wp2_with fail
            exact bodyPost_ret (v := .tuple #[.agg #[.slice none 0 0, .slice none 0 0], .bool false]) (results_row_tmp Tryz.results54 _ _ B 47 _ (0, 0) _ rfl (put2_new HB0.out) Tryz.underlying47 rfl sizeLearn) rfl ⟨(HE2.out.ext.setCell (p := ⟨B, 0, none⟩) (by show w.heap.size ≤ B; omega) _).setCell (p := ⟨B, 1, none⟩) (by show w.heap.size ≤ B; omega) _, .inl ⟨by unfold parseStepP; rw [HS.out], _, _, _, _, _, _, rfl⟩⟩
        · have HS : Hid (wordsW pst0 (splitB 32 l) = none) := by
            unfold Hid; rw [← HW0.out, wordsW]; simp only [stepW, HWN.out, false_and, if_false, hno]
          clear hno
          have HE2 := Lib.hid (HE1.out.later x2)
          have hb0 := HE2.out.b0
          rw [hB] at hb0
          have f0 : w2.frozen? ⟨B, 0, none⟩ = false := Lib.frozen_of_heap hb0 0
          have f1 : w2.frozen? ⟨B, 1, none⟩ = false := Lib.frozen_of_heap hb0 1
          have g0 : w2.cell? ⟨B, 0, none⟩ = some (.slice none 0 0) := by rw [Lib.cell_of_heap hb0]; rfl
          have g1 : w2.cell? ⟨B, 1, none⟩ = some (.slice none 0 0) := by rw [Lib.cell_of_heap hb0]; rfl
          have HB0 := Lib.hid hb0
          clear x2 hb0
          go_wp2_with fail
          exact bodyPost_ret (v := .tuple #[.agg #[.slice none 0 0, .slice none 0 0], .bool false]) (results_row_tmp Tryz.results54 _ _ B 47 _ (0, 0) _ rfl (put2_new HB0.out) Tryz.underlying47 rfl sizeLearn) rfl ⟨(HE2.out.ext.setCell (p := ⟨B, 0, none⟩) (by show w.heap.size ≤ B; omega) _).setCell (p := ⟨B, 1, none⟩) (by show w.heap.size ≤ B; omega) _, .inl ⟨by unfold parseStepP; rw [HS.out], _, _, _, _, _, _, rfl⟩⟩
end Go.Proofs.YtoopoljchhdobaaGreatDoor
namespace Go.Proofs.YtoopoljchhdobaaGreatDoor
open Go.RowKit

theorem cut_false {c : UInt8} {l wd r : List UInt8} (h : Lib.cut l [c] = (wd, r, false)) : wd = l := by
  rcases split_cut c l with ⟨_, _, h3⟩ | ⟨w, r', _, _, h3⟩
  · rw [h3] at h; cases h; rfl
  · rw [h3] at h; cases h
/-- What Parse gives. -/
def ParsePost (w : World) (l : List UInt8) (r : Ending) (w' : World) : Prop :=
  (parseL l = none ∧ r = .returned (.tuple #[.slice none 0 0, .int .i64 130])) ∨
  ∃ s v, parseL l = some s ∧ r = .returned (.tuple #[v, .int .i64 0]) ∧ OwnSteps w' w.heap.size v s
set_option maxRecDepth 100000 in
set_option maxHeartbeats 4000000 in
theorem Parse_any (l : List UInt8) (w : World) (hl : l.length ≤ 1000000) (hc : l.count 10 ≤ 20000) (hT : PTab w) :
    Calls Tryz.prog 33 #[.string ⟨l.toArray⟩] w fun r w' => Ext w w' ∧ ParsePost w l r w' := by
  have HT := Lib.hid hT; have HL := Lib.hid hl; have HC := Lib.hid hc
  clear hT hl
  have hc2 : ((l.count 10 : Nat) : Int) ≤ 20000 := by omega
  generalize hcn : l.count 10 = cn at *
  clear hc
  go_enter Tryz.func33, Tryz.ntmps33
  go_wp2_with fail
  refine (Count_any l 10 w).mono ?_
  rintro rr w1 ⟨rfl, rfl⟩
  rw [hcn]
  go_wp2_with fail
  go_loopw [0, 4] (fun s v wr => ∃ (t : List UInt8) (ss : List St), s = .string ⟨t.toArray⟩ ∧ t.length ≤ 1000000 ∧ ss.length + t.length ≤ l.length ∧ Ext w1 wr ∧ OwnSteps wr w1.heap.size v ss ∧ parseL l = (linesP (splitB 10 t)).map (ss ++ ·)) (fun s _ _ => match s with | .string x => x.size | _ => 0)
  case atStart => exact ⟨l, [], rfl, HL.out, by simp, Ext.refl _, OwnSteps.nil _ _, by unfold parseL; cases linesP (splitB 10 l) <;> rfl⟩
  case round =>
    obtain ⟨t, ss, rfl, htl, hcnt, hX, hO, hP⟩ := hrel
    have HTL := Lib.hid htl; have HCN := Lib.hid hcnt; have HX := Lib.hid hX; have HO := Lib.hid hO; have HP := Lib.hid hP
    clear htl hcnt hX hO hP
    by_cases ht : t = []
    · subst ht
      have HP2 : Hid (parseL l = some ss) := by unfold Hid; rw [HP.out]; simp [splitB, linesP]
      go_wp2_with fail
      go_ret2
      exact ⟨HX.out, .inr ⟨ss, _, HP2.out, rfl, HO.out⟩⟩
    · obtain ⟨wd, r, m, e1, e2, e3, e4, e5⟩ := cut_split 10 t
      have E1 := Lib.hid e1; have E2 := Lib.hid e2; have E3 := Lib.hid e3; have E4 := Lib.hid e4; have E5 := Lib.hid e5
      have hie : t.isEmpty = false := by cases t with
        | nil => exact absurd rfl ht
        | cons _ _ => rfl
      have HTN := Lib.hid ht
      cases m with
      | false =>
        have HP2 : Hid (parseL l = none) := by
          have h := cut_false e1
          unfold Hid; rw [HP.out, e2]; simp [linesP, h, ht]
        clear e1 e2 e3 e4 e5
        go_wp2_with fail
        refine (Cut_any t 10 _ HTL.out (HT.out.ext HX.out)).mono ?_
        rintro rr w2 ⟨rfl, x2⟩
        rw [E1.out]
        have HX2 := Lib.hid (HX.out.trans x2)
        clear x2
        go_wp2_with fail
        go_ret2
        exact ⟨HX2.out, .inl ⟨HP2.out, rfl⟩⟩
      | true =>
        have HR : Hid (parseL l = ((match parseStepP wd with | none => none | some s => (linesP (splitB 10 r)).map (s :: ·)) : Option (List St)).map (ss ++ ·)) := by
          unfold Hid; rw [HP.out, e2, if_pos rfl, linesP, if_neg (splitB_ne 10 r)]
          cases parseStepP wd <;> rfl
        clear e1 e2 e3 e4 e5
        go_wp2_with fail
        refine (Cut_any t 10 _ HTL.out (HT.out.ext HX.out)).mono ?_
        rintro rr w2 ⟨rfl, x2⟩
        rw [E1.out]
        have HX2 := Lib.hid (HX.out.trans x2); have HO2 := Lib.hid (HO.out.kept x2)
        clear x2
        go_wp2_with fail
        refine (parseStep_any wd _ (by have := E3.out; have := HTL.out; omega) (HT.out.ext HX2.out)).mono ?_
        rintro rr w3 ⟨x3, hq⟩
        have HX3 := Lib.hid (HX2.out.trans x3); have HO3 := Lib.hid (HO2.out.kept x3)
        rcases hq with ⟨hn, a1, n1, c1, a2, n2, c2, rfl⟩ | ⟨s, v1, v2, hs, rfl, o1, o2⟩
        · have HP2 : Hid (parseL l = none) := by unfold Hid; rw [HR.out, hn]; rfl
          clear hn x3
          go_wp2_with fail
          go_ret2
          exact ⟨HX3.out.trans ((Ext.refl _).alloc _), .inl ⟨HP2.out, rfl⟩⟩
        · have HP2 : Hid (parseL l = (linesP (splitB 10 r)).map ((ss ++ [s]) ++ ·)) := by
            unfold Hid; rw [HR.out, hs]; cases linesP (splitB 10 r) <;> simp
          have hsz := HX2.out.size
          have O1 := Lib.hid (o1.mono (base' := w1.heap.size) hsz); have O2 := Lib.hid (o2.mono (base' := w1.heap.size) hsz)
          obtain ⟨a1, c1, rfl⟩ := o1.ints.shape
          obtain ⟨a2, c2, rfl⟩ := o2.ints.shape
          clear o1 o2 hs x3 hsz
          obtain ⟨va, vc, rfl⟩ := SliceAt.shape HO3.out.steps
          have hss : ss.length ≤ 1000000 := by have h1 := HCN.out; have h2 := HL.out; omega
          obtain ⟨W4, hW4⟩ : ∃ W4, W4 = w3.alloc (.cells #[.slice a1 s.lits.length c1, .slice a2 s.hints.length c2] 47) := ⟨_, rfl⟩
          have x4 : Ext w3 W4 := by rw [hW4]; exact (Ext.refl _).alloc _
          have hb4 : W4.heap[w3.heap.size]? = some (.cells #[.slice a1 s.lits.length c1, .slice a2 s.hints.length c2] 47 (0, 0)) := by rw [hW4]; exact heap_new _ _
          have HX4 := Lib.hid (HX3.out.trans x4); have HO4 := Lib.hid (HO3.out.kept x4); have O3 := Lib.hid (O1.out.kept x4); have O4 := Lib.hid (O2.out.kept x4)
          have g0 : W4.cell? ⟨w3.heap.size, 0, none⟩ = some (.slice a1 s.lits.length c1) := by rw [Lib.cell_of_heap hb4]; rfl
          have g1 : W4.cell? ⟨w3.heap.size, 1, none⟩ = some (.slice a2 s.hints.length c2) := by rw [Lib.cell_of_heap hb4]; rfl
          have HW4 := Lib.hid hW4
          clear hW4 x4 hb4
          go_upto_region 11 with fail
          rw [← HW4.out]
          clear HW4
          generalize w3.heap.size = b8 at *
          go_wp2_with (at_builtin; refine wpList_append_step rfl (.tmp 30) (.tmp 32) rfl w1.heap.size W4 _ ss _ _ s rfl rfl HO4.out O3.out O4.out hss HX4.out.size ?_)
          intro v' w5 ho hg
          have HO5 := Lib.hid ho
          have HX5 := Lib.hid (HX4.out.grown hg fun k e => (HO4.out.typed k e).1)
          clear ho hg
          go_wp2_with fail
          have h5 := E5.out (by trivial)
          refine ⟨⟨r, ss ++ [s], rfl, by have := HTL.out; omega, by have := HCN.out; simp; omega, HX5.out, HO5.out, HP2.out⟩, ?_⟩
          simp [ByteArray.size]; omega
end Go.Proofs.YtoopoljchhdobaaGreatDoor
