/-
  The walk of proof.Trim.
-/
import Derived.Test.YteclcnbaaiidbaaDoorPtA
namespace Go.Proofs.YteclcnbaaiidbaaDoor
open Go.RowKit Go.Shelf
attribute [local go_sem] Oper.semAt_some

/-- The first t hints, renumbered. -/
noncomputable def renL (n : Nat) (l : List St) (hs : List Int) (t : Nat) : List Int := (hs.take t).map (renN n l)
theorem renL_succ (n : Nat) (l : List St) (hs : List Int) (t : Nat) (h : t < hs.length) : renL n l hs (t + 1) = renL n l hs t ++ [renN n l (hs.getD t 0)] := by
  unfold renL; rw [List.take_succ_eq_append_getElem h, List.map_append]; simp [List.getD, h]
theorem renL_len (n : Nat) (l : List St) (hs : List Int) (t : Nat) : (renL n l hs t).length ≤ hs.length := by unfold renL; rw [List.length_map, List.length_take]; omega
theorem renL_all (n : Nat) (l : List St) (hs : List Int) : renL n l hs hs.length = hs.map (renN n l) := by unfold renL; rw [List.take_length]
set_option maxRecDepth 100000 in
set_option maxHeartbeats 4000000 in
theorem Trim_any (vars : Int) (cl : List (List Int)) (l : List St) (vf vl : Value) (w : World) (hf : CnfV w vf vars cl) (hl : Steps w vl l) (ht : Tame vars cl l) :
    Calls Tryd.prog 15 #[vf, vl] w fun r w' => Ext w w' ∧ (validP vars cl.length l = false → r = .returned (.tuple #[.slice none 0 0, .int .i64 1])) ∧ (validP vars cl.length l = true → ∃ v, r = .returned (.tuple #[v, .int .i64 0]) ∧ Steps w' v (trimL cl.length l)) := by
  obtain ⟨fa, fc, rfl, hcl⟩ := hf.shape
  obtain ⟨la, lc, rfl⟩ := SliceAt.shape hl
  have hmk := run_make_row' (P := Tryd.prog) 60 4 (.bool false) 1 Tryd.underlying60 infoBool rfl .i64 .i64 l.length (by have := ht.len; omega) (by have := ht.len; omega)
  obtain ⟨W, hW⟩ : ∃ W, W = (w.alloc (.cells #[.int .i64 vars, .slice fa cl.length fc] 27)).alloc (.cells #[.slice la l.length lc] 22) := ⟨_, rfl⟩
  have hx : Ext w W := by rw [hW]; exact ((Ext.refl w).alloc _).alloc _
  have hz : W.heap.size = w.heap.size + 2 := by rw [hW]; simp
  have h2 : W.heap[w.heap.size]? = some (.cells #[.int .i64 vars, .slice fa cl.length fc] 27 (0, 0)) := by rw [hW, heap_alloc_old _ _ (by simp)]; exact heap_new _ _
  have h3 : W.heap[w.heap.size + 1]? = some (.cells #[.slice la l.length lc] 22 (0, 0)) := by rw [hW]; have := heap_new (w.alloc (.cells #[.int .i64 vars, .slice fa cl.length fc] 27)) (.cells #[.slice la l.length lc] 22); rw [World.size_alloc] at this; exact this
  have p0 : W.cell? ⟨w.heap.size, 0, none⟩ = some (.int .i64 vars) := by simp [World.cell?, h2]
  have p1 : W.cell? ⟨w.heap.size, 1, none⟩ = some (.slice fa cl.length fc) := by simp [World.cell?, h2]
  have p2 : W.cell? ⟨w.heap.size + 1, 0, none⟩ = some (.slice la l.length lc) := by simp [World.cell?, h3]
  have HX := Lib.hid hx; have HZ := Lib.hid hz; have H2 := Lib.hid h2; have H3 := Lib.hid h3; have HW := Lib.hid hW; have HL := Lib.hid (hl.ext hx); have HL0 := Lib.hid hl; have HF := Lib.hid (hf.ext hx); have HT := Lib.hid ht; have HMK := Lib.hid hmk
  clear hf hl ht hcl hx hz h2 h3 hW hmk
  refine (callsIn_wide (n := 3)).1 ?_
  refine callsIn_of_wp_marks Tryd.func15 rfl trivial ?_ rfl
  simp only [Tryd.ntmps15, List.size_toArray, List.length_cons, List.length_nil, Nat.reduceAdd, Nat.reduceSub, Array.replicate_succ, Array.replicate_zero, List.push_toArray, List.append_toArray, List.nil_append, List.cons_append]
  gi_upto_region 1 with fail
  rw [← HW.out]
  clear HW
  generalize hb2 : w.heap.size = b2 at *
  gi_wp2
  refine ⟨trivial, (callsIn_wide.2 (PValid_any vars cl l _ _ _ HF.out HL.out HT.out)).mono ?_⟩
  rintro r W1 ⟨rfl, x1⟩
  have X1 := Lib.hid x1
  replace p0 := x1.cell p0; replace p1 := x1.cell p1; replace p2 := x1.cell p2
  clear x1
  cases hv : validP vars cl.length l with
  | false =>
    gi_wp2
    refine ⟨.tuple #[.slice none 0 0, .int .i64 1], by simp [results, Tryd.results15, go_sem], ?_⟩
    exact ⟨HX.out.trans X1.out, fun _ => rfl, fun h => by rw [hv] at h; cases h⟩
  | true =>
    have hmk := HMK.out
    have q1 : ∀ o, (W1.alloc o).cell? ⟨b2 + 1, 0, none⟩ = some (.slice la l.length lc) := fun o => ((Ext.refl W1).alloc o).cell p2
    have q2 : ∀ o o', ((W1.alloc o).alloc o').cell? ⟨b2 + 1, 0, none⟩ = some (.slice la l.length lc) := fun o o' => (((Ext.refl W1).alloc o).alloc o').cell p2
    have q3 : ∀ o o' o'', (((W1.alloc o).alloc o').alloc o'').cell? ⟨b2 + 1, 0, none⟩ = some (.slice la l.length lc) := fun o o' o'' => ((((Ext.refl W1).alloc o).alloc o').alloc o'').cell p2
    gi_wp2
    refine ⟨trivial, (backward_in _ _ _).mono ?_⟩
    rintro r W3 ⟨rfl, hW3⟩
    obtain ⟨T, hT⟩ : ∃ T, W1.heap.size = T := ⟨_, rfl⟩
    rw [hT] at hW3 ⊢
    have hTM : TrimM w vars fa la cl.length fc l.length lc T (markAll cl.length l (valsL ([] : List (Lt l.length)))) W3 := by
      have hs := X1.out.size
      rw [HZ.out] at hs
      have x3 : Ext W1 W3 := by rw [hW3]; exact ((((Ext.refl W1).alloc _).alloc _).alloc _).alloc _
      have hl0 : ∀ (w : World) (o : Obj) (k : Nat), k < w.heap.size → (w.alloc o).heap[k]? = w.heap[k]? := fun w o k hk => heap_alloc_old _ _ hk
      refine ⟨HX.out.trans (X1.out.trans x3), ?_, ?_, ?_, ?_, ?_, by omega⟩
      · rw [hb2, (X1.out.trans x3).block _ (by have := HZ.out; omega)]; exact H2.out
      · rw [hb2, (X1.out.trans x3).block _ (by have := HZ.out; omega)]; exact H3.out
      · rw [hW3, hl0 _ _ _ (by simp; omega), hl0 _ _ _ (by simp; omega), hl0 _ _ _ (by simp; omega), ← hT]; exact heap_new _ _
      · refine World.rowIs.of_block (w := (W1.alloc (.cells #[.int .i64 (cl.length : Nat)] 3)).alloc (.cells (madeCells #[.bool false] l.length) 4)) ?_ (by rw [hW3, hl0 _ _ _ (by simp; omega), hl0 _ _ _ (by simp; omega)])
        have := World.rowIs_made (W1.alloc (.cells #[.int .i64 (cl.length : Nat)] 3)) (.bool false) l.length 4
        rw [World.size_alloc, hT] at this
        exact this
      · rw [hW3, hl0 _ _ _ (by simp; omega)]
        have := heap_new ((W1.alloc (.cells #[.int .i64 (cl.length : Nat)] 3)).alloc (.cells (madeCells #[.bool false] l.length) 4)) (.cells #[.slice (some ⟨T + 1, 0, none⟩) l.length l.length] 60)
        rw [World.size_alloc, World.size_alloc, hT] at this
        exact this
    have hBn : W3.cell? ⟨T + 3, 0, none⟩ = some (.int .i64 l.length) := by
      have := heap_new (((W1.alloc (.cells #[.int .i64 (cl.length : Nat)] 3)).alloc (.cells (madeCells #[.bool false] l.length) 4)).alloc (.cells #[.slice (some ⟨T + 1, 0, none⟩) l.length l.length] 60)) (.cells #[.int .i64 (l.length : Nat)] 3)
      rw [World.size_alloc, World.size_alloc, World.size_alloc, hT, ← hW3] at this
      simp [World.cell?, this]
    have hs3 : W3.heap.size = T + 4 := by rw [hW3]; simp [hT]
    simp only [World.size_alloc, hT, Nat.add_assoc, Nat.reduceAdd]
    have HTM := Lib.hid hTM; have HBN := Lib.hid hBn; have HS3 := Lib.hid hs3
    clear hTM hBn hs3 hW3 hT q1 q2 q3 hmk p0 p1 p2
    have HB2 := Lib.hid hb2
    clear hb2
    have hlen := HT.out.len
    gi_wp2
    refine wpIn_rangeFunc_ownG rfl (by omega) (gf := 42) (lb := #[.pointer (some ⟨T + 3, 0, none⟩)]) rfl trivial (enters_of Tryd.func42 (by kernel_rfl) rfl)
      (back_stops 2 (by omega) (T + 3) w.heap.size l.length hlen W3 (by have := HS3.out; omega) HBN.out) belowK_t (belowK_b HTM.out.ext.size) (Below.refl _ _) (fun _ => rfl)
      (fun pre W' => TrimM w vars fa la cl.length fc l.length lc T (markAll cl.length l (valsL pre)) W')
      (fun _ _ _ => False) (TrimM.own HTM.out.ext.size) (fun _ _ _ _ _ hs _ _ => hs) HTM.out
      (fun x => { tmps := #[.agg #[.int .i64 vars, .slice fa cl.length fc], .slice la l.length lc, .pointer (some ⟨b2, 0, none⟩), .pointer (some ⟨b2 + 1, 0, none⟩), .slice none 0 0, .int .i64 0, .pointer (some ⟨T, 0, none⟩), .pointer (some ⟨T + 2, 0, none⟩), .int .i64 (x.1 : Nat), undef, undef, undef, undef, undef, undef, undef, undef, undef, undef, .agg #[.int .i64 vars, .slice fa cl.length fc], .slice la l.length lc, .bool true, .bool false, .pointer (some ⟨b2, 1, none⟩), .slice fa cl.length fc, .int .i64 (cl.length : Nat), .slice la l.length lc, .int .i64 (l.length : Nat), .slice (some ⟨T + 1, 0, none⟩) l.length l.length, .slice la l.length lc, .int .i64 (l.length : Nat), .func (.func 42) #[] #[.pointer (some ⟨T + 3, 0, none⟩)], .int .i64 (x.1 : Nat), undef, undef, undef, undef, undef, undef, undef, undef, undef, undef, undef, undef, undef, undef, undef, undef, undef, undef, undef, undef, undef, undef, undef, undef, undef, undef, undef, undef, undef, undef, undef, undef, undef, undef, undef, undef, undef, undef, undef, undef, undef, undef, undef, undef, undef, undef, undef, undef, undef, undef, undef, undef, undef, undef, undef, undef, undef, undef, undef, undef, undef, undef, undef, undef, undef, undef, undef, undef, undef, undef, undef, undef, undef, undef, undef, undef, undef, undef, undef, undef, undef], defers := [] }) ?assign ?body ?done ?stop
    case assign =>
      intro l x W' K hK
      gi_wp2
      exact hK
    case body =>
      rintro lp pre ⟨x, hxl⟩ W' hI hlt
      have HSN : Hid (markAll cl.length l (valsL (pre ++ [⟨x, hxl⟩])) = markStep cl.length l (markAll cl.length l (valsL pre)) x) := (congrArg (markAll cl.length l) (valsL_snoc pre ⟨x, hxl⟩)).trans (markAll_snoc _ _ _ _)
      generalize markAll cl.length l (valsL pre) = f at *
      have HI := Lib.hid hI
      obtain ⟨c0, c1, c2, c3, c4, c5, c6⟩ := hI.cells
      clear hI hlt
      rw [HB2.out] at c2
      clear c0 c1
      have c5x := c5 x hxl
      have c6x := c6 x
      have x0 : (0 : Int) ≤ (x : Int) := by omega
      have x1 : (x : Int) < (l.length : Int) := by omega
      have hw1 : IntKind.i64.wrap ((l.length : Int) - 1) = (l.length : Int) - 1 := by rw [IntKind.wrap_i64]; omega
      dsimp only
      rcases Decidable.em (x + 1 = l.length) with e | e
      · have hq : (l.length : Int) - 1 = (x : Int) := by omega
        gi_upto_region 9 with fail
        have HM1 : Hid (TrimM w vars fa la cl.length fc l.length lc T (lastMark l.length f x) (W'.setCell ⟨T + 1, x, none⟩ (.bool true))) := (HI.out.mark x).congr fun j _ => by
          unfold lastMark
          by_cases c : j = x
          · subst c; simp [e]
          · simp [c]
        have HK1 : Hid (KeepsOthers W' (W'.setCell ⟨T + 1, x, none⟩ (.bool true))) := KeepsOthers.setCell _ _ _
        have HBL : Hid (Below w.heap.size W' (W'.setCell ⟨T + 1, x, none⟩ (.bool true))) := (Below.refl w.heap.size W').setCell (p := ⟨T + 1, x, none⟩) (by have := HI.out.lt; show w.heap.size ≤ T + 1; omega) _
        generalize W'.setCell ⟨T + 1, x, none⟩ (.bool true) = V at *
        clear c2 c3 c4 c5 c6 c5x c6x hq hw1
        obtain ⟨c0, c1, c2, c3, c4, c5, c6⟩ := HM1.out.cells
        rw [HB2.out] at c2
        have c5x := c5 x hxl
        clear c0 c1 c5
        have HDF : Hid (markStep cl.length l f x = if lastMark l.length f x x then hintMark cl.length (lastMark l.length f x) (l.getD x st0).hints else lastMark l.length f x) := rfl
        generalize lastMark l.length f x = f1 at *
        cases hm : f1 x with
        | false =>
          rw [hm] at c5x
          rw [hm] at HDF
          gi_wp2
          refine ⟨HK1.out.from _, HBL.out, ?_⟩
          show TrimM w _ _ _ _ _ _ _ _ (markAll cl.length l (valsL (pre ++ [⟨x, hxl⟩]))) _
          rw [HSN.out, HDF.out]
          exact HM1.out
        | true =>
          rw [hm] at c5x
          rw [hm, if_pos rfl] at HDF
          obtain ⟨b, o, a1, g1, a2, g2, hla, d0, d1, i1, i2⟩ := HL0.out.getD_at hxl
          subst hla
          have HHB := Lib.hid ((valid_iff.1 hv).hints x hxl)
          have hmem : l.getD x st0 ∈ l := by
            have : l.getD x st0 = l[x] := by simp [List.getD, hxl]
            rw [this]; exact List.getElem_mem hxl
          have hhl := HT.out.hints _ hmem
          have I2 := Lib.hid i2
          replace d1 := HM1.out.ext.cell d1
          clear d0 i1 i2 hmem
          generalize (l.getD x st0).hints = hs at *
          gi_wp2
          gi_loopw [52] (fun p wr => ∃ t : Nat, t ≤ hs.length ∧ p = .int .i64 t ∧ TrimM w vars fa (some ⟨b, o, none⟩) cl.length fc l.length lc T (hintMark cl.length f1 (hs.take t)) wr ∧ KeepsOthers W' wr ∧ Below w.heap.size W' wr) (fun p _ => hs.length - (intOf p).toNat)
          case atStart => exact ⟨0, Nat.zero_le _, rfl, by rw [List.take_zero, hintMark_nil]; exact HM1.out, HK1.out, HBL.out⟩
          case round =>
            obtain ⟨t, ht, rfl, hM, hK, hB⟩ := hrel
            have HM2 := Lib.hid hM; have HK2 := Lib.hid hK; have HB3 := Lib.hid hB
            clear hM hK hB c2 c3 c4 c6 c5x d1
            obtain ⟨c0, c1, c2, c3, c4, c5, c6⟩ := HM2.out.cells
            clear c0 c1 c2
            by_cases hlt : t < hs.length
            · have hI3 : Ints wr (.slice a2 hs.length g2) hs := I2.out.ext HM2.out.ext
              obtain ⟨bh, oh, rfl, ch⟩ := ints_at hI3 t hlt
              have HTK : Hid (hs.take (t + 1) = hs.take t ++ [hs.getD t 0]) := by unfold Hid; rw [List.take_succ_eq_append_getElem hlt]; simp [List.getD, hlt]
              have hb := HHB.out (hs.getD t 0) (by rw [show hs.getD t 0 = hs[t] by simp [List.getD, hlt]]; exact List.getElem_mem hlt)
              obtain ⟨hb1, hb2⟩ := hb
              clear hI3
              generalize hs.getD t 0 = h at *
              have t0 : (0 : Int) ≤ (t : Int) := by omega
              have t1 : (t : Int) < (hs.length : Int) := by omega
              by_cases c : (cl.length : Int) ≤ h
              · obtain ⟨j, rfl⟩ : ∃ j : Nat, h = (cl.length : Int) + (j : Int) := ⟨(h - cl.length).toNat, by omega⟩
                have hjl : j < l.length := by omega
                have j0 : (0 : Int) ≤ (j : Int) := by omega
                have j1 : (j : Int) < (l.length : Int) := by omega
                have hw2 : IntKind.i64.wrap ((cl.length : Int) + (j : Int) - (cl.length : Int)) = (j : Int) := by rw [IntKind.wrap_i64]; omega
                have c6j := c6 j
                have c5j := c5 j hjl
                have hM3 := (HM2.out.mark j).congr (g := hintMark cl.length f1 (hs.take (t + 1))) fun i _ => by
                  rw [HTK.out, hintMark_snoc]
                  by_cases q : i = j
                  · subst q; simp
                  · rw [if_neg q, decide_eq_false (by omega), Bool.or_false]
                have HM3 := Lib.hid hM3
                have HK3 : Hid (KeepsOthers W' (wr.setCell ⟨T + 1, j, none⟩ (.bool true))) := HK2.out.trans (KeepsOthers.setCell _ _ _)
                have HB4 : Hid (Below w.heap.size W' (wr.setCell ⟨T + 1, j, none⟩ (.bool true))) := HB3.out.setCell (p := ⟨T + 1, j, none⟩) (by have := HI.out.lt; show w.heap.size ≤ T + 1; omega) _
                clear hM3 c6 c5
                gi_wp2
                go_roundw
                case rel => exact ⟨t + 1, by omega, by go_num, HM3.out, HK3.out, HB4.out⟩
                case measure => simp [intOf]; omega
              · have HM3 : Hid (TrimM w vars fa (some ⟨b, o, none⟩) cl.length fc l.length lc T (hintMark cl.length f1 (hs.take (t + 1))) wr) := HM2.out.congr fun i _ => by
                  rw [HTK.out, hintMark_snoc, decide_eq_false (by omega), Bool.or_false]
                gi_wp2
                go_roundw
                case rel => exact ⟨t + 1, by omega, by go_num, HM3.out, HK2.out, HB3.out⟩
                case measure => simp [intOf]; omega
            · obtain rfl : t = hs.length := by omega
              gi_wp2
              refine ⟨HK2.out.from _, HB3.out, ?_⟩
              show TrimM w _ _ _ _ _ _ _ _ (markAll cl.length l (valsL (pre ++ [⟨x, hxl⟩]))) _
              rw [HSN.out, HDF.out]
              have := HM2.out
              rwa [List.take_length] at this
      · have hq : ¬ (x : Int) = (l.length : Int) - 1 := by omega
        gi_upto_region 9 with fail
        have HM1 : Hid (TrimM w vars fa la cl.length fc l.length lc T (lastMark l.length f x) W') := HI.out.congr fun j _ => by
          unfold lastMark; simp [e]
        have HK1 : Hid (KeepsOthers W' W') := KeepsOthers.refl _
        have HBL : Hid (Below w.heap.size W' W') := Below.refl _ _
        obtain ⟨V, hV⟩ : ∃ V, V = W' := ⟨_, rfl⟩
        rw [← hV]
        rw [show TrimM w vars fa la cl.length fc l.length lc T (lastMark l.length f x) W' = TrimM w vars fa la cl.length fc l.length lc T (lastMark l.length f x) V by rw [hV]] at HM1
        rw [show KeepsOthers W' W' = KeepsOthers W' V by rw [hV]] at HK1
        rw [show Below w.heap.size W' W' = Below w.heap.size W' V by rw [hV]] at HBL
        clear hV
        clear c2 c3 c4 c5 c6 c5x c6x hq hw1
        obtain ⟨c0, c1, c2, c3, c4, c5, c6⟩ := HM1.out.cells
        rw [HB2.out] at c2
        have c5x := c5 x hxl
        clear c0 c1 c5
        have HDF : Hid (markStep cl.length l f x = if lastMark l.length f x x then hintMark cl.length (lastMark l.length f x) (l.getD x st0).hints else lastMark l.length f x) := rfl
        generalize lastMark l.length f x = f1 at *
        cases hm : f1 x with
        | false =>
          rw [hm] at c5x
          rw [hm] at HDF
          gi_wp2
          refine ⟨HK1.out.from _, HBL.out, ?_⟩
          show TrimM w _ _ _ _ _ _ _ _ (markAll cl.length l (valsL (pre ++ [⟨x, hxl⟩]))) _
          rw [HSN.out, HDF.out]
          exact HM1.out
        | true =>
          rw [hm] at c5x
          rw [hm, if_pos rfl] at HDF
          obtain ⟨b, o, a1, g1, a2, g2, hla, d0, d1, i1, i2⟩ := HL0.out.getD_at hxl
          subst hla
          have HHB := Lib.hid ((valid_iff.1 hv).hints x hxl)
          have hmem : l.getD x st0 ∈ l := by
            have : l.getD x st0 = l[x] := by simp [List.getD, hxl]
            rw [this]; exact List.getElem_mem hxl
          have hhl := HT.out.hints _ hmem
          have I2 := Lib.hid i2
          replace d1 := HM1.out.ext.cell d1
          clear d0 i1 i2 hmem
          generalize (l.getD x st0).hints = hs at *
          gi_wp2
          gi_loopw [52] (fun p wr => ∃ t : Nat, t ≤ hs.length ∧ p = .int .i64 t ∧ TrimM w vars fa (some ⟨b, o, none⟩) cl.length fc l.length lc T (hintMark cl.length f1 (hs.take t)) wr ∧ KeepsOthers W' wr ∧ Below w.heap.size W' wr) (fun p _ => hs.length - (intOf p).toNat)
          case atStart => exact ⟨0, Nat.zero_le _, rfl, by rw [List.take_zero, hintMark_nil]; exact HM1.out, HK1.out, HBL.out⟩
          case round =>
            obtain ⟨t, ht, rfl, hM, hK, hB⟩ := hrel
            have HM2 := Lib.hid hM; have HK2 := Lib.hid hK; have HB3 := Lib.hid hB
            clear hM hK hB c2 c3 c4 c6 c5x d1
            obtain ⟨c0, c1, c2, c3, c4, c5, c6⟩ := HM2.out.cells
            clear c0 c1 c2
            by_cases hlt : t < hs.length
            · have hI3 : Ints wr (.slice a2 hs.length g2) hs := I2.out.ext HM2.out.ext
              obtain ⟨bh, oh, rfl, ch⟩ := ints_at hI3 t hlt
              have HTK : Hid (hs.take (t + 1) = hs.take t ++ [hs.getD t 0]) := by unfold Hid; rw [List.take_succ_eq_append_getElem hlt]; simp [List.getD, hlt]
              have hb := HHB.out (hs.getD t 0) (by rw [show hs.getD t 0 = hs[t] by simp [List.getD, hlt]]; exact List.getElem_mem hlt)
              obtain ⟨hb1, hb2⟩ := hb
              clear hI3
              generalize hs.getD t 0 = h at *
              have t0 : (0 : Int) ≤ (t : Int) := by omega
              have t1 : (t : Int) < (hs.length : Int) := by omega
              by_cases c : (cl.length : Int) ≤ h
              · obtain ⟨j, rfl⟩ : ∃ j : Nat, h = (cl.length : Int) + (j : Int) := ⟨(h - cl.length).toNat, by omega⟩
                have hjl : j < l.length := by omega
                have j0 : (0 : Int) ≤ (j : Int) := by omega
                have j1 : (j : Int) < (l.length : Int) := by omega
                have hw2 : IntKind.i64.wrap ((cl.length : Int) + (j : Int) - (cl.length : Int)) = (j : Int) := by rw [IntKind.wrap_i64]; omega
                have c6j := c6 j
                have c5j := c5 j hjl
                have hM3 := (HM2.out.mark j).congr (g := hintMark cl.length f1 (hs.take (t + 1))) fun i _ => by
                  rw [HTK.out, hintMark_snoc]
                  by_cases q : i = j
                  · subst q; simp
                  · rw [if_neg q, decide_eq_false (by omega), Bool.or_false]
                have HM3 := Lib.hid hM3
                have HK3 : Hid (KeepsOthers W' (wr.setCell ⟨T + 1, j, none⟩ (.bool true))) := HK2.out.trans (KeepsOthers.setCell _ _ _)
                have HB4 : Hid (Below w.heap.size W' (wr.setCell ⟨T + 1, j, none⟩ (.bool true))) := HB3.out.setCell (p := ⟨T + 1, j, none⟩) (by have := HI.out.lt; show w.heap.size ≤ T + 1; omega) _
                clear hM3 c6 c5
                gi_wp2
                go_roundw
                case rel => exact ⟨t + 1, by omega, by go_num, HM3.out, HK3.out, HB4.out⟩
                case measure => simp [intOf]; omega
              · have HM3 : Hid (TrimM w vars fa (some ⟨b, o, none⟩) cl.length fc l.length lc T (hintMark cl.length f1 (hs.take (t + 1))) wr) := HM2.out.congr fun i _ => by
                  rw [HTK.out, hintMark_snoc, decide_eq_false (by omega), Bool.or_false]
                gi_wp2
                go_roundw
                case rel => exact ⟨t + 1, by omega, by go_num, HM3.out, HK2.out, HB3.out⟩
                case measure => simp [intOf]; omega
            · obtain rfl : t = hs.length := by omega
              gi_wp2
              refine ⟨HK2.out.from _, HB3.out, ?_⟩
              show TrimM w _ _ _ _ _ _ _ _ (markAll cl.length l (valsL (pre ++ [⟨x, hxl⟩]))) _
              rw [HSN.out, HDF.out]
              have := HM2.out
              rwa [List.take_length] at this
    case done =>
      rintro D ys W' hD hys hI hK
      have HNB : Hid (∀ j, j < l.length → markAll cl.length l (valsL ys) j = needB cl.length l j) := by
        unfold Hid
        rw [hys]
        intro j hj
        exact markAll_need (fun k hk g hg => ((valid_iff.1 hv).hints k hk g hg).2) hj
      have HI := Lib.hid (hI.congr HNB.out); have HK := Lib.hid hK
      clear hI hK hys HNB
      have hmk2 := run_make_row' (P := Tryd.prog) 33 3 (.int .i64 0) 8 Tryd.underlying33 infoInt rfl .i64 .i64 l.length (by have := HT.out.len; omega) (by have := HT.out.len; omega)
      obtain ⟨c0, c1, c2, c3, c4, c5, c6⟩ := HI.out.cells
      rw [HB2.out] at c2
      clear c0 c1 c3 c4 c5 c6
      have HWS : Hid (T + 3 ≤ W'.heap.size) := lt_heap HI.out.b7
      have q1 : ∀ o, (W'.alloc o).cell? ⟨b2 + 1, 0, none⟩ = some (.slice la l.length lc) := fun o => ((Ext.refl W').alloc o).cell c2
      have q2 : ∀ o o', ((W'.alloc o).alloc o').cell? ⟨b2 + 1, 0, none⟩ = some (.slice la l.length lc) := fun o o' => (((Ext.refl W').alloc o).alloc o').cell c2
      have HD : Hid (D < W'.heap.size) := lt_heap HK.out
      gi_upto_region 17 with fail
      obtain ⟨N, hN⟩ : ∃ N, W'.heap.size = N := ⟨_, rfl⟩
      obtain ⟨V0, hV0⟩ : ∃ V0, V0 = (W'.alloc (.cells (madeCells #[.int .i64 0] l.length) 3)).alloc (.cells #[.slice (some ⟨W'.heap.size, 0, none⟩) l.length l.length] 33) := ⟨_, rfl⟩
      have hTN : TrimN w vars fa la cl.length fc l.length lc T (needB cl.length l) W' N (numsTo cl.length l 0) V0 := by
        have x3 : Ext W' V0 := by rw [hV0]; exact ((Ext.refl W').alloc _).alloc _
        refine ⟨HI.out.later x3, x3, by omega, by have := HWS.out; omega, ?_, ?_⟩
        · refine World.rowIs.of_block (w := W'.alloc (.cells (madeCells #[.int .i64 0] l.length) 3)) ?_ (by rw [hV0]; exact heap_alloc_old _ _ (by simp; omega))
          have := World.rowIs_made W' (.int .i64 0) l.length 3
          rw [hN] at this
          exact this.congr fun i _ => by unfold numsTo; simp
        · rw [hV0]
          have := heap_new (W'.alloc (.cells (madeCells #[.int .i64 0] l.length) 3)) (.cells #[.slice (some ⟨W'.heap.size, 0, none⟩) l.length l.length] 33)
          rw [World.size_alloc] at this
          rw [← hN]; exact this
      have HNE := Lib.hid hN
      simp only [hN] at hV0 ⊢
      rw [← hV0]
      have HTN := Lib.hid hTN
      clear c2
      have c2 := hTN.tm.cells.2.2.1
      rw [HB2.out] at c2
      clear hTN hV0 q1 q2 hmk2 hN
      gi_wp2
      gi_loopw [13, 71] (fun v p wr => ∃ k : Nat, k ≤ l.length ∧ p = .int .i64 k ∧ TrimN w vars fa la cl.length fc l.length lc T (needB cl.length l) W' N (numsTo cl.length l k) wr ∧ OwnSteps wr (N + 2) v (trimTo cl.length l k)) (fun _ p _ => l.length - (intOf p).toNat)
      case atStart => exact ⟨0, Nat.zero_le _, rfl, HTN.out, OwnSteps.nil _ _⟩
      case round =>
        obtain ⟨k, hk, rfl, hN1, hO1⟩ := hrel
        have HN1 := Lib.hid hN1; have HO1 := Lib.hid hO1
        clear hN1 hO1 c2
        by_cases hlt : k < l.length
        · obtain ⟨b, o, a1, g1, a2, g2, hla, d0, d1, i1, i2⟩ := HL0.out.getD_at hlt
          subst hla
          replace d0 := HN1.out.tm.ext.cell d0; replace d1 := HN1.out.tm.ext.cell d1
          have hmem : l.getD k st0 ∈ l := by
            have : l.getD k st0 = l[k] := by simp [List.getD, hlt]
            rw [this]; exact List.getElem_mem hlt
          have HHL := Lib.hid (HT.out.hints _ hmem)
          have HLL := Lib.hid (HT.out.lits _ hmem).1
          have HHB := Lib.hid ((valid_iff.1 hv).hints k hlt)
          have HVB := Lib.hid fun k hk g hg => ((valid_iff.1 hv).hints k hk g hg).2
          have HSN : Hid (stepN cl.length l k = ⟨(l.getD k st0).lits, (l.getD k st0).hints.map (renN cl.length l)⟩) := rfl
          have HRN : Hid (∀ hn : Need cl.length l k, ∀ h ∈ (l.getD k st0).hints, renT cl.length l (k + 1) h = renN cl.length l h) := fun hn h hh => renT_eq hn hlt HVB.out (k + 1) (by omega) hh
          have I1 := Lib.hid i1; have I2 := Lib.hid i2
          clear i1 i2 hmem HVB
          generalize (l.getD k st0).lits = lits at *
          generalize (l.getD k st0).hints = hs at *
          have k0 : (0 : Int) ≤ (k : Int) := by omega
          have k1 : (k : Int) < (l.length : Int) := by omega
          gi_upto_region 22 with fail
          obtain ⟨W1, hW1⟩ : ∃ W1, W1 = wr.alloc (.cells #[.slice a1 lits.length g1, .slice a2 hs.length g2] 35) := ⟨_, rfl⟩
          have x1 : Ext wr W1 := by rw [hW1]; exact (Ext.refl _).alloc _
          have hB15 : W1.heap[wr.heap.size]? = some (.cells #[.slice a1 lits.length g1, .slice a2 hs.length g2] 35 (0, 0)) := by rw [hW1]; exact heap_new _ _
          rw [← hW1]
          have HN2 := Lib.hid (HN1.out.later x1); have HO2 := Lib.hid (HO1.out.kept x1); have B15 := Lib.hid hB15
          have HBN : Hid (N + 2 ≤ wr.heap.size) := lt_heap HN1.out.nb
          clear x1 hB15 hW1 d0 d1
          generalize wr.heap.size = b15 at *
          obtain ⟨c0, c1, c2, c3, c4, c5, c6⟩ := HN2.out.tm.cells
          rw [HB2.out] at c2
          have c5k := c5 k hlt
          clear c0 c1 c5 c6
          cases hm : needB cl.length l k with
          | false =>
            rw [hm] at c5k
            gi_wp2
            go_roundw
            case rel => exact ⟨k + 1, by omega, by go_num, HN2.out.congr fun j _ => (numsTo_miss hm j).symm, by rw [trimTo_succ, hm]; exact HO2.out⟩
            case measure => simp [intOf]; omega
          | true =>
            rw [hm] at c5k
            replace HRN := Lib.hid (HRN.out (needB_iff.1 hm))
            obtain ⟨ra, rc, rfl⟩ := SliceAt.shape HO2.out.steps
            obtain ⟨e0, e1, e2⟩ := HN2.out.cells
            have e1k := e1 k hlt
            have e2k := e2 k
            have HRK : Hid ((trimTo cl.length l k).length = rankN cl.length l k) := trimTo_len _ _ _
            have hrk : rankN cl.length l k ≤ k := rank_bd _ _ _
            generalize hrl : (trimTo cl.length l k).length = rk at *
            have hncl := HT.out.cl
            have hw3 : IntKind.i64.wrap ((cl.length : Int) + (rk : Int)) = (cl.length : Int) + (rk : Int) := by rw [IntKind.wrap_i64]; have := HRK.out; omega
            have hw4 : wrap64 ((cl.length : Int) + (rk : Int)) = (cl.length : Int) + (rk : Int) := by unfold wrap64; have := HRK.out; omega
            gi_upto_region 24 with fail
            have HN3 : Hid (TrimN w vars fa (some ⟨b, o, none⟩) cl.length fc l.length lc T (needB cl.length l) W' N (numsTo cl.length l (k + 1)) (W1.setCell ⟨N, k, none⟩ (.int .i64 ((cl.length : Int) + (rk : Int))))) := (HN2.out.store k ((cl.length : Int) + (rk : Int))).congr fun j _ => by
              rw [numsTo_hit hm j, ← HRK.out]; split
              · push_cast; rfl
              · rfl
            have HO3 : Hid (OwnSteps (W1.setCell ⟨N, k, none⟩ (.int .i64 ((cl.length : Int) + (rk : Int)))) (N + 2) (.slice ra rk rc) (trimTo cl.length l k)) := HO2.out.keep fun i hb _ => heap_setCell_other _ _ _ _ (by show i ≠ N; omega)
            have hB15 : (W1.setCell ⟨N, k, none⟩ (.int .i64 ((cl.length : Int) + (rk : Int)))).heap[b15]? = some (.cells #[.slice a1 lits.length g1, .slice a2 hs.length g2] 35 (0, 0)) := (heap_setCell_other _ _ _ _ (by have := HBN.out; show b15 ≠ N; omega)).trans B15.out
            clear c2 c3 c4 c5k e0 e1 e2 e1k e2k hw3 hw4 B15
            generalize W1.setCell ⟨N, k, none⟩ (.int .i64 ((cl.length : Int) + (rk : Int))) = W2 at *
            have B15 := Lib.hid hB15
            have q0 : W2.cell? ⟨b15, 0, none⟩ = some (.slice a1 lits.length g1) := by rw [Lib.cell_of_heap hB15]; rfl
            clear hB15
            have HE2 : Hid (Ext w W2) := HN3.out.tm.ext
            refine wpIn_wide.2 ?_
            go_wp2_with (at_builtin; refine wpList_append_list rfl (.const (.slice none 0 0)) (.tmp 89) rfl W2.heap.size _ _ [] lits rfl rfl (OwnInts.nil _ _) (I1.out.ext HE2.out) (by have := HLL.out; simp; omega) (Nat.le_refl _) ?_)
            intro v1 w3 hown hgr
            have x3 : Ext W2 w3 := (Ext.refl W2).grown hgr (fun q hq => by cases hq)
            obtain ⟨va, vc, rfl⟩ := hown.ints.shape
            have HO1' := Lib.hid hown; have HX3 := Lib.hid x3
            have q1 : ∀ o, (w3.alloc o).cell? ⟨b15, 1, none⟩ = some (.slice a2 hs.length g2) := fun o => (x3.trans ((Ext.refl w3).alloc o)).cell (by rw [Lib.cell_of_heap B15.out]; rfl)
            clear hown x3 hgr q0
            go_wp2_with fail
            gi_upto_region 25 with fail
            have HN4 := Lib.hid (HN3.out.later HX3.out); have HO4 := Lib.hid (HO3.out.kept HX3.out)
            obtain ⟨b16, hb16⟩ : ∃ b16, w3.heap.size = b16 := ⟨_, rfl⟩
            obtain ⟨W4, hW4⟩ : ∃ W4, W4 = w3.alloc (.cells #[.slice va lits.length vc, .slice none 0 0] 35) := ⟨_, rfl⟩
            have x4 : Ext w3 W4 := by rw [hW4]; exact (Ext.refl _).alloc _
            have hB16 : W4.heap[b16]? = some (.cells #[.slice va lits.length vc, .slice none 0 0] 35 (0, 0)) := by rw [hW4, ← hb16]; exact heap_new _ _
            have HB16 := Lib.hid hb16
            have q2 := q1 (.cells #[.slice va lits.length vc, .slice none 0 0] 35)
            rw [← hW4] at q2 ⊢
            rw [hb16]
            have X4 := Lib.hid x4; have BK16 := Lib.hid hB16
            clear x4 hB16 hb16 hW4 q1
            gi_wp2
            gi_loopw [95] (fun p wr => ∃ (t : Nat) (v2 : Value), t ≤ hs.length ∧ p = .int .i64 t ∧ Ext w3 wr ∧ wr.heap[b16]? = some (.cells #[.slice va lits.length vc, v2] 35 (0, 0)) ∧ OwnInts wr (b16 + 1) v2 (renL cl.length l hs t)) (fun p _ => hs.length - (intOf p).toNat)
            case atStart => exact ⟨0, _, Nat.zero_le _, rfl, X4.out, BK16.out, OwnInts.nil _ _⟩
            case round =>
              obtain ⟨t, v2, ht, rfl, hX, hB, hV2⟩ := hrel
              have HX5 := Lib.hid hX; have HB5 := Lib.hid hB; have HV5 := Lib.hid hV2
              clear hX hB hV2 q2
              by_cases hlj : t < hs.length
              · have hI3 : Ints wr (.slice a2 hs.length g2) hs := I2.out.ext (HE2.out.trans (HX3.out.trans HX5.out))
                obtain ⟨bh, oh, rfl, ch⟩ := ints_at hI3 t hlj
                have HRS := Lib.hid (renL_succ cl.length l hs t hlj)
                have hmem : hs.getD t 0 ∈ hs := by rw [show hs.getD t 0 = hs[t] by simp [List.getD, hlj]]; exact List.getElem_mem hlj
                have HR1 := Lib.hid (HRN.out _ hmem)
                have HR2 := Lib.hid (HHB.out _ hmem)
                have HRL := Lib.hid (renL_len cl.length l hs t)
                clear hI3 hmem
                generalize hs.getD t 0 = h at *
                have t0 : (0 : Int) ≤ (t : Int) := by omega
                have t1 : (t : Int) < (hs.length : Int) := by omega
                have HN6 := Lib.hid (HN4.out.later (HX5.out.trans (Ext.refl wr).drew))
                have hren : Calls Tryd.prog 29 #[.int .i64 h, .pointer (some ⟨T, 0, none⟩), .pointer (some ⟨N + 1, 0, none⟩)] wr.drew fun r w' => r = .returned (.int .i64 (renN cl.length l h)) ∧ w' = wr.drew := by
                  refine (renumber_any cl.length h T (N + 1) N l.length (numsTo cl.length l (k + 1)) wr.drew (by have := HT.out.len; omega) HN6.out.tm.cells.2.2.2.1 HN6.out.cells.1 HN6.out.nr (by have := HR2.out; omega)).mono ?_
                  rintro r w' ⟨rfl, rfl⟩
                  refine ⟨?_, rfl⟩
                  rw [← HR1.out]; rfl
                have HREN := Lib.hid hren
                obtain ⟨va2, vc2, rfl⟩ := HV5.out.ints.shape
                have g1 : wr.cell? ⟨b16, 1, none⟩ = some (.slice va2 (renL cl.length l hs t).length vc2) := by rw [Lib.cell_of_heap HB5.out]; rfl
                have hall : ∀ o : Obj, (wr.drew.alloc o).cell? ⟨b16, 1, none⟩ = some (.slice va2 (renL cl.length l hs t).length vc2) := fun o => ((Ext.refl wr).drew.alloc o).cell g1
                have HALL := Lib.hid hall
                have HSZ : Hid (b16 + 1 ≤ wr.heap.size) := lt_heap HB5.out
                have hl5 : (renL cl.length l hs t).length ≤ 1000000000 := by have := HRL.out; have := HHL.out; omega
                clear hren hall
                generalize renN cl.length l h = y at *
                gi_upto_region 28 with fail
                clear ch
                refine wpIn_wide.2 ?_
                refine wp_normal2 ?_
                refine wp_region_held (S := fun w' => Ext w3 w') (by kernel_rfl) ?_
                generalize hv0 : ({ wr with drawn := wr.drawn + 1 } : World) = v0
                have E0 : Hid (Ext wr v0) := by unfold Hid; rw [← hv0]; exact (Ext.refl wr).drew
                have hv0s : v0.heap.size = wr.heap.size := by rw [← hv0]
                have HREN0 : Hid (Calls Tryd.prog 29 #[.int .i64 h, .pointer (some ⟨T, 0, none⟩), .pointer (some ⟨N + 1, 0, none⟩)] v0 fun r w' => r = .returned (.int .i64 y) ∧ v0 = w') := by unfold Hid; rw [← hv0]; exact HREN.out.mono fun _ _ e => ⟨e.1, e.2.symm⟩
                have hb0 : v0.heap[b16]? = some (.cells #[.slice va lits.length vc, .slice va2 (renL cl.length l hs t).length vc2] 35 (0, 0)) := by rw [← hv0]; exact HB5.out
                have g0 : v0.cell? ⟨b16, 1, none⟩ = some (.slice va2 (renL cl.length l hs t).length vc2) := by rw [Lib.cell_of_heap hb0]; rfl
                have HXV : Hid (Ext w3 v0) := HX5.out.trans E0.out
                have HB0 := Lib.hid hb0; have HV0 := Lib.hid (HV5.out.kept E0.out); have HVS := Lib.hid hv0s
                have HAPP : Hid (∀ g cap w1, OwnInts w1 (b16 + 1) (.slice (some ⟨g, 0, none⟩) ((renL cl.length l hs t).length + 1) cap) (renL cl.length l hs t ++ [y]) → v0.grownBy w1 (Value.slice va2 (renL cl.length l hs t).length vc2).ownBlock → w1.heap[b16]? = some (.cells #[.slice va lits.length vc, .slice va2 (renL cl.length l hs t).length vc2] 35 (0, 0)) ∧ Ext w3 (w1.setCell ⟨b16, 1, none⟩ (.slice (some ⟨g, 0, none⟩) ((renL cl.length l hs t).length + 1) cap)) ∧ OwnInts (w1.setCell ⟨b16, 1, none⟩ (.slice (some ⟨g, 0, none⟩) ((renL cl.length l hs t).length + 1) cap)) (b16 + 1) (.slice (some ⟨g, 0, none⟩) ((renL cl.length l hs t).length + 1) cap) (renL cl.length l hs (t + 1)) ∧ (w1.setCell ⟨b16, 1, none⟩ (.slice (some ⟨g, 0, none⟩) ((renL cl.length l hs t).length + 1) cap)).heap[b16]? = some (.cells #[.slice va lits.length vc, .slice (some ⟨g, 0, none⟩) ((renL cl.length l hs t).length + 1) cap] 35 (0, 0))) := fun g cap w1 ho hg => by
                  have hbb := HB16.out
                  have hb8 := (hg.block b16 (by have := HSZ.out; have := HVS.out; show b16 < v0.heap.size; omega) (fun e => by have := HV5.out.base b16 e.symm; omega)).trans HB0.out
                  refine ⟨hb8, ?_, ?_, (by have := heap_setCell_same w1 b16 1 _ _ (.slice (some ⟨g, 0, none⟩) ((renL cl.length l hs t).length + 1) cap) hb8; simpa using this)⟩
                  · exact ((HX5.out.trans E0.out).grown hg (fun q hq => by have := HV5.out.base q hq; omega)).setCell (p := ⟨b16, 1, none⟩) (by show w3.heap.size ≤ b16; omega) _
                  · rw [HRS.out]; exact ho.keep fun q hq => heap_setCell_other _ _ _ _ (by have := ho.base q hq; show q ≠ b16; omega)
                have HAPX : Hid (∀ (g cap : Nat) (w1 : World), v0.grownBy w1 (Value.slice va2 (renL cl.length l hs t).length vc2).ownBlock → Ext w3 w1) := fun g cap w1 hg => (HX5.out.trans E0.out).grown hg (fun q hq => by have := HV5.out.base q hq; have := HB16.out; omega)
                have hhl := HHL.out
                clear hv0 hb0 hv0s g1 HX HL HL0 HF HT HMK H2 H3 X1 HTM HI HK HTN HN1 HO1 HHL HLL HHB HSN HRN I1 I2 HN2 HO2 HN3 HO3 HN4 HO4 HN6 HO1' B15 X4 BK16 HRS HR1 HR2 HRL HREN hrk hncl k0 k1 HALL
                refine wpAnyH_take (i := 0) (v := .pointer (some ⟨b16, 1, none⟩)) rfl (by kernel_rfl) (by kernel_rfl) (by kernel_rfl) (fun _ _ _ h => h) (.inl ⟨rfl, fun w' hx' => by go_simp⟩) HXV.out ?_
                refine wpAnyH_take (i := 2) (v := .func (.func 29) #[] #[.pointer (some ⟨T, 0, none⟩), .pointer (some ⟨N + 1, 0, none⟩)]) rfl (by kernel_rfl) (by kernel_rfl) (by kernel_rfl) (fun _ _ _ h => h) (.inl ⟨rfl, fun w' hx' => by go_simp⟩) HXV.out ?_
                refine wpAnyH_take (i := 3) (v := .int .i64 h) rfl (by kernel_rfl) (by kernel_rfl) (by kernel_rfl) (fun _ _ _ h => h) (.inl ⟨rfl, fun w' hx' => by go_simp⟩) HXV.out ?_
                refine wpAnyH_all (rs := [1, 4]) (by kernel_rfl) (by simp) ?_
                intro i hi
                have hi' : i = 1 ∨ i = 4 := by simpa using hi
                clear hi
                rcases hi' with rfl | rfl
                · unfold wpOp
                  go_simp
                  refine .inl ⟨HXV.out, ?_⟩
                  refine wpAnyH_all (rs := [4]) (by kernel_rfl) (by simp) ?_
                  intro i hi
                  obtain rfl : i = 4 := by simpa using hi
                  clear hi
                  unfold wpOp
                  go_simp
                  refine .inl (HREN0.out.mono ?_)
                  rintro r w' ⟨rfl, rfl⟩
                  refine ⟨HXV.out, ?_⟩
                  refine wpAnyH_all (rs := [5]) (by kernel_rfl) (by simp) ?_
                  intro i hi
                  obtain rfl : i = 5 := by simpa using hi
                  clear hi
                  unfold wpOp
                  go_simp
                  refine .inl ⟨HXV.out.alloc _, ?_⟩
                  refine wpAnyH_all (rs := [6]) (by kernel_rfl) (by simp) ?_
                  intro i hi
                  obtain rfl : i = 6 := by simpa using hi
                  clear hi
                  refine wpOp_step rfl ?_
                  intro KK hKK
                  refine step_append_int rfl (.tmp 100) (.tmp 104) rfl (b16 + 1) v0 v0.heap.size rfl _ (renL cl.length l hs t) y rfl rfl HV0.out hl5 (by have := HSZ.out; have := HVS.out; omega) ?_
                  intro g cap w1 ho hg
                  refine hKK _ _ ⟨HAPX.out g cap w1 hg, ?_⟩
                  obtain ⟨hb7, z1, z2, z3⟩ := HAPP.out g cap w1 ho hg
                  have hk1 : w1.cell? ⟨b16, 1, none⟩ = some (.slice va2 (renL cl.length l hs t).length vc2) := by rw [Lib.cell_of_heap hb7]; rfl
                  have fz : w1.frozen? ⟨b16, 1, none⟩ = false := Lib.frozen_of_heap hb7 1
                  have Z1 := Lib.hid z1; have Z2 := Lib.hid z2; have Z3 := Lib.hid z3; have Z4 := Lib.hid (HAPX.out g cap w1 hg)
                  clear ho hg hb7 z1 z2 z3
                  refine wpAnyH_take (i := 7) (v := .pointer (some ⟨b16, 1, none⟩)) rfl (by kernel_rfl) (by kernel_rfl) (by kernel_rfl) (fun _ _ _ h => h) (.inl ⟨rfl, fun w' hx' => by go_simp⟩) Z4.out ?_
                  refine wpAnyH_all (rs := [8]) (by kernel_rfl) (by simp) ?_
                  intro i hi
                  obtain rfl : i = 8 := by simpa using hi
                  clear hi
                  unfold wpOp
                  go_simp
                  refine .inl ⟨Z1.out, ?_⟩
                  refine wpAnyH_done (by kernel_rfl) ?_ _
                  unfold onlyNormal
                  gi_wp2
                  go_roundw
                  case rel => exact ⟨t + 1, _, by omega, by go_num, Z1.out, Z3.out, Z2.out⟩
                  case measure => simp [intOf]; omega
                · unfold wpOp
                  go_simp
                  refine .inl (HREN0.out.mono ?_)
                  rintro r w' ⟨rfl, rfl⟩
                  refine ⟨HXV.out, ?_⟩
                  refine wpAnyH_all (rs := [1, 5]) (by kernel_rfl) (by simp) ?_
                  intro i hi
                  have hi' : i = 1 ∨ i = 5 := by simpa using hi
                  clear hi
                  rcases hi' with rfl | rfl
                  · unfold wpOp
                    go_simp
                    refine .inl ⟨HXV.out, ?_⟩
                    refine wpAnyH_all (rs := [5]) (by kernel_rfl) (by simp) ?_
                    intro i hi
                    obtain rfl : i = 5 := by simpa using hi
                    clear hi
                    unfold wpOp
                    go_simp
                    refine .inl ⟨HXV.out.alloc _, ?_⟩
                    refine wpAnyH_all (rs := [6]) (by kernel_rfl) (by simp) ?_
                    intro i hi
                    obtain rfl : i = 6 := by simpa using hi
                    clear hi
                    refine wpOp_step rfl ?_
                    intro KK hKK
                    refine step_append_int rfl (.tmp 100) (.tmp 104) rfl (b16 + 1) v0 v0.heap.size rfl _ (renL cl.length l hs t) y rfl rfl HV0.out hl5 (by have := HSZ.out; have := HVS.out; omega) ?_
                    intro g cap w1 ho hg
                    refine hKK _ _ ⟨HAPX.out g cap w1 hg, ?_⟩
                    obtain ⟨hb7, z1, z2, z3⟩ := HAPP.out g cap w1 ho hg
                    have hk1 : w1.cell? ⟨b16, 1, none⟩ = some (.slice va2 (renL cl.length l hs t).length vc2) := by rw [Lib.cell_of_heap hb7]; rfl
                    have fz : w1.frozen? ⟨b16, 1, none⟩ = false := Lib.frozen_of_heap hb7 1
                    have Z1 := Lib.hid z1; have Z2 := Lib.hid z2; have Z3 := Lib.hid z3; have Z4 := Lib.hid (HAPX.out g cap w1 hg)
                    clear ho hg hb7 z1 z2 z3
                    refine wpAnyH_take (i := 7) (v := .pointer (some ⟨b16, 1, none⟩)) rfl (by kernel_rfl) (by kernel_rfl) (by kernel_rfl) (fun _ _ _ h => h) (.inl ⟨rfl, fun w' hx' => by go_simp⟩) Z4.out ?_
                    refine wpAnyH_all (rs := [8]) (by kernel_rfl) (by simp) ?_
                    intro i hi
                    obtain rfl : i = 8 := by simpa using hi
                    clear hi
                    unfold wpOp
                    go_simp
                    refine .inl ⟨Z1.out, ?_⟩
                    refine wpAnyH_done (by kernel_rfl) ?_ _
                    unfold onlyNormal
                    gi_wp2
                    go_roundw
                    case rel => exact ⟨t + 1, _, by omega, by go_num, Z1.out, Z3.out, Z2.out⟩
                    case measure => simp [intOf]; omega
                  · unfold wpOp
                    go_simp
                    refine .inl ⟨HXV.out.alloc _, ?_⟩
                    have g2 : (v0.alloc (.cells #[.int .i64 y] 3)).cell? ⟨b16, 1, none⟩ = some (.slice va2 (renL cl.length l hs t).length vc2) := ((Ext.refl v0).alloc _).cell g0
                    refine wpAnyH_all (rs := [1]) (by kernel_rfl) (by simp) ?_
                    intro i hi
                    obtain rfl : i = 1 := by simpa using hi
                    clear hi
                    unfold wpOp
                    go_simp
                    refine .inl ⟨HXV.out.alloc _, ?_⟩
                    refine wpAnyH_all (rs := [6]) (by kernel_rfl) (by simp) ?_
                    intro i hi
                    obtain rfl : i = 6 := by simpa using hi
                    clear hi
                    refine wpOp_step rfl ?_
                    intro KK hKK
                    refine step_append_int rfl (.tmp 100) (.tmp 104) rfl (b16 + 1) v0 v0.heap.size rfl _ (renL cl.length l hs t) y rfl rfl HV0.out hl5 (by have := HSZ.out; have := HVS.out; omega) ?_
                    intro g cap w1 ho hg
                    refine hKK _ _ ⟨HAPX.out g cap w1 hg, ?_⟩
                    obtain ⟨hb7, z1, z2, z3⟩ := HAPP.out g cap w1 ho hg
                    have hk1 : w1.cell? ⟨b16, 1, none⟩ = some (.slice va2 (renL cl.length l hs t).length vc2) := by rw [Lib.cell_of_heap hb7]; rfl
                    have fz : w1.frozen? ⟨b16, 1, none⟩ = false := Lib.frozen_of_heap hb7 1
                    have Z1 := Lib.hid z1; have Z2 := Lib.hid z2; have Z3 := Lib.hid z3; have Z4 := Lib.hid (HAPX.out g cap w1 hg)
                    clear ho hg hb7 z1 z2 z3
                    refine wpAnyH_take (i := 7) (v := .pointer (some ⟨b16, 1, none⟩)) rfl (by kernel_rfl) (by kernel_rfl) (by kernel_rfl) (fun _ _ _ h => h) (.inl ⟨rfl, fun w' hx' => by go_simp⟩) Z4.out ?_
                    refine wpAnyH_all (rs := [8]) (by kernel_rfl) (by simp) ?_
                    intro i hi
                    obtain rfl : i = 8 := by simpa using hi
                    clear hi
                    unfold wpOp
                    go_simp
                    refine .inl ⟨Z1.out, ?_⟩
                    refine wpAnyH_done (by kernel_rfl) ?_ _
                    unfold onlyNormal
                    gi_wp2
                    go_roundw
                    case rel => exact ⟨t + 1, _, by omega, by go_num, Z1.out, Z3.out, Z2.out⟩
                    case measure => simp [intOf]; omega
              · obtain rfl : t = hs.length := by omega
                rw [renL_all] at HV5
                obtain ⟨va2, vc2, rfl⟩ := HV5.out.ints.shape
                have HSTP : Hid (trimTo cl.length l (k + 1) = trimTo cl.length l k ++ [stepN cl.length l k]) := by unfold Hid; rw [trimTo_succ, hm]; rfl
                have h1 : wr.cell? ⟨b16, 0, none⟩ = some (.slice va lits.length vc) := by rw [Lib.cell_of_heap HB5.out]; rfl
                have h2 : wr.cell? ⟨b16, 1, none⟩ = some (.slice va2 (hs.map (renN cl.length l)).length vc2) := by rw [Lib.cell_of_heap HB5.out]; rfl
                have HW3 : Hid (N + 2 ≤ w3.heap.size) := by have := lt_heap HN4.out.nb; exact this
                have HQ1 : Hid (OwnInts wr (N + 2) (.slice va lits.length vc) (stepN cl.length l k).lits) := by
                  unfold Hid; rw [HSN.out]
                  exact (HO1'.out.kept HX5.out).mono (by have h1 := lt_heap HN3.out.nb; omega)
                have HQ2 : Hid (OwnInts wr (N + 2) (.slice va2 (hs.map (renN cl.length l)).length vc2) (stepN cl.length l k).hints) := by
                  unfold Hid; rw [HSN.out]
                  exact HV5.out.mono (by have := HW3.out; have := HB16.out; omega)
                have HO7 := Lib.hid (HO4.out.kept HX5.out)
                have HN7 := Lib.hid (HN4.out.later HX5.out)
                have hrkl : (trimTo cl.length l k).length ≤ 1000000 := by rw [hrl]; have := HRK.out; have := HT.out.len; omega
                have HWB : Hid (N + 2 ≤ wr.heap.size) := by have := lt_heap HN7.out.nb; exact this
                generalize (hs.map (renN cl.length l)).length = hl2 at *
                gi_upto_region 30 with fail
                refine wpIn_wide.2 ?_
                go_wp2_with (at_builtin; refine wpList_append_step rfl (.tmp 108) (.tmp 110) rfl (N + 2) wr _ (trimTo cl.length l k) _ _ (stepN cl.length l k) rfl rfl HO7.out HQ1.out HQ2.out hrkl HWB.out ?_)
                intro v' w5 ho hg
                have HO8 := Lib.hid ho
                have HN8 := Lib.hid (HN7.out.grown hg fun q hq => (HO7.out.typed q hq).1)
                clear ho hg
                go_wp2_with fail
                gi_wp2
                go_roundw
                case rel => exact ⟨k + 1, by omega, by go_num, HN8.out, by rw [HSTP.out]; exact HO8.out⟩
                case measure => simp [intOf]; omega
        · obtain rfl : k = l.length := by omega
          clear HL HF HL0
          have HO2 : Hid (OwnSteps wr (N + 2) u13 (trimL cl.length l)) := HO1.out
          have HKD : Hid (wr.heap[D]? = some (.deferred (some []))) := (HN1.out.ext.block D HD.out).trans HK.out
          have HDN : Hid (D < N) := by have := HD.out; have := HNE.out; unfold Hid; omega
          have HWD : Hid (w.heap.size ≤ D) := by have := HTM.out.ext.size; have := HS3.out; unfold Hid; omega
          gi_wp2
          have hg7 := grownBy_putObj' wr D (.deferred none)
          refine ⟨by simp, .inl ⟨_, _, rfl, run_takeDeferred HKD.out, ?_⟩⟩
          refine ⟨.tuple #[u13, .int .i64 0], by simp [results, Tryd.results15, go_sem], ?_⟩
          refine ⟨HN1.out.tm.ext.grown hg7 fun k e => by cases e; exact HWD.out, fun h => (by rw [hv] at h; cases h), fun _ => ⟨u13, rfl, (HO2.out.keep fun k hk hk2 => hg7.block k hk2 fun e => by cases e; have := HDN.out; omega).steps⟩⟩
    case stop =>
      rintro D c pre W _ _ h _
      exact h.elim
end Go.Proofs.YteclcnbaaiidbaaDoor
