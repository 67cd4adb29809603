/-
  The walk of states.Of. Printed by gen_of.py out of XOf3.src.
  The walk of relation.shape.
  The walk of relation.Identity.
-/
import Derived.Test.YtlnahhlddekhoaaGreatDoorG22
import Derived.Test.YtlnahhlddekhoaaGreatDoorG11
import Derived.Test.YtlnahhlddekhoaaGreatDoorG03
import Derived.Test.YtlnahhlddekhoaaGreatDoorG12
import Derived.Test.YtlnahhlddekhoaaGreatDoorG20
namespace Go.Proofs.YtlnahhlddekhoaaGreatDoor
open Go.RowKit

def zeros32 : List Int := List.replicate 32 0
/-- The state with a number. -/
def stN (cs ws : List Int) (n : Nat) : List Int := stateS cs ws (n : Int) zeros32
def supB (list : List Int) (e : E) : Bool := e.supNow.all fun c => list.contains c
def ofErr (cells : List CellD) (list : List Int) (e : E) : Int :=
  if widthsB cells list then if sumI (wOf cells list) ≤ 12 then if e.valid cells false && decide (e.wd = 1) then if supB list e then 0 else 1 else 60 else 2 else 1
def ofIn (cells : List CellD) (list : List Int) (e : E) : List Nat := (List.range (pw (sumI (wOf cells list))).toNat).filter fun n => decide (e.eval (stN list (wOf cells list) n) (stN list (wOf cells list) n) = 1)
def OfPost (cells : List CellD) (list : List Int) (e : E) (w : World) (r : Ending) (w' : World) : Prop :=
  if ofErr cells list e = 0 then SetRes 0 list (wOf cells list) (castL (ofIn cells list e)) w r w' else SetRes (ofErr cells list e) [] [] [] w r w'
theorem OfPost.bad {cells : List CellD} {list : List Int} {e : E} {w w' : World} {k : Int} (h : ofErr cells list e = k) (hk : k ≠ 0) (hx : Ext w w') : OfPost cells list e w (.returned (.tuple #[.agg #[.slice none 0 0, .slice none 0 0, .slice none 0 0], .int .i64 k])) w' := by
  unfold OfPost; rw [h, if_neg hk]; exact ⟨_, rfl, SetO.nil _ _, hx⟩

/-- make([]int, 32). -/
def ints32 : Array Value := (zeros32.map (Value.int .i64)).toArray
theorem made32 : madeCells (Value.int .i64 0).cells (Int.toNat 32 * 1) = ints32 := by kernel_rfl
theorem makeState32 (W : World) : (Instr.makeSlice 23 (.int .i64 32) (.int .i64 32)).run Tryz.prog W = .ok (.slice (some ⟨W.heap.size, 0, none⟩) 32 32) (W.alloc (.cells ints32 3)) := by
  obtain ⟨i, hi, hz⟩ := Option.map_eq_some_iff.1 infoInt
  simp only [Prod.mk.injEq] at hz
  have hr := run_make (P := Tryz.prog) W 23 3 i (.int .i64 0) Tryz.underlying23 hi hz.1 .i64 .i64 32 32 (by omega) (by omega) (by rw [hz.2.2]; decide) (by decide)
  rw [hr, hz.2.1, made32]; rfl
theorem ints32_at {w : World} {b : Nat} (h : w.heap[b]? = some (.cells ints32 3 (0, 0))) : Ints w (.slice (some ⟨b, 0, none⟩) 32 32) zeros32 := by
  refine .inr ⟨b, 0, 32, rfl, by simp [zeros32], fun i hi => ?_⟩
  unfold IntAt
  rw [cell_of_row _ _ _ _ _ _ h, Nat.mul_one, Nat.zero_add]
  unfold ints32
  rw [List.getElem?_toArray, List.getElem?_map, List.getElem?_eq_getElem hi]; rfl
/-- The second loop's state. -/
structure OfI (w5 : World) (x : Array Value) (M : List Nat) (V : World) : Prop where
  ext : Ext w5 V
  b0 : V.heap[w5.heap.size]? = some (.cells x 31 (0, 0))
  b1 : V.heap[w5.heap.size + 1]? = some (.cells ints32 3 (0, 0))
  m : WordsAt 112 V (w5.heap.size + 2) M
theorem OfI.kept {w5 V V' : World} {x : Array Value} {M : List Nat} (h : OfI w5 x M V) (hx : Ext V V') : OfI w5 x M V' :=
  ⟨h.ext.trans hx, (hx.block _ (lt_heap h.b0)).trans h.b0, (hx.block _ (lt_heap h.b1)).trans h.b1, h.m.ext hx⟩
theorem OfI.step {w5 V : World} {x : Array Value} {M : List Nat} (h : OfI w5 x M V) {n : Nat} (hn : n < 4096) (k : Nat) : OfI w5 x (orAt M (n / 64) (1 <<< (n % 64))) ((V.setCell ⟨w5.heap.size + 2, n / 64, none⟩ (.int .u64 (rowM M (n / 64) ||| 1 <<< (n % 64) : Nat))).drewN k) := by
  have ho : ∀ j, j ≠ w5.heap.size + 2 → (V.setCell ⟨w5.heap.size + 2, n / 64, none⟩ (.int .u64 (rowM M (n / 64) ||| 1 <<< (n % 64) : Nat))).heap[j]? = V.heap[j]? := fun j hj => heap_setCell_other _ _ _ _ hj
  exact ⟨(h.ext.setCell (p := ⟨w5.heap.size + 2, n / 64, none⟩) (by simp) _).drewN k, (ho _ (by omega)).trans h.b0, (ho _ (by omega)).trans h.b1, (h.m.set (by omega) (Nat.or_lt_two_pow (n := 64) (h.m.lt _) (shl_lt (by omega)))).drewN k⟩
def ofTo (cells : List CellD) (list : List Int) (e : E) (k : Nat) : List Nat := (List.range k).filter fun n => decide (e.eval (stN list (wOf cells list) n) (stN list (wOf cells list) n) = 1)
theorem ofTo_succ (cells : List CellD) (list : List Int) (e : E) (k : Nat) : ofTo cells list e (k + 1) = if e.eval (stN list (wOf cells list) k) (stN list (wOf cells list) k) = 1 then ofTo cells list e k ++ [k] else ofTo cells list e k := by
  unfold ofTo
  rw [List.range_succ, List.filter_append]
  by_cases h : e.eval (stN list (wOf cells list) k) (stN list (wOf cells list) k) = 1 <;> simp [h]
theorem ofTo_lt {cells : List CellD} {list : List Int} {e : E} {k : Nat} (hk : k ≤ 4096) : ∀ x ∈ ofTo cells list e k, x < 4096 := fun x hx => by
  have := List.mem_range.1 (List.mem_filter.1 hx).1; omega
theorem mapL_app (l : List Nat) (n : Nat) : mapL (l ++ [n]) = orAt (mapL l) (n / 64) (1 <<< (n % 64)) := by unfold mapL; rw [List.foldl_append]; rfl
theorem pw12_nat {s : Int} (h0 : 0 ≤ s) (h : s ≤ 12) : ∃ n : Nat, pw s = (n : Int) ∧ n ≤ 4096 := by
  refine ⟨(pw s).toNat, ?_, ?_⟩
  · have : 0 ≤ pw s := by unfold pw; exact Int.pow_nonneg (by decide)
    omega
  · have h1 := pw_mono h0 h
    have e : pw 12 = 4096 := by decide
    omega
/-- slices.Contains. -/
theorem Contains_any (l : List Int) (x : Int) (v : Value) (w : World) (hl : Ints w v l) : Calls Tryz.prog 35 #[v, .int .i64 x] w fun r w' => r = .returned (.bool (l.contains x)) ∧ w' = w := by
  rcases hl with ⟨⟨a, c, rfl⟩, rfl⟩ | ⟨b, o, cap, rfl, hm, hc⟩
  · exact Tryz.slices_Contains_int_empty a c x w
  · have := Tryz.slices_Contains_int b o l.length cap l x w (Nat.le_refl _) hm fun j hj => by
      have := hc j hj; rw [Nat.mul_one] at this; rw [this]; simp [List.getD, hj]
    rw [List.take_length] at this
    exact this

set_option maxRecDepth 100000 in
set_option maxHeartbeats 4000000 in
theorem Of_any (cells : List CellD) (list : List Int) (e : E) (vc vl ve : Value) (w : World) (hc : Cells w vc cells) (hl : Ints w vl list) (he : EVal w ve e) (hb : list.length ≤ 1000000) (hM : Masks w) (hT : DeB w) : Calls Tryz.prog 69 #[vc, vl, ve] w (OfPost cells list e w) := by
  obtain ⟨ca, cc, rfl⟩ := hc.shape
  obtain ⟨la, lc, rfl⟩ := hl.shape
  obtain ⟨ek, rfl, hek⟩ := he
  obtain ⟨ka, kc, rfl⟩ := SliceAt.shape hek
  obtain ⟨W, hW⟩ : ∃ W, Boxes w W (.cells #[.int .i64 e.op, .int .i64 e.wd, .int .i64 e.n, .slice ka e.kids.length kc] 26) (.cells #[.slice none 0 0, .slice none 0 0, .slice none 0 0] 31) := ⟨_, Boxes.mk' _ _ _⟩
  have hx := hW.ext
  have hE : EVal W (.agg #[.int .i64 e.op, .int .i64 e.wd, .int .i64 e.n, .slice ka e.kids.length kc]) e := ⟨_, rfl, hek.ext hx⟩
  obtain ⟨p0, p1, p2, p3⟩ : W.cell? ⟨w.heap.size, 0, none⟩ = some (.int .i64 e.op) ∧ W.cell? ⟨w.heap.size, 1, none⟩ = some (.int .i64 e.wd) ∧ W.cell? ⟨w.heap.size, 2, none⟩ = some (.int .i64 e.n) ∧ W.cell? ⟨w.heap.size, 3, none⟩ = some (.slice ka e.kids.length kc) := by
    simp [World.cell?, hW.b0]
  have HC := Lib.hid (hc.ext hx); have HL := Lib.hid (hl.ext hx); have HE0 := Lib.hid hE; have HM := Lib.hid (hM.ext hx); have HT := Lib.hid (hT.ext hx); have HW := Lib.hid hW
  have P0 := Lib.hid p0; have P1 := Lib.hid p1; have P2 := Lib.hid p2; have P3 := Lib.hid p3
  clear hc hl hek hE hM hT hW hx p0 p1 p2 p3
  go_enter Tryz.func69, Tryz.ntmps69
  go_upto_region 1 with fail
  rw [← HW.out.eq]
  go_wp2_with fail
  refine (widthsOf_any cells list _ _ _ HC.out HL.out hb).mono ?_
  rintro r w1 ⟨v, rfl, ⟨va, vn, vcp, rfl⟩, hv, x1⟩
  have X1 := Lib.hid x1
  cases hwb : widthsB cells list with
  | false =>
    have HWB := Lib.hid hwb
    clear hwb hv x1
    have HN : Hid (ofErr cells list e = 1) := by unfold Hid ofErr; simp [HWB.out]
    have hR := (X1.out).block (w.heap.size + 1) (by have := HW.out.size; omega)
    rw [HW.out.b1] at hR
    obtain ⟨z0, z1, z2, f0, f1, f2⟩ := block3 hR
    have HR := Lib.hid (put3_new (x := .slice none 0 0) (y := .slice none 0 0) (z := .slice none 0 0) hR)
    have HE := Lib.hid ((HW.out.ext.trans (X1.out)).put3 (b := w.heap.size + 1) (by omega) (.slice none 0 0) (.slice none 0 0) (.slice none 0 0))
    clear hR
    go_wp2_with fail
    exact bodyPost_ret (v := .tuple #[.agg #[.slice none 0 0, .slice none 0 0, .slice none 0 0], .int .i64 1]) (results_row_tmp Tryz.results69 _ _ (w.heap.size + 1) 31 _ (0, 0) _ rfl HR.out Tryz.underlying31 rfl sizeSet) rfl (OfPost.bad HN.out (by decide) HE.out)
  | true =>
    have HWB := Lib.hid hwb; have HV := Lib.hid (hv hwb)
    have hsh : shapeB list (wOf cells list) = true := by
      unfold widthsB at hwb
      rw [Bool.and_eq_true] at hwb
      exact hwb.2
    have HSH := Lib.hid hsh
    clear hwb hv x1 hsh
    go_wp2_with fail
    refine (sum_any (wOf cells list) _ _ HV.out.ints (shape_widths HSH.out)).mono ?_
    rintro r w2 ⟨rfl, rfl⟩
    by_cases h12 : sumI (wOf cells list) ≤ 12
    · have H12 := Lib.hid h12
      have hs0 : 0 ≤ sumI (wOf cells list) := by
        have := (sum_bound (shape_widths HSH.out).2 (wOf cells list).length (Nat.le_refl _)).1
        rw [List.take_length] at this; exact this
      generalize hsm : sumI (wOf cells list) = sm at *
      have HSM := Lib.hid hsm
      clear hsm
      have q0 := X1.out.cell P0.out; have q1 := X1.out.cell P1.out; have q2 := X1.out.cell P2.out; have q3 := X1.out.cell P3.out
      go_wp2_with fail
      refine (Valid_any e _ _ cells false _ (HE0.out.ext X1.out) (HC.out.ext X1.out) (HM.out.ext X1.out)).mono ?_
      rintro r w3 ⟨rfl, x3⟩
      have X3 := Lib.hid (X1.out.trans x3); have V3 := Lib.hid (HV.out.kept x3)
      have r0 := x3.cell q0; have r1 := x3.cell q1; have r2 := x3.cell q2; have r3 := x3.cell q3
      clear x3 q0 q1 q2 q3
      cases hva : e.valid cells false with
      | false =>
        have HVA := Lib.hid hva
        clear hva
        have HN : Hid (ofErr cells list e = 60) := by unfold Hid ofErr; simp [HWB.out, HSM.out, H12.out, HVA.out]
        have hR := (X3.out).block (w.heap.size + 1) (by have := HW.out.size; omega)
        rw [HW.out.b1] at hR
        obtain ⟨z0, z1, z2, f0, f1, f2⟩ := block3 hR
        have HR := Lib.hid (put3_new (x := .slice none 0 0) (y := .slice none 0 0) (z := .slice none 0 0) hR)
        have HE := Lib.hid ((HW.out.ext.trans (X3.out)).put3 (b := w.heap.size + 1) (by omega) (.slice none 0 0) (.slice none 0 0) (.slice none 0 0))
        clear hR
        go_wp2_with fail
        exact bodyPost_ret (v := .tuple #[.agg #[.slice none 0 0, .slice none 0 0, .slice none 0 0], .int .i64 60]) (results_row_tmp Tryz.results69 _ _ (w.heap.size + 1) 31 _ (0, 0) _ rfl HR.out Tryz.underlying31 rfl sizeSet) rfl (OfPost.bad HN.out (by decide) HE.out)
      | true =>
        have HVA := Lib.hid hva
        clear hva
        by_cases hw1 : e.wd = 1
        · have hwt : (e.wd != 1) = false := by simp [hw1]
          have HW1 := Lib.hid hw1
          clear hw1
          go_wp2_with fail
          refine (Support_any e _ _ (HE0.out.ext X3.out) (HM.out.ext X3.out)).mono ?_
          rintro r w4 ⟨u1, u2, rfl, i1, i2, x4⟩
          obtain ⟨sa, sc, rfl⟩ := i1.shape
          obtain ⟨ta, tc, rfl⟩ := i2.shape
          have hln := SliceAt.len_le i2
          have X4 := Lib.hid (X3.out.trans x4); have V4 := Lib.hid (V3.out.kept x4); have I2 := Lib.hid i2
          clear x4 i1 i2 r0 r1 r2 r3 hwt
          generalize hsup : e.supNow = sup at *
          have HSUP := Lib.hid hsup
          clear hsup
          go_wp2_with fail
          go_loop [49] (fun i => ∃ k : Nat, k ≤ sup.length ∧ i = .int .i64 k ∧ ∀ (j : Nat) (h : j < sup.length), j < k → list.contains sup[j] = true) (fun i => sup.length - (intOf i).toNat)
          case atStart => exact ⟨0, Nat.zero_le _, rfl, fun j _ h => absurd h (by omega)⟩
          case round =>
            obtain ⟨k, hk, rfl, hr⟩ := hrel
            have HRR := Lib.hid hr; clear hr
            by_cases hlt : k < sup.length
            · rcases I2.out with ⟨_, e⟩ | ⟨b, o, cap', e, _, hc⟩
              · rw [e] at hlt; simp at hlt
              cases e
              have g : w4.cell? ⟨b, o + k, none⟩ = some (.int .i64 sup[k]) := by have := hc k hlt; rw [Nat.mul_one] at this; exact this
              clear hc
              go_wp2_with fail
              refine (Contains_any list sup[k] _ _ (HL.out.ext X4.out)).mono ?_
              rintro r w5 ⟨rfl, rfl⟩
              cases hcn : list.contains sup[k] with
              | false =>
                have HALL : Hid ((sup.all fun c => list.contains c) = false) := by
                  unfold Hid
                  rw [Bool.eq_false_iff]
                  intro h
                  rw [List.all_eq_true] at h
                  have := h _ (List.getElem_mem hlt)
                  rw [hcn] at this; cases this
                have HALL2 : Hid (supB list e = false) := by unfold Hid supB; rw [HSUP.out]; exact HALL.out
                clear hcn
                have HN : Hid (ofErr cells list e = 1) := by unfold Hid ofErr; simp [HWB.out, HSM.out, H12.out, HVA.out, HW1.out, HALL2.out]
                have hR := (X4.out).block (w.heap.size + 1) (by have := HW.out.size; omega)
                rw [HW.out.b1] at hR
                obtain ⟨z0, z1, z2, f0, f1, f2⟩ := block3 hR
                have HR := Lib.hid (put3_new (x := .slice none 0 0) (y := .slice none 0 0) (z := .slice none 0 0) hR)
                have HE := Lib.hid ((HW.out.ext.trans (X4.out)).put3 (b := w.heap.size + 1) (by omega) (.slice none 0 0) (.slice none 0 0) (.slice none 0 0))
                clear hR
                go_wp2_with fail
                exact bodyPost_ret (v := .tuple #[.agg #[.slice none 0 0, .slice none 0 0, .slice none 0 0], .int .i64 1]) (results_row_tmp Tryz.results69 _ _ (w.heap.size + 1) 31 _ (0, 0) _ rfl HR.out Tryz.underlying31 rfl sizeSet) rfl (OfPost.bad HN.out (by decide) HE.out)
              | true =>
                have HCN := Lib.hid hcn
                clear hcn
                go_wp2_with fail
                refine ⟨⟨k + 1, by omega, by go_num, fun j h hj => ?_⟩, by simp [intOf]; omega⟩
                by_cases c : j = k
                · subst c; exact HCN.out
                · exact HRR.out j h (by omega)
            · have HALL : Hid (supB list e = true) := by
                unfold Hid supB
                rw [HSUP.out, List.all_eq_true]
                intro x hx
                obtain ⟨j, hj, rfl⟩ := List.getElem_of_mem hx
                exact HRR.out j hj (by omega)
              have HN : Hid (ofErr cells list e = 0) := by unfold Hid ofErr; simp [HWB.out, HSM.out, H12.out, HVA.out, HW1.out, HALL.out]
              clear HRR HALL
              have hlw : (wOf cells list).length ≤ 1000000 := by rw [wOf_len]; exact hb
              go_wp2_with fail
              refine (set_any list (wOf cells list) [] _ _ _ _ (HL.out.ext X4.out) V4.out.ints (.inl ⟨⟨_, _, rfl⟩, rfl⟩) (by omega) (by omega)).mono ?_
              rintro r w5 ⟨vc5, vw5, rfl, oc, ow, _, x5⟩
              obtain ⟨c5a, c5c, rfl⟩ := oc.ints.shape
              obtain ⟨w5a, w5c, rfl⟩ := ow.ints.shape
              have X5 := Lib.hid (X4.out.trans x5); have OC := Lib.hid oc; have OW := Lib.hid ow
              have hz5 : w4.heap.size ≤ w5.heap.size := x5.size
              have Y5 := Lib.hid x5
              clear x5 oc ow
              have hmk := makeState32
              go_upto_region 18 with fail
              rw [← words_zero]
              obtain ⟨W6, hW6⟩ : ∃ W6, Boxes3 w5 W6 (.cells #[.slice c5a list.length c5c, .slice w5a (wOf cells list).length w5c, .slice none 0 0] 31) (.cells ints32 3) (.cells (wordsV zeroM) 112) := ⟨_, Boxes3.mk' _ _ _ _⟩
              rw [← hW6.eq]
              have I6 : Hid (OfI w5 #[.slice c5a list.length c5c, .slice w5a (wOf cells list).length w5c, .slice none 0 0] (mapL (ofTo cells list e 0)) W6) := ⟨hW6.ext, hW6.b0, hW6.b1, ⟨hW6.b2, len_zeroM, zero_lt⟩⟩
              have X6 := Lib.hid (X5.out.trans hW6.ext)
              clear hW6 hmk
              have HPW := Lib.hid (pow_wrap hs0 H12.out)
              obtain ⟨n, hn, hn4⟩ := pw12_nat hs0 H12.out
              have HN2 := Lib.hid hn
              clear hn
              have hpv := Lib.hid (V4.out.ints.ext (Y5.out.trans I6.out.ext))
              go_wp2_with fail
              refine (sum_any (wOf cells list) _ _ hpv.out (shape_widths HSH.out)).mono ?_
              rintro r w6 ⟨rfl, rfl⟩
              rw [HSM.out]
              go_upto_region 19 with fail
              rw [HPW.out, HN2.out]
              clear HPW
              go_loopw [66] (fun i wr => ∃ k : Nat, k ≤ n ∧ i = .int .i64 k ∧ OfI w5 #[.slice c5a list.length c5c, .slice w5a (wOf cells list).length w5c, .slice none 0 0] (mapL (ofTo cells list e k)) wr) (fun i _ => n - (intOf i).toNat)
              case atStart => exact ⟨0, Nat.zero_le _, rfl, I6.out⟩
              case round =>
                obtain ⟨k, hk, rfl, hI⟩ := hrel
                have HI := Lib.hid hI; clear hI
                by_cases hlt : k < n
                · obtain ⟨c0, c1, c2, _, _, _⟩ := block3 HI.out.b0
                  have HSV : Hid (SetV wr (.agg #[.slice c5a list.length c5c, .slice w5a (wOf cells list).length w5c, .slice none 0 0]) list (wOf cells list) []) := ⟨_, _, _, rfl, OC.out.ints.ext HI.out.ext, OW.out.ints.ext HI.out.ext, .inl ⟨⟨_, _, rfl⟩, rfl⟩⟩
                  have HB32 := Lib.hid (ints32_at HI.out.b1)
                  go_wp2_with fail
                  refine (State_any list (wOf cells list) [] (k : Int) zeros32 _ _ _ HSV.out HB32.out (by simp [zeros32])).mono ?_
                  rintro r w7 ⟨v7, rfl, o7, x7⟩
                  obtain ⟨s7a, s7c, rfl⟩ := o7.ints.shape
                  have I7 := Lib.hid (HI.out.kept x7); have O7 := Lib.hid o7.ints
                  have q0 := (X5.out.trans I7.out.ext).cell P0.out; have q1 := (X5.out.trans I7.out.ext).cell P1.out; have q2 := (X5.out.trans I7.out.ext).cell P2.out; have q3 := (X5.out.trans I7.out.ext).cell P3.out
                  clear x7 o7 c0 c1 c2
                  go_wp2_with fail
                  refine (Eval_any e _ _ _ (stN list (wOf cells list) k) (stN list (wOf cells list) k) _ (HE0.out.ext (X5.out.trans I7.out.ext)) O7.out O7.out (HM.out.ext (X5.out.trans I7.out.ext))).mono ?_
                  rintro r w8 ⟨rfl, x8⟩
                  have I8 := Lib.hid (I7.out.kept x8)
                  have HSC := Lib.hid (ofTo_succ cells list e k)
                  clear x8 q0 q1 q2 q3
                  generalize e.eval (stN list (wOf cells list) k) (stN list (wOf cells list) k) = y at *
                  by_cases hy : y = 1
                  · subst hy
                    have HS1 : Hid (mapL (ofTo cells list e (k + 1)) = orAt (mapL (ofTo cells list e k)) (k / 64) (1 <<< (k % 64))) := by unfold Hid; rw [HSC.out, if_pos rfl, mapL_app]
                    have hk4 : k < 4096 := by omega
                    go_wp2_with fail
                    refine (add_any k _ _ _ hk4 I8.out.m).mono ?_
                    rintro r w9 ⟨rfl, q, hq⟩
                    have I9 := I8.out.step hk4 q
                    rw [← hq, ← HS1.out] at I9
                    have J9 := Lib.hid I9
                    clear I9 hq
                    go_wp2_with fail
                    exact ⟨⟨k + 1, by omega, by go_num, J9.out⟩, by simp [intOf]; omega⟩
                  · have hyf : (y == 1) = false := by simp [hy]
                    have HS1 : Hid (ofTo cells list e (k + 1) = ofTo cells list e k) := by unfold Hid; rw [HSC.out, if_neg hy]
                    clear hy HSC
                    go_wp2_with fail
                    exact ⟨⟨k + 1, by omega, by go_num, by rw [HS1.out]; exact I8.out⟩, by simp [intOf]; omega⟩
                · obtain rfl : k = n := by omega
                  have HIE : Hid (castL (listM (mapL (ofTo cells list e k))) = castL (ofIn cells list e)) := by
                    unfold Hid
                    have hlm := list_map (l := ofTo cells list e k) (List.Pairwise.filter _ List.pairwise_lt_range) (ofTo_lt hn4)
                    rw [hlm]
                    unfold ofIn ofTo
                    rw [HSM.out, HN2.out]; rfl
                  go_wp2_with fail
                  refine (list_any _ _ _ HI.out.m (HT.out.ext (X5.out.trans HI.out.ext))).mono ?_
                  rintro r w9 ⟨v9, rfl, o9, x9⟩
                  rw [HIE.out] at o9
                  generalize hio : castL (ofIn cells list e) = I at *
                  have HIO := Lib.hid hio
                  clear hio
                  obtain ⟨s9a, s9c, rfl⟩ := o9.ints.shape
                  have I9 := Lib.hid (HI.out.kept x9); have O9 := Lib.hid o9
                  have hzr : w5.heap.size + 2 < wr.heap.size := HI.out.m.lt_size
                  obtain ⟨c0, c1, c2, f0, f1, f2⟩ := block3 I9.out.b0
                  have hS2 := heap_setCell_same w9 w5.heap.size 2 _ _ (.slice s9a I.length s9c) I9.out.b0
                  have hoth : ∀ j, j ≠ w5.heap.size → (w9.setCell ⟨w5.heap.size, 2, none⟩ (.slice s9a I.length s9c)).heap[j]? = w9.heap[j]? := fun j hj => heap_setCell_other _ _ _ _ hj
                  have hxS : Ext w (w9.setCell ⟨w5.heap.size, 2, none⟩ (.slice s9a I.length s9c)) := (HW.out.ext.trans (X5.out.trans I9.out.ext)).setCell (p := ⟨w5.heap.size, 2, none⟩) (by have := X5.out.size; have := HW.out.size; simp; omega) _
                  have hRes : (w9.setCell ⟨w5.heap.size, 2, none⟩ (.slice s9a I.length s9c)).heap[w.heap.size + 1]? = some (.cells #[.slice none 0 0, .slice none 0 0, .slice none 0 0] 31 (0, 0)) := by
                    have h1 := X5.out.size; have h2 := HW.out.size
                    rw [hoth _ (by omega), (X5.out.trans I9.out.ext).block _ (by omega)]; exact HW.out.b1
                  have hoc : OwnInts (w9.setCell ⟨w5.heap.size, 2, none⟩ (.slice s9a I.length s9c)) w4.heap.size (.slice c5a list.length c5c) list := by
                    obtain ⟨h1, h2⟩ := OC.out.kept I9.out.ext
                    refine ⟨h1, ?_⟩
                    rcases h2 with h2 | ⟨g, cap, cur, hv, hg, hh, r⟩
                    · exact .inl h2
                    · have := own_lt OC.out g (by rw [hv]; rfl)
                      exact .inr ⟨g, cap, cur, hv, hg, (hoth g (by omega)).trans hh, r⟩
                  have how : OwnInts (w9.setCell ⟨w5.heap.size, 2, none⟩ (.slice s9a I.length s9c)) w4.heap.size (.slice w5a (wOf cells list).length w5c) (wOf cells list) := by
                    obtain ⟨h1, h2⟩ := OW.out.kept I9.out.ext
                    refine ⟨h1, ?_⟩
                    rcases h2 with h2 | ⟨g, cap, cur, hv, hg, hh, r⟩
                    · exact .inl h2
                    · have := own_lt OW.out g (by rw [hv]; rfl)
                      exact .inr ⟨g, cap, cur, hv, hg, (hoth g (by omega)).trans hh, r⟩
                  have hoi : OwnInts (w9.setCell ⟨w5.heap.size, 2, none⟩ (.slice s9a I.length s9c)) wr.heap.size (.slice s9a I.length s9c) I := by
                    obtain ⟨h1, h2⟩ := O9.out
                    refine ⟨h1, ?_⟩
                    rcases h2 with h2 | ⟨g, cap, cur, hv, hg, hh, r⟩
                    · exact .inl h2
                    · exact .inr ⟨g, cap, cur, hv, hg, (hoth g (by omega)).trans hh, r⟩
                  have HS2 := Lib.hid hS2; have HXS := Lib.hid hxS; have HRES := Lib.hid hRes
                  have hw4 : w.heap.size + 2 ≤ w4.heap.size := by have := X4.out.size; have := HW.out.size; omega
                  have HFIN : Hid (OfPost cells list e w (.returned (.tuple #[.agg #[.slice c5a list.length c5c, .slice w5a (wOf cells list).length w5c, .slice s9a I.length s9c], .int .i64 0])) (put3 (w9.setCell ⟨w5.heap.size, 2, none⟩ (.slice s9a I.length s9c)) (w.heap.size + 1) (.slice c5a list.length c5c) (.slice w5a (wOf cells list).length w5c) (.slice s9a I.length s9c))) := by
                    unfold Hid OfPost
                    rw [HN.out, if_pos rfl, HIO.out]
                    exact ⟨_, rfl, ⟨_, _, _, rfl, (hoc.put3 (by omega) _ _ _).mono (by omega), (how.put3 (by omega) _ _ _).mono (by omega), (hoi.put3 (by omega) _ _ _).mono (by omega)⟩, hxS.put3 (by omega) _ _ _⟩
                  obtain ⟨z0, z1, z2, e0, e1, e2⟩ := block3 hRes
                  obtain ⟨d0, d1, d2, _, _, _⟩ := block3 hS2
                  clear hoc how hoi hoth hS2 hxS hRes x9 o9
                  go_wp2_with fail
                  have HR9 := put3_new (x := .slice c5a list.length c5c) (y := .slice w5a (wOf cells list).length w5c) (z := .slice s9a I.length s9c) HRES.out
                  exact bodyPost_ret (v := .tuple #[.agg #[.slice c5a list.length c5c, .slice w5a (wOf cells list).length w5c, .slice s9a I.length s9c], .int .i64 0]) (results_row_tmp Tryz.results69 _ _ (w.heap.size + 1) 31 _ (0, 0) _ rfl HR9 Tryz.underlying31 rfl sizeSet) rfl HFIN.out
        · have hwt : (e.wd != 1) = true := by simp [hw1]
          have HW1 := Lib.hid hw1
          clear hw1
          have HN : Hid (ofErr cells list e = 60) := by unfold Hid ofErr; simp [HWB.out, HSM.out, H12.out, HVA.out, HW1.out]
          have hR := (X3.out).block (w.heap.size + 1) (by have := HW.out.size; omega)
          rw [HW.out.b1] at hR
          obtain ⟨z0, z1, z2, f0, f1, f2⟩ := block3 hR
          have HR := Lib.hid (put3_new (x := .slice none 0 0) (y := .slice none 0 0) (z := .slice none 0 0) hR)
          have HE := Lib.hid ((HW.out.ext.trans (X3.out)).put3 (b := w.heap.size + 1) (by omega) (.slice none 0 0) (.slice none 0 0) (.slice none 0 0))
          clear hR
          go_wp2_with fail
          exact bodyPost_ret (v := .tuple #[.agg #[.slice none 0 0, .slice none 0 0, .slice none 0 0], .int .i64 60]) (results_row_tmp Tryz.results69 _ _ (w.heap.size + 1) 31 _ (0, 0) _ rfl HR.out Tryz.underlying31 rfl sizeSet) rfl (OfPost.bad HN.out (by decide) HE.out)
    · have H12 := Lib.hid h12
      generalize hsm : sumI (wOf cells list) = sm at *
      have HSM := Lib.hid hsm
      clear hsm
      have HN : Hid (ofErr cells list e = 2) := by unfold Hid ofErr; simp [HWB.out, HSM.out, H12.out]
      have hR := (X1.out).block (w.heap.size + 1) (by have := HW.out.size; omega)
      rw [HW.out.b1] at hR
      obtain ⟨z0, z1, z2, f0, f1, f2⟩ := block3 hR
      have HR := Lib.hid (put3_new (x := .slice none 0 0) (y := .slice none 0 0) (z := .slice none 0 0) hR)
      have HE := Lib.hid ((HW.out.ext.trans (X1.out)).put3 (b := w.heap.size + 1) (by omega) (.slice none 0 0) (.slice none 0 0) (.slice none 0 0))
      clear hR
      go_wp2_with fail
      exact bodyPost_ret (v := .tuple #[.agg #[.slice none 0 0, .slice none 0 0, .slice none 0 0], .int .i64 2]) (results_row_tmp Tryz.results69 _ _ (w.heap.size + 1) 31 _ (0, 0) _ rfl HR.out Tryz.underlying31 rfl sizeSet) rfl (OfPost.bad HN.out (by decide) HE.out)
end Go.Proofs.YtlnahhlddekhoaaGreatDoor
namespace Go.Proofs.YtlnahhlddekhoaaGreatDoor
open Go.RowKit

/-- The constant 0 of one bit. -/
def zeroE : E := .mk 1 1 0 []
theorem zeroE_valid (cells : List CellD) (pair : Bool) : zeroE.valid cells pair = true := rfl
theorem zeroE_sup (list : List Int) : supB list zeroE = true := rfl
theorem zeroE_eval (old now : List Int) : zeroE.eval old now = 0 := rfl
def shapeErr (cells : List CellD) (list : List Int) : Int := if widthsB cells list then if sumI (wOf cells list) ≤ 6 then 0 else 2 else 1
theorem zeroE_in (cells : List CellD) (list : List Int) : ofIn cells list zeroE = [] := by
  unfold ofIn
  rw [List.filter_eq_nil_iff]
  intro n _
  rw [zeroE_eval]; decide
theorem zeroE_err (cells : List CellD) (list : List Int) : ofErr cells list zeroE = if widthsB cells list then if sumI (wOf cells list) ≤ 12 then 0 else 2 else 1 := by
  unfold ofErr
  rw [zeroE_valid, zeroE_sup]
  rfl
def ShapePost (cells : List CellD) (list : List Int) (w : World) (r : Ending) (w' : World) : Prop :=
  if shapeErr cells list = 0 then SetRes 0 list (wOf cells list) [] w r w' else SetRes (shapeErr cells list) [] [] [] w r w'

set_option maxHeartbeats 2000000 in
theorem rshape_any (cells : List CellD) (list : List Int) (vc vl : Value) (w : World) (hc : Cells w vc cells) (hl : Ints w vl list) (hb : list.length ≤ 1000000) (hM : Masks w) (hT : DeB w) : Calls Tryz.prog 31 #[vc, vl] w (ShapePost cells list w) := by
  obtain ⟨ca, cc, rfl⟩ := hc.shape
  obtain ⟨la, lc, rfl⟩ := hl.shape
  have hx : Ext w (w.alloc (.cells #[.slice none 0 0, .slice none 0 0, .slice none 0 0] 31)) := (Ext.refl w).alloc _
  have HC := Lib.hid (hc.ext hx); have HL := Lib.hid (hl.ext hx); have HM := Lib.hid (hM.ext hx); have HT := Lib.hid (hT.ext hx); have HX := Lib.hid hx
  clear hc hl hM hT hx
  go_enter Tryz.func31, Tryz.ntmps31
  go_wp2_with fail
  refine (Of_any cells list zeroE _ _ _ _ HC.out HL.out ⟨_, rfl, .inl ⟨⟨_, _, rfl⟩, rfl⟩⟩ hb HM.out HT.out).mono ?_
  intro r w1 h1
  unfold OfPost at h1
  rw [zeroE_err, zeroE_in, show castL [] = ([] : List Int) from rfl] at h1
  cases hwb : widthsB cells list with
  | false =>
    rw [hwb] at h1
    have HS : Hid (shapeErr cells list = 1) := by unfold Hid shapeErr; rw [hwb]; rfl
    clear hwb
    obtain ⟨v, rfl, hv, x1⟩ := h1
    obtain ⟨sa, sb, sc, sd, se, sf, rfl⟩ := hv.shape
    obtain ⟨w2, hw2⟩ : ∃ w2, w2 = w1.alloc (.cells #[.slice sa 0 sb, .slice sc 0 sd, .slice se 0 sf] 31) := ⟨_, rfl⟩
    have x2 : Ext w1 w2 := by rw [hw2]; exact (Ext.refl _).alloc _
    have hb2 : w2.heap[w1.heap.size]? = some (.cells #[.slice sa 0 sb, .slice sc 0 sd, .slice se 0 sf] 31 (0, 0)) := by rw [hw2]; exact heap_new _ _
    obtain ⟨y0, y1, y2, _, _, _⟩ := block3 hb2
    have HV := Lib.hid (hv.kept x2); have X2 := Lib.hid (x1.trans x2); have HW2 := Lib.hid hw2
    clear hv x1 x2 hw2 hb2
    go_upto_region 2 with fail
    first | rw [← HW2.out] | skip
    have hR := X2.out.block w.heap.size (by simp)
    rw [heap_new] at hR
    obtain ⟨z0, z1, z2, f0, f1, f2⟩ := block3 hR
    have HR := Lib.hid (put3_new (x := .slice sa 0 sb) (y := .slice sc 0 sd) (z := .slice se 0 sf) hR)
    have HF : Hid (ShapePost cells list w (.returned (.tuple #[.agg #[.slice sa 0 sb, .slice sc 0 sd, .slice se 0 sf], .int .i64 1])) (put3 w2 w.heap.size (.slice sa 0 sb) (.slice sc 0 sd) (.slice se 0 sf))) := by
      unfold Hid ShapePost
      rw [HS.out]
      exact ⟨_, rfl, (HV.out.put3 (by simp) _ _ _).mono (by simp), (HX.out.trans X2.out).put3 (Nat.le_refl _) _ _ _⟩
    clear hR
    go_wp2_with fail
    exact bodyPost_ret (v := .tuple #[.agg #[.slice sa 0 sb, .slice sc 0 sd, .slice se 0 sf], .int .i64 1]) (results_row_tmp Tryz.results31 _ _ w.heap.size 31 _ (0, 0) _ rfl HR.out Tryz.underlying31 rfl sizeSet) rfl HF.out
  | true =>
    rw [hwb] at h1
    by_cases h12 : sumI (wOf cells list) ≤ 12
    · rw [if_pos rfl, if_pos h12] at h1
      have hsh : shapeB list (wOf cells list) = true := by
        have h := hwb
        unfold widthsB at h
        rw [Bool.and_eq_true] at h
        exact h.2
      have HSH := Lib.hid hsh
      clear hsh
      rw [if_pos rfl] at h1
      obtain ⟨v, rfl, hv, x1⟩ := h1
      obtain ⟨sa, sb, sc, sd, se, sf, rfl⟩ := hv.shape
      obtain ⟨w2, hw2⟩ : ∃ w2, w2 = w1.alloc (.cells #[.slice sa list.length sb, .slice sc (wOf cells list).length sd, .slice se 0 sf] 31) := ⟨_, rfl⟩
      have x2 : Ext w1 w2 := by rw [hw2]; exact (Ext.refl _).alloc _
      have hb2 : w2.heap[w1.heap.size]? = some (.cells #[.slice sa list.length sb, .slice sc (wOf cells list).length sd, .slice se 0 sf] 31 (0, 0)) := by rw [hw2]; exact heap_new _ _
      obtain ⟨y0, y1, y2, _, _, _⟩ := block3 hb2
      have HV := Lib.hid (hv.kept x2); have X2 := Lib.hid (x1.trans x2); have HW2 := Lib.hid hw2
      clear hv x1 x2 hw2 hb2
      have HWB := Lib.hid hwb
      clear hwb
      go_upto_region 2 with fail
      rw [← HW2.out]
      go_wp2_with fail
      refine (rsum_any (wOf cells list) _ _ (by obtain ⟨_, _, _, e, _, h2, _⟩ := HV.out.setV; cases e; exact h2) (shape_widths HSH.out)).mono ?_
      rintro r w3 ⟨rfl, hw3⟩
      rw [hw3]; clear hw3 w3
      have y1' := y1
      by_cases h6 : sumI (wOf cells list) ≤ 6
      · have HS : Hid (shapeErr cells list = 0) := by unfold Hid shapeErr; rw [HWB.out, if_pos rfl, if_pos h6]
        generalize sumI (wOf cells list) = sm at *
        have hR := X2.out.block w.heap.size (by simp)
        rw [heap_new] at hR
        obtain ⟨z0, z1, z2, f0, f1, f2⟩ := block3 hR
        have HR := Lib.hid (put3_new (x := .slice sa list.length sb) (y := .slice sc (wOf cells list).length sd) (z := .slice se 0 sf) hR)
        have HF : Hid (ShapePost cells list w (.returned (.tuple #[.agg #[.slice sa list.length sb, .slice sc (wOf cells list).length sd, .slice se 0 sf], .int .i64 0])) (put3 w2 w.heap.size (.slice sa list.length sb) (.slice sc (wOf cells list).length sd) (.slice se 0 sf))) := by
          unfold Hid ShapePost
          rw [HS.out, if_pos rfl]
          exact ⟨_, rfl, (HV.out.put3 (by simp) _ _ _).mono (by simp), (HX.out.trans X2.out).put3 (Nat.le_refl _) _ _ _⟩
        clear hR
        go_wp2_with fail
        exact bodyPost_ret (v := .tuple #[.agg #[.slice sa list.length sb, .slice sc (wOf cells list).length sd, .slice se 0 sf], .int .i64 0]) (results_row_tmp Tryz.results31 _ _ w.heap.size 31 _ (0, 0) _ rfl HR.out Tryz.underlying31 rfl sizeSet) rfl HF.out
      · have HS : Hid (shapeErr cells list = 2) := by unfold Hid shapeErr; rw [HWB.out, if_pos rfl, if_neg h6]
        generalize sumI (wOf cells list) = sm at *
        have hR := X2.out.block w.heap.size (by simp)
        rw [heap_new] at hR
        obtain ⟨z0, z1, z2, f0, f1, f2⟩ := block3 hR
        have HR := Lib.hid (put3_new (x := .slice none 0 0) (y := .slice none 0 0) (z := .slice none 0 0) hR)
        have HF : Hid (ShapePost cells list w (.returned (.tuple #[.agg #[.slice none 0 0, .slice none 0 0, .slice none 0 0], .int .i64 2])) (put3 w2 w.heap.size (.slice none 0 0) (.slice none 0 0) (.slice none 0 0))) := by
          unfold Hid ShapePost
          rw [HS.out]
          exact ⟨_, rfl, SetO.nil _ _, (HX.out.trans X2.out).put3 (Nat.le_refl _) _ _ _⟩
        clear hR
        go_wp2_with fail
        exact bodyPost_ret (v := .tuple #[.agg #[.slice none 0 0, .slice none 0 0, .slice none 0 0], .int .i64 2]) (results_row_tmp Tryz.results31 _ _ w.heap.size 31 _ (0, 0) _ rfl HR.out Tryz.underlying31 rfl sizeSet) rfl HF.out
    · rw [if_pos rfl, if_neg h12] at h1
      have HS : Hid (shapeErr cells list = 2) := by unfold Hid shapeErr; rw [hwb, if_pos rfl, if_neg (by omega)]
      clear hwb
      obtain ⟨v, rfl, hv, x1⟩ := h1
      obtain ⟨sa, sb, sc, sd, se, sf, rfl⟩ := hv.shape
      obtain ⟨w2, hw2⟩ : ∃ w2, w2 = w1.alloc (.cells #[.slice sa 0 sb, .slice sc 0 sd, .slice se 0 sf] 31) := ⟨_, rfl⟩
      have x2 : Ext w1 w2 := by rw [hw2]; exact (Ext.refl _).alloc _
      have hb2 : w2.heap[w1.heap.size]? = some (.cells #[.slice sa 0 sb, .slice sc 0 sd, .slice se 0 sf] 31 (0, 0)) := by rw [hw2]; exact heap_new _ _
      obtain ⟨y0, y1, y2, _, _, _⟩ := block3 hb2
      have HV := Lib.hid (hv.kept x2); have X2 := Lib.hid (x1.trans x2); have HW2 := Lib.hid hw2
      clear hv x1 x2 hw2 hb2
      go_upto_region 2 with fail
      first | rw [← HW2.out] | skip
      have hR := X2.out.block w.heap.size (by simp)
      rw [heap_new] at hR
      obtain ⟨z0, z1, z2, f0, f1, f2⟩ := block3 hR
      have HR := Lib.hid (put3_new (x := .slice sa 0 sb) (y := .slice sc 0 sd) (z := .slice se 0 sf) hR)
      have HF : Hid (ShapePost cells list w (.returned (.tuple #[.agg #[.slice sa 0 sb, .slice sc 0 sd, .slice se 0 sf], .int .i64 2])) (put3 w2 w.heap.size (.slice sa 0 sb) (.slice sc 0 sd) (.slice se 0 sf))) := by
        unfold Hid ShapePost
        rw [HS.out]
        exact ⟨_, rfl, (HV.out.put3 (by simp) _ _ _).mono (by simp), (HX.out.trans X2.out).put3 (Nat.le_refl _) _ _ _⟩
      clear hR
      go_wp2_with fail
      exact bodyPost_ret (v := .tuple #[.agg #[.slice sa 0 sb, .slice sc 0 sd, .slice se 0 sf], .int .i64 2]) (results_row_tmp Tryz.results31 _ _ w.heap.size 31 _ (0, 0) _ rfl HR.out Tryz.underlying31 rfl sizeSet) rfl HF.out
end Go.Proofs.YtlnahhlddekhoaaGreatDoor
namespace Go.Proofs.YtlnahhlddekhoaaGreatDoor
open Go.RowKit

/-- The matrix of the identity, after k rows. -/
def idTo (k : Nat) : List Nat := (List.range k).foldl (fun M x => M.set x (1 <<< x)) zeroM
theorem idTo_succ (k : Nat) : idTo (k + 1) = (idTo k).set k (1 <<< k) := by unfold idTo; rw [List.range_succ, List.foldl_append]; rfl
def IdPost (cells : List CellD) (list : List Int) (w : World) (r : Ending) (w' : World) : Prop :=
  if shapeErr cells list = 0 then RelRes 0 list (wOf cells list) (castP (pairsM (idTo (pw (sumI (wOf cells list))).toNat))) w r w' else RelRes (shapeErr cells list) [] [] [] w r w'

set_option maxRecDepth 100000 in
set_option maxHeartbeats 2000000 in
theorem Identity_any (cells : List CellD) (list : List Int) (vc vl : Value) (w : World) (hc : Cells w vc cells) (hl : Ints w vl list) (hb : list.length ≤ 1000000) (hM : Masks w) (hT : DeB w) : Calls Tryz.prog 11 #[vc, vl] w (IdPost cells list w) := by
  obtain ⟨ca, cc, rfl⟩ := hc.shape
  obtain ⟨la, lc, rfl⟩ := hl.shape
  have hx : Ext w (w.alloc (.cells #[.slice none 0 0, .slice none 0 0, .slice none 0 0] 29)) := (Ext.refl w).alloc _
  have HC := Lib.hid (hc.ext hx); have HL := Lib.hid (hl.ext hx); have HM := Lib.hid (hM.ext hx); have HT := Lib.hid (hT.ext hx); have HX := Lib.hid hx
  clear hc hl hM hT hx
  go_enter Tryz.func11, Tryz.ntmps11
  go_wp2_with fail
  refine (rshape_any cells list _ _ _ HC.out HL.out hb HM.out HT.out).mono ?_
  intro r w1 h1
  unfold ShapePost at h1
  by_cases h0 : shapeErr cells list = 0
  · rw [if_pos h0] at h1
    obtain ⟨v, rfl, hv, x1⟩ := h1
    have hwb : widthsB cells list = true := by
      cases h : widthsB cells list with
      | true => rfl
      | false => unfold shapeErr at h0; rw [h] at h0; simp at h0
    have h6 : sumI (wOf cells list) ≤ 6 := by
      unfold shapeErr at h0; rw [hwb, if_pos rfl] at h0
      by_cases c : sumI (wOf cells list) ≤ 6
      · exact c
      · rw [if_neg c] at h0; simp at h0
    have hsh : shapeB list (wOf cells list) = true := by
      unfold widthsB at hwb
      rw [Bool.and_eq_true] at hwb
      exact hwb.2
    have hs0 : 0 ≤ sumI (wOf cells list) := by
      have := (sum_bound (shape_widths hsh).2 (wOf cells list).length (Nat.le_refl _)).1
      rw [List.take_length] at this; exact this
    obtain ⟨sa, sb, sc, sd, se, sf, rfl⟩ := hv.shape
    have H0 := Lib.hid h0; have HSH := Lib.hid hsh
    have hvw : Ints w1 (.slice sc (wOf cells list).length sd) (wOf cells list) := by obtain ⟨_, _, _, e, _, h2, _⟩ := hv.setV; cases e; exact h2
    have hvc : Ints w1 (.slice sa list.length sb) list := by obtain ⟨_, _, _, e, h2, _, _⟩ := hv.setV; cases e; exact h2
    obtain ⟨W3, hW3⟩ : ∃ W3, Boxes w1 W3 (.cells #[.slice sa list.length sb, .slice sc (wOf cells list).length sd, .slice se 0 sf] 31) (.cells (wordsV zeroM) 67) := ⟨_, Boxes.mk' _ _ _⟩
    have HVW := Lib.hid (hvw.ext hW3.ext); have HVC := Lib.hid (hvc.ext hW3.ext); have X1 := Lib.hid x1; have HW3 := Lib.hid hW3
    have HM3 : Hid (WordsAt 67 W3 (w1.heap.size + 1) (idTo 0)) := ⟨hW3.b1, len_zeroM, zero_lt⟩
    obtain ⟨y0, y1, y2⟩ := cells3 hW3.b0
    have HPW := Lib.hid (pow_wrap hs0 (show sumI (wOf cells list) ≤ 12 by omega))
    obtain ⟨n, hn, hn64⟩ := pw_nat hs0 h6
    have HN := Lib.hid hn
    have lc1 : list.length ≤ 1000000000 := by omega
    have lw1 : (wOf cells list).length ≤ 1000000000 := by rw [wOf_len]; omega
    have VC1 := Lib.hid hvc; have VW1 := Lib.hid hvw
    clear hv x1 h0 hwb hsh hvw hvc hW3 hn
    go_upto_region 5 with fail
    rw [← words_zero]
    first | rw [← HW3.out.eq] | skip
    go_wp2_with fail
    refine (rsum_any (wOf cells list) _ _ HVW.out (shape_widths HSH.out)).mono ?_
    rintro r w4 ⟨rfl, hw4⟩
    rw [hw4]; clear hw4 w4
    go_upto_region 6 with fail
    rw [HPW.out, HN.out]
    clear HPW hs0 h6
    go_loopw [26] (fun i wr => ∃ k : Nat, k ≤ n ∧ i = .int .i64 k ∧ Ext w1 wr ∧ wr.heap[w1.heap.size]? = some (.cells #[.slice sa list.length sb, .slice sc (wOf cells list).length sd, .slice se 0 sf] 31 (0, 0)) ∧ WordsAt 67 wr (w1.heap.size + 1) (idTo k)) (fun i _ => n - (intOf i).toNat)
    case atStart => exact ⟨0, Nat.zero_le _, rfl, HW3.out.ext, HW3.out.b0, HM3.out⟩
    case round =>
      obtain ⟨k, hk, rfl, hX, hS, hP⟩ := hrel
      have HX5 := Lib.hid hX; have HS5 := Lib.hid hS; have HP := Lib.hid hP; clear hX hS hP
      by_cases hlt : k < n
      · have hk64 : k < 64 := by omega
        have c8 := HP.out.cell hk64
        have f8 := HP.out.frozen k
        have HSET := Lib.hid (idTo_succ k)
        have i0 : (0 : Int) ≤ (k : Int) := by omega
        have i1 : (k : Int) < 64 := by omega
        have HOR := Lib.hid (u64_pow hk64)
        have P1 := Lib.hid (HP.out.set hk64 (v := 1 <<< k) (shl_lt hk64))
        have Y1 := Lib.hid (HX5.out.setCell (p := ⟨w1.heap.size + 1, k, none⟩) (by simp) (.int .u64 (1 <<< k : Nat)))
        have S1 := Lib.hid ((heap_setCell_other wr ⟨w1.heap.size + 1, k, none⟩ w1.heap.size (.int .u64 (1 <<< k : Nat)) (by simp)).trans HS5.out)
        rw [← HOR.out] at P1 Y1 S1
        go_upto_region 8 with fail
        go_still_tail 6, (by kernel_rfl)
        go_wp2_with fail
        exact ⟨⟨k + 1, by omega, by go_num, Y1.out.drew, S1.out, by rw [HSET.out]; exact P1.out.drewN 1⟩, by simp [intOf]; omega⟩
      · obtain rfl : k = n := by omega
        obtain ⟨p0, p1, p2⟩ := cells3 HS5.out
        have HVC5 := Lib.hid (VC1.out.ext HX5.out); have HVW5 := Lib.hid (VW1.out.ext HX5.out)
        have HNN : Hid ((pw (sumI (wOf cells list))).toNat = k) := by unfold Hid; rw [HN.out]; simp
        generalize hu : idTo k = U at *
        have HUU := Lib.hid hu; clear hu
        go_wp2_with fail
        refine (relation_any list (wOf cells list) U _ _ _ _ HVC5.out HVW5.out HP.out lc1 lw1).mono ?_
        rintro r w6 ⟨v, rfl, hv, x6⟩
        obtain ⟨ta, tb, tc, td, te, tf, rfl⟩ := hv.shape
        have hR := (X1.out.trans (HX5.out.trans x6)).block w.heap.size (by simp)
        rw [heap_new] at hR
        obtain ⟨z0, z1, z2, f0, f1, f2⟩ := block3 hR
        have HR := Lib.hid (put3_new (x := .slice ta list.length tb) (y := .slice tc (wOf cells list).length td) (z := .slice te (castP (pairsM U)).length tf) hR)
        have HF0 := Lib.hid (RelO.fin (HX.out.trans (X1.out.trans HX5.out)) (by have h1 := X1.out.size; have h2 := HX5.out.size; rw [World.size_alloc] at h1; omega) hv x6)
        have HF : Hid (IdPost cells list w (.returned (.tuple #[.agg #[.slice ta list.length tb, .slice tc (wOf cells list).length td, .slice te (castP (pairsM U)).length tf], .int .i64 0])) (put3 w6 w.heap.size (.slice ta list.length tb) (.slice tc (wOf cells list).length td) (.slice te (castP (pairsM U)).length tf))) := by
          unfold Hid IdPost
          rw [if_pos H0.out, HNN.out, HUU.out]
          exact ⟨_, rfl, HF0.out.1, HF0.out.2⟩
        clear hR hv x6
        go_wp2_with fail
        exact bodyPost_ret (v := .tuple #[.agg #[.slice ta list.length tb, .slice tc (wOf cells list).length td, .slice te (castP (pairsM U)).length tf], .int .i64 0]) (results_row_tmp Tryz.results11 _ _ w.heap.size 29 _ (0, 0) _ rfl HR.out Tryz.underlying29 rfl sizeRel) rfl HF.out
  · rw [if_neg h0] at h1
    obtain ⟨v, rfl, hv, x1⟩ := h1
    obtain ⟨sa, sb, sc, sd, se, sf, rfl⟩ := hv.shape
    have het : (shapeErr cells list != 0) = true := by simpa using h0
    have H0 := Lib.hid h0
    have X1 := Lib.hid x1
    have hR := (x1.alloc (.cells #[.slice sa 0 sb, .slice sc 0 sd, .slice se 0 sf] 31)).block w.heap.size (by simp)
    rw [heap_new] at hR
    obtain ⟨z0, z1, z2, f0, f1, f2⟩ := block3 hR
    have HR := Lib.hid (put3_new (x := .slice none 0 0) (y := .slice none 0 0) (z := .slice none 0 0) hR)
    have HF : Hid (IdPost cells list w (.returned (.tuple #[.agg #[.slice none 0 0, .slice none 0 0, .slice none 0 0], .int .i64 (shapeErr cells list)])) (put3 (w1.alloc (.cells #[.slice sa 0 sb, .slice sc 0 sd, .slice se 0 sf] 31)) w.heap.size (.slice none 0 0) (.slice none 0 0) (.slice none 0 0))) := by
      unfold Hid IdPost
      rw [if_neg H0.out]
      exact ⟨_, rfl, RelO.nil _ _, (HX.out.trans (X1.out.alloc _)).put3 (Nat.le_refl _) _ _ _⟩
    clear hR hv x1 h0
    generalize shapeErr cells list = er at *
    go_wp2_with fail
    exact bodyPost_ret (v := .tuple #[.agg #[.slice none 0 0, .slice none 0 0, .slice none 0 0], .int .i64 er]) (results_row_tmp Tryz.results11 _ _ w.heap.size 29 _ (0, 0) _ rfl HR.out Tryz.underlying29 rfl sizeRel) rfl HF.out
end Go.Proofs.YtlnahhlddekhoaaGreatDoor
