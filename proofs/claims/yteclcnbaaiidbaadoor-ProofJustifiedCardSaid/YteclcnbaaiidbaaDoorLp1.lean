/-
  The walk of the law ProofJustified.
-/
import Derived.Test.YteclcnbaaiidbaaDoorLp0
namespace Go.Proofs.YteclcnbaaiidbaaDoor
open Go.RowKit

set_option maxRecDepth 100000 in
set_option maxHeartbeats 4000000 in
theorem ProofJustified_any (vars : Int) (cl : List (List Int)) (l : List St) (vf vl : Value) (w : World) (hf : CnfV w vf vars cl) (hl : Steps w vl l) (hi : Inp vars l) (hT : PTab w) :
    Calls Tryd.prog 5 #[vf, vl] w fun r w' => r = .returned (.bool true) ∧ Ext w w' := by
  obtain ⟨fa, fc, rfl, hcl⟩ := hf.shape
  obtain ⟨la, lc, rfl⟩ := SliceAt.shape hl
  obtain ⟨W, hW⟩ : ∃ W, W = w.alloc (.cells #[.int .i64 vars, .slice fa cl.length fc] 27) := ⟨_, rfl⟩
  have hx : Ext w W := by rw [hW]; exact (Ext.refl w).alloc _
  have hB : W.heap[w.heap.size]? = some (.cells #[.int .i64 vars, .slice fa cl.length fc] 27 (0, 0)) := by rw [hW]; exact heap_new _ _
  have HX := Lib.hid hx; have HB := Lib.hid hB; have HW := Lib.hid hW; have HF := Lib.hid (hf.ext hx); have HL := Lib.hid (hl.ext hx); have HI := Lib.hid hi; have HT := Lib.hid (hT.ext hx)
  clear hf hl hcl hx hB hW hi hT
  go_enter Tryd.func5, Tryd.ntmps5
  go_upto_region 1 with fail
  rw [← HW.out]
  clear HW
  generalize w.heap.size = b0 at *
  go_wp2_with fail
  refine (head_any W HT.out).mono ?_
  rintro r w1 ⟨rfl, x1⟩
  have X1 := Lib.hid x1
  have g0 : w1.cell? ⟨b0, 0, none⟩ = some (.int .i64 vars) := by rw [Lib.cell_of_heap ((x1.block _ (lt_heap HB.out)).trans HB.out)]; rfl
  have g1 : w1.cell? ⟨b0, 1, none⟩ = some (.slice fa cl.length fc) := by rw [Lib.cell_of_heap ((x1.block _ (lt_heap HB.out)).trans HB.out)]; rfl
  clear x1
  go_wp2_with fail
  refine (PSmall_any vars cl l _ _ w1 (HF.out.ext X1.out) (HL.out.ext X1.out)).mono ?_
  rintro r w2 ⟨rfl, x2⟩
  have X2 := Lib.hid (X1.out.trans x2)
  replace g0 := x2.cell g0; replace g1 := x2.cell g1
  clear x2
  cases hs : smallP cl l with
  | false =>
    go_wp2_with fail
    go_ret
    exact ⟨rfl, HX.out.trans X2.out⟩
  | true =>
    have HS := Lib.hid (small_iff hs).1
    go_wp2_with fail
    refine (RValid_any vars cl l _ _ w2 (HF.out.ext X2.out) (HL.out.ext X2.out) (HS.out.tame HI.out)).mono ?_
    rintro r w3 ⟨rfl, x3⟩
    have X3 := Lib.hid (X2.out.trans x3)
    replace g0 := x3.cell g0; replace g1 := x3.cell g1
    clear x3
    cases hv : validP vars cl.length l with
    | false =>
      go_wp2_with fail
      go_ret
      exact ⟨rfl, HX.out.trans X3.out⟩
    | true =>
      have HV := Lib.hid hv
      go_wp2_with fail
      refine (All_any vars cl l _ _ w3 (HF.out.ext X3.out) (HL.out.ext X3.out) (HS.out.sized hv)).mono ?_
      rintro r w4 ⟨rfl, x4⟩
      have X4 := Lib.hid (X3.out.trans x4)
      replace g0 := x4.cell g0; replace g1 := x4.cell g1
      clear x4
      cases ha : allJ cl l with
      | false =>
        go_wp2_with fail
        go_ret
        exact ⟨rfl, HX.out.trans X4.out⟩
      | true =>
        have HVT : Hid (validP vars cl.length (trimL cl.length l) = true) := valid_iff.2 (trim_valid (valid_iff.1 hv))
        have HAT : Hid (allJ cl (trimL cl.length l) = true) := allJ_iff.2 (all_trim (valid_iff.1 hv) (allJ_iff.1 ha))
        go_wp2_with fail
        refine (Trim_ok (HF.out.ext X4.out) (HL.out.ext X4.out) (HS.out.tame HI.out) HV.out).mono ?_
        rintro r w5 ⟨ta, tc, rfl, ht, x5⟩
        have X5 := Lib.hid (X4.out.trans x5); have T5 := Lib.hid ht
        replace g0 := x5.cell g0; replace g1 := x5.cell g1
        clear x5 ht
        go_wp2_with fail
        refine (RValid_any vars cl (trimL cl.length l) _ _ w5 (HF.out.ext X5.out) T5.out (HS.out.trim.tame HI.out.trim)).mono ?_
        rintro r w6 ⟨rfl, x6⟩
        rw [HVT.out]
        have X6 := Lib.hid (X5.out.trans x6); have T6 := Lib.hid (T5.out.ext x6)
        replace g0 := x6.cell g0; replace g1 := x6.cell g1
        clear x6
        go_wp2_with fail
        refine (All_any vars cl (trimL cl.length l) _ _ w6 (HF.out.ext X6.out) T6.out (HS.out.trim.sized HVT.out)).mono ?_
        rintro r w7 ⟨rfl, x7⟩
        rw [HAT.out]
        have X7 := Lib.hid (X6.out.trans x7)
        clear x7
        go_wp2_with fail
        go_ret
        exact ⟨rfl, HX.out.trans X7.out⟩
end Go.Proofs.YteclcnbaaiidbaaDoor
