/-
  The walk of law25's All.
-/
import Derived.Test.YteclcnbaaiidbaaDoorPj1
namespace Go.Proofs.YteclcnbaaiidbaaDoor
open Go.RowKit

/-- What Justified asks of the sizes. -/
structure Sized (cl : List (List Int)) (l : List St) : Prop where
  clen : cl.length ≤ 100000
  len : l.length ≤ 100000
  lits : ∀ k, k < l.length → (l.getD k st0).lits.length ≤ 100000
  hlen : ∀ k, k < l.length → (l.getD k st0).hints.length ≤ 100000
  hints : ∀ k, k < l.length → ∀ h ∈ (l.getD k st0).hints, 0 ≤ h ∧ h < (cl.length : Int) + l.length ∧ (clauseS cl l h).length ≤ 100000
def allJ (cl : List (List Int)) (l : List St) : Bool := (List.range l.length).all fun k => jsP cl l k
theorem allJ_iff {cl : List (List Int)} {l : List St} : allJ cl l = true ↔ ∀ k, k < l.length → jsP cl l k = true := by simp [allJ]
set_option maxRecDepth 100000 in
set_option maxHeartbeats 2000000 in
theorem All_any (vars : Int) (cl : List (List Int)) (l : List St) (vf vl : Value) (w : World) (hf : CnfV w vf vars cl) (hl : Steps w vl l) (hs : Sized cl l) : Calls Tryd.prog 18 #[vf, vl] w fun r w' => r = .returned (.bool (allJ cl l)) ∧ Ext w w' := by
  obtain ⟨fa, fc, rfl, hcl⟩ := hf.shape
  obtain ⟨la, lc, rfl⟩ := SliceAt.shape hl
  obtain ⟨W, hW⟩ : ∃ W, W = w.alloc (.cells #[.int .i64 vars, .slice fa cl.length fc] 27) := ⟨_, rfl⟩
  have hx : Ext w W := by rw [hW]; exact (Ext.refl w).alloc _
  have hB : W.heap[w.heap.size]? = some (.cells #[.int .i64 vars, .slice fa cl.length fc] 27 (0, 0)) := by rw [hW]; exact heap_new _ _
  have p0 : W.cell? ⟨w.heap.size, 0, none⟩ = some (.int .i64 vars) := by simp [World.cell?, hB]
  have p1 : W.cell? ⟨w.heap.size, 1, none⟩ = some (.slice fa cl.length fc) := by simp [World.cell?, hB]
  have P0 := Lib.hid p0; have P1 := Lib.hid p1; have HL := Lib.hid (hl.ext hx); have HF := Lib.hid (hf.ext hx); have HX := Lib.hid hx; have HW := Lib.hid hW; have HS := Lib.hid hs
  have hlen := hs.len
  clear hf hl hcl hB p0 p1 hx hW hs
  go_enter Tryd.func18, Tryd.ntmps18
  go_upto_region 1 with fail
  rw [← HW.out]
  clear HW
  generalize w.heap.size = b0 at *
  go_wp2_with fail
  go_loopw [5] (fun i wr => ∃ k : Nat, k ≤ l.length ∧ i = .int .i64 k ∧ Ext W wr ∧ ∀ j, j < k → jsP cl l j = true) (fun i _ => l.length - (intOf i).toNat)
  case atStart => exact ⟨0, Nat.zero_le _, rfl, Ext.refl _, fun j h => by omega⟩
  case round =>
    obtain ⟨k, hk, rfl, hX, hJ⟩ := hrel
    have HXr := Lib.hid hX; have HJ := Lib.hid hJ; clear hX hJ
    by_cases hlt : k < l.length
    · have g0 := HXr.out.cell P0.out; have g1 := HXr.out.cell P1.out
      go_wp2_with fail
      refine (Justified_any vars cl l k _ _ _ (HF.out.ext HXr.out) (HL.out.ext HXr.out) hlt HS.out.clen HS.out.len (HS.out.lits k hlt) (HS.out.hlen k hlt) (HS.out.hints k hlt)).mono ?_
      rintro r w2 ⟨rfl, x2⟩
      have HX2 := Lib.hid (HXr.out.trans x2)
      clear x2 g0 g1
      cases hj : jsP cl l k with
      | false =>
        have HN : Hid (allJ cl l = false) := by
          unfold Hid
          rw [Bool.eq_false_iff]
          intro c
          rw [allJ_iff.1 c k hlt] at hj; cases hj
        clear hj
        go_wp2_with fail
        go_ret
        exact ⟨by rw [HN.out]; rfl, HX.out.trans HX2.out⟩
      | true =>
        have HY : Hid (∀ j, j < k + 1 → jsP cl l j = true) := fun j h => by
          by_cases c : j = k
          · rw [c]; exact hj
          · exact HJ.out j (by omega)
        clear hj
        go_wp2_with fail
        exact ⟨⟨k + 1, by omega, by go_num, HX2.out, HY.out⟩, by simp [intOf]; omega⟩
    · have HN : Hid (allJ cl l = true) := allJ_iff.2 fun j h => HJ.out j (by omega)
      go_wp2_with fail
      go_ret
      exact ⟨by rw [HN.out]; rfl, HX.out.trans HXr.out⟩
end Go.Proofs.YteclcnbaaiidbaaDoor
