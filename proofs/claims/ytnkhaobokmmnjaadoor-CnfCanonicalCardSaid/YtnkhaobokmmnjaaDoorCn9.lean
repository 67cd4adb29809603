/-
  The walk of cnf.Eval$1.
-/
import Derived.Test.YtnkhaobokmmnjaaDoorCn8
namespace Go.Proofs.YtnkhaobokmmnjaaDoor
open Go.RowKit

/-- A slice of truth values. -/
def BoolAt (w : World) (b o : Nat) (x : Bool) : Prop := w.cell? ⟨b, o, none⟩ = some (.bool x)
theorem BoolAt.keeps : Keeps BoolAt := fun _ _ _ _ _ he h => he.cell h
def Bools (w : World) (v : Value) (l : List Bool) : Prop := SliceAt 1 BoolAt w v l

set_option maxRecDepth 100000 in
set_option maxHeartbeats 4000000 in
theorem Eval1_any (l : Int) (B : Nat) (vv : Value) (vs : List Bool) (w : World) (hB : w.cell? ⟨B, 0, none⟩ = some vv) (hv : Bools w vv vs) (hl : -8000 ≤ l ∧ l ≤ 8000) (hl0 : l ≠ 0) (q : Nat) : Calls Tryd.prog 27 #[.int .i64 l, .pointer (some ⟨B, 0, none⟩)] (w.drewN q) fun r w' => r = .returned (.bool (litT vs l)) ∧ ∃ u, w' = w.drewN u := by
  obtain ⟨va, vc, rfl⟩ := SliceAt.shape hv
  have hX : Ext w (w.drewN q) := (Ext.refl w).drewN q
  have hb := hX.cell hB
  have HV := Lib.hid (SliceAt.ext BoolAt.keeps hv hX)
  have HT : Hid (litT vs l = ((decide (absI l ≤ vs.length) && vs.getD (absI l - 1).toNat false) == decide (0 < l))) := rfl
  have ha : 1 ≤ absI l ∧ absI l ≤ 8000 := by unfold absI; split <;> omega
  clear hB hv
  go_enter Tryd.func27, Tryd.ntmps27
  go_wp2_with fail
  refine (Cabs_any l _ (by unfold InI; omega) (by omega)).mono ?_
  rintro r w2 ⟨rfl, rfl⟩
  generalize absI l = a at *
  by_cases h1 : a ≤ vs.length
  · obtain ⟨n, rfl⟩ : ∃ n : Nat, a = (n : Int) + 1 := ⟨(a - 1).toNat, by omega⟩
    have hn : n < vs.length := by omega
    rcases HV.out with ⟨_, e⟩ | ⟨b1, o1, cap1, e, _, c1⟩
    · rw [e] at hn; simp at hn
    cases e
    have g1 := c1 n hn
    unfold BoolAt at g1
    rw [Nat.mul_one] at g1
    have hw : wrap64 ((n : Int) + 1 - 1) = (n : Int) := by unfold wrap64; omega
    have HT2 : Hid (litT vs l = (vs[n] == decide (0 < l))) := by
      unfold Hid; rw [HT.out, decide_eq_true h1, Bool.true_and, show ((n : Int) + 1 - 1).toNat = n by omega]; simp [List.getD, hn]
    clear c1 HT
    generalize vs[n] = t at *
    go_wp2_with fail
    go_ret
    exact ⟨by rw [HT2.out]; rfl, q, rfl⟩
  · have HT2 : Hid (litT vs l = (false == decide (0 < l))) := by
      unfold Hid; rw [HT.out, decide_eq_false h1, Bool.false_and]
    have HT3 : Hid (litT vs l = !decide (0 < l)) := by unfold Hid; rw [HT2.out]; cases decide (0 < l) <;> rfl
    go_wp2_with fail
    go_ret
    exact ⟨by rw [HT3.out]; rfl, q, rfl⟩
end Go.Proofs.YtnkhaobokmmnjaaDoor
