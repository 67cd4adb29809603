/-
  ProofPrefixes over arguments as they come in.
-/
import Derived.Test.YteclcnbaaiidbaaDoorLp4
import Derived.Test.YteclcnbaaiidbaaDoorOpenP
namespace Go.Proofs.YteclcnbaaiidbaaDoor
open Go.RowKit Go.WideShapes Go.ChangeShapes
set_option maxRecDepth 100000
/-- A refutation whose slice is not cut short of its capacity. -/
def StepsC (w : World) (v : Value) (l : List St) : Prop := StepsI w v l ∧ ∃ a c, v = .slice a l.length c ∧ l.length ≤ c
section
variable {H : Type} {enc : TypeId × Value → H} {w : World} {base : Nat} {spare : Nat → Bool} {held : Bool}
theorem open_StepsC {r : Reach} {b0 : Nat} {v : Value} {d : DataW H} {p : List MemPlace} (hv : Value.okWide Tryd.prog w r b0 22 v) (h : DataW.Trod enc Tryd.prog w base spare held 22 v d p) : ∃ l, StepsC w v l := by
  obtain ⟨l, hl⟩ := open_Steps hv h
  obtain ⟨a, c, rfl⟩ := SliceAt.shape hl.1
  obtain ⟨fuel, hf⟩ := h
  rcases DataW.trod_slice Tryd.underlying22 hf with ⟨e, _⟩ | ⟨a', len, cap, elems, rest, k, _, e, _, _, hlc, _⟩
  · have e2 : [Value.slice a l.length c] = _ := e
    simp only [List.cons.injEq, and_true, Value.slice.injEq] at e2
    exact ⟨l, hl, a, c, rfl, by omega⟩
  · have e2 : [Value.slice a l.length c] = _ := e
    simp only [List.cons.injEq, and_true, Value.slice.injEq] at e2
    exact ⟨l, hl, a, c, rfl, by omega⟩
end
theorem ProofPrefixes_card (vars : Int) (cl : List (List Int)) (l : List St) (x : Int) (vf vl : Value) (w : World) (hf : CnfI w vf vars cl) (hl : StepsC w vl l) (hx : (Lit.int .u8 x).wf = true) (hT : PTab w) :
    Calls Tryd.prog 6 #[vf, vl, .int .u8 x] w fun r w' => r = .returned (.bool true) ∧ Ext w w' := by
  obtain ⟨hs, a, c, rfl, hc⟩ := hl
  have e1 : IntKind.u8.min = 0 := rfl
  have e2 : IntKind.u8.max = 255 := rfl
  simp [Lit.wf, e1, e2] at hx
  obtain ⟨n, rfl⟩ := Int.eq_ofNat_of_zero_le hx.1
  exact ProofPrefixes_any vars cl l n (by omega) vf a c w hf.1 hs.1 hc ⟨hf.2, fun s h => (hs.2 s h).1⟩ hT
end Go.Proofs.YteclcnbaaiidbaaDoor
