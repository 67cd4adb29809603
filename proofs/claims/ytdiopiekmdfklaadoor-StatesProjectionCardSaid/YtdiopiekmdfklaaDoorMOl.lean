/-
  Lists of booleans among the arguments, opened.
-/
import Derived.Test.YtdiopiekmdfklaaDoorMOp
import Derived.Test.YtdiopiekmdfklaaDoorMPjl
namespace Go.Proofs.YtdiopiekmdfklaaDoor
open Go.RowKit Go.WideShapes Go.ChangeShapes
set_option maxRecDepth 100000

section
variable {H : Type} {enc : TypeId × Value → H} {w : World} {base : Nat} {spare : Nat → Bool} {held : Bool}
theorem cellsBool1 : Tryd.prog.cellsOf 4 = 1 := by kernel_rfl
theorem open_Bools {r : Reach} {b0 : Nat} {v : Value} {d : DataW H} {p : List MemPlace} (hv : Value.okWide Tryd.prog w r b0 52 v) (h : DataW.Trod enc Tryd.prog w base spare held 52 v d p) : ∃ l, Bools w v l := by
  obtain ⟨fuel, hf⟩ := h
  obtain ⟨u, l, hc, hl⟩ := slice_at (Q := BoolAt) Tryd.underlying52 cellsBool1 (by omega) (fun m hm cs' y b o ht hcl hc => by
    obtain ⟨z, rfl, _⟩ := DataW.trod_bool Tryd.underlying4 ht
    exact ⟨z, hc 0 (by omega)⟩) hf
  rw [one_cell Tryd.underlying52 hv hc]; exact ⟨l, hl⟩
end
end Go.Proofs.YtdiopiekmdfklaaDoor
