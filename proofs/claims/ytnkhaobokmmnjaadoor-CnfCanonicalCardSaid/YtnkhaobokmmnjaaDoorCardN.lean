/-
  The tables that the rows of law21 list; the world of the witness.
-/
import Derived.Test.YtnkhaobokmmnjaaDoorCardB
import Derived.Test.YtnkhaobokmmnjaaDoorCq5
import Derived.Lib.LaidTab
import Derived.Shelf.Vars
namespace Go.Proofs.YtnkhaobokmmnjaaDoor
open Go.ChangeShapes Go.WideShapes Go.ChangeAt Go.RowKit
set_option maxRecDepth 100000

/-- The tables that every row of this seat lists. -/
def tables : List (String × DataW Unit) := [("math/bits.deBruijn32tab", Rows.laid_math_bits_deBruijn32tab), ("math/bits.deBruijn64tab", Rows.laid_math_bits_deBruijn64tab), ("internal/strconv.uint64pow10", Rows.laid_internal_strconv_uint64pow10)]

theorem gPow : Tryd.prog.globalNamed "internal/strconv.uint64pow10" = some 0 := by kernel_rfl
theorem pow_data {H : Type} : (Rows.laid_internal_strconv_uint64pow10 : DataW H) = Lib.tabData .u64 Lib.pow10Tab := rfl

theorem tables_met {W : World} (h : laidMetH Tryd.prog tables W) (hsh : W.ShapedOpen Tryd.prog) : CTab W := by
  have h' : laidMet Tryd.prog tables W := h
  refine ⟨?_, ?_⟩
  · obtain ⟨ps, ⟨_, _, _, _, _, _, _, _, _, _, ⟨_, _, _, _, _, _, _, _, _, _, ⟨g2, t2, c2, f2, p2, q2, hg2, ht2, hv2, hd2, _, _⟩, _⟩, _⟩, _, _⟩ := h'
    obtain rfl := Option.some.inj (gPow.symm.trans hg2)
    obtain rfl := Option.some.inj ((show (Tryd.prog.globals[0]?).map (·.type) = some 131 by kernel_rfl).symm.trans ht2)
    rw [pow_data] at hd2
    have e2 := Lib.cells_of_tab Tryd.underlying131 Tryd.underlying104 (by kernel_rfl) (by kernel_rfl) hd2
    unfold Pow10 Lib.TabIs
    rw [hv2]
    obtain ⟨l⟩ := c2
    rw [show l = _ from e2]
  · exact Go.Proofs.cell_of_shapedOpen_int (zero := #[.int .i64 0]) (t := 3) hsh (of_decide_eq_true (by kernel_rfl)) (by kernel_rfl) rfl (by kernel_rfl) (by kernel_rfl) Tryd.underlying3

noncomputable def laidWorld (os : Os) : World :=
    (setRow 0 (Lib.pow10Tab.map fun z => Value.int .u64 z).toArray
      (setRow 2 (([0, 1, 28, 2, 29, 14, 24, 3, 30, 22, 20, 15, 25, 17, 4, 8, 31, 27, 13, 23, 21, 19, 16, 7, 26, 12, 18, 6, 11, 5, 10, 9] : List Int).map fun z => Value.int .u8 z).toArray
        (setRow 3 (([0, 1, 56, 2, 57, 49, 28, 3, 61, 58, 42, 50, 38, 29, 17, 4, 62, 47, 59, 36, 45, 43, 51, 22, 53, 39, 33, 30, 24, 18, 12, 5, 63, 55, 48, 27, 60, 41, 37, 16, 46, 35, 44, 21, 52, 32, 23, 11, 54, 26, 40, 15, 34, 20, 31, 10, 25, 14, 19, 9, 13, 8, 7, 6] : List Int).map fun z => Value.int .u8 z).toArray
          (World.holding Tryd.prog os ⟨#[], #[], []⟩))))
end Go.Proofs.YtnkhaobokmmnjaaDoor
