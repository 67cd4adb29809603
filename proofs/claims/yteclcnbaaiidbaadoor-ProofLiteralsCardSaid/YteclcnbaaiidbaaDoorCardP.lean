/-
  The tables that the rows of law25 list; the world of the witness.
-/
import Derived.Test.YteclcnbaaiidbaaDoorCardB
import Derived.Test.YteclcnbaaiidbaaDoorPx4
import Derived.Lib.LaidTab
import Derived.Stop.LaidErr
import Derived.Shelf.Vars
namespace Go.Proofs.YteclcnbaaiidbaaDoor
open Go.ChangeShapes Go.WideShapes Go.ChangeAt Go.RowKit
set_option maxRecDepth 100000

/-- The tables that every row of this seat lists. -/
def tables : List (String × DataW Unit) := [("math/bits.deBruijn32tab", Rows.laid_math_bits_deBruijn32tab), ("math/bits.deBruijn64tab", Rows.laid_math_bits_deBruijn64tab), ("internal/strconv.uint64pow10", Rows.laid_internal_strconv_uint64pow10), ("strconv.ErrRange", Rows.laid_strconv_ErrRange), ("strconv.ErrSyntax", Rows.laid_strconv_ErrSyntax)]

theorem gPow : Tryd.prog.globalNamed "internal/strconv.uint64pow10" = some 3 := by kernel_rfl
theorem gSyn : Tryd.prog.globalNamed "strconv.ErrSyntax" = some 1 := by kernel_rfl
theorem gRan : Tryd.prog.globalNamed "strconv.ErrRange" = some 2 := by kernel_rfl
theorem pow_data {H : Type} : (Rows.laid_internal_strconv_uint64pow10 : DataW H) = Lib.tabData .u64 Lib.pow10Tab := rfl
theorem star : "*" ++ "errors.errorString" = "*errors.errorString" := by decide
theorem tpErr (u : TypeId) (h : Tryd.prog.typeName? 3 u = some "*errors.errorString") : u = 121 :=
  typeName_ptr_named (nm := "errors.errorString") (by rw [star]; kernel_rfl) (by kernel_rfl) (by decide) u (by rw [star]; exact h)

theorem tables_met {W : World} (h : laidMetH Tryd.prog tables W) (hsh : W.ShapedOpen Tryd.prog) : PTab W := by
  have h' : laidMet Tryd.prog tables W := h
  have hr : laidMet Tryd.prog [("strconv.ErrRange", Rows.laid_strconv_ErrRange), ("strconv.ErrSyntax", Rows.laid_strconv_ErrSyntax)] W := h'.tail.tail.tail
  have hs : laidMet Tryd.prog [("strconv.ErrSyntax", Rows.laid_strconv_ErrSyntax)] W := hr.tail
  obtain ⟨a1, s1, hv1, _⟩ := laid_sentinel hr gRan (by kernel_rfl) Tryd.underlying53 tpErr Tryd.underlying121 Tryd.underlying123 rfl rfl Tryd.underlying9 (by kernel_rfl) (by kernel_rfl)
  obtain ⟨a2, s2, hv2, _⟩ := laid_sentinel hs gSyn (by kernel_rfl) Tryd.underlying53 tpErr Tryd.underlying121 Tryd.underlying123 rfl rfl Tryd.underlying9 (by kernel_rfl) (by kernel_rfl)
  refine ⟨?_, ?_, ⟨_, _, by rw [World.var?_cell gSyn hv2]; rfl⟩, ⟨_, _, by rw [World.var?_cell gRan hv1]; rfl⟩⟩
  · obtain ⟨ps, ⟨_, _, _, _, _, _, _, _, _, _, ⟨_, _, _, _, _, _, _, _, _, _, ⟨g2, t2, c2, f2, p2, q2, hg2, ht2, hv2, hd2, _, _⟩, _⟩, _⟩, _, _⟩ := h'
    obtain rfl := Option.some.inj (gPow.symm.trans hg2)
    obtain rfl := Option.some.inj ((show (Tryd.prog.globals[3]?).map (·.type) = some 111 by kernel_rfl).symm.trans ht2)
    rw [pow_data] at hd2
    have e2 := Lib.cells_of_tab Tryd.underlying111 Tryd.underlying86 (by kernel_rfl) (by kernel_rfl) hd2
    unfold Pow10 Lib.TabIs
    rw [hv2]
    obtain ⟨l⟩ := c2
    rw [show l = _ from e2]
  · exact Go.Proofs.cell_of_shapedOpen_int (zero := #[.int .i64 0]) (t := 3) hsh (of_decide_eq_true (by kernel_rfl)) (by kernel_rfl) rfl (by kernel_rfl) (by kernel_rfl) Tryd.underlying3

def synS : ByteArray := { data := #[105, 110, 118, 97, 108, 105, 100, 32, 115, 121, 110, 116, 97, 120] }
def rngS : ByteArray := { data := #[118, 97, 108, 117, 101, 32, 111, 117, 116, 32, 111, 102, 32, 114, 97, 110, 103, 101] }
/-- So many blocks has the settled world. -/
noncomputable def low : Nat := (World.holding Tryd.prog default ⟨#[], #[], []⟩).heap.size
noncomputable def laidWorld (os : Os) : World :=
  setRow 1 #[.iface 121 (.pointer (some ⟨low, 0, none⟩))] (setRow 2 #[.iface 121 (.pointer (some ⟨low + 1, 0, none⟩))]
    (setRow 3 (Lib.pow10Tab.map fun z => Value.int .u64 z).toArray
      (setRow 4 (([0, 1, 28, 2, 29, 14, 24, 3, 30, 22, 20, 15, 25, 17, 4, 8, 31, 27, 13, 23, 21, 19, 16, 7, 26, 12, 18, 6, 11, 5, 10, 9] : List Int).map fun z => Value.int .u8 z).toArray
        (setRow 5 (([0, 1, 56, 2, 57, 49, 28, 3, 61, 58, 42, 50, 38, 29, 17, 4, 62, 47, 59, 36, 45, 43, 51, 22, 53, 39, 33, 30, 24, 18, 12, 5, 63, 55, 48, 27, 60, 41, 37, 16, 46, 35, 44, 21, 52, 32, 23, 11, 54, 26, 40, 15, 34, 20, 31, 10, 25, 14, 19, 9, 13, 8, 7, 6] : List Int).map fun z => Value.int .u8 z).toArray
          (World.holding Tryd.prog os ⟨#[.cells #[.string synS] 123, .cells #[.string rngS] 123], #[], []⟩)))))
end Go.Proofs.YteclcnbaaiidbaaDoor
