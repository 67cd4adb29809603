/-
  The tables that the rows of law27 list; the world of the witness.
-/
import Derived.Test.YtoopoljchhdobaaDoorCardB
import Derived.Test.YtoopoljchhdobaaDoorOpenT
import Derived.Lib.LaidTab
import Derived.Stop.LaidErr
import Derived.Shelf.Vars
namespace Go.Proofs.YtoopoljchhdobaaDoor
open Go.ChangeShapes Go.WideShapes Go.ChangeAt Go.RowKit
set_option maxRecDepth 100000

/-- The tables that every row of this seat lists. -/
def tables : List (String × DataW Unit) := [("math/bits.deBruijn32tab", Rows.laid_math_bits_deBruijn32tab), ("math/bits.deBruijn64tab", Rows.laid_math_bits_deBruijn64tab), ("internal/strconv.uint64pow10", Rows.laid_internal_strconv_uint64pow10), ("strconv.ErrRange", Rows.laid_strconv_ErrRange), ("strconv.ErrSyntax", Rows.laid_strconv_ErrSyntax), ("relyguard/expr.masks", Rows.laid_relyguard_expr_masks), ("relyguard/expr.names", Rows.laid_relyguard_expr_names), ("relyguard/certificate.words", Rows.laid_relyguard_certificate_words)]

theorem gPow : Tryd.prog.globalNamed "internal/strconv.uint64pow10" = some 4 := by kernel_rfl
theorem gSyn : Tryd.prog.globalNamed "strconv.ErrSyntax" = some 5 := by kernel_rfl
theorem gRan : Tryd.prog.globalNamed "strconv.ErrRange" = some 6 := by kernel_rfl
theorem gMasks : Tryd.prog.globalNamed "relyguard/expr.masks" = some 3 := by kernel_rfl
theorem gNames : Tryd.prog.globalNamed "relyguard/expr.names" = some 1 := by kernel_rfl
theorem gWords : Tryd.prog.globalNamed "relyguard/certificate.words" = some 0 := by kernel_rfl
theorem gDe : Tryd.prog.globalNamed "math/bits.deBruijn64tab" = some 8 := by kernel_rfl
theorem masks_data {H : Type} : (Rows.laid_relyguard_expr_masks : DataW H) = Lib.tabData .i64 [0, 1, 3, 7, 15, 31, 63, 127, 255] := rfl
theorem pow_data {H : Type} : (Rows.laid_internal_strconv_uint64pow10 : DataW H) = Lib.tabData .u64 Lib.pow10Tab := rfl
theorem de_data {H : Type} : (Rows.laid_math_bits_deBruijn64tab : DataW H) = Lib.tabData .u8 (Lib.deBruijn64tab.map fun (n : Nat) => (n : Int)) := rfl
theorem names_data {H : Type} : (Rows.laid_relyguard_expr_names : DataW H) = .agg (namesL.map fun z => .lit (.string z)) := rfl
def wordsL : List (List UInt8) := [wordC 0, wordC 1, wordC 2]
theorem words_data {H : Type} : (Rows.laid_relyguard_certificate_words : DataW H) = .agg (wordsL.map fun z => .lit (.string z)) := rfl
theorem star : "*" ++ "errors.errorString" = "*errors.errorString" := by decide
theorem tpErr (u : TypeId) (h : Tryd.prog.typeName? 3 u = some "*errors.errorString") : u = 140 :=
  typeName_ptr_named (nm := "errors.errorString") (by rw [star]; kernel_rfl) (by kernel_rfl) (by decide) u (by rw [star]; exact h)


theorem tables_met {W : World} (h : laidMetH Tryd.prog tables W) (hsh : W.ShapedOpen Tryd.prog) : LTab W := by
  have h' : laidMet Tryd.prog tables W := h
  have k1 := h'.tail
  have k2 := k1.tail
  have k3 := k2.tail
  have k4 := k3.tail
  have k5 := k4.tail
  have k6 := k5.tail
  have k7 := k6.tail
  obtain ⟨a1, s1, hw1, _⟩ := laid_sentinel k3 gRan (by kernel_rfl) Tryd.underlying74 tpErr Tryd.underlying140 Tryd.underlying142 rfl rfl Tryd.underlying9 (by kernel_rfl) (by kernel_rfl)
  obtain ⟨a2, s2, hw2, _⟩ := laid_sentinel k4 gSyn (by kernel_rfl) Tryd.underlying74 tpErr Tryd.underlying140 Tryd.underlying142 rfl rfl Tryd.underlying9 (by kernel_rfl) (by kernel_rfl)
  obtain ⟨_, ⟨g1, t1, c1, f1, p1, q1, hg1, ht1, hv1, hd1, _, _⟩, _⟩ := k1
  obtain ⟨_, ⟨g2, t2, c2, f2, p2, q2, hg2, ht2, hv2, hd2, _, _⟩, _⟩ := k2
  obtain ⟨_, ⟨g3, t3, c3, f3, p3, q3, hg3, ht3, hv3, hd3, _, _⟩, _⟩ := k5
  obtain ⟨_, ⟨g4, t4, c4, f4, p4, q4, hg4, ht4, hv4, hd4, _, _⟩, _⟩ := k6
  obtain ⟨_, ⟨g5, t5, c5, f5, p5, q5, hg5, ht5, hv5, hd5, _, _⟩, _⟩ := k7
  obtain rfl := Option.some.inj (gDe.symm.trans hg1)
  obtain rfl := Option.some.inj (gPow.symm.trans hg2)
  obtain rfl := Option.some.inj (gMasks.symm.trans hg3)
  obtain rfl := Option.some.inj (gNames.symm.trans hg4)
  obtain rfl := Option.some.inj (gWords.symm.trans hg5)
  obtain rfl := Option.some.inj ((show (Tryd.prog.globals[4]?).map (·.type) = some 127 by kernel_rfl).symm.trans ht2)
  obtain rfl := Option.some.inj ((show (Tryd.prog.globals[3]?).map (·.type) = some 107 by kernel_rfl).symm.trans ht3)
  obtain rfl := Option.some.inj ((show (Tryd.prog.globals[1]?).map (·.type) = some 84 by kernel_rfl).symm.trans ht4)
  obtain rfl := Option.some.inj ((show (Tryd.prog.globals[0]?).map (·.type) = some 55 by kernel_rfl).symm.trans ht5)
  obtain rfl := Option.some.inj ((show (Tryd.prog.globals[8]?).map (·.type) = some 144 by kernel_rfl).symm.trans ht1)
  rw [de_data] at hd1; rw [pow_data] at hd2; rw [masks_data] at hd3; rw [names_data] at hd4; rw [words_data] at hd5
  have e1 := Lib.cells_of_tab Tryd.underlying144 Tryd.underlying5 (by kernel_rfl) (by kernel_rfl) hd1
  have e2 := Lib.cells_of_tab Tryd.underlying127 Tryd.underlying80 (by kernel_rfl) (by kernel_rfl) hd2
  have e3 := Lib.cells_of_tab Tryd.underlying107 Tryd.underlying3 (by kernel_rfl) (by kernel_rfl) hd3
  have e4 := cells_of_strs Tryd.underlying84 Tryd.underlying9 (by kernel_rfl) (by kernel_rfl) hd4
  have e5 := cells_of_strs Tryd.underlying55 Tryd.underlying9 (by kernel_rfl) (by kernel_rfl) hd5
  have hP : Pow10 W := by
    unfold Pow10 Lib.TabIs
    rw [hv2]
    obtain ⟨l⟩ := c2
    rw [show l = _ from e2]
  refine ⟨⟨fun k h0 h8 => ?_, ?_, hP, fun j hj => ?_⟩, fun v hv => ?_, ⟨hP, ?_, ⟨_, _, by rw [World.var?_cell gSyn hw2]; rfl⟩, ⟨_, _, by rw [World.var?_cell gRan hw1]; rfl⟩⟩⟩
  · rw [World.var?_cell gMasks hv3]
    obtain ⟨l⟩ := c3
    rw [show l = _ from e3]
    obtain ⟨j, rfl⟩ := Int.eq_ofNat_of_zero_le h0
    have : j = 0 ∨ j = 1 ∨ j = 2 ∨ j = 3 ∨ j = 4 ∨ j = 5 ∨ j = 6 ∨ j = 7 ∨ j = 8 := by omega
    rcases this with rfl | rfl | rfl | rfl | rfl | rfl | rfl | rfl | rfl <;> rfl
  · simp only [World.var?, gNames, Option.bind_some] at hv4
    split at hv4
    · rename_i cs t fr hb
      obtain rfl := Option.some.inj hv4
      obtain ⟨l⟩ := cs
      rw [show l = _ from e4] at hb
      exact ⟨t, fr, hb⟩
    · cases hv4
  · rw [World.var?_cell gDe hv1]
    obtain ⟨l⟩ := c1
    rw [show l = _ from e1]
    simp [hj]
  · rw [World.var?_cell gWords hv5]
    obtain ⟨l⟩ := c5
    rw [show l = _ from e5]
    rcases hv with rfl | rfl | rfl <;> rfl
  · exact Go.Proofs.cell_of_shapedOpen_int (zero := #[.int .i64 0]) (t := 3) hsh (of_decide_eq_true (by kernel_rfl)) (by kernel_rfl) rfl (by kernel_rfl) (by kernel_rfl) Tryd.underlying3

def synS : ByteArray := { data := #[105, 110, 118, 97, 108, 105, 100, 32, 115, 121, 110, 116, 97, 120] }
def rngS : ByteArray := { data := #[118, 97, 108, 117, 101, 32, 111, 117, 116, 32, 111, 102, 32, 114, 97, 110, 103, 101] }
/-- So many blocks has the settled world. -/
noncomputable def low : Nat := (World.holding Tryd.prog default ⟨#[], #[], []⟩).heap.size
noncomputable def laidWorld (os : Os) : World :=
  setRow 0 (wordsL.map fun l => Value.string ⟨l.toArray⟩).toArray (setRow 1 namesA (setRow 3 (([0, 1, 3, 7, 15, 31, 63, 127, 255] : List Int).map fun z => Value.int .i64 z).toArray
  (setRow 5 #[.iface 140 (.pointer (some ⟨low, 0, none⟩))] (setRow 6 #[.iface 140 (.pointer (some ⟨low + 1, 0, none⟩))]
    (setRow 4 (Lib.pow10Tab.map fun z => Value.int .u64 z).toArray
      (setRow 7 (([0, 1, 28, 2, 29, 14, 24, 3, 30, 22, 20, 15, 25, 17, 4, 8, 31, 27, 13, 23, 21, 19, 16, 7, 26, 12, 18, 6, 11, 5, 10, 9] : List Int).map fun z => Value.int .u8 z).toArray
        (setRow 8 (([0, 1, 56, 2, 57, 49, 28, 3, 61, 58, 42, 50, 38, 29, 17, 4, 62, 47, 59, 36, 45, 43, 51, 22, 53, 39, 33, 30, 24, 18, 12, 5, 63, 55, 48, 27, 60, 41, 37, 16, 46, 35, 44, 21, 52, 32, 23, 11, 54, 26, 40, 15, 34, 20, 31, 10, 25, 14, 19, 9, 13, 8, 7, 6] : List Int).map fun z => Value.int .u8 z).toArray
          (World.holding Tryd.prog os ⟨#[.cells #[.string synS] 142, .cells #[.string rngS] 142], #[], []⟩))))))))
end Go.Proofs.YtoopoljchhdobaaDoor
