/-
  NARROWER THAN 'FOR EVERY INPUT', by the rows' own cells (each row's printed sentence says how): HintSufficient: loops, laid · HintWeakest: loops, laid · HintNothing: loops, laid · HintStrengthen: loops, laid · HintProgress: loops, laid.
  DERIVED. THE GIVEN ROWS OF THIS SEAT. 5 by the template 'for every input the law returns true; each argument reads behind the call as it read before'; 0 by the template 'total and deterministic' (their statements: YtlcgbdjmlnjhcaaGreatDoorTotals.lean).
  GIVEN WITH THE SEED: the statements are not yours to turn. If you find one false, say at which input.
  Laid BY PROGRAM, IN A SANDBOX (cutbox-rows.mjs): the forced cells as the released guide's own fill.sh prints them over the translation 4ac4fec2c07bfc96… (all of the seat's roots in one cut). By AI agents, Wed Nov 11 2026. No macro, syntax, notation, axiom, sorry.
-/
import Derived.Test.YtlcgbdjmlnjhcaaGreatDoorChecked
import GoSem.Claim
import GoSem.ClaimJoined
import GoSem.ClaimMapViews
import Derived.JoinedTies
import Derived.KernelRfl
namespace Go.Proofs.YtlcgbdjmlnjhcaaGreatDoor
/- THE CELL 'sum', in the pinned program and in every row, IS THE sha256 OF THE DUMP (.gsa) THAT YtlcgbdjmlnjhcaaGreatDoorProg.lean LOADS. Nothing in Lean hashes anything: it is a label: what it is worth is what the hold of that sum in a sandbox is worth. -/
noncomputable def Tryz.pinned : Pinned := { name := "ytlcgbdjmlnjhcaagreatdoor", sum := "4ac4fec2c07bfc96b4eca6e93378a799c300781cf140d783e8018e395e1bac93", checked := Tryz.checked }
namespace Rows
def none {H : Type} : Left H := { results := [], args := [] }

/- WHAT THE LISTED PACKAGE-LEVEL VARIABLES READ AS WHEN THE CALL BEGINS. Each datum BY PROGRAM (the guide's laid-datum.mjs) off the statement by which the dump's own 'gosem.cut.vars' lays the variable. In a bare row this is a premise. The card (YtlcgbdjmlnjhcaaGreatDoorCards.lean) ties it to the program's text. -/
def laid_math_bits_deBruijn32tab {H : Type} : DataW H := .agg [.lit (.int .u8 0), .lit (.int .u8 1), .lit (.int .u8 28), .lit (.int .u8 2), .lit (.int .u8 29), .lit (.int .u8 14), .lit (.int .u8 24), .lit (.int .u8 3), .lit (.int .u8 30), .lit (.int .u8 22), .lit (.int .u8 20), .lit (.int .u8 15), .lit (.int .u8 25), .lit (.int .u8 17), .lit (.int .u8 4), .lit (.int .u8 8), .lit (.int .u8 31), .lit (.int .u8 27), .lit (.int .u8 13), .lit (.int .u8 23), .lit (.int .u8 21), .lit (.int .u8 19), .lit (.int .u8 16), .lit (.int .u8 7), .lit (.int .u8 26), .lit (.int .u8 12), .lit (.int .u8 18), .lit (.int .u8 6), .lit (.int .u8 11), .lit (.int .u8 5), .lit (.int .u8 10), .lit (.int .u8 9)]
def laid_math_bits_deBruijn64tab {H : Type} : DataW H := .agg [.lit (.int .u8 0), .lit (.int .u8 1), .lit (.int .u8 56), .lit (.int .u8 2), .lit (.int .u8 57), .lit (.int .u8 49), .lit (.int .u8 28), .lit (.int .u8 3), .lit (.int .u8 61), .lit (.int .u8 58), .lit (.int .u8 42), .lit (.int .u8 50), .lit (.int .u8 38), .lit (.int .u8 29), .lit (.int .u8 17), .lit (.int .u8 4), .lit (.int .u8 62), .lit (.int .u8 47), .lit (.int .u8 59), .lit (.int .u8 36), .lit (.int .u8 45), .lit (.int .u8 43), .lit (.int .u8 51), .lit (.int .u8 22), .lit (.int .u8 53), .lit (.int .u8 39), .lit (.int .u8 33), .lit (.int .u8 30), .lit (.int .u8 24), .lit (.int .u8 18), .lit (.int .u8 12), .lit (.int .u8 5), .lit (.int .u8 63), .lit (.int .u8 55), .lit (.int .u8 48), .lit (.int .u8 27), .lit (.int .u8 60), .lit (.int .u8 41), .lit (.int .u8 37), .lit (.int .u8 16), .lit (.int .u8 46), .lit (.int .u8 35), .lit (.int .u8 44), .lit (.int .u8 21), .lit (.int .u8 52), .lit (.int .u8 32), .lit (.int .u8 23), .lit (.int .u8 11), .lit (.int .u8 54), .lit (.int .u8 26), .lit (.int .u8 40), .lit (.int .u8 15), .lit (.int .u8 34), .lit (.int .u8 20), .lit (.int .u8 31), .lit (.int .u8 10), .lit (.int .u8 25), .lit (.int .u8 14), .lit (.int .u8 19), .lit (.int .u8 9), .lit (.int .u8 13), .lit (.int .u8 8), .lit (.int .u8 7), .lit (.int .u8 6)]
def laid_internal_strconv_uint64pow10 {H : Type} : DataW H := .agg [.lit (.int .u64 1), .lit (.int .u64 10), .lit (.int .u64 100), .lit (.int .u64 1000), .lit (.int .u64 10000), .lit (.int .u64 100000), .lit (.int .u64 1000000), .lit (.int .u64 10000000), .lit (.int .u64 100000000), .lit (.int .u64 1000000000), .lit (.int .u64 10000000000), .lit (.int .u64 100000000000), .lit (.int .u64 1000000000000), .lit (.int .u64 10000000000000), .lit (.int .u64 100000000000000), .lit (.int .u64 1000000000000000), .lit (.int .u64 10000000000000000), .lit (.int .u64 100000000000000000), .lit (.int .u64 1000000000000000000), .lit (.int .u64 10000000000000000000)]
def laid_relyguard_expr_masks {H : Type} : DataW H := .agg [.lit (.int .i64 0), .lit (.int .i64 1), .lit (.int .i64 3), .lit (.int .i64 7), .lit (.int .i64 15), .lit (.int .i64 31), .lit (.int .i64 63), .lit (.int .i64 127), .lit (.int .i64 255)]
def laid_relyguard_expr_names {H : Type} : DataW H := .agg [.lit (.string [110, 111, 116]), .lit (.string [97, 110, 100]), .lit (.string [111, 114]), .lit (.string [120, 111, 114]), .lit (.string [97, 100, 100]), .lit (.string [115, 117, 98]), .lit (.string [109, 117, 108]), .lit (.string [101, 113]), .lit (.string [108, 116]), .lit (.string [108, 101]), .lit (.string [105, 116, 101])]

/-- 'relyguardlaw32.HintSufficient': WHATEVER THE INPUT: true; the input reads as it did. -/
def hintSufficientSpec : ChangeSpec := { name := "hintSufficient", fn := fun _ => fun
  | [d1, d2] => { results := [.lit (.bool true)], args := [d1, d2] }
  | _ => none }
def hintSufficientRow : OpenClaim := { program := "ytlcgbdjmlnjhcaagreatdoor", sum := "4ac4fec2c07bfc96b4eca6e93378a799c300781cf140d783e8018e395e1bac93", func := "relyguard/relyguardlaw32.HintSufficient", spec := "hintSufficient", inPlace := ["internal/abi.NoEscape"], unfollowed := true, recurses := true, named := ["relyguard/expr.masks", "relyguard/expr.names", "internal/strconv.uint64pow10", "math/bits.deBruijn32tab", "math/bits.deBruijn64tab"], loops := true, apart := false, laid := [("math/bits.deBruijn32tab", laid_math_bits_deBruijn32tab), ("math/bits.deBruijn64tab", laid_math_bits_deBruijn64tab), ("internal/strconv.uint64pow10", laid_internal_strconv_uint64pow10), ("relyguard/expr.masks", laid_relyguard_expr_masks), ("relyguard/expr.names", laid_relyguard_expr_names)] }
def HintSufficientSaid : Prop := hintSufficientRow.holds Tryz.pinned (OpenSpec.ofChange hintSufficientSpec)

/-- ITS FALSE NEIGHBOUR: 'it returns false'. Refute it at one input. -/
def hintSufficientWrong : ChangeSpec := { name := "hintSufficient", fn := fun _ => fun
  | [d1, d2] => { results := [.lit (.bool false)], args := [d1, d2] }
  | _ => none }
def HintSufficientWrongFalsely : Prop := hintSufficientRow.holds Tryz.pinned (OpenSpec.ofChange hintSufficientWrong)

/-- 'relyguardlaw32.HintWeakest': WHATEVER THE INPUT: true; the input reads as it did. -/
def hintWeakestSpec : ChangeSpec := { name := "hintWeakest", fn := fun _ => fun
  | [d1, d2, d3] => { results := [.lit (.bool true)], args := [d1, d2, d3] }
  | _ => none }
def hintWeakestRow : OpenClaim := { program := "ytlcgbdjmlnjhcaagreatdoor", sum := "4ac4fec2c07bfc96b4eca6e93378a799c300781cf140d783e8018e395e1bac93", func := "relyguard/relyguardlaw32.HintWeakest", spec := "hintWeakest", inPlace := ["internal/abi.NoEscape"], unfollowed := true, recurses := true, named := ["relyguard/expr.masks", "relyguard/expr.names", "internal/strconv.uint64pow10", "math/bits.deBruijn32tab", "math/bits.deBruijn64tab"], loops := true, apart := false, laid := [("math/bits.deBruijn32tab", laid_math_bits_deBruijn32tab), ("math/bits.deBruijn64tab", laid_math_bits_deBruijn64tab), ("internal/strconv.uint64pow10", laid_internal_strconv_uint64pow10), ("relyguard/expr.masks", laid_relyguard_expr_masks), ("relyguard/expr.names", laid_relyguard_expr_names)] }
def HintWeakestSaid : Prop := hintWeakestRow.holds Tryz.pinned (OpenSpec.ofChange hintWeakestSpec)

/-- ITS FALSE NEIGHBOUR: 'it returns false'. Refute it at one input. -/
def hintWeakestWrong : ChangeSpec := { name := "hintWeakest", fn := fun _ => fun
  | [d1, d2, d3] => { results := [.lit (.bool false)], args := [d1, d2, d3] }
  | _ => none }
def HintWeakestWrongFalsely : Prop := hintWeakestRow.holds Tryz.pinned (OpenSpec.ofChange hintWeakestWrong)

/-- 'relyguardlaw32.HintNothing': WHATEVER THE INPUT: true; the input reads as it did. -/
def hintNothingSpec : ChangeSpec := { name := "hintNothing", fn := fun _ => fun
  | [d1, d2] => { results := [.lit (.bool true)], args := [d1, d2] }
  | _ => none }
def hintNothingRow : OpenClaim := { program := "ytlcgbdjmlnjhcaagreatdoor", sum := "4ac4fec2c07bfc96b4eca6e93378a799c300781cf140d783e8018e395e1bac93", func := "relyguard/relyguardlaw32.HintNothing", spec := "hintNothing", inPlace := ["internal/abi.NoEscape"], unfollowed := true, recurses := true, named := ["relyguard/expr.masks", "relyguard/expr.names", "internal/strconv.uint64pow10", "math/bits.deBruijn32tab", "math/bits.deBruijn64tab"], loops := true, apart := false, laid := [("math/bits.deBruijn32tab", laid_math_bits_deBruijn32tab), ("math/bits.deBruijn64tab", laid_math_bits_deBruijn64tab), ("internal/strconv.uint64pow10", laid_internal_strconv_uint64pow10), ("relyguard/expr.masks", laid_relyguard_expr_masks), ("relyguard/expr.names", laid_relyguard_expr_names)] }
def HintNothingSaid : Prop := hintNothingRow.holds Tryz.pinned (OpenSpec.ofChange hintNothingSpec)

/-- ITS FALSE NEIGHBOUR: 'it returns false'. Refute it at one input. -/
def hintNothingWrong : ChangeSpec := { name := "hintNothing", fn := fun _ => fun
  | [d1, d2] => { results := [.lit (.bool false)], args := [d1, d2] }
  | _ => none }
def HintNothingWrongFalsely : Prop := hintNothingRow.holds Tryz.pinned (OpenSpec.ofChange hintNothingWrong)

/-- 'relyguardlaw32.HintStrengthen': WHATEVER THE INPUT: true; the input reads as it did. -/
def hintStrengthenSpec : ChangeSpec := { name := "hintStrengthen", fn := fun _ => fun
  | [d1, d2, d3, d4, d5, d6] => { results := [.lit (.bool true)], args := [d1, d2, d3, d4, d5, d6] }
  | _ => none }
def hintStrengthenRow : OpenClaim := { program := "ytlcgbdjmlnjhcaagreatdoor", sum := "4ac4fec2c07bfc96b4eca6e93378a799c300781cf140d783e8018e395e1bac93", func := "relyguard/relyguardlaw32.HintStrengthen", spec := "hintStrengthen", inPlace := ["internal/abi.NoEscape"], unfollowed := true, recurses := true, named := ["relyguard/expr.masks", "relyguard/expr.names", "internal/strconv.uint64pow10", "math/bits.deBruijn32tab", "math/bits.deBruijn64tab"], loops := true, apart := false, laid := [("math/bits.deBruijn32tab", laid_math_bits_deBruijn32tab), ("math/bits.deBruijn64tab", laid_math_bits_deBruijn64tab), ("internal/strconv.uint64pow10", laid_internal_strconv_uint64pow10), ("relyguard/expr.masks", laid_relyguard_expr_masks), ("relyguard/expr.names", laid_relyguard_expr_names)] }
def HintStrengthenSaid : Prop := hintStrengthenRow.holds Tryz.pinned (OpenSpec.ofChange hintStrengthenSpec)

/-- ITS FALSE NEIGHBOUR: 'it returns false'. Refute it at one input. -/
def hintStrengthenWrong : ChangeSpec := { name := "hintStrengthen", fn := fun _ => fun
  | [d1, d2, d3, d4, d5, d6] => { results := [.lit (.bool false)], args := [d1, d2, d3, d4, d5, d6] }
  | _ => none }
def HintStrengthenWrongFalsely : Prop := hintStrengthenRow.holds Tryz.pinned (OpenSpec.ofChange hintStrengthenWrong)

/-- 'relyguardlaw32.HintProgress': WHATEVER THE INPUT: true; the input reads as it did. -/
def hintProgressSpec : ChangeSpec := { name := "hintProgress", fn := fun _ => fun
  | [d1, d2, d3] => { results := [.lit (.bool true)], args := [d1, d2, d3] }
  | _ => none }
def hintProgressRow : OpenClaim := { program := "ytlcgbdjmlnjhcaagreatdoor", sum := "4ac4fec2c07bfc96b4eca6e93378a799c300781cf140d783e8018e395e1bac93", func := "relyguard/relyguardlaw32.HintProgress", spec := "hintProgress", inPlace := ["internal/abi.NoEscape"], unfollowed := true, recurses := true, named := ["relyguard/expr.masks", "relyguard/expr.names", "internal/strconv.uint64pow10", "math/bits.deBruijn32tab", "math/bits.deBruijn64tab"], loops := true, apart := false, laid := [("math/bits.deBruijn32tab", laid_math_bits_deBruijn32tab), ("math/bits.deBruijn64tab", laid_math_bits_deBruijn64tab), ("internal/strconv.uint64pow10", laid_internal_strconv_uint64pow10), ("relyguard/expr.masks", laid_relyguard_expr_masks), ("relyguard/expr.names", laid_relyguard_expr_names)] }
def HintProgressSaid : Prop := hintProgressRow.holds Tryz.pinned (OpenSpec.ofChange hintProgressSpec)

/-- ITS FALSE NEIGHBOUR: 'it returns false'. Refute it at one input. -/
def hintProgressWrong : ChangeSpec := { name := "hintProgress", fn := fun _ => fun
  | [d1, d2, d3] => { results := [.lit (.bool false)], args := [d1, d2, d3] }
  | _ => none }
def HintProgressWrongFalsely : Prop := hintProgressRow.holds Tryz.pinned (OpenSpec.ofChange hintProgressWrong)

/- THE SECOND FORM. 'bulk': how many values and letters a reading holds, each counted each time it is reached (what is shared counts as often as it is met; a slice's spare places count too). A statement '..UptoSaid' is the law's where the arguments, and the package variables that the reading takes, are together of bulk at most 1048576: NARROWER than '..Said'. Prove '..Said' where nothing that the law and all that it calls make is longer than what came in: it says more and counts as full. Else prove '..UptoSaid'. A law counts once. -/
mutual
def uptoBulk {H : Type} : DataW H → Nat
  | .lit (.string bytes) => bytes.length + 1
  | .lit _ => 1
  | .nil => 1
  | .ptr d => uptoBulk d + 1
  | .slice elems spare => uptoBulkAll elems + uptoBulkAll spare + 1
  | .agg parts => uptoBulkAll parts + 1
  | .iface _ d => uptoBulk d + 1
  | .map entries => uptoBulkEntries entries + 1
  | .held _ => 1
def uptoBulkAll {H : Type} : List (DataW H) → Nat
  | [] => 0
  | d :: r => uptoBulk d + uptoBulkAll r
def uptoBulkEntries {H : Type} : List (Lit × DataW H) → Nat
  | [] => 0
  | x :: r => uptoBulkEntry x + uptoBulkEntries r
def uptoBulkEntry {H : Type} : Lit × DataW H → Nat
  | (.string bytes, d) => bytes.length + uptoBulk d + 1
  | (_, d) => uptoBulk d + 1
 end
def uptoSmall : (H : Type) → List (DataW H) → Bool := fun _ ds => decide (uptoBulkAll ds ≤ 1048576)
def OpenSpec.upto (s : _root_.Go.ChangeSpec) : _root_.Go.OpenSpec := { _root_.Go.OpenSpec.ofChange s with cond := some uptoSmall }

/-- 'relyguardlaw32.HintSufficient', WHERE WHAT IT READS IS OF BULK AT MOST 1048576: true; the input reads as it did. -/
def hintSufficientUptoRow : OpenClaim := { program := "ytlcgbdjmlnjhcaagreatdoor", sum := "4ac4fec2c07bfc96b4eca6e93378a799c300781cf140d783e8018e395e1bac93", func := "relyguard/relyguardlaw32.HintSufficient", spec := "hintSufficient", inPlace := ["internal/abi.NoEscape"], unfollowed := true, recurses := true, named := ["relyguard/expr.masks", "relyguard/expr.names", "internal/strconv.uint64pow10", "math/bits.deBruijn32tab", "math/bits.deBruijn64tab"], loops := true, apart := false, laid := [("math/bits.deBruijn32tab", laid_math_bits_deBruijn32tab), ("math/bits.deBruijn64tab", laid_math_bits_deBruijn64tab), ("internal/strconv.uint64pow10", laid_internal_strconv_uint64pow10), ("relyguard/expr.masks", laid_relyguard_expr_masks), ("relyguard/expr.names", laid_relyguard_expr_names)], narrowed := true }
def HintSufficientUptoSaid : Prop := hintSufficientUptoRow.holds Tryz.pinned (OpenSpec.upto hintSufficientSpec)

/-- 'relyguardlaw32.HintWeakest', WHERE WHAT IT READS IS OF BULK AT MOST 1048576: true; the input reads as it did. -/
def hintWeakestUptoRow : OpenClaim := { program := "ytlcgbdjmlnjhcaagreatdoor", sum := "4ac4fec2c07bfc96b4eca6e93378a799c300781cf140d783e8018e395e1bac93", func := "relyguard/relyguardlaw32.HintWeakest", spec := "hintWeakest", inPlace := ["internal/abi.NoEscape"], unfollowed := true, recurses := true, named := ["relyguard/expr.masks", "relyguard/expr.names", "internal/strconv.uint64pow10", "math/bits.deBruijn32tab", "math/bits.deBruijn64tab"], loops := true, apart := false, laid := [("math/bits.deBruijn32tab", laid_math_bits_deBruijn32tab), ("math/bits.deBruijn64tab", laid_math_bits_deBruijn64tab), ("internal/strconv.uint64pow10", laid_internal_strconv_uint64pow10), ("relyguard/expr.masks", laid_relyguard_expr_masks), ("relyguard/expr.names", laid_relyguard_expr_names)], narrowed := true }
def HintWeakestUptoSaid : Prop := hintWeakestUptoRow.holds Tryz.pinned (OpenSpec.upto hintWeakestSpec)

/-- 'relyguardlaw32.HintNothing', WHERE WHAT IT READS IS OF BULK AT MOST 1048576: true; the input reads as it did. -/
def hintNothingUptoRow : OpenClaim := { program := "ytlcgbdjmlnjhcaagreatdoor", sum := "4ac4fec2c07bfc96b4eca6e93378a799c300781cf140d783e8018e395e1bac93", func := "relyguard/relyguardlaw32.HintNothing", spec := "hintNothing", inPlace := ["internal/abi.NoEscape"], unfollowed := true, recurses := true, named := ["relyguard/expr.masks", "relyguard/expr.names", "internal/strconv.uint64pow10", "math/bits.deBruijn32tab", "math/bits.deBruijn64tab"], loops := true, apart := false, laid := [("math/bits.deBruijn32tab", laid_math_bits_deBruijn32tab), ("math/bits.deBruijn64tab", laid_math_bits_deBruijn64tab), ("internal/strconv.uint64pow10", laid_internal_strconv_uint64pow10), ("relyguard/expr.masks", laid_relyguard_expr_masks), ("relyguard/expr.names", laid_relyguard_expr_names)], narrowed := true }
def HintNothingUptoSaid : Prop := hintNothingUptoRow.holds Tryz.pinned (OpenSpec.upto hintNothingSpec)

/-- 'relyguardlaw32.HintStrengthen', WHERE WHAT IT READS IS OF BULK AT MOST 1048576: true; the input reads as it did. -/
def hintStrengthenUptoRow : OpenClaim := { program := "ytlcgbdjmlnjhcaagreatdoor", sum := "4ac4fec2c07bfc96b4eca6e93378a799c300781cf140d783e8018e395e1bac93", func := "relyguard/relyguardlaw32.HintStrengthen", spec := "hintStrengthen", inPlace := ["internal/abi.NoEscape"], unfollowed := true, recurses := true, named := ["relyguard/expr.masks", "relyguard/expr.names", "internal/strconv.uint64pow10", "math/bits.deBruijn32tab", "math/bits.deBruijn64tab"], loops := true, apart := false, laid := [("math/bits.deBruijn32tab", laid_math_bits_deBruijn32tab), ("math/bits.deBruijn64tab", laid_math_bits_deBruijn64tab), ("internal/strconv.uint64pow10", laid_internal_strconv_uint64pow10), ("relyguard/expr.masks", laid_relyguard_expr_masks), ("relyguard/expr.names", laid_relyguard_expr_names)], narrowed := true }
def HintStrengthenUptoSaid : Prop := hintStrengthenUptoRow.holds Tryz.pinned (OpenSpec.upto hintStrengthenSpec)

/-- 'relyguardlaw32.HintProgress', WHERE WHAT IT READS IS OF BULK AT MOST 1048576: true; the input reads as it did. -/
def hintProgressUptoRow : OpenClaim := { program := "ytlcgbdjmlnjhcaagreatdoor", sum := "4ac4fec2c07bfc96b4eca6e93378a799c300781cf140d783e8018e395e1bac93", func := "relyguard/relyguardlaw32.HintProgress", spec := "hintProgress", inPlace := ["internal/abi.NoEscape"], unfollowed := true, recurses := true, named := ["relyguard/expr.masks", "relyguard/expr.names", "internal/strconv.uint64pow10", "math/bits.deBruijn32tab", "math/bits.deBruijn64tab"], loops := true, apart := false, laid := [("math/bits.deBruijn32tab", laid_math_bits_deBruijn32tab), ("math/bits.deBruijn64tab", laid_math_bits_deBruijn64tab), ("internal/strconv.uint64pow10", laid_internal_strconv_uint64pow10), ("relyguard/expr.masks", laid_relyguard_expr_masks), ("relyguard/expr.names", laid_relyguard_expr_names)], narrowed := true }
def HintProgressUptoSaid : Prop := hintProgressUptoRow.holds Tryz.pinned (OpenSpec.upto hintProgressSpec)

end Rows
end Go.Proofs.YtlcgbdjmlnjhcaaGreatDoor
