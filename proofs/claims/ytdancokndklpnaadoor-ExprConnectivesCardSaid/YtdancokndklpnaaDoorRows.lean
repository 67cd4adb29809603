/-
  NARROWER THAN 'FOR EVERY INPUT', by the rows' own cells (each row's printed sentence says how): ExprSubstitution: loops, laid · ExprComposition: loops, laid · ExprText: loops, laid · ExprRing: loops, laid · ExprBefore: loops, laid · ExprSimplify: loops, laid · ExprConnectives: loops, laid.
  DERIVED. THE GIVEN ROWS OF THIS SEAT. 7 by the template 'for every input the law returns true; each argument reads behind the call as it read before'; 0 by the template 'total and deterministic' (their statements: YtdancokndklpnaaDoorTotals.lean).
  GIVEN WITH THE SEED: the statements are not yours to turn. If you find one false, say at which input.
  Laid BY PROGRAM, IN A SANDBOX (cutbox-rows.mjs): the forced cells as the released guide's own fill.sh prints them over the translation bb31235e57c5d220… (all of the seat's roots in one cut). By AI agents, Wed Nov 11 2026. No macro, syntax, notation, axiom, sorry.
-/
import Derived.Test.YtdancokndklpnaaDoorChecked
import GoSem.Claim
import GoSem.ClaimJoined
import GoSem.ClaimMapViews
import Derived.JoinedTies
import Derived.KernelRfl
namespace Go.Proofs.YtdancokndklpnaaDoor
/- THE CELL 'sum', in the pinned program and in every row, IS THE sha256 OF THE DUMP (.gsa) THAT YtdancokndklpnaaDoorProg.lean LOADS. Nothing in Lean hashes anything: it is a label: what it is worth is what the hold of that sum in a sandbox is worth. -/
noncomputable def Tryd.pinned : Pinned := { name := "ytdancokndklpnaadoor", sum := "bb31235e57c5d2208db2d2c0fcdec58c082d8cb7fcd1e0599eb63bacaeeb6afb", checked := Tryd.checked }
namespace Rows
def none {H : Type} : Left H := { results := [], args := [] }

/- WHAT THE LISTED PACKAGE-LEVEL VARIABLES READ AS WHEN THE CALL BEGINS. Each datum BY PROGRAM (the guide's laid-datum.mjs) off the statement by which the dump's own 'gosem.cut.vars' lays the variable. In a bare row this is a premise. The card (YtdancokndklpnaaDoorCards.lean) ties it to the program's text. -/
def laid_math_bits_deBruijn32tab {H : Type} : DataW H := .agg [.lit (.int .u8 0), .lit (.int .u8 1), .lit (.int .u8 28), .lit (.int .u8 2), .lit (.int .u8 29), .lit (.int .u8 14), .lit (.int .u8 24), .lit (.int .u8 3), .lit (.int .u8 30), .lit (.int .u8 22), .lit (.int .u8 20), .lit (.int .u8 15), .lit (.int .u8 25), .lit (.int .u8 17), .lit (.int .u8 4), .lit (.int .u8 8), .lit (.int .u8 31), .lit (.int .u8 27), .lit (.int .u8 13), .lit (.int .u8 23), .lit (.int .u8 21), .lit (.int .u8 19), .lit (.int .u8 16), .lit (.int .u8 7), .lit (.int .u8 26), .lit (.int .u8 12), .lit (.int .u8 18), .lit (.int .u8 6), .lit (.int .u8 11), .lit (.int .u8 5), .lit (.int .u8 10), .lit (.int .u8 9)]
def laid_math_bits_deBruijn64tab {H : Type} : DataW H := .agg [.lit (.int .u8 0), .lit (.int .u8 1), .lit (.int .u8 56), .lit (.int .u8 2), .lit (.int .u8 57), .lit (.int .u8 49), .lit (.int .u8 28), .lit (.int .u8 3), .lit (.int .u8 61), .lit (.int .u8 58), .lit (.int .u8 42), .lit (.int .u8 50), .lit (.int .u8 38), .lit (.int .u8 29), .lit (.int .u8 17), .lit (.int .u8 4), .lit (.int .u8 62), .lit (.int .u8 47), .lit (.int .u8 59), .lit (.int .u8 36), .lit (.int .u8 45), .lit (.int .u8 43), .lit (.int .u8 51), .lit (.int .u8 22), .lit (.int .u8 53), .lit (.int .u8 39), .lit (.int .u8 33), .lit (.int .u8 30), .lit (.int .u8 24), .lit (.int .u8 18), .lit (.int .u8 12), .lit (.int .u8 5), .lit (.int .u8 63), .lit (.int .u8 55), .lit (.int .u8 48), .lit (.int .u8 27), .lit (.int .u8 60), .lit (.int .u8 41), .lit (.int .u8 37), .lit (.int .u8 16), .lit (.int .u8 46), .lit (.int .u8 35), .lit (.int .u8 44), .lit (.int .u8 21), .lit (.int .u8 52), .lit (.int .u8 32), .lit (.int .u8 23), .lit (.int .u8 11), .lit (.int .u8 54), .lit (.int .u8 26), .lit (.int .u8 40), .lit (.int .u8 15), .lit (.int .u8 34), .lit (.int .u8 20), .lit (.int .u8 31), .lit (.int .u8 10), .lit (.int .u8 25), .lit (.int .u8 14), .lit (.int .u8 19), .lit (.int .u8 9), .lit (.int .u8 13), .lit (.int .u8 8), .lit (.int .u8 7), .lit (.int .u8 6)]
def laid_internal_strconv_uint64pow10 {H : Type} : DataW H := .agg [.lit (.int .u64 1), .lit (.int .u64 10), .lit (.int .u64 100), .lit (.int .u64 1000), .lit (.int .u64 10000), .lit (.int .u64 100000), .lit (.int .u64 1000000), .lit (.int .u64 10000000), .lit (.int .u64 100000000), .lit (.int .u64 1000000000), .lit (.int .u64 10000000000), .lit (.int .u64 100000000000), .lit (.int .u64 1000000000000), .lit (.int .u64 10000000000000), .lit (.int .u64 100000000000000), .lit (.int .u64 1000000000000000), .lit (.int .u64 10000000000000000), .lit (.int .u64 100000000000000000), .lit (.int .u64 1000000000000000000), .lit (.int .u64 10000000000000000000)]
def laid_relyguard_expr_masks {H : Type} : DataW H := .agg [.lit (.int .i64 0), .lit (.int .i64 1), .lit (.int .i64 3), .lit (.int .i64 7), .lit (.int .i64 15), .lit (.int .i64 31), .lit (.int .i64 63), .lit (.int .i64 127), .lit (.int .i64 255)]
def laid_relyguard_expr_names {H : Type} : DataW H := .agg [.lit (.string [110, 111, 116]), .lit (.string [97, 110, 100]), .lit (.string [111, 114]), .lit (.string [120, 111, 114]), .lit (.string [97, 100, 100]), .lit (.string [115, 117, 98]), .lit (.string [109, 117, 108]), .lit (.string [101, 113]), .lit (.string [108, 116]), .lit (.string [108, 101]), .lit (.string [105, 116, 101])]

/-- 'relyguardlaw06.ExprSubstitution': WHATEVER THE INPUT: true; the input reads as it did. -/
def exprSubstitutionSpec : ChangeSpec := { name := "exprSubstitution", fn := fun _ => fun
  | [d1, d2, d3, d4] => { results := [.lit (.bool true)], args := [d1, d2, d3, d4] }
  | _ => none }
def exprSubstitutionRow : OpenClaim := { program := "ytdancokndklpnaadoor", sum := "bb31235e57c5d2208db2d2c0fcdec58c082d8cb7fcd1e0599eb63bacaeeb6afb", func := "relyguard/relyguardlaw06.ExprSubstitution", spec := "exprSubstitution", inPlace := ["internal/abi.NoEscape"], unfollowed := true, recurses := true, named := ["relyguard/expr.names", "relyguard/expr.masks", "internal/strconv.uint64pow10", "math/bits.deBruijn32tab", "math/bits.deBruijn64tab"], loops := true, apart := false, laid := [("math/bits.deBruijn32tab", laid_math_bits_deBruijn32tab), ("math/bits.deBruijn64tab", laid_math_bits_deBruijn64tab), ("internal/strconv.uint64pow10", laid_internal_strconv_uint64pow10), ("relyguard/expr.masks", laid_relyguard_expr_masks), ("relyguard/expr.names", laid_relyguard_expr_names)] }
def ExprSubstitutionSaid : Prop := exprSubstitutionRow.holds Tryd.pinned (OpenSpec.ofChange exprSubstitutionSpec)

/-- ITS FALSE NEIGHBOUR: 'it returns false'. Refute it at one input. -/
def exprSubstitutionWrong : ChangeSpec := { name := "exprSubstitution", fn := fun _ => fun
  | [d1, d2, d3, d4] => { results := [.lit (.bool false)], args := [d1, d2, d3, d4] }
  | _ => none }
def ExprSubstitutionWrongFalsely : Prop := exprSubstitutionRow.holds Tryd.pinned (OpenSpec.ofChange exprSubstitutionWrong)

/-- 'relyguardlaw06.ExprComposition': WHATEVER THE INPUT: true; the input reads as it did. -/
def exprCompositionSpec : ChangeSpec := { name := "exprComposition", fn := fun _ => fun
  | [d1, d2, d3] => { results := [.lit (.bool true)], args := [d1, d2, d3] }
  | _ => none }
def exprCompositionRow : OpenClaim := { program := "ytdancokndklpnaadoor", sum := "bb31235e57c5d2208db2d2c0fcdec58c082d8cb7fcd1e0599eb63bacaeeb6afb", func := "relyguard/relyguardlaw06.ExprComposition", spec := "exprComposition", inPlace := ["internal/abi.NoEscape"], unfollowed := true, recurses := true, named := ["relyguard/expr.names", "relyguard/expr.masks", "internal/strconv.uint64pow10", "math/bits.deBruijn32tab", "math/bits.deBruijn64tab"], loops := true, apart := false, laid := [("math/bits.deBruijn32tab", laid_math_bits_deBruijn32tab), ("math/bits.deBruijn64tab", laid_math_bits_deBruijn64tab), ("internal/strconv.uint64pow10", laid_internal_strconv_uint64pow10), ("relyguard/expr.masks", laid_relyguard_expr_masks), ("relyguard/expr.names", laid_relyguard_expr_names)] }
def ExprCompositionSaid : Prop := exprCompositionRow.holds Tryd.pinned (OpenSpec.ofChange exprCompositionSpec)

/-- ITS FALSE NEIGHBOUR: 'it returns false'. Refute it at one input. -/
def exprCompositionWrong : ChangeSpec := { name := "exprComposition", fn := fun _ => fun
  | [d1, d2, d3] => { results := [.lit (.bool false)], args := [d1, d2, d3] }
  | _ => none }
def ExprCompositionWrongFalsely : Prop := exprCompositionRow.holds Tryd.pinned (OpenSpec.ofChange exprCompositionWrong)

/-- 'relyguardlaw06.ExprText': WHATEVER THE INPUT: true; the input reads as it did. -/
def exprTextSpec : ChangeSpec := { name := "exprText", fn := fun _ => fun
  | [d1, d2, d3] => { results := [.lit (.bool true)], args := [d1, d2, d3] }
  | _ => none }
def exprTextRow : OpenClaim := { program := "ytdancokndklpnaadoor", sum := "bb31235e57c5d2208db2d2c0fcdec58c082d8cb7fcd1e0599eb63bacaeeb6afb", func := "relyguard/relyguardlaw06.ExprText", spec := "exprText", inPlace := ["internal/abi.NoEscape"], unfollowed := true, recurses := true, named := ["relyguard/expr.names", "relyguard/expr.masks", "internal/strconv.uint64pow10", "math/bits.deBruijn32tab", "math/bits.deBruijn64tab"], loops := true, apart := false, laid := [("math/bits.deBruijn32tab", laid_math_bits_deBruijn32tab), ("math/bits.deBruijn64tab", laid_math_bits_deBruijn64tab), ("internal/strconv.uint64pow10", laid_internal_strconv_uint64pow10), ("relyguard/expr.masks", laid_relyguard_expr_masks), ("relyguard/expr.names", laid_relyguard_expr_names)] }
def ExprTextSaid : Prop := exprTextRow.holds Tryd.pinned (OpenSpec.ofChange exprTextSpec)

/-- ITS FALSE NEIGHBOUR: 'it returns false'. Refute it at one input. -/
def exprTextWrong : ChangeSpec := { name := "exprText", fn := fun _ => fun
  | [d1, d2, d3] => { results := [.lit (.bool false)], args := [d1, d2, d3] }
  | _ => none }
def ExprTextWrongFalsely : Prop := exprTextRow.holds Tryd.pinned (OpenSpec.ofChange exprTextWrong)

/-- 'relyguardlaw06.ExprRing': WHATEVER THE INPUT: true; the input reads as it did. -/
def exprRingSpec : ChangeSpec := { name := "exprRing", fn := fun _ => fun
  | [d1, d2, d3, d4, d5] => { results := [.lit (.bool true)], args := [d1, d2, d3, d4, d5] }
  | _ => none }
def exprRingRow : OpenClaim := { program := "ytdancokndklpnaadoor", sum := "bb31235e57c5d2208db2d2c0fcdec58c082d8cb7fcd1e0599eb63bacaeeb6afb", func := "relyguard/relyguardlaw06.ExprRing", spec := "exprRing", inPlace := ["internal/abi.NoEscape"], unfollowed := true, recurses := true, named := ["relyguard/expr.names", "relyguard/expr.masks", "internal/strconv.uint64pow10", "math/bits.deBruijn32tab", "math/bits.deBruijn64tab"], loops := true, apart := false, laid := [("math/bits.deBruijn32tab", laid_math_bits_deBruijn32tab), ("math/bits.deBruijn64tab", laid_math_bits_deBruijn64tab), ("internal/strconv.uint64pow10", laid_internal_strconv_uint64pow10), ("relyguard/expr.masks", laid_relyguard_expr_masks), ("relyguard/expr.names", laid_relyguard_expr_names)] }
def ExprRingSaid : Prop := exprRingRow.holds Tryd.pinned (OpenSpec.ofChange exprRingSpec)

/-- ITS FALSE NEIGHBOUR: 'it returns false'. Refute it at one input. -/
def exprRingWrong : ChangeSpec := { name := "exprRing", fn := fun _ => fun
  | [d1, d2, d3, d4, d5] => { results := [.lit (.bool false)], args := [d1, d2, d3, d4, d5] }
  | _ => none }
def ExprRingWrongFalsely : Prop := exprRingRow.holds Tryd.pinned (OpenSpec.ofChange exprRingWrong)

/-- 'relyguardlaw06.ExprBefore': WHATEVER THE INPUT: true; the input reads as it did. -/
def exprBeforeSpec : ChangeSpec := { name := "exprBefore", fn := fun _ => fun
  | [d1, d2, d3, d4, d5] => { results := [.lit (.bool true)], args := [d1, d2, d3, d4, d5] }
  | _ => none }
def exprBeforeRow : OpenClaim := { program := "ytdancokndklpnaadoor", sum := "bb31235e57c5d2208db2d2c0fcdec58c082d8cb7fcd1e0599eb63bacaeeb6afb", func := "relyguard/relyguardlaw06.ExprBefore", spec := "exprBefore", inPlace := ["internal/abi.NoEscape"], unfollowed := true, recurses := true, named := ["relyguard/expr.names", "relyguard/expr.masks", "internal/strconv.uint64pow10", "math/bits.deBruijn32tab", "math/bits.deBruijn64tab"], loops := true, apart := false, laid := [("math/bits.deBruijn32tab", laid_math_bits_deBruijn32tab), ("math/bits.deBruijn64tab", laid_math_bits_deBruijn64tab), ("internal/strconv.uint64pow10", laid_internal_strconv_uint64pow10), ("relyguard/expr.masks", laid_relyguard_expr_masks), ("relyguard/expr.names", laid_relyguard_expr_names)] }
def ExprBeforeSaid : Prop := exprBeforeRow.holds Tryd.pinned (OpenSpec.ofChange exprBeforeSpec)

/-- ITS FALSE NEIGHBOUR: 'it returns false'. Refute it at one input. -/
def exprBeforeWrong : ChangeSpec := { name := "exprBefore", fn := fun _ => fun
  | [d1, d2, d3, d4, d5] => { results := [.lit (.bool false)], args := [d1, d2, d3, d4, d5] }
  | _ => none }
def ExprBeforeWrongFalsely : Prop := exprBeforeRow.holds Tryd.pinned (OpenSpec.ofChange exprBeforeWrong)

/-- 'relyguardlaw06.ExprSimplify': WHATEVER THE INPUT: true; the input reads as it did. -/
def exprSimplifySpec : ChangeSpec := { name := "exprSimplify", fn := fun _ => fun
  | [d1, d2, d3] => { results := [.lit (.bool true)], args := [d1, d2, d3] }
  | _ => none }
def exprSimplifyRow : OpenClaim := { program := "ytdancokndklpnaadoor", sum := "bb31235e57c5d2208db2d2c0fcdec58c082d8cb7fcd1e0599eb63bacaeeb6afb", func := "relyguard/relyguardlaw06.ExprSimplify", spec := "exprSimplify", inPlace := ["internal/abi.NoEscape"], unfollowed := true, recurses := true, named := ["relyguard/expr.names", "relyguard/expr.masks", "internal/strconv.uint64pow10", "math/bits.deBruijn32tab", "math/bits.deBruijn64tab"], loops := true, apart := false, laid := [("math/bits.deBruijn32tab", laid_math_bits_deBruijn32tab), ("math/bits.deBruijn64tab", laid_math_bits_deBruijn64tab), ("internal/strconv.uint64pow10", laid_internal_strconv_uint64pow10), ("relyguard/expr.masks", laid_relyguard_expr_masks), ("relyguard/expr.names", laid_relyguard_expr_names)] }
def ExprSimplifySaid : Prop := exprSimplifyRow.holds Tryd.pinned (OpenSpec.ofChange exprSimplifySpec)

/-- ITS FALSE NEIGHBOUR: 'it returns false'. Refute it at one input. -/
def exprSimplifyWrong : ChangeSpec := { name := "exprSimplify", fn := fun _ => fun
  | [d1, d2, d3] => { results := [.lit (.bool false)], args := [d1, d2, d3] }
  | _ => none }
def ExprSimplifyWrongFalsely : Prop := exprSimplifyRow.holds Tryd.pinned (OpenSpec.ofChange exprSimplifyWrong)

/-- 'relyguardlaw06.ExprConnectives': WHATEVER THE INPUT: true; the input reads as it did. -/
def exprConnectivesSpec : ChangeSpec := { name := "exprConnectives", fn := fun _ => fun
  | [d1, d2, d3] => { results := [.lit (.bool true)], args := [d1, d2, d3] }
  | _ => none }
def exprConnectivesRow : OpenClaim := { program := "ytdancokndklpnaadoor", sum := "bb31235e57c5d2208db2d2c0fcdec58c082d8cb7fcd1e0599eb63bacaeeb6afb", func := "relyguard/relyguardlaw06.ExprConnectives", spec := "exprConnectives", inPlace := ["internal/abi.NoEscape"], unfollowed := true, recurses := true, named := ["relyguard/expr.names", "relyguard/expr.masks", "internal/strconv.uint64pow10", "math/bits.deBruijn32tab", "math/bits.deBruijn64tab"], loops := true, apart := false, laid := [("math/bits.deBruijn32tab", laid_math_bits_deBruijn32tab), ("math/bits.deBruijn64tab", laid_math_bits_deBruijn64tab), ("internal/strconv.uint64pow10", laid_internal_strconv_uint64pow10), ("relyguard/expr.masks", laid_relyguard_expr_masks), ("relyguard/expr.names", laid_relyguard_expr_names)] }
def ExprConnectivesSaid : Prop := exprConnectivesRow.holds Tryd.pinned (OpenSpec.ofChange exprConnectivesSpec)

/-- ITS FALSE NEIGHBOUR: 'it returns false'. Refute it at one input. -/
def exprConnectivesWrong : ChangeSpec := { name := "exprConnectives", fn := fun _ => fun
  | [d1, d2, d3] => { results := [.lit (.bool false)], args := [d1, d2, d3] }
  | _ => none }
def ExprConnectivesWrongFalsely : Prop := exprConnectivesRow.holds Tryd.pinned (OpenSpec.ofChange exprConnectivesWrong)

/- THE SECOND FORM. 'bulk': how many values and letters a reading holds, each counted each time it is reached (what is shared counts as often as it is met; a slice's spare places count too). A statement '..UptoSaid' is the law's where the arguments, and the package variables that the reading takes, are together of bulk at most 1048576: NARROWER than '..Said'. Prove '..Said' where nothing that the law and all that it calls make is longer than what came in: it says more and counts as full. Else prove '..UptoSaid'. A law counts once. -/
mutual
def uptoBulk {H : Type} : DataW H → Nat
  | .lit (.string bytes) => bytes.length + 1
  | .lit _ => 1
  | .nil => 1
  | .ptr d => uptoBulk d + 1
  | .slice elems spare => uptoBulkAll elems + uptoBulkAll spare + 1
  | .agg parts => uptoBulkAll parts + 1
  | .iface _ d => uptoBulk d + 1
  | .map entries => uptoBulkEntries entries + 1
  | .held _ => 1
def uptoBulkAll {H : Type} : List (DataW H) → Nat
  | [] => 0
  | d :: r => uptoBulk d + uptoBulkAll r
def uptoBulkEntries {H : Type} : List (Lit × DataW H) → Nat
  | [] => 0
  | x :: r => uptoBulkEntry x + uptoBulkEntries r
def uptoBulkEntry {H : Type} : Lit × DataW H → Nat
  | (.string bytes, d) => bytes.length + uptoBulk d + 1
  | (_, d) => uptoBulk d + 1
 end
def uptoSmall : (H : Type) → List (DataW H) → Bool := fun _ ds => decide (uptoBulkAll ds ≤ 1048576)
def OpenSpec.upto (s : _root_.Go.ChangeSpec) : _root_.Go.OpenSpec := { _root_.Go.OpenSpec.ofChange s with cond := some uptoSmall }

/-- 'relyguardlaw06.ExprSubstitution', WHERE WHAT IT READS IS OF BULK AT MOST 1048576: true; the input reads as it did. -/
def exprSubstitutionUptoRow : OpenClaim := { program := "ytdancokndklpnaadoor", sum := "bb31235e57c5d2208db2d2c0fcdec58c082d8cb7fcd1e0599eb63bacaeeb6afb", func := "relyguard/relyguardlaw06.ExprSubstitution", spec := "exprSubstitution", inPlace := ["internal/abi.NoEscape"], unfollowed := true, recurses := true, named := ["relyguard/expr.names", "relyguard/expr.masks", "internal/strconv.uint64pow10", "math/bits.deBruijn32tab", "math/bits.deBruijn64tab"], loops := true, apart := false, laid := [("math/bits.deBruijn32tab", laid_math_bits_deBruijn32tab), ("math/bits.deBruijn64tab", laid_math_bits_deBruijn64tab), ("internal/strconv.uint64pow10", laid_internal_strconv_uint64pow10), ("relyguard/expr.masks", laid_relyguard_expr_masks), ("relyguard/expr.names", laid_relyguard_expr_names)], narrowed := true }
def ExprSubstitutionUptoSaid : Prop := exprSubstitutionUptoRow.holds Tryd.pinned (OpenSpec.upto exprSubstitutionSpec)

/-- 'relyguardlaw06.ExprComposition', WHERE WHAT IT READS IS OF BULK AT MOST 1048576: true; the input reads as it did. -/
def exprCompositionUptoRow : OpenClaim := { program := "ytdancokndklpnaadoor", sum := "bb31235e57c5d2208db2d2c0fcdec58c082d8cb7fcd1e0599eb63bacaeeb6afb", func := "relyguard/relyguardlaw06.ExprComposition", spec := "exprComposition", inPlace := ["internal/abi.NoEscape"], unfollowed := true, recurses := true, named := ["relyguard/expr.names", "relyguard/expr.masks", "internal/strconv.uint64pow10", "math/bits.deBruijn32tab", "math/bits.deBruijn64tab"], loops := true, apart := false, laid := [("math/bits.deBruijn32tab", laid_math_bits_deBruijn32tab), ("math/bits.deBruijn64tab", laid_math_bits_deBruijn64tab), ("internal/strconv.uint64pow10", laid_internal_strconv_uint64pow10), ("relyguard/expr.masks", laid_relyguard_expr_masks), ("relyguard/expr.names", laid_relyguard_expr_names)], narrowed := true }
def ExprCompositionUptoSaid : Prop := exprCompositionUptoRow.holds Tryd.pinned (OpenSpec.upto exprCompositionSpec)

/-- 'relyguardlaw06.ExprText', WHERE WHAT IT READS IS OF BULK AT MOST 1048576: true; the input reads as it did. -/
def exprTextUptoRow : OpenClaim := { program := "ytdancokndklpnaadoor", sum := "bb31235e57c5d2208db2d2c0fcdec58c082d8cb7fcd1e0599eb63bacaeeb6afb", func := "relyguard/relyguardlaw06.ExprText", spec := "exprText", inPlace := ["internal/abi.NoEscape"], unfollowed := true, recurses := true, named := ["relyguard/expr.names", "relyguard/expr.masks", "internal/strconv.uint64pow10", "math/bits.deBruijn32tab", "math/bits.deBruijn64tab"], loops := true, apart := false, laid := [("math/bits.deBruijn32tab", laid_math_bits_deBruijn32tab), ("math/bits.deBruijn64tab", laid_math_bits_deBruijn64tab), ("internal/strconv.uint64pow10", laid_internal_strconv_uint64pow10), ("relyguard/expr.masks", laid_relyguard_expr_masks), ("relyguard/expr.names", laid_relyguard_expr_names)], narrowed := true }
def ExprTextUptoSaid : Prop := exprTextUptoRow.holds Tryd.pinned (OpenSpec.upto exprTextSpec)

/-- 'relyguardlaw06.ExprRing', WHERE WHAT IT READS IS OF BULK AT MOST 1048576: true; the input reads as it did. -/
def exprRingUptoRow : OpenClaim := { program := "ytdancokndklpnaadoor", sum := "bb31235e57c5d2208db2d2c0fcdec58c082d8cb7fcd1e0599eb63bacaeeb6afb", func := "relyguard/relyguardlaw06.ExprRing", spec := "exprRing", inPlace := ["internal/abi.NoEscape"], unfollowed := true, recurses := true, named := ["relyguard/expr.names", "relyguard/expr.masks", "internal/strconv.uint64pow10", "math/bits.deBruijn32tab", "math/bits.deBruijn64tab"], loops := true, apart := false, laid := [("math/bits.deBruijn32tab", laid_math_bits_deBruijn32tab), ("math/bits.deBruijn64tab", laid_math_bits_deBruijn64tab), ("internal/strconv.uint64pow10", laid_internal_strconv_uint64pow10), ("relyguard/expr.masks", laid_relyguard_expr_masks), ("relyguard/expr.names", laid_relyguard_expr_names)], narrowed := true }
def ExprRingUptoSaid : Prop := exprRingUptoRow.holds Tryd.pinned (OpenSpec.upto exprRingSpec)

/-- 'relyguardlaw06.ExprBefore', WHERE WHAT IT READS IS OF BULK AT MOST 1048576: true; the input reads as it did. -/
def exprBeforeUptoRow : OpenClaim := { program := "ytdancokndklpnaadoor", sum := "bb31235e57c5d2208db2d2c0fcdec58c082d8cb7fcd1e0599eb63bacaeeb6afb", func := "relyguard/relyguardlaw06.ExprBefore", spec := "exprBefore", inPlace := ["internal/abi.NoEscape"], unfollowed := true, recurses := true, named := ["relyguard/expr.names", "relyguard/expr.masks", "internal/strconv.uint64pow10", "math/bits.deBruijn32tab", "math/bits.deBruijn64tab"], loops := true, apart := false, laid := [("math/bits.deBruijn32tab", laid_math_bits_deBruijn32tab), ("math/bits.deBruijn64tab", laid_math_bits_deBruijn64tab), ("internal/strconv.uint64pow10", laid_internal_strconv_uint64pow10), ("relyguard/expr.masks", laid_relyguard_expr_masks), ("relyguard/expr.names", laid_relyguard_expr_names)], narrowed := true }
def ExprBeforeUptoSaid : Prop := exprBeforeUptoRow.holds Tryd.pinned (OpenSpec.upto exprBeforeSpec)

/-- 'relyguardlaw06.ExprSimplify', WHERE WHAT IT READS IS OF BULK AT MOST 1048576: true; the input reads as it did. -/
def exprSimplifyUptoRow : OpenClaim := { program := "ytdancokndklpnaadoor", sum := "bb31235e57c5d2208db2d2c0fcdec58c082d8cb7fcd1e0599eb63bacaeeb6afb", func := "relyguard/relyguardlaw06.ExprSimplify", spec := "exprSimplify", inPlace := ["internal/abi.NoEscape"], unfollowed := true, recurses := true, named := ["relyguard/expr.names", "relyguard/expr.masks", "internal/strconv.uint64pow10", "math/bits.deBruijn32tab", "math/bits.deBruijn64tab"], loops := true, apart := false, laid := [("math/bits.deBruijn32tab", laid_math_bits_deBruijn32tab), ("math/bits.deBruijn64tab", laid_math_bits_deBruijn64tab), ("internal/strconv.uint64pow10", laid_internal_strconv_uint64pow10), ("relyguard/expr.masks", laid_relyguard_expr_masks), ("relyguard/expr.names", laid_relyguard_expr_names)], narrowed := true }
def ExprSimplifyUptoSaid : Prop := exprSimplifyUptoRow.holds Tryd.pinned (OpenSpec.upto exprSimplifySpec)

/-- 'relyguardlaw06.ExprConnectives', WHERE WHAT IT READS IS OF BULK AT MOST 1048576: true; the input reads as it did. -/
def exprConnectivesUptoRow : OpenClaim := { program := "ytdancokndklpnaadoor", sum := "bb31235e57c5d2208db2d2c0fcdec58c082d8cb7fcd1e0599eb63bacaeeb6afb", func := "relyguard/relyguardlaw06.ExprConnectives", spec := "exprConnectives", inPlace := ["internal/abi.NoEscape"], unfollowed := true, recurses := true, named := ["relyguard/expr.names", "relyguard/expr.masks", "internal/strconv.uint64pow10", "math/bits.deBruijn32tab", "math/bits.deBruijn64tab"], loops := true, apart := false, laid := [("math/bits.deBruijn32tab", laid_math_bits_deBruijn32tab), ("math/bits.deBruijn64tab", laid_math_bits_deBruijn64tab), ("internal/strconv.uint64pow10", laid_internal_strconv_uint64pow10), ("relyguard/expr.masks", laid_relyguard_expr_masks), ("relyguard/expr.names", laid_relyguard_expr_names)], narrowed := true }
def ExprConnectivesUptoSaid : Prop := exprConnectivesUptoRow.holds Tryd.pinned (OpenSpec.upto exprConnectivesSpec)

end Rows
end Go.Proofs.YtdancokndklpnaaDoor
