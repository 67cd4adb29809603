/-
  NARROWER THAN 'FOR EVERY INPUT', by the rows' own cells (each row's printed sentence says how): CnfModels: laid · CnfCanonical: laid · CnfText: laid · CnfResolution: laid · CnfRenaming: laid · CnfConjunction: laid.
  DERIVED. THE GIVEN ROWS OF THIS SEAT. 6 by the template 'for every input the law returns true; each argument reads behind the call as it read before'; 0 by the template 'total and deterministic' (their statements: YtnkhaobokmmnjaaDoorTotals.lean).
  GIVEN WITH THE SEED: the statements are not yours to turn. If you find one false, say at which input.
  Laid BY PROGRAM, IN A SANDBOX (cutbox-rows.mjs): the forced cells as the released guide's own fill.sh prints them over the translation 1b46edb209903fea… (all of the seat's roots in one cut). By AI agents, Wed Nov 11 2026. No macro, syntax, notation, axiom, sorry.
-/
import Derived.Test.YtnkhaobokmmnjaaDoorChecked
import GoSem.Claim
import GoSem.ClaimJoined
import GoSem.ClaimMapViews
import Derived.JoinedTies
import Derived.KernelRfl
namespace Go.Proofs.YtnkhaobokmmnjaaDoor
/- THE CELL 'sum', in the pinned program and in every row, IS THE sha256 OF THE DUMP (.gsa) THAT YtnkhaobokmmnjaaDoorProg.lean LOADS. Nothing in Lean hashes anything: it is a label: what it is worth is what the hold of that sum in a sandbox is worth. -/
noncomputable def Tryd.pinned : Pinned := { name := "ytnkhaobokmmnjaadoor", sum := "1b46edb209903fead6f0f01ea9f3dceabd6e67d17ccf82e92ec115a97a30db85", checked := Tryd.checked }
namespace Rows
def none {H : Type} : Left H := { results := [], args := [] }

/- WHAT THE LISTED PACKAGE-LEVEL VARIABLES READ AS WHEN THE CALL BEGINS. Each datum BY PROGRAM (the guide's laid-datum.mjs) off the statement by which the dump's own 'gosem.cut.vars' lays the variable. In a bare row this is a premise. The card (YtnkhaobokmmnjaaDoorCards.lean) ties it to the program's text. -/
def laid_math_bits_deBruijn32tab {H : Type} : DataW H := .agg [.lit (.int .u8 0), .lit (.int .u8 1), .lit (.int .u8 28), .lit (.int .u8 2), .lit (.int .u8 29), .lit (.int .u8 14), .lit (.int .u8 24), .lit (.int .u8 3), .lit (.int .u8 30), .lit (.int .u8 22), .lit (.int .u8 20), .lit (.int .u8 15), .lit (.int .u8 25), .lit (.int .u8 17), .lit (.int .u8 4), .lit (.int .u8 8), .lit (.int .u8 31), .lit (.int .u8 27), .lit (.int .u8 13), .lit (.int .u8 23), .lit (.int .u8 21), .lit (.int .u8 19), .lit (.int .u8 16), .lit (.int .u8 7), .lit (.int .u8 26), .lit (.int .u8 12), .lit (.int .u8 18), .lit (.int .u8 6), .lit (.int .u8 11), .lit (.int .u8 5), .lit (.int .u8 10), .lit (.int .u8 9)]
def laid_math_bits_deBruijn64tab {H : Type} : DataW H := .agg [.lit (.int .u8 0), .lit (.int .u8 1), .lit (.int .u8 56), .lit (.int .u8 2), .lit (.int .u8 57), .lit (.int .u8 49), .lit (.int .u8 28), .lit (.int .u8 3), .lit (.int .u8 61), .lit (.int .u8 58), .lit (.int .u8 42), .lit (.int .u8 50), .lit (.int .u8 38), .lit (.int .u8 29), .lit (.int .u8 17), .lit (.int .u8 4), .lit (.int .u8 62), .lit (.int .u8 47), .lit (.int .u8 59), .lit (.int .u8 36), .lit (.int .u8 45), .lit (.int .u8 43), .lit (.int .u8 51), .lit (.int .u8 22), .lit (.int .u8 53), .lit (.int .u8 39), .lit (.int .u8 33), .lit (.int .u8 30), .lit (.int .u8 24), .lit (.int .u8 18), .lit (.int .u8 12), .lit (.int .u8 5), .lit (.int .u8 63), .lit (.int .u8 55), .lit (.int .u8 48), .lit (.int .u8 27), .lit (.int .u8 60), .lit (.int .u8 41), .lit (.int .u8 37), .lit (.int .u8 16), .lit (.int .u8 46), .lit (.int .u8 35), .lit (.int .u8 44), .lit (.int .u8 21), .lit (.int .u8 52), .lit (.int .u8 32), .lit (.int .u8 23), .lit (.int .u8 11), .lit (.int .u8 54), .lit (.int .u8 26), .lit (.int .u8 40), .lit (.int .u8 15), .lit (.int .u8 34), .lit (.int .u8 20), .lit (.int .u8 31), .lit (.int .u8 10), .lit (.int .u8 25), .lit (.int .u8 14), .lit (.int .u8 19), .lit (.int .u8 9), .lit (.int .u8 13), .lit (.int .u8 8), .lit (.int .u8 7), .lit (.int .u8 6)]
def laid_internal_strconv_uint64pow10 {H : Type} : DataW H := .agg [.lit (.int .u64 1), .lit (.int .u64 10), .lit (.int .u64 100), .lit (.int .u64 1000), .lit (.int .u64 10000), .lit (.int .u64 100000), .lit (.int .u64 1000000), .lit (.int .u64 10000000), .lit (.int .u64 100000000), .lit (.int .u64 1000000000), .lit (.int .u64 10000000000), .lit (.int .u64 100000000000), .lit (.int .u64 1000000000000), .lit (.int .u64 10000000000000), .lit (.int .u64 100000000000000), .lit (.int .u64 1000000000000000), .lit (.int .u64 10000000000000000), .lit (.int .u64 100000000000000000), .lit (.int .u64 1000000000000000000), .lit (.int .u64 10000000000000000000)]

/-- 'relyguardlaw21.CnfModels': WHATEVER THE INPUT: true; the input reads as it did. -/
def cnfModelsSpec : ChangeSpec := { name := "cnfModels", fn := fun _ => fun
  | [d1, d2] => { results := [.lit (.bool true)], args := [d1, d2] }
  | _ => none }
def cnfModelsRow : OpenClaim := { program := "ytnkhaobokmmnjaadoor", sum := "1b46edb209903fead6f0f01ea9f3dceabd6e67d17ccf82e92ec115a97a30db85", func := "relyguard/relyguardlaw21.CnfModels", spec := "cnfModels", inPlace := ["internal/bytealg.IndexByteString", "internal/bytealg.IndexString", "internal/abi.NoEscape"], unfollowed := true, recurses := true, named := ["internal/bytealg.MaxLen", "internal/strconv.uint64pow10", "math/bits.deBruijn32tab", "math/bits.deBruijn64tab"], apart := false, laid := [("math/bits.deBruijn32tab", laid_math_bits_deBruijn32tab), ("math/bits.deBruijn64tab", laid_math_bits_deBruijn64tab), ("internal/strconv.uint64pow10", laid_internal_strconv_uint64pow10)] }
def CnfModelsSaid : Prop := cnfModelsRow.holds Tryd.pinned (OpenSpec.ofChange cnfModelsSpec)

/-- ITS FALSE NEIGHBOUR: 'it returns false'. Refute it at one input. -/
def cnfModelsWrong : ChangeSpec := { name := "cnfModels", fn := fun _ => fun
  | [d1, d2] => { results := [.lit (.bool false)], args := [d1, d2] }
  | _ => none }
def CnfModelsWrongFalsely : Prop := cnfModelsRow.holds Tryd.pinned (OpenSpec.ofChange cnfModelsWrong)

/-- 'relyguardlaw21.CnfCanonical': WHATEVER THE INPUT: true; the input reads as it did. -/
def cnfCanonicalSpec : ChangeSpec := { name := "cnfCanonical", fn := fun _ => fun
  | [d1, d2, d3, d4] => { results := [.lit (.bool true)], args := [d1, d2, d3, d4] }
  | _ => none }
def cnfCanonicalRow : OpenClaim := { program := "ytnkhaobokmmnjaadoor", sum := "1b46edb209903fead6f0f01ea9f3dceabd6e67d17ccf82e92ec115a97a30db85", func := "relyguard/relyguardlaw21.CnfCanonical", spec := "cnfCanonical", inPlace := ["internal/bytealg.IndexByteString", "internal/bytealg.IndexString", "internal/abi.NoEscape"], unfollowed := true, recurses := true, named := ["internal/bytealg.MaxLen", "internal/strconv.uint64pow10", "math/bits.deBruijn32tab", "math/bits.deBruijn64tab"], apart := false, laid := [("math/bits.deBruijn32tab", laid_math_bits_deBruijn32tab), ("math/bits.deBruijn64tab", laid_math_bits_deBruijn64tab), ("internal/strconv.uint64pow10", laid_internal_strconv_uint64pow10)] }
def CnfCanonicalSaid : Prop := cnfCanonicalRow.holds Tryd.pinned (OpenSpec.ofChange cnfCanonicalSpec)

/-- ITS FALSE NEIGHBOUR: 'it returns false'. Refute it at one input. -/
def cnfCanonicalWrong : ChangeSpec := { name := "cnfCanonical", fn := fun _ => fun
  | [d1, d2, d3, d4] => { results := [.lit (.bool false)], args := [d1, d2, d3, d4] }
  | _ => none }
def CnfCanonicalWrongFalsely : Prop := cnfCanonicalRow.holds Tryd.pinned (OpenSpec.ofChange cnfCanonicalWrong)

/-- 'relyguardlaw21.CnfText': WHATEVER THE INPUT: true; the input reads as it did. -/
def cnfTextSpec : ChangeSpec := { name := "cnfText", fn := fun _ => fun
  | [d1, d2] => { results := [.lit (.bool true)], args := [d1, d2] }
  | _ => none }
def cnfTextRow : OpenClaim := { program := "ytnkhaobokmmnjaadoor", sum := "1b46edb209903fead6f0f01ea9f3dceabd6e67d17ccf82e92ec115a97a30db85", func := "relyguard/relyguardlaw21.CnfText", spec := "cnfText", inPlace := ["internal/bytealg.IndexByteString", "internal/bytealg.IndexString", "internal/abi.NoEscape"], unfollowed := true, recurses := true, named := ["internal/bytealg.MaxLen", "internal/strconv.uint64pow10", "math/bits.deBruijn32tab", "math/bits.deBruijn64tab"], apart := false, laid := [("math/bits.deBruijn32tab", laid_math_bits_deBruijn32tab), ("math/bits.deBruijn64tab", laid_math_bits_deBruijn64tab), ("internal/strconv.uint64pow10", laid_internal_strconv_uint64pow10)] }
def CnfTextSaid : Prop := cnfTextRow.holds Tryd.pinned (OpenSpec.ofChange cnfTextSpec)

/-- ITS FALSE NEIGHBOUR: 'it returns false'. Refute it at one input. -/
def cnfTextWrong : ChangeSpec := { name := "cnfText", fn := fun _ => fun
  | [d1, d2] => { results := [.lit (.bool false)], args := [d1, d2] }
  | _ => none }
def CnfTextWrongFalsely : Prop := cnfTextRow.holds Tryd.pinned (OpenSpec.ofChange cnfTextWrong)

/-- 'relyguardlaw21.CnfResolution': WHATEVER THE INPUT: true; the input reads as it did. -/
def cnfResolutionSpec : ChangeSpec := { name := "cnfResolution", fn := fun _ => fun
  | [d1, d2, d3, d4] => { results := [.lit (.bool true)], args := [d1, d2, d3, d4] }
  | _ => none }
def cnfResolutionRow : OpenClaim := { program := "ytnkhaobokmmnjaadoor", sum := "1b46edb209903fead6f0f01ea9f3dceabd6e67d17ccf82e92ec115a97a30db85", func := "relyguard/relyguardlaw21.CnfResolution", spec := "cnfResolution", inPlace := ["internal/bytealg.IndexByteString", "internal/bytealg.IndexString", "internal/abi.NoEscape"], unfollowed := true, recurses := true, named := ["internal/bytealg.MaxLen", "internal/strconv.uint64pow10", "math/bits.deBruijn32tab", "math/bits.deBruijn64tab"], apart := false, laid := [("math/bits.deBruijn32tab", laid_math_bits_deBruijn32tab), ("math/bits.deBruijn64tab", laid_math_bits_deBruijn64tab), ("internal/strconv.uint64pow10", laid_internal_strconv_uint64pow10)] }
def CnfResolutionSaid : Prop := cnfResolutionRow.holds Tryd.pinned (OpenSpec.ofChange cnfResolutionSpec)

/-- ITS FALSE NEIGHBOUR: 'it returns false'. Refute it at one input. -/
def cnfResolutionWrong : ChangeSpec := { name := "cnfResolution", fn := fun _ => fun
  | [d1, d2, d3, d4] => { results := [.lit (.bool false)], args := [d1, d2, d3, d4] }
  | _ => none }
def CnfResolutionWrongFalsely : Prop := cnfResolutionRow.holds Tryd.pinned (OpenSpec.ofChange cnfResolutionWrong)

/-- 'relyguardlaw21.CnfRenaming': WHATEVER THE INPUT: true; the input reads as it did. -/
def cnfRenamingSpec : ChangeSpec := { name := "cnfRenaming", fn := fun _ => fun
  | [d1, d2, d3, d4] => { results := [.lit (.bool true)], args := [d1, d2, d3, d4] }
  | _ => none }
def cnfRenamingRow : OpenClaim := { program := "ytnkhaobokmmnjaadoor", sum := "1b46edb209903fead6f0f01ea9f3dceabd6e67d17ccf82e92ec115a97a30db85", func := "relyguard/relyguardlaw21.CnfRenaming", spec := "cnfRenaming", inPlace := ["internal/bytealg.IndexByteString", "internal/bytealg.IndexString", "internal/abi.NoEscape"], unfollowed := true, recurses := true, named := ["internal/bytealg.MaxLen", "internal/strconv.uint64pow10", "math/bits.deBruijn32tab", "math/bits.deBruijn64tab"], apart := false, laid := [("math/bits.deBruijn32tab", laid_math_bits_deBruijn32tab), ("math/bits.deBruijn64tab", laid_math_bits_deBruijn64tab), ("internal/strconv.uint64pow10", laid_internal_strconv_uint64pow10)] }
def CnfRenamingSaid : Prop := cnfRenamingRow.holds Tryd.pinned (OpenSpec.ofChange cnfRenamingSpec)

/-- ITS FALSE NEIGHBOUR: 'it returns false'. Refute it at one input. -/
def cnfRenamingWrong : ChangeSpec := { name := "cnfRenaming", fn := fun _ => fun
  | [d1, d2, d3, d4] => { results := [.lit (.bool false)], args := [d1, d2, d3, d4] }
  | _ => none }
def CnfRenamingWrongFalsely : Prop := cnfRenamingRow.holds Tryd.pinned (OpenSpec.ofChange cnfRenamingWrong)

/-- 'relyguardlaw21.CnfConjunction': WHATEVER THE INPUT: true; the input reads as it did. -/
def cnfConjunctionSpec : ChangeSpec := { name := "cnfConjunction", fn := fun _ => fun
  | [d1, d2, d3] => { results := [.lit (.bool true)], args := [d1, d2, d3] }
  | _ => none }
def cnfConjunctionRow : OpenClaim := { program := "ytnkhaobokmmnjaadoor", sum := "1b46edb209903fead6f0f01ea9f3dceabd6e67d17ccf82e92ec115a97a30db85", func := "relyguard/relyguardlaw21.CnfConjunction", spec := "cnfConjunction", inPlace := ["internal/bytealg.IndexByteString", "internal/bytealg.IndexString", "internal/abi.NoEscape"], unfollowed := true, recurses := true, named := ["internal/bytealg.MaxLen", "internal/strconv.uint64pow10", "math/bits.deBruijn32tab", "math/bits.deBruijn64tab"], apart := false, laid := [("math/bits.deBruijn32tab", laid_math_bits_deBruijn32tab), ("math/bits.deBruijn64tab", laid_math_bits_deBruijn64tab), ("internal/strconv.uint64pow10", laid_internal_strconv_uint64pow10)] }
def CnfConjunctionSaid : Prop := cnfConjunctionRow.holds Tryd.pinned (OpenSpec.ofChange cnfConjunctionSpec)

/-- ITS FALSE NEIGHBOUR: 'it returns false'. Refute it at one input. -/
def cnfConjunctionWrong : ChangeSpec := { name := "cnfConjunction", fn := fun _ => fun
  | [d1, d2, d3] => { results := [.lit (.bool false)], args := [d1, d2, d3] }
  | _ => none }
def CnfConjunctionWrongFalsely : Prop := cnfConjunctionRow.holds Tryd.pinned (OpenSpec.ofChange cnfConjunctionWrong)

/- THE SECOND FORM. 'bulk': how many values and letters a reading holds, each counted each time it is reached (what is shared counts as often as it is met; a slice's spare places count too). A statement '..UptoSaid' is the law's where the arguments, and the package variables that the reading takes, are together of bulk at most 1048576: NARROWER than '..Said'. Prove '..Said' where nothing that the law and all that it calls make is longer than what came in: it says more and counts as full. Else prove '..UptoSaid'. A law counts once. -/
mutual
def uptoBulk {H : Type} : DataW H → Nat
  | .lit (.string bytes) => bytes.length + 1
  | .lit _ => 1
  | .nil => 1
  | .ptr d => uptoBulk d + 1
  | .slice elems spare => uptoBulkAll elems + uptoBulkAll spare + 1
  | .agg parts => uptoBulkAll parts + 1
  | .iface _ d => uptoBulk d + 1
  | .map entries => uptoBulkEntries entries + 1
  | .held _ => 1
def uptoBulkAll {H : Type} : List (DataW H) → Nat
  | [] => 0
  | d :: r => uptoBulk d + uptoBulkAll r
def uptoBulkEntries {H : Type} : List (Lit × DataW H) → Nat
  | [] => 0
  | x :: r => uptoBulkEntry x + uptoBulkEntries r
def uptoBulkEntry {H : Type} : Lit × DataW H → Nat
  | (.string bytes, d) => bytes.length + uptoBulk d + 1
  | (_, d) => uptoBulk d + 1
 end
def uptoSmall : (H : Type) → List (DataW H) → Bool := fun _ ds => decide (uptoBulkAll ds ≤ 1048576)
def OpenSpec.upto (s : _root_.Go.ChangeSpec) : _root_.Go.OpenSpec := { _root_.Go.OpenSpec.ofChange s with cond := some uptoSmall }

/-- 'relyguardlaw21.CnfModels', WHERE WHAT IT READS IS OF BULK AT MOST 1048576: true; the input reads as it did. -/
def cnfModelsUptoRow : OpenClaim := { program := "ytnkhaobokmmnjaadoor", sum := "1b46edb209903fead6f0f01ea9f3dceabd6e67d17ccf82e92ec115a97a30db85", func := "relyguard/relyguardlaw21.CnfModels", spec := "cnfModels", inPlace := ["internal/bytealg.IndexByteString", "internal/bytealg.IndexString", "internal/abi.NoEscape"], unfollowed := true, recurses := true, named := ["internal/bytealg.MaxLen", "internal/strconv.uint64pow10", "math/bits.deBruijn32tab", "math/bits.deBruijn64tab"], apart := false, laid := [("math/bits.deBruijn32tab", laid_math_bits_deBruijn32tab), ("math/bits.deBruijn64tab", laid_math_bits_deBruijn64tab), ("internal/strconv.uint64pow10", laid_internal_strconv_uint64pow10)], narrowed := true }
def CnfModelsUptoSaid : Prop := cnfModelsUptoRow.holds Tryd.pinned (OpenSpec.upto cnfModelsSpec)

/-- 'relyguardlaw21.CnfCanonical', WHERE WHAT IT READS IS OF BULK AT MOST 1048576: true; the input reads as it did. -/
def cnfCanonicalUptoRow : OpenClaim := { program := "ytnkhaobokmmnjaadoor", sum := "1b46edb209903fead6f0f01ea9f3dceabd6e67d17ccf82e92ec115a97a30db85", func := "relyguard/relyguardlaw21.CnfCanonical", spec := "cnfCanonical", inPlace := ["internal/bytealg.IndexByteString", "internal/bytealg.IndexString", "internal/abi.NoEscape"], unfollowed := true, recurses := true, named := ["internal/bytealg.MaxLen", "internal/strconv.uint64pow10", "math/bits.deBruijn32tab", "math/bits.deBruijn64tab"], apart := false, laid := [("math/bits.deBruijn32tab", laid_math_bits_deBruijn32tab), ("math/bits.deBruijn64tab", laid_math_bits_deBruijn64tab), ("internal/strconv.uint64pow10", laid_internal_strconv_uint64pow10)], narrowed := true }
def CnfCanonicalUptoSaid : Prop := cnfCanonicalUptoRow.holds Tryd.pinned (OpenSpec.upto cnfCanonicalSpec)

/-- 'relyguardlaw21.CnfText', WHERE WHAT IT READS IS OF BULK AT MOST 1048576: true; the input reads as it did. -/
def cnfTextUptoRow : OpenClaim := { program := "ytnkhaobokmmnjaadoor", sum := "1b46edb209903fead6f0f01ea9f3dceabd6e67d17ccf82e92ec115a97a30db85", func := "relyguard/relyguardlaw21.CnfText", spec := "cnfText", inPlace := ["internal/bytealg.IndexByteString", "internal/bytealg.IndexString", "internal/abi.NoEscape"], unfollowed := true, recurses := true, named := ["internal/bytealg.MaxLen", "internal/strconv.uint64pow10", "math/bits.deBruijn32tab", "math/bits.deBruijn64tab"], apart := false, laid := [("math/bits.deBruijn32tab", laid_math_bits_deBruijn32tab), ("math/bits.deBruijn64tab", laid_math_bits_deBruijn64tab), ("internal/strconv.uint64pow10", laid_internal_strconv_uint64pow10)], narrowed := true }
def CnfTextUptoSaid : Prop := cnfTextUptoRow.holds Tryd.pinned (OpenSpec.upto cnfTextSpec)

/-- 'relyguardlaw21.CnfResolution', WHERE WHAT IT READS IS OF BULK AT MOST 1048576: true; the input reads as it did. -/
def cnfResolutionUptoRow : OpenClaim := { program := "ytnkhaobokmmnjaadoor", sum := "1b46edb209903fead6f0f01ea9f3dceabd6e67d17ccf82e92ec115a97a30db85", func := "relyguard/relyguardlaw21.CnfResolution", spec := "cnfResolution", inPlace := ["internal/bytealg.IndexByteString", "internal/bytealg.IndexString", "internal/abi.NoEscape"], unfollowed := true, recurses := true, named := ["internal/bytealg.MaxLen", "internal/strconv.uint64pow10", "math/bits.deBruijn32tab", "math/bits.deBruijn64tab"], apart := false, laid := [("math/bits.deBruijn32tab", laid_math_bits_deBruijn32tab), ("math/bits.deBruijn64tab", laid_math_bits_deBruijn64tab), ("internal/strconv.uint64pow10", laid_internal_strconv_uint64pow10)], narrowed := true }
def CnfResolutionUptoSaid : Prop := cnfResolutionUptoRow.holds Tryd.pinned (OpenSpec.upto cnfResolutionSpec)

/-- 'relyguardlaw21.CnfRenaming', WHERE WHAT IT READS IS OF BULK AT MOST 1048576: true; the input reads as it did. -/
def cnfRenamingUptoRow : OpenClaim := { program := "ytnkhaobokmmnjaadoor", sum := "1b46edb209903fead6f0f01ea9f3dceabd6e67d17ccf82e92ec115a97a30db85", func := "relyguard/relyguardlaw21.CnfRenaming", spec := "cnfRenaming", inPlace := ["internal/bytealg.IndexByteString", "internal/bytealg.IndexString", "internal/abi.NoEscape"], unfollowed := true, recurses := true, named := ["internal/bytealg.MaxLen", "internal/strconv.uint64pow10", "math/bits.deBruijn32tab", "math/bits.deBruijn64tab"], apart := false, laid := [("math/bits.deBruijn32tab", laid_math_bits_deBruijn32tab), ("math/bits.deBruijn64tab", laid_math_bits_deBruijn64tab), ("internal/strconv.uint64pow10", laid_internal_strconv_uint64pow10)], narrowed := true }
def CnfRenamingUptoSaid : Prop := cnfRenamingUptoRow.holds Tryd.pinned (OpenSpec.upto cnfRenamingSpec)

/-- 'relyguardlaw21.CnfConjunction', WHERE WHAT IT READS IS OF BULK AT MOST 1048576: true; the input reads as it did. -/
def cnfConjunctionUptoRow : OpenClaim := { program := "ytnkhaobokmmnjaadoor", sum := "1b46edb209903fead6f0f01ea9f3dceabd6e67d17ccf82e92ec115a97a30db85", func := "relyguard/relyguardlaw21.CnfConjunction", spec := "cnfConjunction", inPlace := ["internal/bytealg.IndexByteString", "internal/bytealg.IndexString", "internal/abi.NoEscape"], unfollowed := true, recurses := true, named := ["internal/bytealg.MaxLen", "internal/strconv.uint64pow10", "math/bits.deBruijn32tab", "math/bits.deBruijn64tab"], apart := false, laid := [("math/bits.deBruijn32tab", laid_math_bits_deBruijn32tab), ("math/bits.deBruijn64tab", laid_math_bits_deBruijn64tab), ("internal/strconv.uint64pow10", laid_internal_strconv_uint64pow10)], narrowed := true }
def CnfConjunctionUptoSaid : Prop := cnfConjunctionUptoRow.holds Tryd.pinned (OpenSpec.upto cnfConjunctionSpec)

end Rows
end Go.Proofs.YtnkhaobokmmnjaaDoor
