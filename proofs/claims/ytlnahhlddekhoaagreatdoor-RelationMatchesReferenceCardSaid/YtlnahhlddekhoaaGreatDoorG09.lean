/-
  DERIVED: THE SHELF's CONTRACTS AT THIS DUMP, IN PLAIN WORDS (tools/lay-plain.mjs out of 'TryzShelf.lean', which tools/lay-shelf.mjs wrote): THE SAME DECLARATIONS UNDER THE SAME NAMES: 'import', 'namespace', 'open', 'def', 'theorem' AND NOTHING ELSE: no command of the shelf's: FOR A HAND-IN. Each laying: the table of numbers ('.._ren') and one theorem, a field a fact of the dump's own or the kernel's comparison; each contract: ONE APPLICATION.
  The walks of math/bits.TrailingZeros64, bitmap.list; slices.Clone.
  Structs of three fields in memory; the walk of states.set.
-/
import Derived.Shelf.Slices.Turned
import Derived.Shelf.Slices.Equal
import Derived.Ground.Names2Prog
import Derived.Shelf.Slices.Clone
import Derived.Shelf.Slices.Empties2
import Derived.Test.YtlnahhlddekhoaaGreatDoorProg
import Derived.Test.YtlnahhlddekhoaaGreatDoorG08
import Derived.Shelf.Spec.TrailingZeros
import Derived.Laws.ResultCell
namespace Go.Proofs
open Go.Shelf
def Tryz.lays108_ren : Go.Shelf.Ren := ⟨fun | 108 => 76 | n => n, fun | 28 => 23 | 3 => 3 | 0 => 0 | 4 => 4 | n => n, fun | n => n⟩
theorem Tryz.lays108 : Go.Proofs.Lays.n108 Tryz.prog Tryz.lays108_ren := {
  mixed := by kernel_rfl
  f108 := Tryz.func76.trans (congrArg some (by kernel_rfl))
  t0 := Tryz.underlying0
  a0 := Tryz.isAgg0
  z0 := Tryz.sizeOf0
  v0 := Tryz.zeroValue0
  t3 := Tryz.underlying3
  a3 := Tryz.isAgg3
  z3 := Tryz.sizeOf3
  v3 := Tryz.zeroValue3
  t4 := Tryz.underlying4
  a4 := Tryz.isAgg4
  z4 := Tryz.sizeOf4
  v4 := Tryz.zeroValue4
  t28 := Tryz.underlying23
  a28 := Tryz.isAgg23
  z28 := Tryz.sizeOf23
  v28 := Tryz.zeroValue23 }
open Go.Lib in
/-- slices.Index at []int: "Index returns the index of the first occurrence of v in s, or -1 if not present.": IT RETURNS 'Lib.idxOf (the elements) v'; the world is as it was. 'zs': what the cells behind the slice's address hold (its spare capacity too, if you have it); 'zs.take n': its elements. (LAID: no walk: one application.) -/
theorem Tryz.slices_Index_int (b off n c : Nat) (zs : List Int) (x : Int) (w : World) (hz : n ≤ zs.length) (hbig : n ≤ 9223372036854775807) (hc : ∀ j, j < zs.length → w.cell? ⟨b, off + j, none⟩ = some (.int .i64 (zs.getD j 0))) :
    Calls Tryz.prog 76 #[.slice (some ⟨b, off, none⟩) n c, .int .i64 x] w fun e w' => e = .returned (.int .i64 (Lib.idxOf (zs.take n) x)) ∧ w' = w := Any.slices_Index_int Tryz.lays108 b off n c zs x w hz hbig hc
open Go.Lib in
/-- The same at a slice of length 0, a nil one too: no cell is known, none is asked for. (LAID: no walk: one application.) -/
theorem Tryz.slices_Index_int_empty (a : Option Addr) (c : Nat) (x : Int) (w : World) :
    Calls Tryz.prog 76 #[.slice a 0 c, .int .i64 x] w fun e w' => e = .returned (.int .i64 (Lib.idxOf [] x)) ∧ w' = w := Any.slices_Index_int_empty Tryz.lays108 a c x w
def Tryz.lays107_ren : Go.Shelf.Ren := ⟨fun | 107 => 35 | 108 => 76 | n => n, fun | 28 => 23 | 3 => 3 | 4 => 4 | 0 => 0 | n => n, fun | n => n⟩
theorem Tryz.lays107 : Go.Proofs.Lays.n107 Tryz.prog Tryz.lays107_ren := {
  mixed := by kernel_rfl
  f107 := Tryz.func35.trans (congrArg some (by kernel_rfl))
  f108 := Tryz.func76.trans (congrArg some (by kernel_rfl))
  t0 := Tryz.underlying0
  a0 := Tryz.isAgg0
  z0 := Tryz.sizeOf0
  v0 := Tryz.zeroValue0
  t3 := Tryz.underlying3
  a3 := Tryz.isAgg3
  z3 := Tryz.sizeOf3
  v3 := Tryz.zeroValue3
  t4 := Tryz.underlying4
  a4 := Tryz.isAgg4
  z4 := Tryz.sizeOf4
  v4 := Tryz.zeroValue4
  t28 := Tryz.underlying23
  a28 := Tryz.isAgg23
  z28 := Tryz.sizeOf23
  v28 := Tryz.zeroValue23 }
open Go.Lib in
/-- slices.Contains at []int: "Contains reports whether v is present in s.": IT RETURNS 'elements.contains v'; the world is as it was. ITS CALLEE slices.Index IS MET BY ITS OWN CONTRACT OFF THE SHELF (lay that first): no loop is walked here. (LAID: no walk: one application.) -/
theorem Tryz.slices_Contains_int (b off n c : Nat) (zs : List Int) (x : Int) (w : World) (hz : n ≤ zs.length) (hbig : n ≤ 9223372036854775807) (hc : ∀ j, j < zs.length → w.cell? ⟨b, off + j, none⟩ = some (.int .i64 (zs.getD j 0))) :
    Calls Tryz.prog 35 #[.slice (some ⟨b, off, none⟩) n c, .int .i64 x] w fun e w' => e = .returned (.bool ((zs.take n).contains x)) ∧ w' = w := Any.slices_Contains_int Tryz.lays107 b off n c zs x w hz hbig hc
open Go.Lib in
/-- The same at a slice of length 0, a nil one too. (LAID: no walk: one application.) -/
theorem Tryz.slices_Contains_int_empty (a : Option Addr) (c : Nat) (x : Int) (w : World) :
    Calls Tryz.prog 35 #[.slice a 0 c, .int .i64 x] w fun e w' => e = .returned (.bool false) ∧ w' = w := Any.slices_Contains_int_empty Tryz.lays107 a c x w
def Tryz.lays111_ren : Go.Shelf.Ren := ⟨fun | 111 => 92 | n => n, fun | 28 => 23 | 3 => 3 | 4 => 4 | 0 => 0 | n => n, fun | n => n⟩
theorem Tryz.lays111 : Go.Proofs.Lays.n111 Tryz.prog Tryz.lays111_ren := {
  mixed := by kernel_rfl
  f111 := Tryz.func92.trans (congrArg some (by kernel_rfl))
  t0 := Tryz.underlying0
  a0 := Tryz.isAgg0
  z0 := Tryz.sizeOf0
  v0 := Tryz.zeroValue0
  t3 := Tryz.underlying3
  a3 := Tryz.isAgg3
  z3 := Tryz.sizeOf3
  v3 := Tryz.zeroValue3
  t4 := Tryz.underlying4
  a4 := Tryz.isAgg4
  z4 := Tryz.sizeOf4
  v4 := Tryz.zeroValue4
  t28 := Tryz.underlying23
  a28 := Tryz.isAgg23
  z28 := Tryz.sizeOf23
  v28 := Tryz.zeroValue23 }
open Go.RowKit Go.Lib in
/-- slices.Equal at []int: "Equal reports whether two slices are equal: the same length and all elements equal. If the lengths are different, Equal returns false. Otherwise, the elements are compared in increasing index order, and the comparison stops at the first unequal pair. Empty and nil slices are considered equal.": IT RETURNS WHETHER THE TWO LISTS OF ELEMENTS ARE ONE; the world is as it was but for the count of draws (the test 's1[i] != s2[i]' has two reads, whose order the model draws, once a round). 'xs', 'ys': what the cells behind the two addresses hold (the spare capacity too, if you have it); 'xs.take n', 'ys.take m': the elements. THE TWO SLICES MAY OVERLAP. (LAID: no walk: one application.) -/
theorem Tryz.slices_Equal_int (b1 o1 n c b2 o2 m d : Nat) (xs ys : List Int) (w : World) (hx : n ≤ xs.length) (hy : m ≤ ys.length) (hbig : n ≤ 9223372036854775807) (hbig2 : m ≤ 9223372036854775807) (hc1 : ∀ j, j < xs.length → w.cell? ⟨b1, o1 + j, none⟩ = some (.int .i64 (xs.getD j 0))) (hc2 : ∀ j, j < ys.length → w.cell? ⟨b2, o2 + j, none⟩ = some (.int .i64 (ys.getD j 0))) :
    Calls Tryz.prog 92 #[.slice (some ⟨b1, o1, none⟩) n c, .slice (some ⟨b2, o2, none⟩) m d] w fun e w' => e = .returned (.bool (xs.take n == ys.take m)) ∧ ∃ q, w' = w.drewN q := Any.slices_Equal_int Tryz.lays111 b1 o1 n c b2 o2 m d xs ys w hx hy hbig hbig2 hc1 hc2
open Go.RowKit Go.Lib in
/-- The same where the first is of length 0 (a nil one too): no cell is asked for. (LAID: no walk: one application.) -/
theorem Tryz.slices_Equal_int_empty (a1 a2 : Option Addr) (c m d : Nat) (w : World) (hbig2 : m ≤ 9223372036854775807) :
    Calls Tryz.prog 92 #[.slice a1 0 c, .slice a2 m d] w fun e w' => e = .returned (.bool (decide (m = 0))) ∧ w' = w := Any.slices_Equal_int_empty Tryz.lays111 a1 a2 c m d w hbig2
def Tryz.laysNm215_ren : Go.Shelf.Ren := ⟨fun | 15 => 77 | n => n, fun | 22 => 23 | 3 => 3 | 4 => 4 | n => n, fun | n => n⟩
theorem Tryz.laysNm215 : Go.Proofs.Lays2.n15 Tryz.prog Tryz.laysNm215_ren := {
  mixed := by kernel_rfl
  f15 := Tryz.func77.trans (congrArg some (by kernel_rfl))
  t3 := Tryz.underlying3
  a3 := Tryz.isAgg3
  z3 := Tryz.sizeOf3
  v3 := Tryz.zeroValue3
  t4 := Tryz.underlying4
  a4 := Tryz.isAgg4
  z4 := Tryz.sizeOf4
  v4 := Tryz.zeroValue4
  t22 := Tryz.underlying23
  a22 := Tryz.isAgg23
  z22 := Tryz.sizeOf23
  v22 := Tryz.zeroValue23
  i3 := by kernel_rfl }
open Go.RowKit Go.Lib in
/-- slices.Clone at []int: "Clone returns a copy of the slice. The elements are copied using assignment, so this is a shallow clone. The result may have additional unused capacity. The result preserves the nilness of s.": OF A SLICE THAT IS NOT nil IT RETURNS A SLICE THAT IS NOT nil, OF THE SAME ELEMENTS, IN MEMORY OF THE CALL's OWN: in the how-to's words (6f): 'w'.ownsRow B e 1 v' n cells': v' begins at the head of a row among the blocks from B on (B: the heap's size at the call), not frozen, whose first cells are the elements · 'Below B w w'': below B all is as it was. The capacity is whatever the run-time gives. 'zs': what the cells behind the slice's address hold; 'zs.take n': its elements. (LAID: no walk: one application.) -/
theorem Tryz.slices_Clone_int (b off n c : Nat) (zs : List Int) (w : World) (hz : n ≤ zs.length) (hbig : n * 8 ≤ 140737488355328) (hc : ∀ j, j < zs.length → w.cell? ⟨b, off + j, none⟩ = some (.int .i64 (zs.getD j 0))) :
    Calls Tryz.prog 77 #[.slice (some ⟨b, off, none⟩) n c] w fun e w' => ∃ v', e = .returned v' ∧ w'.ownsRow w.heap.size 3 1 v' n ((zs.take n).map (Value.int .i64)) ∧ v' ≠ .slice none 0 0 ∧ Below w.heap.size w w' := Any.slices_Clone_int Tryz.laysNm215 b off n c zs w hz hbig hc
open Go.RowKit Go.Lib in
/-- The same at nil: nil comes back; the world is as it was. (LAID: no walk: one application.) -/
theorem Tryz.slices_Clone_int_nil (n c : Nat) (w : World) :
    Calls Tryz.prog 77 #[.slice none n c] w fun e w' => e = .returned (.slice none 0 0) ∧ w' = w := Any.slices_Clone_int_nil Tryz.laysNm215 n c w
open Go.RowKit Go.Lib in
/-- The same at a slice of length 0 that is not nil, WHATEVER ITS ADDRESS (no cell is asked for): a slice that is not nil and owns nothing comes back. (LAID: no walk: one application.) -/
theorem Tryz.slices_Clone_int_zero (a : Addr) (c : Nat) (w : World) :
    Calls Tryz.prog 77 #[.slice (some a) 0 c] w fun e w' => ∃ v', e = .returned v' ∧ w'.ownsRow w.heap.size 3 1 v' 0 [] ∧ v' ≠ .slice none 0 0 ∧ Below w.heap.size w w' := Any.slices_Clone_int_zero Tryz.laysNm215 a c w
open Go.RowKit Go.Lib in
theorem Tryz.slices_Equal_int_lens (a1 a2 : Option Addr) (n c m d : Nat) (w : World) (hnm : n ≠ m) :
    Calls Tryz.prog 92 #[.slice a1 n c, .slice a2 m d] w fun e w' => e = .returned (.bool false) ∧ w' = w := Any.slices_Equal_int_lens Tryz.lays111 a1 a2 n c m d w hnm
end Go.Proofs
namespace Go.Proofs.YtlnahhlddekhoaaGreatDoor
open Go.RowKit

/-- The library's table. -/
def DeB (w : World) : Prop := TabAt 1 Lib.deBruijn64tab w
theorem DeB.ext {w w' : World} (h : DeB w) (hx : Ext w w') : DeB w' := fun j hj => hx.cell (h j hj)
theorem tz_core (x k idx : Nat) (w : World) (hx0 : ((x : Int) == 0) = false)
    (key : IntKind.u64.wrap (bits BinOp.and IntKind.u64 (x : Int) (IntKind.u64.wrap (-(x : Int))) * 285870213051353865) / 288230376151711744 = (idx : Int))
    (hi : idx < 64) (hk : k < 64) (hcell : w.cell? ⟨1, idx, none⟩ = some (.int .u8 k)) :
    Calls Tryz.prog 111 #[.int .u64 x] w fun e w' => e = .returned (.int .i64 k) ∧ w' = w := by
  go_enter Tryz.func111, Tryz.ntmps111
  go_wp2_with (simp only [key])
  go_ret
  exact ⟨rfl, rfl⟩
theorem tz_any (x : Nat) (hx : x < 18446744073709551616) (h0 : x ≠ 0) (w : World) (hT : DeB w) : Calls Tryz.prog 111 #[.int .u64 x] w fun e w' => e = .returned (.int .i64 (Lib.ctz 64 x)) ∧ w' = w := by
  obtain ⟨hlow, hk⟩ := Lib.lowest_bit 64 x h0 hx
  obtain ⟨hi, htab⟩ := Lib.deBruijn64_at _ hk
  have hcell := hT _ hi
  rw [htab] at hcell
  exact tz_core x _ _ w (by simp; omega) (tz64_key x _ hx h0 hlow) hi hk hcell

/-- slices.Clone, of whatever slice of ints. -/
theorem Clone_any (l : List Int) (v : Value) (w : World) (hl : Ints w v l) (hb : l.length ≤ 1000000000) : Calls Tryz.prog 77 #[v] w fun r w' => ∃ v', r = .returned v' ∧ OwnInts w' w.heap.size v' l ∧ Ext w w' := by
  rcases hl with ⟨⟨a, c, rfl⟩, rfl⟩ | ⟨b, o, cap, rfl, hm, hc⟩
  · cases a with
    | none =>
      refine (Tryz.slices_Clone_int_nil 0 c w).mono ?_
      rintro r w' ⟨rfl, rfl⟩
      exact ⟨_, rfl, OwnInts.nil _ _, Ext.refl _⟩
    | some a =>
      refine (Tryz.slices_Clone_int_zero a c w).mono ?_
      rintro r w' ⟨v', rfl, h1, _, h2⟩
      exact ⟨_, rfl, h1, h2⟩
  · refine (Tryz.slices_Clone_int b o l.length cap l w (Nat.le_refl _) (by omega) fun j hj => ?_).mono ?_
    · have := hc j hj; rw [Nat.mul_one] at this; rw [this]; simp [List.getD, hj]
    · rintro r w' ⟨v', rfl, h1, _, h2⟩
      rw [List.take_length] at h1
      exact ⟨_, rfl, h1, h2⟩

/-- What the list holds when i words are done, and of the next one a part. -/
def listTo (M : List Nat) (i : Nat) : List Nat := (List.range i).flatMap fun i => (inWord (rowM M i)).map fun j => 64 * i + j
theorem listTo_succ (M : List Nat) (i : Nat) : listTo M (i + 1) = listTo M i ++ (inWord (rowM M i)).map fun j => 64 * i + j := by
  unfold listTo; rw [List.range_succ, List.flatMap_append]; simp
theorem inWord_len (x : Nat) : (inWord x).length ≤ 64 := by
  unfold inWord; exact Nat.le_trans (List.length_filter_le _ _) (by simp)
theorem listTo_len (M : List Nat) (i : Nat) : (listTo M i).length ≤ 64 * i := by
  induction i with
  | zero => simp [listTo]
  | succ i ih =>
    have := inWord_len (rowM M i)
    rw [listTo_succ, List.length_append, List.length_map]; omega
theorem castL_snoc (l : List Nat) (n : Nat) : castL (l ++ [n]) = castL l ++ [(n : Int)] := by simp [castL]

theorem u64_clear {n : Nat} (hn : n < 18446744073709551616) (h0 : n ≠ 0) : bits .and .u64 n (IntKind.u64.wrap ((n : Int) - 1)) = ((n &&& (n - 1) : Nat) : Int) := by
  have : (n : Int) - 1 = ((n - 1 : Nat) : Int) := by omega
  rw [this, u64_id _ (by omega) (by omega), u64_and hn (by omega)]
set_option maxRecDepth 100000 in
set_option maxHeartbeats 1000000 in
theorem list_any (M : List Nat) (b : Nat) (w : World) (hM : WordsAt 112 w b M) (hT : DeB w) : Calls Tryz.prog 100 #[.pointer (some ⟨b, 0, none⟩)] w fun r w' => ∃ v, r = .returned v ∧ OwnInts w' w.heap.size v (castL (listM M)) ∧ Ext w w' := by
  have HM := Lib.hid hM; have HT := Lib.hid hT; clear hM hT
  go_enter Tryz.func100, Tryz.ntmps100
  go_wp2_with fail
  go_loopw [3, 7] (fun v i wr => ∃ k : Nat, k ≤ 64 ∧ i = .int .i64 k ∧ Ext w wr ∧ OwnInts wr w.heap.size v (castL (listTo M k))) (fun _ i _ => 64 - (intOf i).toNat)
  case atStart => exact ⟨0, Nat.zero_le _, rfl, Ext.refl _, OwnInts.nil _ _⟩
  case round =>
    obtain ⟨k, hk, rfl, hX, hO⟩ := hrel
    have HX := Lib.hid hX; have HO := Lib.hid hO; clear hX hO
    by_cases hlt : k < 64
    · have g0 := (HM.out.ext HX.out).cell hlt
      have HLT := Lib.hid (HM.out.lt k)
      have HS := Lib.hid (listTo_succ M k)
      have HLN := Lib.hid (listTo_len M k)
      have i0 : (0 : Int) ≤ (k : Int) := by omega
      have i1 : (k : Int) < 64 := by omega
      generalize ex : rowM M k = x at *
      have EX := Lib.hid ex; clear ex
      go_upto_region 4 with fail
      go_quiet (fail)
      go_wp2_with fail
      have X0 := Lib.hid (HX.out.drewN nq)
      have O0 := Lib.hid (HO.out.kept ((Ext.refl wr).drewN nq))
      clear g0
      generalize wr.drewN nq = wo at *
      go_loopw [3, 5] (fun v y wi => ∃ (n : Nat) (pre : List Nat), y = .int .u64 n ∧ n < 18446744073709551616 ∧ inWord x = pre ++ inWord n ∧ Ext w wi ∧ OwnInts wi w.heap.size v (castL (listTo M k ++ pre.map fun j => 64 * k + j))) (fun _ y _ => (intOf y).toNat)
      case atStart => exact ⟨x, [], rfl, HLT.out, rfl, X0.out, by simpa using O0.out⟩
      case round =>
        obtain ⟨n, pre, rfl, hn, hin, hX, hO⟩ := hrel
        have HX1 := Lib.hid hX; have HO1 := Lib.hid hO; have HIN := Lib.hid hin; have HN := Lib.hid hn; clear hX hO hin hn
        cases hz : ((n : Int) != 0) with
        | true =>
          have hn0 : n ≠ 0 := by intro e; subst e; simp at hz
          obtain ⟨hc, hw⟩ := inWord_low hn0 HN.out
          have hA : n &&& (n - 1) < n := Nat.lt_of_le_of_lt Nat.and_le_right (by omega)
          have HA := Lib.hid hA; have HW := Lib.hid hw; have HN0 := Lib.hid hn0
          have hlen : (castL (listTo M k ++ pre.map fun j => 64 * k + j)).length ≤ 1000000 := by
            have h1 := listTo_len M k
            have h2 := congrArg List.length HIN.out
            have h3 := inWord_len x
            rw [List.length_append] at h2
            rw [castL_len, List.length_append, List.length_map]; omega
          have HLEN := Lib.hid hlen
          clear hA hw hlen
          go_wp2_with fail
          refine (tz_any n HN.out HN0.out _ (HT.out.ext HX1.out)).mono ?_
          rintro r w1 ⟨rfl, rfl⟩
          have HX2 := HX1; have HO2 := HO1
          generalize hcz : Lib.ctz 64 n = c at *
          have HCZ := Lib.hid hcz
          clear hcz hn0
          go_wp2_with (at_builtin; refine wpList_append_int rfl (.tmp 19) (.tmp 25) rfl w.heap.size _ _ _ (64 * (k : Int) + c) rfl rfl HO2.out (by have := HLEN.out; omega) (HX2.out.size) ?_)
          intro v' w' hown' hg
          have hx' : Ext w w' := HX2.out.grown hg (fun q hq => HO2.out.base q hq)
          have HO' := Lib.hid hown'; have HX' := Lib.hid hx'
          clear hown' hx' hg
          go_wp2_with fail
          rw [u64_clear HN.out HN0.out]
          refine ⟨⟨n &&& (n - 1), pre ++ [c], rfl, Nat.lt_of_le_of_lt Nat.and_le_left HN.out, by rw [HIN.out, HW.out]; simp, HX'.out, ?_⟩, by simpa [intOf] using HA.out⟩
          have := HO'.out
          rw [List.map_append, ← List.append_assoc]
          simp only [List.map_cons, List.map_nil]
          rw [castL_snoc]
          exact_mod_cast this
        | false =>
          obtain rfl : n = 0 := by simpa using hz
          have HE : Hid (castL (listTo M k ++ pre.map fun j => 64 * k + j) = castL (listTo M (k + 1))) := by
            unfold Hid
            rw [HS.out, HIN.out, inWord_zero, List.append_nil]
          rw [HE.out] at HO1
          clear HIN HS HE hz
          go_wp2_with fail
          exact ⟨⟨k + 1, by omega, by go_num, HX1.out, HO1.out⟩, by simp [intOf]; omega⟩
    · have HE : Hid (listTo M k = listM M) := by
        obtain rfl : k = 64 := by omega
        rfl
      rw [HE.out] at HO
      go_wp2_with fail
      go_ret
      exact ⟨_, rfl, HO.out, HX.out⟩
end Go.Proofs.YtlnahhlddekhoaaGreatDoor
namespace Go.Proofs.YtlnahhlddekhoaaGreatDoor
open Go.RowKit

/-- Three cells stored. -/
def put3 (w : World) (b : Nat) (x y z : Value) : World := ((w.setCell ⟨b, 0, none⟩ x).setCell ⟨b, 1, none⟩ y).setCell ⟨b, 2, none⟩ z
theorem put3_new {w : World} {b : Nat} {x y z a0 a1 a2 : Value} {t : TypeId} (h : w.heap[b]? = some (.cells #[a0, a1, a2] t (0, 0))) : (put3 w b x y z).heap[b]? = some (.cells #[x, y, z] t (0, 0)) := by
  have h1 := heap_setCell_same w b 0 _ t x h
  have h2 := heap_setCell_same _ b 1 _ t y h1
  have h3 := heap_setCell_same _ b 2 _ t z h2
  exact h3
theorem put3_other {w : World} {b : Nat} {x y z : Value} (k : Nat) (h : k ≠ b) : (put3 w b x y z).heap[k]? = w.heap[k]? := by
  unfold put3
  rw [heap_setCell_other _ _ k _ h, heap_setCell_other _ _ k _ h, heap_setCell_other _ _ k _ h]
theorem Ext.put3 {a w : World} (h : Ext a w) {b : Nat} (hb : a.heap.size ≤ b) (x y z : Value) : Ext a (put3 w b x y z) := ((h.setCell (p := ⟨b, 0, none⟩) hb x).setCell (p := ⟨b, 1, none⟩) hb y).setCell (p := ⟨b, 2, none⟩) hb z
/-- Whatever lies in blocks other than b. -/
theorem Ints.out3 {w : World} {v : Value} {l : List Int} (h : Ints w v l) {b : Nat} (hb : ∀ k, v.ownBlock = some k → l ≠ [] → k ≠ b) (x y z : Value) : Ints (put3 w b x y z) v l := by
  rcases h with h | ⟨g, o, cap, rfl, hm, hc⟩
  · exact .inl h
  · refine .inr ⟨g, o, cap, rfl, hm, fun i hi => ?_⟩
    have hg : g ≠ b := hb g rfl (fun e => by rw [e] at hi; simp at hi)
    have := hc i hi
    unfold IntAt World.cell? at *
    simp only [put3_other g hg]; exact this
theorem block3 {w : World} {R : Nat} {x y z : Value} {t : TypeId} (h : w.heap[R]? = some (.cells #[x, y, z] t (0, 0))) : w.cell? ⟨R, 0, none⟩ = some x ∧ w.cell? ⟨R, 1, none⟩ = some y ∧ w.cell? ⟨R, 2, none⟩ = some z ∧ w.frozen? ⟨R, 0, none⟩ = false ∧ w.frozen? ⟨R, 1, none⟩ = false ∧ w.frozen? ⟨R, 2, none⟩ = false :=
  ⟨(cells3 h).1, (cells3 h).2.1, (cells3 h).2.2, frozen_of_row w R 0 _ t h, frozen_of_row w R 1 _ t h, frozen_of_row w R 2 _ t h⟩
theorem sizeSet : (Tryz.prog.info? 31).map (·.size) = some 3 := by kernel_rfl
/-- A slice of the call's own lies from 'base' on. -/
theorem OwnInts.out3 {w : World} {base : Nat} {v : Value} {l : List Int} (h : OwnInts w base v l) {b : Nat} (hb : b < base) (x y z : Value) : Ints (put3 w b x y z) v l :=
  h.ints.out3 (fun k hk _ => by have := h.base k hk; omega) x y z

/-- A new set. -/
def SetNew (vi : Value) (cs ws is : List Int) (w : World) (r : Ending) (w' : World) : Prop := ∃ vc vw, r = .returned (.agg #[vc, vw, vi]) ∧ OwnInts w' w.heap.size vc cs ∧ OwnInts w' w.heap.size vw ws ∧ Ints w' vi is ∧ Ext w w'
theorem OwnInts.put3 {w : World} {base : Nat} {v : Value} {l : List Int} (h : OwnInts w base v l) {b : Nat} (hb : b < base) (x y z : Value) : OwnInts (Proofs.YtlnahhlddekhoaaGreatDoor.put3 w b x y z) base v l := by
  obtain ⟨h1, h2⟩ := h
  refine ⟨h1, ?_⟩
  rcases h2 with h2 | ⟨g, cap, cur, hv, hg, hh, r⟩
  · exact .inl h2
  · exact .inr ⟨g, cap, cur, hv, hg, by rw [put3_other g (by omega)]; exact hh, r⟩
theorem OwnInts.mono {w : World} {base base' : Nat} {v : Value} {l : List Int} (h : OwnInts w base v l) (hb : base' ≤ base) : OwnInts w base' v l := by
  obtain ⟨h1, h2⟩ := h
  refine ⟨h1, ?_⟩
  rcases h2 with h2 | ⟨g, cap, cur, hv, hg, r⟩
  · exact .inl h2
  · exact .inr ⟨g, cap, cur, hv, by omega, r⟩
/-- What lies in blocks of w is there when blocks from w's size on are written. -/
theorem Ints.lt {w : World} {v : Value} {l : List Int} (h : Ints w v l) (k : Nat) (hk : v.ownBlock = some k) (hl : l ≠ []) : k < w.heap.size := by
  rcases h with ⟨_, h⟩ | ⟨g, o, cap, rfl, hm, hc⟩
  · exact absurd h hl
  · have : 0 < l.length := List.length_pos_iff.2 hl
    have := block_lt (hc 0 this)
    cases hk; exact this

set_option maxHeartbeats 1000000 in
theorem set_any (cs ws is : List Int) (vc vw vi : Value) (w : World) (hc : Ints w vc cs) (hw : Ints w vw ws) (hi : Ints w vi is) (lc : cs.length ≤ 1000000000) (lw : ws.length ≤ 1000000000) : Calls Tryz.prog 98 #[vc, vw, vi] w (SetNew vi cs ws is w) := by
  obtain ⟨ia, ic, rfl⟩ := hi.shape
  obtain ⟨ca, cc, rfl⟩ := hc.shape
  obtain ⟨wa, wc, rfl⟩ := hw.shape
  obtain ⟨W, hW⟩ : ∃ W, W = w.alloc (.cells #[.slice none 0 0, .slice none 0 0, .slice none 0 0] 31) := ⟨_, rfl⟩
  have hx : Ext w W := by rw [hW]; exact (Ext.refl w).alloc _
  have hB : W.heap[w.heap.size]? = some (.cells #[.slice none 0 0, .slice none 0 0, .slice none 0 0] 31 (0, 0)) := by rw [hW]; exact heap_new _ _
  have hz : W.heap.size = w.heap.size + 1 := by rw [hW]; simp
  have HC := Lib.hid (hc.ext hx); have HWd := Lib.hid (hw.ext hx); have HI := Lib.hid hi; have HX := Lib.hid hx; have HW := Lib.hid hW; have HB := Lib.hid hB; have HZ := Lib.hid hz
  clear hc hw hi hx hW hB hz
  go_enter Tryz.func98, Tryz.ntmps98
  go_upto_region 1 with fail
  rw [← HW.out]
  go_wp2_with fail
  refine (Clone_any cs _ _ HC.out lc).mono ?_
  rintro r w1 ⟨v1, rfl, o1, x1⟩
  obtain ⟨a1, c1, rfl⟩ := o1.ints.shape
  have O1 := Lib.hid o1; have X1 := Lib.hid x1
  clear o1 x1
  go_wp2_with fail
  refine (Clone_any ws _ _ (HWd.out.ext X1.out) lw).mono ?_
  rintro r w2 ⟨v2, rfl, o2, x2⟩
  obtain ⟨a2, c2, rfl⟩ := o2.ints.shape
  have O2 := Lib.hid o2; have X2 := Lib.hid x2
  clear o2 x2
  have hB2 := (X1.out.trans X2.out).block w.heap.size (by have := HZ.out; omega)
  rw [HB.out] at hB2
  obtain ⟨p0, p1, p2, f0, f1, f2⟩ := block3 hB2
  have HB3 := Lib.hid (put3_new (x := .slice a1 cs.length c1) (y := .slice a2 ws.length c2) (z := .slice ia is.length ic) hB2)
  have HF : Hid (SetNew (.slice ia is.length ic) cs ws is w (.returned (.agg #[.slice a1 cs.length c1, .slice a2 ws.length c2, .slice ia is.length ic])) (put3 w2 w.heap.size (.slice a1 cs.length c1) (.slice a2 ws.length c2) (.slice ia is.length ic))) := by
    have hz := HZ.out
    have x12 := (HX.out.trans (X1.out.trans X2.out))
    refine ⟨_, _, rfl, ((O1.out.kept X2.out).put3 (by omega) _ _ _).mono (by omega), (O2.out.put3 (by have := X1.out.size; omega) _ _ _).mono (by have := X1.out.size; omega), (HI.out.ext x12).out3 (fun k hk hl => ?_) _ _ _, x12.put3 (Nat.le_refl _) _ _ _⟩
    have := HI.out.lt k hk hl; omega
  clear hB2
  go_wp2_with fail
  exact bodyPost_ret (v := .agg #[.slice a1 cs.length c1, .slice a2 ws.length c2, .slice ia is.length ic]) (results_cell_row Tryz.results98 _ _ w.heap.size 31 _ (0, 0) _ rfl HB3.out Tryz.underlying31 rfl sizeSet) rfl HF.out
end Go.Proofs.YtlnahhlddekhoaaGreatDoor
