/-
  Arrays of 64 words in memory; the walk of bitmap.add.
  The walks of states.mapOf and bitmap.list.
  The walks of math/bits.TrailingZeros64, bitmap.list; slices.Clone.
-/
import Derived.Test.YtdiopiekmdfklaaDoorMRel
import Derived.Test.YtdiopiekmdfklaaDoorMStb
import Derived.StillTailTactics
import Derived.Laws.Rows
import Derived.Laws.Tables
import Derived.Deep.DeepFit
import Derived.Great.BuildSlice
import Derived.Laws.CopyOwn
import Derived.Test.YtdiopiekmdfklaaDoorShelf
import Derived.Shelf.Spec.TrailingZeros
namespace Go.Proofs.YtdiopiekmdfklaaDoor
open Go.RowKit

/-- 64 words, as values; in a block. -/
def wordsV (M : List Nat) : Array Value := ((List.range 64).map fun i => Value.int .u64 (rowM M i)).toArray
theorem wordsV_size (M : List Nat) : (wordsV M).size = 64 := by simp [wordsV]
theorem wordsV_get (M : List Nat) {i : Nat} (h : i < 64) : (wordsV M)[i]? = some (.int .u64 (rowM M i)) := by simp [wordsV, h]
structure WordsAt (t : TypeId) (w : World) (b : Nat) (M : List Nat) : Prop where
  heap : w.heap[b]? = some (.cells (wordsV M) t (0, 0))
  len : M.length = 64
  lt : ∀ i, rowM M i < 18446744073709551616
theorem WordsAt.cell {t : TypeId} {w : World} {b : Nat} {M : List Nat} (h : WordsAt t w b M) {i : Nat} (hi : i < 64) : w.cell? ⟨b, i, none⟩ = some (.int .u64 (rowM M i)) := by
  rw [cell_of_row w b i _ t _ h.heap, wordsV_get M hi]
theorem WordsAt.frozen {t : TypeId} {w : World} {b : Nat} {M : List Nat} (h : WordsAt t w b M) (i : Nat) : w.frozen? ⟨b, i, none⟩ = false := frozen_of_row w b i _ t h.heap
theorem WordsAt.lt_size {t : TypeId} {w : World} {b : Nat} {M : List Nat} (h : WordsAt t w b M) : b < w.heap.size := (Array.getElem?_eq_some_iff.1 h.heap).1
theorem WordsAt.ext {t : TypeId} {w w' : World} {b : Nat} {M : List Nat} (h : WordsAt t w b M) (hx : Ext w w') : WordsAt t w' b M := ⟨by rw [hx.block b h.lt_size]; exact h.heap, h.len, h.lt⟩
theorem WordsAt.drewN {t : TypeId} {w : World} {b : Nat} {M : List Nat} (h : WordsAt t w b M) (n : Nat) : WordsAt t (w.drewN n) b M := ⟨h.heap, h.len, h.lt⟩
theorem row_set {M : List Nat} {i v : Nat} (hi : i < M.length) (j : Nat) : rowM (M.set i v) j = if j = i then v else rowM M j := by
  unfold rowM
  by_cases h : j = i
  · subst h; simp [List.getD, hi]
  · have h' : ¬ i = j := fun e => h e.symm
    simp [List.getD, h, h']
theorem wordsV_set {M : List Nat} {i v : Nat} (hM : M.length = 64) (hi : i < 64) : (wordsV M).setIfInBounds i (.int .u64 v) = wordsV (M.set i v) := by
  apply Array.ext_getElem?
  intro j
  by_cases hj : j < 64
  · rw [wordsV_get _ hj, row_set (by omega), Array.getElem?_setIfInBounds]
    by_cases e : j = i
    · subst e; simp [wordsV_size, hj]
    · have e' : ¬ i = j := fun h => e h.symm
      simp [e, e', wordsV_get M hj]
  · rw [Array.getElem?_eq_none (by simp [wordsV_size]; omega), Array.getElem?_eq_none (by simp [wordsV_size]; omega)]
theorem WordsAt.set {t : TypeId} {w : World} {b : Nat} {M : List Nat} (h : WordsAt t w b M) {i v : Nat} (hi : i < 64) (hv : v < 18446744073709551616) : WordsAt t (w.setCell ⟨b, i, none⟩ (.int .u64 v)) b (M.set i v) := by
  refine ⟨?_, by rw [List.length_set, h.len], fun j => ?_⟩
  · rw [heap_setCell_same w b i _ t _ h.heap, wordsV_set h.len hi]
  · rw [row_set (by rw [h.len]; exact hi)]
    split
    · exact hv
    · exact h.lt j
theorem WordsAt.other {t : TypeId} {w : World} {b : Nat} {M : List Nat} (h : WordsAt t w b M) {p : Addr} (hp : b ≠ p.block) (v : Value) : WordsAt t (w.setCell p v) b M :=
  ⟨by rw [heap_setCell_other w p b v hp]; exact h.heap, h.len, h.lt⟩
theorem WordsAt.alloc {t : TypeId} {w : World} {b : Nat} {M : List Nat} (h : WordsAt t w b M) (o : Obj) : WordsAt t (w.alloc o) b M := h.ext ((Ext.refl w).alloc o)
theorem WordsAt.new (t : TypeId) (w : World) (M : List Nat) (hM : M.length = 64) (hl : ∀ i, rowM M i < 18446744073709551616) : WordsAt t (w.alloc (.cells (wordsV M) t)) w.heap.size M := ⟨heap_new _ _, hM, hl⟩
/-- Go's operators on words. -/
theorem u64_id (n : Int) (h₀ : 0 ≤ n) (h₁ : n < 2 ^ 64) : IntKind.u64.wrap n = n := by
  show (n % 2 ^ 64 : Int) = n
  exact Int.emod_eq_of_lt h₀ h₁
theorem u64_pow {r : Nat} (h : r < 64) : IntKind.u64.wrap (2 ^ r) = ((1 <<< r : Nat) : Int) := by
  have h2 := shl_lt h
  have h3 : (2 : Int) ^ r = ((1 <<< r : Nat) : Int) := by rw [Nat.one_shiftLeft]; push_cast; rfl
  rw [h3, u64_id _ (Int.natCast_nonneg _) (by exact_mod_cast h2)]
theorem u64_or {x y : Nat} (hx : x < 18446744073709551616) (hy : y < 18446744073709551616) : bits .or .u64 x y = ((x ||| y : Nat) : Int) := (bits_nat .u64 64 (by decide) u64_id x y hx hy).2
theorem u64_and {x y : Nat} (hx : x < 18446744073709551616) (hy : y < 18446744073709551616) : bits .and .u64 x y = ((x &&& y : Nat) : Int) := (bits_nat .u64 64 (by decide) u64_id x y hx hy).1
theorem row_or (M : List Nat) (i w : Nat) : orAt M i w = M.set i (rowM M i ||| w) := rfl

set_option maxHeartbeats 1000000 in
set_option maxRecDepth 100000 in
theorem add_any (n : Nat) (b : Nat) (M : List Nat) (w : World) (hn : n < 4096) (hM : WordsAt 71 w b M) :
    Calls Tryd.prog 46 #[.pointer (some ⟨b, 0, none⟩), .int .i64 n] w fun r w' => r = .returned (.tuple #[]) ∧ ∃ k, w' = (w.setCell ⟨b, n / 64, none⟩ (.int .u64 (rowM M (n / 64) ||| 1 <<< (n % 64) : Nat))).drewN k := by
  obtain ⟨q, hq⟩ : ∃ q, q = n / 64 := ⟨_, rfl⟩
  obtain ⟨r, hr⟩ : ∃ r, r = n % 64 := ⟨_, rfl⟩
  rw [← hq, ← hr]
  have q64 : q < 64 := by omega
  have r64 : r < 64 := by omega
  have c1 := hM.cell q64
  have c2 := hM.frozen q
  have e1 : IntKind.i64.wrap ((n : Int) / 64) = (q : Int) := by rw [IntKind.wrap_i64]; omega
  have e2 : (n : Int).tmod 64 = (r : Int) := by rw [Int.tmod_eq_emod_of_nonneg (by omega)]; omega
  have i0 : (0 : Int) ≤ (n : Int) := by omega
  have i2 : (0 : Int) ≤ (q : Int) := by omega
  have i3 : (q : Int) < 64 := by omega
  have i4 : (0 : Int) ≤ (r : Int) := by omega
  have i5 : (r : Int) < 64 := by omega
  have HM := Lib.hid hM; have HQ := Lib.hid hq; have HR := Lib.hid hr; clear hM hq hr hn
  have HX := Lib.hid (HM.out.lt q)
  generalize rowM M q = x at *
  go_enter Tryd.func46, Tryd.ntmps46
  go_wp2_with fail
  go_still_tail 12, (by kernel_rfl)
  go_wp2_with fail
  go_end0
  rw [u64_pow r64, u64_or HX.out (shl_lt r64)]
  exact ⟨rfl, 1, rfl⟩
end Go.Proofs.YtdiopiekmdfklaaDoor
namespace Go.Proofs.YtdiopiekmdfklaaDoor
open Go.RowKit

theorem words_zero : wordsV zeroM = #[.int .u64 0, .int .u64 0, .int .u64 0, .int .u64 0, .int .u64 0, .int .u64 0, .int .u64 0, .int .u64 0, .int .u64 0, .int .u64 0, .int .u64 0, .int .u64 0, .int .u64 0, .int .u64 0, .int .u64 0, .int .u64 0, .int .u64 0, .int .u64 0, .int .u64 0, .int .u64 0, .int .u64 0, .int .u64 0, .int .u64 0, .int .u64 0, .int .u64 0, .int .u64 0, .int .u64 0, .int .u64 0, .int .u64 0, .int .u64 0, .int .u64 0, .int .u64 0, .int .u64 0, .int .u64 0, .int .u64 0, .int .u64 0, .int .u64 0, .int .u64 0, .int .u64 0, .int .u64 0, .int .u64 0, .int .u64 0, .int .u64 0, .int .u64 0, .int .u64 0, .int .u64 0, .int .u64 0, .int .u64 0, .int .u64 0, .int .u64 0, .int .u64 0, .int .u64 0, .int .u64 0, .int .u64 0, .int .u64 0, .int .u64 0, .int .u64 0, .int .u64 0, .int .u64 0, .int .u64 0, .int .u64 0, .int .u64 0, .int .u64 0, .int .u64 0] := rfl
def castL (l : List Nat) : List Int := l.map fun (n : Nat) => (n : Int)
theorem castL_len (l : List Nat) : (castL l).length = l.length := by simp [castL]
theorem castL_get (l : List Nat) {i : Nat} (h : i < l.length) : (castL l)[i]'(by rw [castL_len]; exact h) = ((l[i] : Nat) : Int) := by simp [castL]
theorem underBm : Tryd.prog.underlying 71 = some (.array 64 69) := by kernel_rfl
theorem sizeBm : (Tryd.prog.info? 71).map (·.size) = some 64 := by kernel_rfl
theorem words_one (M : List Nat) : (wordsV M).all (·.oneCell') = true := by
  rw [Array.all_eq_true_iff_forall_mem]
  intro v hv
  simp only [wordsV, List.mem_toArray, List.mem_map] at hv
  obtain ⟨i, _, rfl⟩ := hv
  rfl
theorem mapL_snoc (l : List Nat) {k : Nat} (h : k < l.length) : mapL (l.take (k + 1)) = orAt (mapL (l.take k)) (l[k] / 64) (1 <<< (l[k] % 64)) := by
  unfold mapL
  rw [List.take_succ_eq_append_getElem h, List.foldl_append]; rfl
theorem Ext.setRow {a w : World} (h : Ext a w) {g : Nat} (hg : a.heap.size ≤ g) (cs : Array Value) : Ext a (w.setRow g cs) := below_setRow h hg cs

set_option maxRecDepth 100000 in
set_option maxHeartbeats 1000000 in
theorem mapOf_any (l : List Nat) (v : Value) (w : World) (hl : Ints w v (castL l)) (hb : ∀ x ∈ l, x < 4096) : Calls Tryd.prog 88 #[v] w fun r w' => r = .returned (.agg (wordsV (mapL l))) ∧ Ext w w' := by
  obtain ⟨a, cap, rfl⟩ := hl.shape
  have hlen := SliceAt.len_le hl
  rw [castL_len] at hlen
  have HL := Lib.hid hl; have HB := Lib.hid hb; clear hl hb
  rw [castL_len] at HL ⊢
  go_enter Tryd.func88, Tryd.ntmps88
  go_wp2_with fail
  rw [← words_zero]
  have hz : rowM zeroM = fun _ => 0 := funext row_zeroM
  have ht1 : WordsAt 71 ((w.alloc (.cells (wordsV zeroM) 71)).alloc (.cells (wordsV zeroM) 71)) (w.heap.size + 1) zeroM := by
    have := WordsAt.new 71 (w.alloc (.cells (wordsV zeroM) 71)) zeroM len_zeroM (fun i => by rw [row_zeroM]; omega)
    rw [World.size_alloc] at this; exact this
  have ht0 : WordsAt 71 ((w.alloc (.cells (wordsV zeroM) 71)).alloc (.cells (wordsV zeroM) 71)) w.heap.size zeroM := 
    (WordsAt.new 71 w zeroM len_zeroM (fun i => by rw [row_zeroM]; omega)).alloc _
  have hx1 : Ext w ((w.alloc (.cells (wordsV zeroM) 71)).alloc (.cells (wordsV zeroM) 71)) := ((Ext.refl w).alloc _).alloc _
  have T1 := Lib.hid ht1; have T0 := Lib.hid ht0; have X1 := Lib.hid hx1
  clear ht1 ht0 hx1 hz
  go_loopw [8] (fun i wr => ∃ k : Nat, k ≤ l.length ∧ i = .int .i64 k ∧ Ext w wr ∧ WordsAt 71 wr (w.heap.size + 1) (mapL (l.take k)) ∧ WordsAt 71 wr w.heap.size zeroM) (fun i _ => l.length - (intOf i).toNat)
  case atStart => exact ⟨0, Nat.zero_le _, rfl, X1.out, T1.out, T0.out⟩
  case round =>
    obtain ⟨k, hk, rfl, hX, hM, hR⟩ := hrel
    have HX := Lib.hid hX; have HM := Lib.hid hM; have HR := Lib.hid hR; clear hX hM hR
    by_cases hlt : k < l.length
    · rcases HL.out with ⟨_, e⟩ | ⟨b, o, cap', e, _, hc⟩
      · have := castL_len l; rw [e] at this; simp at this; omega
      rw [castL_len] at e
      cases e
      have g0 : wr.cell? ⟨b, o + k, none⟩ = some (.int .i64 l[k]) := by
        have := HX.out.cell (hc k (by rw [castL_len]; exact hlt)); rw [Nat.mul_one, castL_get l hlt] at this; exact this
      clear hc
      have h4 : l[k] < 4096 := HB.out _ (List.getElem_mem hlt)
      have HS := Lib.hid (mapL_snoc l hlt)
      generalize l[k] = n at *
      go_wp2_with fail
      refine (add_any n _ _ _ h4 HM.out).mono ?_
      rintro r w1 ⟨rfl, q, rfl⟩
      have hM1 := (HM.out.set (i := n / 64) (v := rowM (mapL (l.take k)) (n / 64) ||| 1 <<< (n % 64)) (by omega) (Nat.or_lt_two_pow (HM.out.lt _) (shl_lt (by omega)))).drewN q
      have hR1 := (HR.out.other (p := ⟨w.heap.size + 1, n / 64, none⟩) (by simp) (.int .u64 (rowM (mapL (l.take k)) (n / 64) ||| 1 <<< (n % 64) : Nat))).drewN q
      have hX1 := (HX.out.setCell (p := ⟨w.heap.size + 1, n / 64, none⟩) (by simp) (.int .u64 (rowM (mapL (l.take k)) (n / 64) ||| 1 <<< (n % 64) : Nat))).drewN q
      have M1 := Lib.hid hM1; have R1 := Lib.hid hR1; have Y1 := Lib.hid hX1
      clear hM1 hR1 hX1
      generalize (wr.setCell ⟨w.heap.size + 1, n / 64, none⟩ (.int .u64 (rowM (mapL (l.take k)) (n / 64) ||| 1 <<< (n % 64) : Nat))).drewN q = w2 at *
      go_wp2_with fail
      exact ⟨⟨k + 1, by omega, by go_num, Y1.out, by rw [HS.out]; exact M1.out, R1.out⟩, by simp [intOf]; omega⟩
    · have HT : Hid (l.take k = l) := List.take_of_length_le (by omega)
      rw [HT.out] at HM
      have HG := Lib.hid HM.out.heap; have HG0 := Lib.hid HR.out.heap
      have HSZ : Hid ((Tryd.prog.info? 71).map (·.size) = some (wordsV (mapL l)).size) := by rw [wordsV_size]; exact sizeBm
      have HSE : Hid ((wordsV zeroM).size = (wordsV (mapL l)).size) := by unfold Hid; rw [wordsV_size, wordsV_size]
      go_wp2_with (first
        | (with_reducible refine wpList_load_row rfl 71 (.tmp 3) rfl (w.heap.size + 1) rfl 71 (wordsV (mapL l)) (0, 0) (.array 64 69) HG.out underBm rfl HSZ.out ?_)
        | (with_reducible refine wpList_store_rowTo rfl 71 (.tmp 2) (.tmp 15) rfl rfl w.heap.size (wordsV (mapL l)) rfl rfl 71 (wordsV zeroM) HG0.out HSZ.out HSE.out (words_one _) ?_))
      exact bodyPost_ret (v := .agg (wordsV (mapL l))) (results_cell_row (by rfl) _ _ w.heap.size 71 (wordsV (mapL l)) (0, 0) (.array 64 69) (by rfl) (setRow_heap _ _ _ _ _ _ HG0.out) underBm rfl HSZ.out) rfl ⟨rfl, HX.out.setRow (Nat.le_refl _) _⟩
end Go.Proofs.YtdiopiekmdfklaaDoor
namespace Go.Proofs.YtdiopiekmdfklaaDoor
open Go.RowKit

/-- The library's table. -/
def DeB (w : World) : Prop := TabAt 2 Lib.deBruijn64tab w
theorem DeB.ext {w w' : World} (h : DeB w) (hx : Ext w w') : DeB w' := fun j hj => hx.cell (h j hj)
theorem tz_core (x k idx : Nat) (w : World) (hx0 : ((x : Int) == 0) = false)
    (key : IntKind.u64.wrap (bits BinOp.and IntKind.u64 (x : Int) (IntKind.u64.wrap (-(x : Int))) * 285870213051353865) / 288230376151711744 = (idx : Int))
    (hi : idx < 64) (hk : k < 64) (hcell : w.cell? ⟨2, idx, none⟩ = some (.int .u8 k)) :
    Calls Tryd.prog 76 #[.int .u64 x] w fun e w' => e = .returned (.int .i64 k) ∧ w' = w := by
  go_enter Tryd.func76, Tryd.ntmps76
  go_wp2_with (simp only [key])
  go_ret
  exact ⟨rfl, rfl⟩
theorem tz_any (x : Nat) (hx : x < 18446744073709551616) (h0 : x ≠ 0) (w : World) (hT : DeB w) : Calls Tryd.prog 76 #[.int .u64 x] w fun e w' => e = .returned (.int .i64 (Lib.ctz 64 x)) ∧ w' = w := by
  obtain ⟨hlow, hk⟩ := Lib.lowest_bit 64 x h0 hx
  obtain ⟨hi, htab⟩ := Lib.deBruijn64_at _ hk
  have hcell := hT _ hi
  rw [htab] at hcell
  exact tz_core x _ _ w (by simp; omega) (tz64_key x _ hx h0 hlow) hi hk hcell

/-- slices.Clone, of whatever slice of ints. -/
theorem Clone_any (l : List Int) (v : Value) (w : World) (hl : Ints w v l) (hb : l.length ≤ 1000000000) : Calls Tryd.prog 60 #[v] w fun r w' => ∃ v', r = .returned v' ∧ OwnInts w' w.heap.size v' l ∧ Ext w w' := by
  rcases hl with ⟨⟨a, c, rfl⟩, rfl⟩ | ⟨b, o, cap, rfl, hm, hc⟩
  · cases a with
    | none =>
      refine (Tryd.slices_Clone_int_nil 0 c w).mono ?_
      rintro r w' ⟨rfl, rfl⟩
      exact ⟨_, rfl, OwnInts.nil _ _, Ext.refl _⟩
    | some a =>
      refine (Tryd.slices_Clone_int_zero a c w).mono ?_
      rintro r w' ⟨v', rfl, h1, _, h2⟩
      exact ⟨_, rfl, h1, h2⟩
  · refine (Tryd.slices_Clone_int b o l.length cap l w (Nat.le_refl _) (by omega) fun j hj => ?_).mono ?_
    · have := hc j hj; rw [Nat.mul_one] at this; rw [this]; simp [List.getD, hj]
    · rintro r w' ⟨v', rfl, h1, _, h2⟩
      rw [List.take_length] at h1
      exact ⟨_, rfl, h1, h2⟩

/-- What the list holds when i words are done, and of the next one a part. -/
def listTo (M : List Nat) (i : Nat) : List Nat := (List.range i).flatMap fun i => (inWord (rowM M i)).map fun j => 64 * i + j
theorem listTo_succ (M : List Nat) (i : Nat) : listTo M (i + 1) = listTo M i ++ (inWord (rowM M i)).map fun j => 64 * i + j := by
  unfold listTo; rw [List.range_succ, List.flatMap_append]; simp
theorem inWord_len (x : Nat) : (inWord x).length ≤ 64 := by
  unfold inWord; exact Nat.le_trans (List.length_filter_le _ _) (by simp)
theorem listTo_len (M : List Nat) (i : Nat) : (listTo M i).length ≤ 64 * i := by
  induction i with
  | zero => simp [listTo]
  | succ i ih =>
    have := inWord_len (rowM M i)
    rw [listTo_succ, List.length_append, List.length_map]; omega
theorem castL_snoc (l : List Nat) (n : Nat) : castL (l ++ [n]) = castL l ++ [(n : Int)] := by simp [castL]

theorem u64_clear {n : Nat} (hn : n < 18446744073709551616) (h0 : n ≠ 0) : bits .and .u64 n (IntKind.u64.wrap ((n : Int) - 1)) = ((n &&& (n - 1) : Nat) : Int) := by
  have : (n : Int) - 1 = ((n - 1 : Nat) : Int) := by omega
  rw [this, u64_id _ (by omega) (by omega), u64_and hn (by omega)]
set_option maxRecDepth 100000 in
set_option maxHeartbeats 1000000 in
theorem list_any (M : List Nat) (b : Nat) (w : World) (hM : WordsAt 71 w b M) (hT : DeB w) : Calls Tryd.prog 47 #[.pointer (some ⟨b, 0, none⟩)] w fun r w' => ∃ v, r = .returned v ∧ OwnInts w' w.heap.size v (castL (listM M)) ∧ Ext w w' := by
  have HM := Lib.hid hM; have HT := Lib.hid hT; clear hM hT
  go_enter Tryd.func47, Tryd.ntmps47
  go_wp2_with fail
  go_loopw [3, 7] (fun v i wr => ∃ k : Nat, k ≤ 64 ∧ i = .int .i64 k ∧ Ext w wr ∧ OwnInts wr w.heap.size v (castL (listTo M k))) (fun _ i _ => 64 - (intOf i).toNat)
  case atStart => exact ⟨0, Nat.zero_le _, rfl, Ext.refl _, OwnInts.nil _ _⟩
  case round =>
    obtain ⟨k, hk, rfl, hX, hO⟩ := hrel
    have HX := Lib.hid hX; have HO := Lib.hid hO; clear hX hO
    by_cases hlt : k < 64
    · have g0 := (HM.out.ext HX.out).cell hlt
      have HLT := Lib.hid (HM.out.lt k)
      have HS := Lib.hid (listTo_succ M k)
      have HLN := Lib.hid (listTo_len M k)
      have i0 : (0 : Int) ≤ (k : Int) := by omega
      have i1 : (k : Int) < 64 := by omega
      generalize ex : rowM M k = x at *
      have EX := Lib.hid ex; clear ex
      go_upto_region 4 with fail
      go_quiet (fail)
      go_wp2_with fail
      have X0 := Lib.hid (HX.out.drewN nq)
      have O0 := Lib.hid (HO.out.kept ((Ext.refl wr).drewN nq))
      clear g0
      generalize wr.drewN nq = wo at *
      go_loopw [3, 5] (fun v y wi => ∃ (n : Nat) (pre : List Nat), y = .int .u64 n ∧ n < 18446744073709551616 ∧ inWord x = pre ++ inWord n ∧ Ext w wi ∧ OwnInts wi w.heap.size v (castL (listTo M k ++ pre.map fun j => 64 * k + j))) (fun _ y _ => (intOf y).toNat)
      case atStart => exact ⟨x, [], rfl, HLT.out, rfl, X0.out, by simpa using O0.out⟩
      case round =>
        obtain ⟨n, pre, rfl, hn, hin, hX, hO⟩ := hrel
        have HX1 := Lib.hid hX; have HO1 := Lib.hid hO; have HIN := Lib.hid hin; have HN := Lib.hid hn; clear hX hO hin hn
        cases hz : ((n : Int) != 0) with
        | true =>
          have hn0 : n ≠ 0 := by intro e; subst e; simp at hz
          obtain ⟨hc, hw⟩ := inWord_low hn0 HN.out
          have hA : n &&& (n - 1) < n := Nat.lt_of_le_of_lt Nat.and_le_right (by omega)
          have HA := Lib.hid hA; have HW := Lib.hid hw; have HN0 := Lib.hid hn0
          have hlen : (castL (listTo M k ++ pre.map fun j => 64 * k + j)).length ≤ 1000000 := by
            have h1 := listTo_len M k
            have h2 := congrArg List.length HIN.out
            have h3 := inWord_len x
            rw [List.length_append] at h2
            rw [castL_len, List.length_append, List.length_map]; omega
          have HLEN := Lib.hid hlen
          clear hA hw hlen
          go_wp2_with fail
          refine (tz_any n HN.out HN0.out _ (HT.out.ext HX1.out)).mono ?_
          rintro r w1 ⟨rfl, rfl⟩
          have HX2 := HX1; have HO2 := HO1
          generalize hcz : Lib.ctz 64 n = c at *
          have HCZ := Lib.hid hcz
          clear hcz hn0
          go_wp2_with (at_builtin; refine wpList_append_int rfl (.tmp 19) (.tmp 25) rfl w.heap.size _ _ _ (64 * (k : Int) + c) rfl rfl HO2.out (by have := HLEN.out; omega) (HX2.out.size) ?_)
          intro v' w' hown' hg
          have hx' : Ext w w' := HX2.out.grown hg (fun q hq => HO2.out.base q hq)
          have HO' := Lib.hid hown'; have HX' := Lib.hid hx'
          clear hown' hx' hg
          go_wp2_with fail
          rw [u64_clear HN.out HN0.out]
          refine ⟨⟨n &&& (n - 1), pre ++ [c], rfl, Nat.lt_of_le_of_lt Nat.and_le_left HN.out, by rw [HIN.out, HW.out]; simp, HX'.out, ?_⟩, by simpa [intOf] using HA.out⟩
          have := HO'.out
          rw [List.map_append, ← List.append_assoc]
          simp only [List.map_cons, List.map_nil]
          rw [castL_snoc]
          exact_mod_cast this
        | false =>
          obtain rfl : n = 0 := by simpa using hz
          have HE : Hid (castL (listTo M k ++ pre.map fun j => 64 * k + j) = castL (listTo M (k + 1))) := by
            unfold Hid
            rw [HS.out, HIN.out, inWord_zero, List.append_nil]
          rw [HE.out] at HO1
          clear HIN HS HE hz
          go_wp2_with fail
          exact ⟨⟨k + 1, by omega, by go_num, HX1.out, HO1.out⟩, by simp [intOf]; omega⟩
    · have HE : Hid (listTo M k = listM M) := by
        obtain rfl : k = 64 := by omega
        rfl
      rw [HE.out] at HO
      go_wp2_with fail
      go_ret
      exact ⟨_, rfl, HO.out, HX.out⟩
end Go.Proofs.YtdiopiekmdfklaaDoor
