/-
  ref10.Index, Within.
  Arrays of 64 words in memory; the walk of bitmap.add.
  The walks of states.mapOf and bitmap.list.
-/
import Derived.Test.YtlnahhlddekhoaaGreatDoorG07
import Derived.Test.YtlnahhlddekhoaaGreatDoorG06
import Derived.StillTailTactics
import Derived.Laws.Rows
import Derived.Laws.Tables
import Derived.Deep.DeepFit
import Derived.Great.BuildSlice
import Derived.Laws.CopyOwn
namespace Go.Proofs.YtlnahhlddekhoaaGreatDoor
open Go.RowKit

/-- The index of a number, or -1. -/
def idxI : List Int → Int → Nat → Int
  | [], _, _ => -1
  | a :: r, x, k => if a = x then k else idxI r x (k + 1)
theorem idx_neg (l : List Int) (x : Int) : ∀ k, idxI l x k < 0 ↔ x ∉ l := by
  induction l with
  | nil => intro k; simp [idxI]
  | cons a r ih =>
    intro k
    unfold idxI
    split
    · next h => subst h; simp
    · next h =>
      rw [ih]
      have h' : ¬ x = a := fun e => h e.symm
      simp [h']
theorem idx_at (l : List Int) (x : Int) : ∀ (k j : Nat), j ≤ l.length → x ∉ l.take j → idxI l x k = idxI (l.drop j) x (k + j) := by
  induction l with
  | nil => intro k j hj _; simp at hj; subst hj; rfl
  | cons a r ih =>
    intro k j hj hx
    cases j with
    | zero => rfl
    | succ j =>
      simp only [List.take_succ_cons, List.mem_cons, not_or] at hx
      have h' : ¬ a = x := fun e => hx.1 e.symm
      rw [idxI, if_neg h', ih (k + 1) j (by simpa using hj) hx.2, List.drop_succ_cons, show k + 1 + j = k + (j + 1) by omega]
set_option maxHeartbeats 1000000 in
theorem RIndex_any (l : List Int) (n : Int) (v : Value) (w : World) (hl : Ints w v l) : Calls Tryz.prog 86 #[v, .int .i64 n] w fun r w' => r = .returned (.int .i64 (idxI l n 0)) ∧ w' = w := by
  obtain ⟨a, cap, rfl⟩ := hl.shape
  have hlen := SliceAt.len_le hl
  have HL := Lib.hid hl; clear hl
  go_enter Tryz.func86, Tryz.ntmps86
  go_wp2_with fail
  go_loop [5] (fun i => ∃ k : Nat, k ≤ l.length ∧ i = .int .i64 k ∧ n ∉ l.take k) (fun i => l.length - (intOf i).toNat)
  case atStart => exact ⟨0, Nat.zero_le _, rfl, by simp⟩
  case round =>
    obtain ⟨k, hk, rfl, hr⟩ := hrel
    have HR := Lib.hid hr; clear hr
    by_cases hlt : k < l.length
    · rcases HL.out with ⟨_, e⟩ | ⟨b, o, cap', e, _, hc⟩
      · rw [e] at hlt; simp at hlt
      cases e
      have g : w.cell? ⟨b, o + k, none⟩ = some (.int .i64 l[k]) := by have := hc k hlt; rw [Nat.mul_one] at this; exact this
      clear hc
      cases hq : (l[k] == n) with
      | true =>
        have HF : Hid (idxI l n 0 = k) := by
          have : l[k] = n := by simpa using hq
          unfold Hid
          rw [idx_at l n 0 k hk HR.out, List.drop_eq_getElem_cons hlt, idxI, if_pos this]; simp
        go_wp2_with fail
        go_ret
        exact ⟨by rw [HF.out]; rfl, rfl⟩
      | false =>
        have HF : Hid (n ∉ l.take (k + 1)) := by
          have : ¬ l[k] = n := by simpa using hq
          unfold Hid
          rw [List.take_succ_eq_append_getElem hlt]
          intro h
          rcases List.mem_append.1 h with h | h
          · exact HR.out h
          · simp at h; exact this h.symm
        go_wp2_with fail
        exact ⟨⟨k + 1, by omega, by go_num, HF.out⟩, by simp [intOf]; omega⟩
    · have HF : Hid (idxI l n 0 = -1) := by
        unfold Hid
        rw [idx_at l n 0 k hk HR.out, List.drop_eq_nil_of_le (by omega)]; rfl
      go_wp2_with fail
      go_ret
      exact ⟨by rw [HF.out]; rfl, rfl⟩

def withinB (a b : List Int) : Bool := a.all fun x => decide (x ∈ b)
set_option maxHeartbeats 1000000 in
theorem RWithin_any (l m : List Int) (vl vm : Value) (w : World) (hl : Ints w vl l) (hm : Ints w vm m) : Calls Tryz.prog 43 #[vl, vm] w fun r w' => r = .returned (.bool (withinB l m)) ∧ w' = w := by
  obtain ⟨a, cap, rfl⟩ := hl.shape
  obtain ⟨ma, mcap, rfl⟩ := hm.shape
  have hlen := SliceAt.len_le hl
  have HL := Lib.hid hl; have HM := Lib.hid hm; clear hl hm
  go_enter Tryz.func43, Tryz.ntmps43
  go_wp2_with fail
  go_loop [5] (fun i => ∃ k : Nat, k ≤ l.length ∧ i = .int .i64 k ∧ ∀ (j : Nat) (h : j < l.length), j < k → l[j] ∈ m) (fun i => l.length - (intOf i).toNat)
  case atStart => exact ⟨0, Nat.zero_le _, rfl, fun j _ h => absurd h (by omega)⟩
  case round =>
    obtain ⟨k, hk, rfl, hr⟩ := hrel
    have HR := Lib.hid hr; clear hr
    by_cases hlt : k < l.length
    · rcases HL.out with ⟨_, e⟩ | ⟨b, o, cap', e, _, hc⟩
      · rw [e] at hlt; simp at hlt
      cases e
      have g : w.cell? ⟨b, o + k, none⟩ = some (.int .i64 l[k]) := by have := hc k hlt; rw [Nat.mul_one] at this; exact this
      clear hc
      have HN := Lib.hid (idx_neg m l[k] 0)
      go_wp2_with fail
      refine (RIndex_any m l[k] _ _ HM.out).mono ?_
      rintro r w1 ⟨rfl, rfl⟩
      generalize idxI m l[k] 0 = q at *
      by_cases hq : q < 0
      · have HF : Hid (withinB l m = false) := by
          unfold Hid withinB
          rw [Bool.eq_false_iff]
          intro h
          rw [List.all_eq_true] at h
          exact HN.out.1 hq (of_decide_eq_true (h _ (List.getElem_mem hlt)))
        go_wp2_with fail
        go_ret
        exact ⟨by rw [HF.out]; rfl, rfl⟩
      · have HF : Hid (l[k] ∈ m) := Classical.byContradiction fun h => hq (HN.out.2 h)
        go_wp2_with fail
        refine ⟨⟨k + 1, by omega, by go_num, fun j h hj => ?_⟩, by simp [intOf]; omega⟩
        by_cases c : j = k
        · subst c; exact HF.out
        · exact HR.out j h (by omega)
    · have HF : Hid (withinB l m = true) := List.all_eq_true.2 fun x hx => by
        obtain ⟨j, hj, rfl⟩ := List.getElem_of_mem hx
        exact decide_eq_true (HR.out j hj (by omega))
      go_wp2_with fail
      go_ret
      exact ⟨by rw [HF.out]; rfl, rfl⟩
end Go.Proofs.YtlnahhlddekhoaaGreatDoor
namespace Go.Proofs.YtlnahhlddekhoaaGreatDoor
open Go.RowKit

/-- 64 words, as values; in a block. -/
def wordsV (M : List Nat) : Array Value := ((List.range 64).map fun i => Value.int .u64 (rowM M i)).toArray
theorem wordsV_size (M : List Nat) : (wordsV M).size = 64 := by simp [wordsV]
theorem wordsV_get (M : List Nat) {i : Nat} (h : i < 64) : (wordsV M)[i]? = some (.int .u64 (rowM M i)) := by simp [wordsV, h]
structure WordsAt (t : TypeId) (w : World) (b : Nat) (M : List Nat) : Prop where
  heap : w.heap[b]? = some (.cells (wordsV M) t (0, 0))
  len : M.length = 64
  lt : ∀ i, rowM M i < 18446744073709551616
theorem WordsAt.cell {t : TypeId} {w : World} {b : Nat} {M : List Nat} (h : WordsAt t w b M) {i : Nat} (hi : i < 64) : w.cell? ⟨b, i, none⟩ = some (.int .u64 (rowM M i)) := by
  rw [cell_of_row w b i _ t _ h.heap, wordsV_get M hi]
theorem WordsAt.frozen {t : TypeId} {w : World} {b : Nat} {M : List Nat} (h : WordsAt t w b M) (i : Nat) : w.frozen? ⟨b, i, none⟩ = false := frozen_of_row w b i _ t h.heap
theorem WordsAt.lt_size {t : TypeId} {w : World} {b : Nat} {M : List Nat} (h : WordsAt t w b M) : b < w.heap.size := (Array.getElem?_eq_some_iff.1 h.heap).1
theorem WordsAt.ext {t : TypeId} {w w' : World} {b : Nat} {M : List Nat} (h : WordsAt t w b M) (hx : Ext w w') : WordsAt t w' b M := ⟨by rw [hx.block b h.lt_size]; exact h.heap, h.len, h.lt⟩
theorem WordsAt.drewN {t : TypeId} {w : World} {b : Nat} {M : List Nat} (h : WordsAt t w b M) (n : Nat) : WordsAt t (w.drewN n) b M := ⟨h.heap, h.len, h.lt⟩
theorem row_set {M : List Nat} {i v : Nat} (hi : i < M.length) (j : Nat) : rowM (M.set i v) j = if j = i then v else rowM M j := by
  unfold rowM
  by_cases h : j = i
  · subst h; simp [List.getD, hi]
  · have h' : ¬ i = j := fun e => h e.symm
    simp [List.getD, h, h']
theorem wordsV_set {M : List Nat} {i v : Nat} (hM : M.length = 64) (hi : i < 64) : (wordsV M).setIfInBounds i (.int .u64 v) = wordsV (M.set i v) := by
  apply Array.ext_getElem?
  intro j
  by_cases hj : j < 64
  · rw [wordsV_get _ hj, row_set (by omega), Array.getElem?_setIfInBounds]
    by_cases e : j = i
    · subst e; simp [wordsV_size, hj]
    · have e' : ¬ i = j := fun h => e h.symm
      simp [e, e', wordsV_get M hj]
  · rw [Array.getElem?_eq_none (by simp [wordsV_size]; omega), Array.getElem?_eq_none (by simp [wordsV_size]; omega)]
theorem WordsAt.set {t : TypeId} {w : World} {b : Nat} {M : List Nat} (h : WordsAt t w b M) {i v : Nat} (hi : i < 64) (hv : v < 18446744073709551616) : WordsAt t (w.setCell ⟨b, i, none⟩ (.int .u64 v)) b (M.set i v) := by
  refine ⟨?_, by rw [List.length_set, h.len], fun j => ?_⟩
  · rw [heap_setCell_same w b i _ t _ h.heap, wordsV_set h.len hi]
  · rw [row_set (by rw [h.len]; exact hi)]
    split
    · exact hv
    · exact h.lt j
theorem WordsAt.other {t : TypeId} {w : World} {b : Nat} {M : List Nat} (h : WordsAt t w b M) {p : Addr} (hp : b ≠ p.block) (v : Value) : WordsAt t (w.setCell p v) b M :=
  ⟨by rw [heap_setCell_other w p b v hp]; exact h.heap, h.len, h.lt⟩
theorem WordsAt.alloc {t : TypeId} {w : World} {b : Nat} {M : List Nat} (h : WordsAt t w b M) (o : Obj) : WordsAt t (w.alloc o) b M := h.ext ((Ext.refl w).alloc o)
theorem WordsAt.new (t : TypeId) (w : World) (M : List Nat) (hM : M.length = 64) (hl : ∀ i, rowM M i < 18446744073709551616) : WordsAt t (w.alloc (.cells (wordsV M) t)) w.heap.size M := ⟨heap_new _ _, hM, hl⟩
/-- Go's operators on words. -/
theorem u64_id (n : Int) (h₀ : 0 ≤ n) (h₁ : n < 2 ^ 64) : IntKind.u64.wrap n = n := by
  show (n % 2 ^ 64 : Int) = n
  exact Int.emod_eq_of_lt h₀ h₁
theorem u64_pow {r : Nat} (h : r < 64) : IntKind.u64.wrap (2 ^ r) = ((1 <<< r : Nat) : Int) := by
  have h2 := shl_lt h
  have h3 : (2 : Int) ^ r = ((1 <<< r : Nat) : Int) := by rw [Nat.one_shiftLeft]; push_cast; rfl
  rw [h3, u64_id _ (Int.natCast_nonneg _) (by exact_mod_cast h2)]
theorem u64_or {x y : Nat} (hx : x < 18446744073709551616) (hy : y < 18446744073709551616) : bits .or .u64 x y = ((x ||| y : Nat) : Int) := (bits_nat .u64 64 (by decide) u64_id x y hx hy).2
theorem u64_and {x y : Nat} (hx : x < 18446744073709551616) (hy : y < 18446744073709551616) : bits .and .u64 x y = ((x &&& y : Nat) : Int) := (bits_nat .u64 64 (by decide) u64_id x y hx hy).1
theorem row_or (M : List Nat) (i w : Nat) : orAt M i w = M.set i (rowM M i ||| w) := rfl

set_option maxHeartbeats 1000000 in
set_option maxRecDepth 100000 in
theorem add_any (n : Nat) (b : Nat) (M : List Nat) (w : World) (hn : n < 4096) (hM : WordsAt 112 w b M) :
    Calls Tryz.prog 99 #[.pointer (some ⟨b, 0, none⟩), .int .i64 n] w fun r w' => r = .returned (.tuple #[]) ∧ ∃ k, w' = (w.setCell ⟨b, n / 64, none⟩ (.int .u64 (rowM M (n / 64) ||| 1 <<< (n % 64) : Nat))).drewN k := by
  obtain ⟨q, hq⟩ : ∃ q, q = n / 64 := ⟨_, rfl⟩
  obtain ⟨r, hr⟩ : ∃ r, r = n % 64 := ⟨_, rfl⟩
  rw [← hq, ← hr]
  have q64 : q < 64 := by omega
  have r64 : r < 64 := by omega
  have c1 := hM.cell q64
  have c2 := hM.frozen q
  have e1 : IntKind.i64.wrap ((n : Int) / 64) = (q : Int) := by rw [IntKind.wrap_i64]; omega
  have e2 : (n : Int).tmod 64 = (r : Int) := by rw [Int.tmod_eq_emod_of_nonneg (by omega)]; omega
  have i0 : (0 : Int) ≤ (n : Int) := by omega
  have i2 : (0 : Int) ≤ (q : Int) := by omega
  have i3 : (q : Int) < 64 := by omega
  have i4 : (0 : Int) ≤ (r : Int) := by omega
  have i5 : (r : Int) < 64 := by omega
  have HM := Lib.hid hM; have HQ := Lib.hid hq; have HR := Lib.hid hr; clear hM hq hr hn
  have HX := Lib.hid (HM.out.lt q)
  generalize rowM M q = x at *
  go_enter Tryz.func99, Tryz.ntmps99
  go_wp2_with fail
  go_still_tail 12, (by kernel_rfl)
  go_wp2_with fail
  go_end0
  rw [u64_pow r64, u64_or HX.out (shl_lt r64)]
  exact ⟨rfl, 1, rfl⟩
end Go.Proofs.YtlnahhlddekhoaaGreatDoor
namespace Go.Proofs.YtlnahhlddekhoaaGreatDoor
open Go.RowKit

theorem words_zero : wordsV zeroM = #[.int .u64 0, .int .u64 0, .int .u64 0, .int .u64 0, .int .u64 0, .int .u64 0, .int .u64 0, .int .u64 0, .int .u64 0, .int .u64 0, .int .u64 0, .int .u64 0, .int .u64 0, .int .u64 0, .int .u64 0, .int .u64 0, .int .u64 0, .int .u64 0, .int .u64 0, .int .u64 0, .int .u64 0, .int .u64 0, .int .u64 0, .int .u64 0, .int .u64 0, .int .u64 0, .int .u64 0, .int .u64 0, .int .u64 0, .int .u64 0, .int .u64 0, .int .u64 0, .int .u64 0, .int .u64 0, .int .u64 0, .int .u64 0, .int .u64 0, .int .u64 0, .int .u64 0, .int .u64 0, .int .u64 0, .int .u64 0, .int .u64 0, .int .u64 0, .int .u64 0, .int .u64 0, .int .u64 0, .int .u64 0, .int .u64 0, .int .u64 0, .int .u64 0, .int .u64 0, .int .u64 0, .int .u64 0, .int .u64 0, .int .u64 0, .int .u64 0, .int .u64 0, .int .u64 0, .int .u64 0, .int .u64 0, .int .u64 0, .int .u64 0, .int .u64 0] := rfl
def castL (l : List Nat) : List Int := l.map fun (n : Nat) => (n : Int)
theorem castL_len (l : List Nat) : (castL l).length = l.length := by simp [castL]
theorem castL_get (l : List Nat) {i : Nat} (h : i < l.length) : (castL l)[i]'(by rw [castL_len]; exact h) = ((l[i] : Nat) : Int) := by simp [castL]
theorem underBm : Tryz.prog.underlying 112 = some (.array 64 65) := by kernel_rfl
theorem sizeBm : (Tryz.prog.info? 112).map (·.size) = some 64 := by kernel_rfl
theorem words_one (M : List Nat) : (wordsV M).all (·.oneCell') = true := by
  rw [Array.all_eq_true_iff_forall_mem]
  intro v hv
  simp only [wordsV, List.mem_toArray, List.mem_map] at hv
  obtain ⟨i, _, rfl⟩ := hv
  rfl
theorem mapL_snoc (l : List Nat) {k : Nat} (h : k < l.length) : mapL (l.take (k + 1)) = orAt (mapL (l.take k)) (l[k] / 64) (1 <<< (l[k] % 64)) := by
  unfold mapL
  rw [List.take_succ_eq_append_getElem h, List.foldl_append]; rfl
theorem Ext.setRow {a w : World} (h : Ext a w) {g : Nat} (hg : a.heap.size ≤ g) (cs : Array Value) : Ext a (w.setRow g cs) := below_setRow h hg cs

set_option maxRecDepth 100000 in
set_option maxHeartbeats 1000000 in
theorem mapOf_any (l : List Nat) (v : Value) (w : World) (hl : Ints w v (castL l)) (hb : ∀ x ∈ l, x < 4096) : Calls Tryz.prog 116 #[v] w fun r w' => r = .returned (.agg (wordsV (mapL l))) ∧ Ext w w' := by
  obtain ⟨a, cap, rfl⟩ := hl.shape
  have hlen := SliceAt.len_le hl
  rw [castL_len] at hlen
  have HL := Lib.hid hl; have HB := Lib.hid hb; clear hl hb
  rw [castL_len] at HL ⊢
  go_enter Tryz.func116, Tryz.ntmps116
  go_wp2_with fail
  rw [← words_zero]
  have hz : rowM zeroM = fun _ => 0 := funext row_zeroM
  have ht1 : WordsAt 112 ((w.alloc (.cells (wordsV zeroM) 112)).alloc (.cells (wordsV zeroM) 112)) (w.heap.size + 1) zeroM := by
    have := WordsAt.new 112 (w.alloc (.cells (wordsV zeroM) 112)) zeroM len_zeroM (fun i => by rw [row_zeroM]; omega)
    rw [World.size_alloc] at this; exact this
  have ht0 : WordsAt 112 ((w.alloc (.cells (wordsV zeroM) 112)).alloc (.cells (wordsV zeroM) 112)) w.heap.size zeroM := 
    (WordsAt.new 112 w zeroM len_zeroM (fun i => by rw [row_zeroM]; omega)).alloc _
  have hx1 : Ext w ((w.alloc (.cells (wordsV zeroM) 112)).alloc (.cells (wordsV zeroM) 112)) := ((Ext.refl w).alloc _).alloc _
  have T1 := Lib.hid ht1; have T0 := Lib.hid ht0; have X1 := Lib.hid hx1
  clear ht1 ht0 hx1 hz
  go_loopw [8] (fun i wr => ∃ k : Nat, k ≤ l.length ∧ i = .int .i64 k ∧ Ext w wr ∧ WordsAt 112 wr (w.heap.size + 1) (mapL (l.take k)) ∧ WordsAt 112 wr w.heap.size zeroM) (fun i _ => l.length - (intOf i).toNat)
  case atStart => exact ⟨0, Nat.zero_le _, rfl, X1.out, T1.out, T0.out⟩
  case round =>
    obtain ⟨k, hk, rfl, hX, hM, hR⟩ := hrel
    have HX := Lib.hid hX; have HM := Lib.hid hM; have HR := Lib.hid hR; clear hX hM hR
    by_cases hlt : k < l.length
    · rcases HL.out with ⟨_, e⟩ | ⟨b, o, cap', e, _, hc⟩
      · have := castL_len l; rw [e] at this; simp at this; omega
      rw [castL_len] at e
      cases e
      have g0 : wr.cell? ⟨b, o + k, none⟩ = some (.int .i64 l[k]) := by
        have := HX.out.cell (hc k (by rw [castL_len]; exact hlt)); rw [Nat.mul_one, castL_get l hlt] at this; exact this
      clear hc
      have h4 : l[k] < 4096 := HB.out _ (List.getElem_mem hlt)
      have HS := Lib.hid (mapL_snoc l hlt)
      generalize l[k] = n at *
      go_wp2_with fail
      refine (add_any n _ _ _ h4 HM.out).mono ?_
      rintro r w1 ⟨rfl, q, rfl⟩
      have hM1 := (HM.out.set (i := n / 64) (v := rowM (mapL (l.take k)) (n / 64) ||| 1 <<< (n % 64)) (by omega) (Nat.or_lt_two_pow (HM.out.lt _) (shl_lt (by omega)))).drewN q
      have hR1 := (HR.out.other (p := ⟨w.heap.size + 1, n / 64, none⟩) (by simp) (.int .u64 (rowM (mapL (l.take k)) (n / 64) ||| 1 <<< (n % 64) : Nat))).drewN q
      have hX1 := (HX.out.setCell (p := ⟨w.heap.size + 1, n / 64, none⟩) (by simp) (.int .u64 (rowM (mapL (l.take k)) (n / 64) ||| 1 <<< (n % 64) : Nat))).drewN q
      have M1 := Lib.hid hM1; have R1 := Lib.hid hR1; have Y1 := Lib.hid hX1
      clear hM1 hR1 hX1
      generalize (wr.setCell ⟨w.heap.size + 1, n / 64, none⟩ (.int .u64 (rowM (mapL (l.take k)) (n / 64) ||| 1 <<< (n % 64) : Nat))).drewN q = w2 at *
      go_wp2_with fail
      exact ⟨⟨k + 1, by omega, by go_num, Y1.out, by rw [HS.out]; exact M1.out, R1.out⟩, by simp [intOf]; omega⟩
    · have HT : Hid (l.take k = l) := List.take_of_length_le (by omega)
      rw [HT.out] at HM
      have HG := Lib.hid HM.out.heap; have HG0 := Lib.hid HR.out.heap
      have HSZ : Hid ((Tryz.prog.info? 112).map (·.size) = some (wordsV (mapL l)).size) := by rw [wordsV_size]; exact sizeBm
      have HSE : Hid ((wordsV zeroM).size = (wordsV (mapL l)).size) := by unfold Hid; rw [wordsV_size, wordsV_size]
      go_wp2_with (first
        | (with_reducible refine wpList_load_row rfl 112 (.tmp 3) rfl (w.heap.size + 1) rfl 112 (wordsV (mapL l)) (0, 0) (.array 64 65) HG.out underBm rfl HSZ.out ?_)
        | (with_reducible refine wpList_store_rowTo rfl 112 (.tmp 2) (.tmp 15) rfl rfl w.heap.size (wordsV (mapL l)) rfl rfl 112 (wordsV zeroM) HG0.out HSZ.out HSE.out (words_one _) ?_))
      exact bodyPost_ret (v := .agg (wordsV (mapL l))) (results_cell_row (by rfl) _ _ w.heap.size 112 (wordsV (mapL l)) (0, 0) (.array 64 65) (by rfl) (setRow_heap _ _ _ _ _ _ HG0.out) underBm rfl HSZ.out) rfl ⟨rfl, HX.out.setRow (Nat.le_refl _) _⟩
end Go.Proofs.YtlnahhlddekhoaaGreatDoor
