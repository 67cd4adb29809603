/-
  The walk of strconv.FormatUint at base 16.
-/
import Derived.Test.YtoopoljchhdobaaDoorYh1
import Derived.Test.YtoopoljchhdobaaDoorOwn
import Derived.Test.YtoopoljchhdobaaDoorShelf
import Derived.StillTailTactics
import Derived.Laws.Rows
import Derived.Laws.Tables
import Derived.Deep.DeepFit
import Derived.Laws.Slices
import Derived.Laws.IdiomStrings
import Derived.Shelf.Spec.TrailingZeros
namespace Go.Proofs.YtoopoljchhdobaaDoor
open Go.RowKit

/-- 65 bytes in a block. -/
def bytesV (D : List UInt8) : Array Value := (D.map fun (b : UInt8) => Value.int .u8 (b.toNat : Int)).toArray
structure BytesAt (t : TypeId) (w : World) (b : Nat) (D : List UInt8) : Prop where
  heap : w.heap[b]? = some (.cells (bytesV D) t (0, 0))
  len : D.length = 65
theorem BytesAt.cell {t : TypeId} {w : World} {b : Nat} {D : List UInt8} (h : BytesAt t w b D) {i : Nat} (hi : i < D.length) : w.cell? ⟨b, i, none⟩ = some (.int .u8 (D[i].toNat : Int)) := by
  rw [cell_of_row w b i _ t _ h.heap]; simp [bytesV, hi]
theorem BytesAt.frozen {t : TypeId} {w : World} {b : Nat} {D : List UInt8} (h : BytesAt t w b D) (i : Nat) : w.frozen? ⟨b, i, none⟩ = false := frozen_of_row w b i _ t h.heap
theorem BytesAt.set {t : TypeId} {w : World} {b : Nat} {D : List UInt8} (h : BytesAt t w b D) {i : Nat} {v : UInt8} (hi : i < 65) : BytesAt t (w.setCell ⟨b, i, none⟩ (.int .u8 (v.toNat : Int))) b (D.set i v) := by
  refine ⟨?_, by rw [List.length_set, h.len]⟩
  rw [heap_setCell_same w b i _ t _ h.heap]
  congr 2
  apply Array.ext_getElem?
  intro j
  unfold bytesV
  rw [Array.getElem?_setIfInBounds]
  simp only [List.getElem?_toArray, List.getElem?_map, List.getElem?_set, List.size_toArray, List.length_map]
  by_cases e : i = j
  · subst e; simp [h.len, hi]
  · simp [e]
theorem bytes_zero : Tryd.zeroCells128 = bytesV (List.replicate 65 0) := by kernel_rfl
theorem bytes_put (m : Nat) (S : List UInt8) (d : UInt8) : (List.replicate (m + 1) 0 ++ S).set m d = List.replicate m 0 ++ d :: S := by
  rw [List.replicate_succ', List.append_assoc, List.set_append_right _ _ (by simp)]; simp

theorem pow2_any (w : World) : Calls Tryd.prog 94 #[.int .i64 16] w fun e w' => e = .returned (.bool true) ∧ w' = w := by
  go_enter Tryd.func94, Tryd.ntmps94
  go_wp2
  go_ret
  exact ⟨rfl, rfl⟩
def DeB (w : World) : Prop := TabAt 8 Lib.deBruijn64tab w
theorem DeB.ext {w w' : World} (h : DeB w) (hx : Ext w w') : DeB w' := fun j hj => hx.cell (h j hj)
theorem tz_core (x k idx : Nat) (w : World) (hx0 : ((x : Int) == 0) = false)
    (key : IntKind.u64.wrap (bits BinOp.and IntKind.u64 (x : Int) (IntKind.u64.wrap (-(x : Int))) * 285870213051353865) / 288230376151711744 = (idx : Int))
    (hi : idx < 64) (hk : k < 64) (hcell : w.cell? ⟨8, idx, none⟩ = some (.int .u8 k)) :
    Calls Tryd.prog 102 #[.int .u64 x] w fun e w' => e = .returned (.int .i64 k) ∧ w' = w := by
  go_enter Tryd.func102, Tryd.ntmps102
  go_wp2_with (simp only [key])
  go_ret
  exact ⟨rfl, rfl⟩
theorem tz_any (x : Nat) (hx : x < 18446744073709551616) (h0 : x ≠ 0) (w : World) (hT : DeB w) : Calls Tryd.prog 102 #[.int .u64 x] w fun e w' => e = .returned (.int .i64 (Lib.ctz 64 x)) ∧ w' = w := by
  obtain ⟨hlow, hk⟩ := Lib.lowest_bit 64 x h0 hx
  obtain ⟨hi, htab⟩ := Lib.deBruijn64_at _ hk
  have hcell := hT _ hi
  rw [htab] at hcell
  exact tz_core x _ _ w (by simp; omega) (tz64_key x _ hx h0 hlow) hi hk hcell
theorem ctz_16 : Lib.ctz 64 16 = 4 := by decide
theorem tz16_any (w : World) (hT : DeB w) : Calls Tryd.prog 95 #[.int .u64 16] w fun e w' => e = .returned (.int .i64 4) ∧ w' = w := by
  have h := tz_any 16 (by decide) (by decide) w hT
  rw [ctz_16] at h
  go_enter Tryd.func95, Tryd.ntmps95
  go_wp2_with (refine h.mono ?_; rintro e w' ⟨rfl, rfl⟩)
  go_ret
  exact ⟨rfl, rfl⟩
theorem nat_and15 (x : Nat) : x &&& 15 = x % 16 := Nat.and_two_pow_sub_one_eq_mod x 4
theorem and15 {u : Nat} (h : u < 18446744073709551616) : bits .and .u64 (u : Int) 15 = ((u % 16 : Nat) : Int) := by
  have := (bits_nat .u64 64 (by decide) (fun n h0 h1 => by rw [IntKind.wrap_u64]; omega) u 15 h (by decide)).1
  rw [nat_and15] at this
  exact this
def hexS : ByteArray := ⟨#[48, 49, 50, 51, 52, 53, 54, 55, 56, 57, 97, 98, 99, 100, 101, 102, 103, 104, 105, 106, 107, 108, 109, 110, 111, 112, 113, 114, 115, 116, 117, 118, 119, 120, 121, 122]⟩
theorem hexS_at {d : Nat} (h : d < 16) (h' : d < hexS.size) : hexS[d]'h' = hexD d := by
  have : d = 0 ∨ d = 1 ∨ d = 2 ∨ d = 3 ∨ d = 4 ∨ d = 5 ∨ d = 6 ∨ d = 7 ∨ d = 8 ∨ d = 9 ∨ d = 10 ∨ d = 11 ∨ d = 12 ∨ d = 13 ∨ d = 14 ∨ d = 15 := by omega
  rcases this with rfl | rfl | rfl | rfl | rfl | rfl | rfl | rfl | rfl | rfl | rfl | rfl | rfl | rfl | rfl | rfl <;> rfl

/-- Where the digits stand when k of them are written. -/
structure FmtAt (w0 : World) (n : Nat) (u k : Nat) (S : List UInt8) (wr : World) : Prop where
  k15 : k ≤ 15
  lt : u < 16 ^ (16 - k)
  num : hexMin n = hexMin u ++ S
  len : S.length = k
  ext : Ext w0 wr
  at' : BytesAt 128 wr w0.heap.size (List.replicate (65 - k) 0 ++ S)

set_option maxRecDepth 100000 in
set_option maxHeartbeats 2000000 in
theorem formatBits_any (n : Nat) (w : World) (hn : n < 18446744073709551616) (hT : DeB w) :
    Calls Tryd.prog 77 #[.slice none 0 0, .int .u64 n, .int .i64 16, .bool false, .bool false] w fun e w' => e = .returned (.tuple #[.slice none 0 0, .string ⟨(hexMin n).toArray⟩]) ∧ Ext w w' := by
  have HN := Lib.hid hn; have HT := Lib.hid hT; clear hn hT
  go_enter Tryd.func77, Tryd.ntmps77
  go_wp2_with (first
    | (refine (pow2_any _).mono ?_; rintro e w' ⟨rfl, rfl⟩)
    | (refine (tz16_any _ (HT.out.ext ((Ext.refl w).alloc _))).mono ?_; rintro e w' ⟨rfl, rfl⟩))
  rw [bytes_zero]
  have X0 := Lib.hid ((Ext.refl w).alloc (.cells (bytesV (List.replicate 65 0)) 128))
  have A0 := Lib.hid (show BytesAt 128 (w.alloc (.cells (bytesV (List.replicate 65 0)) 128)) w.heap.size (List.replicate 65 0) from ⟨heap_new _ _, by simp⟩)
  generalize w.alloc (.cells (bytesV (List.replicate 65 0)) 128) = w1 at *
  go_loopw [1, 13] (fun uv iv wr => ∃ u k S, uv = .int .u64 (u : Nat) ∧ iv = .int .i64 ((65 - k : Nat) : Int) ∧ FmtAt w n u k S wr) (fun uv _ _ => (intOf uv).toNat)
  case atStart => exact ⟨n, 0, [], rfl, rfl, by omega, HN.out, by simp, rfl, X0.out, by simpa using A0.out⟩
  case round =>
    obtain ⟨u, k, S, rfl, rfl, hF⟩ := hrel
    have k15 := hF.k15
    have u64 : u < 18446744073709551616 := Nat.lt_of_lt_of_le hF.lt (Nat.le_trans (Nat.pow_le_pow_right (by decide) (show 16 - k ≤ 16 by omega)) (by decide))
    obtain ⟨m, hm⟩ : ∃ m, 65 - k = m + 1 := ⟨64 - k, by omega⟩
    have m1 : m = 64 - k := by omega
    rw [hm]
    have e1 : IntKind.i64.wrap (((m + 1 : Nat) : Int) - 1) = (m : Int) := by rw [IntKind.wrap_i64]; omega
    have i1 : (0 : Int) ≤ (m : Int) := by omega
    have i2 : (m : Int) < 65 := by omega
    have i3 : m < 65 := by omega
    have HF := Lib.hid hF; have HM := Lib.hid hm; have HM1 := Lib.hid m1; clear hF hm m1
    have c1 : wr.cell? ⟨w.heap.size, m, none⟩ = some (.int .u8 0) := by
      have hD := HF.out.at'
      rw [HM.out] at hD
      have h := hD.cell (i := m) (by simp; omega)
      rw [h]; simp
    have c2 : wr.frozen? ⟨w.heap.size, m, none⟩ = false := HF.out.at'.frozen m
    by_cases hlt : 16 ≤ u
    · have a1 := and15 u64
      have l1 : u % 16 < 16 := by omega
      have l2 : u % 16 < 36 := by omega
      have l3 : ((u % 16 : Nat) : Int) < 36 := by omega
      have l4 : (0 : Int) ≤ ((u % 16 : Nat) : Int) := by omega
      have b1 : decide ((16 : Int) ≤ (u : Int)) = true := by simp; omega
      obtain ⟨q, hq⟩ : ∃ q, q = u / 16 := ⟨_, rfl⟩
      have q1 : (u : Int) / 16 = (q : Int) := by omega
      generalize hr : u % 16 = r at *
      have HR := Lib.hid hr; have HQ := Lib.hid hq; clear hr hq
      go_wp2_with fail
      refine ⟨⟨q, k + 1, hexD r :: S, rfl, ?_, ?_⟩, ?_⟩
      · have := HM1.out; congr 2; omega
      · rw [show (⟨#[48, 49, 50, 51, 52, 53, 54, 55, 56, 57, 97, 98, 99, 100, 101, 102, 103, 104, 105, 106, 107, 108, 109, 110, 111, 112, 113, 114, 115, 116, 117, 118, 119, 120, 121, 122]⟩ : ByteArray)[r] = hexD r from hexS_at l1 l2]
        have hlt2 := HF.out.lt
        have hk14 : k ≤ 14 := by
          rcases Nat.lt_or_ge k 15 with h | h
          · omega
          · have : k = 15 := by omega
            rw [this] at hlt2; simp at hlt2; omega
        obtain ⟨j, hj⟩ : ∃ j, 16 - k = j + 1 := ⟨15 - k, by omega⟩
        refine ⟨by omega, ?_, ?_, by rw [List.length_cons, HF.out.len], HF.out.ext.setCell (Nat.le_refl _) _, ?_⟩
        · rw [hj, Nat.pow_succ] at hlt2
          rw [HQ.out, show 16 - (k + 1) = j by omega]; omega
        · rw [HF.out.num, hexMin, dif_neg (by omega), HQ.out, HR.out, List.append_assoc]; rfl
        · have h := HF.out.at'.set (i := m) (v := hexD r) (by omega)
          rw [HM.out, bytes_put] at h
          rw [show 65 - (k + 1) = m by have := HM1.out; omega]
          exact h
      · have := HQ.out; simp [intOf]; omega
    · have b1 : decide ((16 : Int) ≤ (u : Int)) = false := by simp; omega
      have l1 : u < 16 := by omega
      have l2 : u < 36 := by omega
      have l3 : (u : Int) < 36 := by omega
      have HL := Lib.hid (show (hexD u :: S).length = 65 - m by rw [List.length_cons, HF.out.len]; have := HM1.out; have := HM.out; omega)
      have HE := Lib.hid (show hexMin n = hexD u :: S by rw [HF.out.num, hexMin, dif_pos l1]; rfl)
      have hal : Tryd.prog.arrayLen 128 = 65 := by kernel_rfl
      have hsl : ∀ W, (Instr.sliceAt 128 (.pointer (some ⟨w.heap.size, 0, none⟩)) (some (.int .i64 m)) none none).run Tryd.prog W = .ok (.slice (some ⟨w.heap.size, m, none⟩) (hexD u :: S).length (65 - m)) W := fun W => by
        rw [run_sliceAt_array_l W 128 ⟨w.heap.size, 0, none⟩ (by rw [hal]; kernel_rfl) .i64 (m : Int) (by omega) (by rw [hal]; omega), HL.out]
        go_simp
        omega
      have hA := HF.out.at'.set (i := m) (v := hexD u) (by omega)
      rw [HM.out, bytes_put] at hA
      have hcv : (convert 35 9 (.slice (some ⟨w.heap.size, m, none⟩) (S.length + 1) (65 - m))).run Tryd.prog (wr.setCell ⟨w.heap.size, m, none⟩ (.int .u8 ((hexD u).toNat : Int))) = .ok (.string ⟨(hexD u :: S).toArray⟩) (wr.setCell ⟨w.heap.size, m, none⟩ (.int .u8 ((hexD u).toNat : Int))) := run_convert_bytes_back (P := Tryd.prog) (wr.setCell ⟨w.heap.size, m, none⟩ (.int .u8 ((hexD u).toNat : Int))) 35 9 5 ⟨w.heap.size, m, none⟩ (65 - m) (hexD u :: S) (by kernel_rfl) (by kernel_rfl) (by kernel_rfl) (fun j hj => by
          have := hA.cell (i := m + j) (by simp at hj ⊢; omega)
          rw [Lib.add_plain, this]
          simp)
      have HX := Lib.hid (HF.out.ext.setCell (p := ⟨w.heap.size, m, none⟩) (Nat.le_refl _) (.int .u8 ((hexD u).toNat : Int)))
      clear hA hal
      have gx : (⟨#[48, 49, 50, 51, 52, 53, 54, 55, 56, 57, 97, 98, 99, 100, 101, 102, 103, 104, 105, 106, 107, 108, 109, 110, 111, 112, 113, 114, 115, 116, 117, 118, 119, 120, 121, 122]⟩ : ByteArray)[u] = hexD u := hexS_at l1 l2
      go_wp2_with (first | rw [gx] | rw [hcv])
      go_ret2
      rw [HE.out]
      exact ⟨rfl, HX.out⟩
theorem iFormat_any (n : Nat) (w : World) (hn : n < 18446744073709551616) (hT : DeB w) :
    Calls Tryd.prog 68 #[.int .u64 n, .int .i64 16] w fun e w' => e = .returned (.string ⟨(hexMin n).toArray⟩) ∧ Ext w w' := by
  have HC := Lib.hid (formatBits_any n w hn hT)
  go_enter Tryd.func68, Tryd.ntmps68
  go_wp2_with (refine HC.out.mono ?_; rintro e w' ⟨rfl, hX⟩)
  go_ret
  exact ⟨rfl, hX⟩
theorem Format_any (n : Nat) (w : World) (hn : n < 18446744073709551616) (hT : DeB w) :
    Calls Tryd.prog 58 #[.int .u64 n, .int .i64 16] w fun e w' => e = .returned (.string ⟨(hexMin n).toArray⟩) ∧ Ext w w' := by
  have HC := Lib.hid (iFormat_any n w hn hT)
  go_enter Tryd.func58, Tryd.ntmps58
  go_wp2_with (refine HC.out.mono ?_; rintro e w' ⟨rfl, hX⟩)
  go_ret
  exact ⟨rfl, hX⟩
end Go.Proofs.YtoopoljchhdobaaDoor
