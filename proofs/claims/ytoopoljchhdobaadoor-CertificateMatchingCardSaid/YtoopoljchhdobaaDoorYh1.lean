/-
  Digests, plain: the hash of a text as 16 hexadecimal digits.
-/
import Derived.Test.YtoopoljchhdobaaDoorYc1
namespace Go.Proofs.YtoopoljchhdobaaDoor

def fnvStep (h : Nat) (b : UInt8) : Nat := ((h ^^^ b.toNat) * 1099511628211) % 18446744073709551616
def fnvN (l : List UInt8) : Nat := l.foldl fnvStep 14695981039346656037
theorem fnvN_snoc (l : List UInt8) (b : UInt8) : fnvN (l ++ [b]) = fnvStep (fnvN l) b := by unfold fnvN; rw [List.foldl_append, List.foldl_cons, List.foldl_nil]
theorem fnvStep_lt (h : Nat) (b : UInt8) : fnvStep h b < 18446744073709551616 := Nat.mod_lt _ (by decide)
theorem fnvN_lt (l : List UInt8) : fnvN l < 18446744073709551616 := by
  rcases List.eq_nil_or_concat l with rfl | ⟨m, b, rfl⟩
  · decide
  · rw [List.concat_eq_append, fnvN_snoc]; exact fnvStep_lt _ _
def hexD (d : Nat) : UInt8 := if d < 10 then UInt8.ofNat (48 + d) else UInt8.ofNat (87 + d)
theorem hexD_hex {d : Nat} (h : d < 16) : hexB (hexD d) = true := by
  have : d = 0 ∨ d = 1 ∨ d = 2 ∨ d = 3 ∨ d = 4 ∨ d = 5 ∨ d = 6 ∨ d = 7 ∨ d = 8 ∨ d = 9 ∨ d = 10 ∨ d = 11 ∨ d = 12 ∨ d = 13 ∨ d = 14 ∨ d = 15 := by omega
  rcases this with rfl | rfl | rfl | rfl | rfl | rfl | rfl | rfl | rfl | rfl | rfl | rfl | rfl | rfl | rfl | rfl <;> rfl
/-- The last k hexadecimal digits. -/
def hexLow : Nat → Nat → List UInt8
  | _, 0 => []
  | n, k + 1 => hexLow (n / 16) k ++ [hexD (n % 16)]
theorem hexLow_len : ∀ (k n : Nat), (hexLow n k).length = k
  | 0, _ => rfl
  | k + 1, n => by rw [hexLow, List.length_append, hexLow_len k]; rfl
theorem hexLow_hex : ∀ (k n : Nat), (hexLow n k).all hexB = true
  | 0, _ => rfl
  | k + 1, n => by rw [hexLow, List.all_append, hexLow_hex k, List.all_cons, hexD_hex (Nat.mod_lt _ (by decide))]; rfl
theorem hexLow_zero : ∀ k : Nat, hexLow 0 k = List.replicate k 48
  | 0 => rfl
  | k + 1 => by rw [hexLow, hexLow_zero k, List.replicate_succ']; rfl
/-- The hexadecimal numeral. -/
def hexMin (n : Nat) : List UInt8 := if _h : n < 16 then [hexD n] else hexMin (n / 16) ++ [hexD (n % 16)]
termination_by n
decreasing_by omega
theorem hexMin_pad : ∀ (k n : Nat), n < 16 ^ (k + 1) → (hexMin n).length ≤ k + 1 ∧ List.replicate (k + 1 - (hexMin n).length) 48 ++ hexMin n = hexLow n (k + 1)
  | k, n, h => by
    rw [hexMin]
    split
    · next h16 =>
      refine ⟨by simp, ?_⟩
      rw [hexLow, show n / 16 = 0 by omega, show n % 16 = n by omega, hexLow_zero]; simp
    · next h16 =>
      cases k with
      | zero => simp at h; omega
      | succ k =>
        have h2 : n / 16 < 16 ^ (k + 1) := by rw [Nat.pow_succ] at h; omega
        obtain ⟨e1, e2⟩ := hexMin_pad k (n / 16) h2
        refine ⟨by rw [List.length_append]; simp; omega, ?_⟩
        rw [hexLow, ← e2, List.length_append, ← List.append_assoc]
        simp
def digestS (l : List UInt8) : List UInt8 := hexLow (fnvN l) 16
theorem digestS_ok (l : List UInt8) : digB (digestS l) = true := by
  unfold digB digestS
  rw [hexLow_len, hexLow_hex]; rfl
theorem digest_pad (l : List UInt8) : (hexMin (fnvN l)).length ≤ 16 ∧ List.replicate (16 - (hexMin (fnvN l)).length) 48 ++ hexMin (fnvN l) = digestS l :=
  hexMin_pad 15 (fnvN l) (by have := fnvN_lt l; simpa using this)
end Go.Proofs.YtoopoljchhdobaaDoor
