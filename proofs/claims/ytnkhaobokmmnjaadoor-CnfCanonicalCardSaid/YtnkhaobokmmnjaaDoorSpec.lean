/-
  The plain functions: what the program's expr functions compute, on trees and integers. No program in sight.
-/
import Derived.Test.YtnkhaobokmmnjaaDoorDefs
namespace Go.Proofs.YtnkhaobokmmnjaaDoor
open Go.RowKit

/-- 2 to the power of a width. -/
def pw (w : Int) : Int := 2 ^ w.toNat
/-- An element of a state, 0 if there is none. -/
def elemS (l : List Int) (i : Int) : Int := l.getD i.toNat 0

/-- The operation, before it is cut to its width. -/
def applyS (op a b c : Int) : Int :=
  if op = 4 then -1 - a else if op = 5 then ((a.toNat &&& b.toNat : Nat) : Int) else if op = 6 then ((a.toNat ||| b.toNat : Nat) : Int) else if op = 7 then ((a.toNat ^^^ b.toNat : Nat) : Int)
  else if op = 9 then a - b else if op = 8 then a + b else if op = 10 then a * b else if op = 11 then (if a = b then 1 else 0) else if op = 13 then (if a ≤ b then 1 else 0)
  else if op = 12 then (if a < b then 1 else 0) else if op = 14 then (if a = 1 then b else c) else 0

mutual
/-- The value of an expression. -/
def E.val (old now : List Int) : E → Int
  | .mk op wd n ks => if op = 1 then n else if op = 2 then elemS now n % pw wd else if op = 3 then elemS old n % pw wd
      else applyS op ((valAll old now ks).getD 0 0) ((valAll old now ks).getD 1 0) ((valAll old now ks).getD 2 0) % pw wd
def valAll (old now : List Int) : List E → List Int
  | [] => []
  | e :: r => e.val old now :: valAll old now r
end
theorem valAll_eq (old now : List Int) (ks : List E) : valAll old now ks = ks.map (·.val old now) := by
  induction ks with
  | nil => rfl
  | cons e r ih => simp [valAll, ih]

/-- A node satisfies the row of its operator; ws: the widths of its kids. -/
def shapedW (op wd n : Int) (ws : List Int) : Bool :=
  decide (1 ≤ wd) && decide (wd ≤ 8) &&
    (if op = 1 then decide (ws = []) && decide (0 ≤ n) && decide (n ≤ pw wd - 1)
     else if op = 2 ∨ op = 3 then decide (ws = []) && decide (0 ≤ n) && decide (n < 32)
     else if n ≠ 0 then false
     else if op = 4 then decide (ws = [wd])
     else if 5 ≤ op ∧ op ≤ 10 then decide (ws = [wd, wd])
     else if 11 ≤ op ∧ op ≤ 13 then decide (wd = 1) && decide (ws.length = 2) && decide (ws[0]? = ws[1]?)
     else if op = 14 then decide (ws = [1, wd, wd])
     else false)

mutual
/-- Number of nodes; depth. -/
def E.size : E → Nat
  | .mk _ _ _ ks => 1 + sizeAll ks
def sizeAll : List E → Nat
  | [] => 0
  | e :: r => e.size + sizeAll r
end
mutual
/-- All nodes are shaped, and none lies deeper than d. -/
def E.deep : E → Nat → Bool
  | .mk op wd n ks, d => decide (1 ≤ d) && shapedW op wd n (ks.map E.wd) && deepAll ks (d - 1)
def deepAll : List E → Nat → Bool
  | [], _ => true
  | e :: r, d => e.deep d && deepAll r d
end
/-- Well-formed. -/
def E.wf (e : E) : Bool := decide (e.size ≤ 600) && e.deep 40

theorem E.size_pos (e : E) : 1 ≤ e.size := by cases e; simp [E.size]
theorem sizeAll_eq (ks : List E) : sizeAll ks = (ks.map E.size).sum := by
  induction ks with
  | nil => rfl
  | cons e r ih => simp [sizeAll, ih]
theorem size_kid {op wd n : Int} {ks : List E} {k : E} (h : k ∈ ks) : k.size < (E.mk op wd n ks).size := by
  simp only [E.size]
  induction ks with
  | nil => cases h
  | cons e r ih =>
    simp only [sizeAll]
    rcases List.mem_cons.1 h with rfl | h
    · omega
    · have := ih h; omega
theorem deepAll_iff (ks : List E) (d : Nat) : deepAll ks d = true ↔ ∀ k ∈ ks, k.deep d = true := by
  induction ks with
  | nil => simp [deepAll]
  | cons e r ih => simp [deepAll, ih]

/-- Facts of a width. -/
theorem pw_cases {w : Int} (h1 : 1 ≤ w) (h2 : w ≤ 8) : (w = 1 ∧ pw w = 2) ∨ (w = 2 ∧ pw w = 4) ∨ (w = 3 ∧ pw w = 8) ∨ (w = 4 ∧ pw w = 16) ∨ (w = 5 ∧ pw w = 32) ∨ (w = 6 ∧ pw w = 64) ∨ (w = 7 ∧ pw w = 128) ∨ (w = 8 ∧ pw w = 256) := by
  obtain ⟨k, rfl⟩ := Int.eq_ofNat_of_zero_le (show 0 ≤ w by omega)
  have : k = 1 ∨ k = 2 ∨ k = 3 ∨ k = 4 ∨ k = 5 ∨ k = 6 ∨ k = 7 ∨ k = 8 := by omega
  rcases this with rfl | rfl | rfl | rfl | rfl | rfl | rfl | rfl <;> simp [pw]

/-- Go's bitwise operators on small numbers. -/
theorem i64_small (n : Int) (h₀ : 0 ≤ n) (h₁ : n < 2 ^ 62) : IntKind.i64.wrap n = n := by rw [IntKind.wrap_i64]; omega
theorem and_eq (a b : Int) (h0 : 0 ≤ a) (h1 : a ≤ 255) (h2 : 0 ≤ b) (h3 : b ≤ 255) : bits .and .i64 a b = ((a.toNat &&& b.toNat : Nat) : Int) := by
  obtain ⟨m, rfl⟩ := Int.eq_ofNat_of_zero_le h0
  obtain ⟨n, rfl⟩ := Int.eq_ofNat_of_zero_le h2
  exact (bits_nat .i64 62 (by decide) i64_small m n (by omega) (by omega)).1
theorem or_eq (a b : Int) (h0 : 0 ≤ a) (h1 : a ≤ 255) (h2 : 0 ≤ b) (h3 : b ≤ 255) : bits .or .i64 a b = ((a.toNat ||| b.toNat : Nat) : Int) := by
  obtain ⟨m, rfl⟩ := Int.eq_ofNat_of_zero_le h0
  obtain ⟨n, rfl⟩ := Int.eq_ofNat_of_zero_le h2
  exact (bits_nat .i64 62 (by decide) i64_small m n (by omega) (by omega)).2
theorem xor_eq (a b : Int) (h0 : 0 ≤ a) (h1 : a ≤ 255) (h2 : 0 ≤ b) (h3 : b ≤ 255) : bits .xor .i64 a b = ((a.toNat ^^^ b.toNat : Nat) : Int) := by
  obtain ⟨m, rfl⟩ := Int.eq_ofNat_of_zero_le h0
  obtain ⟨n, rfl⟩ := Int.eq_ofNat_of_zero_le h2
  have hm : m % 2 ^ 64 = m := Nat.mod_eq_of_lt (by omega)
  have hn : n % 2 ^ 64 = n := Nat.mod_eq_of_lt (by omega)
  have hx : m ^^^ n < 2 ^ 8 := Nat.xor_lt_two_pow (by omega) (by omega)
  have key : (BitVec.ofInt 64 (m : Int) ^^^ BitVec.ofInt 64 (n : Int)).toNat = m ^^^ n := by
    rw [BitVec.toNat_xor, BitVec.ofInt_natCast, BitVec.ofInt_natCast, BitVec.toNat_ofNat, BitVec.toNat_ofNat, hm, hn]
  show IntKind.i64.wrap ((BitVec.ofInt 64 (m : Int) ^^^ BitVec.ofInt 64 (n : Int)).toNat : Nat) = _
  rw [key, i64_small _ (by omega) (by have : ((m ^^^ n : Nat) : Int) < ((2 ^ 8 : Nat) : Int) := by exact_mod_cast hx
                                      omega)]
  rfl
theorem not_eq (a : Int) (h0 : 0 ≤ a) (h1 : a ≤ 255) : bits .xor .i64 (-1) a = -1 - a := by
  obtain ⟨m, rfl⟩ := Int.eq_ofNat_of_zero_le h0
  have hm : m % 2 ^ 64 = m := Nat.mod_eq_of_lt (by omega)
  have e1 : BitVec.ofInt 64 (-1) = BitVec.allOnes 64 := by decide
  have key : (BitVec.ofInt 64 (-1) ^^^ BitVec.ofInt 64 (m : Int)).toNat = 2 ^ 64 - 1 - m := by
    rw [e1, BitVec.allOnes_xor, BitVec.toNat_not, BitVec.ofInt_natCast, BitVec.toNat_ofNat, hm]
  show IntKind.i64.wrap ((BitVec.ofInt 64 (-1) ^^^ BitVec.ofInt 64 (m : Int)).toNat : Nat) = _
  rw [key, IntKind.wrap_i64]
  omega
theorem mask_nat (n : Int) (k : Nat) (hk : k ≤ 8) : bits .and .i64 n (2 ^ k - 1) = n % 2 ^ k := by
  have e : ((2 : Int) ^ k - 1) = ((2 ^ k - 1 : Nat) : Int) := by rw [Int.natCast_sub (Nat.two_pow_pos k)]; simp
  have hs : 2 ^ k ≤ 2 ^ 8 := Nat.pow_le_pow_right (by decide) hk
  have hp : 0 < 2 ^ k := Nat.two_pow_pos k
  have key : (BitVec.ofInt 64 n &&& BitVec.ofInt 64 ((2 : Int) ^ k - 1)).toNat = (n % ((2 ^ 64 : Nat) : Int)).toNat % 2 ^ k := by
    rw [BitVec.toNat_and, BitVec.toNat_ofInt, e, BitVec.ofInt_natCast, BitVec.toNat_ofNat, Nat.mod_eq_of_lt (a := 2 ^ k - 1) (by omega), Nat.and_two_pow_sub_one_eq_mod]
  show IntKind.i64.wrap ((BitVec.ofInt 64 n &&& BitVec.ofInt 64 ((2 : Int) ^ k - 1)).toNat : Nat) = n % 2 ^ k
  rw [key]
  have : k = 0 ∨ k = 1 ∨ k = 2 ∨ k = 3 ∨ k = 4 ∨ k = 5 ∨ k = 6 ∨ k = 7 ∨ k = 8 := by omega
  rw [IntKind.wrap_i64]
  rcases this with rfl | rfl | rfl | rfl | rfl | rfl | rfl | rfl | rfl <;> omega
theorem mask_eq (n w : Int) (h1 : 1 ≤ w) (h2 : w ≤ 8) : bits .and .i64 n (pw w - 1) = n % pw w := by
  unfold pw; exact mask_nat n _ (by omega)
theorem pw_pos {w : Int} : 0 < pw w := by unfold pw; exact Int.pow_pos (by decide)
theorem pw_le {w : Int} (h2 : w ≤ 8) : pw w ≤ 256 := by
  unfold pw
  have : w.toNat ≤ 8 := by omega
  have h := Nat.pow_le_pow_right (n := 2) (by decide) this
  have e : ((2 : Int) ^ w.toNat) = ((2 ^ w.toNat : Nat) : Int) := by simp
  rw [e]; omega
theorem shapedW_wd {op wd n : Int} {ws : List Int} (h : shapedW op wd n ws = true) : 1 ≤ wd ∧ wd ≤ 8 := by
  simp only [shapedW, Bool.and_eq_true, decide_eq_true_eq] at h; exact h.1
theorem shapedW_const {wd n : Int} {ws : List Int} (h : shapedW 1 wd n ws = true) : ws = [] ∧ 0 ≤ n ∧ n ≤ pw wd - 1 := by
  simp [shapedW] at h; exact ⟨h.2.1.1, h.2.1.2, by omega⟩
theorem shapedW_cell {op wd n : Int} {ws : List Int} (h : shapedW op wd n ws = true) (ho : op = 2 ∨ op = 3) : ws = [] ∧ 0 ≤ n ∧ n < 32 := by
  rcases ho with rfl | rfl <;> simp [shapedW] at h <;> exact ⟨h.2.1.1, h.2.1.2, h.2.2⟩
/-- What a shaped inner node has: an operator from 4 to 14, one to three kids. -/
theorem shapedW_inner {op wd n : Int} {ws : List Int} (h : shapedW op wd n ws = true) (h1 : op ≠ 1) (h2 : op ≠ 2) (h3 : op ≠ 3) : n = 0 ∧ 4 ≤ op ∧ op ≤ 14 ∧
    ((op = 4 ∧ ws = [wd]) ∨ (5 ≤ op ∧ op ≤ 10 ∧ ws = [wd, wd]) ∨ (11 ≤ op ∧ op ≤ 13 ∧ wd = 1 ∧ ∃ u, ws = [u, u]) ∨ (op = 14 ∧ ws = [1, wd, wd])) := by
  simp only [shapedW, Bool.and_eq_true] at h
  obtain ⟨_, h⟩ := h
  rw [if_neg h1, if_neg (by omega)] at h
  split at h
  · cases h
  · next hn =>
    have hn0 : n = 0 := by simpa using hn
    split at h
    · next e => simp at h; exact ⟨hn0, by omega, by omega, .inl ⟨e, h⟩⟩
    · split at h
      · next e => simp at h; exact ⟨hn0, by omega, by omega, .inr (.inl ⟨e.1, e.2, h⟩)⟩
      · split at h
        · next e =>
          simp at h
          refine ⟨hn0, by omega, by omega, .inr (.inr (.inl ⟨e.1, e.2, h.1.1, ?_⟩))⟩
          obtain ⟨⟨_, hl⟩, he⟩ := h
          match ws, hl with
          | [a, b], _ => simp at he; exact ⟨a, by rw [he]⟩
        · split at h
          · next e => simp at h; exact ⟨hn0, by omega, by omega, .inr (.inr (.inr ⟨e, h⟩))⟩
          · cases h
end Go.Proofs.YtnkhaobokmmnjaaDoor
