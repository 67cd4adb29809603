/-
  Relations as rows of words: the plain functions and their laws. No program in sight.
  Sets of numbers below 4096 as 64 words: the plain functions and their laws. No program in sight.
  The walks of package states: sum, increasing, shape, small.
-/
import Derived.Test.YtlcgbdjmlnjhcaaGreatDoorG00
import Derived.Lib.TrailingZeros
import Derived.Test.YtlcgbdjmlnjhcaaGreatDoorRows
import Derived.Deep.QuietTactic
import Derived.BigQuiet
import Derived.Deep.Light
import Derived.Deep.RegionHeld3
namespace Go.Proofs.YtlcgbdjmlnjhcaaGreatDoor
open Go.RowKit

/-- The numbers in a word, in increasing order; the word of a list. -/
def inWord (w : Nat) : List Nat := (List.range 64).filter fun n => w.testBit n
def wordL (l : List Nat) : Nat := l.foldl (fun w n => w ||| 1 <<< n) 0
theorem bit_one (n m : Nat) : (1 <<< n).testBit m = decide (n = m) := by
  rw [Nat.one_shiftLeft, Nat.testBit_two_pow]
theorem wordL_from (l : List Nat) (w m : Nat) : (l.foldl (fun w n => w ||| 1 <<< n) w).testBit m = (w.testBit m || decide (m ∈ l)) := by
  induction l generalizing w with
  | nil => simp
  | cons a r ih =>
    rw [List.foldl_cons, ih, Nat.testBit_or, bit_one]
    by_cases h : a = m
    · subst h; simp
    · have h' : ¬ m = a := fun e => h e.symm
      simp [h, h']
theorem bit_wordL (l : List Nat) (m : Nat) : (wordL l).testBit m = decide (m ∈ l) := by
  rw [wordL, wordL_from]; simp
theorem mem_inWord {w n : Nat} : n ∈ inWord w ↔ n < 64 ∧ w.testBit n = true := by simp [inWord]
theorem inWord_sorted (w : Nat) : (inWord w).Pairwise (· < ·) := List.Pairwise.filter _ List.pairwise_lt_range
theorem sorted_ext : ∀ {l l' : List Nat}, l.Pairwise (· < ·) → l'.Pairwise (· < ·) → (∀ x, x ∈ l ↔ x ∈ l') → l = l' := by
  intro l
  induction l with
  | nil =>
    intro l' _ _ h
    cases l' with
    | nil => rfl
    | cons a r => exact absurd ((h a).2 (by simp)) (by simp)
  | cons a r ih =>
    intro l' hl hl' h
    cases l' with
    | nil => exact absurd ((h a).1 (by simp)) (by simp)
    | cons b s =>
      rw [List.pairwise_cons] at hl hl'
      have hab : a = b := by
        have h1 := (h a).1 (by simp)
        have h2 := (h b).2 (by simp)
        rcases List.mem_cons.1 h1 with e | e
        · exact e
        rcases List.mem_cons.1 h2 with e2 | e2
        · exact e2.symm
        · have := hl.1 b e2; have := hl'.1 a e; omega
      subst hab
      rw [ih hl.2 hl'.2 fun x => ?_]
      constructor
      · intro hx
        rcases List.mem_cons.1 ((h x).1 (by simp [hx])) with e | e
        · subst e; exact absurd (hl.1 x hx) (by omega)
        · exact e
      · intro hx
        rcases List.mem_cons.1 ((h x).2 (by simp [hx])) with e | e
        · subst e; exact absurd (hl'.1 x hx) (by omega)
        · exact e
theorem inWord_wordL {l : List Nat} (hs : l.Pairwise (· < ·)) (hb : ∀ x ∈ l, x < 64) : inWord (wordL l) = l :=
  sorted_ext (inWord_sorted _) hs fun x => by
    rw [mem_inWord, bit_wordL, decide_eq_true_eq]
    exact ⟨fun h => h.2, fun h => ⟨hb x h, h⟩⟩

/-- A matrix: 64 words. -/
def rowM (M : List Nat) (x : Nat) : Nat := M.getD x 0
def bitM (M : List Nat) (x y : Nat) : Bool := (rowM M x).testBit y
def orAt (M : List Nat) (x w : Nat) : List Nat := M.set x (rowM M x ||| w)
def zeroM : List Nat := List.replicate 64 0
theorem len_zeroM : zeroM.length = 64 := by simp [zeroM]
theorem len_orAt (M : List Nat) (x w : Nat) : (orAt M x w).length = M.length := by simp [orAt]
theorem row_orAt {M : List Nat} {x w : Nat} (hx : x < M.length) (z : Nat) : rowM (orAt M x w) z = if z = x then rowM M x ||| w else rowM M z := by
  unfold orAt rowM
  by_cases h : z = x
  · subst h; simp [List.getD, hx]
  · have h' : ¬ x = z := fun e => h e.symm
    simp [List.getD, h, h']
theorem bit_orAt {M : List Nat} {x w : Nat} (hx : x < M.length) (z y : Nat) : bitM (orAt M x w) z y = (bitM M z y || (decide (z = x) && w.testBit y)) := by
  unfold bitM
  rw [row_orAt hx]
  by_cases h : z = x
  · subst h; simp [Nat.testBit_or]
  · simp [h]
theorem bit_zeroM (x y : Nat) : bitM zeroM x y = false := by
  have : rowM zeroM x = 0 := by
    unfold rowM zeroM
    rw [List.getD, List.getElem?_replicate]
    split <;> rfl
  rw [bitM, this, Nat.zero_testBit]

/-- The rows of a list of pairs; the pairs of a matrix. -/
def rowsL (P : List (Nat × Nat)) : List Nat := P.foldl (fun M p => orAt M p.1 (1 <<< p.2)) zeroM
def pairsM (M : List Nat) : List (Nat × Nat) := (List.range 64).flatMap fun x => (inWord (rowM M x)).map fun y => (x, y)
theorem rows_from (P : List (Nat × Nat)) : ∀ M : List Nat, M.length = 64 → (∀ p ∈ P, p.1 < 64) → (P.foldl (fun M p => orAt M p.1 (1 <<< p.2)) M).length = 64 ∧
    ∀ x y, bitM (P.foldl (fun M p => orAt M p.1 (1 <<< p.2)) M) x y = (bitM M x y || decide ((x, y) ∈ P)) := by
  induction P with
  | nil => intro M h _; exact ⟨h, by simp⟩
  | cons p r ih =>
    intro M h hb
    have hp := hb p (by simp)
    obtain ⟨h1, h2⟩ := ih (orAt M p.1 (1 <<< p.2)) (by rw [len_orAt, h]) fun q hq => hb q (by simp [hq])
    refine ⟨h1, fun x y => ?_⟩
    rw [List.foldl_cons, h2, bit_orAt (by omega), bit_one]
    obtain ⟨a, b⟩ := p
    by_cases e1 : x = a <;> by_cases e2 : b = y
    · subst e1 e2; simp
    · have e2' : ¬ y = b := fun e => e2 e.symm
      simp [e1, e2, e2']
    · simp [e1]
    · simp [e1]
theorem len_rowsL {P : List (Nat × Nat)} (h : ∀ p ∈ P, p.1 < 64) : (rowsL P).length = 64 := (rows_from P zeroM len_zeroM h).1
theorem bit_rowsL {P : List (Nat × Nat)} (h : ∀ p ∈ P, p.1 < 64) (x y : Nat) : bitM (rowsL P) x y = decide ((x, y) ∈ P) := by
  rw [rowsL, (rows_from P zeroM len_zeroM h).2, bit_zeroM, Bool.false_or]
theorem mem_pairsM {M : List Nat} {x y : Nat} : (x, y) ∈ pairsM M ↔ x < 64 ∧ y < 64 ∧ bitM M x y = true := by
  unfold pairsM bitM
  simp only [List.mem_flatMap, List.mem_map, List.mem_range, mem_inWord, Prod.mk.injEq]
  constructor
  · rintro ⟨a, h1, b, h2, rfl, rfl⟩; exact ⟨h1, h2.1, h2.2⟩
  · rintro ⟨h1, h2, h3⟩; exact ⟨x, h1, y, ⟨h2, h3⟩, rfl, rfl⟩
/-- The order of pairs. -/
def ltP (p q : Nat × Nat) : Prop := p.1 < q.1 ∨ (p.1 = q.1 ∧ p.2 < q.2)
theorem ltP_irrefl (p : Nat × Nat) : ¬ ltP p p := by unfold ltP; omega
theorem ltP_asymm {p q : Nat × Nat} (h : ltP p q) : ¬ ltP q p := by unfold ltP at *; omega
theorem pairsM_sorted (M : List Nat) : (pairsM M).Pairwise ltP := by
  unfold pairsM
  rw [List.pairwise_flatMap]
  refine ⟨fun x _ => ?_, List.pairwise_lt_range.imp fun {a b} h => ?_⟩
  · rw [List.pairwise_map]
    exact (inWord_sorted _).imp fun {a b} h => .inr ⟨rfl, h⟩
  · intro p hp q hq
    rw [List.mem_map] at hp hq
    obtain ⟨_, _, rfl⟩ := hp
    obtain ⟨_, _, rfl⟩ := hq
    exact .inl h
theorem sortedP_ext : ∀ {l l' : List (Nat × Nat)}, l.Pairwise ltP → l'.Pairwise ltP → (∀ x, x ∈ l ↔ x ∈ l') → l = l' := by
  intro l
  induction l with
  | nil =>
    intro l' _ _ h
    cases l' with
    | nil => rfl
    | cons a r => exact absurd ((h a).2 (by simp)) (by simp)
  | cons a r ih =>
    intro l' hl hl' h
    cases l' with
    | nil => exact absurd ((h a).1 (by simp)) (by simp)
    | cons b s =>
      rw [List.pairwise_cons] at hl hl'
      have hab : a = b := by
        have h1 := (h a).1 (by simp)
        have h2 := (h b).2 (by simp)
        rcases List.mem_cons.1 h1 with e | e
        · exact e
        rcases List.mem_cons.1 h2 with e2 | e2
        · exact e2.symm
        · exact absurd (hl'.1 a e) (ltP_asymm (hl.1 b e2))
      subst hab
      rw [ih hl.2 hl'.2 fun x => ?_]
      constructor
      · intro hx
        rcases List.mem_cons.1 ((h x).1 (by simp [hx])) with e | e
        · subst e; exact absurd (hl.1 x hx) (ltP_irrefl x)
        · exact e
      · intro hx
        rcases List.mem_cons.1 ((h x).2 (by simp [hx])) with e | e
        · subst e; exact absurd (hl'.1 x hx) (ltP_irrefl x)
        · exact e
theorem pairs_rows {P : List (Nat × Nat)} (hs : P.Pairwise ltP) (hb : ∀ p ∈ P, p.1 < 64 ∧ p.2 < 64) : pairsM (rowsL P) = P :=
  sortedP_ext (pairsM_sorted _) hs fun p => by
    obtain ⟨x, y⟩ := p
    rw [mem_pairsM, bit_rowsL fun p hp => (hb p hp).1, decide_eq_true_eq]
    exact ⟨fun h => h.2.2, fun h => ⟨(hb _ h).1, (hb _ h).2, h⟩⟩

/-- Union, composition. -/
def unionM (A B : List Nat) : List Nat := (List.range 64).map fun x => rowM A x ||| rowM B x
theorem row_map (f : Nat → Nat) (x : Nat) (hx : x < 64) : rowM ((List.range 64).map f) x = f x := by simp [rowM, List.getD, hx]
theorem bit_unionM (A B : List Nat) (x y : Nat) (hx : x < 64) : bitM (unionM A B) x y = (bitM A x y || bitM B x y) := by
  unfold bitM unionM
  rw [row_map _ _ hx, Nat.testBit_or]
def composeM (A B : List Nat) : List Nat := (pairsM A).foldl (fun M p => orAt M p.1 (rowM B p.2)) zeroM
theorem compose_from (B : List Nat) (P : List (Nat × Nat)) : ∀ M : List Nat, M.length = 64 → (∀ p ∈ P, p.1 < 64) → (P.foldl (fun M p => orAt M p.1 (rowM B p.2)) M).length = 64 ∧
    ∀ x z, bitM (P.foldl (fun M p => orAt M p.1 (rowM B p.2)) M) x z = true ↔ (bitM M x z = true ∨ ∃ y, (x, y) ∈ P ∧ bitM B y z = true) := by
  induction P with
  | nil => intro M h _; exact ⟨h, by simp⟩
  | cons p r ih =>
    intro M h hb
    have hp := hb p (by simp)
    obtain ⟨h1, h2⟩ := ih (orAt M p.1 (rowM B p.2)) (by rw [len_orAt, h]) fun q hq => hb q (by simp [hq])
    refine ⟨h1, fun x z => ?_⟩
    rw [List.foldl_cons, h2, bit_orAt (by omega), Bool.or_eq_true, Bool.and_eq_true, decide_eq_true_eq]
    obtain ⟨a, b⟩ := p
    constructor
    · rintro ((h | ⟨rfl, h⟩) | ⟨y, hy, h⟩)
      · exact .inl h
      · exact .inr ⟨b, by simp, h⟩
      · exact .inr ⟨y, by simp [hy], h⟩
    · rintro (h | ⟨y, hy, h⟩)
      · exact .inl (.inl h)
      · rcases List.mem_cons.1 hy with e | e
        · cases e; exact .inl (.inr ⟨rfl, h⟩)
        · exact .inr ⟨y, e, h⟩
theorem len_composeM (A B : List Nat) : (composeM A B).length = 64 := (compose_from B (pairsM A) zeroM len_zeroM fun p hp => by obtain ⟨x, y⟩ := p; exact (mem_pairsM.1 hp).1).1
theorem bit_composeM (A B : List Nat) (x z : Nat) : bitM (composeM A B) x z = true ↔ ∃ y, x < 64 ∧ y < 64 ∧ bitM A x y = true ∧ bitM B y z = true := by
  rw [composeM, (compose_from B (pairsM A) zeroM len_zeroM fun p hp => by obtain ⟨x, y⟩ := p; exact (mem_pairsM.1 hp).1).2, bit_zeroM]
  simp only [Bool.false_eq_true, false_or, mem_pairsM]
  constructor
  · rintro ⟨y, ⟨h1, h2, h3⟩, h4⟩; exact ⟨y, h1, h2, h3, h4⟩
  · rintro ⟨y, h1, h2, h3, h4⟩; exact ⟨y, ⟨h1, h2, h3⟩, h4⟩

/-- The reflexive transitive closure, in place: n states. -/
def diagM (n : Nat) (M : List Nat) : List Nat := (List.range n).foldl (fun M x => orAt M x (1 <<< x)) M
def warRow (y : Nat) (M : List Nat) (x : Nat) : List Nat := if bitM M x y then orAt M x (rowM M y) else M
def warStep (n : Nat) (M : List Nat) (y : Nat) : List Nat := (List.range n).foldl (warRow y) M
def closeM (n : Nat) (A : List Nat) : List Nat := (List.range n).foldl (warStep n) (diagM n A)

theorem diag_from (l : List Nat) : ∀ M : List Nat, M.length = 64 → (∀ x ∈ l, x < 64) → (l.foldl (fun M x => orAt M x (1 <<< x)) M).length = 64 ∧ ∀ x y, bitM (l.foldl (fun M x => orAt M x (1 <<< x)) M) x y = (bitM M x y || (decide (x = y) && decide (x ∈ l))) := by
  induction l with
  | nil => intro M h _; exact ⟨h, by simp⟩
  | cons a r ih =>
    intro M h hb
    have hp := hb a (by simp)
    obtain ⟨h1, h2⟩ := ih (orAt M a (1 <<< a)) (by rw [len_orAt, h]) fun q hq => hb q (by simp [hq])
    refine ⟨h1, fun x y => ?_⟩
    rw [List.foldl_cons, h2, bit_orAt (by omega), bit_one]
    by_cases e1 : x = a
    · subst e1; by_cases e2 : x = y <;> simp [e2]
    · simp [e1]
theorem war_from (y : Nat) (l : List Nat) : ∀ M : List Nat, M.length = 64 → (∀ x ∈ l, x < 64) → (l.foldl (warRow y) M).length = 64 ∧
    ∀ x z, bitM (l.foldl (warRow y) M) x z = (bitM M x z || (decide (x ∈ l) && bitM M x y && bitM M y z)) := by
  induction l with
  | nil => intro M h _; exact ⟨h, by simp⟩
  | cons a r ih =>
    intro M h hb
    have hp := hb a (by simp)
    have hl : (warRow y M a).length = 64 := by unfold warRow; split <;> simp [len_orAt, h]
    have hbit : ∀ x z, bitM (warRow y M a) x z = (bitM M x z || (decide (x = a) && bitM M x y && bitM M y z)) := by
      intro x z
      unfold warRow
      split
      · next c =>
        rw [bit_orAt (by omega)]
        by_cases e : x = a
        · subst e; rw [c]; simp [bitM]
        · simp [e]
      · next c =>
        by_cases e : x = a
        · subst e; simp [c]
        · simp [e]
    have hy : ∀ z, bitM (warRow y M a) y z = bitM M y z := by
      intro z
      rw [hbit]
      cases bitM M y z <;> simp
    have hcol : ∀ x, bitM (warRow y M a) x y = bitM M x y := by
      intro x
      rw [hbit]
      cases bitM M x y <;> simp
    obtain ⟨h1, h2⟩ := ih (warRow y M a) hl fun q hq => hb q (by simp [hq])
    refine ⟨h1, fun x z => ?_⟩
    rw [List.foldl_cons, h2, hy, hcol, hbit]
    by_cases e : x = a
    · subst e; simp; cases bitM M x z <;> cases bitM M x y <;> cases bitM M y z <;> simp
    · simp [e]
/-- What the closure has while the first k columns are done. -/
structure War (n k : Nat) (A M : List Nat) : Prop where
  len : M.length = 64
  refl : ∀ x, x < n → bitM M x x = true
  has : ∀ x y, bitM A x y = true → bitM M x y = true
  least : ∀ K : Nat → Nat → Prop, (∀ x, x < n → K x x) → (∀ x y z, K x y → K y z → K x z) → (∀ x y, bitM A x y = true → K x y) → ∀ x y, bitM M x y = true → K x y
  through : ∀ x y z, y < k → bitM M x y = true → bitM M y z = true → bitM M x z = true
  inside : (∀ x y, bitM A x y = true → x < n ∧ y < n) → ∀ x y, bitM M x y = true → x < n ∧ y < n
theorem war_start {n : Nat} {A : List Nat} (hn : n ≤ 64) (hA : A.length = 64) : War n 0 A (diagM n A) := by
  obtain ⟨h1, h2⟩ := diag_from (List.range n) A hA fun x hx => by have := List.mem_range.1 hx; omega
  refine ⟨h1, fun x hx => ?_, fun x y h => ?_, fun K hr ht hk x y h => ?_, fun x y z hy => absurd hy (by omega), fun hin x y h => ?_⟩
  · rw [diagM, h2]; simp [hx]
  · rw [diagM, h2, h]; rfl
  · rw [diagM, h2, Bool.or_eq_true, Bool.and_eq_true, decide_eq_true_eq, decide_eq_true_eq] at h
    rcases h with h | ⟨rfl, h⟩
    · exact hk x y h
    · exact hr x (List.mem_range.1 h)
  · rw [diagM, h2, Bool.or_eq_true, Bool.and_eq_true, decide_eq_true_eq, decide_eq_true_eq] at h
    rcases h with h | ⟨rfl, h⟩
    · exact hin x y h
    · exact ⟨List.mem_range.1 h, List.mem_range.1 h⟩
theorem war_next {n k : Nat} {A M : List Nat} (hn : n ≤ 64) (hin : ∀ x y, bitM A x y = true → x < n ∧ y < n) (h : War n k A M) : War n (k + 1) A (warStep n M k) := by
  obtain ⟨h1, h2⟩ := war_from k (List.range n) M h.len fun x hx => by have := List.mem_range.1 hx; omega
  have hb : ∀ x z, bitM (warStep n M k) x z = true ↔ (bitM M x z = true ∨ (bitM M x k = true ∧ bitM M k z = true)) := by
    intro x z
    rw [warStep, h2]
    simp only [Bool.or_eq_true, Bool.and_eq_true, decide_eq_true_eq, List.mem_range]
    constructor
    · rintro (h | ⟨⟨_, h⟩, h'⟩)
      · exact .inl h
      · exact .inr ⟨h, h'⟩
    · rintro (h' | ⟨h', h''⟩)
      · exact .inl h'
      · exact .inr ⟨⟨(h.inside hin x k h').1, h'⟩, h''⟩
  refine ⟨h1, fun x hx => (hb _ _).2 (.inl (h.refl x hx)), fun x y c => (hb _ _).2 (.inl (h.has x y c)), fun K hr ht hk x y c => ?_, fun x y z hy c d => ?_, fun _ x y c => ?_⟩
  · rcases (hb _ _).1 c with c | ⟨c, d⟩
    · exact h.least K hr ht hk x y c
    · exact ht x k y (h.least K hr ht hk x k c) (h.least K hr ht hk k y d)
  · rw [hb] at c d ⊢
    have hy' : y < k ∨ y = k := by omega
    rcases hy' with hy' | rfl
    · rcases c with c | ⟨c, c'⟩ <;> rcases d with d | ⟨d, d'⟩
      · exact .inl (h.through x y z hy' c d)
      · exact .inr ⟨h.through x y k hy' c d, d'⟩
      · exact .inr ⟨c, h.through k y z hy' c' d⟩
      · exact .inr ⟨c, d'⟩
    · have c1 : bitM M x y = true := by rcases c with c | ⟨c, _⟩ <;> exact c
      have d1 : bitM M y z = true := by rcases d with d | ⟨_, d⟩ <;> exact d
      exact .inr ⟨c1, d1⟩
  · rcases (hb _ _).1 c with c | ⟨c, d⟩
    · exact h.inside hin x y c
    · exact ⟨(h.inside hin x k c).1, (h.inside hin k y d).2⟩
theorem war_end {n : Nat} {A : List Nat} (hn : n ≤ 64) (hA : A.length = 64) (hin : ∀ x y, bitM A x y = true → x < n ∧ y < n) : War n n A (closeM n A) := by
  have key : ∀ k, k ≤ n → War n k A ((List.range k).foldl (warStep n) (diagM n A)) := by
    intro k
    induction k with
    | zero => intro _; exact war_start hn hA
    | succ k ih =>
      intro hk
      rw [List.range_succ, List.foldl_append]
      exact war_next hn hin (ih (by omega))
  exact key n (Nat.le_refl _)
/-- The closure is transitive. -/
theorem close_trans {n : Nat} {A : List Nat} (hn : n ≤ 64) (hA : A.length = 64) (hin : ∀ x y, bitM A x y = true → x < n ∧ y < n) {x y z : Nat} (h1 : bitM (closeM n A) x y = true) (h2 : bitM (closeM n A) y z = true) : bitM (closeM n A) x z = true :=
  (war_end hn hA hin).through x y z ((war_end hn hA hin).inside hin x y h1).2 h1 h2

/-- The image of a set; the part of a set that is not left. -/
def imageW (M : List Nat) (S : List Nat) : Nat := S.foldl (fun w x => w ||| rowM M x) 0
theorem image_from (M : List Nat) (S : List Nat) (w y : Nat) : (S.foldl (fun w x => w ||| rowM M x) w).testBit y = (w.testBit y || S.any fun x => bitM M x y) := by
  induction S generalizing w with
  | nil => simp
  | cons a r ih => rw [List.foldl_cons, ih, Nat.testBit_or, List.any_cons, Bool.or_assoc]; rfl
theorem bit_imageW (M : List Nat) (S : List Nat) (y : Nat) : (imageW M S).testBit y = S.any fun x => bitM M x y := by
  rw [imageW, image_from]; simp
def insideW (M : List Nat) (S : List Nat) : Nat := wordL (S.filter fun x => rowM M x &&& wordL S == rowM M x)
theorem sub_word {a b : Nat} : a &&& b = a ↔ ∀ y, a.testBit y = true → b.testBit y = true := by
  constructor
  · intro h y hy
    rw [← h, Nat.testBit_and, Bool.and_eq_true] at hy; exact hy.2
  · intro h
    apply Nat.eq_of_testBit_eq
    intro y
    rw [Nat.testBit_and]
    cases c : a.testBit y with
    | false => rfl
    | true => rw [h y c]; rfl
theorem bit_insideW (M : List Nat) (S : List Nat) (x : Nat) : (insideW M S).testBit x = true ↔ x ∈ S ∧ ∀ y, bitM M x y = true → y ∈ S := by
  rw [insideW, bit_wordL, decide_eq_true_eq, List.mem_filter, beq_iff_eq, sub_word]
  simp only [bit_wordL, decide_eq_true_eq, bitM]
end Go.Proofs.YtlcgbdjmlnjhcaaGreatDoor
namespace Go.Proofs.YtlcgbdjmlnjhcaaGreatDoor
open Go.RowKit

/-- The lowest bit of a word, and the word without it. -/
theorem low_bit {w n q : Nat} (hw : w = 2 ^ n * (2 * q + 1)) (m : Nat) : (m < n → w.testBit m = false) ∧ w.testBit n = true ∧ (w &&& (w - 1)).testBit m = (w.testBit m && decide (m ≠ n)) := by
  have hp : 0 < 2 ^ n := Nat.two_pow_pos n
  have hl : ∀ m, m < n → w.testBit m = false := fun m h => by rw [hw, Nat.testBit_two_pow_mul]; simp; omega
  have hwm : ∀ m, ¬ m < n → w.testBit m = (2 * q + 1).testBit (m - n) := fun m h => by
    rw [hw, Nat.testBit_two_pow_mul]; simp; omega
  have hn : w.testBit n = true := by rw [hwm n (by omega)]; simp [Nat.testBit_zero]
  refine ⟨hl m, hn, ?_⟩
  have hw1 : w - 1 = 2 ^ n * (2 * q) + (2 ^ n - 1) := by
    rw [hw, Nat.mul_add]; omega
  rw [Nat.testBit_and, hw1, Nat.testBit_two_pow_mul_add _ (by omega)]
  by_cases h : m < n
  · rw [hl m h]; simp
  · rw [if_neg h, hwm m h]
    by_cases e : m = n
    · subst e; simp [Nat.testBit_zero]
    · obtain ⟨j, hj⟩ : ∃ j, m - n = j + 1 := ⟨m - n - 1, by omega⟩
      rw [hj, Nat.testBit_succ, Nat.testBit_succ]
      have : (2 * q + 1) / 2 = q := by omega
      have h2 : 2 * q / 2 = q := by omega
      rw [this, h2]; simp [e]
theorem inWord_zero : inWord 0 = [] := by simp [inWord]
theorem inWord_low {w : Nat} (h0 : w ≠ 0) (h : w < 2 ^ 64) : Lib.ctz 64 w < 64 ∧ inWord w = Lib.ctz 64 w :: inWord (w &&& (w - 1)) := by
  have hc : Lib.ctz 64 w = Lib.ctzFrom 64 w := by unfold Lib.ctz; rw [if_neg h0]
  obtain ⟨q, hq, hn⟩ := Lib.ctzFrom_spec 64 w (by omega) h
  rw [hc]
  generalize Lib.ctzFrom 64 w = n at *
  refine ⟨hn, sorted_ext (inWord_sorted _) (List.pairwise_cons.2 ⟨fun m hm => ?_, inWord_sorted _⟩) fun m => ?_⟩
  · rw [mem_inWord] at hm
    obtain ⟨l1, l2, l3⟩ := low_bit hq m
    rw [l3] at hm
    simp only [Bool.and_eq_true, decide_eq_true_eq] at hm
    rcases Nat.lt_or_ge n m with c | c
    · exact c
    · have : m < n := by omega
      rw [l1 this] at hm; simp at hm
  · obtain ⟨l1, l2, l3⟩ := low_bit hq m
    rw [List.mem_cons, mem_inWord, mem_inWord, l3]
    simp only [Bool.and_eq_true, decide_eq_true_eq]
    constructor
    · rintro ⟨a, b⟩
      by_cases e : m = n
      · exact .inl e
      · exact .inr ⟨a, b, e⟩
    · rintro (rfl | ⟨a, b, c⟩)
      · exact ⟨hn, l2⟩
      · exact ⟨a, b⟩
theorem clear_lt {w : Nat} (h : w < 2 ^ 64) : w &&& (w - 1) < 2 ^ 64 := Nat.lt_of_le_of_lt Nat.and_le_left h

/-- The numbers in 64 words, in increasing order; the words of a list. -/
def listM (M : List Nat) : List Nat := (List.range 64).flatMap fun i => (inWord (rowM M i)).map fun j => 64 * i + j
def mapL (l : List Nat) : List Nat := l.foldl (fun M n => orAt M (n / 64) (1 <<< (n % 64))) zeroM
theorem mem_listM {M : List Nat} {x : Nat} : x ∈ listM M ↔ x < 4096 ∧ bitM M (x / 64) (x % 64) = true := by
  unfold listM bitM
  simp only [List.mem_flatMap, List.mem_map, List.mem_range, mem_inWord]
  constructor
  · rintro ⟨i, hi, j, ⟨hj, hb⟩, rfl⟩
    have e1 : (64 * i + j) / 64 = i := by omega
    have e2 : (64 * i + j) % 64 = j := by omega
    rw [e1, e2]
    exact ⟨by omega, hb⟩
  · rintro ⟨h1, h2⟩
    exact ⟨x / 64, by omega, x % 64, ⟨by omega, h2⟩, by omega⟩
theorem listM_sorted (M : List Nat) : (listM M).Pairwise (· < ·) := by
  unfold listM
  rw [List.pairwise_flatMap]
  refine ⟨fun x _ => ?_, List.pairwise_lt_range.imp fun {a b} h => ?_⟩
  · rw [List.pairwise_map]
    exact (inWord_sorted _).imp fun {a b} h => by omega
  · intro p hp q hq
    rw [List.mem_map] at hp hq
    obtain ⟨j, hj, rfl⟩ := hp
    obtain ⟨k, hk, rfl⟩ := hq
    rw [mem_inWord] at hj hk
    omega
theorem map_from (l : List Nat) : ∀ M : List Nat, M.length = 64 → (∀ x ∈ l, x < 4096) → (l.foldl (fun M n => orAt M (n / 64) (1 <<< (n % 64))) M).length = 64 ∧
    ∀ i j, j < 64 → bitM (l.foldl (fun M n => orAt M (n / 64) (1 <<< (n % 64))) M) i j = (bitM M i j || decide (64 * i + j ∈ l)) := by
  induction l with
  | nil => intro M h _; exact ⟨h, by simp⟩
  | cons a r ih =>
    intro M h hb
    have ha := hb a (by simp)
    obtain ⟨h1, h2⟩ := ih (orAt M (a / 64) (1 <<< (a % 64))) (by rw [len_orAt, h]) fun q hq => hb q (by simp [hq])
    refine ⟨h1, fun i j hj => ?_⟩
    rw [List.foldl_cons, h2 i j hj, bit_orAt (by omega), bit_one]
    by_cases e : 64 * i + j = a
    · have e1 : i = a / 64 := by omega
      have e2 : a % 64 = j := by omega
      rw [decide_eq_true e1, decide_eq_true e2]; simp [e]
    · have : ¬ (i = a / 64 ∧ a % 64 = j) := by omega
      rw [not_and] at this
      by_cases e1 : i = a / 64
      · simp [e, this e1]
      · simp [e, e1]
theorem len_mapL {l : List Nat} (h : ∀ x ∈ l, x < 4096) : (mapL l).length = 64 := (map_from l zeroM len_zeroM h).1
theorem bit_mapL {l : List Nat} (h : ∀ x ∈ l, x < 4096) (i j : Nat) (hj : j < 64) : bitM (mapL l) i j = decide (64 * i + j ∈ l) := by
  rw [mapL, (map_from l zeroM len_zeroM h).2 i j hj, bit_zeroM, Bool.false_or]
theorem bit_mapL_at {l : List Nat} (h : ∀ x ∈ l, x < 4096) (x : Nat) : bitM (mapL l) (x / 64) (x % 64) = decide (x ∈ l) := by
  rw [bit_mapL h _ _ (by omega), show 64 * (x / 64) + x % 64 = x by omega]
theorem list_map {l : List Nat} (hs : l.Pairwise (· < ·)) (hb : ∀ x ∈ l, x < 4096) : listM (mapL l) = l :=
  sorted_ext (listM_sorted _) hs fun x => by
    rw [mem_listM, bit_mapL_at hb, decide_eq_true_eq]
    exact ⟨fun h => h.2, fun h => ⟨hb x h, h⟩⟩
/-- Two maps word by word. -/
def zipM (f : Nat → Nat → Nat) (A B : List Nat) : List Nat := (List.range 64).map fun i => f (rowM A i) (rowM B i)
theorem row_zipM (f : Nat → Nat → Nat) (A B : List Nat) {i : Nat} (h : i < 64) : rowM (zipM f A B) i = f (rowM A i) (rowM B i) := row_map _ _ h
theorem list_zip {f : Nat → Nat → Nat} {p : Bool → Bool → Bool} (hf : ∀ x y j, (f x y).testBit j = p (x.testBit j) (y.testBit j)) {a b : List Nat} (ha : ∀ x ∈ a, x < 4096) (hb : ∀ x ∈ b, x < 4096) :
    listM (zipM f (mapL a) (mapL b)) = (List.range 4096).filter fun x => p (decide (x ∈ a)) (decide (x ∈ b)) :=
  sorted_ext (listM_sorted _) (List.Pairwise.filter _ List.pairwise_lt_range) fun x => by
    rw [mem_listM, List.mem_filter, List.mem_range]
    refine and_congr_right fun hx => ?_
    have := bit_mapL_at ha x
    have h2 := bit_mapL_at hb x
    unfold bitM at *
    rw [row_zipM _ _ _ (by omega), hf, this, h2]
/-- Words stay words. -/
theorem row_lt_orAt {M : List Nat} {x w : Nat} (hw : w < 2 ^ 64) (h : ∀ i, rowM M i < 2 ^ 64) (i : Nat) : rowM (orAt M x w) i < 2 ^ 64 := by
  rcases Nat.lt_or_ge x M.length with hx | hx
  · rw [row_orAt hx]
    split
    · exact Nat.or_lt_two_pow (h x) hw
    · exact h i
  · have : orAt M x w = M := by unfold orAt; exact List.set_eq_of_length_le hx
    rw [this]; exact h i
theorem row_zeroM (i : Nat) : rowM zeroM i = 0 := by
  unfold rowM zeroM
  rw [List.getD, List.getElem?_replicate]
  split <;> rfl
theorem shl_lt {n : Nat} (h : n < 64) : 1 <<< n < 2 ^ 64 := by
  rw [Nat.one_shiftLeft]; exact Nat.pow_lt_pow_right (by omega) h
end Go.Proofs.YtlcgbdjmlnjhcaaGreatDoor
namespace Go.Proofs.YtlcgbdjmlnjhcaaGreatDoor
open Go.RowKit

/-- The sum of the first elements. -/
def sumI (l : List Int) : Int := l.foldl (· + ·) 0
theorem sum_take {l : List Int} {k : Nat} (h : k < l.length) : sumI (l.take (k + 1)) = sumI (l.take k) + l[k] := by
  unfold sumI
  rw [List.take_succ_eq_append_getElem h, List.foldl_append]; rfl
def Widths (l : List Int) : Prop := l.length ≤ 1000 ∧ ∀ x ∈ l, 1 ≤ x ∧ x ≤ 8
theorem sum_bound {l : List Int} (h : ∀ x ∈ l, 1 ≤ x ∧ x ≤ 8) : ∀ k, k ≤ l.length → 0 ≤ sumI (l.take k) ∧ sumI (l.take k) ≤ 8 * k := by
  intro k
  induction k with
  | zero => intro _; simp [sumI]
  | succ k ih =>
    intro hk
    have h1 := ih (by omega)
    have h2 := h l[k] (List.getElem_mem (by omega))
    rw [sum_take (by omega)]
    omega

set_option maxHeartbeats 1000000 in
theorem sum_any (l : List Int) (v : Value) (w : World) (hl : Ints w v l) (hw : Widths l) : Calls Tryz.prog 83 #[v] w fun r w' => r = .returned (.int .i64 (sumI l)) ∧ w' = w := by
  obtain ⟨a, cap, rfl⟩ := hl.shape
  have hlen := hw.1
  have HL := Lib.hid hl; have HB := Lib.hid (sum_bound hw.2); clear hl hw
  go_enter Tryz.func83, Tryz.ntmps83
  go_wp2_with fail
  go_loop [3, 8] (fun s i => ∃ k : Nat, k ≤ l.length ∧ i = .int .i64 k ∧ s = .int .i64 (sumI (l.take k))) (fun _ i => l.length - (intOf i).toNat)
  case atStart => exact ⟨0, Nat.zero_le _, rfl, rfl⟩
  case round =>
    obtain ⟨k, hk, rfl, rfl⟩ := hrel
    by_cases hlt : k < l.length
    · rcases HL.out with ⟨_, e⟩ | ⟨b, o, cap', e, _, hc⟩
      · rw [e] at hlt; simp at hlt
      cases e
      have g : w.cell? ⟨b, o + k, none⟩ = some (.int .i64 l[k]) := by have := hc k hlt; rw [Nat.mul_one] at this; exact this
      clear hc
      have HS := Lib.hid (sum_take hlt)
      have hb := HB.out (k + 1) (by omega)
      rw [HS.out] at hb
      generalize sumI (l.take k) = s at *
      go_wp2_with fail
      exact ⟨⟨k + 1, by omega, by go_num, by rw [HS.out]⟩, by simp [intOf]; omega⟩
    · have HT : Hid (l.take k = l) := List.take_of_length_le (by omega)
      rw [HT.out]
      go_wp2_with fail
      go_ret
      exact ⟨rfl, rfl⟩

/-- Strictly increasing. -/
def incB (l : List Int) : Bool := (List.range (l.length - 1)).all fun i => decide (l.getD i 0 < l.getD (i + 1) 0)
theorem inc_iff {l : List Int} : incB l = true ↔ ∀ i, i + 1 < l.length → l.getD i 0 < l.getD (i + 1) 0 := by
  simp only [incB, List.all_eq_true, List.mem_range, decide_eq_true_eq]
  exact ⟨fun h i hi => h i (by omega), fun h i hi => h i (by omega)⟩
set_option maxHeartbeats 1000000 in
theorem increasing_any (l : List Int) (v : Value) (w : World) (hl : Ints w v l) : Calls Tryz.prog 82 #[v] w fun r w' => r = .returned (.bool (incB l)) ∧ Ext w w' := by
  obtain ⟨a, cap, rfl⟩ := hl.shape
  have hlen := SliceAt.len_le hl
  have HL := Lib.hid hl; clear hl
  go_enter Tryz.func82, Tryz.ntmps82
  go_wp2_with fail
  go_loopw [3] (fun i wr => ∃ k : Nat, k ≤ l.length ∧ i = .int .i64 ((k + 1 : Nat) : Int) ∧ Ext w wr ∧ ∀ i, i < k → i + 1 < l.length → l.getD i 0 < l.getD (i + 1) 0) (fun i _ => l.length - (intOf i).toNat)
  case atStart => exact ⟨0, Nat.zero_le _, rfl, Ext.refl _, fun i h => absurd h (by omega)⟩
  case round =>
    obtain ⟨k, hk, rfl, hX, hR⟩ := hrel
    have HX := Lib.hid hX; have HR := Lib.hid hR; clear hX hR
    by_cases hlt : k + 1 < l.length
    · rcases HL.out with ⟨_, e⟩ | ⟨b, o, cap', e, _, hc⟩
      · rw [e] at hlt; simp at hlt
      cases e
      have g0 : wr.cell? ⟨b, o + k, none⟩ = some (.int .i64 (l.getD k 0)) := by have := HX.out.cell (hc k (by omega)); rw [Nat.mul_one] at this; rw [this]; simp [List.getD, show k < l.length by omega]
      have g1 : wr.cell? ⟨b, o + (k + 1), none⟩ = some (.int .i64 (l.getD (k + 1) 0)) := by have := HX.out.cell (hc (k + 1) hlt); rw [Nat.mul_one] at this; rw [this]; simp [List.getD, hlt]
      clear hc
      have hsub : IntKind.i64.wrap (((k + 1 : Nat) : Int) - 1) = (k : Int) := by rw [IntKind.wrap_i64]; omega
      have i0 : (0 : Int) ≤ ((k + 1 : Nat) : Int) := by omega
      have i1 : ((k + 1 : Nat) : Int) < (l.length : Int) := by omega
      have i2 : (0 : Int) ≤ (k : Int) := by omega
      have i3 : (k : Int) < (l.length : Int) := by omega
      generalize ex : l.getD k 0 = x at *
      generalize ey : l.getD (k + 1) 0 = y at *
      have EX := Lib.hid ex; have EY := Lib.hid ey; clear ex ey
      cases hq : decide (y ≤ x) with
      | true =>
        have HF : Hid (incB l = false) := by
          unfold Hid
          rw [Bool.eq_false_iff]
          intro h
          have := inc_iff.1 h k hlt
          rw [EX.out, EY.out] at this
          have := of_decide_eq_true hq
          omega
        go_upto_region 4 with fail
        go_quiet (fail)
        go_wp2_with fail
        go_ret
        exact ⟨by rw [HF.out]; rfl, HX.out.drewN _⟩
      | false =>
        have HF : Hid (x < y) := by have := of_decide_eq_false hq; unfold Hid; omega
        go_upto_region 4 with fail
        go_quiet (fail)
        go_wp2_with fail
        refine ⟨⟨k + 1, by omega, by go_num, HX.out.drewN _, fun i hi hi2 => ?_⟩, by simp [intOf]; omega⟩
        by_cases c : i = k
        · subst c; rw [EX.out, EY.out]; exact HF.out
        · exact HR.out i (by omega) hi2
    · have HF : Hid (incB l = true) := inc_iff.2 fun i hi => HR.out i (by omega) hi
      go_wp2_with fail
      go_ret
      exact ⟨by rw [HF.out]; rfl, HX.out⟩

/-- Cells and widths are a shape. -/
def shapeB (cs ws : List Int) : Bool := decide (cs.length = ws.length) && incB cs && (List.range cs.length).all fun i => decide (0 ≤ cs.getD i 0) && decide (cs.getD i 0 < 32) && decide (1 ≤ ws.getD i 0) && decide (ws.getD i 0 ≤ 8)
theorem shape_iff {cs ws : List Int} : shapeB cs ws = true ↔ cs.length = ws.length ∧ incB cs = true ∧ ∀ i, i < cs.length → 0 ≤ cs.getD i 0 ∧ cs.getD i 0 < 32 ∧ 1 ≤ ws.getD i 0 ∧ ws.getD i 0 ≤ 8 := by
  simp only [shapeB, Bool.and_eq_true, decide_eq_true_eq, List.all_eq_true, List.mem_range, and_assoc]
set_option maxHeartbeats 2000000 in
theorem shape_any (cs ws : List Int) (vc vw : Value) (w : World) (hc : Ints w vc cs) (hw : Ints w vw ws) : Calls Tryz.prog 106 #[vc, vw] w fun r w' => r = .returned (.bool (shapeB cs ws)) ∧ Ext w w' := by
  obtain ⟨ca, ccap, rfl⟩ := hc.shape
  obtain ⟨wa, wcap, rfl⟩ := hw.shape
  have hlen := SliceAt.len_le hc
  have hlen2 := SliceAt.len_le hw
  have HC := Lib.hid hc; have HW := Lib.hid hw; clear hc hw
  by_cases he : cs.length = ws.length
  · have heb : (((cs.length : Nat) : Int) != ((ws.length : Nat) : Int)) = false := by rw [he]; simp
    have HEQ := Lib.hid he; clear he
    cases hi : incB cs with
    | false =>
      have HF : Hid (shapeB cs ws = false) := by unfold Hid shapeB; rw [hi]; simp
      have HI := Lib.hid hi; clear hi
      go_enter Tryz.func106, Tryz.ntmps106
      go_wp2_with fail
      refine (increasing_any cs _ _ HC.out).mono ?_
      rintro r w1 ⟨rfl, x1⟩
      rw [HI.out]
      have HX := Lib.hid x1; clear x1
      go_wp2_with fail
      go_ret
      exact ⟨by rw [HF.out]; rfl, HX.out⟩
    | true =>
      have HI := Lib.hid hi; clear hi
      go_enter Tryz.func106, Tryz.ntmps106
      go_wp2_with fail
      refine (increasing_any cs _ _ HC.out).mono ?_
      rintro r w1 ⟨rfl, x1⟩
      rw [HI.out]
      have HX := Lib.hid x1
      replace HC := Lib.hid (HC.out.ext x1); replace HW := Lib.hid (HW.out.ext x1)
      clear x1
      go_wp2_with fail
      go_loop [19] (fun i => ∃ k : Nat, k ≤ cs.length ∧ i = .int .i64 k ∧ ∀ j, j < k → 0 ≤ cs.getD j 0 ∧ cs.getD j 0 < 32 ∧ 1 ≤ ws.getD j 0 ∧ ws.getD j 0 ≤ 8) (fun i => cs.length - (intOf i).toNat)
      case atStart => exact ⟨0, Nat.zero_le _, rfl, fun j h => absurd h (by omega)⟩
      case round =>
        obtain ⟨k, hk, rfl, hR⟩ := hrel
        have HR := Lib.hid hR; clear hR
        by_cases hlt : k < cs.length
        · rcases HC.out with ⟨_, e⟩ | ⟨b, o, cap', e, _, hc⟩
          · rw [e] at hlt; simp at hlt
          cases e
          rcases HW.out with ⟨_, e⟩ | ⟨b2, o2, cap2, e, _, hc2⟩
          · have := HEQ.out; rw [e] at this; simp at this; rw [this] at hlt; simp at hlt
          cases e
          have hlt2 : k < ws.length := by have := HEQ.out; omega
          have g0 : w1.cell? ⟨b, o + k, none⟩ = some (.int .i64 (cs.getD k 0)) := by have := hc k hlt; rw [Nat.mul_one] at this; rw [this]; simp [List.getD, hlt]
          have g1 : w1.cell? ⟨b2, o2 + k, none⟩ = some (.int .i64 (ws.getD k 0)) := by have := hc2 k hlt2; rw [Nat.mul_one] at this; rw [this]; simp [List.getD, hlt2]
          clear hc hc2
          have HS : Hid (shapeB cs ws = true → 0 ≤ cs.getD k 0 ∧ cs.getD k 0 < 32 ∧ 1 ≤ ws.getD k 0 ∧ ws.getD k 0 ≤ 8) := fun h => (shape_iff.1 h).2.2 k hlt
          generalize ex : cs.getD k 0 = x at *
          generalize ey : ws.getD k 0 = y at *
          have EX := Lib.hid ex; have EY := Lib.hid ey; clear ex ey
          have hbad : ∀ p : ¬ (0 ≤ x ∧ x < 32 ∧ 1 ≤ y ∧ y ≤ 8), shapeB cs ws = false := fun p => by
            rw [Bool.eq_false_iff]; exact fun h => p (HS.out h)
          have HBAD := Lib.hid hbad; clear hbad HS
          by_cases h0 : x < 0
          · have HF := Lib.hid (HBAD.out (by omega))
            go_wp2_with fail
            go_ret
            exact ⟨by rw [HF.out]; rfl, HX.out⟩
          by_cases h1 : 32 ≤ x
          · have HF := Lib.hid (HBAD.out (by omega))
            go_wp2_with fail
            go_ret
            exact ⟨by rw [HF.out]; rfl, HX.out⟩
          by_cases h2 : y < 1
          · have HF := Lib.hid (HBAD.out (by omega))
            go_wp2_with fail
            go_ret
            exact ⟨by rw [HF.out]; rfl, HX.out⟩
          by_cases h3 : 8 < y
          · have HF := Lib.hid (HBAD.out (by omega))
            go_wp2_with fail
            go_ret
            exact ⟨by rw [HF.out]; rfl, HX.out⟩
          go_wp2_with fail
          refine ⟨⟨k + 1, by omega, by go_num, fun j hj => ?_⟩, by simp [intOf]; omega⟩
          by_cases c : j = k
          · subst c; rw [EX.out, EY.out]; omega
          · exact HR.out j (by omega)
        · have HF : Hid (shapeB cs ws = true) := shape_iff.2 ⟨HEQ.out, HI.out, fun i hi => HR.out i (by omega)⟩
          go_wp2_with fail
          go_ret
          exact ⟨by rw [HF.out]; rfl, HX.out⟩
  · have heb : (((cs.length : Nat) : Int) != ((ws.length : Nat) : Int)) = true := by rw [bne_iff_ne]; omega
    have HF : Hid (shapeB cs ws = false) := by unfold Hid shapeB; rw [decide_eq_false he]; simp
    go_enter Tryz.func106, Tryz.ntmps106
    go_wp2_with fail
    go_ret
    exact ⟨by rw [HF.out]; rfl, Ext.refl w⟩
theorem shape_widths {cs ws : List Int} (h : shapeB cs ws = true) : Widths ws := by
  obtain ⟨h1, h2, h3⟩ := shape_iff.1 h
  have key : ∀ i, i < cs.length → (i : Int) ≤ cs.getD i 0 := by
    intro i
    induction i with
    | zero => intro hi; exact (h3 0 hi).1
    | succ i ih =>
      intro hi
      have := inc_iff.1 h2 i hi
      have := ih (by omega)
      omega
  refine ⟨?_, fun x hx => ?_⟩
  · rcases Nat.eq_zero_or_pos cs.length with h | h
    · omega
    · have := key (cs.length - 1) (by omega)
      have := (h3 (cs.length - 1) (by omega)).2.1
      omega
  · obtain ⟨i, hi, rfl⟩ := List.getElem_of_mem hx
    have := (h3 i (by omega)).2.2
    simpa [List.getD, hi] using this
end Go.Proofs.YtlcgbdjmlnjhcaaGreatDoor
