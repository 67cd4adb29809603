/-
  How the marks of the needed steps come about, and the new numbers: plain laws.
-/
import Derived.Test.YteclcnbaaiidbaaDoorPl1
namespace Go.Proofs.YteclcnbaaiidbaaDoor

def hintMark (n : Nat) (f : Nat → Bool) (hs : List Int) (j : Nat) : Bool := f j || decide (((n + j : Nat) : Int) ∈ hs)
def lastMark (len : Nat) (f : Nat → Bool) (k j : Nat) : Bool := f j || (decide (j = k) && decide (k + 1 = len))
def markStep (n : Nat) (l : List St) (f : Nat → Bool) (k : Nat) : Nat → Bool :=
  if lastMark l.length f k k then hintMark n (lastMark l.length f k) (l.getD k st0).hints else lastMark l.length f k
def downTo (len i : Nat) : List Nat := (List.range i).map fun j => len - 1 - j
theorem downTo_succ (len i : Nat) : downTo len (i + 1) = downTo len i ++ [len - 1 - i] := by unfold downTo; rw [List.range_succ, List.map_append]; rfl
theorem downTo_len (len i : Nat) : (downTo len i).length = i := by simp [downTo]
def markAll (n : Nat) (l : List St) (ks : List Nat) : Nat → Bool := ks.foldl (markStep n l) fun _ => false
theorem markAll_snoc (n : Nat) (l : List St) (ks : List Nat) (k : Nat) : markAll n l (ks ++ [k]) = markStep n l (markAll n l ks) k := by unfold markAll; rw [List.foldl_append]; rfl
theorem hintMark_nil (n : Nat) (f : Nat → Bool) : hintMark n f [] = f := by funext j; simp [hintMark]
theorem hintMark_snoc (n : Nat) (f : Nat → Bool) (hs : List Int) (h : Int) (j : Nat) : hintMark n f (hs ++ [h]) j = (hintMark n f hs j || decide (h = ((n + j : Nat) : Int))) := by
  unfold hintMark
  rw [Bool.or_assoc]; congr 1
  rw [Bool.eq_iff_iff]; simp only [decide_eq_true_eq, Bool.or_eq_true, List.mem_append, List.mem_singleton]
  exact or_congr_right eq_comm

def MarkI (n : Nat) (l : List St) (K : Nat) (f : Nat → Bool) : Prop := ∀ j, j < l.length → (f j = true ↔ (j + 1 = l.length ∧ K ≤ j) ∨ ∃ i, K ≤ i ∧ Need n l i ∧ ((n + j : Nat) : Int) ∈ (l.getD i st0).hints)
theorem MarkI.step {n : Nat} {l : List St} {k : Nat} {f : Nat → Bool} (h : MarkI n l (k + 1) f) (hk : k < l.length) : MarkI n l k (markStep n l f k) := by
  have h1 : ∀ j, j < l.length → (lastMark l.length f k j = true ↔ (j + 1 = l.length ∧ k ≤ j) ∨ ∃ i, k + 1 ≤ i ∧ Need n l i ∧ ((n + j : Nat) : Int) ∈ (l.getD i st0).hints) := by
    intro j hj
    unfold lastMark
    rw [Bool.or_eq_true, Bool.and_eq_true, decide_eq_true_eq, decide_eq_true_eq, h j hj]
    constructor
    · rintro ((⟨a1, a2⟩ | b) | ⟨c, d⟩)
      · exact .inl ⟨a1, by omega⟩
      · exact .inr b
      · exact .inl ⟨by omega, by omega⟩
    · rintro (⟨a, b⟩ | c)
      · by_cases e : k + 1 ≤ j
        · exact .inl (.inl ⟨a, e⟩)
        · exact .inr ⟨by omega, by omega⟩
      · exact .inl (.inr c)
  have h2 : lastMark l.length f k k = true ↔ Need n l k := by
    rw [h1 k hk]
    constructor
    · rintro (⟨a, _⟩ | ⟨i, a, b, c⟩)
      · exact .last a
      · exact .hint b (by omega) c
    · intro hn
      cases hn with
      | last e => exact .inl ⟨e, Nat.le_refl _⟩
      | hint a b c => exact .inr ⟨_, by omega, a, c⟩
  intro j hj
  unfold markStep
  split
  · next c =>
    have hn := h2.1 c
    unfold hintMark
    rw [Bool.or_eq_true, decide_eq_true_eq, h1 j hj]
    constructor
    · rintro ((a | ⟨i, a, b, c⟩) | c)
      · exact .inl a
      · exact .inr ⟨i, by omega, b, c⟩
      · exact .inr ⟨k, Nat.le_refl _, hn, c⟩
    · rintro (a | ⟨i, a, b, d⟩)
      · exact .inl (.inl a)
      · by_cases e : i = k
        · subst e; exact .inr d
        · exact .inl (.inr ⟨i, by omega, b, d⟩)
  · next c =>
    rw [h1 j hj]
    constructor
    · rintro (a | ⟨i, a, b, c⟩)
      · exact .inl a
      · exact .inr ⟨i, by omega, b, c⟩
    · rintro (a | ⟨i, a, b, d⟩)
      · exact .inl a
      · by_cases e : i = k
        · subst e; exact absurd (h2.2 b) c
        · exact .inr ⟨i, by omega, b, d⟩
theorem markAll_down {n : Nat} {l : List St} : ∀ i, i ≤ l.length → MarkI n l (l.length - i) (markAll n l (downTo l.length i)) := by
  intro i
  induction i with
  | zero =>
    intro _ j hj
    constructor
    · intro h; cases h
    · rintro (⟨a, b⟩ | ⟨i, a, b, c⟩)
      · omega
      · have := b.lt; omega
  | succ i ih =>
    intro hi
    rw [downTo_succ, markAll_snoc]
    have h1 := ih (by omega)
    have e : l.length - i = (l.length - 1 - i) + 1 := by omega
    rw [e] at h1
    have := h1.step (by omega)
    rwa [show l.length - (i + 1) = l.length - 1 - i by omega]
theorem markAll_need {n : Nat} {l : List St} (hb : ∀ k, k < l.length → ∀ g ∈ (l.getD k st0).hints, g < (n : Int) + k) {j : Nat} (hj : j < l.length) : markAll n l (downTo l.length l.length) j = needB n l j := by
  have h := markAll_down (n := n) l.length (Nat.le_refl _) j hj
  rw [Bool.eq_iff_iff, h, needB_iff]
  constructor
  · rintro (⟨a, _⟩ | ⟨i, a, b, c⟩)
    · exact .last a
    · have := hb i b.lt _ c
      exact .hint b (by omega) c
  · intro hn
    cases hn with
    | last e => exact .inl ⟨e, by omega⟩
    | hint a b c => exact .inr ⟨_, by omega, a, c⟩
/-- The new numbers when k steps are done. -/
noncomputable def numsTo (n : Nat) (l : List St) (k j : Nat) : Int := if j < k ∧ needB n l j = true then ((n + rankN n l j : Nat) : Int) else 0
theorem numsTo_miss {n : Nat} {l : List St} {k : Nat} (h : needB n l k = false) (j : Nat) : numsTo n l (k + 1) j = numsTo n l k j := by
  unfold numsTo
  by_cases e : j = k
  · subst e; simp [h]
  · have : (j < k + 1) ↔ j < k := by omega
    simp [this]
theorem numsTo_hit {n : Nat} {l : List St} {k : Nat} (h : needB n l k = true) (j : Nat) : numsTo n l (k + 1) j = if j = k then ((n + rankN n l k : Nat) : Int) else numsTo n l k j := by
  unfold numsTo
  by_cases e : j = k
  · subst e; simp [h]
  · have : (j < k + 1) ↔ j < k := by omega
    simp [this, e]
/-- The function renumber: what it gives for a hint of a needed step. -/
noncomputable def renT (n : Nat) (l : List St) (k : Nat) (h : Int) : Int := if h < (n : Int) then h else numsTo n l k (h - n).toNat
theorem renT_eq {n : Nat} {l : List St} {k : Nat} (hk : Need n l k) (hk2 : k < l.length) (hb : ∀ k, k < l.length → ∀ g ∈ (l.getD k st0).hints, g < (n : Int) + k) (k' : Nat) (hk' : k ≤ k') {h : Int} (hh : h ∈ (l.getD k st0).hints) : renT n l k' h = renN n l h := by
  unfold renT renN
  split
  · rfl
  · have h1 := hb k hk2 h hh
    have e : h = ((n + (h - n).toNat : Nat) : Int) := by omega
    have hn : Need n l (h - n).toNat := .hint hk (by omega) (by rw [← e]; exact hh)
    unfold numsTo
    rw [if_pos ⟨by omega, needB_iff.2 hn⟩]
end Go.Proofs.YteclcnbaaiidbaaDoor
