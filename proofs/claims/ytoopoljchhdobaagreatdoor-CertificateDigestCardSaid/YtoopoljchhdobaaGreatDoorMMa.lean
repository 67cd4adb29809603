/-
  Package proof in plain words: steps, what the last step needs, the trimmed refutation. No program in sight.
  What Text and Parse compute; the plain laws of ProofRoundTrip: reading the text back.
  What a certificate's text is, plain: usability, the text, what reading gives; the laws of reading and of prefixes.
  Digests, plain: the hash of a text as 16 hexadecimal digits.
-/
import Derived.WalkKit
import Derived.Lib.ItoaMem
import Derived.Lib.ItoaLen
import Derived.Lib.AtoiAllCases
import Derived.Lib.IndexMore
import Derived.Lib.CutLaws
import Derived.Lib.Bytealg
namespace Go.Proofs.YtoopoljchhdobaaGreatDoor

/-- A step: literals and hints. -/
structure St where
  lits : List Int
  hints : List Int
def st0 : St := ⟨[], []⟩
def hintsOk (bound : Int) (l : List Int) : Bool := l.all fun h => decide (0 ≤ h) && decide (h < bound)
def InI (x : Int) : Prop := -9223372036854775808 ≤ x ∧ x ≤ 9223372036854775807
def absI (x : Int) : Int := if x < 0 then -x else x
def litsOk (vars : Int) (l : List Int) : Bool := (l.all fun x => decide (1 ≤ absI x) && decide (absI x ≤ vars)) && decide (l.map absI).Nodup
def validP (vars : Int) (n : Nat) (l : List St) : Bool := decide (l.length ≤ 20000) && (List.range l.length).all fun k => litsOk vars (l.getD k st0).lits && hintsOk ((n : Int) + k) (l.getD k st0).hints
/-- What the last step needs: itself, and what a needed one has as a hint. -/
inductive Need (n : Nat) (l : List St) : Nat → Prop
  | last {k : Nat} : k + 1 = l.length → Need n l k
  | hint {j k : Nat} : Need n l j → k < j → ((n + k : Nat) : Int) ∈ (l.getD j st0).hints → Need n l k
theorem Need.lt {n : Nat} {l : List St} {k : Nat} (h : Need n l k) : k < l.length := by
  induction h with
  | last e => omega
  | hint _ h2 _ ih => omega
open Classical in
noncomputable def needB (n : Nat) (l : List St) (k : Nat) : Bool := decide (Need n l k)
theorem needB_iff {n : Nat} {l : List St} {k : Nat} : needB n l k = true ↔ Need n l k := by simp [needB]
/-- How many needed steps come ahead. -/
noncomputable def rankN (n : Nat) (l : List St) (k : Nat) : Nat := (List.range k).countP (needB n l)
theorem rank_succ (n : Nat) (l : List St) (k : Nat) : rankN n l (k + 1) = rankN n l k + if needB n l k then 1 else 0 := by
  unfold rankN
  rw [List.range_succ, List.countP_append]
  by_cases h : needB n l k = true <;> simp [h]
theorem rank_le {n : Nat} {l : List St} {i k : Nat} (h : i ≤ k) : rankN n l i ≤ rankN n l k := by
  induction k with
  | zero => have : i = 0 := by omega
            subst this; exact Nat.le_refl _
  | succ k ih =>
    rcases Nat.eq_or_lt_of_le h with e | e
    · subst e; exact Nat.le_refl _
    · have := ih (by omega)
      rw [rank_succ]; omega
theorem rank_lt {n : Nat} {l : List St} {i k : Nat} (h : i < k) (hn : Need n l i) : rankN n l i < rankN n l k := by
  have h1 := rank_le (n := n) (l := l) (show i + 1 ≤ k by omega)
  rw [rank_succ, if_pos (needB_iff.2 hn)] at h1
  omega
/-- The new number of a hint. -/
noncomputable def renN (n : Nat) (l : List St) (h : Int) : Int := if h < n then h else ((n + rankN n l (h - n).toNat : Nat) : Int)
noncomputable def stepN (n : Nat) (l : List St) (k : Nat) : St := ⟨(l.getD k st0).lits, (l.getD k st0).hints.map (renN n l)⟩
noncomputable def trimTo (n : Nat) (l : List St) (k : Nat) : List St := ((List.range k).filter (needB n l)).map (stepN n l)
noncomputable def trimL (n : Nat) (l : List St) : List St := trimTo n l l.length
theorem trimTo_succ (n : Nat) (l : List St) (k : Nat) : trimTo n l (k + 1) = if needB n l k then trimTo n l k ++ [stepN n l k] else trimTo n l k := by
  unfold trimTo
  rw [List.range_succ, List.filter_append, List.map_append]
  by_cases h : needB n l k = true <;> simp [h]
theorem trimTo_len (n : Nat) (l : List St) (k : Nat) : (trimTo n l k).length = rankN n l k := by
  unfold trimTo rankN
  rw [List.length_map, List.countP_eq_length_filter]
theorem trimTo_at {n : Nat} {l : List St} : ∀ {k i : Nat}, i < k → Need n l i → (trimTo n l k)[rankN n l i]? = some (stepN n l i) := by
  intro k
  induction k with
  | zero => intro i h; omega
  | succ k ih =>
    intro i hi hn
    rw [trimTo_succ]
    by_cases e : i = k
    · subst e
      rw [if_pos (needB_iff.2 hn), List.getElem?_append_right (by rw [trimTo_len]; exact Nat.le_refl _), trimTo_len]; simp
    · have h1 := ih (show i < k by omega) hn
      split
      · rw [List.getElem?_append_left (by rw [trimTo_len]; exact rank_lt (by omega) hn)]; exact h1
      · exact h1
theorem trim_at {n : Nat} {l : List St} {i : Nat} (hn : Need n l i) : (trimL n l).getD (rankN n l i) st0 = stepN n l i := by
  have := trimTo_at hn.lt hn
  unfold trimL
  simp [List.getD, this]
/-- Each place of the trimmed refutation is that of a needed step. -/
theorem trim_of {n : Nat} {l : List St} : ∀ {k p : Nat}, p < rankN n l k → ∃ i, i < k ∧ Need n l i ∧ rankN n l i = p := by
  intro k
  induction k with
  | zero => intro p h; simp [rankN] at h
  | succ k ih =>
    intro p h
    rw [rank_succ] at h
    by_cases hn : needB n l k = true
    · rw [if_pos hn] at h
      by_cases e : p = rankN n l k
      · exact ⟨k, Nat.lt_succ_self _, needB_iff.1 hn, e.symm⟩
      · obtain ⟨i, h1, h2, h3⟩ := ih (show p < rankN n l k by omega)
        exact ⟨i, by omega, h2, h3⟩
    · rw [if_neg hn] at h
      obtain ⟨i, h1, h2, h3⟩ := ih (show p < rankN n l k by omega)
      exact ⟨i, by omega, h2, h3⟩
theorem trim_len (n : Nat) (l : List St) : (trimL n l).length = rankN n l l.length := trimTo_len _ _ _
theorem rank_bd (n : Nat) (l : List St) (k : Nat) : rankN n l k ≤ k := by
  have := List.countP_le_length (p := needB n l) (l := List.range k)
  simpa [rankN] using this
theorem need_last {n : Nat} {l : List St} (h : l ≠ []) : Need n l (l.length - 1) := by
  have : 0 < l.length := List.length_pos_iff.2 h
  exact .last (by omega)
theorem rank_last {n : Nat} {l : List St} (h : l ≠ []) : rankN n l (l.length - 1) + 1 = rankN n l l.length := by
  have h0 : 0 < l.length := List.length_pos_iff.2 h
  have := rank_succ n l (l.length - 1)
  rw [if_pos (needB_iff.2 (need_last h)), show l.length - 1 + 1 = l.length by omega] at this
  exact this.symm
/-- The renumbered hints of a needed step. -/
structure ValidP (vars : Int) (n : Nat) (l : List St) : Prop where
  len : l.length ≤ 20000
  lits : ∀ k, k < l.length → litsOk vars (l.getD k st0).lits = true
  hints : ∀ k, k < l.length → ∀ h ∈ (l.getD k st0).hints, 0 ≤ h ∧ h < (n : Int) + k
theorem valid_iff {vars : Int} {n : Nat} {l : List St} : validP vars n l = true ↔ ValidP vars n l := by
  unfold validP hintsOk
  rw [Bool.and_eq_true, decide_eq_true_eq, List.all_eq_true]
  constructor
  · rintro ⟨h1, h2⟩
    refine ⟨h1, fun k hk => ?_, fun k hk h hh => ?_⟩
    · have := h2 k (List.mem_range.2 hk)
      rw [Bool.and_eq_true] at this; exact this.1
    · have := h2 k (List.mem_range.2 hk)
      rw [Bool.and_eq_true, List.all_eq_true] at this
      simpa using this.2 h hh
  · rintro ⟨h1, h2, h3⟩
    refine ⟨h1, fun k hk => ?_⟩
    have hk' := List.mem_range.1 hk
    rw [Bool.and_eq_true, List.all_eq_true]
    exact ⟨h2 k hk', fun h hh => by simpa using h3 k hk' h hh⟩
section
variable {vars : Int} {n : Nat} {l : List St} (hv : ValidP vars n l)
include hv
theorem hint_need {k : Nat} (hk : Need n l k) {h : Int} (hh : h ∈ (l.getD k st0).hints) (hn : (n : Int) ≤ h) : ∃ j : Nat, h = ((n + j : Nat) : Int) ∧ j < k ∧ Need n l j ∧ renN n l h = ((n + rankN n l j : Nat) : Int) := by
  have hb := hv.hints k hk.lt h hh
  obtain ⟨j, hj⟩ : ∃ j : Nat, h = ((n + j : Nat) : Int) := ⟨(h - n).toNat, by omega⟩
  have hjk : j < k := by omega
  refine ⟨j, hj, hjk, .hint hk hjk (hj ▸ hh), ?_⟩
  unfold renN
  rw [if_neg (by omega), hj, show (((n + j : Nat) : Int) - n).toNat = j by omega]
/-- The trimmed refutation is well-formed. -/
theorem trim_valid : ValidP vars n (trimL n l) := by
  have hat : ∀ p, p < (trimL n l).length → ∃ i, i < l.length ∧ Need n l i ∧ rankN n l i = p ∧ (trimL n l).getD p st0 = stepN n l i := fun p hp => by
    rw [trim_len] at hp
    obtain ⟨i, h1, h2, h3⟩ := trim_of hp
    exact ⟨i, h1, h2, h3, h3 ▸ trim_at h2⟩
  refine ⟨?_, fun p hp => ?_, fun p hp h hh => ?_⟩
  · rw [trim_len]; exact Nat.le_trans (rank_bd _ _ _) hv.len
  · obtain ⟨i, h1, _, _, e⟩ := hat p hp
    rw [e]; exact hv.lits i h1
  · obtain ⟨i, h1, h2, h3, e⟩ := hat p hp
    rw [e] at hh
    obtain ⟨g, hg, rfl⟩ := List.mem_map.1 hh
    have hb := hv.hints i h1 g hg
    by_cases c : g < n
    · unfold renN; rw [if_pos c]; omega
    · obtain ⟨j, _, hji, hnj, er⟩ := hint_need hv h2 hg (by omega)
      rw [er]
      have := rank_lt hji hnj
      omega
/-- A step of the trimmed one, not the last, is a hint of a later one. -/
theorem trim_used {p : Nat} (hp : p + 1 < (trimL n l).length) : ∃ q, p < q ∧ q < (trimL n l).length ∧ ((n + p : Nat) : Int) ∈ ((trimL n l).getD q st0).hints := by
  rw [trim_len] at hp
  obtain ⟨i, h1, h2, h3⟩ := trim_of (show p < rankN n l l.length by omega)
  have hne : l ≠ [] := fun e => by subst e; simp at h1
  cases h2 with
  | last e =>
    have := rank_last (n := n) hne
    rw [show l.length - 1 = i by omega] at this
    omega
  | @hint j _ hj hij hm =>
    refine ⟨rankN n l j, by rw [← h3]; exact rank_lt hij (.hint hj hij hm), by rw [trim_len]; exact rank_lt hj.lt hj, ?_⟩
    rw [trim_at hj]
    refine List.mem_map.2 ⟨_, hm, ?_⟩
    unfold renN
    rw [if_neg (by omega), show (((n + i : Nat) : Int) - n).toNat = i by omega, h3]
omit hv in
/-- The last step keeps its literals. -/
theorem trim_last (hne : l ≠ []) : 0 < (trimL n l).length ∧ ((trimL n l).getD ((trimL n l).length - 1) st0).lits = (l.getD (l.length - 1) st0).lits := by
  have h1 := rank_last (n := n) hne
  rw [trim_len]
  refine ⟨by omega, ?_⟩
  rw [show rankN n l l.length - 1 = rankN n l (l.length - 1) by omega, trim_at (need_last hne)]
  rfl
end
/-- A refutation whose steps are all needed is not changed. -/
theorem trim_same {n : Nat} {l : List St} (h : ∀ k, k < l.length → Need n l k) (hb : ∀ k, k < l.length → ∀ g ∈ (l.getD k st0).hints, g < (n : Int) + k) : trimL n l = l := by
  have hr : ∀ k, k ≤ l.length → rankN n l k = k := by
    intro k
    induction k with
    | zero => intro _; rfl
    | succ k ih => intro hk; rw [rank_succ, if_pos (needB_iff.2 (h k (by omega))), ih (by omega)]
  apply List.ext_getElem (by rw [trim_len, hr _ (Nat.le_refl _)])
  intro i h1 h2
  have h3 := trim_at (h i h2)
  rw [hr i (by omega)] at h3
  have e1 : (trimL n l).getD i st0 = (trimL n l)[i] := by simp [List.getD, h1]
  have e2 : l.getD i st0 = l[i] := by simp [List.getD, h2]
  rw [e1] at h3
  rw [h3]
  unfold stepN
  have hm : (l.getD i st0).hints.map (renN n l) = (l.getD i st0).hints := by
    refine (List.map_congr_left (g := id) fun g hg => ?_).trans (List.map_id _)
    unfold renN
    split
    · rfl
    · have := hb i h2 g hg
      rw [hr _ (by omega)]
      show _ = g
      omega
  rw [hm, e2]
theorem trim_twice {vars : Int} {n : Nat} {l : List St} (hv : ValidP vars n l) : trimL n (trimL n l) = trimL n l := by
  refine trim_same (fun k hk => ?_) fun k hk g hg => ((trim_valid hv).hints k hk g hg).2
  have key : ∀ d k, k < (trimL n l).length → (trimL n l).length - 1 - k ≤ d → Need n (trimL n l) k := by
    intro d
    induction d with
    | zero => intro k hk hd; exact .last (by omega)
    | succ d ih =>
      intro k hk hd
      by_cases e : k + 1 = (trimL n l).length
      · exact .last e
      · obtain ⟨q, h1, h2, h3⟩ := trim_used hv (show k + 1 < (trimL n l).length by omega)
        exact .hint (ih q h2 (by omega)) h1 h3
  exact key _ k hk (Nat.le_refl _)
end Go.Proofs.YtoopoljchhdobaaGreatDoor
namespace Go.Proofs.YtoopoljchhdobaaGreatDoor

/-! ### Words between separators -/
def splitB (c : UInt8) : List UInt8 → List (List UInt8)
  | [] => [[]]
  | x :: r => if x = c then [] :: splitB c r else
    match splitB c r with
    | [] => [[x]]
    | w :: ws => (x :: w) :: ws
theorem splitB_ne (c : UInt8) : ∀ l, splitB c l ≠ []
  | [] => by simp [splitB]
  | x :: r => by
    unfold splitB
    split
    · simp
    · split <;> simp
theorem splitB_word (c : UInt8) : ∀ {w : List UInt8}, (∀ x ∈ w, x ≠ c) → splitB c w = [w]
  | [], _ => rfl
  | x :: r, h => by
    unfold splitB
    rw [if_neg (h x (by simp)), splitB_word c (w := r) fun y hy => h y (by simp [hy])]
theorem splitB_cons (c : UInt8) : ∀ {w : List UInt8} (r : List UInt8), (∀ x ∈ w, x ≠ c) → splitB c (w ++ c :: r) = w :: splitB c r
  | [], r, _ => by simp [splitB]
  | x :: w, r, h => by
    rw [List.cons_append, splitB, if_neg (h x (by simp)), splitB_cons c (w := w) r fun y hy => h y (by simp [hy])]
def joinB (c : UInt8) : List (List UInt8) → List UInt8
  | [] => []
  | [w] => w
  | w :: v :: r => w ++ c :: joinB c (v :: r)
theorem join_split (c : UInt8) : ∀ l, joinB c (splitB c l) = l
  | [] => rfl
  | x :: r => by
    have ih := join_split c r
    have hne := splitB_ne c r
    unfold splitB
    split
    · next e =>
      subst e
      match hs : splitB x r, hne with
      | v :: vs, _ => rw [hs] at ih; rw [joinB, ih]; rfl
    · match hs : splitB c r, hne with
      | [v], _ => rw [hs] at ih; simp only [joinB] at ih ⊢; rw [ih]
      | v :: u :: vs, _ => rw [hs] at ih; simp only [joinB] at ih ⊢; rw [← ih]; rfl
/-- The first word, and what is behind it. -/
theorem split_cut (c : UInt8) (l : List UInt8) : (c ∉ l ∧ splitB c l = [l] ∧ Lib.cut l [c] = (l, [], false)) ∨ ∃ w r, l = w ++ c :: r ∧ splitB c l = w :: splitB c r ∧ Lib.cut l [c] = (w, r, true) := by
  have hi : ∀ l : List UInt8, (c ∉ l ∧ Lib.index l [c] = -1) ∨ ∃ w r, l = w ++ c :: r ∧ (∀ x ∈ w, x ≠ c) ∧ Lib.index l [c] = w.length := by
    intro l
    induction l with
    | nil => left; exact ⟨by simp, rfl⟩
    | cons x r ih =>
      by_cases e : x = c
      · right; subst e; exact ⟨[], r, rfl, by simp, by unfold Lib.index; simp [List.isPrefixOf]⟩
      · have hp : List.isPrefixOf [c] (x :: r) = false := by simp [List.isPrefixOf]; exact fun h => e h.symm
        rcases ih with ⟨h1, h2⟩ | ⟨w, r', h1, h2, h3⟩
        · left
          refine ⟨by simp; exact ⟨fun h => e h.symm, h1⟩, ?_⟩
          unfold Lib.index; rw [hp, h2]; rfl
        · right
          refine ⟨x :: w, r', by rw [h1]; rfl, by simpa using ⟨e, h2⟩, ?_⟩
          unfold Lib.index; rw [hp, h3]
          have : ((w.length : Int) == -1) = false := by rw [beq_eq_false_iff_ne]; omega
          simp [this]
  rcases hi l with ⟨h1, h2⟩ | ⟨w, r, h1, h2, h3⟩
  · refine .inl ⟨h1, splitB_word c fun x hx e => h1 (e ▸ hx), ?_⟩
    unfold Lib.cut; rw [h2, if_neg (by omega)]
  · refine .inr ⟨w, r, h1, by rw [h1]; exact splitB_cons c r h2, ?_⟩
    unfold Lib.cut
    rw [h3, if_pos (by omega), h1]
    simp [List.drop_append]

/-! ### The text of steps -/
def litText (l : List Int) : List UInt8 := l.flatMap fun x => Lib.itoa x ++ [32]
def hintText (l : List Int) : List UInt8 := l.flatMap fun x => 32 :: Lib.itoa x
def stepText (s : St) : List UInt8 := litText s.lits ++ 58 :: hintText s.hints
def textL (l : List St) : List UInt8 := l.flatMap fun s => stepText s ++ [10]
theorem litText_snoc (l : List Int) (x : Int) : litText (l ++ [x]) = litText l ++ Lib.itoa x ++ [32] := by simp [litText]
theorem hintText_snoc (l : List Int) (x : Int) : hintText (l ++ [x]) = hintText l ++ [32] ++ Lib.itoa x := by simp [hintText]
theorem textL_snoc (l : List St) (s : St) : textL (l ++ [s]) = textL l ++ stepText s ++ [10] := by simp [textL]

/-! ### Reading -/
def inG (n : Int) : Bool := decide (-1000000000 ≤ n) && decide (n ≤ 1000000000)
def numW (w : List UInt8) : Option Int :=
  match Lib.atoiAll w with
  | .ok n => if inG n = true ∧ Lib.itoa n = w then some n else none
  | _ => none
structure PSt where
  colon : Bool
  lits : List Int
  hints : List Int
def stepW (p : PSt) (w : List UInt8) : Option PSt :=
  if w = [58] ∧ p.colon = false then some { p with colon := true } else
  match numW w with
  | none => none
  | some n => if p.colon then some { p with hints := p.hints ++ [n] } else some { p with lits := p.lits ++ [n] }
def wordsW (p : PSt) : List (List UInt8) → Option PSt
  | [] => some p
  | w :: r => match stepW p w with
    | none => none
    | some q => wordsW q r
def pst0 : PSt := ⟨false, [], []⟩
def parseStepP (l : List UInt8) : Option St :=
  match wordsW pst0 (splitB 32 l) with
  | none => none
  | some p => if p.colon then some ⟨p.lits, p.hints⟩ else none
def linesP : List (List UInt8) → Option (List St)
  | [] => none
  | w :: r => if r = [] then (if w = [] then some [] else none) else
    match parseStepP w with
    | none => none
    | some s => (linesP r).map (s :: ·)
def parseL (l : List UInt8) : Option (List St) := linesP (splitB 10 l)

/-! ### Numbers -/
theorem digits_chars : ∀ u : Nat, ∀ x ∈ Lib.decDigits u, 48 ≤ x.toNat ∧ x.toNat ≤ 57 := by
  intro u
  induction u using Nat.strongRecOn with
  | _ u ih =>
    intro x hx
    rw [Lib.decDigits] at hx
    split at hx
    · next h =>
      simp at hx; subst hx
      have := h
      simp [UInt8.toNat_ofNat]; omega
    · next h =>
      rw [List.mem_append] at hx
      rcases hx with hx | hx
      · exact ih (u / 10) (by omega) x hx
      · simp at hx; subst hx
        simp [UInt8.toNat_ofNat]; omega
theorem digits_ne (u : Nat) : Lib.decDigits u ≠ [] := by
  rw [Lib.decDigits]; split <;> simp
theorem itoa_chars (n : Int) : ∀ x ∈ Lib.itoa n, x ≠ 32 ∧ x ≠ 10 ∧ x ≠ 58 := by
  have key : ∀ x : UInt8, 48 ≤ x.toNat ∧ x.toNat ≤ 57 → x ≠ 32 ∧ x ≠ 10 ∧ x ≠ 58 := by
    rintro x ⟨h1, h2⟩
    refine ⟨?_, ?_, ?_⟩ <;> (rintro rfl; revert h1 h2; decide)
  intro x hx
  unfold Lib.itoa at hx
  split at hx
  · rw [List.mem_cons] at hx
    rcases hx with rfl | hx
    · decide
    · exact key x (digits_chars _ x hx)
  · exact key x (digits_chars _ x hx)
theorem itoa_ne (n : Int) : Lib.itoa n ≠ [] := by
  unfold Lib.itoa; split
  · simp
  · exact digits_ne _
theorem parseUint_snoc (l : List UInt8) (acc u : Nat) (c : UInt8) (h : Lib.parseUint10 acc l = .ok u) (h1 : 48 ≤ c.toNat) (h2 : c.toNat ≤ 57) (h3 : u * 10 + (c.toNat - 48) < 18446744073709551616) : Lib.parseUint10 acc (l ++ [c]) = .ok (u * 10 + (c.toNat - 48)) := by
  induction l generalizing acc with
  | nil =>
    simp only [Lib.parseUint10] at h
    injection h with h
    subst h
    simp only [List.nil_append, Lib.parseUint10]
    rw [if_pos ⟨h1, h2⟩, if_neg (by omega), if_neg (by omega)]
  | cons x r ih =>
    simp only [List.cons_append, Lib.parseUint10] at h ⊢
    split at h
    · next e =>
      rw [if_pos e]
      split at h
      · cases h
      · next e1 =>
        rw [if_neg e1]
        split at h
        · cases h
        · next e2 => rw [if_neg e2]; exact ih _ h
    · cases h
theorem parse_digits : ∀ u : Nat, u < 18446744073709551616 → Lib.parseUint10 0 (Lib.decDigits u) = .ok u := by
  intro u
  induction u using Nat.strongRecOn with
  | _ u ih =>
    intro hu
    rw [Lib.decDigits]
    split
    · next h =>
      have e : (UInt8.ofNat (48 + u)).toNat = 48 + u := by simp [UInt8.toNat_ofNat]; omega
      have := parseUint_snoc [] 0 0 (UInt8.ofNat (48 + u)) rfl (by omega) (by omega) (by omega)
      rw [List.nil_append] at this
      rw [this, e]; congr 1; omega
    · next h =>
      have e : (UInt8.ofNat (48 + u % 10)).toNat = 48 + u % 10 := by simp [UInt8.toNat_ofNat]; omega
      have := parseUint_snoc _ 0 _ (UInt8.ofNat (48 + u % 10)) (ih (u / 10) (by omega) (by omega)) (by omega) (by omega) (by omega)
      rw [this, e]; congr 1; omega
theorem parseMag_digits (u : Nat) (h : u < 18446744073709551616) : Lib.parseMag (Lib.decDigits u) = .ok u := by
  unfold Lib.parseMag
  rw [if_neg (digits_ne u)]; exact parse_digits u h
theorem atoi_itoa (n : Int) (h0 : -9223372036854775808 ≤ n) (h1 : n ≤ 9223372036854775807) : Lib.atoiAll (Lib.itoa n) = .ok n := by
  by_cases hn : n < 0
  · rw [Lib.itoa, if_pos hn, Lib.atoiAll_minus, parseMag_digits _ (by omega)]
    unfold Lib.signed
    simp only
    rw [if_neg (by omega)]; congr 1; omega
  · rw [Lib.itoa, if_neg hn]
    cases hd : Lib.decDigits n.toNat with
    | nil => exact absurd hd (digits_ne _)
    | cons c r =>
      have hc := digits_chars n.toNat c (by rw [hd]; simp)
      rw [Lib.atoiAll_plain c r (by omega) (by omega), ← hd, parseMag_digits _ (by omega)]
      unfold Lib.signless
      simp only
      rw [if_neg (by omega)]; congr 1; omega
theorem numW_itoa (n : Int) (h0 : -9223372036854775808 ≤ n) (h1 : n ≤ 9223372036854775807) : numW (Lib.itoa n) = if inG n = true then some n else none := by
  unfold numW
  rw [atoi_itoa n h0 h1]
  by_cases h : inG n = true <;> simp [h]
theorem numW_some {w : List UInt8} {n : Int} (h : numW w = some n) : Lib.itoa n = w ∧ inG n = true := by
  unfold numW at h
  split at h
  · split at h
    · next c => cases h; exact ⟨c.2, c.1⟩
    · cases h
  · cases h
theorem itoa_colon (n : Int) : Lib.itoa n ≠ [58] := fun e => by
  have := itoa_chars n 58 (by rw [e]; simp)
  exact this.2.2 rfl

/-! ### The text of a list is read as the list -/
def i64 (n : Int) : Prop := -9223372036854775808 ≤ n ∧ n ≤ 9223372036854775807
theorem stepW_num (p : PSt) (n : Int) (hn : i64 n) : stepW p (Lib.itoa n) = if inG n = true then some (if p.colon then { p with hints := p.hints ++ [n] } else { p with lits := p.lits ++ [n] }) else none := by
  unfold stepW
  rw [if_neg (fun h => itoa_colon n h.1), numW_itoa n hn.1 hn.2]
  by_cases h : inG n = true
  · simp only [h, if_true]; split <;> rfl
  · simp only [h]; rfl
theorem words_lits : ∀ (ls : List Int) (p : PSt) (r : List (List UInt8)), (∀ x ∈ ls, i64 x) → p.colon = false → wordsW p (ls.map Lib.itoa ++ r) = if ls.all inG = true then wordsW { p with lits := p.lits ++ ls } r else none
  | [], p, r, _, _ => by simp
  | x :: ls, p, r, h, hc => by
    rw [List.map_cons, List.cons_append, wordsW, stepW_num p x (h x (by simp))]
    by_cases hx : inG x = true
    · have := words_lits ls { p with lits := p.lits ++ [x] } r (fun y hy => h y (by simp [hy])) hc
      rw [if_pos hx, if_neg (by rw [hc]; simp)]
      simp only
      rw [this]; simp [hx]
    · simp [hx]
theorem words_hints : ∀ (ls : List Int) (p : PSt), (∀ x ∈ ls, i64 x) → p.colon = true → wordsW p (ls.map Lib.itoa) = if ls.all inG = true then some { p with hints := p.hints ++ ls } else none
  | [], p, _, _ => by simp [wordsW]
  | x :: ls, p, h, hc => by
    rw [List.map_cons, wordsW, stepW_num p x (h x (by simp))]
    by_cases hx : inG x = true
    · have := words_hints ls { p with hints := p.hints ++ [x] } (fun y hy => h y (by simp [hy])) hc
      rw [if_pos hx, if_pos hc]
      simp only
      rw [this]; simp [hx]
    · simp [hx]
theorem split_lits : ∀ (ls : List Int) (r : List UInt8), splitB 32 (litText ls ++ r) = ls.map Lib.itoa ++ splitB 32 r
  | [], r => rfl
  | x :: ls, r => by
    have : litText (x :: ls) ++ r = Lib.itoa x ++ 32 :: (litText ls ++ r) := by simp [litText]
    rw [this, splitB_cons 32 _ fun y hy => (itoa_chars x y hy).1, split_lits ls r]; rfl
theorem split_hints : ∀ (ls : List Int) (w : List UInt8), (∀ x ∈ w, x ≠ 32) → splitB 32 (w ++ hintText ls) = w :: ls.map Lib.itoa
  | [], w, h => by simp only [hintText, List.flatMap_nil, List.append_nil, List.map_nil]; exact splitB_word 32 h
  | x :: ls, w, h => by
    have : w ++ hintText (x :: ls) = w ++ 32 :: (Lib.itoa x ++ hintText ls) := by simp [hintText]
    rw [this, splitB_cons 32 _ h, split_hints ls _ fun y hy => (itoa_chars x y hy).1]; rfl
theorem split_step (s : St) : splitB 32 (stepText s) = s.lits.map Lib.itoa ++ [58] :: s.hints.map Lib.itoa := by
  unfold stepText
  rw [split_lits, show (58 :: hintText s.hints : List UInt8) = [58] ++ hintText s.hints from rfl, split_hints _ _ (by decide)]
def ranged (s : St) : Bool := s.lits.all inG && s.hints.all inG
def i64s (s : St) : Prop := (∀ x ∈ s.lits, i64 x) ∧ ∀ x ∈ s.hints, i64 x
theorem parse_step (s : St) (h : i64s s) : parseStepP (stepText s) = if ranged s = true then some s else none := by
  unfold parseStepP ranged
  rw [split_step, words_lits _ _ _ h.1 rfl]
  by_cases h1 : s.lits.all inG = true
  · rw [if_pos h1, wordsW]
    have e : stepW { pst0 with lits := pst0.lits ++ s.lits } [58] = some ⟨true, s.lits, []⟩ := by simp [stepW, pst0]
    rw [e]
    simp only
    rw [words_hints _ _ h.2 rfl]
    by_cases h2 : s.hints.all inG = true
    · simp [h1, h2]
    · simp [h1, h2]
  · simp [h1]
theorem step_chars (s : St) : ∀ x ∈ stepText s, x ≠ 10 := by
  intro x hx
  unfold stepText litText hintText at hx
  rw [List.mem_append, List.mem_flatMap, List.mem_cons, List.mem_flatMap] at hx
  rcases hx with ⟨y, _, hy⟩ | rfl | ⟨y, _, hy⟩
  · rw [List.mem_append] at hy
    rcases hy with hy | hy
    · exact (itoa_chars y x hy).2.1
    · simp at hy; subst hy; decide
  · decide
  · rw [List.mem_cons] at hy
    rcases hy with rfl | hy
    · decide
    · exact (itoa_chars y x hy).2.1
theorem split_text : ∀ l : List St, splitB 10 (textL l) = l.map stepText ++ [[]]
  | [] => rfl
  | s :: l => by
    have : textL (s :: l) = stepText s ++ 10 :: textL l := by simp [textL]
    rw [this, splitB_cons 10 _ (step_chars s), split_text l]; rfl
/-- Reading the text of steps. -/
theorem parse_text (l : List St) (h : ∀ s ∈ l, i64s s) : parseL (textL l) = if l.all ranged = true then some l else none := by
  unfold parseL
  rw [split_text]
  induction l with
  | nil => rfl
  | cons s r ih =>
    rw [List.map_cons, List.cons_append, linesP, if_neg (by simp), parse_step s (h s (by simp))]
    have ih := ih fun x hx => h x (by simp [hx])
    by_cases hs : ranged s = true
    · simp only [hs, if_true, List.all_cons, Bool.true_and]
      rw [ih]
      by_cases hr : r.all ranged = true <;> simp [hr]
    · simp [hs]

/-! ### What is read has the text -/
def tailJ (ws : List (List UInt8)) : List UInt8 := ws.flatMap fun w => 32 :: w
theorem join_tail : ∀ (w : List UInt8) (ws : List (List UInt8)), joinB 32 (w :: ws) = w ++ tailJ ws
  | w, [] => by simp [joinB, tailJ]
  | w, v :: r => by rw [joinB, join_tail v r]; simp [tailJ]
theorem stepW_some {p q : PSt} {w : List UInt8} (h : stepW p w = some q) : (w = [58] ∧ p.colon = false ∧ q = { p with colon := true }) ∨ ∃ n, Lib.itoa n = w ∧ ((p.colon = true ∧ q = { p with hints := p.hints ++ [n] }) ∨ (p.colon = false ∧ q = { p with lits := p.lits ++ [n] })) := by
  unfold stepW at h
  split at h
  · next c => cases h; exact .inl ⟨c.1, c.2, rfl⟩
  · split at h
    · cases h
    · next n hn =>
      refine .inr ⟨n, (numW_some hn).1, ?_⟩
      split at h
      · next c => cases h; exact .inl ⟨c, rfl⟩
      · next c => cases h; exact .inr ⟨by simpa using c, rfl⟩
theorem words_on : ∀ (ws : List (List UInt8)) (p q : PSt), p.colon = true → wordsW p ws = some q → q.colon = true ∧ stepText ⟨p.lits, p.hints⟩ ++ tailJ ws = stepText ⟨q.lits, q.hints⟩
  | [], p, q, hc, h => by cases h; exact ⟨hc, by simp [tailJ]⟩
  | w :: r, p, q, hc, h => by
    rw [wordsW] at h
    split at h
    · cases h
    · next p' hp =>
      rcases stepW_some hp with ⟨_, c, _⟩ | ⟨n, hn, ⟨_, rfl⟩ | ⟨c, _⟩⟩
      · rw [hc] at c; cases c
      · obtain ⟨h1, h2⟩ := words_on r { p with hints := p.hints ++ [n] } q hc h
        refine ⟨h1, ?_⟩
        rw [← h2, ← hn]
        simp [tailJ, stepText, hintText]
      · rw [hc] at c; cases c
theorem words_first : ∀ (ws : List (List UInt8)) (w : List UInt8) (p q : PSt), p.colon = false → p.hints = [] → wordsW p (w :: ws) = some q → q.colon = true → litText p.lits ++ (w ++ tailJ ws) = stepText ⟨q.lits, q.hints⟩ := by
  intro ws
  induction ws with
  | nil =>
    intro w p q hc hh h hq
    rw [wordsW] at h
    split at h
    · cases h
    · next p' hp =>
      rcases stepW_some hp with ⟨rfl, _, rfl⟩ | ⟨n, hn, ⟨c, _⟩ | ⟨_, rfl⟩⟩
      · cases h; simp [stepText, hintText, tailJ, hh]
      · rw [hc] at c; cases c
      · cases h; simp only at hq; rw [hc] at hq; cases hq
  | cons v r ih =>
    intro w p q hc hh h hq
    rw [wordsW] at h
    split at h
    · cases h
    · next p' hp =>
      rcases stepW_some hp with ⟨rfl, _, rfl⟩ | ⟨n, hn, ⟨c, _⟩ | ⟨_, rfl⟩⟩
      · obtain ⟨_, h2⟩ := words_on _ _ q rfl h
        rw [← h2]; simp [stepText, hintText, hh]
      · rw [hc] at c; cases c
      · rw [← ih v { p with lits := p.lits ++ [n] } q hc hh h hq, ← hn]; simp [litText, tailJ]
theorem step_text {w : List UInt8} {s : St} (h : parseStepP w = some s) : stepText s = w := by
  unfold parseStepP at h
  split at h
  · cases h
  · next p hp =>
    split at h
    · next c =>
      cases h
      have hj := join_split 32 w
      match hs : splitB 32 w, splitB_ne 32 w with
      | v :: vs, _ =>
        rw [hs] at hp hj
        rw [join_tail] at hj
        have := words_first vs v pst0 p rfl rfl hp c
        rw [← this, ← hj]; rfl
    · cases h
theorem lines_text : ∀ (ws : List (List UInt8)) (l : List St), linesP ws = some l → textL l = joinB 10 ws
  | [], l, h => by cases h
  | w :: r, l, h => by
    rw [linesP] at h
    split at h
    · next e =>
      subst e
      split at h
      · next e => cases h; subst e; rfl
      · cases h
    · next e =>
      split at h
      · cases h
      · next s hs =>
        obtain ⟨l', hl, rfl⟩ := Option.map_eq_some_iff.1 h
        have ih := lines_text r l' hl
        match r, e with
        | v :: vs, _ =>
          rw [joinB, ← ih, ← step_text hs]; simp [textL]
/-- What is read has the text that it was read from. -/
theorem text_parse {t : List UInt8} {l : List St} (h : parseL t = some l) : textL l = t := by
  rw [lines_text _ _ h, join_split]
theorem lines_num : ∀ (ws : List (List UInt8)) (l : List St), linesP ws = some l → ∀ s ∈ l, ranged s = true := by
  have hw : ∀ (ws : List (List UInt8)) (p q : PSt), (p.lits.all inG = true ∧ p.hints.all inG = true) → wordsW p ws = some q → q.lits.all inG = true ∧ q.hints.all inG = true := by
    intro ws
    induction ws with
    | nil => intro p q hp h; cases h; exact hp
    | cons w r ih =>
      intro p q hp h
      rw [wordsW] at h
      split at h
      · cases h
      · next p' hp' =>
        refine ih p' q ?_ h
        unfold stepW at hp'
        split at hp'
        · cases hp'; exact hp
        · split at hp'
          · cases hp'
          · next n hn =>
            have hg := (numW_some hn).2
            split at hp' <;> (cases hp'; simp only [List.all_append, List.all_cons, List.all_nil, hg, hp.1, hp.2, Bool.and_true, and_self])
  intro ws
  induction ws with
  | nil => intro l h; cases h
  | cons w r ih =>
    intro l h
    rw [linesP] at h
    split at h
    · split at h
      · cases h; simp
      · cases h
    · split at h
      · cases h
      · next s hs =>
        obtain ⟨l', hl, rfl⟩ := Option.map_eq_some_iff.1 h
        intro x hx
        rw [List.mem_cons] at hx
        rcases hx with rfl | hx
        · unfold parseStepP at hs
          split at hs
          · cases hs
          · next p hp =>
            split at hs
            · cases hs
              have := hw _ _ _ ⟨rfl, rfl⟩ hp
              unfold ranged; simp [this.1, this.2]
            · cases hs
        · exact ih l' hl x hx
end Go.Proofs.YtoopoljchhdobaaGreatDoor
namespace Go.Proofs.YtoopoljchhdobaaGreatDoor

/-- A certificate. -/
structure CertS where
  id : List UInt8
  dig : List UInt8
  ver : Int
  prf : List St
  old : List Int
  now : List Int
def cert0 : CertS := ⟨[], [], 0, [], [], []⟩
def idB (s : List UInt8) : Bool := decide (1 ≤ s.length) && decide (s.length ≤ 64) && s.all fun x => decide (33 ≤ x.toNat) && decide (x.toNat ≤ 126)
def hexB (x : UInt8) : Bool := (decide (48 ≤ x.toNat) && decide (x.toNat ≤ 57)) || (decide (97 ≤ x.toNat) && decide (x.toNat ≤ 102))
def digB (s : List UInt8) : Bool := decide (s.length = 16) && s.all hexB
def withinB (lo hi : Int) (l : List Int) : Bool := l.all fun x => decide (lo ≤ x) && decide (x ≤ hi)
def litB (x : Int) : Bool := decide (x ≠ 0) && (decide (-8000 ≤ x) && decide (x ≤ 8000))
def prfB (l : List St) : Bool := decide (l.length ≤ 20000) && l.all fun s => s.lits.all litB && withinB 0 60000 s.hints
def stB (l : List Int) : Bool := withinB 0 255 l && decide (l.length ≤ 32)
def restB (x : CertS) : Bool :=
  if x.ver = 0 then decide (x.prf.length = 0) && decide (x.old.length = 0) && decide (x.now.length = 0)
  else if x.ver = 1 then prfB x.prf && decide (x.old.length = 0) && decide (x.now.length = 0)
  else if x.ver = 2 then decide (x.prf.length = 0) && decide (x.old.length = x.now.length) && stB x.old && stB x.now
  else false
def usableB (x : CertS) : Bool := idB x.id && digB x.dig && restB x
/-- The words of the verdicts. -/
def wordC (v : Int) : List UInt8 := if v = 0 then [117, 110, 100, 111, 110, 101] else if v = 1 then [121, 101, 115] else [110, 111]
def certW : List UInt8 := [99, 101, 114, 116]
def oldW : List UInt8 := [111, 108, 100]
def nowW : List UInt8 := [110, 111, 119]
def lineS (name : List UInt8) (l : List Int) : List UInt8 := name ++ hintText l ++ [10]
def headC (x : CertS) : List UInt8 := certW ++ [32] ++ x.id ++ [32] ++ x.dig ++ [32] ++ wordC x.ver
/-- The first line without its line feed, and what is behind it. -/
def firstC (x : CertS) : List UInt8 := headC x ++ (if x.ver = 1 then [32] ++ Lib.itoa x.prf.length else [])
def tailC (x : CertS) : List UInt8 := if x.ver = 1 then textL x.prf else if x.ver = 2 then lineS oldW x.old ++ lineS nowW x.now else []
def textU (x : CertS) : List UInt8 := firstC x ++ 10 :: tailC x
def textC (x : CertS) : List UInt8 := if usableB x = true then textU x else []

/-! ### Words and lines -/
theorem idB_chars {s : List UInt8} (h : idB s = true) : ∀ x ∈ s, x ≠ 32 ∧ x ≠ 10 := by
  unfold idB at h
  rw [Bool.and_eq_true, List.all_eq_true] at h
  intro x hx
  have := h.2 x hx
  simp only [Bool.and_eq_true, decide_eq_true_eq] at this
  constructor
  · rintro rfl; exact absurd this.1 (by decide)
  · rintro rfl; exact absurd this.1 (by decide)
theorem digB_chars {s : List UInt8} (h : digB s = true) : ∀ x ∈ s, x ≠ 32 ∧ x ≠ 10 := by
  unfold digB at h
  rw [Bool.and_eq_true, List.all_eq_true] at h
  intro x hx
  have := h.2 x hx
  constructor
  · rintro rfl; exact absurd this (by decide)
  · rintro rfl; exact absurd this (by decide)
theorem wordC_chars (v : Int) : ∀ x ∈ wordC v, x ≠ 32 ∧ x ≠ 10 := by
  unfold wordC; split
  · decide
  · split <;> decide
theorem usable_parts {x : CertS} (h : usableB x = true) : idB x.id = true ∧ digB x.dig = true ∧ restB x = true := by
  unfold usableB at h
  rw [Bool.and_eq_true, Bool.and_eq_true] at h
  exact ⟨h.1.1, h.1.2, h.2⟩
/-- The words of the first line. -/
def wordsC (x : CertS) : List (List UInt8) := [certW, x.id, x.dig, wordC x.ver] ++ (if x.ver = 1 then [Lib.itoa x.prf.length] else [])
theorem split_first {x : CertS} (h : usableB x = true) : splitB 32 (firstC x) = wordsC x := by
  obtain ⟨h1, h2, _⟩ := usable_parts h
  have hc : ∀ y ∈ certW, y ≠ 32 := by decide
  have e : firstC x = certW ++ 32 :: (x.id ++ 32 :: (x.dig ++ 32 :: (wordC x.ver ++ (if x.ver = 1 then [32] ++ Lib.itoa x.prf.length else [])))) := by
    unfold firstC headC; simp
  rw [e, splitB_cons 32 _ hc, splitB_cons 32 _ fun y hy => (idB_chars h1 y hy).1, splitB_cons 32 _ fun y hy => (digB_chars h2 y hy).1]
  unfold wordsC
  split
  · rw [show wordC x.ver ++ ([32] ++ Lib.itoa x.prf.length) = wordC x.ver ++ 32 :: Lib.itoa x.prf.length by simp, splitB_cons 32 _ fun y hy => (wordC_chars _ y hy).1, splitB_word 32 fun y hy => (itoa_chars _ y hy).1]; rfl
  · rw [List.append_nil, splitB_word 32 fun y hy => (wordC_chars _ y hy).1]; rfl
theorem first_chars {x : CertS} (h : usableB x = true) : ∀ y ∈ firstC x, y ≠ 10 := by
  obtain ⟨h1, h2, _⟩ := usable_parts h
  intro y hy
  unfold firstC headC at hy
  simp only [List.mem_append, List.mem_singleton] at hy
  rcases hy with ((((((hy | rfl) | hy) | rfl) | hy) | rfl) | hy) | hy
  · revert y; decide
  · decide
  · exact (idB_chars h1 y hy).2
  · decide
  · exact (digB_chars h2 y hy).2
  · decide
  · exact (wordC_chars _ y hy).2
  · split at hy
    · simp only [List.mem_append, List.mem_singleton] at hy
      rcases hy with rfl | hy
      · decide
      · exact (itoa_chars _ y hy).2.1
    · cases hy
theorem hintText_chars (l : List Int) : ∀ x ∈ hintText l, x ≠ 10 := by
  intro x hx
  unfold hintText at hx
  obtain ⟨y, _, hy⟩ := List.mem_flatMap.1 hx
  rw [List.mem_cons] at hy
  rcases hy with rfl | hy
  · decide
  · exact (itoa_chars y x hy).2.1

/-! ### Reading -/
def atoiW (w : List UInt8) : Option Int :=
  match Lib.atoiAll w with
  | .ok n => some n
  | _ => none
def numsW : List (List UInt8) → Option (List Int)
  | [] => some []
  | w :: r => match atoiW w with
    | none => none
    | some n => (numsW r).map (n :: ·)
def verW (w : List UInt8) : Option Int := if w = wordC 0 then some 0 else if w = wordC 1 then some 1 else if w = wordC 2 then some 2 else none
def headW (x : CertS) (ws : List (List UInt8)) : Option CertS :=
  if ws.length < 4 then none else (verW (ws.getD 3 [])).map fun v => { x with id := ws.getD 1 [], dig := ws.getD 2 [], ver := v }
def stateW (x : CertS) (ws : List (List UInt8)) : Option CertS :=
  match numsW ws.tail with
  | none => none
  | some l => if ws.getD 0 [] = oldW then some { x with old := l } else if ws.getD 0 [] = nowW then some { x with now := l } else none
def lineW (x : CertS) (first : Bool) (w : List UInt8) : Option CertS :=
  if 33 < (splitB 32 w).length then none else if first then headW x (splitB 32 w) else stateW x (splitB 32 w)
def linesW (x : CertS) (first : Bool) : List (List UInt8) → CertS
  | [] => x
  | w :: r => if r = [] then x else
    match lineW x first w with
    | none => x
    | some y => if y.ver = 1 then (match parseL (joinB 10 r) with
      | none => y
      | some l => { y with prf := l }) else linesW y false r
def readC (t : List UInt8) : CertS := linesW cert0 true (splitB 10 t)
def parseC (t : List UInt8) : Option CertS := if textC (readC t) = t ∧ t ≠ [] then some (readC t) else none

theorem atoiW_itoa {n : Int} (h : i64 n) : atoiW (Lib.itoa n) = some n := by unfold atoiW; rw [atoi_itoa n h.1 h.2]
theorem numsW_itoa : ∀ l : List Int, (∀ x ∈ l, i64 x) → numsW (l.map Lib.itoa) = some l
  | [], _ => rfl
  | x :: r, h => by
    rw [List.map_cons, numsW, atoiW_itoa (h x (by simp)), numsW_itoa r fun y hy => h y (by simp [hy])]; rfl
theorem within_i64 {lo hi : Int} {l : List Int} (h : withinB lo hi l = true) (h0 : -9223372036854775808 ≤ lo) (h1 : hi ≤ 9223372036854775807) : ∀ x ∈ l, i64 x := by
  unfold withinB at h
  rw [List.all_eq_true] at h
  intro x hx
  have := h x hx
  simp only [Bool.and_eq_true, decide_eq_true_eq] at this
  unfold i64; omega
theorem split_state {name : List UInt8} (hn : ∀ y ∈ name, y ≠ 32) (l : List Int) : splitB 32 (name ++ hintText l) = name :: l.map Lib.itoa := split_hints l name hn
theorem verW_word {v : Int} (h : v = 0 ∨ v = 1 ∨ v = 2) : verW (wordC v) = some v := by
  rcases h with rfl | rfl | rfl <;> rfl
theorem rest_cases {x : CertS} (h : restB x = true) : (x.ver = 0 ∧ x.prf = [] ∧ x.old = [] ∧ x.now = []) ∨ (x.ver = 1 ∧ prfB x.prf = true ∧ x.old = [] ∧ x.now = []) ∨ (x.ver = 2 ∧ x.prf = [] ∧ x.old.length = x.now.length ∧ stB x.old = true ∧ stB x.now = true) := by
  unfold restB at h
  split at h
  · next e =>
    simp only [Bool.and_eq_true, decide_eq_true_eq] at h
    exact .inl ⟨e, List.length_eq_zero_iff.1 h.1.1, List.length_eq_zero_iff.1 h.1.2, List.length_eq_zero_iff.1 h.2⟩
  · split at h
    · next e =>
      simp only [Bool.and_eq_true, decide_eq_true_eq] at h
      exact .inr (.inl ⟨e, h.1.1, List.length_eq_zero_iff.1 h.1.2, List.length_eq_zero_iff.1 h.2⟩)
    · split at h
      · next e =>
        simp only [Bool.and_eq_true, decide_eq_true_eq] at h
        exact .inr (.inr ⟨e, List.length_eq_zero_iff.1 h.1.1.1, h.1.1.2, h.1.2, h.2⟩)
      · cases h
theorem prf_ranged {l : List St} (h : prfB l = true) : (∀ s ∈ l, i64s s) ∧ l.all ranged = true ∧ l.length ≤ 20000 := by
  unfold prfB at h
  rw [Bool.and_eq_true, List.all_eq_true, decide_eq_true_eq] at h
  have key : ∀ s ∈ l, (∀ x ∈ s.lits, -8000 ≤ x ∧ x ≤ 8000) ∧ ∀ x ∈ s.hints, 0 ≤ x ∧ x ≤ 60000 := fun s hs => by
    have := h.2 s hs
    rw [Bool.and_eq_true, List.all_eq_true] at this
    refine ⟨fun x hx => ?_, fun x hx => ?_⟩
    · have h1 := this.1 x hx
      unfold litB at h1
      simp only [Bool.and_eq_true, decide_eq_true_eq] at h1
      exact h1.2
    · have h1 := this.2
      unfold withinB at h1
      rw [List.all_eq_true] at h1
      have := h1 x hx
      simpa using this
  refine ⟨fun s hs => ⟨fun x hx => ?_, fun x hx => ?_⟩, ?_, h.1⟩
  · have := (key s hs).1 x hx; unfold i64; omega
  · have := (key s hs).2 x hx; unfold i64; omega
  · rw [List.all_eq_true]
    intro s hs
    unfold ranged
    rw [Bool.and_eq_true, List.all_eq_true, List.all_eq_true]
    refine ⟨fun x hx => ?_, fun x hx => ?_⟩
    · have := (key s hs).1 x hx; unfold inG; simp; omega
    · have := (key s hs).2 x hx; unfold inG; simp; omega
/-- Reading the text of a usable certificate. -/
theorem read_text {x : CertS} (h : usableB x = true) : readC (textC x) = x := by
  obtain ⟨h1, h2, h3⟩ := usable_parts h
  have hsp : splitB 10 (textC x) = firstC x :: splitB 10 (tailC x) := by
    unfold textC; rw [if_pos h]; unfold textU; exact splitB_cons 10 _ (first_chars h)
  have hne := splitB_ne 10 (tailC x)
  have hv : x.ver = 0 ∨ x.ver = 1 ∨ x.ver = 2 := by rcases rest_cases h3 with ⟨e, _⟩ | ⟨e, _⟩ | ⟨e, _⟩ <;> simp [e]
  have hl : lineW cert0 true (firstC x) = some { cert0 with id := x.id, dig := x.dig, ver := x.ver } := by
    have hw : (wordsC x).length ≤ 5 ∧ ¬ (wordsC x).length < 4 := by unfold wordsC; split <;> simp
    unfold lineW
    rw [split_first h, if_neg (by omega), if_pos rfl]
    unfold headW
    rw [if_neg hw.2]
    have e1 : (wordsC x).getD 3 [] = wordC x.ver := by unfold wordsC; rfl
    have e2 : (wordsC x).getD 1 [] = x.id := by unfold wordsC; rfl
    have e3 : (wordsC x).getD 2 [] = x.dig := by unfold wordsC; rfl
    rw [e1, e2, e3, verW_word hv]; rfl
  unfold readC
  rw [hsp, linesW, if_neg hne, hl]
  simp only
  rcases rest_cases h3 with ⟨e, p1, p2, p3⟩ | ⟨e, p1, p2, p3⟩ | ⟨e, p1, p2, p3, p4⟩
  · rw [if_neg (by rw [e]; decide)]
    have ht : tailC x = [] := by unfold tailC; rw [if_neg (by rw [e]; decide), if_neg (by rw [e]; decide)]
    rw [ht]
    show linesW _ false [[]] = x
    rw [linesW, if_pos rfl]
    cases x; simp_all [cert0]
  · rw [if_pos e, join_split]
    have ht : tailC x = textL x.prf := by unfold tailC; rw [if_pos e]
    obtain ⟨q1, q2, _⟩ := prf_ranged p1
    rw [ht, parse_text _ q1, if_pos q2]
    cases x; simp_all [cert0]
  · rw [if_neg (by rw [e]; decide)]
    have ht : tailC x = (oldW ++ hintText x.old) ++ 10 :: ((nowW ++ hintText x.now) ++ 10 :: []) := by
      unfold tailC lineS; rw [if_neg (by rw [e]; decide), if_pos e]; simp
    have c1 : ∀ y ∈ oldW ++ hintText x.old, y ≠ 10 := by
      intro y hy; rw [List.mem_append] at hy
      rcases hy with hy | hy
      · revert y; decide
      · exact hintText_chars _ y hy
    have c2 : ∀ y ∈ nowW ++ hintText x.now, y ≠ 10 := by
      intro y hy; rw [List.mem_append] at hy
      rcases hy with hy | hy
      · revert y; decide
      · exact hintText_chars _ y hy
    have s1 : splitB 32 (oldW ++ hintText x.old) = oldW :: x.old.map Lib.itoa := split_state (by decide) _
    have s2 : splitB 32 (nowW ++ hintText x.now) = nowW :: x.now.map Lib.itoa := split_state (by decide) _
    unfold stB at p3 p4
    rw [Bool.and_eq_true, decide_eq_true_eq] at p3 p4
    have n1 := numsW_itoa x.old (within_i64 p3.1 (by decide) (by decide))
    have n2 := numsW_itoa x.now (within_i64 p4.1 (by decide) (by decide))
    rw [ht, splitB_cons 10 _ c1, splitB_cons 10 _ c2]
    have l1 : ∀ y : CertS, lineW y false (oldW ++ hintText x.old) = some { y with old := x.old } := fun y => by
      unfold lineW
      rw [s1, if_neg (by rw [List.length_cons, List.length_map]; omega), if_neg (by decide)]
      unfold stateW
      rw [List.tail_cons, n1]; rfl
    have l2 : ∀ y : CertS, lineW y false (nowW ++ hintText x.now) = some { y with now := x.now } := fun y => by
      unfold lineW
      rw [s2, if_neg (by rw [List.length_cons, List.length_map]; omega), if_neg (by decide)]
      unfold stateW
      rw [List.tail_cons, n2]; rfl
    rw [linesW, if_neg (by simp), l1]
    simp only
    rw [if_neg (by rw [e]; decide), linesW, if_neg (splitB_ne 10 []), l2]
    simp only
    rw [if_neg (by rw [e]; decide)]
    show linesW _ false [[]] = x
    rw [linesW, if_pos rfl]
    cases x; simp_all [cert0]
end Go.Proofs.YtoopoljchhdobaaGreatDoor
namespace Go.Proofs.YtoopoljchhdobaaGreatDoor

def fnvStep (h : Nat) (b : UInt8) : Nat := ((h ^^^ b.toNat) * 1099511628211) % 18446744073709551616
def fnvN (l : List UInt8) : Nat := l.foldl fnvStep 14695981039346656037
theorem fnvN_snoc (l : List UInt8) (b : UInt8) : fnvN (l ++ [b]) = fnvStep (fnvN l) b := by unfold fnvN; rw [List.foldl_append, List.foldl_cons, List.foldl_nil]
theorem fnvStep_lt (h : Nat) (b : UInt8) : fnvStep h b < 18446744073709551616 := Nat.mod_lt _ (by decide)
theorem fnvN_lt (l : List UInt8) : fnvN l < 18446744073709551616 := by
  rcases List.eq_nil_or_concat l with rfl | ⟨m, b, rfl⟩
  · decide
  · rw [List.concat_eq_append, fnvN_snoc]; exact fnvStep_lt _ _
def hexD (d : Nat) : UInt8 := if d < 10 then UInt8.ofNat (48 + d) else UInt8.ofNat (87 + d)
theorem hexD_hex {d : Nat} (h : d < 16) : hexB (hexD d) = true := by
  have : d = 0 ∨ d = 1 ∨ d = 2 ∨ d = 3 ∨ d = 4 ∨ d = 5 ∨ d = 6 ∨ d = 7 ∨ d = 8 ∨ d = 9 ∨ d = 10 ∨ d = 11 ∨ d = 12 ∨ d = 13 ∨ d = 14 ∨ d = 15 := by omega
  rcases this with rfl | rfl | rfl | rfl | rfl | rfl | rfl | rfl | rfl | rfl | rfl | rfl | rfl | rfl | rfl | rfl <;> rfl
/-- The last k hexadecimal digits. -/
def hexLow : Nat → Nat → List UInt8
  | _, 0 => []
  | n, k + 1 => hexLow (n / 16) k ++ [hexD (n % 16)]
theorem hexLow_len : ∀ (k n : Nat), (hexLow n k).length = k
  | 0, _ => rfl
  | k + 1, n => by rw [hexLow, List.length_append, hexLow_len k]; rfl
theorem hexLow_hex : ∀ (k n : Nat), (hexLow n k).all hexB = true
  | 0, _ => rfl
  | k + 1, n => by rw [hexLow, List.all_append, hexLow_hex k, List.all_cons, hexD_hex (Nat.mod_lt _ (by decide))]; rfl
theorem hexLow_zero : ∀ k : Nat, hexLow 0 k = List.replicate k 48
  | 0 => rfl
  | k + 1 => by rw [hexLow, hexLow_zero k, List.replicate_succ']; rfl
/-- The hexadecimal numeral. -/
def hexMin (n : Nat) : List UInt8 := if _h : n < 16 then [hexD n] else hexMin (n / 16) ++ [hexD (n % 16)]
termination_by n
decreasing_by omega
theorem hexMin_pad : ∀ (k n : Nat), n < 16 ^ (k + 1) → (hexMin n).length ≤ k + 1 ∧ List.replicate (k + 1 - (hexMin n).length) 48 ++ hexMin n = hexLow n (k + 1)
  | k, n, h => by
    rw [hexMin]
    split
    · next h16 =>
      refine ⟨by simp, ?_⟩
      rw [hexLow, show n / 16 = 0 by omega, show n % 16 = n by omega, hexLow_zero]; simp
    · next h16 =>
      cases k with
      | zero => simp at h; omega
      | succ k =>
        have h2 : n / 16 < 16 ^ (k + 1) := by rw [Nat.pow_succ] at h; omega
        obtain ⟨e1, e2⟩ := hexMin_pad k (n / 16) h2
        refine ⟨by rw [List.length_append]; simp; omega, ?_⟩
        rw [hexLow, ← e2, List.length_append, ← List.append_assoc]
        simp
def digestS (l : List UInt8) : List UInt8 := hexLow (fnvN l) 16
theorem digestS_ok (l : List UInt8) : digB (digestS l) = true := by
  unfold digB digestS
  rw [hexLow_len, hexLow_hex]; rfl
theorem digest_pad (l : List UInt8) : (hexMin (fnvN l)).length ≤ 16 ∧ List.replicate (16 - (hexMin (fnvN l)).length) 48 ++ hexMin (fnvN l) = digestS l :=
  hexMin_pad 15 (fnvN l) (by have := fnvN_lt l; simpa using this)
end Go.Proofs.YtoopoljchhdobaaGreatDoor
