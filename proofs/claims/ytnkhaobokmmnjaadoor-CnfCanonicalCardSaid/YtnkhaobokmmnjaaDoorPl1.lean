/-
  Package proof in plain words: steps, what the last step needs, the trimmed refutation. No program in sight.
-/
import Derived.WalkKit
namespace Go.Proofs.YtnkhaobokmmnjaaDoor

/-- A step: literals and hints. -/
structure St where
  lits : List Int
  hints : List Int
def st0 : St := ⟨[], []⟩
def hintsOk (bound : Int) (l : List Int) : Bool := l.all fun h => decide (0 ≤ h) && decide (h < bound)
def InI (x : Int) : Prop := -9223372036854775808 ≤ x ∧ x ≤ 9223372036854775807
def absI (x : Int) : Int := if x < 0 then -x else x
def litsOk (vars : Int) (l : List Int) : Bool := (l.all fun x => decide (1 ≤ absI x) && decide (absI x ≤ vars)) && decide (l.map absI).Nodup
def validP (vars : Int) (n : Nat) (l : List St) : Bool := decide (l.length ≤ 20000) && (List.range l.length).all fun k => litsOk vars (l.getD k st0).lits && hintsOk ((n : Int) + k) (l.getD k st0).hints
/-- What the last step needs: itself, and what a needed one has as a hint. -/
inductive Need (n : Nat) (l : List St) : Nat → Prop
  | last {k : Nat} : k + 1 = l.length → Need n l k
  | hint {j k : Nat} : Need n l j → k < j → ((n + k : Nat) : Int) ∈ (l.getD j st0).hints → Need n l k
theorem Need.lt {n : Nat} {l : List St} {k : Nat} (h : Need n l k) : k < l.length := by
  induction h with
  | last e => omega
  | hint _ h2 _ ih => omega
open Classical in
noncomputable def needB (n : Nat) (l : List St) (k : Nat) : Bool := decide (Need n l k)
theorem needB_iff {n : Nat} {l : List St} {k : Nat} : needB n l k = true ↔ Need n l k := by simp [needB]
/-- How many needed steps come ahead. -/
noncomputable def rankN (n : Nat) (l : List St) (k : Nat) : Nat := (List.range k).countP (needB n l)
theorem rank_succ (n : Nat) (l : List St) (k : Nat) : rankN n l (k + 1) = rankN n l k + if needB n l k then 1 else 0 := by
  unfold rankN
  rw [List.range_succ, List.countP_append]
  by_cases h : needB n l k = true <;> simp [h]
theorem rank_le {n : Nat} {l : List St} {i k : Nat} (h : i ≤ k) : rankN n l i ≤ rankN n l k := by
  induction k with
  | zero => have : i = 0 := by omega
            subst this; exact Nat.le_refl _
  | succ k ih =>
    rcases Nat.eq_or_lt_of_le h with e | e
    · subst e; exact Nat.le_refl _
    · have := ih (by omega)
      rw [rank_succ]; omega
theorem rank_lt {n : Nat} {l : List St} {i k : Nat} (h : i < k) (hn : Need n l i) : rankN n l i < rankN n l k := by
  have h1 := rank_le (n := n) (l := l) (show i + 1 ≤ k by omega)
  rw [rank_succ, if_pos (needB_iff.2 hn)] at h1
  omega
/-- The new number of a hint. -/
noncomputable def renN (n : Nat) (l : List St) (h : Int) : Int := if h < n then h else ((n + rankN n l (h - n).toNat : Nat) : Int)
noncomputable def stepN (n : Nat) (l : List St) (k : Nat) : St := ⟨(l.getD k st0).lits, (l.getD k st0).hints.map (renN n l)⟩
noncomputable def trimTo (n : Nat) (l : List St) (k : Nat) : List St := ((List.range k).filter (needB n l)).map (stepN n l)
noncomputable def trimL (n : Nat) (l : List St) : List St := trimTo n l l.length
theorem trimTo_succ (n : Nat) (l : List St) (k : Nat) : trimTo n l (k + 1) = if needB n l k then trimTo n l k ++ [stepN n l k] else trimTo n l k := by
  unfold trimTo
  rw [List.range_succ, List.filter_append, List.map_append]
  by_cases h : needB n l k = true <;> simp [h]
theorem trimTo_len (n : Nat) (l : List St) (k : Nat) : (trimTo n l k).length = rankN n l k := by
  unfold trimTo rankN
  rw [List.length_map, List.countP_eq_length_filter]
theorem trimTo_at {n : Nat} {l : List St} : ∀ {k i : Nat}, i < k → Need n l i → (trimTo n l k)[rankN n l i]? = some (stepN n l i) := by
  intro k
  induction k with
  | zero => intro i h; omega
  | succ k ih =>
    intro i hi hn
    rw [trimTo_succ]
    by_cases e : i = k
    · subst e
      rw [if_pos (needB_iff.2 hn), List.getElem?_append_right (by rw [trimTo_len]; exact Nat.le_refl _), trimTo_len]; simp
    · have h1 := ih (show i < k by omega) hn
      split
      · rw [List.getElem?_append_left (by rw [trimTo_len]; exact rank_lt (by omega) hn)]; exact h1
      · exact h1
theorem trim_at {n : Nat} {l : List St} {i : Nat} (hn : Need n l i) : (trimL n l).getD (rankN n l i) st0 = stepN n l i := by
  have := trimTo_at hn.lt hn
  unfold trimL
  simp [List.getD, this]
/-- Each place of the trimmed refutation is that of a needed step. -/
theorem trim_of {n : Nat} {l : List St} : ∀ {k p : Nat}, p < rankN n l k → ∃ i, i < k ∧ Need n l i ∧ rankN n l i = p := by
  intro k
  induction k with
  | zero => intro p h; simp [rankN] at h
  | succ k ih =>
    intro p h
    rw [rank_succ] at h
    by_cases hn : needB n l k = true
    · rw [if_pos hn] at h
      by_cases e : p = rankN n l k
      · exact ⟨k, Nat.lt_succ_self _, needB_iff.1 hn, e.symm⟩
      · obtain ⟨i, h1, h2, h3⟩ := ih (show p < rankN n l k by omega)
        exact ⟨i, by omega, h2, h3⟩
    · rw [if_neg hn] at h
      obtain ⟨i, h1, h2, h3⟩ := ih (show p < rankN n l k by omega)
      exact ⟨i, by omega, h2, h3⟩
theorem trim_len (n : Nat) (l : List St) : (trimL n l).length = rankN n l l.length := trimTo_len _ _ _
theorem rank_bd (n : Nat) (l : List St) (k : Nat) : rankN n l k ≤ k := by
  have := List.countP_le_length (p := needB n l) (l := List.range k)
  simpa [rankN] using this
theorem need_last {n : Nat} {l : List St} (h : l ≠ []) : Need n l (l.length - 1) := by
  have : 0 < l.length := List.length_pos_iff.2 h
  exact .last (by omega)
theorem rank_last {n : Nat} {l : List St} (h : l ≠ []) : rankN n l (l.length - 1) + 1 = rankN n l l.length := by
  have h0 : 0 < l.length := List.length_pos_iff.2 h
  have := rank_succ n l (l.length - 1)
  rw [if_pos (needB_iff.2 (need_last h)), show l.length - 1 + 1 = l.length by omega] at this
  exact this.symm
/-- The renumbered hints of a needed step. -/
structure ValidP (vars : Int) (n : Nat) (l : List St) : Prop where
  len : l.length ≤ 20000
  lits : ∀ k, k < l.length → litsOk vars (l.getD k st0).lits = true
  hints : ∀ k, k < l.length → ∀ h ∈ (l.getD k st0).hints, 0 ≤ h ∧ h < (n : Int) + k
theorem valid_iff {vars : Int} {n : Nat} {l : List St} : validP vars n l = true ↔ ValidP vars n l := by
  unfold validP hintsOk
  rw [Bool.and_eq_true, decide_eq_true_eq, List.all_eq_true]
  constructor
  · rintro ⟨h1, h2⟩
    refine ⟨h1, fun k hk => ?_, fun k hk h hh => ?_⟩
    · have := h2 k (List.mem_range.2 hk)
      rw [Bool.and_eq_true] at this; exact this.1
    · have := h2 k (List.mem_range.2 hk)
      rw [Bool.and_eq_true, List.all_eq_true] at this
      simpa using this.2 h hh
  · rintro ⟨h1, h2, h3⟩
    refine ⟨h1, fun k hk => ?_⟩
    have hk' := List.mem_range.1 hk
    rw [Bool.and_eq_true, List.all_eq_true]
    exact ⟨h2 k hk', fun h hh => by simpa using h3 k hk' h hh⟩
section
variable {vars : Int} {n : Nat} {l : List St} (hv : ValidP vars n l)
include hv
theorem hint_need {k : Nat} (hk : Need n l k) {h : Int} (hh : h ∈ (l.getD k st0).hints) (hn : (n : Int) ≤ h) : ∃ j : Nat, h = ((n + j : Nat) : Int) ∧ j < k ∧ Need n l j ∧ renN n l h = ((n + rankN n l j : Nat) : Int) := by
  have hb := hv.hints k hk.lt h hh
  obtain ⟨j, hj⟩ : ∃ j : Nat, h = ((n + j : Nat) : Int) := ⟨(h - n).toNat, by omega⟩
  have hjk : j < k := by omega
  refine ⟨j, hj, hjk, .hint hk hjk (hj ▸ hh), ?_⟩
  unfold renN
  rw [if_neg (by omega), hj, show (((n + j : Nat) : Int) - n).toNat = j by omega]
/-- The trimmed refutation is well-formed. -/
theorem trim_valid : ValidP vars n (trimL n l) := by
  have hat : ∀ p, p < (trimL n l).length → ∃ i, i < l.length ∧ Need n l i ∧ rankN n l i = p ∧ (trimL n l).getD p st0 = stepN n l i := fun p hp => by
    rw [trim_len] at hp
    obtain ⟨i, h1, h2, h3⟩ := trim_of hp
    exact ⟨i, h1, h2, h3, h3 ▸ trim_at h2⟩
  refine ⟨?_, fun p hp => ?_, fun p hp h hh => ?_⟩
  · rw [trim_len]; exact Nat.le_trans (rank_bd _ _ _) hv.len
  · obtain ⟨i, h1, _, _, e⟩ := hat p hp
    rw [e]; exact hv.lits i h1
  · obtain ⟨i, h1, h2, h3, e⟩ := hat p hp
    rw [e] at hh
    obtain ⟨g, hg, rfl⟩ := List.mem_map.1 hh
    have hb := hv.hints i h1 g hg
    by_cases c : g < n
    · unfold renN; rw [if_pos c]; omega
    · obtain ⟨j, _, hji, hnj, er⟩ := hint_need hv h2 hg (by omega)
      rw [er]
      have := rank_lt hji hnj
      omega
/-- A step of the trimmed one, not the last, is a hint of a later one. -/
theorem trim_used {p : Nat} (hp : p + 1 < (trimL n l).length) : ∃ q, p < q ∧ q < (trimL n l).length ∧ ((n + p : Nat) : Int) ∈ ((trimL n l).getD q st0).hints := by
  rw [trim_len] at hp
  obtain ⟨i, h1, h2, h3⟩ := trim_of (show p < rankN n l l.length by omega)
  have hne : l ≠ [] := fun e => by subst e; simp at h1
  cases h2 with
  | last e =>
    have := rank_last (n := n) hne
    rw [show l.length - 1 = i by omega] at this
    omega
  | @hint j _ hj hij hm =>
    refine ⟨rankN n l j, by rw [← h3]; exact rank_lt hij (.hint hj hij hm), by rw [trim_len]; exact rank_lt hj.lt hj, ?_⟩
    rw [trim_at hj]
    refine List.mem_map.2 ⟨_, hm, ?_⟩
    unfold renN
    rw [if_neg (by omega), show (((n + i : Nat) : Int) - n).toNat = i by omega, h3]
omit hv in
/-- The last step keeps its literals. -/
theorem trim_last (hne : l ≠ []) : 0 < (trimL n l).length ∧ ((trimL n l).getD ((trimL n l).length - 1) st0).lits = (l.getD (l.length - 1) st0).lits := by
  have h1 := rank_last (n := n) hne
  rw [trim_len]
  refine ⟨by omega, ?_⟩
  rw [show rankN n l l.length - 1 = rankN n l (l.length - 1) by omega, trim_at (need_last hne)]
  rfl
end
/-- A refutation whose steps are all needed is not changed. -/
theorem trim_same {n : Nat} {l : List St} (h : ∀ k, k < l.length → Need n l k) (hb : ∀ k, k < l.length → ∀ g ∈ (l.getD k st0).hints, g < (n : Int) + k) : trimL n l = l := by
  have hr : ∀ k, k ≤ l.length → rankN n l k = k := by
    intro k
    induction k with
    | zero => intro _; rfl
    | succ k ih => intro hk; rw [rank_succ, if_pos (needB_iff.2 (h k (by omega))), ih (by omega)]
  apply List.ext_getElem (by rw [trim_len, hr _ (Nat.le_refl _)])
  intro i h1 h2
  have h3 := trim_at (h i h2)
  rw [hr i (by omega)] at h3
  have e1 : (trimL n l).getD i st0 = (trimL n l)[i] := by simp [List.getD, h1]
  have e2 : l.getD i st0 = l[i] := by simp [List.getD, h2]
  rw [e1] at h3
  rw [h3]
  unfold stepN
  have hm : (l.getD i st0).hints.map (renN n l) = (l.getD i st0).hints := by
    refine (List.map_congr_left (g := id) fun g hg => ?_).trans (List.map_id _)
    unfold renN
    split
    · rfl
    · have := hb i h2 g hg
      rw [hr _ (by omega)]
      show _ = g
      omega
  rw [hm, e2]
theorem trim_twice {vars : Int} {n : Nat} {l : List St} (hv : ValidP vars n l) : trimL n (trimL n l) = trimL n l := by
  refine trim_same (fun k hk => ?_) fun k hk g hg => ((trim_valid hv).hints k hk g hg).2
  have key : ∀ d k, k < (trimL n l).length → (trimL n l).length - 1 - k ≤ d → Need n (trimL n l) k := by
    intro d
    induction d with
    | zero => intro k hk hd; exact .last (by omega)
    | succ d ih =>
      intro k hk hd
      by_cases e : k + 1 = (trimL n l).length
      · exact .last e
      · obtain ⟨q, h1, h2, h3⟩ := trim_used hv (show k + 1 < (trimL n l).length by omega)
        exact .hint (ih q h2 (by omega)) h1 h3
  exact key _ k hk (Nat.le_refl _)
end Go.Proofs.YtnkhaobokmmnjaaDoor
