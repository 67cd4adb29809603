/-
  The plain laws of ProofJustified, ProofPrefixes and ProofLiterals. No program in sight.
-/
import Derived.Test.YtoopoljchhdobaaDoorPl1
namespace Go.Proofs.YtoopoljchhdobaaDoor
open Go.RowKit

/-- The clause with a number. -/
def clauseS (cl : List (List Int)) (l : List St) (h : Int) : List Int := if h < (cl.length : Int) then cl.getD h.toNat [] else (l.getD (h - (cl.length : Int)).toNat st0).lits
def openL (held : List Int) : List Int → List Int → List Int
  | [], o => o
  | x :: r, o => openL held r (if ¬ (wrap64 (-x) ∈ held) ∧ ¬ (x ∈ o) then o ++ [x] else o)
def justF (held : List Int) : List (List Int) → Bool
  | [] => false
  | c :: r => if (openL held c []).length = 0 then decide (r = []) else if 1 < (openL held c []).length ∨ (openL held c []).getD 0 0 ∈ held then false else justF (held ++ [(openL held c []).getD 0 0]) r
def jsP (cl : List (List Int)) (l : List St) (k : Nat) : Bool := justF ((l.getD k st0).lits.map fun x => wrap64 (-x)) ((l.getD k st0).hints.map (clauseS cl l))
theorem js_trim {vars : Int} {cl : List (List Int)} {l : List St} (hv : ValidP vars cl.length l) {i : Nat} (hi : Need cl.length l i) : jsP cl (trimL cl.length l) (rankN cl.length l i) = jsP cl l i := by
  unfold jsP
  rw [trim_at hi]
  unfold stepN
  dsimp only
  rw [List.map_map]
  congr 1
  refine List.map_congr_left fun h hh => ?_
  have hb := hv.hints i hi.lt h hh
  show clauseS cl (trimL cl.length l) (renN cl.length l h) = clauseS cl l h
  by_cases c : h < (cl.length : Int)
  · unfold renN; rw [if_pos c]; unfold clauseS; rw [if_pos c, if_pos c]
  · obtain ⟨j, hj, hji, hnj, er⟩ := hint_need hv hi hh (by omega)
    rw [er]
    unfold clauseS
    rw [if_neg (by omega), if_neg c, show (((cl.length + rankN cl.length l j : Nat) : Int) - (cl.length : Int)).toNat = rankN cl.length l j by omega, trim_at hnj, hj, show (((cl.length + j : Nat) : Int) - (cl.length : Int)).toNat = j by omega]
    rfl
theorem all_trim {vars : Int} {cl : List (List Int)} {l : List St} (hv : ValidP vars cl.length l) (h : ∀ k, k < l.length → jsP cl l k = true) : ∀ p, p < (trimL cl.length l).length → jsP cl (trimL cl.length l) p = true := by
  intro p hp
  rw [trim_len] at hp
  obtain ⟨i, h1, h2, h3⟩ := trim_of hp
  rw [← h3, js_trim hv h2]
  exact h i h1

/-- Two refutations with the same hints. -/
structure SameH (l m : List St) : Prop where
  len : l.length = m.length
  hints : ∀ k, (l.getD k st0).hints = (m.getD k st0).hints
theorem SameH.need {n : Nat} {l m : List St} (h : SameH l m) {k : Nat} (hk : Need n l k) : Need n m k := by
  induction hk with
  | last e => exact .last (by rw [← h.len]; exact e)
  | @hint j k _ h2 h3 ih => exact .hint ih h2 (by rw [← h.hints]; exact h3)
theorem SameH.symm {l m : List St} (h : SameH l m) : SameH m l := ⟨h.len.symm, fun k => (h.hints k).symm⟩
theorem SameH.needB {n : Nat} {l m : List St} (h : SameH l m) : needB n l = needB n m := by
  funext k
  rw [Bool.eq_iff_iff, needB_iff, needB_iff]
  exact ⟨h.need, h.symm.need⟩
theorem SameH.rank {n : Nat} {l m : List St} (h : SameH l m) : rankN n l = rankN n m := by
  funext k; unfold rankN; rw [h.needB]
theorem SameH.trim {n : Nat} {l m : List St} (h : SameH l m) : (trimL n l).map St.hints = (trimL n m).map St.hints ∧ (trimL n l).length = (trimL n m).length := by
  have hr : renN n l = renN n m := by funext x; unfold renN; rw [h.rank]
  refine ⟨?_, by rw [trim_len, trim_len, h.rank, h.len]⟩
  unfold trimL trimTo
  rw [List.map_map, List.map_map, h.needB, h.len]
  refine List.map_congr_left fun k _ => ?_
  show (stepN n l k).hints = (stepN n m k).hints
  unfold stepN
  dsimp only
  rw [h.hints, hr]
theorem SameH.lits {n : Nat} {l m : List St} (h : SameH l m) (hl : ∀ k, (l.getD k st0).lits.length = (m.getD k st0).lits.length) : (trimL n l).map (fun s => s.lits.length) = (trimL n m).map (fun s => s.lits.length) := by
  unfold trimL trimTo
  rw [List.map_map, List.map_map, h.needB, h.len]
  exact List.map_congr_left fun k _ => hl k

section
variable {n : Nat} {l : List St} {k : Nat} (hk : k < l.length)
def longL (n : Nat) (l : List St) (k : Nat) : List St := l ++ [⟨[], [((n + k : Nat) : Int)]⟩]
theorem long_old {j : Nat} (hj : j < l.length) : (longL n l k).getD j st0 = l.getD j st0 := by
  unfold longL; simp [List.getD, List.getElem?_append_left hj]
theorem long_new : (longL n l k).getD l.length st0 = ⟨[], [((n + k : Nat) : Int)]⟩ := by
  unfold longL; simp [List.getD]
theorem long_len : (longL n l k).length = l.length + 1 := by simp [longL]
theorem pre_old {j : Nat} (hj : j ≤ k) : (l.take (k + 1)).getD j st0 = l.getD j st0 := by
  simp only [List.getD_eq_getElem?_getD, List.getElem?_take]
  rw [if_pos (by omega)]
include hk
theorem pre_len : (l.take (k + 1)).length = k + 1 := by simp; omega
theorem need_long (j : Nat) : Need n (longL n l k) j ↔ j = l.length ∨ Need n (l.take (k + 1)) j := by
  constructor
  · intro h
    induction h with
    | last e => rw [long_len] at e; exact .inl (by omega)
    | @hint j i h1 h2 h3 ih =>
      right
      rcases ih with e | e
      · subst e
        rw [long_new] at h3
        simp only [List.mem_singleton] at h3
        have : i = k := by omega
        subst this
        exact .last (by rw [pre_len hk])
      · have hj : j < k + 1 := by have := e.lt; rwa [pre_len hk] at this
        rw [long_old (by omega), ← pre_old (k := k) (by omega)] at h3
        exact .hint e h2 h3
  · rintro (e | e)
    · subst e; exact .last (by rw [long_len])
    · induction e with
      | last e =>
        rw [pre_len hk] at e
        refine .hint (j := l.length) (.last (by rw [long_len])) (by omega) ?_
        rw [long_new]
        simp; omega
      | @hint j i h1 h2 h3 ih =>
        have hj : j < k + 1 := by have := h1.lt; rwa [pre_len hk] at this
        rw [pre_old (by omega), ← long_old (n := n) (k := k) (by omega)] at h3
        exact .hint ih h2 h3
theorem rank_long : ∀ {j : Nat}, j ≤ l.length → rankN n (longL n l k) j = rankN n (l.take (k + 1)) (min j (k + 1)) := by
  intro j
  induction j with
  | zero => intro _; simp [rankN]
  | succ j ih =>
    intro hj
    have h1 := ih (by omega)
    rw [rank_succ, h1]
    have hb : needB n (longL n l k) j = needB n (l.take (k + 1)) j := by
      rw [Bool.eq_iff_iff, needB_iff, needB_iff, need_long hk]
      exact ⟨fun h => h.resolve_left (by omega), .inr⟩
    rw [hb]
    by_cases c : j < k + 1
    · rw [show min (j + 1) (k + 1) = min j (k + 1) + 1 by omega, rank_succ, show min j (k + 1) = j by omega]
    · have : needB n (l.take (k + 1)) j = false := by
        rw [Bool.eq_false_iff]
        intro h
        have := (needB_iff.1 h).lt
        rw [pre_len hk] at this; omega
      rw [this, show min (j + 1) (k + 1) = min j (k + 1) by omega]; simp
/-- The trimmed refutation consists of the trimmed first steps and the appended step. -/
theorem trim_long {vars : Int} (hv : ValidP vars n l) : trimL n (longL n l k) = trimL n (l.take (k + 1)) ++ [⟨[], [((n + ((trimL n (l.take (k + 1))).length - 1) : Nat) : Int)]⟩] := by
  have hpl := pre_len hk
  have hne : l.take (k + 1) ≠ [] := fun e => by rw [e] at hpl; simp at hpl
  have hvp : ValidP vars n (l.take (k + 1)) := ⟨by rw [hpl]; have := hv.len; omega, fun j hj => by rw [hpl] at hj; rw [pre_old (by omega)]; exact hv.lits j (by omega), fun j hj => by rw [hpl] at hj; rw [pre_old (by omega)]; exact hv.hints j (by omega)⟩
  have hlen : (trimL n (longL n l k)).length = (trimL n (l.take (k + 1))).length + 1 := by
    rw [trim_len, trim_len, long_len, rank_succ, if_pos (needB_iff.2 ((need_long hk _).2 (.inl rfl))), rank_long hk (Nat.le_refl _), show min l.length (k + 1) = k + 1 by omega, hpl]
  have hrk : ∀ i, i ≤ k → rankN n (longL n l k) i = rankN n (l.take (k + 1)) i := fun i hi => by
    rw [rank_long hk (by omega), show min i (k + 1) = i by omega]
  apply List.ext_getElem (by simp [hlen])
  intro p h1 h2
  have e1 : (trimL n (longL n l k)).getD p st0 = (trimL n (longL n l k))[p] := by simp [List.getD, h1]
  rw [← e1]
  by_cases c : p < (trimL n (l.take (k + 1))).length
  · rw [List.getElem_append_left c]
    have hp := c
    rw [trim_len] at hp
    obtain ⟨i, g1, g2, g3⟩ := trim_of hp
    rw [hpl] at g1
    have hi := (need_long hk i).2 (.inr g2)
    have e2 := trim_at g2
    have e3 := trim_at hi
    rw [g3] at e2
    rw [hrk i (by omega), g3] at e3
    have e4 : (trimL n (l.take (k + 1))).getD p st0 = (trimL n (l.take (k + 1)))[p] := by simp [List.getD, c]
    rw [e3, ← e4, e2]
    unfold stepN
    rw [long_old (by omega), pre_old (by omega)]
    congr 1
    refine List.map_congr_left fun h hh => ?_
    have hb := hv.hints i (by omega) h hh
    unfold renN
    split
    · rfl
    · rw [hrk _ (by omega)]
  · have hp : p = (trimL n (l.take (k + 1))).length := by rw [hlen] at h1; omega
    subst hp
    rw [List.getElem_append_right (Nat.le_refl _)]
    simp only [Nat.sub_self, List.getElem_cons_zero]
    have hi := (need_long (n := n) hk l.length).2 (.inl rfl)
    have e3 := trim_at hi
    have hr : rankN n (longL n l k) l.length = (trimL n (l.take (k + 1))).length := by
      rw [rank_long hk (Nat.le_refl _), show min l.length (k + 1) = k + 1 by omega, trim_len, hpl]
    rw [hr] at e3
    rw [e3]
    unfold stepN
    rw [long_new]
    congr 1
    simp only [List.map_cons, List.map_nil]
    congr 1
    unfold renN
    rw [if_neg (by omega), show (((n + k : Nat) : Int) - n).toNat = k by omega, hrk k (Nat.le_refl _)]
    have := rank_last (n := n) hne
    rw [hpl] at this
    rw [trim_len, hpl]
    simp only [Nat.add_sub_cancel] at this
    congr 1; omega
end
end Go.Proofs.YtoopoljchhdobaaDoor
