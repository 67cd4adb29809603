/-
  Plain laws of formulas in conjunctive normal form: values, order of clauses, resolution, parts.
-/
import Derived.Test.YtnkhaobokmmnjaaDoorPl1
namespace Go.Proofs.YtnkhaobokmmnjaaDoor

def litOk (vars l : Int) : Bool := !(l == 0) && decide (l ≤ vars) && decide (-vars ≤ l)
/-- U1: a well-formed formula. -/
def validC (vars : Int) (cl : List (List Int)) : Bool := decide (0 ≤ vars) && decide (vars ≤ 8000) && decide (cl.length ≤ 40000) && cl.all fun c => c.all (litOk vars)
def litT (vs : List Bool) (l : Int) : Bool := (decide (absI l ≤ vs.length) && vs.getD (absI l - 1).toNat false) == decide (0 < l)
def clauseT (vs : List Bool) (c : List Int) : Bool := c.any (litT vs)
def evalC (vars : Int) (cl : List (List Int)) (vs : List Bool) : Bool := validC vars cl && cl.all (clauseT vs)
/-- The order of clauses: the first difference; a proper prefix comes first. -/
def ordC : List Int → List Int → Int
  | [], [] => 0
  | [], _ :: _ => -1
  | _ :: _, [] => 1
  | x :: a, y :: b => if x < y then -1 else if y < x then 1 else ordC a b

theorem absI_nn (l : Int) : 0 ≤ absI l := by unfold absI; split <;> omega
theorem absI_neg (l : Int) : absI (-l) = absI l := by unfold absI; split <;> split <;> omega
theorem absI_ok {vars l : Int} (h : litOk vars l = true) : 1 ≤ absI l ∧ absI l ≤ vars ∧ l ≠ 0 := by
  unfold litOk at h; simp at h
  unfold absI; split <;> omega
theorem litT_neg {l : Int} (vs : List Bool) (h : l ≠ 0) : litT vs (-l) = !litT vs l := by
  unfold litT
  rw [absI_neg]
  have : decide (0 < -l) = !decide (0 < l) := by
    by_cases c : 0 < l
    · rw [decide_eq_true c, decide_eq_false (by omega)]; rfl
    · rw [decide_eq_false c, decide_eq_true (by omega)]; rfl
  rw [this]
  cases (decide (absI l ≤ vs.length) && vs.getD (absI l - 1).toNat false) <;> cases decide (0 < l) <;> rfl
theorem ordC_self (a : List Int) : ordC a a = 0 := by
  induction a with
  | nil => rfl
  | cons x a ih => simp [ordC, ih]
theorem ordC_eq {a b : List Int} : ordC a b = 0 ↔ a = b := by
  constructor
  · intro h
    induction a generalizing b with
    | nil => cases b with
      | nil => rfl
      | cons y b => simp [ordC] at h
    | cons x a ih => cases b with
      | nil => simp [ordC] at h
      | cons y b =>
        unfold ordC at h
        split at h
        · omega
        · split at h
          · omega
          · rw [ih h]; congr 1; omega
  · rintro rfl; exact ordC_self _
theorem ordC_range (a b : List Int) : ordC a b = -1 ∨ ordC a b = 0 ∨ ordC a b = 1 := by
  induction a generalizing b with
  | nil => cases b <;> simp [ordC]
  | cons x a ih => cases b with
    | nil => simp [ordC]
    | cons y b =>
      unfold ordC
      split
      · simp
      · split
        · simp
        · exact ih b
theorem ordC_neg (a b : List Int) : ordC b a = -ordC a b := by
  induction a generalizing b with
  | nil => cases b <;> simp [ordC]
  | cons x a ih => cases b with
    | nil => simp [ordC]
    | cons y b =>
      unfold ordC
      by_cases h1 : x < y
      · rw [if_pos h1, if_neg (by omega), if_pos h1]; rfl
      · by_cases h2 : y < x
        · rw [if_pos h2, if_neg h1, if_pos h2]
        · rw [if_neg h2, if_neg h1, if_neg h1, if_neg h2]; exact ih b
theorem ordC_trans {a b c : List Int} (h1 : ordC a b < 0) (h2 : ordC b c < 0) : ordC a c < 0 := by
  induction a generalizing b c with
  | nil =>
    cases c with
    | nil => cases b <;> simp [ordC] at h1 h2
    | cons z c => simp [ordC]
  | cons x a ih =>
    cases b with
    | nil => simp [ordC] at h1
    | cons y b =>
      cases c with
      | nil => simp [ordC] at h2
      | cons z c =>
        unfold ordC at h1 h2 ⊢
        by_cases g1 : x < y
        · by_cases g2 : y < z
          · rw [if_pos (by omega)]; omega
          · rw [if_neg g2] at h2
            by_cases g3 : z < y
            · rw [if_pos g3] at h2; omega
            · rw [if_pos (by omega)]; omega
        · rw [if_neg g1] at h1
          by_cases g3 : y < x
          · rw [if_pos g3] at h1; omega
          · rw [if_neg g3] at h1
            by_cases g2 : y < z
            · rw [if_pos (by omega)]; omega
            · rw [if_neg g2] at h2
              by_cases g4 : z < y
              · rw [if_pos g4] at h2; omega
              · rw [if_neg g4] at h2
                rw [if_neg (by omega), if_neg (by omega)]
                exact ih h1 h2
/-- A valid formula divided in two. -/
theorem validC_parts {vars : Int} {cl a b : List (List Int)} (hv : validC vars cl = true) (ha : ∀ c ∈ a, c ∈ cl) (hb : ∀ c ∈ b, c ∈ cl) (hal : a.length ≤ 40000) (hbl : b.length ≤ 40000) (hall : ∀ c ∈ cl, c ∈ a ∨ c ∈ b) (vs : List Bool) :
    validC vars a = true ∧ validC vars b = true ∧ evalC vars cl vs = (evalC vars a vs && evalC vars b vs) := by
  unfold validC at hv
  simp only [Bool.and_eq_true, decide_eq_true_eq, List.all_eq_true] at hv
  have h1 : validC vars a = true := by
    unfold validC; simp only [Bool.and_eq_true, decide_eq_true_eq, List.all_eq_true]
    exact ⟨⟨hv.1.1, hal⟩, fun c hc => hv.2 c (ha c hc)⟩
  have h2 : validC vars b = true := by
    unfold validC; simp only [Bool.and_eq_true, decide_eq_true_eq, List.all_eq_true]
    exact ⟨⟨hv.1.1, hbl⟩, fun c hc => hv.2 c (hb c hc)⟩
  have h0 : validC vars cl = true := by
    unfold validC; simp only [Bool.and_eq_true, decide_eq_true_eq, List.all_eq_true]; exact hv
  refine ⟨h1, h2, ?_⟩
  unfold evalC
  rw [h0, h1, h2, Bool.true_and, Bool.true_and, Bool.true_and, Bool.eq_iff_iff]
  simp only [Bool.and_eq_true, List.all_eq_true]
  constructor
  · intro h; exact ⟨fun c hc => h c (ha c hc), fun c hc => h c (hb c hc)⟩
  · intro h c hc
    rcases hall c hc with g | g
    · exact h.1 c g
    · exact h.2 c g
/-- The resolvent of two clauses that are true is true. -/
theorem resolvent_true {vs : List Bool} {c d o : List Int} {l : Int} (hl0 : l ≠ 0) (hc : clauseT vs c = true) (hd : clauseT vs d = true) (ho : ∀ x, (x ∈ c ∧ x ≠ l) ∨ (x ∈ d ∧ x ≠ -l) → x ∈ o) : clauseT vs o = true := by
  unfold clauseT at *
  rw [List.any_eq_true] at *
  obtain ⟨x, hx, hxt⟩ := hc
  obtain ⟨y, hy, hyt⟩ := hd
  by_cases e : x = l
  · subst e
    have : y ≠ -x := by
      rintro rfl
      rw [litT_neg vs hl0, hxt] at hyt; cases hyt
    exact ⟨y, ho y (.inr ⟨hy, this⟩), hyt⟩
  · exact ⟨x, ho x (.inl ⟨hx, e⟩), hxt⟩
end Go.Proofs.YtnkhaobokmmnjaaDoor
