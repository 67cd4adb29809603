/-
  Bounds on what Parse's reader holds (plain).
-/
import Derived.Test.YtnkhaobokmmnjaaDoorCp1
namespace Go.Proofs.YtnkhaobokmmnjaaDoor

structure RdB (s : RdC) (n : Nat) : Prop where
  clause : s.clause.length ≤ n
  cls : s.cls.length ≤ 40000
  yes : s.begun = true → (s.cls.length : Int) ≤ s.count ∧ s.count ≤ 40000
  no : s.begun = false → s = rd0
theorem RdB.mono {s : RdC} {n m : Nat} (h : RdB s n) (hm : n ≤ m) : RdB s m := ⟨Nat.le_trans h.clause hm, h.cls, h.yes, h.no⟩
theorem RdB.start : RdB rd0 0 := ⟨Nat.le_refl _, by simp [rd0], fun h => by simp [rd0] at h, fun _ => rfl⟩
theorem litR_B {s s' : RdC} {w : List UInt8} {n : Nat} (h : RdB s n) (hb : s.begun = true) (hl : litR s w = .ok s') : RdB s' (n + 1) ∧ s'.begun = true := by
  obtain ⟨h1, h2⟩ := h.yes hb
  unfold litR at hl
  split at hl
  · cases hl
  · split at hl
    · cases hl
    · next hne =>
      split at hl
      · cases hl
      · split at hl
        · simp only [Except.ok.injEq] at hl
          subst hl
          refine ⟨⟨by simp, ?_, fun _ => ?_, fun e => ?_⟩, hb⟩
          · simp only [List.length_append, List.length_singleton]; omega
          · simp only [List.length_append, List.length_singleton]; omega
          · simp only at e; rw [hb] at e; cases e
        · simp only [Except.ok.injEq] at hl
          subst hl
          refine ⟨⟨?_, h.cls, fun _ => h.yes hb, fun e => ?_⟩, hb⟩
          · have := h.clause; simp only [List.length_append, List.length_singleton]; omega
          · simp only at e; rw [hb] at e; cases e
theorem litsR_B : ∀ (ws : List (List UInt8)) {s s' : RdC} {n : Nat}, RdB s n → s.begun = true → litsR s ws = .ok s' → RdB s' (n + ws.length) ∧ s'.begun = true := by
  intro ws
  induction ws with
  | nil => intro s s' n h hb hl; simp only [litsR, Except.ok.injEq] at hl; subst hl; exact ⟨h, hb⟩
  | cons w ws ih =>
    intro s s' n h hb hl
    rw [litsR] at hl
    cases h1 : litR s w with
    | error e => rw [h1] at hl; cases hl
    | ok s1 =>
      rw [h1] at hl
      obtain ⟨g1, g2⟩ := litR_B h hb h1
      obtain ⟨k1, k2⟩ := ih g1 g2 hl
      exact ⟨k1.mono (by simp; omega), k2⟩
theorem headR_ok {ws : List (List UInt8)} {v m : Int} (h : headR ws = .ok (v, m)) : 0 ≤ v ∧ v ≤ 8000 ∧ 0 ≤ m ∧ m ≤ 40000 := by
  unfold headR at h
  split at h
  · split at h
    · split at h
      · split at h
        · cases h
        · split at h
          · cases h
          · simp only [Except.ok.injEq, Prod.mk.injEq] at h
            omega
      · cases h
    · cases h
  · cases h
theorem headR_B {s : RdC} {ws : List (List UInt8)} {v m : Int} {n : Nat} (hs : RdB s n) (hb : s.begun = false) (h : headR ws = .ok (v, m)) : RdB { s with begun := true, vars := v, count := m } n := by
  have h1 := headR_ok h
  have h2 := hs.no hb
  subst h2
  exact ⟨hs.clause, hs.cls, fun _ => ⟨by simp [rd0]; omega, by simp; omega⟩, fun e => by cases e⟩
theorem words_len : ∀ (l cur : List UInt8), (wordsF cur l).length ≤ l.length + (if cur = [] then 0 else 1) := by
  intro l
  induction l with
  | nil => intro cur; unfold wordsF; split <;> simp
  | cons x l ih =>
    intro cur
    rw [wordsF]
    split
    · have := ih []
      simp only [if_true] at this
      split
      · simp; omega
      · simp; omega
    · have := ih (cur ++ [x])
      rw [if_neg (by simp)] at this
      simp; omega
theorem words_len' (l : List UInt8) : (wordsF [] l).length ≤ l.length := by have := words_len l []; simpa using this
theorem split_flat (c : UInt8) : ∀ t : List UInt8, (splitB c t).flatten.length ≤ t.length := by
  intro t
  induction t with
  | nil => simp [splitB]
  | cons x t ih =>
    rw [splitB]
    split
    · simp only [List.flatten_cons, List.length_append, List.length_nil, List.length_cons]; omega
    · cases h : splitB c t with
      | nil => exact absurd h (splitB_ne c t)
      | cons a b =>
        rw [h] at ih
        simp only [List.flatten_cons, List.length_append, List.length_cons] at ih ⊢; omega
theorem split_mem (c : UInt8) : ∀ t : List UInt8, ∀ l ∈ splitB c t, ∀ x ∈ l, x ∈ t := by
  intro t
  induction t with
  | nil => intro l hl x hx; simp [splitB] at hl; subst hl; simp at hx
  | cons y t ih =>
    intro l hl x hx
    rw [splitB] at hl
    split at hl
    · rcases List.mem_cons.1 hl with e | e
      · subst e; simp at hx
      · exact List.mem_cons_of_mem _ (ih l e x hx)
    · cases h : splitB c t with
      | nil => exact absurd h (splitB_ne c t)
      | cons a b =>
        rw [h] at hl ih
        rcases List.mem_cons.1 hl with e | e
        · subst e
          rcases List.mem_cons.1 hx with e | e
          · subst e; simp
          · exact List.mem_cons_of_mem _ (ih a (by simp) x e)
        · exact List.mem_cons_of_mem _ (ih l (by simp [e]) x hx)
theorem lines_flat (t : List UInt8) : (linesC t).flatten.length ≤ t.length := by
  have key : ∀ ls : List (List UInt8), (ls.filter fun l => !comC l).flatten.length ≤ ls.flatten.length := by
    intro ls
    induction ls with
    | nil => simp
    | cons a b ih =>
      rw [List.filter_cons]
      split
      · simp only [List.flatten_cons, List.length_append]; omega
      · simp only [List.flatten_cons, List.length_append]; omega
  exact Nat.le_trans (key _) (split_flat 10 t)
theorem lines_bound {t : List UInt8} {pre rest : List (List UInt8)} {x : List UInt8} (h : linesC t = pre ++ x :: rest) : pre.flatten.length + x.length ≤ t.length := by
  have := lines_flat t
  rw [h] at this
  simp only [List.flatten_append, List.flatten_cons, List.length_append] at this
  omega
theorem lines_mem {t : List UInt8} {pre rest : List (List UInt8)} {x : List UInt8} (h : linesC t = pre ++ x :: rest) : ∀ y ∈ x, y ∈ t := by
  refine split_mem 10 t x ?_
  have : x ∈ linesC t := by rw [h]; simp
  unfold linesC at this
  exact (List.mem_filter.1 this).1
theorem linesR_snoc (s : RdC) (pre : List (List UInt8)) (x : List UInt8) {s1 : RdC} (h : linesR s pre = .ok s1) : linesR s (pre ++ [x]) = lineR s1 x := by
  rw [linesR_append, h]
  simp only [linesR]
  cases lineR s1 x <;> rfl
/-- A line that fails, fails the text. -/
theorem linesR_bad {t : List UInt8} {pre rest : List (List UInt8)} {x : List UInt8} {s1 : RdC} {c : Int} (h : linesC t = pre ++ x :: rest) (h1 : linesR rd0 pre = .ok s1) (h2 : lineR s1 x = .error c) : parseF t = .error c := by
  unfold parseF
  rw [h, linesR_append, h1]
  simp only [linesR, h2]
theorem lineR_begun {s : RdC} {x : List UInt8} (hb : s.begun = true) (hw : wordsF [] x ≠ []) : lineR s x = litsR s (wordsF [] x) := by
  unfold lineR; rw [if_neg hw, if_pos hb]
theorem lineR_empty {s : RdC} {x : List UInt8} (hw : wordsF [] x = []) : lineR s x = .ok s := by unfold lineR; rw [if_pos hw]
theorem litsR_take {s s1 : RdC} {ws : List (List UInt8)} {j : Nat} (hj : j < ws.length) (h : litsR s (ws.take j) = .ok s1) : litsR s (ws.take (j + 1)) = litR s1 ws[j] := by
  rw [List.take_succ_eq_append_getElem hj, litsR_append, h]
  simp only [litsR]
  cases litR s1 ws[j] <;> rfl
theorem litsR_bad {s s1 : RdC} {ws : List (List UInt8)} {j : Nat} {c : Int} (hj : j < ws.length) (h : litsR s (ws.take j) = .ok s1) (h2 : litR s1 ws[j] = .error c) : litsR s ws = .error c := by
  have e : ws = ws.take j ++ ws[j] :: ws.drop (j + 1) := by rw [← List.drop_eq_getElem_cons hj, List.take_append_drop]
  rw [e, litsR_append, h]
  simp only [litsR, h2]
end Go.Proofs.YtnkhaobokmmnjaaDoor
