/-
  How long the texts of certificates are; what a certificate that was read is made of.
-/
import Derived.Test.YtoopoljchhdobaaDoorYc2
namespace Go.Proofs.YtoopoljchhdobaaDoor

theorem nDigits_5 {u : Nat} (h : u < 100000) : Lib.nDigits u ≤ 5 := by
  by_cases h1 : u < 10
  · rw [Lib.nDigits_small h1]; omega
  rw [Lib.nDigits_big h1]
  by_cases h2 : u / 10 < 10
  · rw [Lib.nDigits_small h2]; omega
  rw [Lib.nDigits_big h2]
  by_cases h3 : u / 10 / 10 < 10
  · rw [Lib.nDigits_small h3]; omega
  rw [Lib.nDigits_big h3]
  by_cases h4 : u / 10 / 10 / 10 < 10
  · rw [Lib.nDigits_small h4]; omega
  rw [Lib.nDigits_big h4, Lib.nDigits_small (show u / 10 / 10 / 10 / 10 < 10 by omega)]; omega
theorem itoa_6 {x : Int} (h0 : -100000 < x) (h1 : x < 100000) : (Lib.itoa x).length ≤ 6 := by
  unfold Lib.itoa
  split
  · rw [List.length_cons, Lib.decDigits_length]
    have := nDigits_5 (u := x.natAbs) (by omega); omega
  · rw [Lib.decDigits_length]
    have := nDigits_5 (u := x.toNat) (by omega); omega
theorem lit_len7 : ∀ l : List Int, (∀ x ∈ l, -100000 < x ∧ x < 100000) → (litText l).length ≤ 7 * l.length
  | [], _ => by simp [litText]
  | x :: r, h => by
    have ih := lit_len7 r fun y hy => h y (List.mem_cons_of_mem _ hy)
    have hx := h x (List.mem_cons_self ..)
    have := itoa_6 hx.1 hx.2
    have e : litText (x :: r) = (Lib.itoa x ++ [32]) ++ litText r := rfl
    rw [e, List.length_append]; simp; omega
theorem hint_len7 : ∀ l : List Int, (∀ x ∈ l, -100000 < x ∧ x < 100000) → (hintText l).length ≤ 7 * l.length
  | [], _ => by simp [hintText]
  | x :: r, h => by
    have ih := hint_len7 r fun y hy => h y (List.mem_cons_of_mem _ hy)
    have hx := h x (List.mem_cons_self ..)
    have := itoa_6 hx.1 hx.2
    have e : hintText (x :: r) = (32 :: Lib.itoa x) ++ hintText r := rfl
    rw [e, List.length_append]; simp; omega
theorem text_len7 : ∀ l : List St, (∀ s ∈ l, (∀ x ∈ s.lits, -100000 < x ∧ x < 100000) ∧ ∀ x ∈ s.hints, -100000 < x ∧ x < 100000) → (∀ s ∈ l, s.lits.length ≤ 100 ∧ s.hints.length ≤ 100) → (textL l).length ≤ 1402 * l.length
  | [], _, _ => by simp [textL]
  | s :: r, h, h1 => by
    have ih := text_len7 r (fun y hy => h y (List.mem_cons_of_mem _ hy)) (fun y hy => h1 y (List.mem_cons_of_mem _ hy))
    have a := lit_len7 s.lits (h s (List.mem_cons_self ..)).1; have b := hint_len7 s.hints (h s (List.mem_cons_self ..)).2
    have c := h1 s (List.mem_cons_self ..)
    have e : textL (s :: r) = stepText s ++ [10] ++ textL r := by simp [textL]
    rw [e]; unfold stepText; simp only [List.length_append, List.length_cons, List.length_nil]; omega
theorem prf_small {l : List St} (h : prfB l = true) : ∀ s ∈ l, (∀ x ∈ s.lits, -100000 < x ∧ x < 100000) ∧ ∀ x ∈ s.hints, -100000 < x ∧ x < 100000 := by
  unfold prfB at h
  rw [Bool.and_eq_true, List.all_eq_true] at h
  intro s hs
  have := h.2 s hs
  rw [Bool.and_eq_true, List.all_eq_true] at this
  refine ⟨fun x hx => ?_, fun x hx => ?_⟩
  · have h1 := this.1 x hx
    unfold litB at h1
    simp only [Bool.and_eq_true, decide_eq_true_eq] at h1
    omega
  · have h1 := this.2
    unfold withinB at h1
    rw [List.all_eq_true] at h1
    have := h1 x hx
    simp only [Bool.and_eq_true, decide_eq_true_eq] at this
    omega
theorem st_small {l : List Int} (h : stB l = true) : l.length ≤ 32 ∧ ∀ x ∈ l, -100000 < x ∧ x < 100000 := by
  unfold stB withinB at h
  rw [Bool.and_eq_true, List.all_eq_true, decide_eq_true_eq] at h
  refine ⟨h.2, fun x hx => ?_⟩
  have := h.1 x hx
  simp only [Bool.and_eq_true, decide_eq_true_eq] at this
  omega
theorem first_len {x : CertS} (h : usableB x = true) : (firstC x).length ≤ 120 := by
  obtain ⟨u1, u2, u3⟩ := usable_parts h
  have hid : x.id.length ≤ 64 := by unfold idB at u1; simp only [Bool.and_eq_true, decide_eq_true_eq] at u1; exact u1.1.2
  have hdg : x.dig.length = 16 := by unfold digB at u2; simp only [Bool.and_eq_true, decide_eq_true_eq] at u2; exact u2.1
  have hw : (wordC x.ver).length ≤ 6 := by unfold wordC; split; · decide
                                           split <;> decide
  have hp : x.ver = 1 → (Lib.itoa (x.prf.length : Int)).length ≤ 21 := fun e => by
    rcases rest_cases u3 with ⟨f, _⟩ | ⟨_, p, _⟩ | ⟨f, _⟩
    · rw [e] at f; exact absurd f (by decide)
    · have := (prf_ranged p).2.2
      have := itoa_6 (x := (x.prf.length : Int)) (by omega) (by omega)
      omega
    · rw [e] at f; exact absurd f (by decide)
  unfold firstC headC certW
  split
  · next e => have := hp e; simp; omega
  · simp; omega
/-- How long a text is, by its proof. -/
theorem certText_len {x : CertS} {N : Nat} (h : (textL x.prf).length ≤ N) : (textC x).length ≤ N + 700 := by
  unfold textC
  split
  · next hu =>
    have h1 := first_len hu
    obtain ⟨_, _, u3⟩ := usable_parts hu
    unfold textU tailC
    rw [List.length_append, List.length_cons]
    split
    · omega
    · split
      · rcases rest_cases u3 with ⟨f, p1, p2, p3⟩ | ⟨f, p1, p2, p3⟩ | ⟨f, p1, p2, p3, p4⟩
        · rw [p2, p3]; simp [lineS, hintText, oldW, nowW]; omega
        · rw [p2, p3]; simp [lineS, hintText, oldW, nowW]; omega
        · have a := st_small p3; have b := st_small p4
          have c := hint_len7 _ a.2; have d := hint_len7 _ b.2
          simp [lineS, oldW, nowW]; omega
      · simp; omega
  · simp
theorem certText_small {x : CertS} (h : x.prf.length ≤ 300) (h1 : ∀ s ∈ x.prf, s.lits.length ≤ 100 ∧ s.hints.length ≤ 100) : (textC x).length ≤ 500000 := by
  by_cases hu : usableB x = true
  · obtain ⟨_, _, u3⟩ := usable_parts hu
    have hp : (textL x.prf).length ≤ 420600 := by
      rcases rest_cases u3 with ⟨f, p1, _⟩ | ⟨f, p1, _⟩ | ⟨f, p1, _⟩
      · rw [p1]; simp [textL]
      · have := text_len7 _ (prf_small p1) h1; omega
      · rw [p1]; simp [textL]
    have := certText_len hp; omega
  · unfold textC; rw [if_neg hu]; simp
theorem nl_le {x : CertS} {N : Nat} (h2 : 2 ≤ N) (h : x.prf.length ≤ N) : (textC x).count 10 ≤ N + 1 := by
  by_cases hu : usableB x = true
  · rw [text_lines hu]; unfold nlC
    split
    · omega
    · split <;> omega
  · unfold textC; rw [if_neg hu]; simp

/-! ### What was read -/
theorem splitB_mem (c : UInt8) : ∀ (l : List UInt8), ∀ w ∈ splitB c l, w.length ≤ l.length
  | [], w, hw => by simp [splitB] at hw; subst hw; simp
  | x :: r, w, hw => by
    have ih := splitB_mem c r
    unfold splitB at hw
    split at hw
    · rcases List.mem_cons.1 hw with rfl | hw
      · simp
      · have := ih w hw; simp; omega
    · cases hs : splitB c r with
      | nil => exact absurd hs (splitB_ne c r)
      | cons a b =>
        rw [hs] at hw ih
        simp only at hw
        rcases List.mem_cons.1 hw with rfl | hw
        · have := ih a (List.mem_cons_self ..); simp; omega
        · have := ih w (List.mem_cons_of_mem _ hw); simp; omega
theorem getD_mem {l : List (List UInt8)} {N : Nat} (h : ∀ w ∈ l, w.length ≤ N) (k : Nat) : (l.getD k []).length ≤ N := by
  by_cases hk : k < l.length
  · rw [show l.getD k [] = l[k] by simp [List.getD, hk]]; exact h _ (List.getElem_mem hk)
  · rw [show l.getD k [] = [] by simp [List.getD, Nat.le_of_not_lt hk]]; simp
theorem numsW_len : ∀ (ws : List (List UInt8)) (l : List Int), numsW ws = some l → l.length = ws.length
  | [], l, h => by cases h; rfl
  | w :: r, l, h => by
    rw [numsW] at h
    split at h
    · cases h
    · cases hr : numsW r with
      | none => rw [hr] at h; cases h
      | some m => rw [hr] at h; cases h; simp [numsW_len r m hr]
theorem numsW_i64 : ∀ (ws : List (List UInt8)) (l : List Int), numsW ws = some l → ∀ x ∈ l, i64 x
  | [], l, h => by cases h; simp
  | w :: r, l, h => by
    rw [numsW] at h
    split at h
    · cases h
    · next n hn =>
      cases hr : numsW r with
      | none => rw [hr] at h; cases h
      | some m =>
        rw [hr] at h; cases h
        intro x hx
        rcases List.mem_cons.1 hx with rfl | hx
        · unfold atoiW at hn
          split at hn
          · next v hv => cases hn; have := Lib.atoiAll_bounds hv; unfold i64; omega
          · cases hn
        · exact numsW_i64 r m hr x hx
/-- A certificate made of a text of N bytes. -/
structure Made (N : Nat) (x : CertS) : Prop where
  id : x.id.length ≤ N
  dig : x.dig.length ≤ N
  prf : (textL x.prf).length ≤ N
  old : x.old.length ≤ 33
  now : x.now.length ≤ 33
theorem made0 (N : Nat) : Made N cert0 := ⟨by simp [cert0], by simp [cert0], by simp [cert0, textL], by simp [cert0], by simp [cert0]⟩
theorem lineW_made {N : Nat} {x y : CertS} {first : Bool} {w : List UInt8} (h : lineW x first w = some y) (hx : Made N x) (hw : w.length ≤ N) : Made N y ∧ y.prf = x.prf := by
  unfold lineW at h
  split at h
  · cases h
  · next hl =>
    have hm : ∀ v ∈ splitB 32 w, v.length ≤ N := fun v hv => Nat.le_trans (splitB_mem 32 w v hv) hw
    split at h
    · unfold headW at h
      split at h
      · cases h
      · cases hv : verW ((splitB 32 w).getD 3 []) with
        | none => rw [hv] at h; cases h
        | some v => rw [hv] at h; cases h; exact ⟨⟨getD_mem hm 1, getD_mem hm 2, hx.prf, hx.old, hx.now⟩, rfl⟩
    · unfold stateW at h
      split at h
      · cases h
      · next l hn =>
        have hll : l.length ≤ 33 := by
          rw [numsW_len _ _ hn, List.length_tail]; omega
        split at h
        · cases h; exact ⟨⟨hx.id, hx.dig, hx.prf, hll, hx.now⟩, rfl⟩
        · split at h
          · cases h; exact ⟨⟨hx.id, hx.dig, hx.prf, hx.old, hll⟩, rfl⟩
          · cases h
theorem join_len_cons (c : UInt8) (w : List UInt8) (r : List (List UInt8)) : w.length ≤ (joinB c (w :: r)).length ∧ (joinB c r).length ≤ (joinB c (w :: r)).length := by
  cases r with
  | nil => simp [joinB]
  | cons a b => simp [joinB]; omega
theorem lines_made (N : Nat) : ∀ (ws : List (List UInt8)) (x : CertS) (first : Bool), Made N x → (joinB 10 ws).length ≤ N → Made N (linesW x first ws)
  | [], x, first, hx, _ => hx
  | w :: r, x, first, hx, hN => by
    have hj := join_len_cons 10 w r
    rw [linesW]
    split
    · exact hx
    · cases hl : lineW x first w with
      | none => exact hx
      | some y =>
        obtain ⟨hy, _⟩ := lineW_made hl hx (by omega)
        simp only
        split
        · cases hp : parseL (joinB 10 r) with
          | none => exact hy
          | some l => exact ⟨hy.id, hy.dig, by simp only; rw [text_parse hp]; omega, hy.old, hy.now⟩
        · exact lines_made N r y false hy (by omega)
theorem read_made (t : List UInt8) : Made t.length (readC t) := lines_made _ _ _ _ (made0 _) (by rw [join_split]; exact Nat.le_refl _)
theorem lit_ge (l : List Int) : l.length ≤ (litText l).length := by
  induction l with
  | nil => simp
  | cons x r ih =>
    have e : litText (x :: r) = (Lib.itoa x ++ [32]) ++ litText r := rfl
    rw [e, List.length_append]; simp; omega
theorem hint_ge (l : List Int) : l.length ≤ (hintText l).length := by
  induction l with
  | nil => simp
  | cons x r ih =>
    have e : hintText (x :: r) = (32 :: Lib.itoa x) ++ hintText r := rfl
    rw [e, List.length_append]; simp; omega
theorem step_ge : ∀ (l : List St), ∀ s ∈ l, s.lits.length ≤ (textL l).length ∧ s.hints.length ≤ (textL l).length
  | [], s, hs => by cases hs
  | a :: r, s, hs => by
    have e : textL (a :: r) = stepText a ++ [10] ++ textL r := by simp [textL]
    rw [e]; unfold stepText
    rcases List.mem_cons.1 hs with rfl | hs
    · have := lit_ge s.lits; have := hint_ge s.hints; simp; omega
    · have := step_ge r s hs; simp; omega
end Go.Proofs.YtoopoljchhdobaaDoor
