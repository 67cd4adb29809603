/-
  What a certificate's text is, plain: usability, the text, what reading gives; the laws of reading and of prefixes.
-/
import Derived.Test.YtoopoljchhdobaaDoorPx1
namespace Go.Proofs.YtoopoljchhdobaaDoor

/-- A certificate. -/
structure CertS where
  id : List UInt8
  dig : List UInt8
  ver : Int
  prf : List St
  old : List Int
  now : List Int
def cert0 : CertS := ⟨[], [], 0, [], [], []⟩
def idB (s : List UInt8) : Bool := decide (1 ≤ s.length) && decide (s.length ≤ 64) && s.all fun x => decide (33 ≤ x.toNat) && decide (x.toNat ≤ 126)
def hexB (x : UInt8) : Bool := (decide (48 ≤ x.toNat) && decide (x.toNat ≤ 57)) || (decide (97 ≤ x.toNat) && decide (x.toNat ≤ 102))
def digB (s : List UInt8) : Bool := decide (s.length = 16) && s.all hexB
def withinB (lo hi : Int) (l : List Int) : Bool := l.all fun x => decide (lo ≤ x) && decide (x ≤ hi)
def litB (x : Int) : Bool := decide (x ≠ 0) && (decide (-8000 ≤ x) && decide (x ≤ 8000))
def prfB (l : List St) : Bool := decide (l.length ≤ 20000) && l.all fun s => s.lits.all litB && withinB 0 60000 s.hints
def stB (l : List Int) : Bool := withinB 0 255 l && decide (l.length ≤ 32)
def restB (x : CertS) : Bool :=
  if x.ver = 0 then decide (x.prf.length = 0) && decide (x.old.length = 0) && decide (x.now.length = 0)
  else if x.ver = 1 then prfB x.prf && decide (x.old.length = 0) && decide (x.now.length = 0)
  else if x.ver = 2 then decide (x.prf.length = 0) && decide (x.old.length = x.now.length) && stB x.old && stB x.now
  else false
def usableB (x : CertS) : Bool := idB x.id && digB x.dig && restB x
/-- The words of the verdicts. -/
def wordC (v : Int) : List UInt8 := if v = 0 then [117, 110, 100, 111, 110, 101] else if v = 1 then [121, 101, 115] else [110, 111]
def certW : List UInt8 := [99, 101, 114, 116]
def oldW : List UInt8 := [111, 108, 100]
def nowW : List UInt8 := [110, 111, 119]
def lineS (name : List UInt8) (l : List Int) : List UInt8 := name ++ hintText l ++ [10]
def headC (x : CertS) : List UInt8 := certW ++ [32] ++ x.id ++ [32] ++ x.dig ++ [32] ++ wordC x.ver
/-- The first line without its line feed, and what is behind it. -/
def firstC (x : CertS) : List UInt8 := headC x ++ (if x.ver = 1 then [32] ++ Lib.itoa x.prf.length else [])
def tailC (x : CertS) : List UInt8 := if x.ver = 1 then textL x.prf else if x.ver = 2 then lineS oldW x.old ++ lineS nowW x.now else []
def textU (x : CertS) : List UInt8 := firstC x ++ 10 :: tailC x
def textC (x : CertS) : List UInt8 := if usableB x = true then textU x else []

/-! ### Words and lines -/
theorem idB_chars {s : List UInt8} (h : idB s = true) : ∀ x ∈ s, x ≠ 32 ∧ x ≠ 10 := by
  unfold idB at h
  rw [Bool.and_eq_true, List.all_eq_true] at h
  intro x hx
  have := h.2 x hx
  simp only [Bool.and_eq_true, decide_eq_true_eq] at this
  constructor
  · rintro rfl; exact absurd this.1 (by decide)
  · rintro rfl; exact absurd this.1 (by decide)
theorem digB_chars {s : List UInt8} (h : digB s = true) : ∀ x ∈ s, x ≠ 32 ∧ x ≠ 10 := by
  unfold digB at h
  rw [Bool.and_eq_true, List.all_eq_true] at h
  intro x hx
  have := h.2 x hx
  constructor
  · rintro rfl; exact absurd this (by decide)
  · rintro rfl; exact absurd this (by decide)
theorem wordC_chars (v : Int) : ∀ x ∈ wordC v, x ≠ 32 ∧ x ≠ 10 := by
  unfold wordC; split
  · decide
  · split <;> decide
theorem usable_parts {x : CertS} (h : usableB x = true) : idB x.id = true ∧ digB x.dig = true ∧ restB x = true := by
  unfold usableB at h
  rw [Bool.and_eq_true, Bool.and_eq_true] at h
  exact ⟨h.1.1, h.1.2, h.2⟩
/-- The words of the first line. -/
def wordsC (x : CertS) : List (List UInt8) := [certW, x.id, x.dig, wordC x.ver] ++ (if x.ver = 1 then [Lib.itoa x.prf.length] else [])
theorem split_first {x : CertS} (h : usableB x = true) : splitB 32 (firstC x) = wordsC x := by
  obtain ⟨h1, h2, _⟩ := usable_parts h
  have hc : ∀ y ∈ certW, y ≠ 32 := by decide
  have e : firstC x = certW ++ 32 :: (x.id ++ 32 :: (x.dig ++ 32 :: (wordC x.ver ++ (if x.ver = 1 then [32] ++ Lib.itoa x.prf.length else [])))) := by
    unfold firstC headC; simp
  rw [e, splitB_cons 32 _ hc, splitB_cons 32 _ fun y hy => (idB_chars h1 y hy).1, splitB_cons 32 _ fun y hy => (digB_chars h2 y hy).1]
  unfold wordsC
  split
  · rw [show wordC x.ver ++ ([32] ++ Lib.itoa x.prf.length) = wordC x.ver ++ 32 :: Lib.itoa x.prf.length by simp, splitB_cons 32 _ fun y hy => (wordC_chars _ y hy).1, splitB_word 32 fun y hy => (itoa_chars _ y hy).1]; rfl
  · rw [List.append_nil, splitB_word 32 fun y hy => (wordC_chars _ y hy).1]; rfl
theorem first_chars {x : CertS} (h : usableB x = true) : ∀ y ∈ firstC x, y ≠ 10 := by
  obtain ⟨h1, h2, _⟩ := usable_parts h
  intro y hy
  unfold firstC headC at hy
  simp only [List.mem_append, List.mem_singleton] at hy
  rcases hy with ((((((hy | rfl) | hy) | rfl) | hy) | rfl) | hy) | hy
  · revert y; decide
  · decide
  · exact (idB_chars h1 y hy).2
  · decide
  · exact (digB_chars h2 y hy).2
  · decide
  · exact (wordC_chars _ y hy).2
  · split at hy
    · simp only [List.mem_append, List.mem_singleton] at hy
      rcases hy with rfl | hy
      · decide
      · exact (itoa_chars _ y hy).2.1
    · cases hy
theorem hintText_chars (l : List Int) : ∀ x ∈ hintText l, x ≠ 10 := by
  intro x hx
  unfold hintText at hx
  obtain ⟨y, _, hy⟩ := List.mem_flatMap.1 hx
  rw [List.mem_cons] at hy
  rcases hy with rfl | hy
  · decide
  · exact (itoa_chars y x hy).2.1

/-! ### Reading -/
def atoiW (w : List UInt8) : Option Int :=
  match Lib.atoiAll w with
  | .ok n => some n
  | _ => none
def numsW : List (List UInt8) → Option (List Int)
  | [] => some []
  | w :: r => match atoiW w with
    | none => none
    | some n => (numsW r).map (n :: ·)
def verW (w : List UInt8) : Option Int := if w = wordC 0 then some 0 else if w = wordC 1 then some 1 else if w = wordC 2 then some 2 else none
def headW (x : CertS) (ws : List (List UInt8)) : Option CertS :=
  if ws.length < 4 then none else (verW (ws.getD 3 [])).map fun v => { x with id := ws.getD 1 [], dig := ws.getD 2 [], ver := v }
def stateW (x : CertS) (ws : List (List UInt8)) : Option CertS :=
  match numsW ws.tail with
  | none => none
  | some l => if ws.getD 0 [] = oldW then some { x with old := l } else if ws.getD 0 [] = nowW then some { x with now := l } else none
def lineW (x : CertS) (first : Bool) (w : List UInt8) : Option CertS :=
  if 33 < (splitB 32 w).length then none else if first then headW x (splitB 32 w) else stateW x (splitB 32 w)
def linesW (x : CertS) (first : Bool) : List (List UInt8) → CertS
  | [] => x
  | w :: r => if r = [] then x else
    match lineW x first w with
    | none => x
    | some y => if y.ver = 1 then (match parseL (joinB 10 r) with
      | none => y
      | some l => { y with prf := l }) else linesW y false r
def readC (t : List UInt8) : CertS := linesW cert0 true (splitB 10 t)
def parseC (t : List UInt8) : Option CertS := if textC (readC t) = t ∧ t ≠ [] then some (readC t) else none

theorem atoiW_itoa {n : Int} (h : i64 n) : atoiW (Lib.itoa n) = some n := by unfold atoiW; rw [atoi_itoa n h.1 h.2]
theorem numsW_itoa : ∀ l : List Int, (∀ x ∈ l, i64 x) → numsW (l.map Lib.itoa) = some l
  | [], _ => rfl
  | x :: r, h => by
    rw [List.map_cons, numsW, atoiW_itoa (h x (by simp)), numsW_itoa r fun y hy => h y (by simp [hy])]; rfl
theorem within_i64 {lo hi : Int} {l : List Int} (h : withinB lo hi l = true) (h0 : -9223372036854775808 ≤ lo) (h1 : hi ≤ 9223372036854775807) : ∀ x ∈ l, i64 x := by
  unfold withinB at h
  rw [List.all_eq_true] at h
  intro x hx
  have := h x hx
  simp only [Bool.and_eq_true, decide_eq_true_eq] at this
  unfold i64; omega
theorem split_state {name : List UInt8} (hn : ∀ y ∈ name, y ≠ 32) (l : List Int) : splitB 32 (name ++ hintText l) = name :: l.map Lib.itoa := split_hints l name hn
theorem verW_word {v : Int} (h : v = 0 ∨ v = 1 ∨ v = 2) : verW (wordC v) = some v := by
  rcases h with rfl | rfl | rfl <;> rfl
theorem rest_cases {x : CertS} (h : restB x = true) : (x.ver = 0 ∧ x.prf = [] ∧ x.old = [] ∧ x.now = []) ∨ (x.ver = 1 ∧ prfB x.prf = true ∧ x.old = [] ∧ x.now = []) ∨ (x.ver = 2 ∧ x.prf = [] ∧ x.old.length = x.now.length ∧ stB x.old = true ∧ stB x.now = true) := by
  unfold restB at h
  split at h
  · next e =>
    simp only [Bool.and_eq_true, decide_eq_true_eq] at h
    exact .inl ⟨e, List.length_eq_zero_iff.1 h.1.1, List.length_eq_zero_iff.1 h.1.2, List.length_eq_zero_iff.1 h.2⟩
  · split at h
    · next e =>
      simp only [Bool.and_eq_true, decide_eq_true_eq] at h
      exact .inr (.inl ⟨e, h.1.1, List.length_eq_zero_iff.1 h.1.2, List.length_eq_zero_iff.1 h.2⟩)
    · split at h
      · next e =>
        simp only [Bool.and_eq_true, decide_eq_true_eq] at h
        exact .inr (.inr ⟨e, List.length_eq_zero_iff.1 h.1.1.1, h.1.1.2, h.1.2, h.2⟩)
      · cases h
theorem prf_ranged {l : List St} (h : prfB l = true) : (∀ s ∈ l, i64s s) ∧ l.all ranged = true ∧ l.length ≤ 20000 := by
  unfold prfB at h
  rw [Bool.and_eq_true, List.all_eq_true, decide_eq_true_eq] at h
  have key : ∀ s ∈ l, (∀ x ∈ s.lits, -8000 ≤ x ∧ x ≤ 8000) ∧ ∀ x ∈ s.hints, 0 ≤ x ∧ x ≤ 60000 := fun s hs => by
    have := h.2 s hs
    rw [Bool.and_eq_true, List.all_eq_true] at this
    refine ⟨fun x hx => ?_, fun x hx => ?_⟩
    · have h1 := this.1 x hx
      unfold litB at h1
      simp only [Bool.and_eq_true, decide_eq_true_eq] at h1
      exact h1.2
    · have h1 := this.2
      unfold withinB at h1
      rw [List.all_eq_true] at h1
      have := h1 x hx
      simpa using this
  refine ⟨fun s hs => ⟨fun x hx => ?_, fun x hx => ?_⟩, ?_, h.1⟩
  · have := (key s hs).1 x hx; unfold i64; omega
  · have := (key s hs).2 x hx; unfold i64; omega
  · rw [List.all_eq_true]
    intro s hs
    unfold ranged
    rw [Bool.and_eq_true, List.all_eq_true, List.all_eq_true]
    refine ⟨fun x hx => ?_, fun x hx => ?_⟩
    · have := (key s hs).1 x hx; unfold inG; simp; omega
    · have := (key s hs).2 x hx; unfold inG; simp; omega
/-- Reading the text of a usable certificate. -/
theorem read_text {x : CertS} (h : usableB x = true) : readC (textC x) = x := by
  obtain ⟨h1, h2, h3⟩ := usable_parts h
  have hsp : splitB 10 (textC x) = firstC x :: splitB 10 (tailC x) := by
    unfold textC; rw [if_pos h]; unfold textU; exact splitB_cons 10 _ (first_chars h)
  have hne := splitB_ne 10 (tailC x)
  have hv : x.ver = 0 ∨ x.ver = 1 ∨ x.ver = 2 := by rcases rest_cases h3 with ⟨e, _⟩ | ⟨e, _⟩ | ⟨e, _⟩ <;> simp [e]
  have hl : lineW cert0 true (firstC x) = some { cert0 with id := x.id, dig := x.dig, ver := x.ver } := by
    have hw : (wordsC x).length ≤ 5 ∧ ¬ (wordsC x).length < 4 := by unfold wordsC; split <;> simp
    unfold lineW
    rw [split_first h, if_neg (by omega), if_pos rfl]
    unfold headW
    rw [if_neg hw.2]
    have e1 : (wordsC x).getD 3 [] = wordC x.ver := by unfold wordsC; rfl
    have e2 : (wordsC x).getD 1 [] = x.id := by unfold wordsC; rfl
    have e3 : (wordsC x).getD 2 [] = x.dig := by unfold wordsC; rfl
    rw [e1, e2, e3, verW_word hv]; rfl
  unfold readC
  rw [hsp, linesW, if_neg hne, hl]
  simp only
  rcases rest_cases h3 with ⟨e, p1, p2, p3⟩ | ⟨e, p1, p2, p3⟩ | ⟨e, p1, p2, p3, p4⟩
  · rw [if_neg (by rw [e]; decide)]
    have ht : tailC x = [] := by unfold tailC; rw [if_neg (by rw [e]; decide), if_neg (by rw [e]; decide)]
    rw [ht]
    show linesW _ false [[]] = x
    rw [linesW, if_pos rfl]
    cases x; simp_all [cert0]
  · rw [if_pos e, join_split]
    have ht : tailC x = textL x.prf := by unfold tailC; rw [if_pos e]
    obtain ⟨q1, q2, _⟩ := prf_ranged p1
    rw [ht, parse_text _ q1, if_pos q2]
    cases x; simp_all [cert0]
  · rw [if_neg (by rw [e]; decide)]
    have ht : tailC x = (oldW ++ hintText x.old) ++ 10 :: ((nowW ++ hintText x.now) ++ 10 :: []) := by
      unfold tailC lineS; rw [if_neg (by rw [e]; decide), if_pos e]; simp
    have c1 : ∀ y ∈ oldW ++ hintText x.old, y ≠ 10 := by
      intro y hy; rw [List.mem_append] at hy
      rcases hy with hy | hy
      · revert y; decide
      · exact hintText_chars _ y hy
    have c2 : ∀ y ∈ nowW ++ hintText x.now, y ≠ 10 := by
      intro y hy; rw [List.mem_append] at hy
      rcases hy with hy | hy
      · revert y; decide
      · exact hintText_chars _ y hy
    have s1 : splitB 32 (oldW ++ hintText x.old) = oldW :: x.old.map Lib.itoa := split_state (by decide) _
    have s2 : splitB 32 (nowW ++ hintText x.now) = nowW :: x.now.map Lib.itoa := split_state (by decide) _
    unfold stB at p3 p4
    rw [Bool.and_eq_true, decide_eq_true_eq] at p3 p4
    have n1 := numsW_itoa x.old (within_i64 p3.1 (by decide) (by decide))
    have n2 := numsW_itoa x.now (within_i64 p4.1 (by decide) (by decide))
    rw [ht, splitB_cons 10 _ c1, splitB_cons 10 _ c2]
    have l1 : ∀ y : CertS, lineW y false (oldW ++ hintText x.old) = some { y with old := x.old } := fun y => by
      unfold lineW
      rw [s1, if_neg (by rw [List.length_cons, List.length_map]; omega), if_neg (by decide)]
      unfold stateW
      rw [List.tail_cons, n1]; rfl
    have l2 : ∀ y : CertS, lineW y false (nowW ++ hintText x.now) = some { y with now := x.now } := fun y => by
      unfold lineW
      rw [s2, if_neg (by rw [List.length_cons, List.length_map]; omega), if_neg (by decide)]
      unfold stateW
      rw [List.tail_cons, n2]; rfl
    rw [linesW, if_neg (by simp), l1]
    simp only
    rw [if_neg (by rw [e]; decide), linesW, if_neg (splitB_ne 10 []), l2]
    simp only
    rw [if_neg (by rw [e]; decide)]
    show linesW _ false [[]] = x
    rw [linesW, if_pos rfl]
    cases x; simp_all [cert0]
end Go.Proofs.YtoopoljchhdobaaDoor
