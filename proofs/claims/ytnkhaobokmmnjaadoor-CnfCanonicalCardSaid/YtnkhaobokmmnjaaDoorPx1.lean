/-
  What Text and Parse compute; the plain laws of ProofRoundTrip: reading the text back.
-/
import Derived.Test.YtnkhaobokmmnjaaDoorPl1
import Derived.Lib.ItoaMem
import Derived.Lib.ItoaLen
import Derived.Lib.AtoiAllCases
import Derived.Lib.IndexMore
import Derived.Lib.CutLaws
import Derived.Lib.Bytealg
namespace Go.Proofs.YtnkhaobokmmnjaaDoor

/-! ### Words between separators -/
def splitB (c : UInt8) : List UInt8 → List (List UInt8)
  | [] => [[]]
  | x :: r => if x = c then [] :: splitB c r else
    match splitB c r with
    | [] => [[x]]
    | w :: ws => (x :: w) :: ws
theorem splitB_ne (c : UInt8) : ∀ l, splitB c l ≠ []
  | [] => by simp [splitB]
  | x :: r => by
    unfold splitB
    split
    · simp
    · split <;> simp
theorem splitB_word (c : UInt8) : ∀ {w : List UInt8}, (∀ x ∈ w, x ≠ c) → splitB c w = [w]
  | [], _ => rfl
  | x :: r, h => by
    unfold splitB
    rw [if_neg (h x (by simp)), splitB_word c (w := r) fun y hy => h y (by simp [hy])]
theorem splitB_cons (c : UInt8) : ∀ {w : List UInt8} (r : List UInt8), (∀ x ∈ w, x ≠ c) → splitB c (w ++ c :: r) = w :: splitB c r
  | [], r, _ => by simp [splitB]
  | x :: w, r, h => by
    rw [List.cons_append, splitB, if_neg (h x (by simp)), splitB_cons c (w := w) r fun y hy => h y (by simp [hy])]
def joinB (c : UInt8) : List (List UInt8) → List UInt8
  | [] => []
  | [w] => w
  | w :: v :: r => w ++ c :: joinB c (v :: r)
theorem join_split (c : UInt8) : ∀ l, joinB c (splitB c l) = l
  | [] => rfl
  | x :: r => by
    have ih := join_split c r
    have hne := splitB_ne c r
    unfold splitB
    split
    · next e =>
      subst e
      match hs : splitB x r, hne with
      | v :: vs, _ => rw [hs] at ih; rw [joinB, ih]; rfl
    · match hs : splitB c r, hne with
      | [v], _ => rw [hs] at ih; simp only [joinB] at ih ⊢; rw [ih]
      | v :: u :: vs, _ => rw [hs] at ih; simp only [joinB] at ih ⊢; rw [← ih]; rfl
/-- The first word, and what is behind it. -/
theorem split_cut (c : UInt8) (l : List UInt8) : (c ∉ l ∧ splitB c l = [l] ∧ Lib.cut l [c] = (l, [], false)) ∨ ∃ w r, l = w ++ c :: r ∧ splitB c l = w :: splitB c r ∧ Lib.cut l [c] = (w, r, true) := by
  have hi : ∀ l : List UInt8, (c ∉ l ∧ Lib.index l [c] = -1) ∨ ∃ w r, l = w ++ c :: r ∧ (∀ x ∈ w, x ≠ c) ∧ Lib.index l [c] = w.length := by
    intro l
    induction l with
    | nil => left; exact ⟨by simp, rfl⟩
    | cons x r ih =>
      by_cases e : x = c
      · right; subst e; exact ⟨[], r, rfl, by simp, by unfold Lib.index; simp [List.isPrefixOf]⟩
      · have hp : List.isPrefixOf [c] (x :: r) = false := by simp [List.isPrefixOf]; exact fun h => e h.symm
        rcases ih with ⟨h1, h2⟩ | ⟨w, r', h1, h2, h3⟩
        · left
          refine ⟨by simp; exact ⟨fun h => e h.symm, h1⟩, ?_⟩
          unfold Lib.index; rw [hp, h2]; rfl
        · right
          refine ⟨x :: w, r', by rw [h1]; rfl, by simpa using ⟨e, h2⟩, ?_⟩
          unfold Lib.index; rw [hp, h3]
          have : ((w.length : Int) == -1) = false := by rw [beq_eq_false_iff_ne]; omega
          simp [this]
  rcases hi l with ⟨h1, h2⟩ | ⟨w, r, h1, h2, h3⟩
  · refine .inl ⟨h1, splitB_word c fun x hx e => h1 (e ▸ hx), ?_⟩
    unfold Lib.cut; rw [h2, if_neg (by omega)]
  · refine .inr ⟨w, r, h1, by rw [h1]; exact splitB_cons c r h2, ?_⟩
    unfold Lib.cut
    rw [h3, if_pos (by omega), h1]
    simp [List.drop_append]

/-! ### The text of steps -/
def litText (l : List Int) : List UInt8 := l.flatMap fun x => Lib.itoa x ++ [32]
def hintText (l : List Int) : List UInt8 := l.flatMap fun x => 32 :: Lib.itoa x
def stepText (s : St) : List UInt8 := litText s.lits ++ 58 :: hintText s.hints
def textL (l : List St) : List UInt8 := l.flatMap fun s => stepText s ++ [10]
theorem litText_snoc (l : List Int) (x : Int) : litText (l ++ [x]) = litText l ++ Lib.itoa x ++ [32] := by simp [litText]
theorem hintText_snoc (l : List Int) (x : Int) : hintText (l ++ [x]) = hintText l ++ [32] ++ Lib.itoa x := by simp [hintText]
theorem textL_snoc (l : List St) (s : St) : textL (l ++ [s]) = textL l ++ stepText s ++ [10] := by simp [textL]

/-! ### Reading -/
def inG (n : Int) : Bool := decide (-1000000000 ≤ n) && decide (n ≤ 1000000000)
def numW (w : List UInt8) : Option Int :=
  match Lib.atoiAll w with
  | .ok n => if inG n = true ∧ Lib.itoa n = w then some n else none
  | _ => none
structure PSt where
  colon : Bool
  lits : List Int
  hints : List Int
def stepW (p : PSt) (w : List UInt8) : Option PSt :=
  if w = [58] ∧ p.colon = false then some { p with colon := true } else
  match numW w with
  | none => none
  | some n => if p.colon then some { p with hints := p.hints ++ [n] } else some { p with lits := p.lits ++ [n] }
def wordsW (p : PSt) : List (List UInt8) → Option PSt
  | [] => some p
  | w :: r => match stepW p w with
    | none => none
    | some q => wordsW q r
def pst0 : PSt := ⟨false, [], []⟩
def parseStepP (l : List UInt8) : Option St :=
  match wordsW pst0 (splitB 32 l) with
  | none => none
  | some p => if p.colon then some ⟨p.lits, p.hints⟩ else none
def linesP : List (List UInt8) → Option (List St)
  | [] => none
  | w :: r => if r = [] then (if w = [] then some [] else none) else
    match parseStepP w with
    | none => none
    | some s => (linesP r).map (s :: ·)
def parseL (l : List UInt8) : Option (List St) := linesP (splitB 10 l)

/-! ### Numbers -/
theorem digits_chars : ∀ u : Nat, ∀ x ∈ Lib.decDigits u, 48 ≤ x.toNat ∧ x.toNat ≤ 57 := by
  intro u
  induction u using Nat.strongRecOn with
  | _ u ih =>
    intro x hx
    rw [Lib.decDigits] at hx
    split at hx
    · next h =>
      simp at hx; subst hx
      have := h
      simp [UInt8.toNat_ofNat]; omega
    · next h =>
      rw [List.mem_append] at hx
      rcases hx with hx | hx
      · exact ih (u / 10) (by omega) x hx
      · simp at hx; subst hx
        simp [UInt8.toNat_ofNat]; omega
theorem digits_ne (u : Nat) : Lib.decDigits u ≠ [] := by
  rw [Lib.decDigits]; split <;> simp
theorem itoa_chars (n : Int) : ∀ x ∈ Lib.itoa n, x ≠ 32 ∧ x ≠ 10 ∧ x ≠ 58 := by
  have key : ∀ x : UInt8, 48 ≤ x.toNat ∧ x.toNat ≤ 57 → x ≠ 32 ∧ x ≠ 10 ∧ x ≠ 58 := by
    rintro x ⟨h1, h2⟩
    refine ⟨?_, ?_, ?_⟩ <;> (rintro rfl; revert h1 h2; decide)
  intro x hx
  unfold Lib.itoa at hx
  split at hx
  · rw [List.mem_cons] at hx
    rcases hx with rfl | hx
    · decide
    · exact key x (digits_chars _ x hx)
  · exact key x (digits_chars _ x hx)
theorem itoa_ne (n : Int) : Lib.itoa n ≠ [] := by
  unfold Lib.itoa; split
  · simp
  · exact digits_ne _
theorem parseUint_snoc (l : List UInt8) (acc u : Nat) (c : UInt8) (h : Lib.parseUint10 acc l = .ok u) (h1 : 48 ≤ c.toNat) (h2 : c.toNat ≤ 57) (h3 : u * 10 + (c.toNat - 48) < 18446744073709551616) : Lib.parseUint10 acc (l ++ [c]) = .ok (u * 10 + (c.toNat - 48)) := by
  induction l generalizing acc with
  | nil =>
    simp only [Lib.parseUint10] at h
    injection h with h
    subst h
    simp only [List.nil_append, Lib.parseUint10]
    rw [if_pos ⟨h1, h2⟩, if_neg (by omega), if_neg (by omega)]
  | cons x r ih =>
    simp only [List.cons_append, Lib.parseUint10] at h ⊢
    split at h
    · next e =>
      rw [if_pos e]
      split at h
      · cases h
      · next e1 =>
        rw [if_neg e1]
        split at h
        · cases h
        · next e2 => rw [if_neg e2]; exact ih _ h
    · cases h
theorem parse_digits : ∀ u : Nat, u < 18446744073709551616 → Lib.parseUint10 0 (Lib.decDigits u) = .ok u := by
  intro u
  induction u using Nat.strongRecOn with
  | _ u ih =>
    intro hu
    rw [Lib.decDigits]
    split
    · next h =>
      have e : (UInt8.ofNat (48 + u)).toNat = 48 + u := by simp [UInt8.toNat_ofNat]; omega
      have := parseUint_snoc [] 0 0 (UInt8.ofNat (48 + u)) rfl (by omega) (by omega) (by omega)
      rw [List.nil_append] at this
      rw [this, e]; congr 1; omega
    · next h =>
      have e : (UInt8.ofNat (48 + u % 10)).toNat = 48 + u % 10 := by simp [UInt8.toNat_ofNat]; omega
      have := parseUint_snoc _ 0 _ (UInt8.ofNat (48 + u % 10)) (ih (u / 10) (by omega) (by omega)) (by omega) (by omega) (by omega)
      rw [this, e]; congr 1; omega
theorem parseMag_digits (u : Nat) (h : u < 18446744073709551616) : Lib.parseMag (Lib.decDigits u) = .ok u := by
  unfold Lib.parseMag
  rw [if_neg (digits_ne u)]; exact parse_digits u h
theorem atoi_itoa (n : Int) (h0 : -9223372036854775808 ≤ n) (h1 : n ≤ 9223372036854775807) : Lib.atoiAll (Lib.itoa n) = .ok n := by
  by_cases hn : n < 0
  · rw [Lib.itoa, if_pos hn, Lib.atoiAll_minus, parseMag_digits _ (by omega)]
    unfold Lib.signed
    simp only
    rw [if_neg (by omega)]; congr 1; omega
  · rw [Lib.itoa, if_neg hn]
    cases hd : Lib.decDigits n.toNat with
    | nil => exact absurd hd (digits_ne _)
    | cons c r =>
      have hc := digits_chars n.toNat c (by rw [hd]; simp)
      rw [Lib.atoiAll_plain c r (by omega) (by omega), ← hd, parseMag_digits _ (by omega)]
      unfold Lib.signless
      simp only
      rw [if_neg (by omega)]; congr 1; omega
theorem numW_itoa (n : Int) (h0 : -9223372036854775808 ≤ n) (h1 : n ≤ 9223372036854775807) : numW (Lib.itoa n) = if inG n = true then some n else none := by
  unfold numW
  rw [atoi_itoa n h0 h1]
  by_cases h : inG n = true <;> simp [h]
theorem numW_some {w : List UInt8} {n : Int} (h : numW w = some n) : Lib.itoa n = w ∧ inG n = true := by
  unfold numW at h
  split at h
  · split at h
    · next c => cases h; exact ⟨c.2, c.1⟩
    · cases h
  · cases h
theorem itoa_colon (n : Int) : Lib.itoa n ≠ [58] := fun e => by
  have := itoa_chars n 58 (by rw [e]; simp)
  exact this.2.2 rfl

/-! ### The text of a list is read as the list -/
def i64 (n : Int) : Prop := -9223372036854775808 ≤ n ∧ n ≤ 9223372036854775807
theorem stepW_num (p : PSt) (n : Int) (hn : i64 n) : stepW p (Lib.itoa n) = if inG n = true then some (if p.colon then { p with hints := p.hints ++ [n] } else { p with lits := p.lits ++ [n] }) else none := by
  unfold stepW
  rw [if_neg (fun h => itoa_colon n h.1), numW_itoa n hn.1 hn.2]
  by_cases h : inG n = true
  · simp only [h, if_true]; split <;> rfl
  · simp only [h]; rfl
theorem words_lits : ∀ (ls : List Int) (p : PSt) (r : List (List UInt8)), (∀ x ∈ ls, i64 x) → p.colon = false → wordsW p (ls.map Lib.itoa ++ r) = if ls.all inG = true then wordsW { p with lits := p.lits ++ ls } r else none
  | [], p, r, _, _ => by simp
  | x :: ls, p, r, h, hc => by
    rw [List.map_cons, List.cons_append, wordsW, stepW_num p x (h x (by simp))]
    by_cases hx : inG x = true
    · have := words_lits ls { p with lits := p.lits ++ [x] } r (fun y hy => h y (by simp [hy])) hc
      rw [if_pos hx, if_neg (by rw [hc]; simp)]
      simp only
      rw [this]; simp [hx]
    · simp [hx]
theorem words_hints : ∀ (ls : List Int) (p : PSt), (∀ x ∈ ls, i64 x) → p.colon = true → wordsW p (ls.map Lib.itoa) = if ls.all inG = true then some { p with hints := p.hints ++ ls } else none
  | [], p, _, _ => by simp [wordsW]
  | x :: ls, p, h, hc => by
    rw [List.map_cons, wordsW, stepW_num p x (h x (by simp))]
    by_cases hx : inG x = true
    · have := words_hints ls { p with hints := p.hints ++ [x] } (fun y hy => h y (by simp [hy])) hc
      rw [if_pos hx, if_pos hc]
      simp only
      rw [this]; simp [hx]
    · simp [hx]
theorem split_lits : ∀ (ls : List Int) (r : List UInt8), splitB 32 (litText ls ++ r) = ls.map Lib.itoa ++ splitB 32 r
  | [], r => rfl
  | x :: ls, r => by
    have : litText (x :: ls) ++ r = Lib.itoa x ++ 32 :: (litText ls ++ r) := by simp [litText]
    rw [this, splitB_cons 32 _ fun y hy => (itoa_chars x y hy).1, split_lits ls r]; rfl
theorem split_hints : ∀ (ls : List Int) (w : List UInt8), (∀ x ∈ w, x ≠ 32) → splitB 32 (w ++ hintText ls) = w :: ls.map Lib.itoa
  | [], w, h => by simp only [hintText, List.flatMap_nil, List.append_nil, List.map_nil]; exact splitB_word 32 h
  | x :: ls, w, h => by
    have : w ++ hintText (x :: ls) = w ++ 32 :: (Lib.itoa x ++ hintText ls) := by simp [hintText]
    rw [this, splitB_cons 32 _ h, split_hints ls _ fun y hy => (itoa_chars x y hy).1]; rfl
theorem split_step (s : St) : splitB 32 (stepText s) = s.lits.map Lib.itoa ++ [58] :: s.hints.map Lib.itoa := by
  unfold stepText
  rw [split_lits, show (58 :: hintText s.hints : List UInt8) = [58] ++ hintText s.hints from rfl, split_hints _ _ (by decide)]
def ranged (s : St) : Bool := s.lits.all inG && s.hints.all inG
def i64s (s : St) : Prop := (∀ x ∈ s.lits, i64 x) ∧ ∀ x ∈ s.hints, i64 x
theorem parse_step (s : St) (h : i64s s) : parseStepP (stepText s) = if ranged s = true then some s else none := by
  unfold parseStepP ranged
  rw [split_step, words_lits _ _ _ h.1 rfl]
  by_cases h1 : s.lits.all inG = true
  · rw [if_pos h1, wordsW]
    have e : stepW { pst0 with lits := pst0.lits ++ s.lits } [58] = some ⟨true, s.lits, []⟩ := by simp [stepW, pst0]
    rw [e]
    simp only
    rw [words_hints _ _ h.2 rfl]
    by_cases h2 : s.hints.all inG = true
    · simp [h1, h2]
    · simp [h1, h2]
  · simp [h1]
theorem step_chars (s : St) : ∀ x ∈ stepText s, x ≠ 10 := by
  intro x hx
  unfold stepText litText hintText at hx
  rw [List.mem_append, List.mem_flatMap, List.mem_cons, List.mem_flatMap] at hx
  rcases hx with ⟨y, _, hy⟩ | rfl | ⟨y, _, hy⟩
  · rw [List.mem_append] at hy
    rcases hy with hy | hy
    · exact (itoa_chars y x hy).2.1
    · simp at hy; subst hy; decide
  · decide
  · rw [List.mem_cons] at hy
    rcases hy with rfl | hy
    · decide
    · exact (itoa_chars y x hy).2.1
theorem split_text : ∀ l : List St, splitB 10 (textL l) = l.map stepText ++ [[]]
  | [] => rfl
  | s :: l => by
    have : textL (s :: l) = stepText s ++ 10 :: textL l := by simp [textL]
    rw [this, splitB_cons 10 _ (step_chars s), split_text l]; rfl
/-- Reading the text of steps. -/
theorem parse_text (l : List St) (h : ∀ s ∈ l, i64s s) : parseL (textL l) = if l.all ranged = true then some l else none := by
  unfold parseL
  rw [split_text]
  induction l with
  | nil => rfl
  | cons s r ih =>
    rw [List.map_cons, List.cons_append, linesP, if_neg (by simp), parse_step s (h s (by simp))]
    have ih := ih fun x hx => h x (by simp [hx])
    by_cases hs : ranged s = true
    · simp only [hs, if_true, List.all_cons, Bool.true_and]
      rw [ih]
      by_cases hr : r.all ranged = true <;> simp [hr]
    · simp [hs]

/-! ### What is read has the text -/
def tailJ (ws : List (List UInt8)) : List UInt8 := ws.flatMap fun w => 32 :: w
theorem join_tail : ∀ (w : List UInt8) (ws : List (List UInt8)), joinB 32 (w :: ws) = w ++ tailJ ws
  | w, [] => by simp [joinB, tailJ]
  | w, v :: r => by rw [joinB, join_tail v r]; simp [tailJ]
theorem stepW_some {p q : PSt} {w : List UInt8} (h : stepW p w = some q) : (w = [58] ∧ p.colon = false ∧ q = { p with colon := true }) ∨ ∃ n, Lib.itoa n = w ∧ ((p.colon = true ∧ q = { p with hints := p.hints ++ [n] }) ∨ (p.colon = false ∧ q = { p with lits := p.lits ++ [n] })) := by
  unfold stepW at h
  split at h
  · next c => cases h; exact .inl ⟨c.1, c.2, rfl⟩
  · split at h
    · cases h
    · next n hn =>
      refine .inr ⟨n, (numW_some hn).1, ?_⟩
      split at h
      · next c => cases h; exact .inl ⟨c, rfl⟩
      · next c => cases h; exact .inr ⟨by simpa using c, rfl⟩
theorem words_on : ∀ (ws : List (List UInt8)) (p q : PSt), p.colon = true → wordsW p ws = some q → q.colon = true ∧ stepText ⟨p.lits, p.hints⟩ ++ tailJ ws = stepText ⟨q.lits, q.hints⟩
  | [], p, q, hc, h => by cases h; exact ⟨hc, by simp [tailJ]⟩
  | w :: r, p, q, hc, h => by
    rw [wordsW] at h
    split at h
    · cases h
    · next p' hp =>
      rcases stepW_some hp with ⟨_, c, _⟩ | ⟨n, hn, ⟨_, rfl⟩ | ⟨c, _⟩⟩
      · rw [hc] at c; cases c
      · obtain ⟨h1, h2⟩ := words_on r { p with hints := p.hints ++ [n] } q hc h
        refine ⟨h1, ?_⟩
        rw [← h2, ← hn]
        simp [tailJ, stepText, hintText]
      · rw [hc] at c; cases c
theorem words_first : ∀ (ws : List (List UInt8)) (w : List UInt8) (p q : PSt), p.colon = false → p.hints = [] → wordsW p (w :: ws) = some q → q.colon = true → litText p.lits ++ (w ++ tailJ ws) = stepText ⟨q.lits, q.hints⟩ := by
  intro ws
  induction ws with
  | nil =>
    intro w p q hc hh h hq
    rw [wordsW] at h
    split at h
    · cases h
    · next p' hp =>
      rcases stepW_some hp with ⟨rfl, _, rfl⟩ | ⟨n, hn, ⟨c, _⟩ | ⟨_, rfl⟩⟩
      · cases h; simp [stepText, hintText, tailJ, hh]
      · rw [hc] at c; cases c
      · cases h; simp only at hq; rw [hc] at hq; cases hq
  | cons v r ih =>
    intro w p q hc hh h hq
    rw [wordsW] at h
    split at h
    · cases h
    · next p' hp =>
      rcases stepW_some hp with ⟨rfl, _, rfl⟩ | ⟨n, hn, ⟨c, _⟩ | ⟨_, rfl⟩⟩
      · obtain ⟨_, h2⟩ := words_on _ _ q rfl h
        rw [← h2]; simp [stepText, hintText, hh]
      · rw [hc] at c; cases c
      · rw [← ih v { p with lits := p.lits ++ [n] } q hc hh h hq, ← hn]; simp [litText, tailJ]
theorem step_text {w : List UInt8} {s : St} (h : parseStepP w = some s) : stepText s = w := by
  unfold parseStepP at h
  split at h
  · cases h
  · next p hp =>
    split at h
    · next c =>
      cases h
      have hj := join_split 32 w
      match hs : splitB 32 w, splitB_ne 32 w with
      | v :: vs, _ =>
        rw [hs] at hp hj
        rw [join_tail] at hj
        have := words_first vs v pst0 p rfl rfl hp c
        rw [← this, ← hj]; rfl
    · cases h
theorem lines_text : ∀ (ws : List (List UInt8)) (l : List St), linesP ws = some l → textL l = joinB 10 ws
  | [], l, h => by cases h
  | w :: r, l, h => by
    rw [linesP] at h
    split at h
    · next e =>
      subst e
      split at h
      · next e => cases h; subst e; rfl
      · cases h
    · next e =>
      split at h
      · cases h
      · next s hs =>
        obtain ⟨l', hl, rfl⟩ := Option.map_eq_some_iff.1 h
        have ih := lines_text r l' hl
        match r, e with
        | v :: vs, _ =>
          rw [joinB, ← ih, ← step_text hs]; simp [textL]
/-- What is read has the text that it was read from. -/
theorem text_parse {t : List UInt8} {l : List St} (h : parseL t = some l) : textL l = t := by
  rw [lines_text _ _ h, join_split]
theorem lines_num : ∀ (ws : List (List UInt8)) (l : List St), linesP ws = some l → ∀ s ∈ l, ranged s = true := by
  have hw : ∀ (ws : List (List UInt8)) (p q : PSt), (p.lits.all inG = true ∧ p.hints.all inG = true) → wordsW p ws = some q → q.lits.all inG = true ∧ q.hints.all inG = true := by
    intro ws
    induction ws with
    | nil => intro p q hp h; cases h; exact hp
    | cons w r ih =>
      intro p q hp h
      rw [wordsW] at h
      split at h
      · cases h
      · next p' hp' =>
        refine ih p' q ?_ h
        unfold stepW at hp'
        split at hp'
        · cases hp'; exact hp
        · split at hp'
          · cases hp'
          · next n hn =>
            have hg := (numW_some hn).2
            split at hp' <;> (cases hp'; simp only [List.all_append, List.all_cons, List.all_nil, hg, hp.1, hp.2, Bool.and_true, and_self])
  intro ws
  induction ws with
  | nil => intro l h; cases h
  | cons w r ih =>
    intro l h
    rw [linesP] at h
    split at h
    · split at h
      · cases h; simp
      · cases h
    · split at h
      · cases h
      · next s hs =>
        obtain ⟨l', hl, rfl⟩ := Option.map_eq_some_iff.1 h
        intro x hx
        rw [List.mem_cons] at hx
        rcases hx with rfl | hx
        · unfold parseStepP at hs
          split at hs
          · cases hs
          · next p hp =>
            split at hs
            · cases hs
              have := hw _ _ _ ⟨rfl, rfl⟩ hp
              unfold ranged; simp [this.1, this.2]
            · cases hs
        · exact ih l' hl x hx
end Go.Proofs.YtnkhaobokmmnjaaDoor
