/-
  Plain laws of CnfText: the text of a formula, laid out in any way, is read back.
-/
import Derived.Test.YtnkhaobokmmnjaaDoorCp1
namespace Go.Proofs.YtnkhaobokmmnjaaDoor

/-! ### Numbers -/
theorem digits_digOk (u : Nat) : ∀ x ∈ Lib.decDigits u, digOk x = true := fun x hx => by
  have := digits_chars u x hx
  unfold digOk; simp; omega
theorem digits_len : ∀ (k u : Nat), u < 10 ^ (k + 1) → (Lib.decDigits u).length ≤ k + 1 := by
  intro k
  induction k with
  | zero => intro u h; rw [Lib.decDigits, dif_pos (by simpa using h)]; simp
  | succ k ih =>
    intro u h
    rw [Lib.decDigits]
    split
    · simp
    · have := ih (u / 10) (by rw [Nat.pow_succ] at h; omega)
      rw [List.length_append]; simp; omega
theorem digits_head : ∀ u : Nat, u ≠ 0 → (Lib.decDigits u).head? ≠ some 48 := by
  intro u
  induction u using Nat.strongRecOn with
  | _ u ih =>
    intro hu
    rw [Lib.decDigits]
    split
    · next h =>
      simp only [List.head?_cons, ne_eq, Option.some.injEq]
      intro e
      have e2 := congrArg UInt8.toNat e
      simp [UInt8.toNat_ofNat] at e2
      omega
    · next h =>
      have h1 := ih (u / 10) (by omega) (by omega)
      have hne := digits_ne (u / 10)
      cases hd : Lib.decDigits (u / 10) with
      | nil => exact absurd hd hne
      | cons a r => rw [hd] at h1; simpa using h1
theorem digits_val : ∀ u : Nat, (Lib.decDigits u).foldl digV 0 = (u : Int) := by
  intro u
  induction u using Nat.strongRecOn with
  | _ u ih =>
    rw [Lib.decDigits]
    split
    · next h =>
      have e : (UInt8.ofNat (48 + u)).toNat = 48 + u := by simp [UInt8.toNat_ofNat]; omega
      simp only [List.foldl_cons, List.foldl_nil, digV, e]; omega
    · next h =>
      have e : (UInt8.ofNat (48 + u % 10)).toNat = 48 + u % 10 := by simp [UInt8.toNat_ofNat]; omega
      rw [List.foldl_append, ih (u / 10) (by omega)]
      simp only [List.foldl_cons, List.foldl_nil, digV, e]; omega
theorem digits_minus (u : Nat) : Lib.trimPrefix (Lib.decDigits u) [45] = Lib.decDigits u := by
  unfold Lib.trimPrefix
  rw [if_neg]
  have hne := digits_ne u
  have hc := digits_chars u
  cases hd : Lib.decDigits u with
  | nil => exact absurd hd hne
  | cons a r =>
    have := hc a (by rw [hd]; simp)
    intro h
    have : a = 45 := by have h' : 45 = a := by simpa [Lib.hasPrefix] using h
                        exact h'.symm
    subst this
    have h2 : (45 : UInt8).toNat = 45 := rfl
    omega
theorem numC_itoa (n : Int) (h0 : -999999999 ≤ n) (h1 : n ≤ 999999999) : numC (Lib.itoa n) = some n := by
  by_cases hn : n < 0
  · obtain ⟨u, hu⟩ : ∃ u : Nat, n = -(u : Int) := ⟨n.natAbs, by omega⟩
    subst hu
    have hd : digsOf (45 :: Lib.decDigits u) = Lib.decDigits u := by unfold digsOf Lib.trimPrefix; simp [Lib.hasPrefix]
    rw [Lib.itoa_neg u (by omega)]
    have hl := digits_len 8 u (by omega)
    have hp := List.length_pos_iff.2 (digits_ne u)
    have hh := digits_head u (by omega)
    unfold numC numBad
    rw [hd, if_neg, if_pos (List.all_eq_true.2 (digits_digOk u)), if_pos (by simp), digits_val]
    simp only [Bool.or_eq_true, decide_eq_true_eq, Bool.and_eq_true, beq_iff_eq, not_or, not_and]
    exact ⟨⟨by omega, by omega⟩, fun h => absurd h hh⟩
  · obtain ⟨u, hu⟩ : ∃ u : Nat, n = (u : Int) := ⟨n.toNat, by omega⟩
    subst hu
    rw [Lib.itoa_nonneg u]
    have hd : digsOf (Lib.decDigits u) = Lib.decDigits u := digits_minus u
    have hl := digits_len 8 u (by omega)
    have hp := List.length_pos_iff.2 (digits_ne u)
    unfold numC numBad
    rw [hd, if_neg, if_pos (List.all_eq_true.2 (digits_digOk u)), if_neg (by simp), digits_val]
    simp only [Bool.or_eq_true, decide_eq_true_eq, Bool.and_eq_true, beq_iff_eq, not_or, not_and]
    refine ⟨⟨by omega, by omega⟩, fun h => ?_⟩
    by_cases e : u = 0
    · subst e; rw [Lib.decDigits, dif_pos (by omega)]; decide
    · exact absurd h (digits_head u e)

/-! ### The words of a text -/
def toks (t : List UInt8) : List (List UInt8) := (linesC t).flatMap (wordsF [])
/-- A word that no separator cuts and that opens no remark. -/
def Word (w : List UInt8) : Prop := w ≠ [] ∧ (∀ x ∈ w, sepC x = false ∧ x ≠ 10) ∧ w.head? ≠ some 99
theorem itoa_word (n : Int) : Word (Lib.itoa n) := by
  have key : ∀ x : UInt8, x = 45 ∨ (48 ≤ x.toNat ∧ x.toNat ≤ 57) → (sepC x = false ∧ x ≠ 10) ∧ x ≠ 99 := by
    rintro x (rfl | ⟨h1, h2⟩)
    · decide
    · refine ⟨⟨?_, ?_⟩, ?_⟩
      · unfold sepC
        rw [Bool.or_eq_false_iff, Bool.or_eq_false_iff, beq_eq_false_iff_ne, beq_eq_false_iff_ne, beq_eq_false_iff_ne]
        refine ⟨⟨?_, ?_⟩, ?_⟩ <;> (rintro rfl; revert h1 h2; decide)
      · rintro rfl; revert h1 h2; decide
      · rintro rfl; revert h1 h2; decide
  have hx : ∀ x ∈ Lib.itoa n, x = 45 ∨ (48 ≤ x.toNat ∧ x.toNat ≤ 57) := by
    intro x hx
    unfold Lib.itoa at hx
    split at hx
    · rcases List.mem_cons.1 hx with h | h
      · exact .inl h
      · exact .inr (digits_chars _ x h)
    · exact .inr (digits_chars _ x hx)
  refine ⟨itoa_ne n, fun x h => (key x (hx x h)).1, ?_⟩
  cases hd : Lib.itoa n with
  | nil => simp
  | cons a r =>
    have := (key a (hx a (by rw [hd]; simp))).2
    simpa using this
theorem words_word : ∀ (w cur r : List UInt8), (∀ x ∈ w, sepC x = false) → wordsF cur (w ++ r) = wordsF (cur ++ w) r := by
  intro w
  induction w with
  | nil => intro cur r _; simp
  | cons x w ih =>
    intro cur r h
    rw [List.cons_append, wordsF, if_neg (by rw [h x (by simp)]; simp), ih _ _ (fun y hy => h y (by simp [hy]))]
    simp
theorem words_sep {w : List UInt8} (hw : Word w) {x : UInt8} (hx : sepC x = true) (r : List UInt8) : wordsF [] (w ++ x :: r) = w :: wordsF [] r := by
  rw [words_word w [] _ fun y hy => (hw.2.1 y hy).1, List.nil_append, wordsF, if_pos hx, if_neg hw.1]
theorem words_last {w : List UInt8} (hw : Word w) : wordsF [] w = [w] := by
  have := words_word w [] [] fun y hy => (hw.2.1 y hy).1
  rw [List.append_nil, List.nil_append] at this
  rw [this, wordsF, if_neg hw.1]
theorem words_lead {x : UInt8} (hx : sepC x = true) (r : List UInt8) : wordsF [] (x :: r) = wordsF [] r := by rw [wordsF, if_pos hx, if_pos rfl]
theorem split_prefix (c : UInt8) : ∀ (w r : List UInt8), (∀ x ∈ w, x ≠ c) → ∃ h t, splitB c r = h :: t ∧ splitB c (w ++ r) = (w ++ h) :: t := by
  intro w
  induction w with
  | nil =>
    intro r _
    cases hs : splitB c r with
    | nil => exact absurd hs (splitB_ne c r)
    | cons h t => exact ⟨h, t, rfl, hs⟩
  | cons x w ih =>
    intro r hw
    obtain ⟨h, t, h1, h2⟩ := ih r fun y hy => hw y (by simp [hy])
    refine ⟨h, t, h1, ?_⟩
    rw [List.cons_append, splitB, if_neg (hw x (by simp)), h2]
    rfl
theorem split_head (c : UInt8) {r h : List UInt8} {t : List (List UInt8)} (hs : splitB c r = h :: t) {y : UInt8} (hy : r.head? ≠ some y) : h.head? ≠ some y := by
  cases r with
  | nil => simp [splitB] at hs; rw [hs.1]; simp
  | cons x r =>
    rw [splitB] at hs
    split at hs
    · simp at hs; rw [hs.1]; simp
    · cases h2 : splitB c r with
      | nil => exact absurd h2 (splitB_ne c r)
      | cons a b =>
        rw [h2] at hs
        simp at hs
        rw [← hs.1]
        simpa using hy
theorem com_no {l : List UInt8} (h : l.head? ≠ some 99) : comC l = false := by unfold comC; rw [beq_eq_false_iff_ne]; exact h
theorem com_yes (l : List UInt8) : comC (99 :: l) = true := by unfold comC; simp
theorem toks_of (t : List UInt8) {h : List UInt8} {r : List (List UInt8)} (hs : splitB 10 t = h :: r) : toks t = (if comC h then [] else wordsF [] h) ++ ((r.filter fun l => !comC l).flatMap (wordsF [])) := by
  unfold toks linesC
  rw [hs]
  cases hc : comC h <;> simp [hc]
theorem toks_sep {w : List UInt8} (hw : Word w) {x : UInt8} (hx : sepC x = true) (hx10 : x ≠ 10) {r : List UInt8} (hr : r.head? ≠ some 99) : toks (w ++ x :: r) = w :: toks r := by
  obtain ⟨h, t, h1, h2⟩ := split_prefix 10 (w ++ [x]) r (fun y hy => by
    rcases List.mem_append.1 hy with g | g
    · exact (hw.2.1 y g).2
    · rw [List.mem_singleton] at g; subst g; exact hx10)
  have e : w ++ x :: r = w ++ [x] ++ r := by simp
  rw [e, toks_of _ h2, toks_of _ h1, com_no (split_head 10 h1 hr), com_no]
  · simp only [Bool.false_eq_true, if_false]
    rw [List.append_assoc, List.singleton_append, words_sep hw hx]; rfl
  · have := hw.1
    cases hd : w with
    | nil => exact absurd hd this
    | cons a b => have := hw.2.2; rw [hd] at this; simpa using this
theorem toks_nl {w : List UInt8} (hw : Word w) (r : List UInt8) : toks (w ++ 10 :: r) = w :: toks r := by
  rw [toks_of (w ++ 10 :: r) (splitB_cons 10 r fun x hx => (hw.2.1 x hx).2), com_no hw.2.2]
  simp only [Bool.false_eq_true, if_false]
  rw [words_last hw]; rfl
theorem toks_lead {x : UInt8} (hx : sepC x = true) (hx10 : x ≠ 10) (hx99 : x ≠ 99) {r : List UInt8} (hr : r.head? ≠ some 99) : toks (x :: r) = toks r := by
  obtain ⟨h, t, h1, h2⟩ := split_prefix 10 [x] r (fun y hy => by rw [List.mem_singleton] at hy; subst hy; exact hx10)
  rw [List.singleton_append] at h2
  rw [toks_of _ h2, toks_of _ h1, com_no (split_head 10 h1 hr), com_no (by simpa using hx99)]
  simp only [Bool.false_eq_true, if_false]
  rw [List.singleton_append, words_lead hx]
theorem toks_blank (r : List UInt8) : toks (10 :: r) = toks r := by
  have h := splitB_cons 10 (w := []) r (by simp)
  rw [List.nil_append] at h
  rw [toks_of _ h]
  rfl
theorem toks_com {l : List UInt8} (hl : ∀ x ∈ l, x ≠ 10) (r : List UInt8) : toks (99 :: l ++ 10 :: r) = toks r := by
  have h := splitB_cons 10 (w := 99 :: l) r (by
    intro x hx
    rcases List.mem_cons.1 hx with e | e
    · subst e; decide
    · exact hl x e)
  rw [toks_of _ h, com_yes]
  rfl
/-- The gaps of the statement. -/
def gapL : List (List UInt8) := [[32], [32, 32], [9], [10], [13, 10], [10, 99, 32, 112, 32, 99, 110, 102, 32, 48, 32, 48, 10], [10, 10]]
theorem toks_gap {w g : List UInt8} (hw : Word w) (hg : g ∈ gapL) {r : List UInt8} (hr : r.head? ≠ some 99) : toks (w ++ (g ++ r)) = w :: toks r := by
  unfold gapL at hg
  simp only [List.mem_cons, List.not_mem_nil, or_false] at hg
  rcases hg with rfl | rfl | rfl | rfl | rfl | rfl | rfl
  · exact toks_sep hw (by decide) (by decide) hr
  · rw [List.cons_append, List.cons_append, List.nil_append, toks_sep hw (by decide) (by decide) (by simp), toks_lead (by decide) (by decide) (by decide) hr]
  · exact toks_sep hw (by decide) (by decide) hr
  · exact toks_nl hw r
  · rw [List.cons_append, List.cons_append, List.nil_append, toks_sep hw (by decide) (by decide) (by simp), toks_blank]
  · rw [List.cons_append, toks_nl hw]
    have := toks_com (l := [32, 112, 32, 99, 110, 102, 32, 48, 32, 48]) (by decide) r
    rw [← this]; rfl
  · rw [List.cons_append, List.cons_append, List.nil_append, toks_nl hw, toks_blank]

/-! ### The text of a formula and its layouts -/
def clText (c : List Int) : List UInt8 := litText c ++ [48, 10]
def clsText (cl : List (List Int)) : List UInt8 := cl.flatMap clText
def headText (vars : Int) (n : Nat) : List UInt8 := [112, 32, 99, 110, 102, 32] ++ Lib.itoa vars ++ [32] ++ Lib.itoa n
def textC (vars : Int) (cl : List (List Int)) : List UInt8 := headText vars cl.length ++ 10 :: clsText cl
/-- The words of the clauses. -/
def clToks (c : List Int) : List (List UInt8) := c.map Lib.itoa ++ [[48]]
/-- The layout of a text: each space behind the first line becomes a gap. -/
def layB (gap : Nat → List UInt8) : Bool → Nat → List UInt8 → List UInt8
  | _, _, [] => []
  | hd, i, x :: r => (if x = 32 ∧ hd = false then gap i else [x]) ++ layB gap (hd && !(x == 10)) (i + 1) r
theorem layB_append (gap : Nat → List UInt8) : ∀ (a b : List UInt8) (hd : Bool) (i : Nat), layB gap hd i (a ++ b) = layB gap hd i a ++ layB gap (hd && a.all fun x => !(x == 10)) (i + a.length) b := by
  intro a
  induction a with
  | nil => intro b hd i; simp [layB]
  | cons x a ih =>
    intro b hd i
    rw [List.cons_append, layB, layB, ih, List.append_assoc]
    simp only [List.all_cons, Bool.and_assoc, List.length_cons]
    rw [show i + 1 + a.length = i + (a.length + 1) by omega]
theorem layB_head (gap : Nat → List UInt8) : ∀ (a : List UInt8) (i : Nat), (∀ x ∈ a, x ≠ 10) → layB gap true i a = a := by
  intro a
  induction a with
  | nil => intro i _; rfl
  | cons x a ih =>
    intro i h
    have h1 : (x == 10) = false := by rw [beq_eq_false_iff_ne]; exact h x (by simp)
    rw [layB, if_neg (by simp), h1]
    simp only [Bool.not_false, Bool.and_true]
    rw [ih _ fun y hy => h y (by simp [hy])]; rfl
theorem layB_word (gap : Nat → List UInt8) : ∀ (a : List UInt8) (i : Nat), (∀ x ∈ a, x ≠ 32) → layB gap false i a = a := by
  intro a
  induction a with
  | nil => intro i _; rfl
  | cons x a ih =>
    intro i h
    rw [layB, if_neg (by simp [h x (by simp)])]
    simp only [Bool.false_and]
    rw [ih _ fun y hy => h y (by simp [hy])]; rfl
theorem itoa_head (n : Int) (r : List UInt8) : (Lib.itoa n ++ r).head? ≠ some 99 := by
  have h1 := (itoa_word n).2.2; have h2 := (itoa_word n).1
  cases hd : Lib.itoa n with
  | nil => exact absurd hd h2
  | cons a b => rw [hd] at h1; simpa using h1
theorem toks_lits {gap : Nat → List UInt8} (hg : ∀ i, gap i ∈ gapL) : ∀ (c : List Int) (i : Nat) (r : List UInt8), r.head? ≠ some 99 → toks (layB gap false i (litText c) ++ r) = c.map Lib.itoa ++ toks r ∧ (layB gap false i (litText c) ++ r).head? ≠ some 99 := by
  intro c
  induction c with
  | nil => intro i r hr; exact ⟨rfl, hr⟩
  | cons x c ih =>
    intro i r hr
    have e : litText (x :: c) = Lib.itoa x ++ 32 :: litText c := by simp [litText]
    rw [e, layB_append, layB_word gap _ _ (fun y hy => (itoa_chars x y hy).1), Bool.false_and, layB, if_pos ⟨rfl, rfl⟩]
    simp only [Bool.false_and]
    obtain ⟨h1, h2⟩ := ih (i + (Lib.itoa x).length + 1) r hr
    refine ⟨?_, ?_⟩
    · rw [List.append_assoc, List.append_assoc, toks_gap (itoa_word x) (hg _) h2, h1]; rfl
    · rw [List.append_assoc]; exact itoa_head x _
theorem toks_cls {gap : Nat → List UInt8} (hg : ∀ i, gap i ∈ gapL) : ∀ (cl : List (List Int)) (i : Nat), toks (layB gap false i (clsText cl)) = cl.flatMap clToks ∧ (layB gap false i (clsText cl)).head? ≠ some 99 := by
  intro cl
  induction cl with
  | nil => intro i; exact ⟨rfl, by simp [clsText, layB]⟩
  | cons c cl ih =>
    intro i
    have e : clsText (c :: cl) = litText c ++ ([48, 10] ++ clsText cl) := by simp [clsText, clText]
    rw [e, layB_append, layB_append, Bool.false_and, Bool.false_and, layB_word gap [48, 10] _ (by decide)]
    obtain ⟨h1, h2⟩ := ih (i + (litText c).length + [48, 10].length)
    have hz : Word [48] := by rw [show ([48] : List UInt8) = Lib.itoa 0 by simp [Lib.itoa, Lib.decDigits]]; exact itoa_word 0
    obtain ⟨g1, g2⟩ := toks_lits hg c i ([48, 10] ++ layB gap false (i + (litText c).length + [48, 10].length) (clsText cl)) (by simp)
    refine ⟨?_, g2⟩
    refine g1.trans ?_
    have := toks_nl hz (layB gap false (i + (litText c).length + [48, 10].length) (clsText cl))
    rw [show ([48, 10] : List UInt8) ++ layB gap false (i + (litText c).length + [48, 10].length) (clsText cl) = [48] ++ 10 :: layB gap false (i + (litText c).length + [48, 10].length) (clsText cl) from rfl, this, h1]
    simp [clToks]

/-! ### Reading -/
theorem lines_begun : ∀ (ls : List (List UInt8)) (s : RdC), s.begun = true → linesR s ls = litsR s (ls.flatMap (wordsF [])) := by
  have hb : ∀ (w : List UInt8) (s s' : RdC), s.begun = true → litR s w = .ok s' → s'.begun = true := by
    intro w s s' hs h
    unfold litR at h
    split at h
    · cases h
    · split at h
      · cases h
      · split at h
        · cases h
        · split at h <;> (simp only [Except.ok.injEq] at h; subst h; exact hs)
  have hbs : ∀ (ws : List (List UInt8)) (s s' : RdC), s.begun = true → litsR s ws = .ok s' → s'.begun = true := by
    intro ws
    induction ws with
    | nil => intro s s' hs h; simp only [litsR, Except.ok.injEq] at h; subst h; exact hs
    | cons w ws ih =>
      intro s s' hs h
      rw [litsR] at h
      cases h1 : litR s w with
      | error e => rw [h1] at h; cases h
      | ok s1 => rw [h1] at h; exact ih s1 s' (hb w s s1 hs h1) h
  intro ls
  induction ls with
  | nil => intro s _; rfl
  | cons l ls ih =>
    intro s hs
    have h1 : lineR s l = litsR s (wordsF [] l) := by
      unfold lineR
      by_cases h : wordsF [] l = []
      · rw [if_pos h, h]; rfl
      · rw [if_neg h, if_pos hs]
    rw [linesR, h1, List.flatMap_cons, litsR_append]
    cases h2 : litsR s (wordsF [] l) with
    | error e => rfl
    | ok s' => exact ih s' (hbs _ _ _ hs h2)
theorem lit_ok {s : RdC} {l : Int} (h0 : litOk s.vars l = true) (hv : s.vars ≤ 8000) (hc : (s.cls.length : Int) < s.count) : litR s (Lib.itoa l) = .ok { s with clause := s.clause ++ [l] } := by
  obtain ⟨h1, h2, h3⟩ := absI_ok h0
  have hb : -999999999 ≤ l ∧ l ≤ 999999999 := by unfold absI at h2; split at h2 <;> omega
  unfold litR
  rw [numC_itoa l hb.1 hb.2]
  simp only []
  rw [if_neg (by omega), if_neg (by omega), if_neg h3]
theorem lit_end {s : RdC} (hv : 0 ≤ s.vars) (hc : (s.cls.length : Int) < s.count) : litR s [48] = .ok { s with cls := s.cls ++ [s.clause], clause := [] } := by
  unfold litR
  rw [show numC [48] = some 0 by decide]
  simp only []
  rw [if_neg (by omega), if_neg (by unfold absI; simp; omega), if_pos trivial]
theorem lits_clause : ∀ (c : List Int) (s : RdC) (r : List (List UInt8)), (∀ x ∈ c, litOk s.vars x = true) → s.vars ≤ 8000 → (s.cls.length : Int) < s.count → litsR s (c.map Lib.itoa ++ r) = litsR { s with clause := s.clause ++ c } r := by
  intro c
  induction c with
  | nil => intro s r _ _ _; simp
  | cons x c ih =>
    intro s r h hv hc
    rw [List.map_cons, List.cons_append, litsR, lit_ok (h x (by simp)) hv hc]
    simp only []
    rw [ih { s with clause := s.clause ++ [x] } r (fun y hy => h y (by simp [hy])) hv hc]
    simp
theorem lits_cls : ∀ (cl : List (List Int)) (s : RdC), (∀ c ∈ cl, ∀ x ∈ c, litOk s.vars x = true) → 0 ≤ s.vars → s.vars ≤ 8000 → (s.cls.length : Int) + cl.length ≤ s.count → s.clause = [] → litsR s (cl.flatMap clToks) = .ok { s with cls := s.cls ++ cl } := by
  intro cl
  induction cl with
  | nil => intro s _ _ _ _ _; simp [litsR]
  | cons c cl ih =>
    intro s h h0 hv hc he
    rw [List.length_cons] at hc
    rw [List.flatMap_cons]
    unfold clToks
    rw [List.append_assoc, lits_clause c s _ (h c (by simp)) hv (by omega), List.singleton_append, litsR, lit_end (s := { s with clause := s.clause ++ c }) h0 (by show (s.cls.length : Int) < s.count; omega)]
    simp only []
    have := ih { s with cls := s.cls ++ [s.clause ++ c], clause := [] } (fun d hd => h d (by simp [hd])) h0 hv (by simp only [List.length_append, List.length_singleton]; omega) rfl
    rw [he, List.nil_append] at this
    rw [he, List.nil_append]
    unfold clToks at this
    rw [this]
    simp
theorem head_chars (vars : Int) (n : Nat) : ∀ x ∈ headText vars n, x ≠ 10 := by
  intro x hx
  unfold headText at hx
  simp only [List.mem_append] at hx
  rcases hx with ((h | h) | h) | h
  · rintro rfl; revert h; decide
  · exact (itoa_chars _ x h).2.1
  · rintro rfl; revert h; decide
  · exact (itoa_chars _ x h).2.1
theorem head_words (vars : Int) (n : Nat) : wordsF [] (headText vars n) = [[112], [99, 110, 102], Lib.itoa vars, Lib.itoa n] := by
  have e : headText vars n = [112] ++ 32 :: ([99, 110, 102] ++ 32 :: (Lib.itoa vars ++ 32 :: Lib.itoa n)) := by simp [headText]
  have hp : wordsF [] ([112] ++ 32 :: ([99, 110, 102] ++ 32 :: (Lib.itoa vars ++ 32 :: Lib.itoa n))) = [112] :: wordsF [] ([99, 110, 102] ++ 32 :: (Lib.itoa vars ++ 32 :: Lib.itoa n)) := by
    rw [words_word [112] [] _ (by decide)]; rfl
  have hc : wordsF [] ([99, 110, 102] ++ 32 :: (Lib.itoa vars ++ 32 :: Lib.itoa n)) = [99, 110, 102] :: wordsF [] (Lib.itoa vars ++ 32 :: Lib.itoa n) := by
    rw [words_word [99, 110, 102] [] _ (by decide)]; rfl
  rw [e, hp, hc, words_sep (itoa_word vars) (by decide), words_last (itoa_word _)]
theorem lineR_head {vars : Int} {n : Nat} (h0 : 0 ≤ vars) (hv : vars ≤ 8000) (hn : n ≤ 40000) : lineR rd0 (headText vars n) = .ok { rd0 with begun := true, vars := vars, count := n } := by
  unfold lineR
  rw [head_words, if_neg (by simp), if_neg (by simp [rd0])]
  have h : headR [[112], [99, 110, 102], Lib.itoa vars, Lib.itoa n] = .ok (vars, (n : Int)) := by
    show (if ([112] : List UInt8) = [112] ∧ ([99, 110, 102] : List UInt8) = [99, 110, 102] then
        match numC (Lib.itoa vars), numC (Lib.itoa n) with
        | some v, some m => if v < 0 ∨ m < 0 then .error 130 else if 8000 < v ∨ 40000 < m then .error 2 else .ok (v, m)
        | _, _ => .error 130
      else (.error 130 : Except Int (Int × Int))) = _
    rw [if_pos ⟨rfl, rfl⟩, numC_itoa vars (by omega) (by omega), numC_itoa n (by omega) (by omega)]
    simp only []
    rw [if_neg (by omega), if_neg (by omega)]
  rw [h]
theorem parse_body {vars : Int} {cl : List (List Int)} {b : List UInt8} (hv : validC vars cl = true) (hb : toks b = cl.flatMap clToks) : ∀ pre : List (List UInt8), (∀ l ∈ pre, lineR rd0 l = .ok rd0) →
    linesR rd0 (pre ++ headText vars cl.length :: linesC b) = .ok ⟨vars, cl, true, cl.length, []⟩ := by
  unfold validC at hv
  simp only [Bool.and_eq_true, decide_eq_true_eq, List.all_eq_true] at hv
  obtain ⟨⟨⟨h0, h8⟩, hl⟩, hlit⟩ := hv
  intro pre
  induction pre with
  | nil =>
    intro _
    rw [List.nil_append, linesR, lineR_head h0 h8 hl]
    simp only []
    rw [lines_begun _ _ rfl]
    have e : (linesC b).flatMap (wordsF []) = toks b := rfl
    rw [e, hb, lits_cls cl _ hlit h0 h8 (by simp [rd0]) rfl]
    simp [rd0]
  | cons l pre ih =>
    intro h
    rw [List.cons_append, linesR, h l (by simp)]
    exact ih fun m hm => h m (by simp [hm])
theorem parse_ok {vars : Int} {cl : List (List Int)} {t : List UInt8} (h : linesR rd0 (linesC t) = .ok ⟨vars, cl, true, cl.length, []⟩) : parseF t = .ok (vars, cl) := by
  unfold parseF
  rw [h]
  simp [endBad]
theorem layB_one (i : Nat) : ∀ (a : List UInt8) (hd : Bool) , layB (fun _ => [32]) hd i a = a := by
  intro a
  induction a generalizing i with
  | nil => intro hd; rfl
  | cons x a ih =>
    intro hd
    rw [layB, ih]
    split
    · next h => rw [h.1]; rfl
    · rfl
/-- The text of a valid formula is read back. -/
theorem parse_textC {vars : Int} {cl : List (List Int)} (hv : validC vars cl = true) : parseF (textC vars cl) = .ok (vars, cl) := by
  have hb : toks (clsText cl) = cl.flatMap clToks := by
    have := (toks_cls (gap := fun _ => [32]) (fun _ => by decide) cl 0).1
    rwa [layB_one] at this
  have e : linesC (textC vars cl) = headText vars cl.length :: linesC (clsText cl) := by
    unfold linesC textC
    rw [splitB_cons 10 _ (head_chars _ _), List.filter_cons, com_no (by simp [headText])]
    simp
  have := parse_body hv hb [] (by simp)
  rw [List.nil_append, ← e] at this
  exact parse_ok this
/-- So is every layout of it. -/
theorem parse_layC {vars : Int} {cl : List (List Int)} (hv : validC vars cl = true) {gap : Nat → List UInt8} (hg : ∀ i, gap i ∈ gapL) : parseF ([99, 10, 10] ++ layB gap true 0 (textC vars cl)) = .ok (vars, cl) := by
  have hl : layB gap true 0 (textC vars cl) = headText vars cl.length ++ 10 :: layB gap false ((headText vars cl.length).length + 1) (clsText cl) := by
    have ha : ((headText vars cl.length).all fun x => !(x == 10)) = true := by
      rw [List.all_eq_true]; intro x hx; simpa using head_chars _ _ x hx
    unfold textC
    rw [layB_append, layB_head gap _ _ (head_chars _ _), ha, layB, if_neg (by decide)]
    simp
  have hb := (toks_cls hg cl ((headText vars cl.length).length + 1)).1
  have e : linesC ([99, 10, 10] ++ layB gap true 0 (textC vars cl)) = [[]] ++ headText vars cl.length :: linesC (layB gap false ((headText vars cl.length).length + 1) (clsText cl)) := by
    rw [hl]
    unfold linesC
    have h1 : splitB 10 ([99, 10, 10] ++ (headText vars cl.length ++ 10 :: layB gap false ((headText vars cl.length).length + 1) (clsText cl))) = [99] :: [] :: splitB 10 (headText vars cl.length ++ 10 :: layB gap false ((headText vars cl.length).length + 1) (clsText cl)) := rfl
    rw [h1, splitB_cons 10 _ (head_chars _ _), List.filter_cons, List.filter_cons, List.filter_cons, com_no (l := headText vars cl.length) (by simp [headText])]
    simp [comC]
  have := parse_body hv hb [[]] (by intro l hl; rw [List.mem_singleton] at hl; subst hl; rfl)
  rw [← e] at this
  exact parse_ok this
end Go.Proofs.YtnkhaobokmmnjaaDoor
