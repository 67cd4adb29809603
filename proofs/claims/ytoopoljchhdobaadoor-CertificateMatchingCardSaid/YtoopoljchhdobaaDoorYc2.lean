/-
  The texts of certificates: no proper prefix of one is one; their lines.
-/
import Derived.Test.YtoopoljchhdobaaDoorYc1
namespace Go.Proofs.YtoopoljchhdobaaDoor

theorem textL_count : ∀ l : List St, (textL l).count 10 = l.length
  | [] => rfl
  | s :: r => by
    have e : textL (s :: r) = stepText s ++ 10 :: textL r := by simp [textL]
    have h0 : (stepText s).count 10 = 0 := List.count_eq_zero.2 fun h => step_chars s 10 h rfl
    rw [e, List.count_append, List.count_cons, h0, textL_count r]; simp
theorem lineS_count {name : List UInt8} (hn : ∀ y ∈ name, y ≠ 10) (l : List Int) : (lineS name l).count 10 = 1 := by
  have h0 : (name ++ hintText l).count 10 = 0 := List.count_eq_zero.2 fun h => by
    rw [List.mem_append] at h
    rcases h with h | h
    · exact hn 10 h rfl
    · exact hintText_chars l 10 h rfl
  unfold lineS
  rw [List.count_append, h0]; rfl
theorem textL_last {l : List St} (h : l ≠ []) : (textL l).getLast? = some 10 := by
  rcases List.eq_nil_or_concat l with rfl | ⟨m, s, rfl⟩
  · exact absurd rfl h
  · rw [List.concat_eq_append, textL_snoc]; simp
/-- The lines behind the first. -/
def nlC (x : CertS) : Nat := if x.ver = 1 then x.prf.length else if x.ver = 2 then 2 else 0
theorem tail_count (x : CertS) : (tailC x).count 10 = nlC x := by
  unfold tailC nlC
  split
  · exact textL_count _
  · split
    · rw [List.count_append, lineS_count (by decide), lineS_count (by decide)]
    · rfl
theorem tail_last {x : CertS} (h : tailC x ≠ []) : (tailC x).getLast? = some 10 := by
  unfold tailC at h ⊢
  split
  · next e =>
    rw [if_pos e] at h
    exact textL_last fun e2 => h (by rw [e2]; rfl)
  · next e =>
    rw [if_neg e] at h
    split
    · have e3 : lineS oldW x.old ++ lineS nowW x.now = (lineS oldW x.old ++ (nowW ++ hintText x.now)) ++ [10] := by unfold lineS; simp
      rw [e3]; simp
    · next e2 => rw [if_neg e2] at h; exact absurd rfl h
theorem first_count {x : CertS} (h : usableB x = true) : (firstC x).count 10 = 0 := List.count_eq_zero.2 fun hm => first_chars h 10 hm rfl
theorem text_lines {x : CertS} (h : usableB x = true) : (textC x).count 10 = 1 + nlC x := by
  unfold textC; rw [if_pos h]; unfold textU
  rw [List.count_append, List.count_cons, first_count h, tail_count]; simp; omega
theorem text_last {x : CertS} (h : usableB x = true) : (textC x).getLast? = some 10 := by
  unfold textC; rw [if_pos h]; unfold textU
  by_cases e : tailC x = []
  · rw [e]; simp
  · have := tail_last e
    cases ht : tailC x with
    | nil => exact absurd ht e
    | cons a r => rw [ht] at this; simp at this ⊢; exact this
theorem text_ne {x : CertS} (h : usableB x = true) : textC x ≠ [] := by
  unfold textC; rw [if_pos h]; unfold textU; simp
theorem usable_of_ne {x : CertS} (h : textC x ≠ []) : usableB x = true := by
  unfold textC at h; split at h
  · assumption
  · exact absurd rfl h
theorem itoa_inj {m n : Nat} (hm : m ≤ 20000) (hn : n ≤ 20000) (h : Lib.itoa (m : Int) = Lib.itoa (n : Int)) : m = n := by
  have h1 := atoi_itoa (m : Int) (by omega) (by omega)
  have h2 := atoi_itoa (n : Int) (by omega) (by omega)
  rw [h, h2] at h1
  injection h1 with h1
  omega
theorem nl_of_first {x z : CertS} (hx : usableB x = true) (hz : usableB z = true) (h : firstC x = firstC z) : nlC x = nlC z := by
  have hw : wordsC x = wordsC z := by rw [← split_first hx, ← split_first hz, h]
  obtain ⟨_, _, rx⟩ := usable_parts hx
  obtain ⟨_, _, rz⟩ := usable_parts hz
  have h3 : wordC x.ver = wordC z.ver := by
    have := congrArg (fun w => w.getD 3 []) hw
    unfold wordsC at this
    exact this
  have hv : x.ver = z.ver := by
    rcases rest_cases rx with ⟨e, _⟩ | ⟨e, _⟩ | ⟨e, _⟩ <;> rcases rest_cases rz with ⟨f, _⟩ | ⟨f, _⟩ | ⟨f, _⟩ <;> rw [e, f] at h3 ⊢ <;> revert h3 <;> decide
  unfold nlC
  rw [hv]
  split
  · next e =>
    have hp : prfB x.prf = true := by
      rcases rest_cases rx with ⟨f, _⟩ | ⟨_, p, _⟩ | ⟨f, _⟩
      · rw [hv, e] at f; exact absurd f (by decide)
      · exact p
      · rw [hv, e] at f; exact absurd f (by decide)
    have hq : prfB z.prf = true := by
      rcases rest_cases rz with ⟨f, _⟩ | ⟨_, p, _⟩ | ⟨f, _⟩
      · rw [e] at f; exact absurd f (by decide)
      · exact p
      · rw [e] at f; exact absurd f (by decide)
    have h4 := congrArg (fun w => w.getD 4 []) hw
    unfold wordsC at h4
    rw [if_pos (by rw [hv]; exact e), if_pos e] at h4
    exact itoa_inj (prf_ranged hp).2.2 (prf_ranged hq).2.2 h4
  · rfl
/-- No proper prefix of the text of a usable certificate is one. -/
theorem text_prefix {x z : CertS} (hx : usableB x = true) (hz : usableB z = true) {t : List UInt8} (h : textC x = textC z ++ t) : t = [] := by
  have h0 := h
  have cx := text_lines hx
  have cz := text_lines hz
  have ex : textC x = firstC x ++ 10 :: tailC x := by unfold textC; rw [if_pos hx]; rfl
  have ez : textC z = firstC z ++ 10 :: tailC z := by unfold textC; rw [if_pos hz]; rfl
  have hf : firstC x = firstC z := by
    have h1 : splitB 10 (textC x) = firstC x :: splitB 10 (tailC x) := by rw [ex]; exact splitB_cons 10 _ (first_chars hx)
    have h2 : splitB 10 (textC z ++ t) = firstC z :: splitB 10 (tailC z ++ t) := by
      rw [ez, List.append_assoc, List.cons_append]; exact splitB_cons 10 _ (first_chars hz)
    rw [h, h2] at h1
    injection h1 with h1 _
    exact h1.symm
  have hn := nl_of_first hx hz hf
  have ht : t.count 10 = 0 := by
    have := congrArg (List.count 10) h
    rw [List.count_append, cx, cz, hn] at this
    omega
  have hl := text_last hx
  by_cases e : t = []
  · exact e
  · exfalso
    rw [h, List.getLast?_append] at hl
    cases hg : t.getLast? with
    | none => exact e (List.getLast?_eq_none_iff.1 hg)
    | some y =>
      rw [hg] at hl
      simp at hl
      subst hl
      exact List.count_eq_zero.1 ht (List.mem_of_getLast? hg)
theorem parse_some {t : List UInt8} {z : CertS} (h : parseC t = some z) : textC z = t ∧ usableB z = true ∧ z = readC t := by
  unfold parseC at h
  split at h
  · next c =>
    cases h
    exact ⟨c.1, usable_of_ne (by rw [c.1]; exact c.2), rfl⟩
  · cases h
theorem parse_textC {x : CertS} (h : usableB x = true) : parseC (textC x) = some x := by
  unfold parseC
  rw [read_text h, if_pos ⟨rfl, text_ne h⟩]
theorem parse_nil : parseC [] = none := by unfold parseC; rw [if_neg (by simp)]
theorem parse_take {x : CertS} (h : usableB x = true) {m : Nat} (hm : m < (textC x).length) : parseC ((textC x).take m) = none := by
  cases hp : parseC ((textC x).take m) with
  | none => rfl
  | some z =>
    obtain ⟨h1, h2, _⟩ := parse_some hp
    have : textC x = textC z ++ (textC x).drop m := by rw [h1, List.take_append_drop]
    have hd := text_prefix h h2 this
    have := congrArg List.length hd
    rw [List.length_drop] at this
    simp at this; omega
theorem parse_more {x : CertS} (h : usableB x = true) (b : UInt8) : parseC (textC x ++ [b]) = none := by
  cases hp : parseC (textC x ++ [b]) with
  | none => rfl
  | some z =>
    obtain ⟨h1, h2, _⟩ := parse_some hp
    have := text_prefix h2 h h1
    cases this
end Go.Proofs.YtoopoljchhdobaaDoor
