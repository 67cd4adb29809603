/-
  The pieces of a text and their places.
-/
import Derived.Test.YtoopoljchhdobaaDoorYc3
namespace Go.Proofs.YtoopoljchhdobaaDoor

/-- The pieces that were taken, with their separators. -/
def gone (c : UInt8) (pre : List (List UInt8)) : List UInt8 := pre.flatMap (· ++ [c])
theorem gone_snoc (c : UInt8) (pre : List (List UInt8)) (x : List UInt8) : gone c (pre ++ [x]) = gone c pre ++ (x ++ [c]) := by simp [gone]
theorem join_gone (c : UInt8) : ∀ (pre ws : List (List UInt8)), ws ≠ [] → joinB c (pre ++ ws) = gone c pre ++ joinB c ws
  | [], ws, _ => rfl
  | x :: r, ws, h => by
    have ih := join_gone c r ws h
    have hne : r ++ ws ≠ [] := by simp [h]
    cases hr : r ++ ws with
    | nil => exact absurd hr hne
    | cons a b =>
      rw [List.cons_append, hr, joinB, ← hr, ih]
      simp [gone]
theorem gone_nil {c : UInt8} {pre : List (List UInt8)} : (gone c pre).length = 0 ↔ pre = [] := by
  cases pre with
  | nil => simp [gone]
  | cons x r => simp [gone]
theorem place_last {c : UInt8} {t : List UInt8} {pre : List (List UInt8)} {x : List UInt8} (h : splitB c t = pre ++ [x]) : (gone c pre).length + x.length = t.length := by
  have h1 := join_split c t
  rw [h, join_gone c pre [x] (by simp)] at h1
  rw [← h1]; simp [joinB]
theorem place_more {c : UInt8} {t : List UInt8} {pre rest : List (List UInt8)} {x : List UInt8} (h : splitB c t = pre ++ x :: rest) (hr : rest ≠ []) : t = gone c (pre ++ [x]) ++ joinB c rest := by
  have h1 := join_split c t
  rw [h, show pre ++ x :: rest = (pre ++ [x]) ++ rest by simp, join_gone c _ _ hr] at h1
  exact h1.symm
theorem place_drop {c : UInt8} {t : List UInt8} {pre rest : List (List UInt8)} {x : List UInt8} (h : splitB c t = pre ++ x :: rest) (hr : rest ≠ []) : (gone c pre).length + x.length + 1 ≤ t.length ∧ t.drop ((gone c pre).length + x.length + 1) = joinB c rest := by
  have h1 := place_more h hr
  have e : (gone c (pre ++ [x])).length = (gone c pre).length + x.length + 1 := by rw [gone_snoc]; simp; omega
  refine ⟨?_, ?_⟩
  · have := congrArg List.length h1
    rw [List.length_append, e] at this; omega
  · have h2 : t.drop (gone c (pre ++ [x])).length = joinB c rest := by
      have := congrArg (List.drop (gone c (pre ++ [x])).length) h1
      rw [List.drop_left] at this; exact this
    rw [← e]; exact h2
theorem drop_count (t : List UInt8) (k : Nat) : (t.drop k).count 10 ≤ t.count 10 := (List.drop_sublist k t).count_le 10
theorem piece_len {c : UInt8} {t : List UInt8} {pre rest : List (List UInt8)} {x : List UInt8} (h : splitB c t = pre ++ x :: rest) : x.length ≤ t.length := splitB_mem c t x (by rw [h]; simp)
/-- A round of the reading. -/
theorem lines_last (x : CertS) (f : Bool) (w : List UInt8) : linesW x f [w] = x := by rw [linesW, if_pos rfl]
theorem lines_bad {x : CertS} {f : Bool} {w : List UInt8} {r : List (List UInt8)} (hr : r ≠ []) (h : lineW x f w = none) : linesW x f (w :: r) = x := by rw [linesW, if_neg hr, h]
theorem lines_prf {x y : CertS} {f : Bool} {w : List UInt8} {r : List (List UInt8)} (hr : r ≠ []) (h : lineW x f w = some y) (hv : y.ver = 1) : linesW x f (w :: r) = match parseL (joinB 10 r) with
    | none => y
    | some l => { y with prf := l } := by
  rw [linesW, if_neg hr, h]; simp only; rw [if_pos hv]; rfl
theorem lines_next {x y : CertS} {f : Bool} {w : List UInt8} {r : List (List UInt8)} (hr : r ≠ []) (h : lineW x f w = some y) (hv : ¬ y.ver = 1) : linesW x f (w :: r) = linesW y false r := by
  rw [linesW, if_neg hr, h]; simp only; rw [if_neg hv]
theorem parse_ok {t : List UInt8} (h : textC (readC t) = t) (hn : t ≠ []) : parseC t = some (readC t) := by unfold parseC; rw [if_pos ⟨h, hn⟩]
theorem parse_bad {t : List UInt8} (h : textC (readC t) ≠ t) : parseC t = none := by unfold parseC; rw [if_neg fun c => h c.1]
end Go.Proofs.YtoopoljchhdobaaDoor
