/-
  What cnf.Parse computes, in plain terms.
-/
import Derived.Test.YtnkhaobokmmnjaaDoorPx1
import Derived.Test.YtnkhaobokmmnjaaDoorCn1
import Derived.Lib.Strings
namespace Go.Proofs.YtnkhaobokmmnjaaDoor

/-! ### Numbers -/
def digOk (x : UInt8) : Bool := decide (48 ≤ x.toNat) && decide (x.toNat ≤ 57)
def digV (n : Int) (x : UInt8) : Int := 10 * n + ((x.toNat : Int) - 48)
def digsOf (w : List UInt8) : List UInt8 := Lib.trimPrefix w [45]
def numBad (w : List UInt8) : Bool := decide ((digsOf w).length < 1) || decide (9 < (digsOf w).length) || ((digsOf w).head? == some 48 && !(w == [48]))
/-- The number that a word denotes. -/
def numC (w : List UInt8) : Option Int :=
  if numBad w then none else
  if (digsOf w).all digOk then some (if (digsOf w).length < w.length then -(digsOf w).foldl digV 0 else (digsOf w).foldl digV 0) else none

theorem digV_bound : ∀ (l : List UInt8) (n : Int), (∀ x ∈ l, digOk x = true) → 0 ≤ n → 0 ≤ l.foldl digV n ∧ l.foldl digV n + 1 ≤ (n + 1) * 10 ^ l.length := by
  intro l
  induction l with
  | nil => intro n _ h; simp; omega
  | cons x r ih =>
    intro n hx hn
    have h := hx x (by simp)
    unfold digOk at h
    simp only [Bool.and_eq_true, decide_eq_true_eq] at h
    have hv : 0 ≤ digV n x ∧ digV n x + 1 ≤ (n + 1) * 10 := by unfold digV; omega
    obtain ⟨h1, h2⟩ := ih (digV n x) (fun y hy => hx y (by simp [hy])) hv.1
    refine ⟨by simpa using h1, ?_⟩
    simp only [List.foldl_cons, List.length_cons]
    have hp : (0 : Int) ≤ 10 ^ r.length := Int.pow_nonneg (by decide)
    have h3 : (digV n x + 1) * 10 ^ r.length ≤ (n + 1) * 10 * 10 ^ r.length := Int.mul_le_mul_of_nonneg_right hv.2 hp
    have e : (n + 1) * 10 ^ (r.length + 1) = (n + 1) * 10 * 10 ^ r.length := by rw [Int.pow_succ, Int.mul_assoc, Int.mul_comm (10 ^ r.length) 10]
    rw [e]; omega
theorem digV_small {l : List UInt8} (h : ∀ x ∈ l, digOk x = true) (hl : l.length ≤ 9) : 0 ≤ l.foldl digV 0 ∧ l.foldl digV 0 ≤ 999999999 := by
  obtain ⟨h1, h2⟩ := digV_bound l 0 h (by omega)
  refine ⟨h1, ?_⟩
  have h3 : (10 : Int) ^ l.length ≤ 10 ^ 9 := by
    have : (10 : Nat) ^ l.length ≤ 10 ^ 9 := Nat.pow_le_pow_right (by decide) hl
    exact_mod_cast this
  have h4 : (10 : Int) ^ 9 = 1000000000 := by decide
  omega
theorem digsOf_le (w : List UInt8) : (digsOf w).length ≤ w.length := by
  unfold digsOf Lib.trimPrefix; split <;> simp
theorem numC_bound {w : List UInt8} {n : Int} (h : numC w = some n) : -999999999 ≤ n ∧ n ≤ 999999999 := by
  unfold numC at h
  split at h
  · cases h
  · next hb =>
    unfold numBad at hb
    simp only [Bool.or_eq_true, decide_eq_true_eq, not_or] at hb
    split at h
    · next hd =>
      have := digV_small (List.all_eq_true.1 hd) (by omega)
      simp only [Option.some.injEq] at h
      split at h <;> omega
    · cases h

/-! ### Words and lines -/
def sepC (x : UInt8) : Bool := x == 32 || x == 9 || x == 13
def wordsF (cur : List UInt8) : List UInt8 → List (List UInt8)
  | [] => if cur = [] then [] else [cur]
  | x :: r => if sepC x then (if cur = [] then wordsF [] r else cur :: wordsF [] r) else wordsF (cur ++ [x]) r
def comC (l : List UInt8) : Bool := l.head? == some 99
def linesC (t : List UInt8) : List (List UInt8) := (splitB 10 t).filter fun l => !comC l

/-! ### The reader -/
structure RdC where
  vars : Int
  cls : List (List Int)
  begun : Bool
  count : Int
  clause : List Int
def rd0 : RdC := ⟨0, [], false, 0, []⟩
def headR : List (List UInt8) → Except Int (Int × Int)
  | [a, b, c, d] =>
    if a = [112] ∧ b = [99, 110, 102] then
      match numC c, numC d with
      | some v, some m => if v < 0 ∨ m < 0 then .error 130 else if 8000 < v ∨ 40000 < m then .error 2 else .ok (v, m)
      | _, _ => .error 130
    else .error 130
  | _ => .error 130
def litR (s : RdC) (w : List UInt8) : Except Int RdC :=
  match numC w with
  | none => .error 130
  | some l =>
    if (s.cls.length : Int) = s.count then .error 130 else
    if s.vars < absI l then .error 210 else
    if l = 0 then .ok { s with cls := s.cls ++ [s.clause], clause := [] } else .ok { s with clause := s.clause ++ [l] }
def litsR (s : RdC) : List (List UInt8) → Except Int RdC
  | [] => .ok s
  | w :: r => match litR s w with
    | .error e => .error e
    | .ok s' => litsR s' r
def lineR (s : RdC) (l : List UInt8) : Except Int RdC :=
  if wordsF [] l = [] then .ok s else
  if s.begun then litsR s (wordsF [] l) else
  match headR (wordsF [] l) with
  | .error e => .error e
  | .ok (v, m) => .ok { s with begun := true, vars := v, count := m }
def linesR (s : RdC) : List (List UInt8) → Except Int RdC
  | [] => .ok s
  | l :: r => match lineR s l with
    | .error e => .error e
    | .ok s' => linesR s' r
def endBad (s : RdC) : Bool := !s.begun || decide (0 < s.clause.length) || decide ((s.cls.length : Int) < s.count)
def parseF (t : List UInt8) : Except Int (Int × List (List Int)) :=
  match linesR rd0 (linesC t) with
  | .error e => .error e
  | .ok s => if endBad s then .error 130 else .ok (s.vars, s.cls)
theorem litsR_append (s : RdC) (a b : List (List UInt8)) : litsR s (a ++ b) = match litsR s a with | .error e => .error e | .ok s' => litsR s' b := by
  induction a generalizing s with
  | nil => rfl
  | cons x a ih =>
    simp only [List.cons_append, litsR]
    cases h : litR s x with
    | error e => rfl
    | ok s' => exact ih s'
theorem linesR_append (s : RdC) (a b : List (List UInt8)) : linesR s (a ++ b) = match linesR s a with | .error e => .error e | .ok s' => linesR s' b := by
  induction a generalizing s with
  | nil => rfl
  | cons x a ih =>
    simp only [List.cons_append, linesR]
    cases h : lineR s x with
    | error e => rfl
    | ok s' => exact ih s'
end Go.Proofs.YtnkhaobokmmnjaaDoor
