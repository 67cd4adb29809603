/-
  The plain law of the text, first part: reading the text of a well-formed expression gives the expression.
  The plain law of the text, second part: what can be read is the text of the result; expressions with equal texts are equal.
  The walk of ExprText.
-/
import Derived.Test.YtdancokndklpnaaDoorMDc
import Derived.Test.YtdancokndklpnaaDoorMTb
import Derived.Test.YtdancokndklpnaaDoorMLw
namespace Go.Proofs.YtdancokndklpnaaDoor
open Go.RowKit

def ofB (l : List UInt8) : List Int := l.map fun b => (b.toNat : Int)
theorem ofB_append (a b : List UInt8) : ofB (a ++ b) = ofB a ++ ofB b := by simp [ofB]
theorem ofB_length (a : List UInt8) : (ofB a).length = a.length := by simp [ofB]
theorem bytesOf_ofB (l : List UInt8) : bytesOf (ofB l) = l := by
  simp only [bytesOf, ofB, List.map_map]
  induction l with
  | nil => rfl
  | cons x r ih => simp only [List.map_cons, ih, Function.comp]; simp
theorem dig_u8 (k : Nat) (h : k < 10) : ((UInt8.ofNat (48 + k)).toNat : Int) = 48 + k := by
  rw [UInt8.toNat_ofNat']; omega
theorem itoa1 (k : Nat) (h : k < 10) : ofB (Lib.itoa k) = [48 + (k : Int)] := by
  rw [Lib.itoa, if_neg (by omega), Int.toNat_natCast, Lib.decDigits, dif_pos h]
  simp only [ofB, List.map_cons, List.map_nil, dig_u8 k h]
theorem itoa2 (k : Nat) (h : 10 ≤ k) (h1 : k < 100) : ofB (Lib.itoa k) = [48 + ((k / 10 : Nat) : Int), 48 + ((k % 10 : Nat) : Int)] := by
  rw [Lib.itoa, if_neg (by omega), Int.toNat_natCast, Lib.decDigits, dif_neg (by omega), Lib.decDigits, dif_pos (by omega)]
  simp only [ofB, List.map_cons, List.map_nil, List.singleton_append, dig_u8 (k / 10) (by omega), dig_u8 (k % 10) (by omega)]
theorem itoa3 (k : Nat) (h : 100 ≤ k) (h1 : k < 1000) : ofB (Lib.itoa k) = [48 + ((k / 10 / 10 : Nat) : Int), 48 + ((k / 10 % 10 : Nat) : Int), 48 + ((k % 10 : Nat) : Int)] := by
  rw [Lib.itoa, if_neg (by omega), Int.toNat_natCast, Lib.decDigits, dif_neg (by omega), Lib.decDigits, dif_neg (by omega), Lib.decDigits, dif_pos (by omega)]
  simp only [ofB, List.map_cons, List.map_nil, List.cons_append, List.nil_append, dig_u8 (k / 10 / 10) (by omega), dig_u8 (k / 10 % 10) (by omega), dig_u8 (k % 10) (by omega)]

/-- No digit comes next. -/
def Stop (s : List Int) : Prop := ∀ x, s.head? = some x → isDig x = false
theorem numFrom_stop {s : List Int} {j : Nat} {n : Int} (h : Stop s) (hj : 0 < j) : numFrom s j n = some (n, j) := by
  cases s with
  | nil => simp [numFrom, hj]
  | cons x r => rw [numFrom, h x rfl]; simp [hj]
theorem isDig_of (k : Nat) (h : k < 10) : isDig (48 + (k : Int)) = true := by simp [isDig]; omega
theorem numFrom_cons {x : Int} {r : List Int} {j : Nat} {n : Int} (hx : isDig x = true) (h : ¬ (j = 3 ∨ (0 < j ∧ n = 0))) : numFrom (x :: r) j n = numFrom r (j + 1) (10 * n + (x - 48)) := by
  rw [numFrom, hx, if_pos rfl, if_neg h]
theorem numS_itoa (n : Int) (h0 : 0 ≤ n) (h1 : n < 1000) (rest : List Int) (hs : Stop rest) : numS (ofB (Lib.itoa n) ++ rest) = some (n, (Lib.itoa n).length) := by
  obtain ⟨k, rfl⟩ := Int.eq_ofNat_of_zero_le h0
  rw [← ofB_length]
  unfold numS
  rcases Nat.lt_or_ge k 10 with h | h
  · rw [itoa1 k h]
    simp only [List.singleton_append, List.length_cons, List.length_nil]
    rw [numFrom_cons (isDig_of k h) (by omega), numFrom_stop hs (by omega)]
    simp; omega
  · rcases Nat.lt_or_ge k 100 with h2 | h2
    · rw [itoa2 k h h2]
      simp only [List.cons_append, List.nil_append, List.length_cons, List.length_nil]
      rw [numFrom_cons (isDig_of _ (by omega)) (by omega), numFrom_cons (isDig_of _ (by omega)) (by omega), numFrom_stop hs (by omega)]
      simp; omega
    · rw [itoa3 k h2 (by omega)]
      simp only [List.cons_append, List.nil_append, List.length_cons, List.length_nil]
      rw [numFrom_cons (isDig_of _ (by omega)) (by omega), numFrom_cons (isDig_of _ (by omega)) (by omega), numFrom_cons (isDig_of _ (by omega)) (by omega), numFrom_stop hs (by omega)]
      simp; omega
theorem drop_app {α : Type} (a b : List α) (n : Nat) (h : a.length = n) : (a ++ b).drop n = b := by subst h; simp
theorem take_app {α : Type} (a b : List α) (n : Nat) (h : a.length = n) : (a ++ b).take n = a := by subst h; simp
theorem get_app {α : Type} (a b : List α) (x : α) (n : Nat) (h : a.length = n) : (a ++ x :: b)[n]? = some x := by subst h; simp
theorem stop_colon (r : List Int) : Stop (58 :: r) := fun x hx => by simp at hx; subst hx; rfl
theorem leafS_text (op n wd : Int) (h0 : 0 ≤ n) (h1 : n < 1000) (w0 : 0 ≤ wd) (w1 : wd < 1000) (rest : List Int) (hs : Stop rest) :
    leafS op (ofB (Lib.itoa n ++ [58] ++ Lib.itoa wd) ++ rest) = some (.mk op wd n [], (Lib.itoa n).length + 1 + (Lib.itoa wd).length) := by
  have e : ofB (Lib.itoa n ++ [58] ++ Lib.itoa wd) ++ rest = ofB (Lib.itoa n) ++ 58 :: (ofB (Lib.itoa wd) ++ rest) := by simp [ofB]
  rw [e]
  unfold leafS
  rw [numS_itoa n h0 h1 _ (stop_colon _)]
  simp only []
  rw [get_app _ _ _ _ (ofB_length _), if_pos rfl]
  have e2 : (ofB (Lib.itoa n) ++ 58 :: (ofB (Lib.itoa wd) ++ rest)).drop ((Lib.itoa n).length + 1) = ofB (Lib.itoa wd) ++ rest := by
    rw [show ofB (Lib.itoa n) ++ 58 :: (ofB (Lib.itoa wd) ++ rest) = (ofB (Lib.itoa n) ++ [58]) ++ (ofB (Lib.itoa wd) ++ rest) by simp]
    exact drop_app _ _ _ (by simp [ofB_length])
  rw [e2, numS_itoa wd w0 w1 rest hs]
theorem wordN_app (l rest : List Int) (hl : ∀ x ∈ l, isLow x = true) (hr : ∀ x, rest.head? = some x → isLow x = false) : wordN (l ++ rest) = l.length := by
  induction l with
  | nil =>
    cases rest with
    | nil => rfl
    | cons x r => simp only [List.nil_append, wordN, hr x rfl]; rfl
  | cons x r ih => rw [List.cons_append, wordN, hl x (by simp), if_pos rfl, ih (fun y hy => hl y (by simp [hy])), List.length_cons]
theorem itoa_head (n : Int) (h0 : 0 ≤ n) (h1 : n < 1000) (rest : List Int) : ∀ x, (ofB (Lib.itoa n) ++ rest).head? = some x → isLow x = false := by
  obtain ⟨k, rfl⟩ := Int.eq_ofNat_of_zero_le h0
  intro x hx
  rcases Nat.lt_or_ge k 10 with h | h
  · rw [itoa1 k h] at hx; simp at hx; subst hx; simp [isLow]; omega
  · rcases Nat.lt_or_ge k 100 with h2 | h2
    · rw [itoa2 k h h2] at hx; simp at hx; subst hx; simp [isLow]; omega
    · rw [itoa3 k h2 (by omega)] at hx; simp at hx; subst hx; simp [isLow]; omega

theorem name_low (op : Int) (h4 : 4 ≤ op) (h14 : op ≤ 14) : (∀ x ∈ ofB (nameS op), isLow x = true) ∧ operatorS (nameS op) = op ∧ nameS op ≠ [] ∧ nameS op ≠ [99] ∧ nameS op ≠ [111] := by
  have : op = 4 ∨ op = 5 ∨ op = 6 ∨ op = 7 ∨ op = 8 ∨ op = 9 ∨ op = 10 ∨ op = 11 ∨ op = 12 ∨ op = 13 ∨ op = 14 := by omega
  rcases this with rfl | rfl | rfl | rfl | rfl | rfl | rfl | rfl | rfl | rfl | rfl <;> decide

theorem widthS_of {op wd n : Int} {ks : List E} (hh : shapedW op wd n (ks.map E.wd) = true) (h1 : op ≠ 1) (h2 : op ≠ 2) (h3 : op ≠ 3) : widthS op ks = wd ∧ ks ≠ [] ∧ ks.length ≤ 3 := by
  obtain ⟨_, _, _, h | h | h | h⟩ := shapedW_inner hh h1 h2 h3
  all_goals clear hh
  · obtain ⟨rfl, h⟩ := h
    match ks, h with
    | [a], h => simp at h; simp [widthS, h]
  · obtain ⟨h5, h10, h⟩ := h
    have hl : ks.length = 2 := by have := congrArg List.length h; simpa using this
    match ks, hl, h with
    | [a, b], _, h => simp at h; simp only [widthS]; rw [if_neg (by omega), if_neg (by omega)]; simp [h]
  · obtain ⟨h5, h10, rfl, u, h⟩ := h
    have hl : ks.length = 2 := by have := congrArg List.length h; simpa using this
    match ks, hl, h with
    | [a, b], _, h => simp only [widthS]; rw [if_pos (by omega)]; simp
  · obtain ⟨rfl, h⟩ := h
    have hl : ks.length = 3 := by have := congrArg List.length h; simpa using this
    match ks, hl, h with
    | [a, b, c], _, h => simp at h; simp [widthS, h]

theorem kidsS_text (d : Nat) (ih : ∀ (e : E) (rest : List Int), e.deep d = true → Stop rest → readS d (ofB e.text ++ rest) = some (e, e.text.length)) :
    ∀ (ks : List E) (e : E) (f : Nat) (rest : List Int), ks.length < f → e.deep d = true → (∀ k ∈ ks, k.deep d = true) →
      kidsS (readS d) f (ofB (e.text ++ textAll [44] ks) ++ 41 :: rest) = some (e :: ks, (e.text ++ textAll [44] ks).length) := by
  intro ks
  induction ks with
  | nil =>
    intro e f rest hf he _
    obtain ⟨f, rfl⟩ : ∃ g, f = g + 1 := ⟨f - 1, by simp at hf; omega⟩
    simp only [textAll, List.append_nil, kidsS]
    rw [ih e (41 :: rest) he (fun x hx => by simp at hx; subst hx; rfl)]
    simp only []
    rw [get_app _ _ _ _ (ofB_length _), if_neg (by simp)]
  | cons k r ihk =>
    intro e f rest hf he hk
    obtain ⟨f, rfl⟩ : ∃ g, f = g + 1 := ⟨f - 1, by simp at hf; omega⟩
    have e1 : ofB (e.text ++ textAll [44] (k :: r)) ++ 41 :: rest = ofB e.text ++ 44 :: (ofB (k.text ++ textAll [44] r) ++ 41 :: rest) := by simp [ofB, textAll]
    rw [e1]
    simp only [kidsS]
    rw [ih e _ he (fun x hx => by simp at hx; subst hx; rfl)]
    simp only []
    rw [get_app _ _ _ _ (ofB_length _), if_pos rfl]
    have e2 : (ofB e.text ++ 44 :: (ofB (k.text ++ textAll [44] r) ++ 41 :: rest)).drop (e.text.length + 1) = ofB (k.text ++ textAll [44] r) ++ 41 :: rest := by
      rw [show ofB e.text ++ 44 :: (ofB (k.text ++ textAll [44] r) ++ 41 :: rest) = (ofB e.text ++ [44]) ++ (ofB (k.text ++ textAll [44] r) ++ 41 :: rest) by simp]
      exact drop_app _ _ _ (by simp [ofB_length])
    rw [e2, ihk k f rest (by simp at hf; omega) (hk k (by simp)) (fun x hx => hk x (by simp [hx]))]
    simp [textAll]; omega

theorem readS_text : ∀ (d : Nat) (e : E) (rest : List Int), e.deep d = true → Stop rest → readS d (ofB e.text ++ rest) = some (e, e.text.length) := by
  intro d
  induction d with
  | zero => intro e rest h; cases e; simp [E.deep] at h
  | succ d ih =>
    intro e rest he hs
    obtain ⟨op, wd, n, ks⟩ := e
    by_cases ho : op = 1 ∨ op = 2 ∨ op = 3
    · have hf := leaf_facts he ho
      have hks : ks = [] := by
        simp only [E.deep, Bool.and_eq_true, decide_eq_true_eq] at he
        rcases ho with rfl | ho
        · have := (shapedW_const he.1.2).1; simpa using this
        · have := (shapedW_cell he.1.2 ho).1; simpa using this
      subst hks
      have hl := leafS_text op n wd hf.2.2.1 (by omega) (by omega) (by omega) rest hs
      rw [E.text, if_pos ho]
      rcases ho with rfl | rfl | rfl
      · have hw : wordN (ofB (letterS 1 ++ Lib.itoa n ++ [58] ++ Lib.itoa wd) ++ rest) = 0 := by
          have := wordN_app [] (ofB (Lib.itoa n ++ [58] ++ Lib.itoa wd) ++ rest) (by simp) (by
            have := itoa_head n hf.2.2.1 (by omega) (ofB ([58] ++ Lib.itoa wd) ++ rest)
            simpa [ofB] using this)
          simpa [letterS] using this
        rw [readS, hw]
        simp only [List.take_zero, bytesOf, List.map_nil, if_pos]
        have e0 : letterS 1 ++ Lib.itoa n ++ [58] ++ Lib.itoa wd = Lib.itoa n ++ [58] ++ Lib.itoa wd := by simp [letterS]
        rw [e0, hl]; simp; omega
      · have hw : wordN (ofB (letterS 2 ++ Lib.itoa n ++ [58] ++ Lib.itoa wd) ++ rest) = 1 := by
          have := wordN_app [99] (ofB (Lib.itoa n ++ [58] ++ Lib.itoa wd) ++ rest) (by simp [isLow]) (by
            have := itoa_head n hf.2.2.1 (by omega) (ofB ([58] ++ Lib.itoa wd) ++ rest)
            simpa [ofB] using this)
          simpa [letterS, ofB] using this
        have e0 : ofB (letterS 2 ++ Lib.itoa n ++ [58] ++ Lib.itoa wd) ++ rest = 99 :: (ofB (Lib.itoa n ++ [58] ++ Lib.itoa wd) ++ rest) := by simp [letterS, ofB]
        rw [readS, hw, e0]
        rw [show bytesOf ((99 :: (ofB (Lib.itoa n ++ [58] ++ Lib.itoa wd) ++ rest)).take 1) = [99] from rfl, if_neg (by simp), if_pos rfl]
        simp only [List.drop_succ_cons, List.drop_zero, hl]
        simp [letterS]; omega
      · have hw : wordN (ofB (letterS 3 ++ Lib.itoa n ++ [58] ++ Lib.itoa wd) ++ rest) = 1 := by
          have := wordN_app [111] (ofB (Lib.itoa n ++ [58] ++ Lib.itoa wd) ++ rest) (by simp [isLow]) (by
            have := itoa_head n hf.2.2.1 (by omega) (ofB ([58] ++ Lib.itoa wd) ++ rest)
            simpa [ofB] using this)
          simpa [letterS, ofB] using this
        have e0 : ofB (letterS 3 ++ Lib.itoa n ++ [58] ++ Lib.itoa wd) ++ rest = 111 :: (ofB (Lib.itoa n ++ [58] ++ Lib.itoa wd) ++ rest) := by simp [letterS, ofB]
        rw [readS, hw, e0]
        rw [show bytesOf ((111 :: (ofB (Lib.itoa n ++ [58] ++ Lib.itoa wd) ++ rest)).take 1) = [111] from rfl, if_neg (by simp), if_neg (by simp), if_pos rfl]
        simp only [List.drop_succ_cons, List.drop_zero, hl]
        simp [letterS]; omega
    · have hd := he
      simp only [E.deep, Bool.and_eq_true, decide_eq_true_eq, deepAll_iff] at hd
      have hn : n = 0 ∧ 4 ≤ op ∧ op ≤ 14 := by
        have := shapedW_inner hd.1.2 (by omega) (by omega) (by omega); exact ⟨this.1, this.2.1, this.2.2.1⟩
      obtain ⟨hwd, hne, h3⟩ := widthS_of hd.1.2 (by omega) (by omega) (by omega)
      obtain ⟨hlow, hop, hn0, hn1, hn2⟩ := name_low op hn.2.1 hn.2.2
      rw [E.text, if_neg ho]
      match ks, hne with
      | k :: r, _ =>
      have e0 : ofB (nameS op ++ textAll [40] (k :: r) ++ [41]) ++ rest = ofB (nameS op) ++ 40 :: (ofB (k.text ++ textAll [44] r) ++ 41 :: rest) := by simp [ofB, textAll]
      have hw : wordN (ofB (nameS op) ++ 40 :: (ofB (k.text ++ textAll [44] r) ++ 41 :: rest)) = (nameS op).length := by
        rw [wordN_app _ _ hlow (fun x hx => by simp at hx; subst hx; rfl), ofB_length]
      rw [e0, readS, hw, take_app _ _ _ (ofB_length _), bytesOf_ofB, if_neg hn0, if_neg hn1, if_neg hn2, hop, if_neg (by omega), get_app _ _ _ _ (ofB_length _), if_pos rfl]
      have e2 : (ofB (nameS op) ++ 40 :: (ofB (k.text ++ textAll [44] r) ++ 41 :: rest)).drop ((nameS op).length + 1) = ofB (k.text ++ textAll [44] r) ++ 41 :: rest := by
        rw [show ofB (nameS op) ++ 40 :: (ofB (k.text ++ textAll [44] r) ++ 41 :: rest) = (ofB (nameS op) ++ [40]) ++ (ofB (k.text ++ textAll [44] r) ++ 41 :: rest) by simp]
        exact drop_app _ _ _ (by simp [ofB_length])
      rw [e2, kidsS_text d ih r k 3 rest (by simp at h3; omega) (hd.2 k (by simp)) (fun x hx => hd.2 x (by simp [hx]))]
      simp only [nodeS]
      rw [get_app _ _ _ _ (ofB_length _), if_pos rfl, hwd, hn.1]
      simp [textAll]; omega
end Go.Proofs.YtdancokndklpnaaDoor
namespace Go.Proofs.YtdancokndklpnaaDoor
open Go.RowKit

theorem isDig_nat {x : Int} (h : isDig x = true) : ∃ a : Nat, a < 10 ∧ x = 48 + (a : Int) := by
  simp [isDig] at h
  exact ⟨(x - 48).toNat, by omega, by omega⟩
theorem numFrom_not {x : Int} {r : List Int} {j : Nat} {n : Int} (hx : isDig x = false) : numFrom (x :: r) j n = if 0 < j then some (n, j) else none := by
  rw [numFrom, hx]; rfl
theorem numFrom_bad' {x : Int} {r : List Int} {j : Nat} {n : Int} (hx : isDig x = true) (h : j = 3 ∨ (0 < j ∧ n = 0)) : numFrom (x :: r) j n = none := by
  rw [numFrom, hx, if_pos rfl, if_pos h]
theorem num3 (r : List Int) (m : Int) (p : Int × Nat) (h : numFrom r 3 m = some p) : p = (m, 3) := by
  cases r with
  | nil => simp [numFrom] at h; exact h.symm
  | cons x r =>
    cases hx : isDig x with
    | true => rw [numFrom_bad' hx (.inl rfl)] at h; cases h
    | false => rw [numFrom_not hx] at h; simp at h; exact h.symm
theorem numS_inv {s : List Int} {n : Int} {c : Nat} (h : numS s = some (n, c)) : s.take c = ofB (Lib.itoa n) ∧ c ≤ s.length := by
  unfold numS at h
  match s, h with
  | [], h => simp [numFrom] at h
  | x :: r, h =>
    cases hx : isDig x with
    | false => rw [numFrom_not hx] at h; simp at h
    | true =>
      rw [numFrom_cons hx (by omega)] at h
      obtain ⟨a, ha, rfl⟩ := isDig_nat hx
      have one : n = (a : Int) ∧ c = 1 → ((48 + (a : Int)) :: r).take c = ofB (Lib.itoa n) ∧ c ≤ ((48 + (a : Int)) :: r).length := by
        rintro ⟨rfl, rfl⟩; rw [itoa1 a ha]; simp
      match r, h, one with
      | [], h, one => simp [numFrom] at h; exact one ⟨by omega, by omega⟩
      | y :: r2, h, one =>
        cases hy : isDig y with
        | false => rw [numFrom_not hy] at h; simp at h; exact one ⟨by omega, by omega⟩
        | true =>
          by_cases ha0 : a = 0
          · rw [numFrom_bad' hy (.inr ⟨by omega, by omega⟩)] at h; cases h
          rw [numFrom_cons hy (by omega)] at h
          obtain ⟨b, hb, rfl⟩ := isDig_nat hy
          have two : n = ((10 * a + b : Nat) : Int) ∧ c = 2 → ((48 + (a : Int)) :: (48 + (b : Int)) :: r2).take c = ofB (Lib.itoa n) ∧ c ≤ ((48 + (a : Int)) :: (48 + (b : Int)) :: r2).length := by
            rintro ⟨rfl, rfl⟩; rw [itoa2 _ (by omega) (by omega), show (10 * a + b) / 10 = a by omega, show (10 * a + b) % 10 = b by omega]; simp
          match r2, h, two with
          | [], h, two => simp [numFrom] at h; exact two ⟨by omega, by omega⟩
          | z :: r3, h, two =>
            cases hz : isDig z with
            | false => rw [numFrom_not hz] at h; simp at h; exact two ⟨by omega, by omega⟩
            | true =>
              rw [numFrom_cons hz (by omega)] at h
              obtain ⟨d, hd, rfl⟩ := isDig_nat hz
              have := num3 _ _ _ h
              simp only [Prod.mk.injEq] at this
              obtain ⟨rfl, rfl⟩ := this
              rw [show (10 * (10 * (10 * 0 + (48 + (a : Int) - 48)) + (48 + (b : Int) - 48)) + (48 + (d : Int) - 48)) = ((100 * a + 10 * b + d : Nat) : Int) by omega, itoa3 _ (by omega) (by omega),
                show (100 * a + 10 * b + d) / 10 / 10 = a by omega, show (100 * a + 10 * b + d) / 10 % 10 = b by omega, show (100 * a + 10 * b + d) % 10 = d by omega]
              simp
theorem take_get {α : Type} {s : List α} {m : Nat} {x : α} (h : s[m]? = some x) : s.take (m + 1) = s.take m ++ [x] ∧ m + 1 ≤ s.length := by
  have hm : m < s.length := by
    rcases Nat.lt_or_ge m s.length with h1 | h1
    · exact h1
    · rw [List.getElem?_eq_none h1] at h; cases h
  exact ⟨by rw [List.take_add_one, h]; rfl, hm⟩
theorem take_more {α : Type} (s : List α) (a b : Nat) : s.take (a + b) = s.take a ++ (s.drop a).take b := List.take_add
theorem leafS_inv {op : Int} {s : List Int} {e : E} {c : Nat} (h : leafS op s = some (e, c)) : ∃ n wd, e = .mk op wd n [] ∧ s.take c = ofB (Lib.itoa n ++ [58] ++ Lib.itoa wd) ∧ c ≤ s.length := by
  unfold leafS at h
  split at h
  · cases h
  · next n c1 h1 =>
    split at h
    · next h58 =>
      split at h
      · cases h
      · next wd c2 h2 =>
        simp only [Option.some.injEq, Prod.mk.injEq] at h
        obtain ⟨rfl, rfl⟩ := h
        obtain ⟨t1, l1⟩ := numS_inv h1
        obtain ⟨t2, l2⟩ := numS_inv h2
        obtain ⟨t3, l3⟩ := take_get h58
        rw [List.length_drop] at l2
        refine ⟨n, wd, rfl, ?_, by omega⟩
        rw [take_more, t3, t1, t2]
        simp [ofB]
    · cases h
theorem ofB_bytesOf {l : List Int} (h : ∀ x ∈ l, isLow x = true) : ofB (bytesOf l) = l := by
  induction l with
  | nil => rfl
  | cons x r ih =>
    have hx := h x (by simp)
    simp [isLow] at hx
    rw [bytesOf, List.map_cons, ofB, List.map_cons]
    have e : ((UInt8.ofNat x.toNat).toNat : Int) = x := by rw [UInt8.toNat_ofNat']; omega
    rw [e]
    congr 1
    exact ih fun y hy => h y (by simp [hy])
theorem operatorS_inv {w : List UInt8} (h : operatorS w ≠ 0) : nameS (operatorS w) = w ∧ 4 ≤ operatorS w := by
  unfold operatorS at h ⊢
  repeat' split
  all_goals first | (subst_vars; decide) | skip
  simp_all
theorem kidsS_inv {rd : List Int → Option (E × Nat)} (hrd : ∀ s e c, rd s = some (e, c) → s.take c = ofB e.text ∧ c ≤ s.length) :
    ∀ (f : Nat) (s : List Int) (ks : List E) (c : Nat), kidsS rd f s = some (ks, c) → ∃ k r, ks = k :: r ∧ s.take c = ofB (k.text ++ textAll [44] r) ∧ c ≤ s.length := by
  intro f
  induction f with
  | zero => intro s ks c h; cases h
  | succ f ih =>
    intro s ks c h
    simp only [kidsS] at h
    split at h
    · cases h
    · next e c1 h1 =>
      obtain ⟨t1, l1⟩ := hrd _ _ _ h1
      split at h
      · next h44 =>
        split at h
        · cases h
        · next es c2 h2 =>
          simp only [Option.some.injEq, Prod.mk.injEq] at h
          obtain ⟨rfl, rfl⟩ := h
          obtain ⟨k, r, rfl, t2, l2⟩ := ih _ _ _ h2
          obtain ⟨t3, l3⟩ := take_get h44
          rw [List.length_drop] at l2
          refine ⟨e, k :: r, rfl, ?_, by omega⟩
          rw [take_more, t3, t1, t2]
          simp [ofB, textAll]
      · simp only [Option.some.injEq, Prod.mk.injEq] at h
        obtain ⟨rfl, rfl⟩ := h
        exact ⟨e, [], rfl, by simpa [textAll] using t1, l1⟩
theorem readS_inv : ∀ (d : Nat) (s : List Int) (e : E) (c : Nat), readS d s = some (e, c) → s.take c = ofB e.text ∧ c ≤ s.length := by
  intro d
  induction d with
  | zero => intro s e c h; cases h
  | succ d ih =>
    intro s e c h
    have hlow := ofB_bytesOf (wordN_low s)
    have hle := wordN_le s
    rw [readS] at h
    split at h
    · next hw =>
      obtain ⟨n, wd, rfl, t, l⟩ := leafS_inv h
      exact ⟨by rw [t, E.text, if_pos (by simp)]; simp [letterS], l⟩
    split at h
    · next hw =>
      obtain ⟨p, h1, h2⟩ := Option.map_eq_some_iff.1 h
      obtain ⟨e1, c1⟩ := p
      simp only [Prod.mk.injEq] at h2
      obtain ⟨rfl, rfl⟩ := h2
      obtain ⟨n, wd, rfl, t, l⟩ := leafS_inv h1
      rw [List.length_drop] at l
      rw [hw] at hlow
      exact ⟨by rw [take_more, t, ← hlow, E.text, if_pos (by simp)]; simp [letterS, ofB], by omega⟩
    split at h
    · next hw =>
      obtain ⟨p, h1, h2⟩ := Option.map_eq_some_iff.1 h
      obtain ⟨e1, c1⟩ := p
      simp only [Prod.mk.injEq] at h2
      obtain ⟨rfl, rfl⟩ := h2
      obtain ⟨n, wd, rfl, t, l⟩ := leafS_inv h1
      rw [List.length_drop] at l
      rw [hw] at hlow
      exact ⟨by rw [take_more, t, ← hlow, E.text, if_pos (by simp)]; simp [letterS, ofB], by omega⟩
    split at h
    · cases h
    next hop =>
    obtain ⟨hname, h4⟩ := operatorS_inv hop
    split at h
    · next h40 =>
      unfold nodeS at h
      split at h
      · cases h
      · next ks c1 hk =>
        obtain ⟨k, r, rfl, t2, l2⟩ := kidsS_inv ih _ _ _ _ hk
        obtain ⟨t1, l1⟩ := take_get h40
        split at h
        · next h41 =>
          simp only [Option.some.injEq, Prod.mk.injEq] at h
          obtain ⟨rfl, rfl⟩ := h
          obtain ⟨t3, l3⟩ := take_get h41
          rw [List.length_drop] at l3
          refine ⟨?_, by omega⟩
          rw [Nat.add_assoc, take_more, t1, t3, t2, E.text, if_neg (by omega), hname, ofB_append (bytesOf _ ++ _), ofB_append (bytesOf _), hlow]
          simp [ofB, textAll]
        · cases h
    · cases h

/-- The text is of ASCII letters. -/
theorem dec_ascii : ∀ (u : Nat), ∀ x ∈ Lib.decDigits u, x.toNat < 128 := by
  intro u
  induction u using Nat.strongRecOn with
  | ind u ih =>
    intro x hx
    rw [Lib.decDigits] at hx
    split at hx
    · rw [List.mem_singleton] at hx; subst hx; rw [UInt8.toNat_ofNat']; omega
    · rcases List.mem_append.1 hx with hx | hx
      · exact ih (u / 10) (by omega) x hx
      · rw [List.mem_singleton] at hx; subst hx; rw [UInt8.toNat_ofNat']; omega
theorem itoa_ascii (n : Int) : ∀ x ∈ Lib.itoa n, x.toNat < 128 := by
  intro x hx
  unfold Lib.itoa at hx
  split at hx
  · rcases List.mem_cons.1 hx with rfl | hx
    · decide
    · exact dec_ascii _ x hx
  · exact dec_ascii _ x hx
theorem nameS_ascii (op : Int) : ∀ x ∈ nameS op, x.toNat < 128 := by
  intro x hx
  unfold nameS at hx
  by_cases h : (op - 4).toNat < 11
  · rcases names_cases h with h | h | h | h | h | h | h | h | h | h | h <;> rw [h] at hx <;> revert x <;> decide
  · rw [List.getD_eq_getElem?_getD, List.getElem?_eq_none (by show 11 ≤ _; omega)] at hx; cases hx
mutual
theorem text_ascii : (e : E) → ∀ x ∈ e.text, x.toNat < 128
  | .mk op wd n ks => by
    intro x hx
    rw [E.text] at hx
    split at hx
    · simp only [List.append_assoc, List.mem_append] at hx
      rcases hx with hx | hx | hx | hx
      · unfold letterS at hx; split at hx
        · simp at hx; subst hx; decide
        · split at hx
          · simp at hx; subst hx; decide
          · cases hx
      · exact itoa_ascii n x hx
      · simp at hx; subst hx; decide
      · exact itoa_ascii wd x hx
    · simp only [List.append_assoc, List.mem_append] at hx
      rcases hx with hx | hx | hx
      · exact nameS_ascii op x hx
      · exact textAll_ascii ks [40] (by simp) x hx
      · simp at hx; subst hx; decide
theorem textAll_ascii : (ks : List E) → (sep : List UInt8) → (∀ x ∈ sep, x.toNat < 128) → ∀ x ∈ textAll sep ks, x.toNat < 128
  | [], _, _ => by intro x hx; simp [textAll] at hx
  | e :: r, sep, hs => by
    intro x hx
    simp only [textAll, List.mem_append] at hx
    rcases hx with (hx | hx) | hx
    · exact hs x hx
    · exact text_ascii e x hx
    · exact textAll_ascii r [44] (by simp) x hx
end

theorem runesFrom_ascii (s : ByteArray) : ∀ (fuel pos : Nat), s.size ≤ pos + fuel → ((∀ x ∈ s.data.toList, x.toNat < 128) ∨ (∀ x ∈ runesFrom s fuel pos, x < 128)) → runesFrom s fuel pos = ofB (s.data.toList.drop pos) := by
  intro fuel
  induction fuel with
  | zero => intro pos h _; rw [runesFrom, List.drop_eq_nil_of_le (by rw [Array.length_toList]; exact h)]; rfl
  | succ fuel ih =>
    intro pos h hc
    rw [runesFrom]
    split
    · next hp =>
      have hb : (s[pos]'hp).toNat < 128 := by
        rcases hc with hc | hc
        · exact hc _ (by show s.data[pos] ∈ _; simp)
        · rw [runesFrom, if_pos hp] at hc
          have := hc _ (List.mem_cons_self ..)
          rcases Nat.lt_or_ge (s[pos]'hp).toNat 128 with h1 | h1
          · exact h1
          · have := (decode_high s pos hp h1).1; omega
      rw [decode_ascii s pos hp hb]
      have hd : s.data.toList.drop pos = s[pos]'hp :: s.data.toList.drop (pos + 1) := by
        rw [List.drop_eq_getElem_cons (by rw [Array.length_toList]; exact hp)]; rfl
      rw [hd, ofB, List.map_cons]
      congr 1
      refine ih (pos + 1) (by omega) (hc.imp id fun hc => ?_)
      rw [runesFrom, if_pos hp, decode_ascii s pos hp hb] at hc
      exact fun x hx => hc x (by simp [hx])
    · next hp => rw [List.drop_eq_nil_of_le (by rw [Array.length_toList]; show s.size ≤ pos; omega)]; rfl
theorem ofB_inj {a b : List UInt8} (h : ofB a = ofB b) : a = b := by rw [← bytesOf_ofB a, h, bytesOf_ofB]

theorem wf_text {e : E} (h : e.wf = true) : e.textTop = e.text := by rw [E.textTop, if_pos h]
/-- Reading the text of a well-formed expression. -/
theorem readTop_text {e : E} (h : e.wf = true) (s : ByteArray) (hs : s.data.toList = e.textTop) : readTop s = some e := by
  rw [wf_text h] at hs
  have hr : runesOf s = ofB e.text := by
    rw [runesOf, runesFrom_ascii s s.size 0 (by omega) (.inl (by rw [hs]; exact text_ascii e)), List.drop_zero, hs]
  have := readS_text 40 e [] (wf_deep h) (fun x hx => by simp at hx)
  rw [List.append_nil] at this
  rw [readTop, hr, this]
  simp [ofB_length, h]
/-- What can be read is the text of the result. -/
theorem textTop_read {e : E} (s : ByteArray) (h : readTop s = some e) : e.wf = true ∧ s.data.toList = e.textTop := by
  unfold readTop at h
  split at h
  · next e' c h1 =>
    split at h
    · next hc =>
      obtain rfl := Option.some.inj h
      obtain ⟨t, _⟩ := readS_inv _ _ _ _ h1
      rw [hc.1, List.take_length] at t
      refine ⟨hc.2, ?_⟩
      have hr : runesOf s = ofB s.data.toList := by
        rw [runesOf, runesFrom_ascii s s.size 0 (by omega) (.inr (by
          intro x hx
          rw [show runesFrom s s.size 0 = _ from t] at hx
          obtain ⟨b, hb, rfl⟩ := List.mem_map.1 hx
          have := text_ascii _ b hb
          omega)), List.drop_zero]
      rw [wf_text hc.2]
      exact ofB_inj (hr.symm.trans t)
    · cases h
  · cases h
/-- Expressions with equal texts are equal. -/
theorem text_inj {e f : E} (he : e.wf = true) (hf : f.wf = true) : (f.textTop == e.textTop) = e.eqB f := by
  rw [Bool.eq_iff_iff, eqB_iff, beq_iff_eq]
  constructor
  · intro h
    have h1 := readTop_text he ⟨e.textTop.toArray⟩ (by simp)
    have h2 := readTop_text hf ⟨e.textTop.toArray⟩ (by simp [h])
    rw [h1] at h2
    exact Option.some.inj h2
  · rintro rfl; rfl
end Go.Proofs.YtdancokndklpnaaDoor
namespace Go.Proofs.YtdancokndklpnaaDoor
open Go.RowKit

theorem Read_some (s : ByteArray) (e : E) (w : World) (hs : s.size ≤ 1000000) (hM : Masks w) (hN : Names w) (h : readTop s = some e) :
    Calls Tryd.prog 19 #[.string s] w fun r w' => ∃ v, r = .returned (.tuple #[v, .int .i64 0]) ∧ EVal w' v e ∧ Ext w w' :=
  (Read_any s w hs hM hN).mono fun r w' ⟨v, hr, hv, hx⟩ => ⟨v, by rw [hr, h]; rfl, by rw [h] at hv; exact hv, hx⟩
theorem Read_none (s : ByteArray) (w : World) (hs : s.size ≤ 1000000) (hM : Masks w) (hN : Names w) (h : readTop s = none) :
    Calls Tryd.prog 19 #[.string s] w fun r w' => ∃ v, r = .returned (.tuple #[v, .int .i64 130]) ∧ EVal w' v (.mk 0 0 0 []) ∧ Ext w w' :=
  (Read_any s w hs hM hN).mono fun r w' ⟨v, hr, hv, hx⟩ => ⟨v, by rw [hr, h]; rfl, by rw [h] at hv; exact hv, hx⟩
theorem text_size {e : E} (h : e.wf = true) (hs : e.size ≤ 60) : (⟨e.textTop.toArray⟩ : ByteArray).size ≤ 1000000 := by
  have := text_len e 40 (wf_deep h)
  rw [wf_text h]
  show e.text.toArray.size ≤ 1000000
  simp; omega

set_option maxRecDepth 100000 in
set_option maxHeartbeats 4000000 in
theorem ExprText_any (e f : E) (s : ByteArray) (ve vf : Value) (w : World) (he : EVal w ve e) (hf : EVal w vf f) (hs : s.size ≤ maxLen) (hM : Masks w) (hN : Names w) (hP : Pow10 w) :
    Calls Tryd.prog 5 #[ve, vf, .string s] w fun r w' => r = .returned (.bool true) ∧ Ext w w' := by
  obtain ⟨aa, al, ac, rfl, _⟩ := he.shape
  obtain ⟨ba, bl, bc, rfl, _⟩ := hf.shape
  obtain ⟨W, hW⟩ : ∃ W, W = (w.alloc (.cells #[.int .i64 e.op, .int .i64 e.wd, .int .i64 e.n, .slice aa al ac] 24)).alloc (.cells #[.int .i64 f.op, .int .i64 f.wd, .int .i64 f.n, .slice ba bl bc] 24) := ⟨_, rfl⟩
  have hx : Ext w W := by rw [hW]; exact ((Ext.refl w).alloc _).alloc _
  have hv1 : VarE W w.heap.size e.op e.wd e.n (.slice aa al ac) := by rw [hW]; exact (VarE.new w _ _ _ _).ext ((Ext.refl _).alloc _)
  have hv2 : VarE W (w.heap.size + 1) f.op f.wd f.n (.slice ba bl bc) := by
    have := VarE.new (w.alloc (.cells #[.int .i64 e.op, .int .i64 e.wd, .int .i64 e.n, .slice aa al ac] 24)) f.op f.wd f.n (.slice ba bl bc)
    rw [World.size_alloc] at this; rw [hW]; exact this
  have HW := Lib.hid hW; have HX := Lib.hid hx; have HV1 := Lib.hid hv1; have HV2 := Lib.hid hv2; have HA := Lib.hid (he.ext hx); have HB := Lib.hid (hf.ext hx); have HM := Lib.hid (hM.ext hx); have HN := Lib.hid (hN.ext hx); have HP := Lib.hid (hP.ext hx)
  clear hW hx hv1 hv2 he hf hM hN hP
  unfold maxLen at hs
  go_enter Tryd.func5, Tryd.ntmps5
  go_wp2_with fail
  rw [← HW.out]
  clear HW
  generalize w.heap.size + 1 = b2 at *
  generalize w.heap.size = b1 at *
  refine (head_any W HM.out HN.out HP.out).mono ?_
  rintro r w1 ⟨rfl, x1⟩
  replace HX := Lib.hid (HX.out.trans x1); replace HV1 := Lib.hid (HV1.out.ext x1); replace HV2 := Lib.hid (HV2.out.ext x1); replace HA := Lib.hid (HA.out.ext x1); replace HB := Lib.hid (HB.out.ext x1); replace HM := Lib.hid (HM.out.ext x1); replace HN := Lib.hid (HN.out.ext x1); replace HP := Lib.hid (HP.out.ext x1)
  clear x1
  obtain ⟨q0, q1, q2, q3⟩ := HV1.out.cells
  go_wp2_with fail
  refine (sound_any e _ _ 60 HA.out (by omega) (by omega)).mono ?_
  rintro r w2 ⟨rfl, x1⟩
  replace HX := Lib.hid (HX.out.trans x1); replace HV1 := Lib.hid (HV1.out.ext x1); replace HV2 := Lib.hid (HV2.out.ext x1); replace HA := Lib.hid (HA.out.ext x1); replace HB := Lib.hid (HB.out.ext x1); replace HM := Lib.hid (HM.out.ext x1); replace HN := Lib.hid (HN.out.ext x1); replace HP := Lib.hid (HP.out.ext x1)
  clear x1 q0 q1 q2 q3
  cases h1 : (decide ((e.size : Int) ≤ 60) && e.wf) with
  | false =>
    clear h1
    go_wp2_with fail
    exact bodyPost_ret (v := .bool true) (by simp [results, Tryd.results5, go_sem]) rfl ⟨rfl, HX.out⟩
  | true =>
  simp only [Bool.and_eq_true, decide_eq_true_eq] at h1
  have HE1 := Lib.hid h1; clear h1
  obtain ⟨q0, q1, q2, q3⟩ := HV2.out.cells
  go_wp2_with fail
  refine (sound_any f _ _ 60 HB.out (by omega) (by omega)).mono ?_
  rintro r w3 ⟨rfl, x1⟩
  replace HX := Lib.hid (HX.out.trans x1); replace HV1 := Lib.hid (HV1.out.ext x1); replace HV2 := Lib.hid (HV2.out.ext x1); replace HA := Lib.hid (HA.out.ext x1); replace HB := Lib.hid (HB.out.ext x1); replace HM := Lib.hid (HM.out.ext x1); replace HN := Lib.hid (HN.out.ext x1); replace HP := Lib.hid (HP.out.ext x1)
  clear x1 q0 q1 q2 q3
  cases h1 : (decide ((f.size : Int) ≤ 60) && f.wf) with
  | false =>
    clear h1
    go_wp2_with fail
    exact bodyPost_ret (v := .bool true) (by simp [results, Tryd.results5, go_sem]) rfl ⟨rfl, HX.out⟩
  | true =>
  simp only [Bool.and_eq_true, decide_eq_true_eq] at h1
  have HF1 := Lib.hid h1; clear h1
  by_cases hl : 400 < s.size
  · go_wp2_with fail
    exact bodyPost_ret (v := .bool true) (by simp [results, Tryd.results5, go_sem]) rfl ⟨rfl, HX.out⟩
  obtain ⟨q0, q1, q2, q3⟩ := HV1.out.cells
  go_wp2_with fail
  refine (Text_any e _ _ HA.out HM.out HN.out HP.out).mono ?_
  rintro r w4 ⟨rfl, x1⟩
  replace HX := Lib.hid (HX.out.trans x1); replace HV1 := Lib.hid (HV1.out.ext x1); replace HV2 := Lib.hid (HV2.out.ext x1); replace HA := Lib.hid (HA.out.ext x1); replace HB := Lib.hid (HB.out.ext x1); replace HM := Lib.hid (HM.out.ext x1); replace HN := Lib.hid (HN.out.ext x1); replace HP := Lib.hid (HP.out.ext x1)
  clear x1 q0 q1 q2 q3
  have HRT := Lib.hid (readTop_text HE1.out.2 ⟨e.textTop.toArray⟩ (by simp))
  have HTS := Lib.hid (text_size HE1.out.2 (by have := HE1.out.1; omega))
  have HTF := Lib.hid (text_inj HE1.out.2 HF1.out.2)
  obtain ⟨te, hte⟩ : ∃ te, te = e.textTop := ⟨_, rfl⟩
  rw [← hte] at HRT HTS HTF ⊢
  clear hte
  go_wp2_with fail
  refine (Read_some _ e _ HTS.out HM.out HN.out HRT.out).mono ?_
  rintro r w5 ⟨v, rfl, hv, x1⟩
  replace HX := Lib.hid (HX.out.trans x1); replace HV1 := Lib.hid (HV1.out.ext x1); replace HV2 := Lib.hid (HV2.out.ext x1); replace HA := Lib.hid (HA.out.ext x1); replace HB := Lib.hid (HB.out.ext x1); replace HM := Lib.hid (HM.out.ext x1); replace HN := Lib.hid (HN.out.ext x1); replace HP := Lib.hid (HP.out.ext x1)
  obtain ⟨xa, xl, xc, rfl, _⟩ := hv.shape
  have HVV := Lib.hid hv
  clear x1 hv
  go_upto_region 6 with fail
  obtain ⟨W6, hW6⟩ : ∃ W6, W6 = w5.alloc (.cells #[.int .i64 e.op, .int .i64 e.wd, .int .i64 e.n, .slice xa xl xc] 24) := ⟨_, rfl⟩
  have hx6 : Ext w5 W6 := by rw [hW6]; exact (Ext.refl _).alloc _
  have HV3 : Hid (VarE W6 w5.heap.size e.op e.wd e.n (.slice xa xl xc)) := by rw [hW6]; exact VarE.new _ _ _ _ _
  rw [← hW6]
  replace HX := Lib.hid (HX.out.trans hx6); replace HV1 := Lib.hid (HV1.out.ext hx6); replace HV2 := Lib.hid (HV2.out.ext hx6); replace HA := Lib.hid (HA.out.ext hx6); replace HB := Lib.hid (HB.out.ext hx6); replace HM := Lib.hid (HM.out.ext hx6); replace HN := Lib.hid (HN.out.ext hx6); replace HP := Lib.hid (HP.out.ext hx6); replace HVV := Lib.hid (HVV.out.ext hx6)
  clear hx6 hW6
  generalize w5.heap.size = b3 at *
  obtain ⟨q0, q1, q2, q3⟩ := HV1.out.cells
  obtain ⟨p0, p1, p2, p3⟩ := HV3.out.cells
  have HQE : Hid (e.eqB e = true) := (eqB_iff e e).2 rfl
  go_wp2_with fail
  refine (RSame_any e.size e e _ _ _ (Nat.le_refl _) HVV.out HA.out).mono ?_
  rintro r w7 ⟨rfl, x1⟩
  rw [HQE.out]
  replace HX := Lib.hid (HX.out.trans x1); replace HV1 := Lib.hid (HV1.out.ext x1); replace HV2 := Lib.hid (HV2.out.ext x1); replace HA := Lib.hid (HA.out.ext x1); replace HB := Lib.hid (HB.out.ext x1); replace HM := Lib.hid (HM.out.ext x1); replace HN := Lib.hid (HN.out.ext x1); replace HP := Lib.hid (HP.out.ext x1)
  clear x1 q0 q1 q2 q3 p0 p1 p2 p3 HV3 HVV
  have hs4 : s.size ≤ 1000000 := by omega
  cases hrd : readTop s with
  | none =>
    have HRD := Lib.hid hrd; clear hrd
    go_wp2_with fail
    refine (Read_none s _ hs4 HM.out HN.out HRD.out).mono ?_
    rintro r w8 ⟨v, rfl, hv, x1⟩
    replace HX := Lib.hid (HX.out.trans x1); replace HV1 := Lib.hid (HV1.out.ext x1); replace HV2 := Lib.hid (HV2.out.ext x1); replace HA := Lib.hid (HA.out.ext x1); replace HB := Lib.hid (HB.out.ext x1); replace HM := Lib.hid (HM.out.ext x1); replace HN := Lib.hid (HN.out.ext x1); replace HP := Lib.hid (HP.out.ext x1)
    obtain ⟨ya, yl, yc, rfl, _⟩ := hv.shape
    clear x1 hv
    simp only [E.op_mk, E.wd_mk, E.n_mk]
    go_upto_region 11 with fail
    obtain ⟨W9, hW9⟩ : ∃ W9, W9 = w8.alloc (.cells #[.int .i64 0, .int .i64 0, .int .i64 0, .slice ya yl yc] 24) := ⟨_, rfl⟩
    have hx9 : Ext w8 W9 := by rw [hW9]; exact (Ext.refl _).alloc _
    rw [← hW9]
    replace HX := Lib.hid (HX.out.trans hx9); replace HV1 := Lib.hid (HV1.out.ext hx9); replace HV2 := Lib.hid (HV2.out.ext hx9); replace HA := Lib.hid (HA.out.ext hx9); replace HB := Lib.hid (HB.out.ext hx9); replace HM := Lib.hid (HM.out.ext hx9); replace HN := Lib.hid (HN.out.ext hx9); replace HP := Lib.hid (HP.out.ext hx9)
    clear hx9 hW9
    generalize W9 = W8 at *
    obtain ⟨⟨q0, q1, q2, q3⟩, p0, p1, p2, p3⟩ := And.intro HV1.out.cells HV2.out.cells
    have HX0 := Lib.hid ((Ext.refl W8).drew)
    obtain ⟨tf, htf⟩ : ∃ tf, tf = f.textTop := ⟨_, rfl⟩
    have HTFE := Lib.hid htf
    rw [← htf] at HTF
    clear htf
    cases hq : e.eqB f
    all_goals
      have hqt := HTF.out
      rw [hq] at hqt
      have HQ := Lib.hid hq
      clear hq
      go_region_held3 (fun w' => (w'.cell? ⟨b1, 0, none⟩ = some (.int .i64 e.op) ∧ w'.cell? ⟨b1, 1, none⟩ = some (.int .i64 e.wd) ∧ w'.cell? ⟨b1, 2, none⟩ = some (.int .i64 e.n) ∧ w'.cell? ⟨b1, 3, none⟩ = some (.slice aa al ac)) ∧ w'.cell? ⟨b2, 0, none⟩ = some (.int .i64 f.op) ∧ w'.cell? ⟨b2, 1, none⟩ = some (.int .i64 f.wd) ∧ w'.cell? ⟨b2, 2, none⟩ = some (.int .i64 f.n) ∧ w'.cell? ⟨b2, 3, none⟩ = some (.slice ba bl bc))
        (first | exact ⟨⟨q0, q1, q2, q3⟩, p0, p1, p2, p3⟩ | (with_reducible exact hk2) | (with_reducible exact hk1) | fail)
        ((first
          | (have hgo := HX1.out; clear hgo; go_at_call 17; refine (RSame_any e.size e f _ _ _ (Nat.le_refl _) (HA.out.ext HX1.out) (HB.out.ext HX1.out)).mono ?_; rintro r w2 ⟨rfl, x2⟩; rw [HQ.out]; have HX2 := Lib.hid (HX1.out.trans x2); have hk2 := And.intro (HV1.out.ext HX2.out).cells (HV2.out.ext HX2.out).cells; clear x2)
          | (go_at_call 18; refine (Text_any f _ _ (HB.out.ext HX0.out) (HM.out.ext HX0.out) (HN.out.ext HX0.out) (HP.out.ext HX0.out)).mono ?_; rintro r w1 ⟨rfl, x1⟩; rw [← HTFE.out]; have HX1 := Lib.hid (HX0.out.trans x1); have hk1 := And.intro (HV1.out.ext HX1.out).cells (HV2.out.ext HX1.out).cells; clear x1)))
      have HXE := Lib.hid (HX.out.trans HX2.out)
      go_wp2_with fail
      exact bodyPost_ret (v := .bool true) (by simp [results, Tryd.results5, go_sem]) rfl ⟨rfl, HXE.out⟩
  | some y =>
    have HRD := Lib.hid hrd; clear hrd
    have HSY : Hid ((⟨y.textTop.toArray⟩ : ByteArray) = s) := by
      have h := (textTop_read s HRD.out).2
      rw [← h]; unfold Hid; cases s; simp
    go_wp2_with fail
    refine (Read_some s y _ hs4 HM.out HN.out HRD.out).mono ?_
    rintro r w8 ⟨v, rfl, hv, x1⟩
    replace HX := Lib.hid (HX.out.trans x1); replace HV1 := Lib.hid (HV1.out.ext x1); replace HV2 := Lib.hid (HV2.out.ext x1); replace HA := Lib.hid (HA.out.ext x1); replace HB := Lib.hid (HB.out.ext x1); replace HM := Lib.hid (HM.out.ext x1); replace HN := Lib.hid (HN.out.ext x1); replace HP := Lib.hid (HP.out.ext x1)
    obtain ⟨ya, yl, yc, rfl, _⟩ := hv.shape
    have HYV := Lib.hid hv
    clear x1 hv
    go_upto_region 9 with fail
    obtain ⟨W9, hW9⟩ : ∃ W9, W9 = w8.alloc (.cells #[.int .i64 y.op, .int .i64 y.wd, .int .i64 y.n, .slice ya yl yc] 24) := ⟨_, rfl⟩
    have hx9 : Ext w8 W9 := by rw [hW9]; exact (Ext.refl _).alloc _
    have HV3 : Hid (VarE W9 w8.heap.size y.op y.wd y.n (.slice ya yl yc)) := by rw [hW9]; exact VarE.new _ _ _ _ _
    rw [← hW9]
    replace HX := Lib.hid (HX.out.trans hx9); replace HV1 := Lib.hid (HV1.out.ext hx9); replace HV2 := Lib.hid (HV2.out.ext hx9); replace HA := Lib.hid (HA.out.ext hx9); replace HB := Lib.hid (HB.out.ext hx9); replace HM := Lib.hid (HM.out.ext hx9); replace HN := Lib.hid (HN.out.ext hx9); replace HP := Lib.hid (HP.out.ext hx9); replace HYV := Lib.hid (HYV.out.ext hx9)
    clear hx9 hW9
    generalize w8.heap.size = b4 at *
    obtain ⟨p0, p1, p2, p3⟩ := HV3.out.cells
    go_wp2_with fail
    refine (Text_any y _ _ HYV.out HM.out HN.out HP.out).mono ?_
    rintro r W8 ⟨rfl, x1⟩
    rw [HSY.out]
    replace HX := Lib.hid (HX.out.trans x1); replace HV1 := Lib.hid (HV1.out.ext x1); replace HV2 := Lib.hid (HV2.out.ext x1); replace HA := Lib.hid (HA.out.ext x1); replace HB := Lib.hid (HB.out.ext x1); replace HM := Lib.hid (HM.out.ext x1); replace HN := Lib.hid (HN.out.ext x1); replace HP := Lib.hid (HP.out.ext x1)
    clear x1 p0 p1 p2 p3 HV3 HYV
    go_upto_region 11 with fail
    obtain ⟨⟨q0, q1, q2, q3⟩, p0, p1, p2, p3⟩ := And.intro HV1.out.cells HV2.out.cells
    have HX0 := Lib.hid ((Ext.refl W8).drew)
    obtain ⟨tf, htf⟩ : ∃ tf, tf = f.textTop := ⟨_, rfl⟩
    have HTFE := Lib.hid htf
    rw [← htf] at HTF
    clear htf
    cases hq : e.eqB f
    all_goals
      have hqt := HTF.out
      rw [hq] at hqt
      have HQ := Lib.hid hq
      clear hq
      go_region_held3 (fun w' => (w'.cell? ⟨b1, 0, none⟩ = some (.int .i64 e.op) ∧ w'.cell? ⟨b1, 1, none⟩ = some (.int .i64 e.wd) ∧ w'.cell? ⟨b1, 2, none⟩ = some (.int .i64 e.n) ∧ w'.cell? ⟨b1, 3, none⟩ = some (.slice aa al ac)) ∧ w'.cell? ⟨b2, 0, none⟩ = some (.int .i64 f.op) ∧ w'.cell? ⟨b2, 1, none⟩ = some (.int .i64 f.wd) ∧ w'.cell? ⟨b2, 2, none⟩ = some (.int .i64 f.n) ∧ w'.cell? ⟨b2, 3, none⟩ = some (.slice ba bl bc))
        (first | exact ⟨⟨q0, q1, q2, q3⟩, p0, p1, p2, p3⟩ | (with_reducible exact hk2) | (with_reducible exact hk1) | fail)
        ((first
          | (have hgo := HX1.out; clear hgo; go_at_call 17; refine (RSame_any e.size e f _ _ _ (Nat.le_refl _) (HA.out.ext HX1.out) (HB.out.ext HX1.out)).mono ?_; rintro r w2 ⟨rfl, x2⟩; rw [HQ.out]; have HX2 := Lib.hid (HX1.out.trans x2); have hk2 := And.intro (HV1.out.ext HX2.out).cells (HV2.out.ext HX2.out).cells; clear x2)
          | (go_at_call 18; refine (Text_any f _ _ (HB.out.ext HX0.out) (HM.out.ext HX0.out) (HN.out.ext HX0.out) (HP.out.ext HX0.out)).mono ?_; rintro r w1 ⟨rfl, x1⟩; rw [← HTFE.out]; have HX1 := Lib.hid (HX0.out.trans x1); have hk1 := And.intro (HV1.out.ext HX1.out).cells (HV2.out.ext HX1.out).cells; clear x1)))
      have HXE := Lib.hid (HX.out.trans HX2.out)
      go_wp2_with fail
      exact bodyPost_ret (v := .bool true) (by simp [results, Tryd.results5, go_sem]) rfl ⟨rfl, HXE.out⟩
end Go.Proofs.YtdancokndklpnaaDoor
