/-
  The plain law of simplification. No program in sight.
-/
import Derived.Test.YtdancokndklpnaaDoorMSj
import Derived.Test.YtdancokndklpnaaDoorMRg
import Derived.Test.YtdancokndklpnaaDoorMBf
namespace Go.Proofs.YtdancokndklpnaaDoor
open Go.RowKit

theorem isC_iff {e : E} {c : Int} : e.isC c = true ↔ e.op = 1 ∧ e.n = c := by simp [E.isC]
theorem isC_val {e : E} {c : Int} (h : e.isC c = true) (old now : List Int) : e.val old now = c := by
  obtain ⟨op, wd, n, ks⟩ := e
  obtain ⟨h1, h2⟩ := isC_iff.1 h
  simp only [E.op_mk, E.n_mk] at h1 h2
  rw [E.val, if_pos h1, h2]
theorem eqB_val {a b : E} (h : a.eqB b = true) (old now : List Int) : a.val old now = b.val old now := by rw [(eqB_iff a b).1 h]
theorem deep_in {e : E} {d : Nat} (h : e.deep d = true) (old now : List Int) : InW e.wd (e.val old now) := val_range old now e d h

theorem n_and_ones {w y : Nat} (hy : y < 2 ^ w) : (2 ^ w - 1) &&& y = y := by
  rw [Nat.and_comm, Nat.and_two_pow_sub_one_eq_mod, Nat.mod_eq_of_lt hy]
theorem n_or_ones {w y : Nat} (hy : y < 2 ^ w) : (2 ^ w - 1) ||| y = 2 ^ w - 1 := by
  apply Nat.eq_of_testBit_eq
  intro i
  rw [Nat.testBit_or, Nat.testBit_two_pow_sub_one]
  by_cases hi : i < w
  · simp [hi]
  · simp only [hi, decide_false, Bool.false_or]
    exact Nat.testBit_lt_two_pow (Nat.lt_of_lt_of_le hy (Nat.pow_le_pow_right (by omega) (by omega)))
theorem ones_nat (wd : Int) : (pw wd - 1).toNat = 2 ^ wd.toNat - 1 := by rw [pw_nat]; omega

section
variable {wd x y : Int} (hx : InW wd x) (hy : InW wd y)
omit hx hy in
theorem a5l : applyS 5 0 y 0 % pw wd = 0 := by simp [ap5]
omit hx hy in
theorem a5r : applyS 5 x 0 0 % pw wd = 0 := by simp [ap5]
include hy in
theorem a5ol : applyS 5 (pw wd - 1) y 0 % pw wd = y := by
  obtain ⟨n, rfl, hn⟩ := hy.nat
  rw [ap5, ones_nat, Int.toNat_natCast, n_and_ones hn, hy.emod]
include hx in
theorem a5or : applyS 5 x (pw wd - 1) 0 % pw wd = x := by
  obtain ⟨n, rfl, hn⟩ := hx.nat
  rw [ap5, ones_nat, Int.toNat_natCast, Nat.and_comm, n_and_ones hn, hx.emod]
include hx in
theorem a5s : applyS 5 x x 0 % pw wd = x := by
  obtain ⟨n, rfl, hn⟩ := hx.nat
  rw [ap5, Int.toNat_natCast, Nat.and_self, hx.emod]
include hy in
theorem a6ol : applyS 6 (pw wd - 1) y 0 % pw wd = pw wd - 1 := by
  obtain ⟨n, rfl, hn⟩ := hy.nat
  have := pw_pos (w := wd)
  rw [ap6, ones_nat, Int.toNat_natCast, n_or_ones hn, ← ones_nat, Int.toNat_of_nonneg (by omega), Int.emod_eq_of_lt (by omega) (by omega)]
include hx in
theorem a6or : applyS 6 x (pw wd - 1) 0 % pw wd = pw wd - 1 := by
  obtain ⟨n, rfl, hn⟩ := hx.nat
  have := pw_pos (w := wd)
  rw [ap6, ones_nat, Int.toNat_natCast, Nat.or_comm, n_or_ones hn, ← ones_nat, Int.toNat_of_nonneg (by omega), Int.emod_eq_of_lt (by omega) (by omega)]
include hy in
theorem a6l : applyS 6 0 y 0 % pw wd = y := by
  obtain ⟨n, rfl, hn⟩ := hy.nat
  rw [ap6]; simp; exact hy.emod
include hx in
theorem a6r : applyS 6 x 0 0 % pw wd = x := by
  obtain ⟨n, rfl, hn⟩ := hx.nat
  rw [ap6]; simp; exact hx.emod
include hx in
theorem a6s : applyS 6 x x 0 % pw wd = x := by
  obtain ⟨n, rfl, hn⟩ := hx.nat
  rw [ap6, Int.toNat_natCast, Nat.or_self, hx.emod]
include hy in
theorem a7l : applyS 7 0 y 0 % pw wd = y := by
  obtain ⟨n, rfl, hn⟩ := hy.nat
  rw [ap7]; simp; exact hy.emod
include hx in
theorem a7r : applyS 7 x 0 0 % pw wd = x := by
  obtain ⟨n, rfl, hn⟩ := hx.nat
  rw [ap7]; simp; exact hx.emod
omit hx hy in
theorem a7s : applyS 7 x x 0 % pw wd = 0 := by rw [ap7, Nat.xor_self]; simp
include hy in
theorem a8l : applyS 8 0 y 0 % pw wd = y := by rw [ap8, Int.zero_add, hy.emod]
include hx in
theorem a8r : applyS 8 x 0 0 % pw wd = x := by rw [ap8, Int.add_zero, hx.emod]
include hx in
theorem a9r : applyS 9 x 0 0 % pw wd = x := by rw [ap9, Int.sub_zero, hx.emod]
omit hx hy in
theorem a9s : applyS 9 x x 0 % pw wd = 0 := by rw [ap9, Int.sub_self]; simp
omit hx hy in
theorem a10l : applyS 10 0 y 0 % pw wd = 0 := by rw [ap10, Int.zero_mul]; simp
omit hx hy in
theorem a10r : applyS 10 x 0 0 % pw wd = 0 := by rw [ap10, Int.mul_zero]; simp
include hy in
theorem a10ol : applyS 10 1 y 0 % pw wd = y := by rw [ap10, Int.one_mul, hy.emod]
include hx in
theorem a10or : applyS 10 x 1 0 % pw wd = x := by rw [ap10, Int.mul_one, hx.emod]
end

theorem node_val (old now : List Int) {op wd : Int} {a b : E} (h : 4 ≤ op) : (E.mk op wd 0 [a, b]).val old now = applyS op (a.val old now) (b.val old now) 0 % pw wd := val_two old now op wd a b h
theorem opS_val {op wd : Int} {a b : E} {d : Nat} (ho : op = 5 ∨ op = 6 ∨ op = 7 ∨ op = 8 ∨ op = 9 ∨ op = 10) (ha : a.wd = wd) (hb : b.wd = wd) (da : a.deep d = true) (db : b.deep d = true) (old now : List Int) :
    (opS (.mk op wd 0 [a, b]) a b).val old now = (E.mk op wd 0 [a, b]).val old now := by
  have hx : InW wd (a.val old now) := by rw [← ha]; exact deep_in da old now
  have hy : InW wd (b.val old now) := by rw [← hb]; exact deep_in db old now
  have c0 : ∀ c w', (constE c w').val old now = c := fun c w' => by simp [constE, E.val]
  unfold opS opPick
  rw [ha, hb]
  rw [node_val old now (by omega)]
  simp only [E.op_mk, E.wd_mk]
  rcases ho with rfl | rfl | rfl | rfl | rfl | rfl
  all_goals simp only [opCode]
  · cases h1 : a.isC 0
    · cases h2 : b.isC 0
      · cases h3 : a.isC (pw wd - 1)
        · cases h4 : b.isC (pw wd - 1)
          · cases h5 : a.eqB b
            · simp [node_val]
            · simp; rw [← eqB_val h5]; exact (a5s hx).symm
          · simp; rw [isC_val h4]; exact (a5or hx).symm
        · simp; rw [isC_val h3]; exact (a5ol hy).symm
      · simp; rw [isC_val h2, a5r, c0]
    · simp; rw [isC_val h1, a5l, c0]
  · cases h1 : a.isC (pw wd - 1)
    · cases h2 : b.isC (pw wd - 1)
      · cases h3 : a.isC 0
        · cases h4 : b.isC 0
          · cases h5 : a.eqB b
            · simp [node_val]
            · simp; rw [← eqB_val h5]; exact (a6s hx).symm
          · simp; rw [isC_val h4]; exact (a6r hx).symm
        · simp; rw [isC_val h3]; exact (a6l hy).symm
      · simp; rw [isC_val h2, a6or hx, c0]
    · simp; rw [isC_val h1, a6ol hy, c0]
  · cases h1 : a.isC 0
    · cases h2 : b.isC 0
      · cases h5 : a.eqB b
        · simp [node_val]
        · simp; rw [← eqB_val h5, a7s, c0]
      · simp; rw [isC_val h2]; exact (a7r hx).symm
    · simp; rw [isC_val h1]; exact (a7l hy).symm
  · cases h1 : a.isC 0
    · cases h2 : b.isC 0
      · simp [node_val]
      · simp; rw [isC_val h2]; exact (a8r hx).symm
    · simp; rw [isC_val h1]; exact (a8l hy).symm
  · cases h2 : b.isC 0
    · cases h5 : a.eqB b
      · simp [node_val]
      · simp; rw [← eqB_val h5, a9s, c0]
    · simp; rw [isC_val h2]; exact (a9r hx).symm
  · cases h1 : a.isC 0
    · cases h2 : b.isC 0
      · cases h3 : a.isC 1
        · cases h4 : b.isC 1
          · simp [node_val]
          · simp; rw [isC_val h4]; exact (a10or hx).symm
        · simp; rw [isC_val h3]; exact (a10ol hy).symm
      · simp; rw [isC_val h2, a10r, c0]
    · simp; rw [isC_val h1, a10l, c0]

theorem neg_val {k : E} {d : Nat} (h : k.deep d = true) (old now : List Int) : k.neg.val old now = pw k.wd - 1 - k.val old now := by
  have hk := deep_in h old now
  unfold E.neg
  split
  · next h4 =>
    obtain ⟨z, hz, hw, hd, hn⟩ := not_kid h h4
    obtain ⟨op, wd, n, ks⟩ := k
    simp only [E.op_mk, E.kids_mk, E.wd_mk, E.n_mk] at h4 hz hw hn
    subst h4 hz hn
    have hzr := deep_in hd old now
    rw [hw] at hzr
    show z.val old now = pw wd - 1 - (E.mk 4 wd 0 [z]).val old now
    rw [val_not, m_neg _ _ hzr.1 hzr.2]; omega
  · rw [val_not, m_neg _ _ hk.1 hk.2]
theorem applyS11 (x y : Int) : applyS 11 x y 0 = if x = y then 1 else 0 := rfl
theorem applyS12 (x y : Int) : applyS 12 x y 0 = if x < y then 1 else 0 := rfl
theorem applyS13 (x y : Int) : applyS 13 x y 0 = if x ≤ y then 1 else 0 := rfl
theorem cmpS_11 (a b : E) : cmpS (.mk 11 1 0 [a, b]) a b = if a.eqB b then constE 1 1 else if 1 < a.wd then .mk 11 1 0 [a, b] else if a.isC 1 then b else if b.isC 1 then a else if a.isC 0 then b.neg else if b.isC 0 then a.neg else .mk 11 1 0 [a, b] := by
  unfold cmpS
  rw [if_neg (show ¬ (E.mk 11 1 0 [a, b]).op = 12 by simp), if_neg (show ¬ (E.mk 11 1 0 [a, b]).op = 13 by simp)]
theorem cmpS_12 (a b : E) : cmpS (.mk 12 1 0 [a, b]) a b = if a.eqB b then constE 0 1 else if b.isC 0 then constE 0 1 else .mk 12 1 0 [a, b] := by
  unfold cmpS
  rw [if_pos (show (E.mk 12 1 0 [a, b]).op = 12 by simp)]
theorem cmpS_13 (a b : E) : cmpS (.mk 13 1 0 [a, b]) a b = if a.eqB b then constE 1 1 else if a.isC 0 then constE 1 1 else if b.isC (pw b.wd - 1) then constE 1 1 else .mk 13 1 0 [a, b] := by
  unfold cmpS
  rw [if_neg (show ¬ (E.mk 13 1 0 [a, b]).op = 12 by simp), if_pos (show (E.mk 13 1 0 [a, b]).op = 13 by simp)]
theorem cmpS_val {op : Int} {a b : E} {d : Nat} (ho : op = 11 ∨ op = 12 ∨ op = 13) (hab : a.wd = b.wd) (da : a.deep d = true) (db : b.deep d = true) (old now : List Int) :
    (cmpS (.mk op 1 0 [a, b]) a b).val old now = (E.mk op 1 0 [a, b]).val old now := by
  have hx := deep_in da old now
  have hy := deep_in db old now
  rw [hab] at hx
  have hp := pw_pos (w := b.wd)
  have c0 : ∀ c w', (constE c w').val old now = c := fun c w' => by simp [constE, E.val]
  rw [node_val old now (by omega), pw_one]
  have hnode := node_val old now (op := op) (wd := 1) (a := a) (b := b) (by omega)
  rw [pw_one] at hnode
  rcases ho with rfl | rfl | rfl
  · rw [cmpS_11]
    cases h5 : a.eqB b
    · rw [if_neg (by simp)]
      split
      · exact hnode
      · next h1 =>
        have hw := deep_wd db
        have hb1 : b.wd = 1 := by omega
        rw [hb1, show InW 1 (a.val old now) = (0 ≤ a.val old now ∧ a.val old now < pw 1) from rfl, pw_one] at hx
        rw [hb1, show InW 1 (b.val old now) = (0 ≤ b.val old now ∧ b.val old now < pw 1) from rfl, pw_one] at hy
        cases c1 : a.isC 1
        · cases c2 : b.isC 1
          · cases c3 : a.isC 0
            · cases c4 : b.isC 0
              · simp only [Bool.false_eq_true, if_false]; exact hnode
              · simp only [Bool.false_eq_true, if_false, if_true]
                rw [neg_val da, hab, hb1, pw_one, isC_val c4, applyS11]; split <;> omega
            · simp only [Bool.false_eq_true, if_false, if_true]
              rw [neg_val db, hb1, pw_one, isC_val c3, applyS11]; split <;> omega
          · simp only [Bool.false_eq_true, if_false, if_true]
            rw [isC_val c2, applyS11]; split <;> omega
        · simp only [if_true]
          rw [isC_val c1, applyS11]; split <;> omega
    · rw [if_pos rfl, c0, eqB_val h5, applyS11, if_pos rfl]; rfl
  · rw [cmpS_12]
    cases h5 : a.eqB b
    · cases c1 : b.isC 0
      · simp only [Bool.false_eq_true, if_false]; exact hnode
      · simp only [Bool.false_eq_true, if_false, if_true]
        rw [c0, isC_val c1, applyS12, if_neg (by have := hx.1; omega)]; rfl
    · rw [if_pos rfl, c0, eqB_val h5, applyS12, if_neg (by omega)]; rfl
  · rw [cmpS_13]
    cases h5 : a.eqB b
    · rw [if_neg (by simp)]
      cases c1 : a.isC 0
      · cases c2 : b.isC (pw b.wd - 1)
        · simp only [Bool.false_eq_true, if_false]; exact hnode
        · simp only [Bool.false_eq_true, if_false, if_true]
          rw [c0, isC_val c2, applyS13, if_pos (by have := hx.2; omega)]; rfl
      · simp only [if_true]
        rw [c0, isC_val c1, applyS13, if_pos (by have := hy.1; omega)]; rfl
    · rw [if_pos rfl, c0, eqB_val h5, applyS13, if_pos (by omega)]; rfl
theorem choS_eq (wd : Int) (x a b : E) : choS (.mk 14 wd 0 [x, a, b]) x a b = if x.isC 1 then a else if a.eqB b && !x.isC 0 then a else if x.isC 0 then b
    else if wd = 1 ∧ a.isC 1 = true ∧ b.isC 0 = true then x else if wd = 1 ∧ a.isC 0 = true ∧ b.isC 1 = true then x.neg else .mk 14 wd 0 [x, a, b] := rfl
theorem choS_val {wd : Int} {x a b : E} {d : Nat} (hx1 : x.wd = 1) (ha : a.wd = wd) (hb : b.wd = wd) (dx : x.deep d = true) (da : a.deep d = true) (db : b.deep d = true) (old now : List Int) :
    (choS (.mk 14 wd 0 [x, a, b]) x a b).val old now = (E.mk 14 wd 0 [x, a, b]).val old now := by
  have hx := deep_in dx old now
  have hA := deep_in da old now
  have hB := deep_in db old now
  rw [hx1, show InW 1 (x.val old now) = (0 ≤ x.val old now ∧ x.val old now < pw 1) from rfl, pw_one] at hx
  rw [ha] at hA; rw [hb] at hB
  rw [val_ite]
  have hnode := val_ite old now wd x a b
  rw [choS_eq]
  cases c1 : x.isC 1
  · cases c2 : (a.eqB b && !x.isC 0)
    · cases c3 : x.isC 0
      · simp only [Bool.false_eq_true, if_false]
        split
        · next h =>
          obtain ⟨h1, h2, h3⟩ := h
          subst h1
          rw [isC_val h2, isC_val h3, pw_one]; split <;> omega
        split
        · next h =>
          obtain ⟨h1, h2, h3⟩ := h
          subst h1
          rw [neg_val dx, hx1, isC_val h2, isC_val h3, pw_one]; split <;> omega
        · exact hnode
      · simp only [Bool.false_eq_true, if_false, if_true]
        rw [isC_val c3, if_neg (by omega), hB.emod]
    · simp only [Bool.false_eq_true, if_false, if_true]
      rw [Bool.and_eq_true] at c2
      rw [← eqB_val c2.1]
      split <;> exact hA.emod.symm
  · simp only [if_true]
    rw [isC_val c1, if_pos rfl, hA.emod]

/-- What a node over simplified kids becomes: the node, a constant, a kid, the kid of a negation, or a negation. -/
def SimpOut (op wd n : Int) (ks : List E) (r : E) : Prop :=
  r = .mk op wd n ks ∨ (∃ c w', r = .mk 1 w' c []) ∨ (∃ k ∈ ks, r = k) ∨ (∃ k ∈ ks, k.op = 4 ∧ ∃ x, k.kids = [x] ∧ r = x) ∨ (∃ k ∈ ks, k.op ≠ 4 ∧ k.op ≠ 1 ∧ r = .mk 4 k.wd 0 [k])
theorem neg_out {op wd n : Int} {ks : List E} {k : E} {d : Nat} (hk : k ∈ ks) (hd : k.deep d = true) (h1 : k.op ≠ 1) : SimpOut op wd n ks k.neg := by
  unfold E.neg
  split
  · next h4 =>
    obtain ⟨z, hz, _⟩ := not_kid hd h4
    exact .inr (.inr (.inr (.inl ⟨k, hk, h4, z, hz, by rw [hz]; rfl⟩)))
  · next h4 => exact .inr (.inr (.inr (.inr ⟨k, hk, h4, h1, rfl⟩)))
theorem simpNode_out {op wd n : Int} {ks : List E} {d : Nat} (hne : ks ≠ []) (h : (E.mk op wd n ks).deep d = true) : SimpOut op wd n ks (simpNode op wd n ks) := by
  obtain ⟨hn, hd, h1, h8, hc⟩ := deep_kids hne h
  subst hn
  unfold simpNode
  split
  · exact .inr (.inl ⟨_, _, rfl⟩)
  next hall =>
  have cc : ∀ c w', SimpOut op wd 0 ks (constE c w') := fun c w' => .inr (.inl ⟨c, w', rfl⟩)
  rcases hc with ⟨rfl, a, rfl, ha, da⟩ | ⟨ho, a, b, rfl, ha, hb, da, db⟩ | ⟨ho, rfl, a, b, rfl, hab, da, db⟩ | ⟨rfl, x, a, b, rfl, hx, ha, hb, dx, da, db⟩
  · rw [if_pos rfl]
    split
    · next h4 =>
      obtain ⟨z, hz, _⟩ := not_kid (show a.deep (d - 1) = true from da) h4
      exact .inr (.inr (.inr (.inl ⟨a, by simp, h4, z, hz, by show a.kids.getD 0 zeroE = z; rw [hz]; rfl⟩)))
    · exact .inl rfl
  · rw [if_neg (by omega), if_neg (by omega), if_neg (by omega)]
    show SimpOut op wd 0 [a, b] (opS (.mk op wd 0 [a, b]) a b)
    unfold opS opPick
    split
    · exact .inr (.inr (.inl ⟨a, by simp, rfl⟩))
    split
    · exact .inr (.inr (.inl ⟨b, by simp, rfl⟩))
    split
    · exact cc _ _
    split
    · exact cc _ _
    · exact .inl rfl
  · have h2 : ∀ u v : E, ([u, v].all fun k => decide (k.op = 1)) = true ↔ u.op = 1 ∧ v.op = 1 := fun u v => by simp
    rw [h2] at hall
    rw [if_neg (by omega), if_pos ho]
    show SimpOut op 1 0 [a, b] (cmpS (.mk op 1 0 [a, b]) a b)
    rcases ho with rfl | rfl | rfl
    · rw [cmpS_11]
      split
      · exact cc _ _
      split
      · exact .inl rfl
      split
      · exact .inr (.inr (.inl ⟨b, by simp, rfl⟩))
      split
      · exact .inr (.inr (.inl ⟨a, by simp, rfl⟩))
      split
      · next c => exact neg_out (by simp) db (fun e => hall ⟨(isC_iff.1 c).1, e⟩)
      split
      · next c => exact neg_out (by simp) da (fun e => hall ⟨e, (isC_iff.1 c).1⟩)
      · exact .inl rfl
    · rw [cmpS_12]
      split
      · exact cc _ _
      split
      · exact cc _ _
      · exact .inl rfl
    · rw [cmpS_13]
      split
      · exact cc _ _
      split
      · exact cc _ _
      split
      · exact cc _ _
      · exact .inl rfl
  · have h3 : ∀ u v t : E, ([u, v, t].all fun k => decide (k.op = 1)) = true ↔ u.op = 1 ∧ v.op = 1 ∧ t.op = 1 := fun u v t => by simp
    rw [h3] at hall
    rw [if_neg (by omega), if_neg (by omega), if_pos rfl]
    show SimpOut 14 wd 0 [x, a, b] (choS (.mk 14 wd 0 [x, a, b]) x a b)
    rw [choS_eq]
    split
    · exact .inr (.inr (.inl ⟨a, by simp, rfl⟩))
    split
    · exact .inr (.inr (.inl ⟨a, by simp, rfl⟩))
    split
    · exact .inr (.inr (.inl ⟨b, by simp, rfl⟩))
    split
    · exact .inr (.inr (.inl ⟨x, by simp, rfl⟩))
    split
    · next c => exact neg_out (by simp) dx (fun e => hall ⟨e, (isC_iff.1 c.2.1).1, (isC_iff.1 c.2.2).1⟩)
    · exact .inl rfl
theorem const_vals {ks : List E} (h : ks.all (fun k => decide (k.op = 1)) = true) (old now : List Int) : valAll [] [] ks = valAll old now ks := by
  induction ks with
  | nil => rfl
  | cons e r ih =>
    simp only [List.all_cons, Bool.and_eq_true, decide_eq_true_eq] at h
    rw [valAll, valAll, ih h.2]
    obtain ⟨op, wd, n, ks⟩ := e
    simp only [E.op_mk] at h
    rw [E.val, E.val, if_pos h.1, if_pos h.1]
theorem val_congr {op wd n : Int} {ks ks' : List E} {o1 n1 o2 n2 : List Int} (hne : ¬ (op = 1 ∨ op = 2 ∨ op = 3)) (h : valAll o1 n1 ks = valAll o2 n2 ks') : (E.mk op wd n ks).val o1 n1 = (E.mk op wd n ks').val o2 n2 := by
  rw [E.val, E.val, if_neg (by omega), if_neg (by omega), if_neg (by omega), if_neg (by omega), if_neg (by omega), if_neg (by omega), h]
theorem simpNode_val {op wd n : Int} {ks : List E} {d : Nat} (hne : ks ≠ []) (h : (E.mk op wd n ks).deep d = true) (old now : List Int) : (simpNode op wd n ks).val old now = (E.mk op wd n ks).val old now := by
  obtain ⟨hn, hd, h1, h8, hc⟩ := deep_kids hne h
  subst hn
  have hop : ¬ (op = 1 ∨ op = 2 ∨ op = 3) := by rcases hc with ⟨h, _⟩ | ⟨h, _⟩ | ⟨h, _⟩ | ⟨h, _⟩ <;> omega
  unfold simpNode
  split
  · next hall =>
    have e : (E.mk 1 wd ((E.mk op wd 0 ks).val [] []) []).val old now = (E.mk op wd 0 ks).val [] [] := by rw [E.val, if_pos rfl]
    rw [e]
    exact val_congr hop (const_vals hall old now)
  rcases hc with ⟨rfl, a, rfl, ha, da⟩ | ⟨ho, a, b, rfl, ha, hb, da, db⟩ | ⟨ho, rfl, a, b, rfl, hab, da, db⟩ | ⟨rfl, x, a, b, rfl, hx, ha, hb, dx, da, db⟩
  · rw [if_pos rfl]
    split
    · next h4 =>
      have hneg := neg_val (show a.deep (d - 1) = true from da) old now
      unfold E.neg at hneg
      rw [if_pos (show a.op = 4 from h4)] at hneg
      have hr := deep_in da old now
      show (a.kids.getD 0 zeroE).val old now = _
      rw [show zeroE = E.mk 0 0 0 [] from rfl, hneg, val_not, ha]
      rw [ha] at hr
      rw [m_neg _ _ hr.1 hr.2]
    · rfl
  · rw [if_neg (by omega), if_neg (by omega), if_neg (by omega)]
    exact opS_val ho ha hb da db old now
  · rw [if_neg (by omega), if_pos ho]
    exact cmpS_val ho hab da db old now
  · rw [if_neg (by omega), if_neg (by omega), if_pos rfl]
    exact choS_val hx ha hb dx da db old now

/-- A normal form: simplifying it changes nothing, at no node. -/
inductive Nf : E → Prop
  | leaf {op wd n : Int} : Nf (.mk op wd n [])
  | node {op wd n : Int} {ks : List E} : ks ≠ [] → (∀ (i : Nat) (h : i < ks.length), Nf ks[i]) → simpNode op wd n ks = .mk op wd n ks → Nf (.mk op wd n ks)
theorem Nf.simp {e : E} (h : Nf e) : e.simp = e := by
  induction h with
  | leaf => exact simp_nil
  | @node op wd n ks hne hk he ih =>
    rw [simp_cons hne]
    have : ks.map E.simp = ks := by
      apply List.ext_getElem
      · simp
      · intro i h1 h2; rw [List.getElem_map]; exact ih i h2
    rw [this, he]
theorem Nf.kid {op wd n : Int} {ks : List E} (h : Nf (.mk op wd n ks)) (k : E) (hk : k ∈ ks) : Nf k := by
  cases h with
  | leaf => cases hk
  | node hne hks he => obtain ⟨i, hi, rfl⟩ := List.mem_iff_getElem.1 hk; exact hks i hi
theorem simpNode_nf {op wd n : Int} {ks : List E} {d : Nat} (hne : ks ≠ []) (h : (E.mk op wd n ks).deep d = true) (hk : ∀ k ∈ ks, Nf k) : Nf (simpNode op wd n ks) := by
  rcases simpNode_out hne h with e | ⟨c, w', e⟩ | ⟨k, hm, e⟩ | ⟨k, hm, h4, x, hx, e⟩ | ⟨k, hm, h4, h1, e⟩
  · rw [e]; exact .node hne (fun i hi => hk _ (List.getElem_mem hi)) e
  · rw [e]; exact .leaf
  · rw [e]; exact hk k hm
  · rw [e]
    obtain ⟨op', wd', n', ks'⟩ := k
    simp only [E.kids_mk] at hx
    subst hx
    exact (hk _ hm).kid x (by simp)
  · rw [e]
    refine .node (by simp) (fun i hi => ?_) ?_
    · have : i = 0 := by simp at hi; omega
      subst this
      exact hk k hm
    · unfold simpNode
      rw [if_neg (by simp [h1]), if_pos rfl, if_neg (by simpa using h4)]
mutual
theorem simp_law (old now : List Int) : (e : E) → (d : Nat) → e.deep d = true → e.simp.deep d = true ∧ e.simp.wd = e.wd ∧ e.simp.val old now = e.val old now ∧ e.simp.size ≤ e.size ∧ (∀ x ∈ e.simp.leaves, x.op = 1 ∨ x ∈ e.leaves) ∧ Nf e.simp
  | .mk op wd n ks, d, h => by
    by_cases hk : ks = []
    · subst hk
      rw [simp_nil]
      exact ⟨h, rfl, rfl, Nat.le_refl _, fun x hx => .inr hx, .leaf⟩
    · obtain ⟨h1, h2, h3⟩ := deep_mk.1 h
      obtain ⟨k1, k2, k3, k4, k5, k6⟩ := simp_laws old now ks (d - 1) h3
      have hk' : ks.map E.simp ≠ [] := by simpa using hk
      have hd : (E.mk op wd n (ks.map E.simp)).deep d = true := by
        refine deep_mk.2 ⟨h1, by rw [List.map_map, show ks.map (E.wd ∘ E.simp) = ks.map E.wd from List.map_congr_left fun k hk => k2 k hk]; exact h2, fun k hk => ?_⟩
        obtain ⟨y, hy, rfl⟩ := List.mem_map.1 hk
        exact k1 y hy
      have ho : ¬ (op = 1 ∨ op = 2 ∨ op = 3) := fun ho => hk (by have := (shaped_kids h2).2 ho; simpa using this)
      have hok := simpNode_ok hk' hd
      rw [simp_cons hk]
      refine ⟨hok.1, hok.2, ?_, ?_, ?_, ?_⟩
      · rw [simpNode_val hk' hd]; exact val_congr ho k3
      · have hs : ∀ k ∈ ks.map E.simp, k.size ≤ sizeAll (ks.map E.simp) := fun k hk => by
          have := size_kid (op := op) (wd := wd) (n := n) hk; simp only [E.size] at this; omega
        rcases simpNode_out hk' hd with e | ⟨c, w', e⟩ | ⟨k, hm, e⟩ | ⟨k, hm, h4, x, hx, e⟩ | ⟨k, hm, h4, h1, e⟩
        · rw [e]; simp only [E.size]; omega
        · rw [e]; simp [E.size, sizeAll]
        · rw [e]; simp only [E.size]; have := hs k hm; omega
        · rw [e]
          have h5 : x.size < k.size := by
            obtain ⟨op', wd', n', ks'⟩ := k
            simp only [E.kids_mk] at hx
            subst hx
            exact size_kid (by simp)
          simp only [E.size]; have := hs k hm; omega
        · rw [e]; simp only [E.size, sizeAll]; have := hs k hm; omega
      · have hl : ∀ k ∈ ks.map E.simp, ∀ x ∈ k.leaves, x.op = 1 ∨ x ∈ (E.mk op wd n ks).leaves := fun k hkm x hx => by
          rcases k5 x (mem_leavesAll.2 ⟨k, hkm, hx⟩) with h | h
          · exact .inl h
          · exact .inr (by rw [leaves_cons hk]; exact h)
        rcases simpNode_out hk' hd with e | ⟨c, w', e⟩ | ⟨k, hm, e⟩ | ⟨k, hm, h4, x, hx, e⟩ | ⟨k, hm, h4, h1, e⟩
        · rw [e, leaves_cons hk']
          intro x hx
          obtain ⟨k, hkm, hx⟩ := mem_leavesAll.1 hx
          exact hl k hkm x hx
        · rw [e, leaves_nil]; intro x hx; simp at hx; subst hx; exact .inl rfl
        · rw [e]; exact hl k hm
        · rw [e]
          intro y hy
          refine hl k hm y ?_
          obtain ⟨op', wd', n', ks'⟩ := k
          simp only [E.kids_mk] at hx
          subst hx
          rw [leaves_cons (by simp)]; exact mem_leavesAll.2 ⟨x, by simp, hy⟩
        · rw [e, leaves_cons (by simp)]
          intro y hy
          obtain ⟨k', hk2, hy2⟩ := mem_leavesAll.1 hy
          rw [List.mem_singleton] at hk2
          rw [hk2] at hy2
          exact hl _ hm y hy2
      · exact simpNode_nf hk' hd fun k hk => by obtain ⟨y, hy, rfl⟩ := List.mem_map.1 hk; exact k6 y hy
theorem simp_laws (old now : List Int) : (ks : List E) → (d : Nat) → (∀ k ∈ ks, k.deep d = true) → (∀ k ∈ ks, k.simp.deep d = true) ∧ (∀ k ∈ ks, k.simp.wd = k.wd) ∧ valAll old now (ks.map E.simp) = valAll old now ks ∧ sizeAll (ks.map E.simp) ≤ sizeAll ks ∧ (∀ x ∈ leavesAll (ks.map E.simp), x.op = 1 ∨ x ∈ leavesAll ks) ∧ ∀ k ∈ ks, Nf k.simp
  | [], _, _ => by simp [valAll, sizeAll, leavesAll]
  | e :: r, d, h => by
    obtain ⟨a1, a2, a3, a4, a5, a6⟩ := simp_law old now e d (h e (by simp))
    obtain ⟨b1, b2, b3, b4, b5, b6⟩ := simp_laws old now r d (fun k hk => h k (by simp [hk]))
    refine ⟨fun k hk => ?_, fun k hk => ?_, ?_, ?_, ?_, fun k hk => ?_⟩
    · rcases List.mem_cons.1 hk with hk | hk
      · rw [hk]; exact a1
      · exact b1 k hk
    · rcases List.mem_cons.1 hk with hk | hk
      · rw [hk]; exact a2
      · exact b2 k hk
    · simp only [List.map_cons, valAll, a3, b3]
    · simp only [List.map_cons, sizeAll]; omega
    · intro x hx
      simp only [List.map_cons, leavesAll, List.mem_append] at hx ⊢
      rcases hx with hx | hx
      · rcases a5 x hx with h | h
        · exact .inl h
        · exact .inr (.inl h)
      · rcases b5 x hx with h | h
        · exact .inl h
        · exact .inr (.inr h)
    · rcases List.mem_cons.1 hk with hk | hk
      · rw [hk]; exact a6
      · exact b6 k hk
end
end Go.Proofs.YtdancokndklpnaaDoor
