/-
  The plain laws of states' numbers: the number of State, the values of State.
  The value of a tree over runs: the leaf of the first run whose last value is not below the cell's. No program in sight.
  The value of the expression of a set. No program in sight.
-/
import Derived.Test.YtlcgbdjmlnjhcaaGreatDoorG18
import Derived.Test.YtlcgbdjmlnjhcaaGreatDoorG15
import Derived.Test.YtlcgbdjmlnjhcaaGreatDoorG00
import Derived.Test.YtlcgbdjmlnjhcaaGreatDoorG16
namespace Go.Proofs.YtlcgbdjmlnjhcaaGreatDoor
open Go.RowKit

theorem elem_if (st : List Int) {c : Int} (hc : 0 ≤ c) (p : Int) : (if c < (st.length : Int) then st.getD c.toNat 0 % p else 0) = elemS st c % p := by
  unfold elemS
  split
  · rfl
  · rw [show st.getD c.toNat 0 = 0 by simp [List.getD, show st.length ≤ c.toNat by omega]]; simp
section
variable {cs ws : List Int} (hl : cs.length = ws.length) (hw : ∀ x ∈ ws, 1 ≤ x ∧ x ≤ 8) (hinc : incB cs = true) (hb : ∀ i, i < cs.length → 0 ≤ cs.getD i 0 ∧ cs.getD i 0 < 32)
include hl hw hinc hb
/-- The values of State, at a base that contains all cells. -/
theorem st_dig (n : Int) (base : List Int) (h32 : 32 ≤ base.length) : ∀ k, k ≤ cs.length → (stTo cs ws n base k).1 = n / pw (sumI (ws.take k)) ∧ (stTo cs ws n base k).2.length = base.length ∧
    (∀ i, i < k → elemS (stTo cs ws n base k).2 (cs.getD i 0) = n / pw (sumI (ws.take i)) % pw (ws.getD i 0)) ∧ (∀ j : Nat, (∀ i, i < k → cs.getD i 0 ≠ (j : Int)) → (stTo cs ws n base k).2.getD j 0 = base.getD j 0) := by
  intro k
  induction k with
  | zero => intro _; exact ⟨by simp [stTo, sumI, pw], rfl, fun i hi => by omega, fun _ _ => rfl⟩
  | succ k ih =>
    intro hk
    obtain ⟨h1, h2, h3, h4⟩ := ih (by omega)
    have hc : cs.getD k 0 = cs[k]'(by omega) := by simp [List.getD, show k < cs.length by omega]
    have hwk : ws.getD k 0 = ws[k]'(by omega) := by simp [List.getD, show k < ws.length by omega]
    have hbk := hb k (by omega)
    have hs0 := (sum_bound hw k (by omega)).1
    have hx := hw (ws[k]'(by omega)) (List.getElem_mem _)
    rw [stTo_succ n base hl (by omega)]
    unfold stStep
    dsimp only
    rw [hc] at hbk
    rw [if_pos (by rw [h2]; omega)]
    refine ⟨?_, by rw [List.length_set]; exact h2, fun i hi => ?_, fun j hj => ?_⟩
    · rw [h1, sum_take (show k < ws.length by omega), pw_add hs0 (by omega), Int.ediv_ediv_of_nonneg (Int.le_of_lt pw_pos)]
    · unfold elemS at *
      by_cases e : i = k
      · subst e
        rw [hc, hwk, h1]
        simp [List.getD, show (cs[i]'(by omega)).toNat < (stTo cs ws n base i).2.length by rw [h2]; omega]
      · have hlt := inc_all hinc i k (by omega) (by omega)
        have hbi := hb i (by omega)
        rw [hc] at hlt
        rw [← h3 i (by omega)]
        simp only [List.getD, List.getElem?_set]
        rw [if_neg (by simp only [List.getD] at hlt hbi; omega)]
    · have h5 := hj k (by omega)
      rw [hc] at h5
      rw [← h4 j (fun i hi => hj i (by omega))]
      simp only [List.getD, List.getElem?_set]
      rw [if_neg (by omega)]
omit hinc in
/-- The number of a state whose values are the digits of a number. -/
theorem num_dig (n : Int) (st : List Int) (h : ∀ i, i < cs.length → elemS st (cs.getD i 0) % pw (ws.getD i 0) = n / pw (sumI (ws.take i)) % pw (ws.getD i 0)) : ∀ k, k ≤ cs.length → (numTo cs ws st k).1 = n % pw (sumI (ws.take k)) := by
  intro k
  induction k with
  | zero => intro _; simp [numTo, sumI, pw]
  | succ k ih =>
    intro hk
    have hc : cs.getD k 0 = cs[k]'(by omega) := by simp [List.getD, show k < cs.length by omega]
    have hwk : ws.getD k 0 = ws[k]'(by omega) := by simp [List.getD, show k < ws.length by omega]
    have h1 := h k (by omega)
    rw [hc, hwk] at h1
    have hbk := hb k (by omega)
    rw [hc] at hbk
    have hlow := num_low st hl k (by omega)
    have hs0 := (sum_bound hw k (by omega)).1
    have hx := hw (ws[k]'(by omega)) (List.getElem_mem _)
    rw [numTo_succ st hl (by omega)]
    unfold numStep
    dsimp only
    rw [elem_if st hbk.1, h1, ih (by omega), hlow, sum_take (show k < ws.length by omega), pw_add hs0 (by omega)]
    have ha := @pw_pos (sumI (ws.take k))
    generalize pw (sumI (ws.take k)) = a at *
    generalize pw (ws[k]'(by omega)) = b at *
    have e1 := Int.emod_add_mul_ediv n a
    have e2 := Int.emod_add_mul_ediv (n / a) b
    have e3 := Int.emod_add_mul_ediv n (a * b)
    have e4 : n / (a * b) = n / a / b := (Int.ediv_ediv_of_nonneg (Int.le_of_lt ha)).symm
    rw [e4] at e3
    generalize n / a / b = q at *
    generalize n / a % b = r at *
    generalize n % (a * b) = s at *
    generalize n / a = u at *
    generalize n % a = v at *
    rw [← e2, Int.mul_add, ← Int.mul_assoc] at e1
    rw [Int.mul_comm r a]
    omega
end
theorem state_len {cs ws : List Int} (hs : smallB cs ws = true) (n : Int) {base : List Int} (h32 : 32 ≤ base.length) : (stateS cs ws n base).length = base.length := by
  obtain ⟨h1, hwd, _, _⟩ := small_sum hs
  obtain ⟨hl, hinc, hin⟩ := shape_iff.1 h1
  unfold stateS; rw [if_pos hs]
  exact (st_dig hl hwd.2 hinc (fun i h => ⟨(hin i h).1, (hin i h).2.1⟩) n base h32 cs.length (Nat.le_refl _)).2.1
theorem state_at {cs ws : List Int} (hs : smallB cs ws = true) (n : Int) {base : List Int} (h32 : 32 ≤ base.length) {i : Nat} (hi : i < cs.length) : elemS (stateS cs ws n base) (cs.getD i 0) = n / pw (sumI (ws.take i)) % pw (ws.getD i 0) := by
  obtain ⟨h1, hwd, _, _⟩ := small_sum hs
  obtain ⟨hl, hinc, hin⟩ := shape_iff.1 h1
  unfold stateS; rw [if_pos hs]
  exact (st_dig hl hwd.2 hinc (fun i h => ⟨(hin i h).1, (hin i h).2.1⟩) n base h32 cs.length (Nat.le_refl _)).2.2.1 i hi
theorem state_other {cs ws : List Int} (hs : smallB cs ws = true) (n : Int) {base : List Int} (h32 : 32 ≤ base.length) {j : Nat} (hj : (j : Int) ∉ cs) : (stateS cs ws n base).getD j 0 = base.getD j 0 := by
  obtain ⟨h1, hwd, _, _⟩ := small_sum hs
  obtain ⟨hl, hinc, hin⟩ := shape_iff.1 h1
  unfold stateS; rw [if_pos hs]
  refine (st_dig hl hwd.2 hinc (fun i h => ⟨(hin i h).1, (hin i h).2.1⟩) n base h32 cs.length (Nat.le_refl _)).2.2.2 j fun i hi e => hj ?_
  rw [← e, List.getD_eq_getElem?_getD, List.getElem?_eq_getElem hi]; exact List.getElem_mem hi
theorem num_state {cs ws : List Int} (hs : smallB cs ws = true) (n : Int) {base : List Int} (h32 : 32 ≤ base.length) : numS cs ws (stateS cs ws n base) = n % pw (sumI ws) := by
  obtain ⟨h1, hwd, _, _⟩ := small_sum hs
  obtain ⟨hl, hinc, hin⟩ := shape_iff.1 h1
  unfold numS; rw [if_pos hs, hl]
  have := num_dig hl hwd.2 (fun i h => ⟨(hin i h).1, (hin i h).2.1⟩) n (stateS cs ws n base) (fun i hi => by rw [state_at hs n h32 hi, Int.emod_emod]) cs.length (Nat.le_refl _)
  rw [hl] at this
  rw [this, List.take_length]
theorem num_stN {cs ws : List Int} (hs : smallB cs ws = true) {n : Nat} (hn : (n : Int) < pw (sumI ws)) : numS cs ws (stN cs ws n) = n := by
  unfold stN
  rw [num_state hs (n : Int) (by simp [zeros32])]
  exact Int.emod_eq_of_lt (by omega) hn
/-- State of the number of a state yields the values of the state. -/
theorem state_num {cs ws : List Int} (hs : smallB cs ws = true) {base : List Int} (h32 : 32 ≤ base.length) {i : Nat} (hi : i < cs.length) : elemS (stateS cs ws (numS cs ws base) base) (cs.getD i 0) = elemS base (cs.getD i 0) % pw (ws.getD i 0) := by
  obtain ⟨h1, hwd, _, _⟩ := small_sum hs
  obtain ⟨hl, hinc, hin⟩ := shape_iff.1 h1
  rw [state_at hs _ h32 hi]
  unfold numS; rw [if_pos hs]
  exact num_digit hl hwd.2 base cs.length (Nat.le_refl _) i hi
end Go.Proofs.YtlcgbdjmlnjhcaaGreatDoor
namespace Go.Proofs.YtlcgbdjmlnjhcaaGreatDoor
open Go.RowKit

/-- The run that a value falls into. -/
def pick (x : Nat) : List (Nat × List Nat) → List Nat
  | [] => []
  | [r] => r.2
  | r :: s :: t => if x ≤ r.1 then r.2 else pick x (s :: t)
theorem pick_cons (x : Nat) (r : Nat × List Nat) {l : List (Nat × List Nat)} (h : l ≠ []) : pick x (r :: l) = if x ≤ r.1 then r.2 else pick x l := by
  cases l with
  | nil => exact absurd rfl h
  | cons s t => rfl
theorem pick_take {x : Nat} : ∀ (l : List (Nat × List Nat)) (k : Nat), k + 1 < l.length → x ≤ (l.getD k (0, [])).1 → pick x (l.take (k + 1)) = pick x l := by
  intro l
  induction l with
  | nil => intro k h; simp at h
  | cons r t ih =>
    intro k h hx
    have ht : t ≠ [] := fun e => by subst e; simp at h
    cases k with
    | zero =>
      rw [pick_cons x r ht]
      have hx' : x ≤ r.1 := hx
      rw [if_pos hx']; rfl
    | succ k =>
      have h1 := ih k (by simp at h; omega) (by simpa using hx)
      rw [List.take_succ_cons, pick_cons x r ht, pick_cons x r (by intro e; have := congrArg List.length e; simp at this; exact ht this), h1]
theorem pick_drop {x : Nat} : ∀ (l : List (Nat × List Nat)) (k : Nat), k + 1 < l.length → l.Pairwise (fun a b => a.1 < b.1) → (l.getD k (0, [])).1 < x → pick x (l.drop (k + 1)) = pick x l := by
  intro l
  induction l with
  | nil => intro k h; simp at h
  | cons r t ih =>
    intro k h hp hx
    have ht : t ≠ [] := fun e => by subst e; simp at h
    rw [List.pairwise_cons] at hp
    cases k with
    | zero =>
      have hx' : r.1 < x := hx
      rw [pick_cons x r ht, if_neg (by omega)]; rfl
    | succ k =>
      have hk : k < t.length := by simp at h; omega
      have hx' : (t.getD k (0, [])).1 < x := by simpa using hx
      have hr : r.1 < (t.getD k (0, [])).1 := by
        refine hp.1 _ ?_
        rw [List.getD_eq_getElem?_getD, List.getElem?_eq_getElem hk]
        exact List.getElem_mem hk
      have h1 := ih k (by simp at h; omega) hp.2 hx'
      rw [List.drop_succ_cons, pick_cons x r ht, if_neg (by omega), h1]
theorem treeF_val {leaf : List Nat → E} {old now : List Int} (hv : ∀ z, 0 ≤ (leaf z).val old now ∧ (leaf z).val old now < 2) (wd c : Int) (x : Nat) (hx : elemS now c % pw wd = (x : Int)) : ∀ (f : Nat) (l : List (Nat × List Nat)), l.length ≤ f → 0 < l.length → l.Pairwise (fun a b => a.1 < b.1) →
    (treeF leaf wd c f l).val old now = (leaf (pick x l)).val old now := by
  intro f
  induction f with
  | zero => intro l h1 h2; omega
  | succ f ih =>
    intro l h1 h2 hp
    rw [treeF_succ]
    by_cases h : l.length = 1
    · rw [if_pos h]
      match l, h with
      | [r], _ => rfl
    · rw [if_neg h]
      obtain ⟨k, hk⟩ : ∃ k, (l.length + 1) / 2 = k + 1 := ⟨(l.length + 1) / 2 - 1, by omega⟩
      rw [hk, Nat.add_sub_cancel]
      have hkl : k + 1 < l.length := by omega
      have a1 := ih (l.take (k + 1)) (by simp; omega) (by simp; omega) (hp.sublist (List.take_sublist _ _))
      have a2 := ih (l.drop (k + 1)) (by simp; omega) (by simp; omega) (hp.sublist (List.drop_sublist _ _))
      have p2 : pw 1 = 2 := by decide
      by_cases hc : x ≤ (l.getD k (0, [])).1
      · rw [pick_take l k hkl hc] at a1
        have hb := hv (pick x l)
        generalize (l.getD k (0, [])).1 = y at *
        simp [E.val, valAll, applyS, hx, p2, a1, hc]
        omega
      · rw [pick_drop l k hkl hp (by omega)] at a2
        have hb := hv (pick x l)
        generalize (l.getD k (0, [])).1 = y at *
        simp [E.val, valAll, applyS, hx, p2, a2, hc]
        omega
theorem runsF_ne (low : Nat) (is : List Nat) (m v : Nat) (cur : Nat × List Nat) : runsF low is m v cur ≠ [] := fun e => by
  have := runsF_pos low is m v cur
  rw [e] at this; simp at this
theorem runsF_pick (low : Nat) (is : List Nat) (x : Nat) : ∀ (m v : Nat) (cur : Nat × List Nat), cur.1 < v → (x ≤ cur.1 → pick x (runsF low is m v cur) = cur.2) ∧ (v ≤ x → x < v + m → pick x (runsF low is m v cur) = part low is x) := by
  intro m
  induction m with
  | zero => intro v cur hc; exact ⟨fun _ => rfl, fun h1 h2 => by omega⟩
  | succ m ih =>
    intro v cur hc
    have h1 := ih (v + 1) (v, part low is v) (Nat.lt_succ_self v)
    unfold runsF
    by_cases he : part low is v = cur.2
    · rw [if_pos he]
      refine ⟨fun hx => (h1.1 (by show x ≤ v; omega)).trans he, fun hx1 hx2 => ?_⟩
      rcases Nat.lt_or_ge v x with e | e
      · exact h1.2 e (by omega)
      · obtain rfl : x = v := by omega
        exact h1.1 (Nat.le_refl _)
    · rw [if_neg he, pick_cons x cur (runsF_ne _ _ _ _ _)]
      refine ⟨fun hx => by rw [if_pos hx], fun hx1 hx2 => ?_⟩
      rw [if_neg (by omega)]
      rcases Nat.lt_or_ge v x with e | e
      · exact h1.2 e (by omega)
      · obtain rfl : x = v := by omega
        exact h1.1 (Nat.le_refl _)
theorem runsL_pick {low w x : Nat} {is : List Nat} (h : x < 2 ^ w) : pick x (runsL low w is) = part low is x := by
  have hp := Nat.two_pow_pos w
  have h1 := runsF_pick low is x (2 ^ w - 1) 1 (0, part low is 0) (Nat.lt_succ_self 0)
  unfold runsL
  rcases Nat.eq_zero_or_pos x with e | e
  · subst e; exact h1.1 (Nat.le_refl _)
  · exact h1.2 e (by omega)
theorem runsF_inc (low : Nat) (is : List Nat) : ∀ (m v : Nat) (cur : Nat × List Nat), cur.1 < v → (runsF low is m v cur).Pairwise (fun a b => a.1 < b.1) ∧ ∀ p ∈ runsF low is m v cur, cur.1 ≤ p.1 := by
  intro m
  induction m with
  | zero => intro v cur hc; simp [runsF]
  | succ m ih =>
    intro v cur hc
    have h1 := ih (v + 1) (v, part low is v) (Nat.lt_succ_self v)
    unfold runsF
    split
    · exact ⟨h1.1, fun p hp => Nat.le_trans (Nat.le_of_lt hc) (h1.2 p hp)⟩
    · refine ⟨List.pairwise_cons.2 ⟨fun p hp => Nat.lt_of_lt_of_le hc (h1.2 p hp), h1.1⟩, fun p hp => ?_⟩
      rcases List.mem_cons.1 hp with rfl | hp
      · exact Nat.le_refl _
      · exact Nat.le_trans (Nat.le_of_lt hc) (h1.2 p hp)
theorem runsL_inc (low w : Nat) (is : List Nat) : (runsL low w is).Pairwise (fun a b => a.1 < b.1) := (runsF_inc low is _ _ _ (Nat.lt_succ_self 0)).1
end Go.Proofs.YtlcgbdjmlnjhcaaGreatDoor
namespace Go.Proofs.YtlcgbdjmlnjhcaaGreatDoor
open Go.RowKit

theorem step_le {l : List Nat} (h : l.Pairwise (· < ·)) (i : Nat) : ∀ (j : Nat) (hij : i ≤ j) (hj : j < l.length), l[i]'(Nat.lt_of_le_of_lt hij hj) + (j - i) ≤ l[j] := by
  intro j
  induction j with
  | zero => intro h1 hj; obtain rfl : i = 0 := by omega
            simp
  | succ j ih =>
    intro h1 hj
    rcases Nat.eq_or_lt_of_le h1 with e | e
    · subst e; simp
    · have h2 := ih (by omega) (by omega)
      have h3 := List.pairwise_iff_getElem.1 h j (j + 1) (by omega) hj (by omega)
      omega
theorem full_mem {l : List Nat} {n : Nat} (h : l.Pairwise (· < ·)) (hb : ∀ x ∈ l, x < n) (hl : l.length = n) {y : Nat} (hy : y < n) : y ∈ l := by
  have hy' : y < l.length := by omega
  have h1 := step_le h 0 y (Nat.zero_le _) hy'
  have h2 := step_le h y (l.length - 1) (by omega) (by omega)
  have h3 := hb (l[l.length - 1]'(by omega)) (List.getElem_mem _)
  have : l[y] = y := by omega
  have h4 := List.getElem_mem (l := l) hy'
  rw [this] at h4
  exact h4
/-- The number of a state's first m cells. -/
def numN (now cs ws : List Int) : Nat → Nat
  | 0 => 0
  | m + 1 => numN now cs ws m + (elemS now (cs.getD m 0) % pw (ws.getD m 0)).toNat * 2 ^ bitsN ws m
theorem part_mem {low x y : Nat} {is : List Nat} (hy : y < 2 ^ low) : y ∈ part low is x ↔ y + x * 2 ^ low ∈ is := by
  unfold part grp
  rw [List.mem_map]
  have hp := Nat.two_pow_pos low
  constructor
  · rintro ⟨z, hz, e⟩
    rw [List.mem_filter, decide_eq_true_eq] at hz
    have := Nat.div_add_mod z (2 ^ low)
    rw [hz.2, e, Nat.mul_comm] at this
    rw [show y + x * 2 ^ low = z by omega]
    exact hz.1
  · intro h
    refine ⟨_, List.mem_filter.2 ⟨h, ?_⟩, ?_⟩
    · rw [decide_eq_true_eq, Nat.add_mul_div_right _ _ hp, Nat.div_eq_of_lt hy]; omega
    · rw [Nat.add_mul_mod_self_right, Nat.mod_eq_of_lt hy]
theorem cell_x {now : List Int} {c wd : Int} (_ : 1 ≤ wd) : elemS now c % pw wd = ((elemS now c % pw wd).toNat : Int) ∧ (elemS now c % pw wd).toNat < 2 ^ wd.toNat := by
  have hp : (0 : Int) < pw wd := by
    unfold pw
    have := Nat.two_pow_pos wd.toNat
    have e : (2 : Int) ^ wd.toNat = ((2 ^ wd.toNat : Nat) : Int) := by push_cast; rfl
    omega
  have a := Int.emod_nonneg (elemS now c) (Int.ne_of_gt hp)
  have b := Int.emod_lt_of_pos (elemS now c) hp
  refine ⟨by omega, ?_⟩
  unfold pw at b
  have e : (2 : Int) ^ wd.toNat = ((2 ^ wd.toNat : Nat) : Int) := by push_cast; rfl
  unfold pw
  omega
theorem numN_lt {now cs ws : List Int} (hW : ∀ x ∈ ws, 1 ≤ x ∧ x ≤ 8) : ∀ m, m ≤ ws.length → numN now cs ws m < 2 ^ bitsN ws m := by
  intro m
  induction m with
  | zero => intro _; exact Nat.two_pow_pos _
  | succ m ih =>
    intro hm
    have hb := bits_succ hW (show m < ws.length by omega)
    have h1 := ih (by omega)
    have h2 := (cell_x (now := now) (c := cs.getD m 0) hb.2.2.1).2
    unfold numN
    rw [hb.1, Nat.pow_add]
    generalize (elemS now (cs.getD m 0) % pw (ws.getD m 0)).toNat = x at *
    generalize 2 ^ bitsN ws m = a at *
    generalize 2 ^ (ws.getD m 0).toNat = q at *
    have h3 : (x + 1) * a ≤ q * a := Nat.mul_le_mul_right a h2
    rw [Nat.add_mul, Nat.one_mul] at h3
    rw [Nat.mul_comm a q]
    omega
theorem treeF_bit {leaf : List Nat → E} {old now : List Int} (hv : ∀ z, 0 ≤ (leaf z).val old now ∧ (leaf z).val old now < 2) (wd c : Int) (f : Nat) (l : List (Nat × List Nat)) : 0 ≤ (treeF leaf wd c f l).val old now ∧ (treeF leaf wd c f l).val old now < 2 := by
  cases f with
  | zero => simp [treeF, E.val, applyS, pw]
  | succ f =>
    rw [treeF_succ]
    split
    · exact hv _
    · have p2 : pw 1 = 2 := by decide
      simp only [E.val, p2]
      simp
      omega
theorem mem_bit {cs ws old now : List Int} : ∀ (m : Nat) (is : List Nat), 0 ≤ (memF cs ws m is).val old now ∧ (memF cs ws m is).val old now < 2 := by
  intro m
  induction m with
  | zero =>
    intro is
    unfold memF
    split
    · simp [E.val]
    · split <;> simp [E.val, applyS, pw]
  | succ m ih =>
    intro is
    unfold memF
    split
    · simp [E.val]
    · split
      · simp [E.val]
      · exact treeF_bit ih _ _ _ _
theorem mem_val {cs ws old now : List Int} (hW : ∀ x ∈ ws, 1 ≤ x ∧ x ≤ 8) : ∀ (m : Nat) (is : List Nat), m ≤ ws.length → is.Pairwise (· < ·) → (∀ x ∈ is, x < 2 ^ bitsN ws m) → (memF cs ws m is).val old now = if numN now cs ws m ∈ is then 1 else 0 := by
  intro m
  induction m with
  | zero =>
    intro is hm hs hb
    have hbz : bitsN ws 0 = 0 := by unfold bitsN; rw [List.take_zero]; rfl
    unfold memF numN
    rw [hbz] at hb ⊢
    by_cases h0 : is.length = 0
    · rw [if_pos h0, List.length_eq_zero_iff.1 h0]; simp [E.val]
    · rw [if_neg h0]
      have h1 : is.length = 1 := by
        rcases is with _ | ⟨a, _ | ⟨b, r⟩⟩
        · simp at h0
        · rfl
        · have h1 := hb a (by simp)
          have h2 := hb b (by simp)
          rw [List.pairwise_cons] at hs
          have h3 := hs.1 b (by simp)
          omega
      rw [if_pos (by simpa using h1), if_pos (full_mem hs hb (by simpa using h1) (by simp))]
      simp [E.val]
  | succ m ih =>
    intro is hm hs hb
    have hbs := bits_succ hW (show m < ws.length by omega)
    have hN := numN_lt (now := now) (cs := cs) hW (m + 1) hm
    unfold memF
    by_cases h0 : is.length = 0
    · rw [if_pos h0, List.length_eq_zero_iff.1 h0]; simp [E.val]
    · rw [if_neg h0]
      by_cases h1 : is.length = 2 ^ bitsN ws (m + 1)
      · rw [if_pos h1, if_pos (full_mem hs hb h1 hN)]; simp [E.val]
      · rw [if_neg h1]
        have hx := cell_x (now := now) (c := cs.getD m 0) hbs.2.2.1
        have hl := runsL_len (bitsN ws m) (ws.getD m 0).toNat is
        have hpo := part_ok (low := bitsN ws m) hs (elemS now (cs.getD m 0) % pw (ws.getD m 0)).toNat
        rw [treeF_val (leaf := memF cs ws m) (mem_bit m) (ws.getD m 0) (cs.getD m 0) _ hx.1 _ _ hl.1 hl.2 (runsL_inc _ _ _), runsL_pick hx.2, ih _ (by omega) hpo.1 hpo.2]
        have hq := part_mem (is := is) (x := (elemS now (cs.getD m 0) % pw (ws.getD m 0)).toNat) (numN_lt (now := now) (cs := cs) hW m (by omega))
        show (if numN now cs ws m ∈ part _ is _ then (1 : Int) else 0) = if numN now cs ws m + (elemS now (cs.getD m 0) % pw (ws.getD m 0)).toNat * 2 ^ bitsN ws m ∈ is then 1 else 0
        simp only [hq]
end Go.Proofs.YtlcgbdjmlnjhcaaGreatDoor
