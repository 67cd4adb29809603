/-
  The value of a tree over runs: the leaf of the first run whose last value is not below the cell's. No program in sight.
  The value of the expression of a set. No program in sight.
  The plain law of StatesExpressions: the expression of a set is valid, is the set, and is small for few elements.
  The plain law of StatesExpressions, put together.
-/
import Derived.Test.YtdiopiekmdfklaaDoorMMem
import Derived.Test.YtdiopiekmdfklaaDoorMBase
import Derived.Test.YtdiopiekmdfklaaDoorMExp
import Derived.Test.YtdiopiekmdfklaaDoorMAlg
namespace Go.Proofs.YtdiopiekmdfklaaDoor
open Go.RowKit

/-- The run that a value falls into. -/
def pick (x : Nat) : List (Nat × List Nat) → List Nat
  | [] => []
  | [r] => r.2
  | r :: s :: t => if x ≤ r.1 then r.2 else pick x (s :: t)
theorem pick_cons (x : Nat) (r : Nat × List Nat) {l : List (Nat × List Nat)} (h : l ≠ []) : pick x (r :: l) = if x ≤ r.1 then r.2 else pick x l := by
  cases l with
  | nil => exact absurd rfl h
  | cons s t => rfl
theorem pick_take {x : Nat} : ∀ (l : List (Nat × List Nat)) (k : Nat), k + 1 < l.length → x ≤ (l.getD k (0, [])).1 → pick x (l.take (k + 1)) = pick x l := by
  intro l
  induction l with
  | nil => intro k h; simp at h
  | cons r t ih =>
    intro k h hx
    have ht : t ≠ [] := fun e => by subst e; simp at h
    cases k with
    | zero =>
      rw [pick_cons x r ht]
      have hx' : x ≤ r.1 := hx
      rw [if_pos hx']; rfl
    | succ k =>
      have h1 := ih k (by simp at h; omega) (by simpa using hx)
      rw [List.take_succ_cons, pick_cons x r ht, pick_cons x r (by intro e; have := congrArg List.length e; simp at this; exact ht this), h1]
theorem pick_drop {x : Nat} : ∀ (l : List (Nat × List Nat)) (k : Nat), k + 1 < l.length → l.Pairwise (fun a b => a.1 < b.1) → (l.getD k (0, [])).1 < x → pick x (l.drop (k + 1)) = pick x l := by
  intro l
  induction l with
  | nil => intro k h; simp at h
  | cons r t ih =>
    intro k h hp hx
    have ht : t ≠ [] := fun e => by subst e; simp at h
    rw [List.pairwise_cons] at hp
    cases k with
    | zero =>
      have hx' : r.1 < x := hx
      rw [pick_cons x r ht, if_neg (by omega)]; rfl
    | succ k =>
      have hk : k < t.length := by simp at h; omega
      have hx' : (t.getD k (0, [])).1 < x := by simpa using hx
      have hr : r.1 < (t.getD k (0, [])).1 := by
        refine hp.1 _ ?_
        rw [List.getD_eq_getElem?_getD, List.getElem?_eq_getElem hk]
        exact List.getElem_mem hk
      have h1 := ih k (by simp at h; omega) hp.2 hx'
      rw [List.drop_succ_cons, pick_cons x r ht, if_neg (by omega), h1]
theorem treeF_val {leaf : List Nat → E} {old now : List Int} (hv : ∀ z, 0 ≤ (leaf z).val old now ∧ (leaf z).val old now < 2) (wd c : Int) (x : Nat) (hx : elemS now c % pw wd = (x : Int)) : ∀ (f : Nat) (l : List (Nat × List Nat)), l.length ≤ f → 0 < l.length → l.Pairwise (fun a b => a.1 < b.1) →
    (treeF leaf wd c f l).val old now = (leaf (pick x l)).val old now := by
  intro f
  induction f with
  | zero => intro l h1 h2; omega
  | succ f ih =>
    intro l h1 h2 hp
    rw [treeF_succ]
    by_cases h : l.length = 1
    · rw [if_pos h]
      match l, h with
      | [r], _ => rfl
    · rw [if_neg h]
      obtain ⟨k, hk⟩ : ∃ k, (l.length + 1) / 2 = k + 1 := ⟨(l.length + 1) / 2 - 1, by omega⟩
      rw [hk, Nat.add_sub_cancel]
      have hkl : k + 1 < l.length := by omega
      have a1 := ih (l.take (k + 1)) (by simp; omega) (by simp; omega) (hp.sublist (List.take_sublist _ _))
      have a2 := ih (l.drop (k + 1)) (by simp; omega) (by simp; omega) (hp.sublist (List.drop_sublist _ _))
      have p2 : pw 1 = 2 := by decide
      by_cases hc : x ≤ (l.getD k (0, [])).1
      · rw [pick_take l k hkl hc] at a1
        have hb := hv (pick x l)
        generalize (l.getD k (0, [])).1 = y at *
        simp [E.val, valAll, applyS, hx, p2, a1, hc]
        omega
      · rw [pick_drop l k hkl hp (by omega)] at a2
        have hb := hv (pick x l)
        generalize (l.getD k (0, [])).1 = y at *
        simp [E.val, valAll, applyS, hx, p2, a2, hc]
        omega
theorem runsF_ne (low : Nat) (is : List Nat) (m v : Nat) (cur : Nat × List Nat) : runsF low is m v cur ≠ [] := fun e => by
  have := runsF_pos low is m v cur
  rw [e] at this; simp at this
theorem runsF_pick (low : Nat) (is : List Nat) (x : Nat) : ∀ (m v : Nat) (cur : Nat × List Nat), cur.1 < v → (x ≤ cur.1 → pick x (runsF low is m v cur) = cur.2) ∧ (v ≤ x → x < v + m → pick x (runsF low is m v cur) = part low is x) := by
  intro m
  induction m with
  | zero => intro v cur hc; exact ⟨fun _ => rfl, fun h1 h2 => by omega⟩
  | succ m ih =>
    intro v cur hc
    have h1 := ih (v + 1) (v, part low is v) (Nat.lt_succ_self v)
    unfold runsF
    by_cases he : part low is v = cur.2
    · rw [if_pos he]
      refine ⟨fun hx => (h1.1 (by show x ≤ v; omega)).trans he, fun hx1 hx2 => ?_⟩
      rcases Nat.lt_or_ge v x with e | e
      · exact h1.2 e (by omega)
      · obtain rfl : x = v := by omega
        exact h1.1 (Nat.le_refl _)
    · rw [if_neg he, pick_cons x cur (runsF_ne _ _ _ _ _)]
      refine ⟨fun hx => by rw [if_pos hx], fun hx1 hx2 => ?_⟩
      rw [if_neg (by omega)]
      rcases Nat.lt_or_ge v x with e | e
      · exact h1.2 e (by omega)
      · obtain rfl : x = v := by omega
        exact h1.1 (Nat.le_refl _)
theorem runsL_pick {low w x : Nat} {is : List Nat} (h : x < 2 ^ w) : pick x (runsL low w is) = part low is x := by
  have hp := Nat.two_pow_pos w
  have h1 := runsF_pick low is x (2 ^ w - 1) 1 (0, part low is 0) (Nat.lt_succ_self 0)
  unfold runsL
  rcases Nat.eq_zero_or_pos x with e | e
  · subst e; exact h1.1 (Nat.le_refl _)
  · exact h1.2 e (by omega)
theorem runsF_inc (low : Nat) (is : List Nat) : ∀ (m v : Nat) (cur : Nat × List Nat), cur.1 < v → (runsF low is m v cur).Pairwise (fun a b => a.1 < b.1) ∧ ∀ p ∈ runsF low is m v cur, cur.1 ≤ p.1 := by
  intro m
  induction m with
  | zero => intro v cur hc; simp [runsF]
  | succ m ih =>
    intro v cur hc
    have h1 := ih (v + 1) (v, part low is v) (Nat.lt_succ_self v)
    unfold runsF
    split
    · exact ⟨h1.1, fun p hp => Nat.le_trans (Nat.le_of_lt hc) (h1.2 p hp)⟩
    · refine ⟨List.pairwise_cons.2 ⟨fun p hp => Nat.lt_of_lt_of_le hc (h1.2 p hp), h1.1⟩, fun p hp => ?_⟩
      rcases List.mem_cons.1 hp with rfl | hp
      · exact Nat.le_refl _
      · exact Nat.le_trans (Nat.le_of_lt hc) (h1.2 p hp)
theorem runsL_inc (low w : Nat) (is : List Nat) : (runsL low w is).Pairwise (fun a b => a.1 < b.1) := (runsF_inc low is _ _ _ (Nat.lt_succ_self 0)).1
end Go.Proofs.YtdiopiekmdfklaaDoor
namespace Go.Proofs.YtdiopiekmdfklaaDoor
open Go.RowKit

theorem step_le {l : List Nat} (h : l.Pairwise (· < ·)) (i : Nat) : ∀ (j : Nat) (hij : i ≤ j) (hj : j < l.length), l[i]'(Nat.lt_of_le_of_lt hij hj) + (j - i) ≤ l[j] := by
  intro j
  induction j with
  | zero => intro h1 hj; obtain rfl : i = 0 := by omega
            simp
  | succ j ih =>
    intro h1 hj
    rcases Nat.eq_or_lt_of_le h1 with e | e
    · subst e; simp
    · have h2 := ih (by omega) (by omega)
      have h3 := List.pairwise_iff_getElem.1 h j (j + 1) (by omega) hj (by omega)
      omega
theorem full_mem {l : List Nat} {n : Nat} (h : l.Pairwise (· < ·)) (hb : ∀ x ∈ l, x < n) (hl : l.length = n) {y : Nat} (hy : y < n) : y ∈ l := by
  have hy' : y < l.length := by omega
  have h1 := step_le h 0 y (Nat.zero_le _) hy'
  have h2 := step_le h y (l.length - 1) (by omega) (by omega)
  have h3 := hb (l[l.length - 1]'(by omega)) (List.getElem_mem _)
  have : l[y] = y := by omega
  have h4 := List.getElem_mem (l := l) hy'
  rw [this] at h4
  exact h4
/-- The number of a state's first m cells. -/
def numN (now cs ws : List Int) : Nat → Nat
  | 0 => 0
  | m + 1 => numN now cs ws m + (elemS now (cs.getD m 0) % pw (ws.getD m 0)).toNat * 2 ^ bitsN ws m
theorem part_mem {low x y : Nat} {is : List Nat} (hy : y < 2 ^ low) : y ∈ part low is x ↔ y + x * 2 ^ low ∈ is := by
  unfold part grp
  rw [List.mem_map]
  have hp := Nat.two_pow_pos low
  constructor
  · rintro ⟨z, hz, e⟩
    rw [List.mem_filter, decide_eq_true_eq] at hz
    have := Nat.div_add_mod z (2 ^ low)
    rw [hz.2, e, Nat.mul_comm] at this
    rw [show y + x * 2 ^ low = z by omega]
    exact hz.1
  · intro h
    refine ⟨_, List.mem_filter.2 ⟨h, ?_⟩, ?_⟩
    · rw [decide_eq_true_eq, Nat.add_mul_div_right _ _ hp, Nat.div_eq_of_lt hy]; omega
    · rw [Nat.add_mul_mod_self_right, Nat.mod_eq_of_lt hy]
theorem cell_x {now : List Int} {c wd : Int} (_ : 1 ≤ wd) : elemS now c % pw wd = ((elemS now c % pw wd).toNat : Int) ∧ (elemS now c % pw wd).toNat < 2 ^ wd.toNat := by
  have hp : (0 : Int) < pw wd := by
    unfold pw
    have := Nat.two_pow_pos wd.toNat
    have e : (2 : Int) ^ wd.toNat = ((2 ^ wd.toNat : Nat) : Int) := by push_cast; rfl
    omega
  have a := Int.emod_nonneg (elemS now c) (Int.ne_of_gt hp)
  have b := Int.emod_lt_of_pos (elemS now c) hp
  refine ⟨by omega, ?_⟩
  unfold pw at b
  have e : (2 : Int) ^ wd.toNat = ((2 ^ wd.toNat : Nat) : Int) := by push_cast; rfl
  unfold pw
  omega
theorem numN_lt {now cs ws : List Int} (hW : ∀ x ∈ ws, 1 ≤ x ∧ x ≤ 8) : ∀ m, m ≤ ws.length → numN now cs ws m < 2 ^ bitsN ws m := by
  intro m
  induction m with
  | zero => intro _; exact Nat.two_pow_pos _
  | succ m ih =>
    intro hm
    have hb := bits_succ hW (show m < ws.length by omega)
    have h1 := ih (by omega)
    have h2 := (cell_x (now := now) (c := cs.getD m 0) hb.2.2.1).2
    unfold numN
    rw [hb.1, Nat.pow_add]
    generalize (elemS now (cs.getD m 0) % pw (ws.getD m 0)).toNat = x at *
    generalize 2 ^ bitsN ws m = a at *
    generalize 2 ^ (ws.getD m 0).toNat = q at *
    have h3 : (x + 1) * a ≤ q * a := Nat.mul_le_mul_right a h2
    rw [Nat.add_mul, Nat.one_mul] at h3
    rw [Nat.mul_comm a q]
    omega
theorem treeF_bit {leaf : List Nat → E} {old now : List Int} (hv : ∀ z, 0 ≤ (leaf z).val old now ∧ (leaf z).val old now < 2) (wd c : Int) (f : Nat) (l : List (Nat × List Nat)) : 0 ≤ (treeF leaf wd c f l).val old now ∧ (treeF leaf wd c f l).val old now < 2 := by
  cases f with
  | zero => simp [treeF, E.val, applyS, pw]
  | succ f =>
    rw [treeF_succ]
    split
    · exact hv _
    · have p2 : pw 1 = 2 := by decide
      simp only [E.val, p2]
      simp
      omega
theorem mem_bit {cs ws old now : List Int} : ∀ (m : Nat) (is : List Nat), 0 ≤ (memF cs ws m is).val old now ∧ (memF cs ws m is).val old now < 2 := by
  intro m
  induction m with
  | zero =>
    intro is
    unfold memF
    split
    · simp [E.val]
    · split <;> simp [E.val, applyS, pw]
  | succ m ih =>
    intro is
    unfold memF
    split
    · simp [E.val]
    · split
      · simp [E.val]
      · exact treeF_bit ih _ _ _ _
theorem mem_val {cs ws old now : List Int} (hW : ∀ x ∈ ws, 1 ≤ x ∧ x ≤ 8) : ∀ (m : Nat) (is : List Nat), m ≤ ws.length → is.Pairwise (· < ·) → (∀ x ∈ is, x < 2 ^ bitsN ws m) → (memF cs ws m is).val old now = if numN now cs ws m ∈ is then 1 else 0 := by
  intro m
  induction m with
  | zero =>
    intro is hm hs hb
    have hbz : bitsN ws 0 = 0 := by unfold bitsN; rw [List.take_zero]; rfl
    unfold memF numN
    rw [hbz] at hb ⊢
    by_cases h0 : is.length = 0
    · rw [if_pos h0, List.length_eq_zero_iff.1 h0]; simp [E.val]
    · rw [if_neg h0]
      have h1 : is.length = 1 := by
        rcases is with _ | ⟨a, _ | ⟨b, r⟩⟩
        · simp at h0
        · rfl
        · have h1 := hb a (by simp)
          have h2 := hb b (by simp)
          rw [List.pairwise_cons] at hs
          have h3 := hs.1 b (by simp)
          omega
      rw [if_pos (by simpa using h1), if_pos (full_mem hs hb (by simpa using h1) (by simp))]
      simp [E.val]
  | succ m ih =>
    intro is hm hs hb
    have hbs := bits_succ hW (show m < ws.length by omega)
    have hN := numN_lt (now := now) (cs := cs) hW (m + 1) hm
    unfold memF
    by_cases h0 : is.length = 0
    · rw [if_pos h0, List.length_eq_zero_iff.1 h0]; simp [E.val]
    · rw [if_neg h0]
      by_cases h1 : is.length = 2 ^ bitsN ws (m + 1)
      · rw [if_pos h1, if_pos (full_mem hs hb h1 hN)]; simp [E.val]
      · rw [if_neg h1]
        have hx := cell_x (now := now) (c := cs.getD m 0) hbs.2.2.1
        have hl := runsL_len (bitsN ws m) (ws.getD m 0).toNat is
        have hpo := part_ok (low := bitsN ws m) hs (elemS now (cs.getD m 0) % pw (ws.getD m 0)).toNat
        rw [treeF_val (leaf := memF cs ws m) (mem_bit m) (ws.getD m 0) (cs.getD m 0) _ hx.1 _ _ hl.1 hl.2 (runsL_inc _ _ _), runsL_pick hx.2, ih _ (by omega) hpo.1 hpo.2]
        have hq := part_mem (is := is) (x := (elemS now (cs.getD m 0) % pw (ws.getD m 0)).toNat) (numN_lt (now := now) (cs := cs) hW m (by omega))
        show (if numN now cs ws m ∈ part _ is _ then (1 : Int) else 0) = if numN now cs ws m + (elemS now (cs.getD m 0) % pw (ws.getD m 0)).toNat * 2 ^ bitsN ws m ∈ is then 1 else 0
        simp only [hq]
end Go.Proofs.YtdiopiekmdfklaaDoor
namespace Go.Proofs.YtdiopiekmdfklaaDoor
open Go.RowKit

theorem runsF_mem (low : Nat) (is : List Nat) : ∀ (m v : Nat) (cur : Nat × List Nat) (r : Nat × List Nat), r ∈ runsF low is m v cur → r = cur ∨ ∃ u, v ≤ u ∧ u < v + m ∧ r = (u, part low is u) := by
  intro m
  induction m with
  | zero => intro v cur r h; simp [runsF] at h; exact .inl h
  | succ m ih =>
    intro v cur r h
    unfold runsF at h
    have key : ∀ r, r ∈ runsF low is m (v + 1) (v, part low is v) → ∃ u, v ≤ u ∧ u < v + (m + 1) ∧ r = (u, part low is u) := fun r hr => by
      rcases ih (v + 1) _ r hr with e | ⟨u, h1, h2, e⟩
      · exact ⟨v, Nat.le_refl _, by omega, e⟩
      · exact ⟨u, by omega, by omega, e⟩
    split at h
    · exact .inr (key r h)
    · rcases List.mem_cons.1 h with e | h
      · exact .inl e
      · exact .inr (key r h)
theorem runsL_mem {low w : Nat} {is : List Nat} {r : Nat × List Nat} (h : r ∈ runsL low w is) : r.1 < 2 ^ w ∧ r.2 = part low is r.1 := by
  have hp := Nat.two_pow_pos w
  rcases runsF_mem low is _ _ _ r h with e | ⟨u, h1, h2, e⟩
  · subst e; exact ⟨hp, rfl⟩
  · subst e; exact ⟨by show u < _; omega, rfl⟩
/-- How many elements fall into a range of values. -/
def cnt (low : Nat) (is : List Nat) (v m : Nat) : Nat := is.countP fun x => decide (v ≤ x / 2 ^ low) && decide (x / 2 ^ low < v + m)
theorem cnt_succ (low : Nat) (is : List Nat) (v m : Nat) : cnt low is v (m + 1) = (part low is v).length + cnt low is (v + 1) m := by
  unfold cnt part grp
  rw [List.length_map]
  induction is with
  | nil => rfl
  | cons a r ih =>
    simp only [List.countP_cons, List.filter_cons]
    rw [ih]
    generalize a / 2 ^ low = y
    by_cases c : y = v
    · subst c; simp [show ¬ (y + 1 ≤ y) by omega]; omega
    · by_cases d : v ≤ y ∧ y < v + (m + 1)
      · simp [c, d, show v + 1 ≤ y by omega, show y < v + 1 + m by omega]; omega
      · have : ¬ (v + 1 ≤ y ∧ y < v + 1 + m) := by omega
        simp [c]
        by_cases d1 : v ≤ y <;> by_cases d2 : y < v + (m + 1) <;> by_cases d3 : v + 1 ≤ y <;> by_cases d4 : y < v + 1 + m <;> simp [d1, d2, d3, d4] <;> omega
theorem cnt_le (low : Nat) (is : List Nat) (v m : Nat) : cnt low is v m ≤ is.length := List.countP_le_length
theorem runsF_few (low : Nat) (is : List Nat) : ∀ (m v : Nat) (cur : Nat × List Nat), (runsF low is m v cur).length ≤ 1 + min 1 cur.2.length + 2 * cnt low is v m ∧ ((runsF low is m v cur).map fun r => r.2.length).sum ≤ cur.2.length + cnt low is v m := by
  intro m
  induction m with
  | zero => intro v cur; simp [runsF]; omega
  | succ m ih =>
    intro v cur
    have h1 := ih (v + 1) (v, part low is v)
    have h2 := cnt_succ low is v m
    dsimp only at h1
    unfold runsF
    split
    · next e => rw [← e]; omega
    · next e =>
      simp only [List.length_cons, List.map_cons, List.sum_cons]
      have : (part low is v).length ≠ 0 ∨ cur.2.length ≠ 0 := by
        by_cases c : (part low is v).length = 0
        · by_cases d : cur.2.length = 0
          · exact absurd ((List.length_eq_zero_iff.1 c).trans (List.length_eq_zero_iff.1 d).symm) e
          · exact .inr d
        · exact .inl c
      omega
theorem runsL_few (low w : Nat) (is : List Nat) : (runsL low w is).length ≤ 1 + 2 * is.length ∧ ((runsL low w is).map fun r => r.2.length).sum ≤ is.length := by
  have h1 := runsF_few low is (2 ^ w - 1) 1 (0, part low is 0)
  have h2 : cnt low is 0 (2 ^ w - 1 + 1) = (part low is 0).length + cnt low is 1 (2 ^ w - 1) := cnt_succ low is 0 (2 ^ w - 1)
  have h3 := cnt_le low is 0 (2 ^ w - 1 + 1)
  dsimp only at h1
  unfold runsL
  omega
theorem sum_append (l m : List Nat) : (l ++ m).sum = l.sum + m.sum := by induction l <;> simp_all; omega
theorem tree_sum {leaf : List Nat → E} (wd c : Int) : ∀ (f : Nat) (l : List (Nat × List Nat)), l.length ≤ f → 0 < l.length → (treeF leaf wd c f l).size + 4 ≤ (l.map fun r => (leaf r.2).size + 4).sum := by
  intro f
  induction f with
  | zero => intro l h1 h2; omega
  | succ f ih =>
    intro l h1 h2
    rw [treeF_succ]
    by_cases h : l.length = 1
    · rw [if_pos h]
      match l, h with
      | [r], _ => simp
    · rw [if_neg h]
      have e1 : (l.take ((l.length + 1) / 2)).length = (l.length + 1) / 2 := by simp; omega
      have e2 : (l.drop ((l.length + 1) / 2)).length = l.length - (l.length + 1) / 2 := by simp
      have k1 := ih (l.take ((l.length + 1) / 2)) (by omega) (by omega)
      have k2 := ih (l.drop ((l.length + 1) / 2)) (by omega) (by omega)
      have hs : (l.map fun r => (leaf r.2).size + 4).sum = ((l.take ((l.length + 1) / 2)).map fun r => (leaf r.2).size + 4).sum + ((l.drop ((l.length + 1) / 2)).map fun r => (leaf r.2).size + 4).sum := by
        rw [← sum_append, ← List.map_append, List.take_append_drop]
      rw [hs]
      simp only [E.size, sizeAll]
      omega
theorem sum_lin (k : Nat) (g : List Nat → Nat) (hg : ∀ z, g z ≤ 1 + k * z.length) : ∀ l : List (Nat × List Nat), (l.map fun r => g r.2 + 4).sum ≤ 5 * l.length + k * (l.map fun r => r.2.length).sum := by
  intro l
  induction l with
  | nil => simp
  | cons a r ih =>
    simp only [List.map_cons, List.sum_cons, List.length_cons]
    have := hg a.2
    rw [Nat.mul_add k]
    omega
theorem mem_few (cs ws : List Int) : ∀ (m : Nat) (is : List Nat), (memF cs ws m is).size ≤ 1 + 10 * (m + 1) * is.length := by
  intro m
  induction m with
  | zero =>
    intro is
    unfold memF
    split
    · simp [E.size, sizeAll]
    · split <;> (simp only [E.size, sizeAll]; omega)
  | succ m ih =>
    intro is
    unfold memF
    split
    · simp [E.size, sizeAll]
    · split
      · simp only [E.size, sizeAll]; omega
      · have hl := runsL_len (bitsN ws m) (ws.getD m 0).toNat is
        have h1 := tree_sum (leaf := memF cs ws m) (ws.getD m 0) (cs.getD m 0) (2 ^ (ws.getD m 0).toNat) _ hl.1 hl.2
        have h2 := sum_lin (10 * (m + 1)) (fun z => (memF cs ws m z).size) ih (runsL (bitsN ws m) (ws.getD m 0).toNat is)
        have h3 := runsL_few (bitsN ws m) (ws.getD m 0).toNat is
        have h4 := Nat.mul_le_mul_left (10 * (m + 1)) h3.2
        have e : 10 * (m + 1 + 1) * is.length = 10 * (m + 1) * is.length + 10 * is.length := by
          rw [show 10 * (m + 1 + 1) = 10 * (m + 1) + 10 by omega, Nat.add_mul]
        rw [e]
        omega
/-- A node of the expression of a set: a tree of the right form. -/
def Good (cs ws : List Int) (m D : Nat) (e : E) : Prop := e.wd = 1 ∧ (e.op = 1 ∨ e.op = 14) ∧ (∀ d, D ≤ d → e.deep d = true) ∧ ∀ x ∈ e.leaves, x.op = 1 ∨ ∃ i, i < m ∧ x = .mk 2 (ws.getD i 0) (cs.getD i 0) []
theorem good_const (cs ws : List Int) (m D : Nat) (hD : 1 ≤ D) {n : Int} (hn : n = 0 ∨ n = 1) : Good cs ws m D (.mk 1 1 n []) := by
  refine ⟨rfl, .inl rfl, fun d hd => ?_, fun x hx => ?_⟩
  · simp only [E.deep, deepAll, shapedW, List.map_nil, Bool.and_true, Bool.and_eq_true, decide_eq_true_eq]
    have p1 : pw 1 = 2 := by decide
    rcases hn with rfl | rfl <;> simp [p1] <;> omega
  · rw [leaves_nil] at hx; simp at hx; subst hx; exact .inl rfl
theorem good_tree {cs ws : List Int} {m D : Nat} {leaf : List Nat → E} (hD : 2 ≤ D) (hw1 : 1 ≤ ws.getD m 0) (hw8 : ws.getD m 0 ≤ 8) (hc0 : 0 ≤ cs.getD m 0) (hc32 : cs.getD m 0 < 32) : ∀ (f k : Nat) (l : List (Nat × List Nat)), l.length ≤ f → 0 < l.length → l.length ≤ 2 ^ k →
    (∀ r ∈ l, (r.1 : Int) < pw (ws.getD m 0) ∧ Good cs ws m D (leaf r.2)) → Good cs ws (m + 1) (D + k) (treeF leaf (ws.getD m 0) (cs.getD m 0) f l) := by
  intro f
  induction f with
  | zero => intro k l h1 h2; omega
  | succ f ih =>
    intro k l h1 h2 hk hg
    rw [treeF_succ]
    by_cases h : l.length = 1
    · rw [if_pos h]
      match l, h with
      | [r], _ =>
        obtain ⟨g1, g2, g3, g4⟩ := (hg r (by simp)).2
        refine ⟨g1, g2, fun d hd => g3 d (by omega), fun x hx => ?_⟩
        rcases g4 x hx with e | ⟨i, hi, e⟩
        · exact .inl e
        · exact .inr ⟨i, by omega, e⟩
    · rw [if_neg h]
      have e1 : (l.take ((l.length + 1) / 2)).length = (l.length + 1) / 2 := by simp; omega
      have e2 : (l.drop ((l.length + 1) / 2)).length = l.length - (l.length + 1) / 2 := by simp
      obtain ⟨k, rfl⟩ : ∃ j, k = j + 1 := by
        cases k with
        | zero => simp at hk; omega
        | succ j => exact ⟨j, rfl⟩
      rw [Nat.pow_succ] at hk
      have g1 := ih k (l.take ((l.length + 1) / 2)) (by omega) (by omega) (by omega) (fun r hr => hg r (List.mem_of_mem_take hr))
      have g2 := ih k (l.drop ((l.length + 1) / 2)) (by omega) (by omega) (by omega) (fun r hr => hg r (List.mem_of_mem_drop hr))
      have hlt : (l.length + 1) / 2 - 1 < l.length := by omega
      have hv := (hg _ (List.getElem_mem hlt)).1
      have hgd : l.getD ((l.length + 1) / 2 - 1) (0, []) = l[(l.length + 1) / 2 - 1] := by simp [List.getD, hlt]
      rw [hgd]
      generalize l[(l.length + 1) / 2 - 1].1 = y at *
      generalize treeF leaf (ws.getD m 0) (cs.getD m 0) f (l.take ((l.length + 1) / 2)) = a at *
      generalize treeF leaf (ws.getD m 0) (cs.getD m 0) f (l.drop ((l.length + 1) / 2)) = b at *
      obtain ⟨a1, a2, a3, a4⟩ := g1
      obtain ⟨b1, b2, b3, b4⟩ := g2
      refine ⟨rfl, .inr rfl, fun d hd => ?_, fun x hx => ?_⟩
      · have h3 := a3 (d - 1) (by omega)
        have h4 := b3 (d - 1) (by omega)
        generalize ws.getD m 0 = wd at *
        generalize cs.getD m 0 = c at *
        have s1 : shapedW 14 1 0 [1, a.wd, b.wd] = true := by rw [a1, b1]; decide
        have s2 : shapedW 13 1 0 [wd, wd] = true := by simp [shapedW]
        have s3 : shapedW 2 wd c [] = true := by simp [shapedW]; omega
        have s4 : shapedW 1 wd (y : Int) [] = true := by simp [shapedW]; omega
        simp only [E.deep, deepAll, List.map_cons, List.map_nil, E.wd_mk, h3, h4, s1, s2, s3, s4, Bool.and_true, Bool.and_eq_true, decide_eq_true_eq]
        omega
      · rw [leaves_cons (by simp)] at hx
        simp only [leavesAll, List.append_nil, List.mem_append] at hx
        rcases hx with hx | hx | hx
        · rw [leaves_cons (by simp)] at hx
          simp only [leavesAll, List.append_nil, List.mem_append, leaves_nil, List.mem_singleton] at hx
          rcases hx with rfl | rfl
          · exact .inr ⟨m, Nat.lt_succ_self _, rfl⟩
          · exact .inl rfl
        · exact a4 x hx
        · exact b4 x hx
theorem mem_good {cs ws : List Int} (hW : ∀ x ∈ ws, 1 ≤ x ∧ x ≤ 8) (hC : ∀ i, i < ws.length → 0 ≤ cs.getD i 0 ∧ cs.getD i 0 < 32) : ∀ (m : Nat) (is : List Nat), m ≤ ws.length → is.Pairwise (· < ·) → (∀ x ∈ is, x < 2 ^ bitsN ws m) → Good cs ws m (2 + bitsN ws m) (memF cs ws m is) := by
  intro m
  induction m with
  | zero =>
    intro is hm hs hb
    have hbz : bitsN ws 0 = 0 := by unfold bitsN; rw [List.take_zero]; rfl
    unfold memF
    rw [hbz] at hb ⊢
    split
    · exact good_const _ _ _ _ (by omega) (.inl rfl)
    · next h0 =>
      have h1 : is.length = 1 := by
        rcases is with _ | ⟨a, _ | ⟨b, r⟩⟩
        · simp at h0
        · rfl
        · have h1 := hb a (by simp)
          have h2 := hb b (by simp)
          rw [List.pairwise_cons] at hs
          have h3 := hs.1 b (by simp)
          omega
      rw [if_pos (by simpa using h1)]
      exact good_const _ _ _ _ (by omega) (.inr rfl)
  | succ m ih =>
    intro is hm hs hb
    have hbs := bits_succ hW (show m < ws.length by omega)
    unfold memF
    split
    · exact good_const _ _ _ _ (by omega) (.inl rfl)
    · split
      · exact good_const _ _ _ _ (by omega) (.inr rfl)
      · have hl := runsL_len (bitsN ws m) (ws.getD m 0).toNat is
        rw [hbs.1, ← Nat.add_assoc]
        refine good_tree (by omega) hbs.2.2.1 hbs.2.2.2 (hC m (by omega)).1 (hC m (by omega)).2 _ _ _ hl.1 hl.2 hl.1 fun r hr => ?_
        obtain ⟨r1, r2⟩ := runsL_mem hr
        refine ⟨?_, ?_⟩
        · unfold pw
          have e : (2 : Int) ^ (ws.getD m 0).toNat = ((2 ^ (ws.getD m 0).toNat : Nat) : Int) := by push_cast; rfl
          rw [e]; exact_mod_cast r1
        · rw [r2]
          have hpo := part_ok (low := bitsN ws m) hs r.1
          exact ih _ (by omega) hpo.1 hpo.2
end Go.Proofs.YtdiopiekmdfklaaDoor
namespace Go.Proofs.YtdiopiekmdfklaaDoor
open Go.RowKit

/-- The cells of a shape. -/
def cellsF (cs ws : List Int) : List CellD := (List.range 32).map fun (i : Nat) => ⟨⟨#[]⟩, if (i : Int) ∈ cs then wdOf cs ws i else 1, 0, -1, false, 0⟩
theorem cellsF_len (cs ws : List Int) : (cellsF cs ws).length = 32 := by simp [cellsF]
theorem cellsF_W (cs ws : List Int) {i : Nat} (hi : i < 32) (hm : (i : Int) ∈ cs) : ((cellsF cs ws).map CellD.W).getD i 0 = wdOf cs ws i := by
  simp [cellsF, hi, hm]
theorem wAt_cellsF {cs ws : List Int} {c : Int} (h0 : 0 ≤ c) (h32 : c < 32) (hm : c ∈ cs) : wAt (cellsF cs ws) c = wdOf cs ws c := by
  obtain ⟨i, rfl⟩ := Int.eq_ofNat_of_zero_le h0
  have hi : i < 32 := by omega
  have := cellsF_W cs ws hi hm
  unfold wAt
  simpa [hi] using this
theorem numN_eq {cs ws : List Int} (now : List Int) (hl : cs.length = ws.length) (hw : ∀ x ∈ ws, 1 ≤ x ∧ x ≤ 8) (hb : ∀ i, i < cs.length → 0 ≤ cs.getD i 0) : ∀ m, m ≤ cs.length → ((numN now cs ws m : Nat) : Int) = (numTo cs ws now m).1 := by
  intro m
  induction m with
  | zero => intro _; rfl
  | succ m ih =>
    intro hm
    have hc : cs.getD m 0 = cs[m]'(by omega) := by simp [List.getD, show m < cs.length by omega]
    have hwk : ws.getD m 0 = ws[m]'(by omega) := by simp [List.getD, show m < ws.length by omega]
    have hlow := num_low now hl m (by omega)
    have hs0 := (sum_bound hw m (by omega)).1
    have hx := (cell_x (now := now) (c := cs.getD m 0) (wd := ws.getD m 0) (by rw [hwk]; exact (hw _ (List.getElem_mem _)).1)).1
    rw [numTo_succ now hl (by omega)]
    unfold numStep numN
    dsimp only
    have hbm := hb m (by omega)
    rw [hc] at hbm
    rw [elem_if now hbm, ← ih (by omega), hlow, ← hc, ← hwk]
    push_cast
    rw [← hx]
    congr 2
/-- StatesExpressions. -/
theorem exp_law {cs ws : List Int} {S : List Nat} (h : ValidS cs ws S) (h9 : sumI ws ≤ 9) :
    ((exprS cs ws (castL S)).op = 0 ∧ 2 < S.length) ∨
    ((exprS cs ws (castL S)).op ≠ 0 ∧ (exprS cs ws (castL S)).valid (cellsF cs ws) false = true ∧ ofErr (cellsF cs ws) cs (exprS cs ws (castL S)) = 0 ∧ wOf (cellsF cs ws) cs = ws ∧ ofIn (cellsF cs ws) cs (exprS cs ws (castL S)) = S) := by
  obtain ⟨h1, hwd, hs0, hs12⟩ := small_sum h.small
  obtain ⟨hl, hinc, hin⟩ := shape_iff.1 h1
  have hbn : bitsN ws ws.length = (sumI ws).toNat := by unfold bitsN; rw [List.take_length]
  have hC : ∀ i, i < ws.length → 0 ≤ cs.getD i 0 ∧ cs.getD i 0 < 32 := fun i hi => ⟨(hin i (by omega)).1, (hin i (by omega)).2.1⟩
  have hlt : ∀ x ∈ S, x < 2 ^ bitsN ws ws.length := fun x hx => by
    have := h.lt x hx
    rw [hbn]
    unfold pw at this
    exact_mod_cast this
  have hg := mem_good hwd.2 hC ws.length S (Nat.le_refl _) h.sorted hlt
  have hv := fun now old : List Int => mem_val (cs := cs) (old := old) (now := now) hwd.2 ws.length S (Nat.le_refl _) h.sorted hlt
  have hfew := mem_few cs ws ws.length S
  have hws : (ws.length : Int) ≤ sumI ws := by
    have key : ∀ k, k ≤ ws.length → (k : Int) ≤ sumI (ws.take k) := by
      intro k
      induction k with
      | zero => intro _; exact Int.le_refl _
      | succ k ih =>
        intro hk
        have h2 := hwd.2 (ws[k]'(by omega)) (List.getElem_mem _)
        have := ih (by omega)
        rw [sum_take (show k < ws.length by omega)]; omega
    have := key ws.length (Nat.le_refl _)
    rwa [List.take_length] at this
  have hes : exprS cs ws (castL S) = if 600 < (memF cs ws ws.length S).size then .mk 0 0 0 [] else memF cs ws ws.length S := by
    unfold exprS; rw [if_pos (valid_of h), natL_cast]
  rw [hes]
  by_cases hbig : 600 < (memF cs ws ws.length S).size
  · rw [if_pos hbig]
    refine .inl ⟨rfl, ?_⟩
    rcases Nat.lt_or_ge 2 S.length with c | c
    · exact c
    · have h5 : 10 * (ws.length + 1) * S.length ≤ 10 * (ws.length + 1) * 2 := Nat.mul_le_mul_left _ c
      omega
  · rw [if_neg hbig]
    generalize memF cs ws ws.length S = e at *
    obtain ⟨g1, g2, g3, g4⟩ := hg
    have hwf : e.wf = true := by
      unfold E.wf
      rw [g3 40 (by omega), decide_eq_true (show e.size ≤ 600 by omega)]; rfl
    have hwo : wOf (cellsF cs ws) cs = ws := by
      apply List.ext_getElem (by simp [wOf, hl])
      intro i h2 h3
      have hi : i < cs.length := by omega
      have hb := hin i hi
      have e1 := wd_at (ws := ws) hinc hi
      rw [show cs.getD i 0 = cs[i] by simp [List.getD, hi]] at e1 hb
      rw [show (wOf (cellsF cs ws) cs)[i] = wAt (cellsF cs ws) cs[i] by simp [wOf], wAt_cellsF hb.1 hb.2.1 (List.getElem_mem hi), e1]
      simp [List.getD, h3]
    have hval : e.valid (cellsF cs ws) false = true := by
      unfold E.valid
      rw [hwf, Bool.true_and, List.all_eq_true]
      intro x hx
      unfold okLeaf
      rcases g4 x hx with e1 | ⟨i, hi, rfl⟩
      · simp [e1]
      · have hb := hin i (by omega)
        have hm : cs.getD i 0 ∈ cs := by rw [List.getD_eq_getElem?_getD, List.getElem?_eq_getElem (by omega)]; exact List.getElem_mem _
        have e1 := wd_at (ws := ws) hinc (show i < cs.length by omega)
        obtain ⟨j, hj⟩ := Int.eq_ofNat_of_zero_le hb.1
        rw [hj] at hm e1 hb
        have e2 := cellsF_W cs ws (i := j) (by omega) hm
        simp only [E.op_mk, E.n_mk, E.wd_mk, hj, Int.toNat_natCast, e2, e1, cellsF_len]
        simp; omega
    have hsup : supB cs e = true := by
      unfold supB
      rw [List.all_eq_true]
      intro c hc
      unfold E.supNow at hc
      rw [if_pos hwf] at hc
      unfold upTo at hc
      obtain ⟨j, hj, rfl⟩ := List.mem_map.1 hc
      have := (List.mem_filter.1 hj).2
      unfold occurs at this
      rw [List.any_eq_true] at this
      obtain ⟨x, hx, hxx⟩ := this
      rw [Bool.and_eq_true, decide_eq_true_eq, decide_eq_true_eq] at hxx
      rcases g4 x hx with e1 | ⟨i, hi, rfl⟩
      · omega
      · rw [List.contains_iff_mem]
        have e2 : cs.getD i 0 = (j : Int) := hxx.2
        show (j : Int) ∈ cs
        rw [← e2, List.getD_eq_getElem?_getD, List.getElem?_eq_getElem (by omega)]; exact List.getElem_mem _
    have hwid : widthsB (cellsF cs ws) cs = true := by
      unfold widthsB inB
      rw [hinc, hwo, h1, Bool.and_true, Bool.true_and, List.all_eq_true]
      intro c hc
      obtain ⟨i, hi, rfl⟩ := mem_idx hc
      have hb := hin i hi
      rw [cellsF_len]
      simp only [Bool.and_eq_true, decide_eq_true_eq]
      omega
    refine .inr ⟨by rcases g2 with e1 | e1 <;> omega, hval, ?_, hwo, ?_⟩
    · unfold ofErr
      rw [if_pos hwid, hwo, if_pos hs12, if_pos (by rw [hval, g1]; rfl), if_pos hsup]
    · refine sorted_ext (List.Pairwise.filter _ List.pairwise_lt_range) h.sorted fun n => ?_
      unfold ofIn
      rw [hwo, List.mem_filter, List.mem_range, decide_eq_true_eq]
      have hk : ∀ n : Nat, (n : Int) < pw (sumI ws) → (e.eval (stN cs ws n) (stN cs ws n) = 1 ↔ n ∈ S) := fun n hn => by
        have e1 := hv (stN cs ws n) (stN cs ws n)
        have e2 : numN (stN cs ws n) cs ws ws.length = n := by
          have a1 := numN_eq (stN cs ws n) hl hwd.2 (fun i hi => (hin i hi).1) ws.length (by omega)
          have a2 := num_stN h.small hn
          unfold numS at a2
          rw [if_pos h.small, hl] at a2
          rw [a2] at a1
          exact_mod_cast a1
        rw [e2] at e1
        unfold E.eval
        rw [if_pos hwf, e1]
        by_cases c : n ∈ S <;> simp [c]
      constructor
      · rintro ⟨h2, h3⟩
        exact (hk n (by omega)).1 h3
      · intro h2
        have h3 := h.lt n h2
        exact ⟨by omega, (hk n h3).2 h2⟩
end Go.Proofs.YtdiopiekmdfklaaDoor
