/-
  The value of the expression of a set. No program in sight.
  The plain law of StatesExpressions: the expression of a set is valid, is the set, and is small for few elements.
  The plain law of StatesExpressions, put together.
  The plain law of the ring: numbers modulo a power of two, and their bits. No program in sight.
  The plain law of Before. No program in sight.
  Plain laws of hint: the weakest expression of a condition.
  A part in a variable: two rows of ints of the call's own and a number; appends and stores.
-/
import Derived.Test.YtlcgbdjmlnjhcaaGreatDoorG29
import Derived.Test.YtlcgbdjmlnjhcaaGreatDoorG17
import Derived.Test.YtlcgbdjmlnjhcaaGreatDoorG08
import Derived.Test.YtlcgbdjmlnjhcaaGreatDoorG14
import Derived.Test.YtlcgbdjmlnjhcaaGreatDoorG09
import Derived.Test.YtlcgbdjmlnjhcaaGreatDoorG10
import Derived.Test.YtlcgbdjmlnjhcaaGreatDoorG24
namespace Go.Proofs.YtlcgbdjmlnjhcaaGreatDoor
open Go.RowKit

theorem step_le {l : List Nat} (h : l.Pairwise (· < ·)) (i : Nat) : ∀ (j : Nat) (hij : i ≤ j) (hj : j < l.length), l[i]'(Nat.lt_of_le_of_lt hij hj) + (j - i) ≤ l[j] := by
  intro j
  induction j with
  | zero => intro h1 hj; obtain rfl : i = 0 := by omega
            simp
  | succ j ih =>
    intro h1 hj
    rcases Nat.eq_or_lt_of_le h1 with e | e
    · subst e; simp
    · have h2 := ih (by omega) (by omega)
      have h3 := List.pairwise_iff_getElem.1 h j (j + 1) (by omega) hj (by omega)
      omega
theorem full_mem {l : List Nat} {n : Nat} (h : l.Pairwise (· < ·)) (hb : ∀ x ∈ l, x < n) (hl : l.length = n) {y : Nat} (hy : y < n) : y ∈ l := by
  have hy' : y < l.length := by omega
  have h1 := step_le h 0 y (Nat.zero_le _) hy'
  have h2 := step_le h y (l.length - 1) (by omega) (by omega)
  have h3 := hb (l[l.length - 1]'(by omega)) (List.getElem_mem _)
  have : l[y] = y := by omega
  have h4 := List.getElem_mem (l := l) hy'
  rw [this] at h4
  exact h4
/-- The number of a state's first m cells. -/
def numN (now cs ws : List Int) : Nat → Nat
  | 0 => 0
  | m + 1 => numN now cs ws m + (elemS now (cs.getD m 0) % pw (ws.getD m 0)).toNat * 2 ^ bitsN ws m
theorem part_mem {low x y : Nat} {is : List Nat} (hy : y < 2 ^ low) : y ∈ part low is x ↔ y + x * 2 ^ low ∈ is := by
  unfold part grp
  rw [List.mem_map]
  have hp := Nat.two_pow_pos low
  constructor
  · rintro ⟨z, hz, e⟩
    rw [List.mem_filter, decide_eq_true_eq] at hz
    have := Nat.div_add_mod z (2 ^ low)
    rw [hz.2, e, Nat.mul_comm] at this
    rw [show y + x * 2 ^ low = z by omega]
    exact hz.1
  · intro h
    refine ⟨_, List.mem_filter.2 ⟨h, ?_⟩, ?_⟩
    · rw [decide_eq_true_eq, Nat.add_mul_div_right _ _ hp, Nat.div_eq_of_lt hy]; omega
    · rw [Nat.add_mul_mod_self_right, Nat.mod_eq_of_lt hy]
theorem cell_x {now : List Int} {c wd : Int} (_ : 1 ≤ wd) : elemS now c % pw wd = ((elemS now c % pw wd).toNat : Int) ∧ (elemS now c % pw wd).toNat < 2 ^ wd.toNat := by
  have hp : (0 : Int) < pw wd := by
    unfold pw
    have := Nat.two_pow_pos wd.toNat
    have e : (2 : Int) ^ wd.toNat = ((2 ^ wd.toNat : Nat) : Int) := by push_cast; rfl
    omega
  have a := Int.emod_nonneg (elemS now c) (Int.ne_of_gt hp)
  have b := Int.emod_lt_of_pos (elemS now c) hp
  refine ⟨by omega, ?_⟩
  unfold pw at b
  have e : (2 : Int) ^ wd.toNat = ((2 ^ wd.toNat : Nat) : Int) := by push_cast; rfl
  unfold pw
  omega
theorem numN_lt {now cs ws : List Int} (hW : ∀ x ∈ ws, 1 ≤ x ∧ x ≤ 8) : ∀ m, m ≤ ws.length → numN now cs ws m < 2 ^ bitsN ws m := by
  intro m
  induction m with
  | zero => intro _; exact Nat.two_pow_pos _
  | succ m ih =>
    intro hm
    have hb := bits_succ hW (show m < ws.length by omega)
    have h1 := ih (by omega)
    have h2 := (cell_x (now := now) (c := cs.getD m 0) hb.2.2.1).2
    unfold numN
    rw [hb.1, Nat.pow_add]
    generalize (elemS now (cs.getD m 0) % pw (ws.getD m 0)).toNat = x at *
    generalize 2 ^ bitsN ws m = a at *
    generalize 2 ^ (ws.getD m 0).toNat = q at *
    have h3 : (x + 1) * a ≤ q * a := Nat.mul_le_mul_right a h2
    rw [Nat.add_mul, Nat.one_mul] at h3
    rw [Nat.mul_comm a q]
    omega
theorem treeF_bit {leaf : List Nat → E} {old now : List Int} (hv : ∀ z, 0 ≤ (leaf z).val old now ∧ (leaf z).val old now < 2) (wd c : Int) (f : Nat) (l : List (Nat × List Nat)) : 0 ≤ (treeF leaf wd c f l).val old now ∧ (treeF leaf wd c f l).val old now < 2 := by
  cases f with
  | zero => simp [treeF, E.val, applyS, pw]
  | succ f =>
    rw [treeF_succ]
    split
    · exact hv _
    · have p2 : pw 1 = 2 := by decide
      simp only [E.val, p2]
      simp
      omega
theorem mem_bit {cs ws old now : List Int} : ∀ (m : Nat) (is : List Nat), 0 ≤ (memF cs ws m is).val old now ∧ (memF cs ws m is).val old now < 2 := by
  intro m
  induction m with
  | zero =>
    intro is
    unfold memF
    split
    · simp [E.val]
    · split <;> simp [E.val, applyS, pw]
  | succ m ih =>
    intro is
    unfold memF
    split
    · simp [E.val]
    · split
      · simp [E.val]
      · exact treeF_bit ih _ _ _ _
theorem mem_val {cs ws old now : List Int} (hW : ∀ x ∈ ws, 1 ≤ x ∧ x ≤ 8) : ∀ (m : Nat) (is : List Nat), m ≤ ws.length → is.Pairwise (· < ·) → (∀ x ∈ is, x < 2 ^ bitsN ws m) → (memF cs ws m is).val old now = if numN now cs ws m ∈ is then 1 else 0 := by
  intro m
  induction m with
  | zero =>
    intro is hm hs hb
    have hbz : bitsN ws 0 = 0 := by unfold bitsN; rw [List.take_zero]; rfl
    unfold memF numN
    rw [hbz] at hb ⊢
    by_cases h0 : is.length = 0
    · rw [if_pos h0, List.length_eq_zero_iff.1 h0]; simp [E.val]
    · rw [if_neg h0]
      have h1 : is.length = 1 := by
        rcases is with _ | ⟨a, _ | ⟨b, r⟩⟩
        · simp at h0
        · rfl
        · have h1 := hb a (by simp)
          have h2 := hb b (by simp)
          rw [List.pairwise_cons] at hs
          have h3 := hs.1 b (by simp)
          omega
      rw [if_pos (by simpa using h1), if_pos (full_mem hs hb (by simpa using h1) (by simp))]
      simp [E.val]
  | succ m ih =>
    intro is hm hs hb
    have hbs := bits_succ hW (show m < ws.length by omega)
    have hN := numN_lt (now := now) (cs := cs) hW (m + 1) hm
    unfold memF
    by_cases h0 : is.length = 0
    · rw [if_pos h0, List.length_eq_zero_iff.1 h0]; simp [E.val]
    · rw [if_neg h0]
      by_cases h1 : is.length = 2 ^ bitsN ws (m + 1)
      · rw [if_pos h1, if_pos (full_mem hs hb h1 hN)]; simp [E.val]
      · rw [if_neg h1]
        have hx := cell_x (now := now) (c := cs.getD m 0) hbs.2.2.1
        have hl := runsL_len (bitsN ws m) (ws.getD m 0).toNat is
        have hpo := part_ok (low := bitsN ws m) hs (elemS now (cs.getD m 0) % pw (ws.getD m 0)).toNat
        rw [treeF_val (leaf := memF cs ws m) (mem_bit m) (ws.getD m 0) (cs.getD m 0) _ hx.1 _ _ hl.1 hl.2 (runsL_inc _ _ _), runsL_pick hx.2, ih _ (by omega) hpo.1 hpo.2]
        have hq := part_mem (is := is) (x := (elemS now (cs.getD m 0) % pw (ws.getD m 0)).toNat) (numN_lt (now := now) (cs := cs) hW m (by omega))
        show (if numN now cs ws m ∈ part _ is _ then (1 : Int) else 0) = if numN now cs ws m + (elemS now (cs.getD m 0) % pw (ws.getD m 0)).toNat * 2 ^ bitsN ws m ∈ is then 1 else 0
        simp only [hq]
end Go.Proofs.YtlcgbdjmlnjhcaaGreatDoor
namespace Go.Proofs.YtlcgbdjmlnjhcaaGreatDoor
open Go.RowKit

theorem runsF_mem (low : Nat) (is : List Nat) : ∀ (m v : Nat) (cur : Nat × List Nat) (r : Nat × List Nat), r ∈ runsF low is m v cur → r = cur ∨ ∃ u, v ≤ u ∧ u < v + m ∧ r = (u, part low is u) := by
  intro m
  induction m with
  | zero => intro v cur r h; simp [runsF] at h; exact .inl h
  | succ m ih =>
    intro v cur r h
    unfold runsF at h
    have key : ∀ r, r ∈ runsF low is m (v + 1) (v, part low is v) → ∃ u, v ≤ u ∧ u < v + (m + 1) ∧ r = (u, part low is u) := fun r hr => by
      rcases ih (v + 1) _ r hr with e | ⟨u, h1, h2, e⟩
      · exact ⟨v, Nat.le_refl _, by omega, e⟩
      · exact ⟨u, by omega, by omega, e⟩
    split at h
    · exact .inr (key r h)
    · rcases List.mem_cons.1 h with e | h
      · exact .inl e
      · exact .inr (key r h)
theorem runsL_mem {low w : Nat} {is : List Nat} {r : Nat × List Nat} (h : r ∈ runsL low w is) : r.1 < 2 ^ w ∧ r.2 = part low is r.1 := by
  have hp := Nat.two_pow_pos w
  rcases runsF_mem low is _ _ _ r h with e | ⟨u, h1, h2, e⟩
  · subst e; exact ⟨hp, rfl⟩
  · subst e; exact ⟨by show u < _; omega, rfl⟩
/-- How many elements fall into a range of values. -/
def cnt (low : Nat) (is : List Nat) (v m : Nat) : Nat := is.countP fun x => decide (v ≤ x / 2 ^ low) && decide (x / 2 ^ low < v + m)
theorem cnt_succ (low : Nat) (is : List Nat) (v m : Nat) : cnt low is v (m + 1) = (part low is v).length + cnt low is (v + 1) m := by
  unfold cnt part grp
  rw [List.length_map]
  induction is with
  | nil => rfl
  | cons a r ih =>
    simp only [List.countP_cons, List.filter_cons]
    rw [ih]
    generalize a / 2 ^ low = y
    by_cases c : y = v
    · subst c; simp [show ¬ (y + 1 ≤ y) by omega]; omega
    · by_cases d : v ≤ y ∧ y < v + (m + 1)
      · simp [c, d, show v + 1 ≤ y by omega, show y < v + 1 + m by omega]; omega
      · have : ¬ (v + 1 ≤ y ∧ y < v + 1 + m) := by omega
        simp [c]
        by_cases d1 : v ≤ y <;> by_cases d2 : y < v + (m + 1) <;> by_cases d3 : v + 1 ≤ y <;> by_cases d4 : y < v + 1 + m <;> simp [d1, d2, d3, d4] <;> omega
theorem cnt_le (low : Nat) (is : List Nat) (v m : Nat) : cnt low is v m ≤ is.length := List.countP_le_length
theorem runsF_few (low : Nat) (is : List Nat) : ∀ (m v : Nat) (cur : Nat × List Nat), (runsF low is m v cur).length ≤ 1 + min 1 cur.2.length + 2 * cnt low is v m ∧ ((runsF low is m v cur).map fun r => r.2.length).sum ≤ cur.2.length + cnt low is v m := by
  intro m
  induction m with
  | zero => intro v cur; simp [runsF]; omega
  | succ m ih =>
    intro v cur
    have h1 := ih (v + 1) (v, part low is v)
    have h2 := cnt_succ low is v m
    dsimp only at h1
    unfold runsF
    split
    · next e => rw [← e]; omega
    · next e =>
      simp only [List.length_cons, List.map_cons, List.sum_cons]
      have : (part low is v).length ≠ 0 ∨ cur.2.length ≠ 0 := by
        by_cases c : (part low is v).length = 0
        · by_cases d : cur.2.length = 0
          · exact absurd ((List.length_eq_zero_iff.1 c).trans (List.length_eq_zero_iff.1 d).symm) e
          · exact .inr d
        · exact .inl c
      omega
theorem runsL_few (low w : Nat) (is : List Nat) : (runsL low w is).length ≤ 1 + 2 * is.length ∧ ((runsL low w is).map fun r => r.2.length).sum ≤ is.length := by
  have h1 := runsF_few low is (2 ^ w - 1) 1 (0, part low is 0)
  have h2 : cnt low is 0 (2 ^ w - 1 + 1) = (part low is 0).length + cnt low is 1 (2 ^ w - 1) := cnt_succ low is 0 (2 ^ w - 1)
  have h3 := cnt_le low is 0 (2 ^ w - 1 + 1)
  dsimp only at h1
  unfold runsL
  omega
theorem sum_append (l m : List Nat) : (l ++ m).sum = l.sum + m.sum := by induction l <;> simp_all; omega
theorem tree_sum {leaf : List Nat → E} (wd c : Int) : ∀ (f : Nat) (l : List (Nat × List Nat)), l.length ≤ f → 0 < l.length → (treeF leaf wd c f l).size + 4 ≤ (l.map fun r => (leaf r.2).size + 4).sum := by
  intro f
  induction f with
  | zero => intro l h1 h2; omega
  | succ f ih =>
    intro l h1 h2
    rw [treeF_succ]
    by_cases h : l.length = 1
    · rw [if_pos h]
      match l, h with
      | [r], _ => simp
    · rw [if_neg h]
      have e1 : (l.take ((l.length + 1) / 2)).length = (l.length + 1) / 2 := by simp; omega
      have e2 : (l.drop ((l.length + 1) / 2)).length = l.length - (l.length + 1) / 2 := by simp
      have k1 := ih (l.take ((l.length + 1) / 2)) (by omega) (by omega)
      have k2 := ih (l.drop ((l.length + 1) / 2)) (by omega) (by omega)
      have hs : (l.map fun r => (leaf r.2).size + 4).sum = ((l.take ((l.length + 1) / 2)).map fun r => (leaf r.2).size + 4).sum + ((l.drop ((l.length + 1) / 2)).map fun r => (leaf r.2).size + 4).sum := by
        rw [← sum_append, ← List.map_append, List.take_append_drop]
      rw [hs]
      simp only [E.size, sizeAll]
      omega
theorem sum_lin (k : Nat) (g : List Nat → Nat) (hg : ∀ z, g z ≤ 1 + k * z.length) : ∀ l : List (Nat × List Nat), (l.map fun r => g r.2 + 4).sum ≤ 5 * l.length + k * (l.map fun r => r.2.length).sum := by
  intro l
  induction l with
  | nil => simp
  | cons a r ih =>
    simp only [List.map_cons, List.sum_cons, List.length_cons]
    have := hg a.2
    rw [Nat.mul_add k]
    omega
theorem mem_few (cs ws : List Int) : ∀ (m : Nat) (is : List Nat), (memF cs ws m is).size ≤ 1 + 10 * (m + 1) * is.length := by
  intro m
  induction m with
  | zero =>
    intro is
    unfold memF
    split
    · simp [E.size, sizeAll]
    · split <;> (simp only [E.size, sizeAll]; omega)
  | succ m ih =>
    intro is
    unfold memF
    split
    · simp [E.size, sizeAll]
    · split
      · simp only [E.size, sizeAll]; omega
      · have hl := runsL_len (bitsN ws m) (ws.getD m 0).toNat is
        have h1 := tree_sum (leaf := memF cs ws m) (ws.getD m 0) (cs.getD m 0) (2 ^ (ws.getD m 0).toNat) _ hl.1 hl.2
        have h2 := sum_lin (10 * (m + 1)) (fun z => (memF cs ws m z).size) ih (runsL (bitsN ws m) (ws.getD m 0).toNat is)
        have h3 := runsL_few (bitsN ws m) (ws.getD m 0).toNat is
        have h4 := Nat.mul_le_mul_left (10 * (m + 1)) h3.2
        have e : 10 * (m + 1 + 1) * is.length = 10 * (m + 1) * is.length + 10 * is.length := by
          rw [show 10 * (m + 1 + 1) = 10 * (m + 1) + 10 by omega, Nat.add_mul]
        rw [e]
        omega
/-- A node of the expression of a set: a tree of the right form. -/
def GoodM (cs ws : List Int) (m D : Nat) (e : E) : Prop := e.wd = 1 ∧ (e.op = 1 ∨ e.op = 14) ∧ (∀ d, D ≤ d → e.deep d = true) ∧ ∀ x ∈ e.leaves, x.op = 1 ∨ ∃ i, i < m ∧ x = .mk 2 (ws.getD i 0) (cs.getD i 0) []
theorem good_const (cs ws : List Int) (m D : Nat) (hD : 1 ≤ D) {n : Int} (hn : n = 0 ∨ n = 1) : GoodM cs ws m D (.mk 1 1 n []) := by
  refine ⟨rfl, .inl rfl, fun d hd => ?_, fun x hx => ?_⟩
  · simp only [E.deep, deepAll, shapedW, List.map_nil, Bool.and_true, Bool.and_eq_true, decide_eq_true_eq]
    have p1 : pw 1 = 2 := by decide
    rcases hn with rfl | rfl <;> simp [p1] <;> omega
  · rw [leaves_nil] at hx; simp at hx; subst hx; exact .inl rfl
theorem good_tree {cs ws : List Int} {m D : Nat} {leaf : List Nat → E} (hD : 2 ≤ D) (hw1 : 1 ≤ ws.getD m 0) (hw8 : ws.getD m 0 ≤ 8) (hc0 : 0 ≤ cs.getD m 0) (hc32 : cs.getD m 0 < 32) : ∀ (f k : Nat) (l : List (Nat × List Nat)), l.length ≤ f → 0 < l.length → l.length ≤ 2 ^ k →
    (∀ r ∈ l, (r.1 : Int) < pw (ws.getD m 0) ∧ GoodM cs ws m D (leaf r.2)) → GoodM cs ws (m + 1) (D + k) (treeF leaf (ws.getD m 0) (cs.getD m 0) f l) := by
  intro f
  induction f with
  | zero => intro k l h1 h2; omega
  | succ f ih =>
    intro k l h1 h2 hk hg
    rw [treeF_succ]
    by_cases h : l.length = 1
    · rw [if_pos h]
      match l, h with
      | [r], _ =>
        obtain ⟨g1, g2, g3, g4⟩ := (hg r (by simp)).2
        refine ⟨g1, g2, fun d hd => g3 d (by omega), fun x hx => ?_⟩
        rcases g4 x hx with e | ⟨i, hi, e⟩
        · exact .inl e
        · exact .inr ⟨i, by omega, e⟩
    · rw [if_neg h]
      have e1 : (l.take ((l.length + 1) / 2)).length = (l.length + 1) / 2 := by simp; omega
      have e2 : (l.drop ((l.length + 1) / 2)).length = l.length - (l.length + 1) / 2 := by simp
      obtain ⟨k, rfl⟩ : ∃ j, k = j + 1 := by
        cases k with
        | zero => simp at hk; omega
        | succ j => exact ⟨j, rfl⟩
      rw [Nat.pow_succ] at hk
      have g1 := ih k (l.take ((l.length + 1) / 2)) (by omega) (by omega) (by omega) (fun r hr => hg r (List.mem_of_mem_take hr))
      have g2 := ih k (l.drop ((l.length + 1) / 2)) (by omega) (by omega) (by omega) (fun r hr => hg r (List.mem_of_mem_drop hr))
      have hlt : (l.length + 1) / 2 - 1 < l.length := by omega
      have hv := (hg _ (List.getElem_mem hlt)).1
      have hgd : l.getD ((l.length + 1) / 2 - 1) (0, []) = l[(l.length + 1) / 2 - 1] := by simp [List.getD, hlt]
      rw [hgd]
      generalize l[(l.length + 1) / 2 - 1].1 = y at *
      generalize treeF leaf (ws.getD m 0) (cs.getD m 0) f (l.take ((l.length + 1) / 2)) = a at *
      generalize treeF leaf (ws.getD m 0) (cs.getD m 0) f (l.drop ((l.length + 1) / 2)) = b at *
      obtain ⟨a1, a2, a3, a4⟩ := g1
      obtain ⟨b1, b2, b3, b4⟩ := g2
      refine ⟨rfl, .inr rfl, fun d hd => ?_, fun x hx => ?_⟩
      · have h3 := a3 (d - 1) (by omega)
        have h4 := b3 (d - 1) (by omega)
        generalize ws.getD m 0 = wd at *
        generalize cs.getD m 0 = c at *
        have s1 : shapedW 14 1 0 [1, a.wd, b.wd] = true := by rw [a1, b1]; decide
        have s2 : shapedW 13 1 0 [wd, wd] = true := by simp [shapedW]
        have s3 : shapedW 2 wd c [] = true := by simp [shapedW]; omega
        have s4 : shapedW 1 wd (y : Int) [] = true := by simp [shapedW]; omega
        simp only [E.deep, deepAll, List.map_cons, List.map_nil, E.wd_mk, h3, h4, s1, s2, s3, s4, Bool.and_true, Bool.and_eq_true, decide_eq_true_eq]
        omega
      · rw [leaves_cons (by simp)] at hx
        simp only [leavesAll, List.append_nil, List.mem_append] at hx
        rcases hx with hx | hx | hx
        · rw [leaves_cons (by simp)] at hx
          simp only [leavesAll, List.append_nil, List.mem_append, leaves_nil, List.mem_singleton] at hx
          rcases hx with rfl | rfl
          · exact .inr ⟨m, Nat.lt_succ_self _, rfl⟩
          · exact .inl rfl
        · exact a4 x hx
        · exact b4 x hx
theorem mem_good {cs ws : List Int} (hW : ∀ x ∈ ws, 1 ≤ x ∧ x ≤ 8) (hC : ∀ i, i < ws.length → 0 ≤ cs.getD i 0 ∧ cs.getD i 0 < 32) : ∀ (m : Nat) (is : List Nat), m ≤ ws.length → is.Pairwise (· < ·) → (∀ x ∈ is, x < 2 ^ bitsN ws m) → GoodM cs ws m (2 + bitsN ws m) (memF cs ws m is) := by
  intro m
  induction m with
  | zero =>
    intro is hm hs hb
    have hbz : bitsN ws 0 = 0 := by unfold bitsN; rw [List.take_zero]; rfl
    unfold memF
    rw [hbz] at hb ⊢
    split
    · exact good_const _ _ _ _ (by omega) (.inl rfl)
    · next h0 =>
      have h1 : is.length = 1 := by
        rcases is with _ | ⟨a, _ | ⟨b, r⟩⟩
        · simp at h0
        · rfl
        · have h1 := hb a (by simp)
          have h2 := hb b (by simp)
          rw [List.pairwise_cons] at hs
          have h3 := hs.1 b (by simp)
          omega
      rw [if_pos (by simpa using h1)]
      exact good_const _ _ _ _ (by omega) (.inr rfl)
  | succ m ih =>
    intro is hm hs hb
    have hbs := bits_succ hW (show m < ws.length by omega)
    unfold memF
    split
    · exact good_const _ _ _ _ (by omega) (.inl rfl)
    · split
      · exact good_const _ _ _ _ (by omega) (.inr rfl)
      · have hl := runsL_len (bitsN ws m) (ws.getD m 0).toNat is
        rw [hbs.1, ← Nat.add_assoc]
        refine good_tree (by omega) hbs.2.2.1 hbs.2.2.2 (hC m (by omega)).1 (hC m (by omega)).2 _ _ _ hl.1 hl.2 hl.1 fun r hr => ?_
        obtain ⟨r1, r2⟩ := runsL_mem hr
        refine ⟨?_, ?_⟩
        · unfold pw
          have e : (2 : Int) ^ (ws.getD m 0).toNat = ((2 ^ (ws.getD m 0).toNat : Nat) : Int) := by push_cast; rfl
          rw [e]; exact_mod_cast r1
        · rw [r2]
          have hpo := part_ok (low := bitsN ws m) hs r.1
          exact ih _ (by omega) hpo.1 hpo.2
end Go.Proofs.YtlcgbdjmlnjhcaaGreatDoor
namespace Go.Proofs.YtlcgbdjmlnjhcaaGreatDoor
open Go.RowKit

/-- The cells of a shape. -/
def cellsF (cs ws : List Int) : List CellD := (List.range 32).map fun (i : Nat) => ⟨⟨#[]⟩, if (i : Int) ∈ cs then wdOf cs ws i else 1, 0, -1, false, 0⟩
theorem cellsF_len (cs ws : List Int) : (cellsF cs ws).length = 32 := by simp [cellsF]
theorem cellsF_W (cs ws : List Int) {i : Nat} (hi : i < 32) (hm : (i : Int) ∈ cs) : ((cellsF cs ws).map CellD.W).getD i 0 = wdOf cs ws i := by
  simp [cellsF, hi, hm]
theorem wAt_cellsF {cs ws : List Int} {c : Int} (h0 : 0 ≤ c) (h32 : c < 32) (hm : c ∈ cs) : wAt (cellsF cs ws) c = wdOf cs ws c := by
  obtain ⟨i, rfl⟩ := Int.eq_ofNat_of_zero_le h0
  have hi : i < 32 := by omega
  have := cellsF_W cs ws hi hm
  unfold wAt
  simpa [hi] using this
theorem numN_eq {cs ws : List Int} (now : List Int) (hl : cs.length = ws.length) (hw : ∀ x ∈ ws, 1 ≤ x ∧ x ≤ 8) (hb : ∀ i, i < cs.length → 0 ≤ cs.getD i 0) : ∀ m, m ≤ cs.length → ((numN now cs ws m : Nat) : Int) = (numTo cs ws now m).1 := by
  intro m
  induction m with
  | zero => intro _; rfl
  | succ m ih =>
    intro hm
    have hc : cs.getD m 0 = cs[m]'(by omega) := by simp [List.getD, show m < cs.length by omega]
    have hwk : ws.getD m 0 = ws[m]'(by omega) := by simp [List.getD, show m < ws.length by omega]
    have hlow := num_low now hl m (by omega)
    have hs0 := (sum_bound hw m (by omega)).1
    have hx := (cell_x (now := now) (c := cs.getD m 0) (wd := ws.getD m 0) (by rw [hwk]; exact (hw _ (List.getElem_mem _)).1)).1
    rw [numTo_succ now hl (by omega)]
    unfold numStep numN
    dsimp only
    have hbm := hb m (by omega)
    rw [hc] at hbm
    rw [elem_if now hbm, ← ih (by omega), hlow, ← hc, ← hwk]
    push_cast
    rw [← hx]
    congr 2
/-- StatesExpressions. -/
theorem exp_law {cs ws : List Int} {S : List Nat} (h : ValidS cs ws S) (h9 : sumI ws ≤ 9) :
    ((exprS cs ws (castL S)).op = 0 ∧ 2 < S.length) ∨
    ((exprS cs ws (castL S)).op ≠ 0 ∧ (exprS cs ws (castL S)).valid (cellsF cs ws) false = true ∧ ofErr (cellsF cs ws) cs (exprS cs ws (castL S)) = 0 ∧ wOf (cellsF cs ws) cs = ws ∧ ofIn (cellsF cs ws) cs (exprS cs ws (castL S)) = S) := by
  obtain ⟨h1, hwd, hs0, hs12⟩ := small_sum h.small
  obtain ⟨hl, hinc, hin⟩ := shape_iff.1 h1
  have hbn : bitsN ws ws.length = (sumI ws).toNat := by unfold bitsN; rw [List.take_length]
  have hC : ∀ i, i < ws.length → 0 ≤ cs.getD i 0 ∧ cs.getD i 0 < 32 := fun i hi => ⟨(hin i (by omega)).1, (hin i (by omega)).2.1⟩
  have hlt : ∀ x ∈ S, x < 2 ^ bitsN ws ws.length := fun x hx => by
    have := h.lt x hx
    rw [hbn]
    unfold pw at this
    exact_mod_cast this
  have hg := mem_good hwd.2 hC ws.length S (Nat.le_refl _) h.sorted hlt
  have hv := fun now old : List Int => mem_val (cs := cs) (old := old) (now := now) hwd.2 ws.length S (Nat.le_refl _) h.sorted hlt
  have hfew := mem_few cs ws ws.length S
  have hws : (ws.length : Int) ≤ sumI ws := by
    have key : ∀ k, k ≤ ws.length → (k : Int) ≤ sumI (ws.take k) := by
      intro k
      induction k with
      | zero => intro _; exact Int.le_refl _
      | succ k ih =>
        intro hk
        have h2 := hwd.2 (ws[k]'(by omega)) (List.getElem_mem _)
        have := ih (by omega)
        rw [sum_take (show k < ws.length by omega)]; omega
    have := key ws.length (Nat.le_refl _)
    rwa [List.take_length] at this
  have hes : exprS cs ws (castL S) = if 600 < (memF cs ws ws.length S).size then .mk 0 0 0 [] else memF cs ws ws.length S := by
    unfold exprS; rw [if_pos (valid_of h), natL_cast]
  rw [hes]
  by_cases hbig : 600 < (memF cs ws ws.length S).size
  · rw [if_pos hbig]
    refine .inl ⟨rfl, ?_⟩
    rcases Nat.lt_or_ge 2 S.length with c | c
    · exact c
    · have h5 : 10 * (ws.length + 1) * S.length ≤ 10 * (ws.length + 1) * 2 := Nat.mul_le_mul_left _ c
      omega
  · rw [if_neg hbig]
    generalize memF cs ws ws.length S = e at *
    obtain ⟨g1, g2, g3, g4⟩ := hg
    have hwf : e.wf = true := by
      unfold E.wf
      rw [g3 40 (by omega), decide_eq_true (show e.size ≤ 600 by omega)]; rfl
    have hwo : wOf (cellsF cs ws) cs = ws := by
      apply List.ext_getElem (by simp [wOf, hl])
      intro i h2 h3
      have hi : i < cs.length := by omega
      have hb := hin i hi
      have e1 := wd_at (ws := ws) hinc hi
      rw [show cs.getD i 0 = cs[i] by simp [List.getD, hi]] at e1 hb
      rw [show (wOf (cellsF cs ws) cs)[i] = wAt (cellsF cs ws) cs[i] by simp [wOf], wAt_cellsF hb.1 hb.2.1 (List.getElem_mem hi), e1]
      simp [List.getD, h3]
    have hval : e.valid (cellsF cs ws) false = true := by
      unfold E.valid
      rw [hwf, Bool.true_and, List.all_eq_true]
      intro x hx
      unfold okLeaf
      rcases g4 x hx with e1 | ⟨i, hi, rfl⟩
      · simp [e1]
      · have hb := hin i (by omega)
        have hm : cs.getD i 0 ∈ cs := by rw [List.getD_eq_getElem?_getD, List.getElem?_eq_getElem (by omega)]; exact List.getElem_mem _
        have e1 := wd_at (ws := ws) hinc (show i < cs.length by omega)
        obtain ⟨j, hj⟩ := Int.eq_ofNat_of_zero_le hb.1
        rw [hj] at hm e1 hb
        have e2 := cellsF_W cs ws (i := j) (by omega) hm
        simp only [E.op_mk, E.n_mk, E.wd_mk, hj, Int.toNat_natCast, e2, e1, cellsF_len]
        simp; omega
    have hsup : supB cs e = true := by
      unfold supB
      rw [List.all_eq_true]
      intro c hc
      unfold E.supNow at hc
      rw [if_pos hwf] at hc
      unfold upTo at hc
      obtain ⟨j, hj, rfl⟩ := List.mem_map.1 hc
      have := (List.mem_filter.1 hj).2
      unfold occurs at this
      rw [List.any_eq_true] at this
      obtain ⟨x, hx, hxx⟩ := this
      rw [Bool.and_eq_true, decide_eq_true_eq, decide_eq_true_eq] at hxx
      rcases g4 x hx with e1 | ⟨i, hi, rfl⟩
      · omega
      · rw [List.contains_iff_mem]
        have e2 : cs.getD i 0 = (j : Int) := hxx.2
        show (j : Int) ∈ cs
        rw [← e2, List.getD_eq_getElem?_getD, List.getElem?_eq_getElem (by omega)]; exact List.getElem_mem _
    have hwid : widthsB (cellsF cs ws) cs = true := by
      unfold widthsB inB
      rw [hinc, hwo, h1, Bool.and_true, Bool.true_and, List.all_eq_true]
      intro c hc
      obtain ⟨i, hi, rfl⟩ := mem_idx hc
      have hb := hin i hi
      rw [cellsF_len]
      simp only [Bool.and_eq_true, decide_eq_true_eq]
      omega
    refine .inr ⟨by rcases g2 with e1 | e1 <;> omega, hval, ?_, hwo, ?_⟩
    · unfold ofErr
      rw [if_pos hwid, hwo, if_pos hs12, if_pos (by rw [hval, g1]; rfl), if_pos hsup]
    · refine sorted_ext (List.Pairwise.filter _ List.pairwise_lt_range) h.sorted fun n => ?_
      unfold ofIn
      rw [hwo, List.mem_filter, List.mem_range, decide_eq_true_eq]
      have hk : ∀ n : Nat, (n : Int) < pw (sumI ws) → (e.eval (stN cs ws n) (stN cs ws n) = 1 ↔ n ∈ S) := fun n hn => by
        have e1 := hv (stN cs ws n) (stN cs ws n)
        have e2 : numN (stN cs ws n) cs ws ws.length = n := by
          have a1 := numN_eq (stN cs ws n) hl hwd.2 (fun i hi => (hin i hi).1) ws.length (by omega)
          have a2 := num_stN h.small hn
          unfold numS at a2
          rw [if_pos h.small, hl] at a2
          rw [a2] at a1
          exact_mod_cast a1
        rw [e2] at e1
        unfold E.eval
        rw [if_pos hwf, e1]
        by_cases c : n ∈ S <;> simp [c]
      constructor
      · rintro ⟨h2, h3⟩
        exact (hk n (by omega)).1 h3
      · intro h2
        have h3 := h.lt n h2
        exact ⟨by omega, (hk n h3).2 h2⟩
end Go.Proofs.YtlcgbdjmlnjhcaaGreatDoor
namespace Go.Proofs.YtlcgbdjmlnjhcaaGreatDoor
open Go.RowKit

theorem deep_up : ∀ (d d' : Nat) (e : E), d ≤ d' → e.deep d = true → e.deep d' = true := by
  intro d
  induction d with
  | zero => intro d' e _ h; cases e; simp [E.deep] at h
  | succ d ih =>
    intro d' e hd h
    obtain ⟨op, wd, n, ks⟩ := e
    simp only [E.deep, Bool.and_eq_true, decide_eq_true_eq, deepAll_iff] at h ⊢
    exact ⟨⟨by omega, h.1.2⟩, fun k hk => ih (d' - 1) k (by omega) (by simpa using h.2 k hk)⟩
/-- No deeper than it has nodes. -/
theorem deep_in_size : ∀ (d : Nat) (e : E), e.deep d = true → e.deep e.size = true := by
  intro d
  induction d with
  | zero => intro e h; cases e; simp [E.deep] at h
  | succ d ih =>
    intro e h
    obtain ⟨op, wd, n, ks⟩ := e
    simp only [E.deep, Bool.and_eq_true, decide_eq_true_eq, deepAll_iff] at h ⊢
    refine ⟨⟨E.size_pos _, h.1.2⟩, fun k hk => ?_⟩
    have := size_kid (op := op) (wd := wd) (n := n) hk
    exact deep_up _ _ k (by omega) (ih k (by simpa using h.2 k hk))

/-- Shaped, of depth at most d, of at most s nodes, of width wd. -/
def Good (wd : Int) (d s : Nat) (e : E) : Prop := e.deep d = true ∧ e.size ≤ s ∧ e.wd = wd
theorem good_of_wf {e : E} {s : Nat} (h : e.wf = true) (hs : e.size ≤ s) : Good e.wd s s e := by
  simp only [E.wf, Bool.and_eq_true, decide_eq_true_eq] at h
  exact ⟨deep_up _ _ _ hs (deep_in_size _ _ h.2), hs, rfl⟩
theorem Good.mono {wd : Int} {d d' s s' : Nat} {e : E} (h : Good wd d s e) (hd : d ≤ d') (hs : s ≤ s') : Good wd d' s' e := ⟨deep_up _ _ _ hd h.1, Nat.le_trans h.2.1 hs, h.2.2⟩
theorem Good.width {wd : Int} {d s : Nat} {a : E} (ha : Good wd d s a) : 1 ≤ wd ∧ wd ≤ 8 := by
  obtain ⟨op', wd', n', ks'⟩ := a
  have := ha.1; have e := ha.2.2
  simp only [E.deep, Bool.and_eq_true, shapedW, decide_eq_true_eq] at this
  simp only [E.wd_mk] at e; subst e
  exact ⟨this.1.2.1.1, this.1.2.1.2⟩
theorem Good.two {wd : Int} {d s t : Nat} {a b : E} {op : Int} (ho : op = 5 ∨ op = 6 ∨ op = 7 ∨ op = 8 ∨ op = 9 ∨ op = 10) (ha : Good wd d s a) (hb : Good wd d t b) : Good wd (d + 1) (s + t + 1) (.mk op wd 0 [a, b]) := by
  have hw := ha.width
  refine ⟨?_, ?_, rfl⟩
  · simp only [E.deep, Bool.and_eq_true, decide_eq_true_eq, deepAll_iff]
    refine ⟨⟨by omega, ?_⟩, ?_⟩
    · simp only [List.map_cons, List.map_nil, ha.2.2, hb.2.2]
      rcases ho with rfl | rfl | rfl | rfl | rfl | rfl <;> simp [shapedW, hw]
    · intro k hk
      simp at hk
      rcases hk with rfl | rfl
      · exact deep_up _ _ _ (by omega) ha.1
      · exact deep_up _ _ _ (by omega) hb.1
  · simp only [E.size, sizeAll]; have := ha.2.1; have := hb.2.1; omega
theorem Good.cmp {wd : Int} {d s t : Nat} {a b : E} {op : Int} (ho : op = 11 ∨ op = 12 ∨ op = 13) (ha : Good wd d s a) (hb : Good wd d t b) : Good 1 (d + 1) (s + t + 1) (.mk op 1 0 [a, b]) := by
  refine ⟨?_, ?_, rfl⟩
  · simp only [E.deep, Bool.and_eq_true, decide_eq_true_eq, deepAll_iff]
    refine ⟨⟨by omega, ?_⟩, ?_⟩
    · simp only [List.map_cons, List.map_nil, ha.2.2, hb.2.2]
      rcases ho with rfl | rfl | rfl <;> simp [shapedW]
    · intro k hk
      simp at hk
      rcases hk with rfl | rfl
      · exact deep_up _ _ _ (by omega) ha.1
      · exact deep_up _ _ _ (by omega) hb.1
  · simp only [E.size, sizeAll]; have := ha.2.1; have := hb.2.1; omega
theorem Good.ite {wd : Int} {d s t u : Nat} {x a b : E} (hx : Good 1 d u x) (ha : Good wd d s a) (hb : Good wd d t b) : Good wd (d + 1) (u + s + t + 1) (.mk 14 wd 0 [x, a, b]) := by
  have hw := ha.width
  refine ⟨?_, ?_, rfl⟩
  · simp only [E.deep, Bool.and_eq_true, decide_eq_true_eq, deepAll_iff]
    refine ⟨⟨by omega, ?_⟩, ?_⟩
    · simp only [List.map_cons, List.map_nil, ha.2.2, hb.2.2, hx.2.2]
      simp [shapedW, hw]
    · intro k hk
      simp at hk
      rcases hk with rfl | rfl | rfl
      · exact deep_up _ _ _ (by omega) hx.1
      · exact deep_up _ _ _ (by omega) ha.1
      · exact deep_up _ _ _ (by omega) hb.1
  · simp only [E.size, sizeAll]; have := ha.2.1; have := hb.2.1; have := hx.2.1; omega
theorem Good.not {wd : Int} {d s : Nat} {a : E} (ha : Good wd d s a) : Good wd (d + 1) (s + 1) (.mk 4 wd 0 [a]) := by
  have hw := ha.width
  refine ⟨?_, ?_, rfl⟩
  · simp only [E.deep, Bool.and_eq_true, decide_eq_true_eq, deepAll_iff]
    refine ⟨⟨by omega, ?_⟩, ?_⟩
    · simp [ha.2.2, shapedW, hw]
    · intro k hk; simp at hk; subst hk; exact deep_up _ _ _ (by omega) ha.1
  · simp only [E.size, sizeAll]; have := ha.2.1; omega
theorem Good.eval {wd : Int} {d s : Nat} {e : E} (h : Good wd d s e) (hd : d ≤ 40) (hs : s ≤ 600) (old now : List Int) : e.eval old now = e.val old now := by
  have : e.wf = true := by
    simp only [E.wf, Bool.and_eq_true, decide_eq_true_eq]
    have := h.2.1
    exact ⟨by omega, deep_up _ _ _ hd h.1⟩
  rw [E.eval, if_pos this]
theorem Good.range {wd : Int} {d s : Nat} {e : E} (h : Good wd d s e) (old now : List Int) : 0 ≤ e.val old now ∧ e.val old now < pw wd := by
  have := val_range old now e d h.1; rwa [h.2.2] at this
theorem val_two (old now : List Int) (op wd : Int) (a b : E) (h : 4 ≤ op) : (E.mk op wd 0 [a, b]).val old now = applyS op (a.val old now) (b.val old now) 0 % pw wd := by
  rw [E.val, if_neg (by omega), if_neg (by omega), if_neg (by omega)]; simp [valAll]
theorem val_not (old now : List Int) (wd : Int) (a : E) : (E.mk 4 wd 0 [a]).val old now = (-1 - a.val old now) % pw wd := by
  rw [E.val, if_neg (by omega), if_neg (by omega), if_neg (by omega)]; simp [valAll, applyS]

/-- The numbers. -/
theorem m_add_assoc (x y z P : Int) : ((x + y) % P + z) % P = (x + (y + z) % P) % P := by
  rw [Int.emod_add_emod, Int.add_emod_emod, Int.add_assoc]
theorem m_sub (x y P : Int) (h0 : 0 ≤ x) (h1 : x < P) : ((x + y) % P - y) % P = x := by
  rw [Int.emod_sub_emod, Int.add_sub_cancel, Int.emod_eq_of_lt h0 h1]
theorem m_dist (x y z P : Int) : (x * ((y + z) % P)) % P = ((x * y) % P + (x * z) % P) % P := by
  rw [Int.mul_emod, Int.emod_emod, ← Int.mul_emod, Int.mul_add, ← Int.add_emod]
theorem m_neg (x P : Int) (h0 : 0 ≤ x) (h1 : x < P) : (-1 - x) % P = P - 1 - x := by
  rw [← Int.add_emod_right, Int.emod_eq_of_lt (by omega) (by omega)]; omega
theorem m_compl (x P : Int) (h0 : 0 ≤ x) (h1 : x < P) : (x + (-1 - x) % P) % P = P - 1 := by
  rw [m_neg x P h0 h1, Int.emod_eq_of_lt (by omega) (by omega)]; omega
theorem val_ite (old now : List Int) (wd : Int) (x a b : E) : (E.mk 14 wd 0 [x, a, b]).val old now = (if x.val old now = 1 then a.val old now else b.val old now) % pw wd := by
  rw [E.val, if_neg (by omega), if_neg (by omega), if_neg (by omega)]; simp [valAll, applyS]
end Go.Proofs.YtlcgbdjmlnjhcaaGreatDoor
namespace Go.Proofs.YtlcgbdjmlnjhcaaGreatDoor
open Go.RowKit

theorem before_wd (x : E) : (beforeLeaf x).wd = x.wd := by unfold beforeLeaf; split <;> cases x <;> rfl
theorem before_n (x : E) : (beforeLeaf x).n = x.n := by unfold beforeLeaf; split <;> cases x <;> rfl
theorem before_op (x : E) : (beforeLeaf x).op = if x.op = 2 then 3 else x.op := by unfold beforeLeaf; split <;> cases x <;> rfl
theorem reb_wd : (e : E) → (e.rebuild beforeLeaf).wd = e.wd
  | .mk op wd n ks => by
    by_cases h : ks = []
    · subst h; rw [rebuild_nil, before_wd]
    · rw [rebuild_cons _ h]; rfl
theorem deepParts {op wd n : Int} {ks : List E} {d : Nat} (h : (E.mk op wd n ks).deep d = true) : 1 ≤ d ∧ shapedW op wd n (ks.map E.wd) = true ∧ ∀ k ∈ ks, k.deep (d - 1) = true := by
  simp only [E.deep, Bool.and_eq_true, decide_eq_true_eq, deepAll_iff] at h
  exact ⟨h.1.1, h.1.2, h.2⟩
theorem deepMk {op wd n : Int} {ks : List E} {d : Nat} (h1 : 1 ≤ d) (h2 : shapedW op wd n (ks.map E.wd) = true) (h3 : ∀ k ∈ ks, k.deep (d - 1) = true) : (E.mk op wd n ks).deep d = true := by
  simp only [E.deep, Bool.and_eq_true, decide_eq_true_eq, deepAll_iff]
  exact ⟨⟨h1, h2⟩, h3⟩
/-- A shaped node has no kids if and only if its operator is 1, 2 or 3. -/
theorem shaped_kids {op wd n : Int} {ws : List Int} (h : shapedW op wd n ws = true) : ws = [] ↔ (op = 1 ∨ op = 2 ∨ op = 3) := by
  constructor
  · intro e
    subst e
    exact (shapedW_leaf h).1
  · rintro (rfl | rfl | rfl)
    · exact (shapedW_const h).1
    · exact (shapedW_cell h (.inl rfl)).1
    · exact (shapedW_cell h (.inr rfl)).1
theorem shapedW_23 {wd n : Int} {ws : List Int} : shapedW 2 wd n ws = shapedW 3 wd n ws := by simp [shapedW]

mutual
theorem before_all (old now : List Int) : (e : E) → (d : Nat) → e.deep d = true → (e.rebuild beforeLeaf).deep d = true ∧ (e.rebuild beforeLeaf).size = e.size ∧ (e.rebuild beforeLeaf).leaves = e.leaves.map beforeLeaf ∧ (e.rebuild beforeLeaf).val old now = e.val old old
  | .mk op wd n ks, d, h => by
    obtain ⟨h1, h2, h3⟩ := deepParts h
    by_cases hk : ks = []
    · subst hk
      have ho := (shaped_kids h2).1 rfl
      rw [rebuild_nil, leaves_nil]
      rcases ho with rfl | rfl | rfl
      · have e : beforeLeaf (.mk 1 wd n []) = .mk 1 wd n [] := rfl
        rw [e]; exact ⟨h, rfl, by rw [leaves_nil]; simp [e], by simp [E.val]⟩
      · have e : beforeLeaf (.mk 2 wd n []) = .mk 3 wd n [] := rfl
        rw [e]
        refine ⟨deepMk h1 (by rw [← shapedW_23]; exact h2) h3, rfl, by rw [leaves_nil]; simp [e], by simp [E.val]⟩
      · have e : beforeLeaf (.mk 3 wd n []) = .mk 3 wd n [] := rfl
        rw [e]; exact ⟨h, rfl, by rw [leaves_nil]; simp [e], by simp [E.val]⟩
    · have ho : ¬ (op = 1 ∨ op = 2 ∨ op = 3) := fun ho => hk (by have := (shaped_kids h2).2 ho; simpa using this)
      obtain ⟨k1, k2, k3, k4⟩ := before_list old now ks (d - 1) h3
      have hk' : ks.map (E.rebuild beforeLeaf) ≠ [] := by simpa using hk
      rw [rebuild_cons _ hk]
      refine ⟨deepMk h1 ?_ ?_, ?_, ?_, ?_⟩
      · rw [List.map_map, show (E.wd ∘ E.rebuild beforeLeaf) = E.wd from funext reb_wd]; exact h2
      · intro k hk
        obtain ⟨x, hx, rfl⟩ := List.mem_map.1 hk
        exact k1 x hx
      · simp only [E.size, k2]
      · rw [leaves_cons hk', leaves_cons hk, k3]
      · rw [E.val, E.val, if_neg (by omega), if_neg (by omega), if_neg (by omega), if_neg (by omega), if_neg (by omega), if_neg (by omega), k4]
theorem before_list (old now : List Int) : (ks : List E) → (d : Nat) → (∀ k ∈ ks, k.deep d = true) → (∀ k ∈ ks, (k.rebuild beforeLeaf).deep d = true) ∧ sizeAll (ks.map (E.rebuild beforeLeaf)) = sizeAll ks ∧ leavesAll (ks.map (E.rebuild beforeLeaf)) = (leavesAll ks).map beforeLeaf ∧ valAll old now (ks.map (E.rebuild beforeLeaf)) = valAll old old ks
  | [], d, h => by simp [sizeAll, leavesAll, valAll]
  | e :: r, d, h => by
    obtain ⟨a1, a2, a3, a4⟩ := before_all old now e d (h e (by simp))
    obtain ⟨b1, b2, b3, b4⟩ := before_list old now r d (fun k hk => h k (by simp [hk]))
    refine ⟨fun k hk => ?_, ?_, ?_, ?_⟩
    · rcases List.mem_cons.1 hk with rfl | hk
      · exact a1
      · exact b1 k hk
    · simp only [List.map_cons, sizeAll, a2, b2]
    · simp only [List.map_cons, leavesAll, a3, b3, List.map_append]
    · simp only [List.map_cons, valAll, a4, b4]
end

theorem mem_upTo {f : Nat → Bool} {k : Nat} {a : Int} : a ∈ upTo f k ↔ ∃ j : Nat, j < k ∧ a = (j : Int) ∧ f j = true := by
  simp only [upTo, List.mem_map, List.mem_filter, List.mem_range]
  constructor
  · rintro ⟨j, ⟨h1, h2⟩, rfl⟩; exact ⟨j, h1, rfl, h2⟩
  · rintro ⟨j, h1, rfl, h2⟩; exact ⟨j, ⟨h1, h2⟩, rfl⟩
section
variable {e : E} (h : e.wf = true)
include h
theorem before_eq : e.before = e.rebuild beforeLeaf := by rw [E.before, if_pos h]
theorem before_wf : e.before.wf = true := by
  rw [before_eq h]
  obtain ⟨h1, h2, _, _⟩ := before_all [] [] e 40 (wf_deep h)
  simp only [E.wf, Bool.and_eq_true, decide_eq_true_eq] at h ⊢
  exact ⟨by rw [h2]; exact h.1, h1⟩
theorem before_leaves : e.before.leaves = e.leaves.map beforeLeaf := by
  rw [before_eq h]; exact (before_all [] [] e 40 (wf_deep h)).2.2.1
theorem before_eval (old now : List Int) : e.before.eval old now = e.eval old old := by
  rw [E.eval, E.eval, if_pos h, if_pos (before_wf h), before_eq h]; exact (before_all old now e 40 (wf_deep h)).2.2.2
theorem before_supNow : e.before.supNow = [] := by
  rw [E.supNow, if_pos (before_wf h)]
  have : occurs 2 e.before.leaves = fun _ => false := by
    funext j
    unfold occurs
    rw [before_leaves h, List.any_eq_false]
    intro x hx
    obtain ⟨y, hy, rfl⟩ := List.mem_map.1 hx
    rw [before_op]
    split <;> simp_all
  rw [this]; simp [upTo]
theorem before_supOld (a : Int) (ha : a ∈ e.before.supOld) : a ∈ e.supOld ∨ a ∈ e.supNow := by
  rw [E.supOld, if_pos (before_wf h), before_leaves h] at ha
  rw [E.supOld, E.supNow, if_pos h, if_pos h]
  obtain ⟨j, hj, rfl, hf⟩ := mem_upTo.1 ha
  unfold occurs at hf
  rw [List.any_eq_true] at hf
  obtain ⟨x, hx, hx2⟩ := hf
  obtain ⟨y, hy, rfl⟩ := List.mem_map.1 hx
  rw [before_op, before_n] at hx2
  by_cases c : y.op = 2
  · exact .inr (mem_upTo.2 ⟨j, hj, rfl, List.any_eq_true.2 ⟨y, hy, by simp_all⟩⟩)
  · exact .inl (mem_upTo.2 ⟨j, hj, rfl, List.any_eq_true.2 ⟨y, hy, by simp_all⟩⟩)
theorem valid_supOld (cells : List CellD) (hv : e.valid cells false = true) : e.supOld = [] := by
  rw [E.supOld, if_pos h]
  simp only [E.valid, Bool.and_eq_true, List.all_eq_true] at hv
  have : occurs 3 e.leaves = fun _ => false := by
    funext j
    unfold occurs
    rw [List.any_eq_false]
    intro x hx
    have := hv.2 x hx
    simp only [okLeaf, Bool.or_eq_true, Bool.and_eq_true, decide_eq_true_eq, Bool.or_false, Bool.not_eq_true', decide_eq_false_iff_not] at this
    rcases this with h1 | h1
    · simp [h1]
    · simp [h1.2]
  rw [this]; simp [upTo]
theorem before_valid (cells : List CellD) : e.before.valid cells true = e.valid cells true := by
  rw [E.valid, E.valid, h, before_wf h, before_leaves h, Bool.true_and, Bool.true_and, List.all_map]
  have key : ∀ x ∈ e.leaves, okLeaf cells true (beforeLeaf x) = okLeaf cells true x := by
    intro x hx
    have ho := (shapedW_leaf ((leaves_shaped e 40 (wf_deep h) x hx).2)).1
    simp only [okLeaf, before_op, before_n, before_wd]
    rcases ho with ho | ho | ho <;> simp [ho]
  rw [Bool.eq_iff_iff, List.all_eq_true, List.all_eq_true]
  exact ⟨fun H x hx => by rw [← key x hx]; exact H x hx, fun H x hx => by show okLeaf cells true (beforeLeaf x) = true; rw [key x hx]; exact H x hx⟩
end
end Go.Proofs.YtlcgbdjmlnjhcaaGreatDoor
namespace Go.Proofs.YtlcgbdjmlnjhcaaGreatDoor
open Go.RowKit

/-! ### The expression of a set -/
theorem hexp_law {cs ws : List Int} {S : List Nat} (h : ValidS cs ws S) :
    (exprS cs ws (castL S)).op = 0 ∨ ((exprS cs ws (castL S)).wf = true ∧ (exprS cs ws (castL S)).wd = 1 ∧ ((exprS cs ws (castL S)).op = 1 ∨ (exprS cs ws (castL S)).op = 14) ∧
      (∀ x ∈ (exprS cs ws (castL S)).leaves, x.op = 1 ∨ ∃ i, i < ws.length ∧ x = .mk 2 (ws.getD i 0) (cs.getD i 0) []) ∧ ∀ old now, (exprS cs ws (castL S)).eval old now = if (numS cs ws now).toNat ∈ S then 1 else 0) := by
  obtain ⟨h1, hwd, hs0, hs12⟩ := small_sum h.small
  obtain ⟨hl, hinc, hin⟩ := shape_iff.1 h1
  have hbn : bitsN ws ws.length = (sumI ws).toNat := by unfold bitsN; rw [List.take_length]
  have hC : ∀ i, i < ws.length → 0 ≤ cs.getD i 0 ∧ cs.getD i 0 < 32 := fun i hi => ⟨(hin i (by omega)).1, (hin i (by omega)).2.1⟩
  have hlt : ∀ x ∈ S, x < 2 ^ bitsN ws ws.length := fun x hx => by
    have := h.lt x hx
    rw [hbn]
    unfold pw at this
    exact_mod_cast this
  have hg := mem_good hwd.2 hC ws.length S (Nat.le_refl _) h.sorted hlt
  have hv := fun now old : List Int => mem_val (cs := cs) (old := old) (now := now) hwd.2 ws.length S (Nat.le_refl _) h.sorted hlt
  have hes : exprS cs ws (castL S) = if 600 < (memF cs ws ws.length S).size then .mk 0 0 0 [] else memF cs ws ws.length S := by
    unfold exprS; rw [if_pos (valid_of h), natL_cast]
  rw [hes]
  by_cases hbig : 600 < (memF cs ws ws.length S).size
  · rw [if_pos hbig]; exact .inl rfl
  · rw [if_neg hbig]
    generalize memF cs ws ws.length S = e at *
    obtain ⟨g1, g2, g3, g4⟩ := hg
    have hwf : e.wf = true := by
      unfold E.wf
      rw [g3 40 (by omega), decide_eq_true (show e.size ≤ 600 by omega)]; rfl
    refine .inr ⟨hwf, g1, g2, g4, fun old now => ?_⟩
    have a1 := numN_eq now hl hwd.2 (fun i hi => (hin i hi).1) ws.length (by omega)
    have a2 : numN now cs ws ws.length = (numS cs ws now).toNat := by unfold numS; rw [if_pos h.small, hl]; omega
    unfold E.eval
    rw [if_pos hwf, hv now old, a2]
/-- All numbers: the constant 1. -/
theorem hexp_all {cs ws : List Int} {S : List Nat} (h : ValidS cs ws S) (ha : ∀ n : Nat, (n : Int) < pw (sumI ws) → n ∈ S) : exprS cs ws (castL S) = .mk 1 1 1 [] := by
  obtain ⟨h1, hwd, hs0, hs12⟩ := small_sum h.small
  have hbn : bitsN ws ws.length = (sumI ws).toNat := by unfold bitsN; rw [List.take_length]
  have hp : pw (sumI ws) = ((2 ^ bitsN ws ws.length : Nat) : Int) := by rw [hbn]; unfold pw; push_cast; rfl
  have hS : S = List.range (2 ^ bitsN ws ws.length) := sorted_ext h.sorted List.pairwise_lt_range fun n => by
    rw [List.mem_range]
    constructor
    · intro hn; have := h.lt n hn; rw [hp] at this; omega
    · intro hn; exact ha n (by rw [hp]; omega)
  have hlen : S.length = 2 ^ bitsN ws ws.length := by rw [hS, List.length_range]
  have hpos := Nat.two_pow_pos (bitsN ws ws.length)
  have hm : memF cs ws ws.length S = .mk 1 1 1 [] := by
    generalize hk : ws.length = k at *
    cases k with
    | zero => unfold memF; rw [if_neg (by omega), if_pos hlen]
    | succ k => unfold memF; rw [if_neg (by omega), if_pos hlen]
  unfold exprS
  rw [if_pos (valid_of h), natL_cast, hm, if_neg (by simp [E.size, sizeAll])]

/-! ### The cells of a condition -/
def chooseL (cells : List CellD) (a b : List Int) : List Int := upTo (fun j => decide (j < cells.length) && (a.contains (j : Int) || b.contains (j : Int))) 32
/-- A formula of a formed condition. -/
def formC (cells : List CellD) (e : E) : Prop := e.valid cells true = true ∧ e.wd = 1
def hOld (cells : List CellD) (h g : E) : List Int := chooseL cells h.supOld g.supOld
def hNow (cells : List CellD) (h g : E) : List Int := chooseL cells h.supNow g.supNow
def stepB (cells : List CellD) (h g : E) : Bool := !(hOld cells h g).isEmpty
def cP (cells : List CellD) (h g : E) : List Int := if stepB cells h g then hOld cells h g else hNow cells h g
def cQ (cells : List CellD) (h g : E) : List Int := if stepB cells h g then hNow cells h g else hOld cells h g
/-- The hypothesis is 1 and the goal 0. -/
def violB (h g : E) (old now : List Int) : Bool := decide (h.eval old now = 1) && decide (g.eval old now = 0)
def violN (cells : List CellD) (h g : E) (n m : Nat) : Bool :=
  if stepB cells h g then violB h g (stN (cP cells h g) (wOf cells (cP cells h g)) n) (stN (cQ cells h g) (wOf cells (cQ cells h g)) m)
  else violB h g (stN (cQ cells h g) (wOf cells (cQ cells h g)) m) (stN (cP cells h g) (wOf cells (cP cells h g)) n)
def goodB (cells : List CellD) (h g : E) (n : Nat) : Bool := (List.range (pw (sumI (wOf cells (cQ cells h g)))).toNat).all fun m => !violN cells h g n m
def goodL (cells : List CellD) (h g : E) : List Nat := (List.range (pw (sumI (wOf cells (cP cells h g)))).toNat).filter (goodB cells h g)
/-- The expression before the turn to the state before. -/
def weak0 (cells : List CellD) (h g : E) : E := exprS (cP cells h g) (wOf cells (cP cells h g)) (castL (goodL cells h g))
def weakE (cells : List CellD) (h g : E) : E := if stepB cells h g then (weak0 cells h g).before else weak0 cells h g
/-- What it says. -/
def holdsAt (cells : List CellD) (h g : E) (old now : List Int) : Prop := if stepB cells h g then ∀ now', violB h g old now' = false else violB h g old now = false

theorem choose_mem {cells : List CellD} {a b : List Int} {c : Int} : c ∈ chooseL cells a b ↔ ∃ j : Nat, c = (j : Int) ∧ j < 32 ∧ j < cells.length ∧ (c ∈ a ∨ c ∈ b) := by
  unfold chooseL
  rw [mem_upTo]
  constructor
  · rintro ⟨j, hj, rfl, hf⟩
    simp only [Bool.and_eq_true, Bool.or_eq_true, decide_eq_true_eq, List.contains_iff_mem] at hf
    exact ⟨j, rfl, hj, hf.1, hf.2⟩
  · rintro ⟨j, rfl, hj, hl, hm⟩
    refine ⟨j, hj, rfl, ?_⟩
    simp only [Bool.and_eq_true, Bool.or_eq_true, decide_eq_true_eq, List.contains_iff_mem]
    exact ⟨hl, hm⟩
/-- A leaf that is a cell lies in the support, its width is the cell's. -/
theorem form_leaf {cells : List CellD} {e : E} (he : formC cells e) {x : E} (hx : x ∈ e.leaves) (ho : x.op = 2 ∨ x.op = 3) :
    ∃ j : Nat, x.n = (j : Int) ∧ j < 32 ∧ j < cells.length ∧ wAt cells x.n = x.wd ∧ 1 ≤ x.wd ∧ x.wd ≤ 8 ∧ (x.op = 2 → x.n ∈ e.supNow) ∧ (x.op = 3 → x.n ∈ e.supOld) := by
  obtain ⟨hv, _⟩ := he
  simp only [E.valid, Bool.and_eq_true, List.all_eq_true] at hv
  have hdp := hv.1
  simp only [E.wf, Bool.and_eq_true] at hdp
  have hok := hv.2 x hx
  have hshp := (leaves_shaped e 40 hdp.2 x hx).2
  have hsh := shapedW_cell hshp ho
  have hwd := shapedW_wd hshp
  obtain ⟨j, hj⟩ := Int.eq_ofNat_of_zero_le hsh.2.1
  unfold okLeaf at hok
  simp only [Bool.or_eq_true, Bool.and_eq_true, decide_eq_true_eq] at hok
  rcases hok with c | c
  · omega
  refine ⟨j, hj, by omega, by have := c.1.1; rw [hj] at this; simpa using this, ?_, hwd.1, hwd.2, fun h2 => ?_, fun h3 => ?_⟩
  · have e1 := c.1.2
    unfold wAt
    simp only [List.getD, List.getElem?_map] at e1 ⊢
    exact e1
  · unfold E.supNow; rw [if_pos hv.1, hj]; exact mem_upTo' (by omega) (occurs_of hx h2 hj)
  · unfold E.supOld; rw [if_pos hv.1, hj]; exact mem_upTo' (by omega) (occurs_of hx h3 hj)
/-- What lies in a support is a leaf. -/
theorem sup_leaf {e : E} {c : Int} : (c ∈ e.supNow → ∃ x ∈ e.leaves, x.op = 2 ∧ x.n = c) ∧ (c ∈ e.supOld → ∃ x ∈ e.leaves, x.op = 3 ∧ x.n = c) := by
  constructor
  · intro hc
    unfold E.supNow at hc
    split at hc
    · obtain ⟨j, hj, rfl, hf⟩ := mem_upTo.1 hc
      unfold occurs at hf
      rw [List.any_eq_true] at hf
      obtain ⟨x, hx, h2⟩ := hf
      rw [Bool.and_eq_true, decide_eq_true_eq, decide_eq_true_eq] at h2
      exact ⟨x, hx, h2.1, h2.2⟩
    · cases hc
  · intro hc
    unfold E.supOld at hc
    split at hc
    · obtain ⟨j, hj, rfl, hf⟩ := mem_upTo.1 hc
      unfold occurs at hf
      rw [List.any_eq_true] at hf
      obtain ⟨x, hx, h2⟩ := hf
      rw [Bool.and_eq_true, decide_eq_true_eq, decide_eq_true_eq] at h2
      exact ⟨x, hx, h2.1, h2.2⟩
    · cases hc
section
variable {cells : List CellD} {h g : E} (hh : formC cells h) (hg : formC cells g)
include hh hg
theorem old_w {c : Int} (hc : c ∈ hOld cells h g) : 0 ≤ c ∧ c < 32 ∧ c < (cells.length : Int) ∧ 1 ≤ wAt cells c ∧ wAt cells c ≤ 8 := by
  obtain ⟨j, rfl, h32, hl, hm⟩ := choose_mem.1 hc
  have key : ∀ e : E, formC cells e → (j : Int) ∈ e.supOld → 1 ≤ wAt cells (j : Int) ∧ wAt cells (j : Int) ≤ 8 := fun e he hm => by
    obtain ⟨x, hx, h3, hn⟩ := sup_leaf.2 hm
    obtain ⟨_, _, _, _, hw, h1, h8, _⟩ := form_leaf he hx (.inr h3)
    rw [hn] at hw; omega
  have := hm.elim (key h hh) (key g hg)
  omega
theorem now_w {c : Int} (hc : c ∈ hNow cells h g) : 0 ≤ c ∧ c < 32 ∧ c < (cells.length : Int) ∧ 1 ≤ wAt cells c ∧ wAt cells c ≤ 8 := by
  obtain ⟨j, rfl, h32, hl, hm⟩ := choose_mem.1 hc
  have key : ∀ e : E, formC cells e → (j : Int) ∈ e.supNow → 1 ≤ wAt cells (j : Int) ∧ wAt cells (j : Int) ≤ 8 := fun e he hm => by
    obtain ⟨x, hx, h3, hn⟩ := sup_leaf.1 hm
    obtain ⟨_, _, _, _, hw, h1, h8, _⟩ := form_leaf he hx (.inl h3)
    rw [hn] at hw; omega
  have := hm.elim (key h hh) (key g hg)
  omega
theorem choose_shape {l : List Int} (hl : l = hOld cells h g ∨ l = hNow cells h g) : shapeB l (wOf cells l) = true := by
  rw [shape_iff]
  have hw : ∀ c ∈ l, 0 ≤ c ∧ c < 32 ∧ c < (cells.length : Int) ∧ 1 ≤ wAt cells c ∧ wAt cells c ≤ 8 := fun c hc => by
    rcases hl with rfl | rfl
    · exact old_w hh hg hc
    · exact now_w hh hg hc
  refine ⟨by simp [wOf], ?_, fun i hi => ?_⟩
  · have : l.Pairwise (· < ·) := by
      rcases hl with rfl | rfl <;>
      · first | unfold hOld chooseL upTo | unfold hNow chooseL upTo
        rw [List.pairwise_map]
        exact (List.Pairwise.filter _ List.pairwise_lt_range).imp fun h => Int.ofNat_lt.2 h
    refine inc_iff.2 fun i hi => ?_
    have h2 := List.pairwise_iff_getElem.1 this i (i + 1) (by omega) hi (by omega)
    rw [show l.getD i 0 = l[i] by simp [List.getD, show i < l.length by omega], show l.getD (i + 1) 0 = l[i + 1] by simp [List.getD, hi]]
    exact h2
  · have h1 := hw _ (List.getElem_mem hi)
    have e1 : l.getD i 0 = l[i] := by simp [List.getD, hi]
    have e2 : (wOf cells l).getD i 0 = wAt cells l[i] := by unfold wOf; simp [List.getD, hi]
    rw [e1, e2]; omega
/-- The value at the numbers of two states. -/
theorem form_eval {e : E} (he : e = h ∨ e = g) (ho : sumI (wOf cells (hOld cells h g)) ≤ 12) (hn : sumI (wOf cells (hNow cells h g)) ≤ 12) (old now : List Int) :
    e.eval (stN (hOld cells h g) (wOf cells (hOld cells h g)) (numS (hOld cells h g) (wOf cells (hOld cells h g)) old).toNat) (stN (hNow cells h g) (wOf cells (hNow cells h g)) (numS (hNow cells h g) (wOf cells (hNow cells h g)) now).toNat) = e.eval old now := by
  have hso := small_of (choose_shape hh hg (.inl rfl)) ho
  have hsn := small_of (choose_shape hh hg (.inr rfl)) hn
  have hf : formC cells e := by rcases he with rfl | rfl <;> assumption
  refine eval_leaf fun x hx => ?_
  have hv := hf.1
  simp only [E.valid, Bool.and_eq_true, List.all_eq_true] at hv
  have hok := hv.2 x hx
  refine ⟨fun h2 => ?_, fun h3 => ?_⟩
  · obtain ⟨j, hj, h32, hjl, _, _, _, hm, _⟩ := form_leaf hf hx (.inl h2)
    refine leaf_num hsn hok (by omega) (choose_mem.2 ⟨j, hj, h32, hjl, ?_⟩) now
    rcases he with rfl | rfl
    · exact .inl (hm h2)
    · exact .inr (hm h2)
  · obtain ⟨j, hj, h32, hjl, _, _, _, _, hm⟩ := form_leaf hf hx (.inr h3)
    refine leaf_num hso hok (by omega) (choose_mem.2 ⟨j, hj, h32, hjl, ?_⟩) old
    rcases he with rfl | rfl
    · exact .inl (hm h3)
    · exact .inr (hm h3)
theorem viol_num (ho : sumI (wOf cells (hOld cells h g)) ≤ 12) (hn : sumI (wOf cells (hNow cells h g)) ≤ 12) (old now : List Int) :
    violB h g (stN (hOld cells h g) (wOf cells (hOld cells h g)) (numS (hOld cells h g) (wOf cells (hOld cells h g)) old).toNat) (stN (hNow cells h g) (wOf cells (hNow cells h g)) (numS (hNow cells h g) (wOf cells (hNow cells h g)) now).toNat) = violB h g old now := by
  unfold violB
  rw [form_eval hh hg (.inl rfl) ho hn, form_eval hh hg (.inr rfl) ho hn]
theorem good_valid (ho : sumI (wOf cells (hOld cells h g)) ≤ 12) (hn : sumI (wOf cells (hNow cells h g)) ≤ 12) : ValidS (cP cells h g) (wOf cells (cP cells h g)) (goodL cells h g) := by
  have hsm : smallB (cP cells h g) (wOf cells (cP cells h g)) = true := by
    unfold cP
    split
    · exact small_of (choose_shape hh hg (.inl rfl)) ho
    · exact small_of (choose_shape hh hg (.inr rfl)) hn
  refine ⟨hsm, List.Pairwise.filter _ List.pairwise_lt_range, fun x hx => ?_⟩
  have := List.mem_range.1 (List.mem_filter.1 hx).1
  omega
/-- The number of a state is good: what the state says. -/
theorem good_iff (ho : sumI (wOf cells (hOld cells h g)) ≤ 12) (hn : sumI (wOf cells (hNow cells h g)) ≤ 12) (st old now : List Int) (hst : st = if stepB cells h g then old else now) :
    (numS (cP cells h g) (wOf cells (cP cells h g)) st).toNat ∈ goodL cells h g ↔ holdsAt cells h g old now := by
  have hV := good_valid hh hg ho hn
  have hlt := num_lt hV.small st
  unfold goodL
  rw [List.mem_filter, List.mem_range]
  have h1 : (numS (cP cells h g) (wOf cells (cP cells h g)) st).toNat < (pw (sumI (wOf cells (cP cells h g)))).toNat := by omega
  rw [and_iff_right h1]
  unfold goodB holdsAt
  rw [List.all_eq_true]
  cases hs : stepB cells h g with
  | true =>
    have eP : cP cells h g = hOld cells h g := by unfold cP; rw [hs]; rfl
    have eQ : cQ cells h g = hNow cells h g := by unfold cQ; rw [hs]; rfl
    rw [hs, if_pos rfl] at hst
    subst hst
    rw [if_pos rfl]
    unfold violN
    rw [hs, eP, eQ]
    simp only [if_true, Bool.not_eq_true']
    have hsn := small_of (choose_shape hh hg (.inr rfl)) hn
    constructor
    · intro ha now'
      have hl := num_lt hsn now'
      rw [← viol_num hh hg ho hn st now']
      exact ha _ (List.mem_range.2 (by omega))
    · intro ha m hm
      rw [List.mem_range] at hm
      have hm' : (m : Int) < pw (sumI (wOf cells (hNow cells h g))) := by omega
      have e1 := viol_num hh hg ho hn st (stN (hNow cells h g) (wOf cells (hNow cells h g)) m)
      rw [num_stN hsn hm', Int.toNat_natCast] at e1
      rw [e1]; exact ha _
  | false =>
    have eP : cP cells h g = hNow cells h g := by unfold cP; rw [hs]; rfl
    have eQ : cQ cells h g = hOld cells h g := by unfold cQ; rw [hs]; rfl
    have hnil : hOld cells h g = [] := by unfold stepB at hs; simpa using hs
    rw [hs] at hst
    simp only [Bool.false_eq_true, if_false] at hst
    subst hst
    unfold violN
    rw [hs, eP, eQ]
    simp only [Bool.false_eq_true, if_false, Bool.not_eq_true']
    have hso := small_of (choose_shape hh hg (.inl rfl)) ho
    have hp1 : pw (sumI (wOf cells (hOld cells h g))) = 1 := by rw [hnil]; rfl
    have hl0 := num_lt hso old
    rw [hp1] at hl0
    have e0 : (numS (hOld cells h g) (wOf cells (hOld cells h g)) old).toNat = 0 := by omega
    have e1 := viol_num hh hg ho hn old st
    rw [e0] at e1
    constructor
    · intro ha
      rw [← e1]
      exact ha 0 (List.mem_range.2 (by rw [hp1]; decide))
    · intro ha m hm
      rw [List.mem_range, hp1] at hm
      obtain rfl : m = 0 := by have : (1 : Int).toNat = 1 := rfl; omega
      rw [e1]; exact ha
/-- WHAT THE WEAKEST EXPRESSION SAYS. -/
theorem weak_law (ho : sumI (wOf cells (hOld cells h g)) ≤ 12) (hn : sumI (wOf cells (hNow cells h g)) ≤ 12) (hz : (weak0 cells h g).op ≠ 0) :
    (weakE cells h g).wf = true ∧ (weakE cells h g).wd = 1 ∧ (∀ old now, (weakE cells h g).eval old now = 1 ↔ holdsAt cells h g old now) ∧ ∀ old now, (weakE cells h g).eval old now = 0 ∨ (weakE cells h g).eval old now = 1 := by
  have hV := good_valid hh hg ho hn
  rcases hexp_law hV with h0 | ⟨hwf, hwd, _, _, hev⟩
  · exact absurd h0 hz
  have hif : ∀ (p : Prop) [Decidable p], ((if p then (1 : Int) else 0) = 1 ↔ p) := fun p _ => by split <;> simp_all
  have hif2 : ∀ (p : Prop) [Decidable p], (if p then (1 : Int) else 0) = 0 ∨ (if p then (1 : Int) else 0) = 1 := fun p _ => by split <;> simp
  unfold weakE
  cases hs : stepB cells h g with
  | true =>
    rw [if_pos rfl]
    have hev' : ∀ old now, (weak0 cells h g).before.eval old now = if (numS (cP cells h g) (wOf cells (cP cells h g)) old).toNat ∈ goodL cells h g then 1 else 0 := fun old now => (before_eval hwf old now).trans (hev old old)
    have hwf' : (weak0 cells h g).wf = true := hwf
    refine ⟨before_wf hwf', ?_, fun old now => ?_, fun old now => ?_⟩
    · rw [before_eq hwf', reb_wd]; exact hwd
    · rw [hev', hif, good_iff hh hg ho hn old old now (by rw [hs]; rfl)]
    · rw [hev']; exact hif2 _
  | false =>
    rw [if_neg (by simp)]
    refine ⟨hwf, hwd, fun old now => ?_, fun old now => ?_⟩
    · rw [show (weak0 cells h g).eval old now = _ from hev old now, hif, good_iff hh hg ho hn now old now (by rw [hs]; rfl)]
    · rw [show (weak0 cells h g).eval old now = _ from hev old now]; exact hif2 _
end
end Go.Proofs.YtlcgbdjmlnjhcaaGreatDoor
namespace Go.Proofs.YtlcgbdjmlnjhcaaGreatDoor
open Go.RowKit Go.Shelf

structure Part3 (w : World) (q : Nat) (u1 u2 : Value) (s : Int) (l m : List Int) : Prop where
  blk : w.heap[q]? = some (.cells #[u1, u2, .int .i64 s] 64 (0, 0))
  o1 : OwnInts w (q + 1) u1 l
  o2 : OwnInts w (q + 1) u2 m
  sep : ∀ x, u1.ownBlock = some x → u2.ownBlock ≠ some x
variable {w w5 : World} {q : Nat} {u1 u2 : Value} {s : Int} {l m : List Int}
theorem Part3.later {w' : World} (h : Part3 w q u1 u2 s l m) (hx : Ext w w') : Part3 w' q u1 u2 s l m := ⟨(hx.block q (lt_heap h.blk)).trans h.blk, h.o1.kept hx, h.o2.kept hx, h.sep⟩
theorem Part3.cells (h : Part3 w q u1 u2 s l m) : w.cell? ⟨q, 0, none⟩ = some u1 ∧ w.cell? ⟨q, 1, none⟩ = some u2 ∧ w.cell? ⟨q, 2, none⟩ = some (.int .i64 s) := by
  refine ⟨?_, ?_, ?_⟩ <;> (rw [Lib.cell_of_heap h.blk]; rfl)
/-- The block behind an append to one of its rows. -/
theorem Part3.grown (h : Part3 w q u1 u2 s l m) {row : Option Nat} (hg : w.grownBy w5 row) (hr : ∀ k, row = some k → q + 1 ≤ k) : w5.heap[q]? = some (.cells #[u1, u2, .int .i64 s] 64 (0, 0)) :=
  (hg.block q (lt_heap h.blk) fun e => by have := hr q e.symm; omega).trans h.blk
/-- An int appended to the first row and stored. -/
theorem Part3.put1 (h : Part3 w q u1 u2 s l m) {g n c : Nat} {l' : List Int} (ho : OwnInts w5 (q + 1) (.slice (some ⟨g, 0, none⟩) n c) l') (hg : w.grownBy w5 u1.ownBlock) (hn : u1.ownBlock = some g ∨ g = w.heap.size + 1) :
    Part3 (w5.setCell ⟨q, 0, none⟩ (.slice (some ⟨g, 0, none⟩) n c)) q (.slice (some ⟨g, 0, none⟩) n c) u2 s l' m := by
  have hb := h.grown hg fun k e => h.o1.base k e
  refine ⟨heap_setCell_same w5 q 0 _ _ _ hb, ho.keep fun k e => heap_setCell_other _ _ _ _ (by have := ho.base k e; show k ≠ q; omega), h.o2.keep fun k e => ?_, fun x e e2 => ?_⟩
  · have h2 := h.o2.base k e
    refine (heap_setCell_other _ _ _ _ (by show k ≠ q; omega)).trans (hg.block k (own_lt h.o2 k e) fun e3 => ?_)
    exact h.sep k e3.symm e
  · cases e
    rcases hn with e3 | e3
    · exact h.sep _ e3 e2
    · have := own_lt h.o2 _ e2
      have e4 : g < w.heap.size := this
      omega
/-- An int appended to the second row and stored. -/
theorem Part3.put2 (h : Part3 w q u1 u2 s l m) {g n c : Nat} {m' : List Int} (ho : OwnInts w5 (q + 1) (.slice (some ⟨g, 0, none⟩) n c) m') (hg : w.grownBy w5 u2.ownBlock) (hn : u2.ownBlock = some g ∨ g = w.heap.size + 1) :
    Part3 (w5.setCell ⟨q, 1, none⟩ (.slice (some ⟨g, 0, none⟩) n c)) q u1 (.slice (some ⟨g, 0, none⟩) n c) s l m' := by
  have hb := h.grown hg fun k e => h.o2.base k e
  refine ⟨heap_setCell_same w5 q 1 _ _ _ hb, h.o1.keep fun k e => ?_, ho.keep fun k e => heap_setCell_other _ _ _ _ (by have := ho.base k e; show k ≠ q; omega), fun x e e2 => ?_⟩
  · have h2 := h.o1.base k e
    refine (heap_setCell_other _ _ _ _ (by show k ≠ q; omega)).trans (hg.block k (own_lt h.o1 k e) fun e3 => ?_)
    exact h.sep k e e3.symm
  · cases e2
    rcases hn with e3 | e3
    · exact h.sep _ e e3
    · have := own_lt h.o1 _ e
      have e4 : g < w.heap.size := this
      omega
/-- The number stored. -/
theorem Part3.put3 (h : Part3 w q u1 u2 s l m) (z : Int) : Part3 (w.setCell ⟨q, 2, none⟩ (.int .i64 z)) q u1 u2 z l m :=
  ⟨heap_setCell_same w q 2 _ _ _ h.blk, h.o1.keep fun k e => heap_setCell_other _ _ _ _ (by have := h.o1.base k e; show k ≠ q; omega), h.o2.keep fun k e => heap_setCell_other _ _ _ _ (by have := h.o2.base k e; show k ≠ q; omega), h.sep⟩
end Go.Proofs.YtlcgbdjmlnjhcaaGreatDoor
