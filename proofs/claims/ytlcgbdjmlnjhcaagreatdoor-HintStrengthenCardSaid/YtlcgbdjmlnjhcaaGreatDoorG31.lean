/-
  The plain law of StatesExpressions: the expression of a set is valid, is the set, and is small for few elements.
  The plain law of StatesExpressions, put together.
  The plain law of the ring: numbers modulo a power of two, and their bits. No program in sight.
-/
import Derived.Test.YtlcgbdjmlnjhcaaGreatDoorG30
import Derived.Test.YtlcgbdjmlnjhcaaGreatDoorG08
namespace Go.Proofs.YtlcgbdjmlnjhcaaGreatDoor
open Go.RowKit

theorem runsF_mem (low : Nat) (is : List Nat) : ∀ (m v : Nat) (cur : Nat × List Nat) (r : Nat × List Nat), r ∈ runsF low is m v cur → r = cur ∨ ∃ u, v ≤ u ∧ u < v + m ∧ r = (u, part low is u) := by
  intro m
  induction m with
  | zero => intro v cur r h; simp [runsF] at h; exact .inl h
  | succ m ih =>
    intro v cur r h
    unfold runsF at h
    have key : ∀ r, r ∈ runsF low is m (v + 1) (v, part low is v) → ∃ u, v ≤ u ∧ u < v + (m + 1) ∧ r = (u, part low is u) := fun r hr => by
      rcases ih (v + 1) _ r hr with e | ⟨u, h1, h2, e⟩
      · exact ⟨v, Nat.le_refl _, by omega, e⟩
      · exact ⟨u, by omega, by omega, e⟩
    split at h
    · exact .inr (key r h)
    · rcases List.mem_cons.1 h with e | h
      · exact .inl e
      · exact .inr (key r h)
theorem runsL_mem {low w : Nat} {is : List Nat} {r : Nat × List Nat} (h : r ∈ runsL low w is) : r.1 < 2 ^ w ∧ r.2 = part low is r.1 := by
  have hp := Nat.two_pow_pos w
  rcases runsF_mem low is _ _ _ r h with e | ⟨u, h1, h2, e⟩
  · subst e; exact ⟨hp, rfl⟩
  · subst e; exact ⟨by show u < _; omega, rfl⟩
/-- How many elements fall into a range of values. -/
def cnt (low : Nat) (is : List Nat) (v m : Nat) : Nat := is.countP fun x => decide (v ≤ x / 2 ^ low) && decide (x / 2 ^ low < v + m)
theorem cnt_succ (low : Nat) (is : List Nat) (v m : Nat) : cnt low is v (m + 1) = (part low is v).length + cnt low is (v + 1) m := by
  unfold cnt part grp
  rw [List.length_map]
  induction is with
  | nil => rfl
  | cons a r ih =>
    simp only [List.countP_cons, List.filter_cons]
    rw [ih]
    generalize a / 2 ^ low = y
    by_cases c : y = v
    · subst c; simp [show ¬ (y + 1 ≤ y) by omega]; omega
    · by_cases d : v ≤ y ∧ y < v + (m + 1)
      · simp [c, d, show v + 1 ≤ y by omega, show y < v + 1 + m by omega]; omega
      · have : ¬ (v + 1 ≤ y ∧ y < v + 1 + m) := by omega
        simp [c]
        by_cases d1 : v ≤ y <;> by_cases d2 : y < v + (m + 1) <;> by_cases d3 : v + 1 ≤ y <;> by_cases d4 : y < v + 1 + m <;> simp [d1, d2, d3, d4] <;> omega
theorem cnt_le (low : Nat) (is : List Nat) (v m : Nat) : cnt low is v m ≤ is.length := List.countP_le_length
theorem runsF_few (low : Nat) (is : List Nat) : ∀ (m v : Nat) (cur : Nat × List Nat), (runsF low is m v cur).length ≤ 1 + min 1 cur.2.length + 2 * cnt low is v m ∧ ((runsF low is m v cur).map fun r => r.2.length).sum ≤ cur.2.length + cnt low is v m := by
  intro m
  induction m with
  | zero => intro v cur; simp [runsF]; omega
  | succ m ih =>
    intro v cur
    have h1 := ih (v + 1) (v, part low is v)
    have h2 := cnt_succ low is v m
    dsimp only at h1
    unfold runsF
    split
    · next e => rw [← e]; omega
    · next e =>
      simp only [List.length_cons, List.map_cons, List.sum_cons]
      have : (part low is v).length ≠ 0 ∨ cur.2.length ≠ 0 := by
        by_cases c : (part low is v).length = 0
        · by_cases d : cur.2.length = 0
          · exact absurd ((List.length_eq_zero_iff.1 c).trans (List.length_eq_zero_iff.1 d).symm) e
          · exact .inr d
        · exact .inl c
      omega
theorem runsL_few (low w : Nat) (is : List Nat) : (runsL low w is).length ≤ 1 + 2 * is.length ∧ ((runsL low w is).map fun r => r.2.length).sum ≤ is.length := by
  have h1 := runsF_few low is (2 ^ w - 1) 1 (0, part low is 0)
  have h2 : cnt low is 0 (2 ^ w - 1 + 1) = (part low is 0).length + cnt low is 1 (2 ^ w - 1) := cnt_succ low is 0 (2 ^ w - 1)
  have h3 := cnt_le low is 0 (2 ^ w - 1 + 1)
  dsimp only at h1
  unfold runsL
  omega
theorem sum_append (l m : List Nat) : (l ++ m).sum = l.sum + m.sum := by induction l <;> simp_all; omega
theorem tree_sum {leaf : List Nat → E} (wd c : Int) : ∀ (f : Nat) (l : List (Nat × List Nat)), l.length ≤ f → 0 < l.length → (treeF leaf wd c f l).size + 4 ≤ (l.map fun r => (leaf r.2).size + 4).sum := by
  intro f
  induction f with
  | zero => intro l h1 h2; omega
  | succ f ih =>
    intro l h1 h2
    rw [treeF_succ]
    by_cases h : l.length = 1
    · rw [if_pos h]
      match l, h with
      | [r], _ => simp
    · rw [if_neg h]
      have e1 : (l.take ((l.length + 1) / 2)).length = (l.length + 1) / 2 := by simp; omega
      have e2 : (l.drop ((l.length + 1) / 2)).length = l.length - (l.length + 1) / 2 := by simp
      have k1 := ih (l.take ((l.length + 1) / 2)) (by omega) (by omega)
      have k2 := ih (l.drop ((l.length + 1) / 2)) (by omega) (by omega)
      have hs : (l.map fun r => (leaf r.2).size + 4).sum = ((l.take ((l.length + 1) / 2)).map fun r => (leaf r.2).size + 4).sum + ((l.drop ((l.length + 1) / 2)).map fun r => (leaf r.2).size + 4).sum := by
        rw [← sum_append, ← List.map_append, List.take_append_drop]
      rw [hs]
      simp only [E.size, sizeAll]
      omega
theorem sum_lin (k : Nat) (g : List Nat → Nat) (hg : ∀ z, g z ≤ 1 + k * z.length) : ∀ l : List (Nat × List Nat), (l.map fun r => g r.2 + 4).sum ≤ 5 * l.length + k * (l.map fun r => r.2.length).sum := by
  intro l
  induction l with
  | nil => simp
  | cons a r ih =>
    simp only [List.map_cons, List.sum_cons, List.length_cons]
    have := hg a.2
    rw [Nat.mul_add k]
    omega
theorem mem_few (cs ws : List Int) : ∀ (m : Nat) (is : List Nat), (memF cs ws m is).size ≤ 1 + 10 * (m + 1) * is.length := by
  intro m
  induction m with
  | zero =>
    intro is
    unfold memF
    split
    · simp [E.size, sizeAll]
    · split <;> (simp only [E.size, sizeAll]; omega)
  | succ m ih =>
    intro is
    unfold memF
    split
    · simp [E.size, sizeAll]
    · split
      · simp only [E.size, sizeAll]; omega
      · have hl := runsL_len (bitsN ws m) (ws.getD m 0).toNat is
        have h1 := tree_sum (leaf := memF cs ws m) (ws.getD m 0) (cs.getD m 0) (2 ^ (ws.getD m 0).toNat) _ hl.1 hl.2
        have h2 := sum_lin (10 * (m + 1)) (fun z => (memF cs ws m z).size) ih (runsL (bitsN ws m) (ws.getD m 0).toNat is)
        have h3 := runsL_few (bitsN ws m) (ws.getD m 0).toNat is
        have h4 := Nat.mul_le_mul_left (10 * (m + 1)) h3.2
        have e : 10 * (m + 1 + 1) * is.length = 10 * (m + 1) * is.length + 10 * is.length := by
          rw [show 10 * (m + 1 + 1) = 10 * (m + 1) + 10 by omega, Nat.add_mul]
        rw [e]
        omega
/-- A node of the expression of a set: a tree of the right form. -/
def GoodM (cs ws : List Int) (m D : Nat) (e : E) : Prop := e.wd = 1 ∧ (e.op = 1 ∨ e.op = 14) ∧ (∀ d, D ≤ d → e.deep d = true) ∧ ∀ x ∈ e.leaves, x.op = 1 ∨ ∃ i, i < m ∧ x = .mk 2 (ws.getD i 0) (cs.getD i 0) []
theorem good_const (cs ws : List Int) (m D : Nat) (hD : 1 ≤ D) {n : Int} (hn : n = 0 ∨ n = 1) : GoodM cs ws m D (.mk 1 1 n []) := by
  refine ⟨rfl, .inl rfl, fun d hd => ?_, fun x hx => ?_⟩
  · simp only [E.deep, deepAll, shapedW, List.map_nil, Bool.and_true, Bool.and_eq_true, decide_eq_true_eq]
    have p1 : pw 1 = 2 := by decide
    rcases hn with rfl | rfl <;> simp [p1] <;> omega
  · rw [leaves_nil] at hx; simp at hx; subst hx; exact .inl rfl
theorem good_tree {cs ws : List Int} {m D : Nat} {leaf : List Nat → E} (hD : 2 ≤ D) (hw1 : 1 ≤ ws.getD m 0) (hw8 : ws.getD m 0 ≤ 8) (hc0 : 0 ≤ cs.getD m 0) (hc32 : cs.getD m 0 < 32) : ∀ (f k : Nat) (l : List (Nat × List Nat)), l.length ≤ f → 0 < l.length → l.length ≤ 2 ^ k →
    (∀ r ∈ l, (r.1 : Int) < pw (ws.getD m 0) ∧ GoodM cs ws m D (leaf r.2)) → GoodM cs ws (m + 1) (D + k) (treeF leaf (ws.getD m 0) (cs.getD m 0) f l) := by
  intro f
  induction f with
  | zero => intro k l h1 h2; omega
  | succ f ih =>
    intro k l h1 h2 hk hg
    rw [treeF_succ]
    by_cases h : l.length = 1
    · rw [if_pos h]
      match l, h with
      | [r], _ =>
        obtain ⟨g1, g2, g3, g4⟩ := (hg r (by simp)).2
        refine ⟨g1, g2, fun d hd => g3 d (by omega), fun x hx => ?_⟩
        rcases g4 x hx with e | ⟨i, hi, e⟩
        · exact .inl e
        · exact .inr ⟨i, by omega, e⟩
    · rw [if_neg h]
      have e1 : (l.take ((l.length + 1) / 2)).length = (l.length + 1) / 2 := by simp; omega
      have e2 : (l.drop ((l.length + 1) / 2)).length = l.length - (l.length + 1) / 2 := by simp
      obtain ⟨k, rfl⟩ : ∃ j, k = j + 1 := by
        cases k with
        | zero => simp at hk; omega
        | succ j => exact ⟨j, rfl⟩
      rw [Nat.pow_succ] at hk
      have g1 := ih k (l.take ((l.length + 1) / 2)) (by omega) (by omega) (by omega) (fun r hr => hg r (List.mem_of_mem_take hr))
      have g2 := ih k (l.drop ((l.length + 1) / 2)) (by omega) (by omega) (by omega) (fun r hr => hg r (List.mem_of_mem_drop hr))
      have hlt : (l.length + 1) / 2 - 1 < l.length := by omega
      have hv := (hg _ (List.getElem_mem hlt)).1
      have hgd : l.getD ((l.length + 1) / 2 - 1) (0, []) = l[(l.length + 1) / 2 - 1] := by simp [List.getD, hlt]
      rw [hgd]
      generalize l[(l.length + 1) / 2 - 1].1 = y at *
      generalize treeF leaf (ws.getD m 0) (cs.getD m 0) f (l.take ((l.length + 1) / 2)) = a at *
      generalize treeF leaf (ws.getD m 0) (cs.getD m 0) f (l.drop ((l.length + 1) / 2)) = b at *
      obtain ⟨a1, a2, a3, a4⟩ := g1
      obtain ⟨b1, b2, b3, b4⟩ := g2
      refine ⟨rfl, .inr rfl, fun d hd => ?_, fun x hx => ?_⟩
      · have h3 := a3 (d - 1) (by omega)
        have h4 := b3 (d - 1) (by omega)
        generalize ws.getD m 0 = wd at *
        generalize cs.getD m 0 = c at *
        have s1 : shapedW 14 1 0 [1, a.wd, b.wd] = true := by rw [a1, b1]; decide
        have s2 : shapedW 13 1 0 [wd, wd] = true := by simp [shapedW]
        have s3 : shapedW 2 wd c [] = true := by simp [shapedW]; omega
        have s4 : shapedW 1 wd (y : Int) [] = true := by simp [shapedW]; omega
        simp only [E.deep, deepAll, List.map_cons, List.map_nil, E.wd_mk, h3, h4, s1, s2, s3, s4, Bool.and_true, Bool.and_eq_true, decide_eq_true_eq]
        omega
      · rw [leaves_cons (by simp)] at hx
        simp only [leavesAll, List.append_nil, List.mem_append] at hx
        rcases hx with hx | hx | hx
        · rw [leaves_cons (by simp)] at hx
          simp only [leavesAll, List.append_nil, List.mem_append, leaves_nil, List.mem_singleton] at hx
          rcases hx with rfl | rfl
          · exact .inr ⟨m, Nat.lt_succ_self _, rfl⟩
          · exact .inl rfl
        · exact a4 x hx
        · exact b4 x hx
theorem mem_good {cs ws : List Int} (hW : ∀ x ∈ ws, 1 ≤ x ∧ x ≤ 8) (hC : ∀ i, i < ws.length → 0 ≤ cs.getD i 0 ∧ cs.getD i 0 < 32) : ∀ (m : Nat) (is : List Nat), m ≤ ws.length → is.Pairwise (· < ·) → (∀ x ∈ is, x < 2 ^ bitsN ws m) → GoodM cs ws m (2 + bitsN ws m) (memF cs ws m is) := by
  intro m
  induction m with
  | zero =>
    intro is hm hs hb
    have hbz : bitsN ws 0 = 0 := by unfold bitsN; rw [List.take_zero]; rfl
    unfold memF
    rw [hbz] at hb ⊢
    split
    · exact good_const _ _ _ _ (by omega) (.inl rfl)
    · next h0 =>
      have h1 : is.length = 1 := by
        rcases is with _ | ⟨a, _ | ⟨b, r⟩⟩
        · simp at h0
        · rfl
        · have h1 := hb a (by simp)
          have h2 := hb b (by simp)
          rw [List.pairwise_cons] at hs
          have h3 := hs.1 b (by simp)
          omega
      rw [if_pos (by simpa using h1)]
      exact good_const _ _ _ _ (by omega) (.inr rfl)
  | succ m ih =>
    intro is hm hs hb
    have hbs := bits_succ hW (show m < ws.length by omega)
    unfold memF
    split
    · exact good_const _ _ _ _ (by omega) (.inl rfl)
    · split
      · exact good_const _ _ _ _ (by omega) (.inr rfl)
      · have hl := runsL_len (bitsN ws m) (ws.getD m 0).toNat is
        rw [hbs.1, ← Nat.add_assoc]
        refine good_tree (by omega) hbs.2.2.1 hbs.2.2.2 (hC m (by omega)).1 (hC m (by omega)).2 _ _ _ hl.1 hl.2 hl.1 fun r hr => ?_
        obtain ⟨r1, r2⟩ := runsL_mem hr
        refine ⟨?_, ?_⟩
        · unfold pw
          have e : (2 : Int) ^ (ws.getD m 0).toNat = ((2 ^ (ws.getD m 0).toNat : Nat) : Int) := by push_cast; rfl
          rw [e]; exact_mod_cast r1
        · rw [r2]
          have hpo := part_ok (low := bitsN ws m) hs r.1
          exact ih _ (by omega) hpo.1 hpo.2
end Go.Proofs.YtlcgbdjmlnjhcaaGreatDoor
namespace Go.Proofs.YtlcgbdjmlnjhcaaGreatDoor
open Go.RowKit

/-- The cells of a shape. -/
def cellsF (cs ws : List Int) : List CellD := (List.range 32).map fun (i : Nat) => ⟨⟨#[]⟩, if (i : Int) ∈ cs then wdOf cs ws i else 1, 0, -1, false, 0⟩
theorem cellsF_len (cs ws : List Int) : (cellsF cs ws).length = 32 := by simp [cellsF]
theorem cellsF_W (cs ws : List Int) {i : Nat} (hi : i < 32) (hm : (i : Int) ∈ cs) : ((cellsF cs ws).map CellD.W).getD i 0 = wdOf cs ws i := by
  simp [cellsF, hi, hm]
theorem wAt_cellsF {cs ws : List Int} {c : Int} (h0 : 0 ≤ c) (h32 : c < 32) (hm : c ∈ cs) : wAt (cellsF cs ws) c = wdOf cs ws c := by
  obtain ⟨i, rfl⟩ := Int.eq_ofNat_of_zero_le h0
  have hi : i < 32 := by omega
  have := cellsF_W cs ws hi hm
  unfold wAt
  simpa [hi] using this
theorem numN_eq {cs ws : List Int} (now : List Int) (hl : cs.length = ws.length) (hw : ∀ x ∈ ws, 1 ≤ x ∧ x ≤ 8) (hb : ∀ i, i < cs.length → 0 ≤ cs.getD i 0) : ∀ m, m ≤ cs.length → ((numN now cs ws m : Nat) : Int) = (numTo cs ws now m).1 := by
  intro m
  induction m with
  | zero => intro _; rfl
  | succ m ih =>
    intro hm
    have hc : cs.getD m 0 = cs[m]'(by omega) := by simp [List.getD, show m < cs.length by omega]
    have hwk : ws.getD m 0 = ws[m]'(by omega) := by simp [List.getD, show m < ws.length by omega]
    have hlow := num_low now hl m (by omega)
    have hs0 := (sum_bound hw m (by omega)).1
    have hx := (cell_x (now := now) (c := cs.getD m 0) (wd := ws.getD m 0) (by rw [hwk]; exact (hw _ (List.getElem_mem _)).1)).1
    rw [numTo_succ now hl (by omega)]
    unfold numStep numN
    dsimp only
    have hbm := hb m (by omega)
    rw [hc] at hbm
    rw [elem_if now hbm, ← ih (by omega), hlow, ← hc, ← hwk]
    push_cast
    rw [← hx]
    congr 2
/-- StatesExpressions. -/
theorem exp_law {cs ws : List Int} {S : List Nat} (h : ValidS cs ws S) (h9 : sumI ws ≤ 9) :
    ((exprS cs ws (castL S)).op = 0 ∧ 2 < S.length) ∨
    ((exprS cs ws (castL S)).op ≠ 0 ∧ (exprS cs ws (castL S)).valid (cellsF cs ws) false = true ∧ ofErr (cellsF cs ws) cs (exprS cs ws (castL S)) = 0 ∧ wOf (cellsF cs ws) cs = ws ∧ ofIn (cellsF cs ws) cs (exprS cs ws (castL S)) = S) := by
  obtain ⟨h1, hwd, hs0, hs12⟩ := small_sum h.small
  obtain ⟨hl, hinc, hin⟩ := shape_iff.1 h1
  have hbn : bitsN ws ws.length = (sumI ws).toNat := by unfold bitsN; rw [List.take_length]
  have hC : ∀ i, i < ws.length → 0 ≤ cs.getD i 0 ∧ cs.getD i 0 < 32 := fun i hi => ⟨(hin i (by omega)).1, (hin i (by omega)).2.1⟩
  have hlt : ∀ x ∈ S, x < 2 ^ bitsN ws ws.length := fun x hx => by
    have := h.lt x hx
    rw [hbn]
    unfold pw at this
    exact_mod_cast this
  have hg := mem_good hwd.2 hC ws.length S (Nat.le_refl _) h.sorted hlt
  have hv := fun now old : List Int => mem_val (cs := cs) (old := old) (now := now) hwd.2 ws.length S (Nat.le_refl _) h.sorted hlt
  have hfew := mem_few cs ws ws.length S
  have hws : (ws.length : Int) ≤ sumI ws := by
    have key : ∀ k, k ≤ ws.length → (k : Int) ≤ sumI (ws.take k) := by
      intro k
      induction k with
      | zero => intro _; exact Int.le_refl _
      | succ k ih =>
        intro hk
        have h2 := hwd.2 (ws[k]'(by omega)) (List.getElem_mem _)
        have := ih (by omega)
        rw [sum_take (show k < ws.length by omega)]; omega
    have := key ws.length (Nat.le_refl _)
    rwa [List.take_length] at this
  have hes : exprS cs ws (castL S) = if 600 < (memF cs ws ws.length S).size then .mk 0 0 0 [] else memF cs ws ws.length S := by
    unfold exprS; rw [if_pos (valid_of h), natL_cast]
  rw [hes]
  by_cases hbig : 600 < (memF cs ws ws.length S).size
  · rw [if_pos hbig]
    refine .inl ⟨rfl, ?_⟩
    rcases Nat.lt_or_ge 2 S.length with c | c
    · exact c
    · have h5 : 10 * (ws.length + 1) * S.length ≤ 10 * (ws.length + 1) * 2 := Nat.mul_le_mul_left _ c
      omega
  · rw [if_neg hbig]
    generalize memF cs ws ws.length S = e at *
    obtain ⟨g1, g2, g3, g4⟩ := hg
    have hwf : e.wf = true := by
      unfold E.wf
      rw [g3 40 (by omega), decide_eq_true (show e.size ≤ 600 by omega)]; rfl
    have hwo : wOf (cellsF cs ws) cs = ws := by
      apply List.ext_getElem (by simp [wOf, hl])
      intro i h2 h3
      have hi : i < cs.length := by omega
      have hb := hin i hi
      have e1 := wd_at (ws := ws) hinc hi
      rw [show cs.getD i 0 = cs[i] by simp [List.getD, hi]] at e1 hb
      rw [show (wOf (cellsF cs ws) cs)[i] = wAt (cellsF cs ws) cs[i] by simp [wOf], wAt_cellsF hb.1 hb.2.1 (List.getElem_mem hi), e1]
      simp [List.getD, h3]
    have hval : e.valid (cellsF cs ws) false = true := by
      unfold E.valid
      rw [hwf, Bool.true_and, List.all_eq_true]
      intro x hx
      unfold okLeaf
      rcases g4 x hx with e1 | ⟨i, hi, rfl⟩
      · simp [e1]
      · have hb := hin i (by omega)
        have hm : cs.getD i 0 ∈ cs := by rw [List.getD_eq_getElem?_getD, List.getElem?_eq_getElem (by omega)]; exact List.getElem_mem _
        have e1 := wd_at (ws := ws) hinc (show i < cs.length by omega)
        obtain ⟨j, hj⟩ := Int.eq_ofNat_of_zero_le hb.1
        rw [hj] at hm e1 hb
        have e2 := cellsF_W cs ws (i := j) (by omega) hm
        simp only [E.op_mk, E.n_mk, E.wd_mk, hj, Int.toNat_natCast, e2, e1, cellsF_len]
        simp; omega
    have hsup : supB cs e = true := by
      unfold supB
      rw [List.all_eq_true]
      intro c hc
      unfold E.supNow at hc
      rw [if_pos hwf] at hc
      unfold upTo at hc
      obtain ⟨j, hj, rfl⟩ := List.mem_map.1 hc
      have := (List.mem_filter.1 hj).2
      unfold occurs at this
      rw [List.any_eq_true] at this
      obtain ⟨x, hx, hxx⟩ := this
      rw [Bool.and_eq_true, decide_eq_true_eq, decide_eq_true_eq] at hxx
      rcases g4 x hx with e1 | ⟨i, hi, rfl⟩
      · omega
      · rw [List.contains_iff_mem]
        have e2 : cs.getD i 0 = (j : Int) := hxx.2
        show (j : Int) ∈ cs
        rw [← e2, List.getD_eq_getElem?_getD, List.getElem?_eq_getElem (by omega)]; exact List.getElem_mem _
    have hwid : widthsB (cellsF cs ws) cs = true := by
      unfold widthsB inB
      rw [hinc, hwo, h1, Bool.and_true, Bool.true_and, List.all_eq_true]
      intro c hc
      obtain ⟨i, hi, rfl⟩ := mem_idx hc
      have hb := hin i hi
      rw [cellsF_len]
      simp only [Bool.and_eq_true, decide_eq_true_eq]
      omega
    refine .inr ⟨by rcases g2 with e1 | e1 <;> omega, hval, ?_, hwo, ?_⟩
    · unfold ofErr
      rw [if_pos hwid, hwo, if_pos hs12, if_pos (by rw [hval, g1]; rfl), if_pos hsup]
    · refine sorted_ext (List.Pairwise.filter _ List.pairwise_lt_range) h.sorted fun n => ?_
      unfold ofIn
      rw [hwo, List.mem_filter, List.mem_range, decide_eq_true_eq]
      have hk : ∀ n : Nat, (n : Int) < pw (sumI ws) → (e.eval (stN cs ws n) (stN cs ws n) = 1 ↔ n ∈ S) := fun n hn => by
        have e1 := hv (stN cs ws n) (stN cs ws n)
        have e2 : numN (stN cs ws n) cs ws ws.length = n := by
          have a1 := numN_eq (stN cs ws n) hl hwd.2 (fun i hi => (hin i hi).1) ws.length (by omega)
          have a2 := num_stN h.small hn
          unfold numS at a2
          rw [if_pos h.small, hl] at a2
          rw [a2] at a1
          exact_mod_cast a1
        rw [e2] at e1
        unfold E.eval
        rw [if_pos hwf, e1]
        by_cases c : n ∈ S <;> simp [c]
      constructor
      · rintro ⟨h2, h3⟩
        exact (hk n (by omega)).1 h3
      · intro h2
        have h3 := h.lt n h2
        exact ⟨by omega, (hk n h3).2 h2⟩
end Go.Proofs.YtlcgbdjmlnjhcaaGreatDoor
namespace Go.Proofs.YtlcgbdjmlnjhcaaGreatDoor
open Go.RowKit

theorem deep_up : ∀ (d d' : Nat) (e : E), d ≤ d' → e.deep d = true → e.deep d' = true := by
  intro d
  induction d with
  | zero => intro d' e _ h; cases e; simp [E.deep] at h
  | succ d ih =>
    intro d' e hd h
    obtain ⟨op, wd, n, ks⟩ := e
    simp only [E.deep, Bool.and_eq_true, decide_eq_true_eq, deepAll_iff] at h ⊢
    exact ⟨⟨by omega, h.1.2⟩, fun k hk => ih (d' - 1) k (by omega) (by simpa using h.2 k hk)⟩
/-- No deeper than it has nodes. -/
theorem deep_in_size : ∀ (d : Nat) (e : E), e.deep d = true → e.deep e.size = true := by
  intro d
  induction d with
  | zero => intro e h; cases e; simp [E.deep] at h
  | succ d ih =>
    intro e h
    obtain ⟨op, wd, n, ks⟩ := e
    simp only [E.deep, Bool.and_eq_true, decide_eq_true_eq, deepAll_iff] at h ⊢
    refine ⟨⟨E.size_pos _, h.1.2⟩, fun k hk => ?_⟩
    have := size_kid (op := op) (wd := wd) (n := n) hk
    exact deep_up _ _ k (by omega) (ih k (by simpa using h.2 k hk))

/-- Shaped, of depth at most d, of at most s nodes, of width wd. -/
def Good (wd : Int) (d s : Nat) (e : E) : Prop := e.deep d = true ∧ e.size ≤ s ∧ e.wd = wd
theorem good_of_wf {e : E} {s : Nat} (h : e.wf = true) (hs : e.size ≤ s) : Good e.wd s s e := by
  simp only [E.wf, Bool.and_eq_true, decide_eq_true_eq] at h
  exact ⟨deep_up _ _ _ hs (deep_in_size _ _ h.2), hs, rfl⟩
theorem Good.mono {wd : Int} {d d' s s' : Nat} {e : E} (h : Good wd d s e) (hd : d ≤ d') (hs : s ≤ s') : Good wd d' s' e := ⟨deep_up _ _ _ hd h.1, Nat.le_trans h.2.1 hs, h.2.2⟩
theorem Good.width {wd : Int} {d s : Nat} {a : E} (ha : Good wd d s a) : 1 ≤ wd ∧ wd ≤ 8 := by
  obtain ⟨op', wd', n', ks'⟩ := a
  have := ha.1; have e := ha.2.2
  simp only [E.deep, Bool.and_eq_true, shapedW, decide_eq_true_eq] at this
  simp only [E.wd_mk] at e; subst e
  exact ⟨this.1.2.1.1, this.1.2.1.2⟩
theorem Good.two {wd : Int} {d s t : Nat} {a b : E} {op : Int} (ho : op = 5 ∨ op = 6 ∨ op = 7 ∨ op = 8 ∨ op = 9 ∨ op = 10) (ha : Good wd d s a) (hb : Good wd d t b) : Good wd (d + 1) (s + t + 1) (.mk op wd 0 [a, b]) := by
  have hw := ha.width
  refine ⟨?_, ?_, rfl⟩
  · simp only [E.deep, Bool.and_eq_true, decide_eq_true_eq, deepAll_iff]
    refine ⟨⟨by omega, ?_⟩, ?_⟩
    · simp only [List.map_cons, List.map_nil, ha.2.2, hb.2.2]
      rcases ho with rfl | rfl | rfl | rfl | rfl | rfl <;> simp [shapedW, hw]
    · intro k hk
      simp at hk
      rcases hk with rfl | rfl
      · exact deep_up _ _ _ (by omega) ha.1
      · exact deep_up _ _ _ (by omega) hb.1
  · simp only [E.size, sizeAll]; have := ha.2.1; have := hb.2.1; omega
theorem Good.cmp {wd : Int} {d s t : Nat} {a b : E} {op : Int} (ho : op = 11 ∨ op = 12 ∨ op = 13) (ha : Good wd d s a) (hb : Good wd d t b) : Good 1 (d + 1) (s + t + 1) (.mk op 1 0 [a, b]) := by
  refine ⟨?_, ?_, rfl⟩
  · simp only [E.deep, Bool.and_eq_true, decide_eq_true_eq, deepAll_iff]
    refine ⟨⟨by omega, ?_⟩, ?_⟩
    · simp only [List.map_cons, List.map_nil, ha.2.2, hb.2.2]
      rcases ho with rfl | rfl | rfl <;> simp [shapedW]
    · intro k hk
      simp at hk
      rcases hk with rfl | rfl
      · exact deep_up _ _ _ (by omega) ha.1
      · exact deep_up _ _ _ (by omega) hb.1
  · simp only [E.size, sizeAll]; have := ha.2.1; have := hb.2.1; omega
theorem Good.ite {wd : Int} {d s t u : Nat} {x a b : E} (hx : Good 1 d u x) (ha : Good wd d s a) (hb : Good wd d t b) : Good wd (d + 1) (u + s + t + 1) (.mk 14 wd 0 [x, a, b]) := by
  have hw := ha.width
  refine ⟨?_, ?_, rfl⟩
  · simp only [E.deep, Bool.and_eq_true, decide_eq_true_eq, deepAll_iff]
    refine ⟨⟨by omega, ?_⟩, ?_⟩
    · simp only [List.map_cons, List.map_nil, ha.2.2, hb.2.2, hx.2.2]
      simp [shapedW, hw]
    · intro k hk
      simp at hk
      rcases hk with rfl | rfl | rfl
      · exact deep_up _ _ _ (by omega) hx.1
      · exact deep_up _ _ _ (by omega) ha.1
      · exact deep_up _ _ _ (by omega) hb.1
  · simp only [E.size, sizeAll]; have := ha.2.1; have := hb.2.1; have := hx.2.1; omega
theorem Good.not {wd : Int} {d s : Nat} {a : E} (ha : Good wd d s a) : Good wd (d + 1) (s + 1) (.mk 4 wd 0 [a]) := by
  have hw := ha.width
  refine ⟨?_, ?_, rfl⟩
  · simp only [E.deep, Bool.and_eq_true, decide_eq_true_eq, deepAll_iff]
    refine ⟨⟨by omega, ?_⟩, ?_⟩
    · simp [ha.2.2, shapedW, hw]
    · intro k hk; simp at hk; subst hk; exact deep_up _ _ _ (by omega) ha.1
  · simp only [E.size, sizeAll]; have := ha.2.1; omega
theorem Good.eval {wd : Int} {d s : Nat} {e : E} (h : Good wd d s e) (hd : d ≤ 40) (hs : s ≤ 600) (old now : List Int) : e.eval old now = e.val old now := by
  have : e.wf = true := by
    simp only [E.wf, Bool.and_eq_true, decide_eq_true_eq]
    have := h.2.1
    exact ⟨by omega, deep_up _ _ _ hd h.1⟩
  rw [E.eval, if_pos this]
theorem Good.range {wd : Int} {d s : Nat} {e : E} (h : Good wd d s e) (old now : List Int) : 0 ≤ e.val old now ∧ e.val old now < pw wd := by
  have := val_range old now e d h.1; rwa [h.2.2] at this
theorem val_two (old now : List Int) (op wd : Int) (a b : E) (h : 4 ≤ op) : (E.mk op wd 0 [a, b]).val old now = applyS op (a.val old now) (b.val old now) 0 % pw wd := by
  rw [E.val, if_neg (by omega), if_neg (by omega), if_neg (by omega)]; simp [valAll]
theorem val_not (old now : List Int) (wd : Int) (a : E) : (E.mk 4 wd 0 [a]).val old now = (-1 - a.val old now) % pw wd := by
  rw [E.val, if_neg (by omega), if_neg (by omega), if_neg (by omega)]; simp [valAll, applyS]

/-- The numbers. -/
theorem m_add_assoc (x y z P : Int) : ((x + y) % P + z) % P = (x + (y + z) % P) % P := by
  rw [Int.emod_add_emod, Int.add_emod_emod, Int.add_assoc]
theorem m_sub (x y P : Int) (h0 : 0 ≤ x) (h1 : x < P) : ((x + y) % P - y) % P = x := by
  rw [Int.emod_sub_emod, Int.add_sub_cancel, Int.emod_eq_of_lt h0 h1]
theorem m_dist (x y z P : Int) : (x * ((y + z) % P)) % P = ((x * y) % P + (x * z) % P) % P := by
  rw [Int.mul_emod, Int.emod_emod, ← Int.mul_emod, Int.mul_add, ← Int.add_emod]
theorem m_neg (x P : Int) (h0 : 0 ≤ x) (h1 : x < P) : (-1 - x) % P = P - 1 - x := by
  rw [← Int.add_emod_right, Int.emod_eq_of_lt (by omega) (by omega)]; omega
theorem m_compl (x P : Int) (h0 : 0 ≤ x) (h1 : x < P) : (x + (-1 - x) % P) % P = P - 1 := by
  rw [m_neg x P h0 h1, Int.emod_eq_of_lt (by omega) (by omega)]; omega
theorem val_ite (old now : List Int) (wd : Int) (x a b : E) : (E.mk 14 wd 0 [x, a, b]).val old now = (if x.val old now = 1 then a.val old now else b.val old now) % pw wd := by
  rw [E.val, if_neg (by omega), if_neg (by omega), if_neg (by omega)]; simp [valAll, applyS]
end Go.Proofs.YtlcgbdjmlnjhcaaGreatDoor
