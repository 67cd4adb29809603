/-
  The plain law of RelationDefinition: the numbers of two states stand for the states.
-/
import Derived.Test.YtlnahhlddekhoaaDoorZNum
import Derived.Test.YtlnahhlddekhoaaDoorMRo
import Derived.Test.YtlnahhlddekhoaaDoorMLw
namespace Go.Proofs.YtlnahhlddekhoaaDoor
open Go.RowKit

/-- Two pairs of states agree on a leaf. -/
def LeafEq (o1 n1 o2 n2 : List Int) (x : E) : Prop := (x.op = 2 → elemS n1 x.n % pw x.wd = elemS n2 x.n % pw x.wd) ∧ (x.op = 3 → elemS o1 x.n % pw x.wd = elemS o2 x.n % pw x.wd)
theorem shapedW_nokids {op wd n : Int} {ws : List Int} (h : shapedW op wd n ws = true) (ho : op = 2 ∨ op = 3) : ws = [] := by
  unfold shapedW at h
  rw [Bool.and_eq_true, if_neg (by omega), if_pos ho] at h
  simp only [Bool.and_eq_true, decide_eq_true_eq] at h
  exact h.2.1.1
mutual
theorem val_leaf (o1 n1 o2 n2 : List Int) : (e : E) → (d : Nat) → e.deep d = true → (∀ x ∈ e.leaves, LeafEq o1 n1 o2 n2 x) → e.val o1 n1 = e.val o2 n2
  | .mk op wd n ks, d, hd, h => by
    simp only [E.deep, Bool.and_eq_true] at hd
    obtain ⟨⟨_, hs⟩, hk⟩ := hd
    rw [E.val, E.val]
    by_cases c1 : op = 1
    · rw [if_pos c1, if_pos c1]
    · rw [if_neg c1, if_neg c1]
      by_cases c2 : op = 2
      · have := shapedW_nokids hs (.inl c2)
        have hks : ks = [] := List.map_eq_nil_iff.1 this
        subst hks
        rw [leaves_nil] at h
        rw [if_pos c2, if_pos c2]
        exact (h (.mk op wd n []) (by simp)).1 c2
      · rw [if_neg c2, if_neg c2]
        by_cases c3 : op = 3
        · have := shapedW_nokids hs (.inr c3)
          have hks : ks = [] := List.map_eq_nil_iff.1 this
          subst hks
          rw [leaves_nil] at h
          rw [if_pos c3, if_pos c3]
          exact (h (.mk op wd n []) (by simp)).2 c3
        · rw [if_neg c3, if_neg c3]
          have e : valAll o1 n1 ks = valAll o2 n2 ks := by
            by_cases c : ks = []
            · subst c; rfl
            · rw [leaves_cons c] at h
              exact val_leaf_list o1 n1 o2 n2 ks (d - 1) hk h
          rw [e]
theorem val_leaf_list (o1 n1 o2 n2 : List Int) : (ks : List E) → (d : Nat) → deepAll ks d = true → (∀ x ∈ leavesAll ks, LeafEq o1 n1 o2 n2 x) → valAll o1 n1 ks = valAll o2 n2 ks
  | [], _, _, _ => rfl
  | e :: r, d, hd, h => by
    simp only [deepAll, Bool.and_eq_true] at hd
    simp only [leavesAll, List.mem_append] at h
    rw [valAll, valAll, val_leaf o1 n1 o2 n2 e d hd.1 (fun x hx => h x (.inl hx)), val_leaf_list o1 n1 o2 n2 r d hd.2 (fun x hx => h x (.inr hx))]
end
theorem eval_leaf {o1 n1 o2 n2 : List Int} {e : E} (h : ∀ x ∈ e.leaves, LeafEq o1 n1 o2 n2 x) : e.eval o1 n1 = e.eval o2 n2 := by
  unfold E.eval
  split
  · next hw =>
    simp only [E.wf, Bool.and_eq_true] at hw
    exact val_leaf o1 n1 o2 n2 e 40 hw.2 h
  · rfl

section
variable {cs ws : List Int} (hl : cs.length = ws.length) (hw : ∀ x ∈ ws, 1 ≤ x ∧ x ≤ 8) (hinc : incB cs = true) (hb : ∀ i, i < cs.length → 0 ≤ cs.getD i 0 ∧ cs.getD i 0 < 32)
include hl hw
/-- The low bits below a cell. -/
theorem low_le {i k : Nat} (h : i < k) (hk : k ≤ cs.length) : ∃ r, 0 ≤ r ∧ sumI (ws.take k) = sumI (ws.take i) + (ws.getD i 0) + r ∧ 0 ≤ sumI (ws.take i) ∧ 1 ≤ ws.getD i 0 ∧ ws.getD i 0 ≤ 8 := by
  have hg : ws.getD i 0 = ws[i]'(by omega) := by simp [List.getD, show i < ws.length by omega]
  have hx := hw (ws[i]'(by omega)) (List.getElem_mem _)
  have key : ∀ j, i + 1 + j ≤ cs.length → ∃ r, 0 ≤ r ∧ sumI (ws.take (i + 1 + j)) = sumI (ws.take i) + (ws.getD i 0) + r := by
    intro j
    induction j with
    | zero => intro _; exact ⟨0, by omega, by rw [Nat.add_zero, sum_take (show i < ws.length by omega), hg]; omega⟩
    | succ j ih =>
      intro hj
      obtain ⟨r, h0, h1⟩ := ih (by omega)
      have h2 := hw _ (List.getElem_mem (show i + 1 + j < ws.length by omega))
      refine ⟨r + ws[i + 1 + j]'(by omega), by omega, ?_⟩
      rw [← Nat.add_assoc, sum_take (show i + 1 + j < ws.length by omega), h1]; omega
  obtain ⟨r, h0, h1⟩ := key (k - i - 1) (by omega)
  rw [show i + 1 + (k - i - 1) = k by omega] at h1
  exact ⟨r, h0, h1, (sum_bound hw i (by omega)).1, by omega, by omega⟩
theorem num_digit (st : List Int) : ∀ k, k ≤ cs.length → ∀ i, i < k → (numTo cs ws st k).1 / pw (sumI (ws.take i)) % pw (ws.getD i 0) = elemS st (cs.getD i 0) % pw (ws.getD i 0) := by
  intro k
  induction k with
  | zero => intro _ i hi; omega
  | succ k ih =>
    intro hk i hi
    obtain ⟨_, h2, h3⟩ := num_bd st hl hw k (by omega)
    have hlow := num_low st hl k (by omega)
    rw [hlow] at h3
    have hc : cs.getD k 0 = cs[k]'(by omega) := by simp [List.getD, show k < cs.length by omega]
    have hwk : ws.getD k 0 = ws[k]'(by omega) := by simp [List.getD, show k < ws.length by omega]
    have hv : ∃ v, (numTo cs ws st (k + 1)).1 = (numTo cs ws st k).1 + v * pw (sumI (ws.take k)) ∧ v = elemS st (cs.getD k 0) % pw (ws.getD k 0) := by
      refine ⟨_, ?_, rfl⟩
      rw [numTo_succ st hl (by omega)]
      unfold numStep elemS
      dsimp only
      rw [hlow, hc, hwk]
      split
      · rfl
      · next hn =>
        have : st.getD (cs[k]'(by omega)).toNat 0 = 0 := by simp [List.getD, show st.length ≤ (cs[k]'(by omega)).toNat by omega]
        rw [this]; simp
    obtain ⟨v, hv, hv2⟩ := hv
    rw [hv]
    have hq := @pw_pos (sumI (ws.take i))
    by_cases e : i = k
    · subst e
      rw [Int.add_mul_ediv_right _ _ (by omega), Int.ediv_eq_zero_of_lt h2 h3, Int.zero_add, hv2, Int.emod_emod]
    · obtain ⟨r, r0, r1, r2, r3, _⟩ := low_le hl hw (show i < k by omega) (by omega)
      rw [← ih (by omega) i (by omega), r1, pw_add (by omega) r0, pw_add r2 (by omega)]
      rw [show v * (pw (sumI (ws.take i)) * pw (ws.getD i 0) * pw r) = v * pw r * pw (ws.getD i 0) * pw (sumI (ws.take i)) by ac_rfl]
      rw [Int.add_mul_ediv_right _ _ (by omega), Int.add_mul_emod_self_right]
include hinc hb
theorem st_digit (n : Int) (base : List Int) (h32 : base.length = 32) : ∀ k, k ≤ cs.length → (stTo cs ws n base k).1 = n / pw (sumI (ws.take k)) ∧ (stTo cs ws n base k).2.length = 32 ∧
    ∀ i, i < k → elemS (stTo cs ws n base k).2 (cs.getD i 0) = n / pw (sumI (ws.take i)) % pw (ws.getD i 0) := by
  intro k
  induction k with
  | zero => intro _; exact ⟨by simp [stTo, sumI, pw], h32, fun i hi => by omega⟩
  | succ k ih =>
    intro hk
    obtain ⟨h1, h2, h3⟩ := ih (by omega)
    have hc : cs.getD k 0 = cs[k]'(by omega) := by simp [List.getD, show k < cs.length by omega]
    have hwk : ws.getD k 0 = ws[k]'(by omega) := by simp [List.getD, show k < ws.length by omega]
    have hbk := hb k (by omega)
    have hs0 := (sum_bound hw k (by omega)).1
    have hx := hw (ws[k]'(by omega)) (List.getElem_mem _)
    rw [stTo_succ n base hl (by omega)]
    unfold stStep
    dsimp only
    rw [hc] at hbk
    rw [if_pos (by rw [h2]; omega)]
    refine ⟨?_, by rw [List.length_set]; exact h2, fun i hi => ?_⟩
    · rw [h1, sum_take (show k < ws.length by omega), pw_add hs0 (by omega), Int.ediv_ediv_of_nonneg (Int.le_of_lt pw_pos)]
    · unfold elemS at *
      by_cases e : i = k
      · subst e
        rw [hc, hwk, h1]
        simp [List.getD, show (cs[i]'(by omega)).toNat < (stTo cs ws n base i).2.length by rw [h2]; omega]
      · have hlt := inc_all hinc i k (by omega) (by omega)
        have hbi := hb i (by omega)
        rw [hc] at hlt
        rw [← h3 i (by omega)]
        simp only [List.getD, List.getElem?_set]
        rw [if_neg (by simp only [List.getD] at hlt hbi; omega)]
end
theorem st_of_num {cs ws : List Int} (hs : smallB cs ws = true) (st : List Int) {i : Nat} (hi : i < cs.length) : elemS (stN cs ws (numS cs ws st).toNat) (cs.getD i 0) = elemS st (cs.getD i 0) % pw (ws.getD i 0) := by
  obtain ⟨h1, hwd, _, _⟩ := small_sum hs
  obtain ⟨hl, hinc, hin⟩ := shape_iff.1 h1
  have hb := num_bd st hl hwd.2 cs.length (Nat.le_refl _)
  have hN : ((numS cs ws st).toNat : Int) = (numTo cs ws st cs.length).1 := by unfold numS; rw [hs, if_pos rfl]; omega
  unfold stN stateS
  rw [hs, if_pos rfl, hN]
  rw [(st_digit hl hwd.2 hinc (fun i h => ⟨(hin i h).1, (hin i h).2.1⟩) _ zeros32 (by simp [zeros32]) cs.length (Nat.le_refl _)).2.2 i hi]
  exact num_digit hl hwd.2 st cs.length (Nat.le_refl _) i hi
theorem num_lt {cs ws : List Int} (hs : smallB cs ws = true) (st : List Int) : 0 ≤ numS cs ws st ∧ numS cs ws st < pw (sumI ws) := by
  obtain ⟨h1, hwd, _, _⟩ := small_sum hs
  obtain ⟨hl, _, _⟩ := shape_iff.1 h1
  have hb := num_bd st hl hwd.2 cs.length (Nat.le_refl _)
  have hlow := num_low st hl cs.length (Nat.le_refl _)
  rw [hlow, hl, List.take_length] at hb
  unfold numS
  rw [hs, if_pos rfl, hl]
  exact ⟨hb.2.1, hb.2.2⟩
theorem occurs_of {op : Int} {e : E} {x : E} (hx : x ∈ e.leaves) (ho : x.op = op) {j : Nat} (hj : x.n = (j : Int)) : occurs op e.leaves j = true := by
  unfold occurs
  rw [List.any_eq_true]
  exact ⟨x, hx, by rw [Bool.and_eq_true, decide_eq_true_eq, decide_eq_true_eq]; exact ⟨ho, hj⟩⟩
theorem mem_upTo' {f : Nat → Bool} {k j : Nat} (hj : j < k) (hf : f j = true) : (j : Int) ∈ upTo f k := by
  unfold upTo
  exact List.mem_map.2 ⟨j, List.mem_filter.2 ⟨List.mem_range.2 hj, hf⟩, rfl⟩
/-- A leaf that is a cell of the list, at the number's state and at the state. -/
theorem leaf_num {cells : List CellD} {list : List Int} (hs : smallB list (wOf cells list) = true) {x : E} (hok : okLeaf cells true x = true) (h1 : x.op ≠ 1) (hmem : x.n ∈ list) (st : List Int) :
    elemS (stN list (wOf cells list) (numS list (wOf cells list) st).toNat) x.n % pw x.wd = elemS st x.n % pw x.wd := by
  obtain ⟨i, hi, hn⟩ := List.getElem_of_mem hmem
  have hg : list.getD i 0 = x.n := by simp [List.getD, hi, hn]
  unfold okLeaf at hok
  simp only [Bool.or_eq_true, Bool.and_eq_true, decide_eq_true_eq] at hok
  rcases hok with c | c
  · exact absurd c h1
  have hwi : (wOf cells list).getD i 0 = x.wd := by
    have e : (cells.map CellD.W).getD x.n.toNat 0 = x.wd := c.1.2
    unfold wOf
    simp only [List.getD, List.getElem?_map, List.getElem?_eq_getElem hi, Option.map_some, Option.getD_some, hn] at e ⊢
    unfold wAt
    simpa using e
  have := st_of_num hs st hi
  rw [hg, hwi] at this
  rw [this, Int.emod_emod]
theorem def_eval {cells : List CellD} {list : List Int} {e : E} (hs : smallB list (wOf cells list) = true) (hv : e.valid cells true = true) (hsup : supR list e = true) (old now : List Int) :
    e.eval (stN list (wOf cells list) (numS list (wOf cells list) old).toNat) (stN list (wOf cells list) (numS list (wOf cells list) now).toNat) = e.eval old now := by
  simp only [E.valid, Bool.and_eq_true, List.all_eq_true] at hv
  have hdp := hv.1
  simp only [E.wf, Bool.and_eq_true] at hdp
  refine eval_leaf fun x hx => ?_
  have hok := hv.2 x hx
  have hsh := shapedW_leaf (leaves_shaped e 40 hdp.2 x hx).2
  have hmem : x.op = 2 ∨ x.op = 3 → x.n ∈ list := by
    intro ho
    have h32 := hsh.2.2 (by omega)
    obtain ⟨j, hj⟩ := Int.eq_ofNat_of_zero_le hsh.2.1
    unfold supR at hsup
    rw [List.all_eq_true] at hsup
    have : (j : Int) ∈ e.supOld ++ e.supNow := by
      rw [List.mem_append]
      unfold E.supOld E.supNow
      rw [if_pos hv.1, if_pos hv.1]
      rcases ho with ho | ho
      · exact .inr (mem_upTo' (by omega) (occurs_of hx ho hj))
      · exact .inl (mem_upTo' (by omega) (occurs_of hx ho hj))
    have := hsup _ this
    rw [List.contains_iff_mem] at this
    rw [hj]; exact this
  exact ⟨fun ho => leaf_num hs hok (by omega) (hmem (.inl ho)) now, fun ho => leaf_num hs hok (by omega) (hmem (.inr ho)) old⟩
theorem err_parts {cells : List CellD} {list : List Int} {e : E} (h : relErr cells list e = 0) : smallB list (wOf cells list) = true ∧ e.valid cells true = true ∧ supR list e = true ∧ sumI (wOf cells list) ≤ 6 := by
  unfold relErr at h
  split at h
  · next h0 =>
    unfold shapeErr at h0
    split at h0
    · next hw =>
      split at h0
      · next h6 =>
        unfold widthsB at hw
        simp only [Bool.and_eq_true] at hw
        split at h
        · next hv =>
          rw [Bool.and_eq_true] at hv
          split at h
          · next hsp => exact ⟨small_of hw.2 (by omega), hv.1, hsp, h6⟩
          · omega
        · omega
      · omega
    · omega
  · next h0 => exact absurd h h0
/-- The law. -/
theorem def_law {cells : List CellD} {list : List Int} {e : E} (h : relErr cells list e = 0) (old now : List Int) :
    leadsB (castP (relP cells list e)) (numS list (wOf cells list) old) (numS list (wOf cells list) now) = decide (e.eval old now = 1) := by
  obtain ⟨hs, hv, hsup, _⟩ := err_parts h
  have ho := num_lt hs old; have hn := num_lt hs now
  rw [← def_eval hs hv hsup old now]
  generalize hx : numS list (wOf cells list) old = x at *
  generalize hy : numS list (wOf cells list) now = y at *
  obtain ⟨x, rfl⟩ := Int.eq_ofNat_of_zero_le ho.1
  obtain ⟨y, rfl⟩ := Int.eq_ofNat_of_zero_le hn.1
  unfold leadsB
  rw [Bool.eq_iff_iff, decide_eq_true_eq, decide_eq_true_eq, mem_castP]
  unfold relP
  rw [mem_relTo]
  unfold relB
  rw [decide_eq_true_eq, Int.toNat_natCast, Int.toNat_natCast]
  exact ⟨fun h => h.1, fun h => ⟨h, .inl ⟨by omega, by omega⟩⟩⟩
end Go.Proofs.YtlnahhlddekhoaaDoor
