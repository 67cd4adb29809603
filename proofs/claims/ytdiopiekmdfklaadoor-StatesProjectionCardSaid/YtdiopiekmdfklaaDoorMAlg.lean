/-
  The plain laws of StatesAlgebra and StatesDefinition.
  The plain laws of states' numbers: the number of State, the values of State.
-/
import Derived.Test.YtdiopiekmdfklaaDoorMLt
namespace Go.Proofs.YtdiopiekmdfklaaDoor
open Go.RowKit

theorem con_cast {cs ws : List Int} {l : List Nat} (h : ValidS cs ws l) (st : List Int) : containsS cs ws (castL l) st = decide ((numS cs ws st).toNat ∈ l) := by
  have hn := num_lt h.small st
  unfold containsS
  rw [valid_of h, Bool.true_and, decide_eq_decide]
  unfold castL
  rw [List.mem_map]
  constructor
  · rintro ⟨x, hx, e⟩
    rw [← e]; simpa using hx
  · intro hx
    exact ⟨_, hx, by omega⟩
theorem self_filter {l : List Nat} (hs : l.Pairwise (· < ·)) (hb : ∀ x ∈ l, x < 4096) : l = (List.range 4096).filter fun x => decide (x ∈ l) :=
  sorted_ext hs (List.Pairwise.filter _ List.pairwise_lt_range) fun x => by
    rw [List.mem_filter, List.mem_range, decide_eq_true_eq]
    exact ⟨fun h => ⟨hb x h, h⟩, fun h => h.2⟩
theorem len_count {l : List Nat} (hs : l.Pairwise (· < ·)) (hb : ∀ x ∈ l, x < 4096) : l.length = (List.range 4096).countP fun x => decide (x ∈ l) := by
  rw [List.countP_eq_length_filter, ← self_filter hs hb]
def cmbL (g : Nat → Nat → Nat) (S T : List Nat) : List Nat := listM (zipM g (mapL S) (mapL T))
section
variable {g : Nat → Nat → Nat} {p : Bool → Bool → Bool} (hf : ∀ x y j, (g x y).testBit j = p (x.testBit j) (y.testBit j)) {cs ws : List Int} {S T : List Nat} (hS : ValidS cs ws S) (hT : ValidS cs ws T)
include hf hS hT
theorem cmb_eq : cmbL g S T = (List.range 4096).filter fun x => p (decide (x ∈ S)) (decide (x ∈ T)) := list_zip hf hS.lt4096 hT.lt4096
theorem mem_cmb {x : Nat} (hx : x < 4096) : x ∈ cmbL g S T ↔ p (decide (x ∈ S)) (decide (x ∈ T)) = true := by
  rw [cmb_eq hf hS hT, List.mem_filter, List.mem_range]
  exact ⟨fun h => h.2, fun h => ⟨hx, h⟩⟩
theorem cmb_valid (h0 : p false false = false) : ValidS cs ws (cmbL g S T) :=
  ⟨hS.small, listM_sorted _, fun x hx => by
    rw [cmb_eq hf hS hT, List.mem_filter] at hx
    have h2 := hx.2
    by_cases c : x ∈ S
    · exact hS.lt x c
    · by_cases d : x ∈ T
      · exact hT.lt x d
      · simp only [c, d, decide_false] at h2
        rw [h0] at h2; cases h2⟩
theorem len_cmb : (cmbL g S T).length = (List.range 4096).countP fun x => p (decide (x ∈ S)) (decide (x ∈ T)) := by
  rw [cmb_eq hf hS hT, List.countP_eq_length_filter]
end
theorem count_split (a b : Nat → Bool) (l : List Nat) : (l.countP fun x => a x && b x) + (l.countP fun x => a x || b x) = l.countP a + l.countP b ∧ (l.countP fun x => a x && b x) + (l.countP fun x => a x && !b x) = l.countP a := by
  induction l with
  | nil => simp
  | cons y r ih =>
    simp only [List.countP_cons]
    cases a y <;> cases b y <;> simp <;> omega
theorem and_bit (x y j : Nat) : (x &&& y).testBit j = (x.testBit j && y.testBit j) := Nat.testBit_and _ _ _
theorem or_bit (x y j : Nat) : (x ||| y).testBit j = (x.testBit j || y.testBit j) := Nat.testBit_or _ _ _
/-- What combine needs, in numbers. -/
theorem comb_parts {cs ws is cs2 ws2 js : List Int} (h : combB cs ws is cs2 ws2 js = true) : cs2 = cs ∧ ws2 = ws ∧ ∃ S T, is = castL S ∧ js = castL T ∧ ValidS cs ws S ∧ ValidS cs ws T := by
  unfold combB at h
  simp only [Bool.and_eq_true, decide_eq_true_eq] at h
  obtain ⟨⟨⟨h1, h2⟩, rfl⟩, rfl⟩ := h
  obtain ⟨e1, v1⟩ := valid_nat h1
  obtain ⟨e2, v2⟩ := valid_nat h2
  exact ⟨rfl, rfl, _, _, e1.symm, e2.symm, v1, v2⟩
theorem comb_back {cs ws : List Int} {S T : List Nat} (hS : ValidS cs ws S) (hT : ValidS cs ws T) : combB cs ws (castL S) cs ws (castL T) = true := by
  unfold combB; rw [valid_of hS, valid_of hT]; simp
section
variable {cs ws : List Int} {S T : List Nat} (hS : ValidS cs ws S) (hT : ValidS cs ws T)
include hS hT
theorem met_ok : ValidS cs ws (cmbL (· &&& ·) S T) := cmb_valid (p := fun a b => a && b) and_bit hS hT rfl
theorem joi_ok : ValidS cs ws (cmbL (· ||| ·) S T) := cmb_valid (p := fun a b => a || b) or_bit hS hT rfl
theorem dif_ok : ValidS cs ws (cmbL dif S T) := cmb_valid (p := fun a b => a && !b) dif_bit hS hT rfl
end
/-- StatesAlgebra. -/
theorem alg_law {cs ws : List Int} {S T : List Nat} (hS : ValidS cs ws S) (hT : ValidS cs ws T) (st : List Int) :
    containsS cs ws (castL (cmbL (· &&& ·) S T)) st = (containsS cs ws (castL S) st && containsS cs ws (castL T) st) ∧
    containsS cs ws (castL (cmbL (· ||| ·) S T)) st = (containsS cs ws (castL S) st || containsS cs ws (castL T) st) ∧
    containsS cs ws (castL (cmbL dif S T)) st = (containsS cs ws (castL S) st && !containsS cs ws (castL T) st) ∧
    (cmbL (· &&& ·) S T).length + (cmbL (· ||| ·) S T).length = S.length + T.length ∧ (cmbL (· &&& ·) S T).length + (cmbL dif S T).length = S.length ∧ S.length ≤ 4096 ∧ T.length ≤ 4096 := by
  have hn := num_lt hS.small st
  have h4 : (numS cs ws st).toNat < 4096 := by
    obtain ⟨_, _, hs0, hs12⟩ := small_sum hS.small
    have := pw_mono hs0 hs12
    have e : pw 12 = 4096 := by decide
    omega
  rw [con_cast hS, con_cast hT, con_cast (met_ok hS hT), con_cast (joi_ok hS hT), con_cast (dif_ok hS hT)]
  have c1 := mem_cmb (p := fun a b => a && b) and_bit hS hT h4
  have c2 := mem_cmb (p := fun a b => a || b) or_bit hS hT h4
  have c3 := mem_cmb (p := fun a b => a && !b) dif_bit hS hT h4
  have sp := count_split (fun x => decide (x ∈ S)) (fun x => decide (x ∈ T)) (List.range 4096)
  refine ⟨?_, ?_, ?_, ?_, ?_, sorted_len hS.sorted hS.lt4096, sorted_len hT.sorted hT.lt4096⟩
  · rw [Bool.eq_iff_iff, decide_eq_true_eq, c1]
  · rw [Bool.eq_iff_iff, decide_eq_true_eq, c2]
  · rw [Bool.eq_iff_iff, decide_eq_true_eq, c3]
  · rw [len_cmb (p := fun a b => a && b) and_bit hS hT, len_cmb (p := fun a b => a || b) or_bit hS hT, len_count hS.sorted hS.lt4096, len_count hT.sorted hT.lt4096]; exact sp.1
  · rw [len_cmb (p := fun a b => a && b) and_bit hS hT, len_cmb (p := fun a b => a && !b) dif_bit hS hT, len_count hS.sorted hS.lt4096]; exact sp.2

/-- StatesDefinition: the number of a state stands for the state. -/
theorem of_eval {cells : List CellD} {list : List Int} {e : E} (hs : smallB list (wOf cells list) = true) (hv : e.valid cells false = true) (hsup : supB list e = true) (st o : List Int) :
    e.eval (stN list (wOf cells list) (numS list (wOf cells list) st).toNat) (stN list (wOf cells list) (numS list (wOf cells list) st).toNat) = e.eval o st := by
  simp only [E.valid, Bool.and_eq_true, List.all_eq_true] at hv
  have hdp := hv.1
  simp only [E.wf, Bool.and_eq_true] at hdp
  refine eval_leaf fun x hx => ?_
  have hok := hv.2 x hx
  have hsh := shapedW_leaf (leaves_shaped e 40 hdp.2 x hx).2
  have hno : x.op ≠ 3 := fun h3 => by
    unfold okLeaf at hok
    simp [h3] at hok
  refine ⟨fun ho => leaf_num hs hok (by omega) ?_ st, fun ho => absurd ho hno⟩
  have h32 := hsh.2.2 (by omega)
  obtain ⟨j, hj⟩ := Int.eq_ofNat_of_zero_le hsh.2.1
  unfold supB at hsup
  rw [List.all_eq_true] at hsup
  have : (j : Int) ∈ e.supNow := by
    unfold E.supNow
    rw [if_pos hv.1]
    exact mem_upTo' (by omega) (occurs_of hx ho hj)
  have := hsup _ this
  rw [List.contains_iff_mem] at this
  rw [hj]; exact this
theorem of_parts {cells : List CellD} {list : List Int} {e : E} (h : ofErr cells list e = 0) : smallB list (wOf cells list) = true ∧ e.valid cells false = true ∧ supB list e = true ∧ e.wd = 1 := by
  unfold ofErr at h
  split at h
  · next hw =>
    split at h
    · next h12 =>
      split at h
      · next hv =>
        split at h
        · next hsp =>
          unfold widthsB at hw
          simp only [Bool.and_eq_true, decide_eq_true_eq] at hw hv
          exact ⟨small_of hw.2 h12, hv.1, hsp, hv.2⟩
        · omega
      · omega
    · omega
  · omega
theorem of_valid {cells : List CellD} {list : List Int} {e : E} (h : ofErr cells list e = 0) : ValidS list (wOf cells list) (ofIn cells list e) := by
  obtain ⟨hs, _⟩ := of_parts h
  refine ⟨hs, List.Pairwise.filter _ List.pairwise_lt_range, fun x hx => ?_⟩
  have := List.mem_range.1 (List.mem_filter.1 hx).1
  omega
theorem of_law {cells : List CellD} {list : List Int} {e : E} (h : ofErr cells list e = 0) (o st : List Int) : containsS list (wOf cells list) (castL (ofIn cells list e)) st = decide (e.eval o st = 1) := by
  obtain ⟨hs, hv, hsup, _⟩ := of_parts h
  have hn := num_lt hs st
  rw [con_cast (of_valid h), ← of_eval hs hv hsup st o, decide_eq_decide]
  unfold ofIn
  rw [List.mem_filter, List.mem_range, decide_eq_true_eq]
  exact ⟨fun h => h.2, fun h => ⟨by omega, h⟩⟩
end Go.Proofs.YtdiopiekmdfklaaDoor
namespace Go.Proofs.YtdiopiekmdfklaaDoor
open Go.RowKit

theorem elem_if (st : List Int) {c : Int} (hc : 0 ≤ c) (p : Int) : (if c < (st.length : Int) then st.getD c.toNat 0 % p else 0) = elemS st c % p := by
  unfold elemS
  split
  · rfl
  · rw [show st.getD c.toNat 0 = 0 by simp [List.getD, show st.length ≤ c.toNat by omega]]; simp
section
variable {cs ws : List Int} (hl : cs.length = ws.length) (hw : ∀ x ∈ ws, 1 ≤ x ∧ x ≤ 8) (hinc : incB cs = true) (hb : ∀ i, i < cs.length → 0 ≤ cs.getD i 0 ∧ cs.getD i 0 < 32)
include hl hw hinc hb
/-- The values of State, at a base that contains all cells. -/
theorem st_dig (n : Int) (base : List Int) (h32 : 32 ≤ base.length) : ∀ k, k ≤ cs.length → (stTo cs ws n base k).1 = n / pw (sumI (ws.take k)) ∧ (stTo cs ws n base k).2.length = base.length ∧
    (∀ i, i < k → elemS (stTo cs ws n base k).2 (cs.getD i 0) = n / pw (sumI (ws.take i)) % pw (ws.getD i 0)) ∧ (∀ j : Nat, (∀ i, i < k → cs.getD i 0 ≠ (j : Int)) → (stTo cs ws n base k).2.getD j 0 = base.getD j 0) := by
  intro k
  induction k with
  | zero => intro _; exact ⟨by simp [stTo, sumI, pw], rfl, fun i hi => by omega, fun _ _ => rfl⟩
  | succ k ih =>
    intro hk
    obtain ⟨h1, h2, h3, h4⟩ := ih (by omega)
    have hc : cs.getD k 0 = cs[k]'(by omega) := by simp [List.getD, show k < cs.length by omega]
    have hwk : ws.getD k 0 = ws[k]'(by omega) := by simp [List.getD, show k < ws.length by omega]
    have hbk := hb k (by omega)
    have hs0 := (sum_bound hw k (by omega)).1
    have hx := hw (ws[k]'(by omega)) (List.getElem_mem _)
    rw [stTo_succ n base hl (by omega)]
    unfold stStep
    dsimp only
    rw [hc] at hbk
    rw [if_pos (by rw [h2]; omega)]
    refine ⟨?_, by rw [List.length_set]; exact h2, fun i hi => ?_, fun j hj => ?_⟩
    · rw [h1, sum_take (show k < ws.length by omega), pw_add hs0 (by omega), Int.ediv_ediv_of_nonneg (Int.le_of_lt pw_pos)]
    · unfold elemS at *
      by_cases e : i = k
      · subst e
        rw [hc, hwk, h1]
        simp [List.getD, show (cs[i]'(by omega)).toNat < (stTo cs ws n base i).2.length by rw [h2]; omega]
      · have hlt := inc_all hinc i k (by omega) (by omega)
        have hbi := hb i (by omega)
        rw [hc] at hlt
        rw [← h3 i (by omega)]
        simp only [List.getD, List.getElem?_set]
        rw [if_neg (by simp only [List.getD] at hlt hbi; omega)]
    · have h5 := hj k (by omega)
      rw [hc] at h5
      rw [← h4 j (fun i hi => hj i (by omega))]
      simp only [List.getD, List.getElem?_set]
      rw [if_neg (by omega)]
omit hinc in
/-- The number of a state whose values are the digits of a number. -/
theorem num_dig (n : Int) (st : List Int) (h : ∀ i, i < cs.length → elemS st (cs.getD i 0) % pw (ws.getD i 0) = n / pw (sumI (ws.take i)) % pw (ws.getD i 0)) : ∀ k, k ≤ cs.length → (numTo cs ws st k).1 = n % pw (sumI (ws.take k)) := by
  intro k
  induction k with
  | zero => intro _; simp [numTo, sumI, pw]
  | succ k ih =>
    intro hk
    have hc : cs.getD k 0 = cs[k]'(by omega) := by simp [List.getD, show k < cs.length by omega]
    have hwk : ws.getD k 0 = ws[k]'(by omega) := by simp [List.getD, show k < ws.length by omega]
    have h1 := h k (by omega)
    rw [hc, hwk] at h1
    have hbk := hb k (by omega)
    rw [hc] at hbk
    have hlow := num_low st hl k (by omega)
    have hs0 := (sum_bound hw k (by omega)).1
    have hx := hw (ws[k]'(by omega)) (List.getElem_mem _)
    rw [numTo_succ st hl (by omega)]
    unfold numStep
    dsimp only
    rw [elem_if st hbk.1, h1, ih (by omega), hlow, sum_take (show k < ws.length by omega), pw_add hs0 (by omega)]
    have ha := @pw_pos (sumI (ws.take k))
    generalize pw (sumI (ws.take k)) = a at *
    generalize pw (ws[k]'(by omega)) = b at *
    have e1 := Int.emod_add_mul_ediv n a
    have e2 := Int.emod_add_mul_ediv (n / a) b
    have e3 := Int.emod_add_mul_ediv n (a * b)
    have e4 : n / (a * b) = n / a / b := (Int.ediv_ediv_of_nonneg (Int.le_of_lt ha)).symm
    rw [e4] at e3
    generalize n / a / b = q at *
    generalize n / a % b = r at *
    generalize n % (a * b) = s at *
    generalize n / a = u at *
    generalize n % a = v at *
    rw [← e2, Int.mul_add, ← Int.mul_assoc] at e1
    rw [Int.mul_comm r a]
    omega
end
theorem state_len {cs ws : List Int} (hs : smallB cs ws = true) (n : Int) {base : List Int} (h32 : 32 ≤ base.length) : (stateS cs ws n base).length = base.length := by
  obtain ⟨h1, hwd, _, _⟩ := small_sum hs
  obtain ⟨hl, hinc, hin⟩ := shape_iff.1 h1
  unfold stateS; rw [if_pos hs]
  exact (st_dig hl hwd.2 hinc (fun i h => ⟨(hin i h).1, (hin i h).2.1⟩) n base h32 cs.length (Nat.le_refl _)).2.1
theorem state_at {cs ws : List Int} (hs : smallB cs ws = true) (n : Int) {base : List Int} (h32 : 32 ≤ base.length) {i : Nat} (hi : i < cs.length) : elemS (stateS cs ws n base) (cs.getD i 0) = n / pw (sumI (ws.take i)) % pw (ws.getD i 0) := by
  obtain ⟨h1, hwd, _, _⟩ := small_sum hs
  obtain ⟨hl, hinc, hin⟩ := shape_iff.1 h1
  unfold stateS; rw [if_pos hs]
  exact (st_dig hl hwd.2 hinc (fun i h => ⟨(hin i h).1, (hin i h).2.1⟩) n base h32 cs.length (Nat.le_refl _)).2.2.1 i hi
theorem state_other {cs ws : List Int} (hs : smallB cs ws = true) (n : Int) {base : List Int} (h32 : 32 ≤ base.length) {j : Nat} (hj : (j : Int) ∉ cs) : (stateS cs ws n base).getD j 0 = base.getD j 0 := by
  obtain ⟨h1, hwd, _, _⟩ := small_sum hs
  obtain ⟨hl, hinc, hin⟩ := shape_iff.1 h1
  unfold stateS; rw [if_pos hs]
  refine (st_dig hl hwd.2 hinc (fun i h => ⟨(hin i h).1, (hin i h).2.1⟩) n base h32 cs.length (Nat.le_refl _)).2.2.2 j fun i hi e => hj ?_
  rw [← e, List.getD_eq_getElem?_getD, List.getElem?_eq_getElem hi]; exact List.getElem_mem hi
theorem num_state {cs ws : List Int} (hs : smallB cs ws = true) (n : Int) {base : List Int} (h32 : 32 ≤ base.length) : numS cs ws (stateS cs ws n base) = n % pw (sumI ws) := by
  obtain ⟨h1, hwd, _, _⟩ := small_sum hs
  obtain ⟨hl, hinc, hin⟩ := shape_iff.1 h1
  unfold numS; rw [if_pos hs, hl]
  have := num_dig hl hwd.2 (fun i h => ⟨(hin i h).1, (hin i h).2.1⟩) n (stateS cs ws n base) (fun i hi => by rw [state_at hs n h32 hi, Int.emod_emod]) cs.length (Nat.le_refl _)
  rw [hl] at this
  rw [this, List.take_length]
theorem num_stN {cs ws : List Int} (hs : smallB cs ws = true) {n : Nat} (hn : (n : Int) < pw (sumI ws)) : numS cs ws (stN cs ws n) = n := by
  unfold stN
  rw [num_state hs (n : Int) (by simp [zeros32])]
  exact Int.emod_eq_of_lt (by omega) hn
/-- State of the number of a state yields the values of the state. -/
theorem state_num {cs ws : List Int} (hs : smallB cs ws = true) {base : List Int} (h32 : 32 ≤ base.length) {i : Nat} (hi : i < cs.length) : elemS (stateS cs ws (numS cs ws base) base) (cs.getD i 0) = elemS base (cs.getD i 0) % pw (ws.getD i 0) := by
  obtain ⟨h1, hwd, _, _⟩ := small_sum hs
  obtain ⟨hl, hinc, hin⟩ := shape_iff.1 h1
  rw [state_at hs _ h32 hi]
  unfold numS; rw [if_pos hs]
  exact num_digit hl hwd.2 base cs.length (Nat.le_refl _) i hi
end Go.Proofs.YtdiopiekmdfklaaDoor
