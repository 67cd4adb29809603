/-
  The plain law of Before. No program in sight.
  Plain laws of hint: the weakest expression of a condition.
  A part in a variable: two rows of ints of the call's own and a number; appends and stores.
-/
import Derived.Test.YtlcgbdjmlnjhcaaGreatDoorG15
import Derived.Test.YtlcgbdjmlnjhcaaGreatDoorG10
import Derived.Test.YtlcgbdjmlnjhcaaGreatDoorG31
import Derived.Test.YtlcgbdjmlnjhcaaGreatDoorG22
namespace Go.Proofs.YtlcgbdjmlnjhcaaGreatDoor
open Go.RowKit

theorem before_wd (x : E) : (beforeLeaf x).wd = x.wd := by unfold beforeLeaf; split <;> cases x <;> rfl
theorem before_n (x : E) : (beforeLeaf x).n = x.n := by unfold beforeLeaf; split <;> cases x <;> rfl
theorem before_op (x : E) : (beforeLeaf x).op = if x.op = 2 then 3 else x.op := by unfold beforeLeaf; split <;> cases x <;> rfl
theorem reb_wd : (e : E) → (e.rebuild beforeLeaf).wd = e.wd
  | .mk op wd n ks => by
    by_cases h : ks = []
    · subst h; rw [rebuild_nil, before_wd]
    · rw [rebuild_cons _ h]; rfl
theorem deepParts {op wd n : Int} {ks : List E} {d : Nat} (h : (E.mk op wd n ks).deep d = true) : 1 ≤ d ∧ shapedW op wd n (ks.map E.wd) = true ∧ ∀ k ∈ ks, k.deep (d - 1) = true := by
  simp only [E.deep, Bool.and_eq_true, decide_eq_true_eq, deepAll_iff] at h
  exact ⟨h.1.1, h.1.2, h.2⟩
theorem deepMk {op wd n : Int} {ks : List E} {d : Nat} (h1 : 1 ≤ d) (h2 : shapedW op wd n (ks.map E.wd) = true) (h3 : ∀ k ∈ ks, k.deep (d - 1) = true) : (E.mk op wd n ks).deep d = true := by
  simp only [E.deep, Bool.and_eq_true, decide_eq_true_eq, deepAll_iff]
  exact ⟨⟨h1, h2⟩, h3⟩
/-- A shaped node has no kids if and only if its operator is 1, 2 or 3. -/
theorem shaped_kids {op wd n : Int} {ws : List Int} (h : shapedW op wd n ws = true) : ws = [] ↔ (op = 1 ∨ op = 2 ∨ op = 3) := by
  constructor
  · intro e
    subst e
    exact (shapedW_leaf h).1
  · rintro (rfl | rfl | rfl)
    · exact (shapedW_const h).1
    · exact (shapedW_cell h (.inl rfl)).1
    · exact (shapedW_cell h (.inr rfl)).1
theorem shapedW_23 {wd n : Int} {ws : List Int} : shapedW 2 wd n ws = shapedW 3 wd n ws := by simp [shapedW]

mutual
theorem before_all (old now : List Int) : (e : E) → (d : Nat) → e.deep d = true → (e.rebuild beforeLeaf).deep d = true ∧ (e.rebuild beforeLeaf).size = e.size ∧ (e.rebuild beforeLeaf).leaves = e.leaves.map beforeLeaf ∧ (e.rebuild beforeLeaf).val old now = e.val old old
  | .mk op wd n ks, d, h => by
    obtain ⟨h1, h2, h3⟩ := deepParts h
    by_cases hk : ks = []
    · subst hk
      have ho := (shaped_kids h2).1 rfl
      rw [rebuild_nil, leaves_nil]
      rcases ho with rfl | rfl | rfl
      · have e : beforeLeaf (.mk 1 wd n []) = .mk 1 wd n [] := rfl
        rw [e]; exact ⟨h, rfl, by rw [leaves_nil]; simp [e], by simp [E.val]⟩
      · have e : beforeLeaf (.mk 2 wd n []) = .mk 3 wd n [] := rfl
        rw [e]
        refine ⟨deepMk h1 (by rw [← shapedW_23]; exact h2) h3, rfl, by rw [leaves_nil]; simp [e], by simp [E.val]⟩
      · have e : beforeLeaf (.mk 3 wd n []) = .mk 3 wd n [] := rfl
        rw [e]; exact ⟨h, rfl, by rw [leaves_nil]; simp [e], by simp [E.val]⟩
    · have ho : ¬ (op = 1 ∨ op = 2 ∨ op = 3) := fun ho => hk (by have := (shaped_kids h2).2 ho; simpa using this)
      obtain ⟨k1, k2, k3, k4⟩ := before_list old now ks (d - 1) h3
      have hk' : ks.map (E.rebuild beforeLeaf) ≠ [] := by simpa using hk
      rw [rebuild_cons _ hk]
      refine ⟨deepMk h1 ?_ ?_, ?_, ?_, ?_⟩
      · rw [List.map_map, show (E.wd ∘ E.rebuild beforeLeaf) = E.wd from funext reb_wd]; exact h2
      · intro k hk
        obtain ⟨x, hx, rfl⟩ := List.mem_map.1 hk
        exact k1 x hx
      · simp only [E.size, k2]
      · rw [leaves_cons hk', leaves_cons hk, k3]
      · rw [E.val, E.val, if_neg (by omega), if_neg (by omega), if_neg (by omega), if_neg (by omega), if_neg (by omega), if_neg (by omega), k4]
theorem before_list (old now : List Int) : (ks : List E) → (d : Nat) → (∀ k ∈ ks, k.deep d = true) → (∀ k ∈ ks, (k.rebuild beforeLeaf).deep d = true) ∧ sizeAll (ks.map (E.rebuild beforeLeaf)) = sizeAll ks ∧ leavesAll (ks.map (E.rebuild beforeLeaf)) = (leavesAll ks).map beforeLeaf ∧ valAll old now (ks.map (E.rebuild beforeLeaf)) = valAll old old ks
  | [], d, h => by simp [sizeAll, leavesAll, valAll]
  | e :: r, d, h => by
    obtain ⟨a1, a2, a3, a4⟩ := before_all old now e d (h e (by simp))
    obtain ⟨b1, b2, b3, b4⟩ := before_list old now r d (fun k hk => h k (by simp [hk]))
    refine ⟨fun k hk => ?_, ?_, ?_, ?_⟩
    · rcases List.mem_cons.1 hk with rfl | hk
      · exact a1
      · exact b1 k hk
    · simp only [List.map_cons, sizeAll, a2, b2]
    · simp only [List.map_cons, leavesAll, a3, b3, List.map_append]
    · simp only [List.map_cons, valAll, a4, b4]
end

theorem mem_upTo {f : Nat → Bool} {k : Nat} {a : Int} : a ∈ upTo f k ↔ ∃ j : Nat, j < k ∧ a = (j : Int) ∧ f j = true := by
  simp only [upTo, List.mem_map, List.mem_filter, List.mem_range]
  constructor
  · rintro ⟨j, ⟨h1, h2⟩, rfl⟩; exact ⟨j, h1, rfl, h2⟩
  · rintro ⟨j, h1, rfl, h2⟩; exact ⟨j, ⟨h1, h2⟩, rfl⟩
section
variable {e : E} (h : e.wf = true)
include h
theorem before_eq : e.before = e.rebuild beforeLeaf := by rw [E.before, if_pos h]
theorem before_wf : e.before.wf = true := by
  rw [before_eq h]
  obtain ⟨h1, h2, _, _⟩ := before_all [] [] e 40 (wf_deep h)
  simp only [E.wf, Bool.and_eq_true, decide_eq_true_eq] at h ⊢
  exact ⟨by rw [h2]; exact h.1, h1⟩
theorem before_leaves : e.before.leaves = e.leaves.map beforeLeaf := by
  rw [before_eq h]; exact (before_all [] [] e 40 (wf_deep h)).2.2.1
theorem before_eval (old now : List Int) : e.before.eval old now = e.eval old old := by
  rw [E.eval, E.eval, if_pos h, if_pos (before_wf h), before_eq h]; exact (before_all old now e 40 (wf_deep h)).2.2.2
theorem before_supNow : e.before.supNow = [] := by
  rw [E.supNow, if_pos (before_wf h)]
  have : occurs 2 e.before.leaves = fun _ => false := by
    funext j
    unfold occurs
    rw [before_leaves h, List.any_eq_false]
    intro x hx
    obtain ⟨y, hy, rfl⟩ := List.mem_map.1 hx
    rw [before_op]
    split <;> simp_all
  rw [this]; simp [upTo]
theorem before_supOld (a : Int) (ha : a ∈ e.before.supOld) : a ∈ e.supOld ∨ a ∈ e.supNow := by
  rw [E.supOld, if_pos (before_wf h), before_leaves h] at ha
  rw [E.supOld, E.supNow, if_pos h, if_pos h]
  obtain ⟨j, hj, rfl, hf⟩ := mem_upTo.1 ha
  unfold occurs at hf
  rw [List.any_eq_true] at hf
  obtain ⟨x, hx, hx2⟩ := hf
  obtain ⟨y, hy, rfl⟩ := List.mem_map.1 hx
  rw [before_op, before_n] at hx2
  by_cases c : y.op = 2
  · exact .inr (mem_upTo.2 ⟨j, hj, rfl, List.any_eq_true.2 ⟨y, hy, by simp_all⟩⟩)
  · exact .inl (mem_upTo.2 ⟨j, hj, rfl, List.any_eq_true.2 ⟨y, hy, by simp_all⟩⟩)
theorem valid_supOld (cells : List CellD) (hv : e.valid cells false = true) : e.supOld = [] := by
  rw [E.supOld, if_pos h]
  simp only [E.valid, Bool.and_eq_true, List.all_eq_true] at hv
  have : occurs 3 e.leaves = fun _ => false := by
    funext j
    unfold occurs
    rw [List.any_eq_false]
    intro x hx
    have := hv.2 x hx
    simp only [okLeaf, Bool.or_eq_true, Bool.and_eq_true, decide_eq_true_eq, Bool.or_false, Bool.not_eq_true', decide_eq_false_iff_not] at this
    rcases this with h1 | h1
    · simp [h1]
    · simp [h1.2]
  rw [this]; simp [upTo]
theorem before_valid (cells : List CellD) : e.before.valid cells true = e.valid cells true := by
  rw [E.valid, E.valid, h, before_wf h, before_leaves h, Bool.true_and, Bool.true_and, List.all_map]
  have key : ∀ x ∈ e.leaves, okLeaf cells true (beforeLeaf x) = okLeaf cells true x := by
    intro x hx
    have ho := (shapedW_leaf ((leaves_shaped e 40 (wf_deep h) x hx).2)).1
    simp only [okLeaf, before_op, before_n, before_wd]
    rcases ho with ho | ho | ho <;> simp [ho]
  rw [Bool.eq_iff_iff, List.all_eq_true, List.all_eq_true]
  exact ⟨fun H x hx => by rw [← key x hx]; exact H x hx, fun H x hx => by show okLeaf cells true (beforeLeaf x) = true; rw [key x hx]; exact H x hx⟩
end
end Go.Proofs.YtlcgbdjmlnjhcaaGreatDoor
namespace Go.Proofs.YtlcgbdjmlnjhcaaGreatDoor
open Go.RowKit

/-! ### The expression of a set -/
theorem hexp_law {cs ws : List Int} {S : List Nat} (h : ValidS cs ws S) :
    (exprS cs ws (castL S)).op = 0 ∨ ((exprS cs ws (castL S)).wf = true ∧ (exprS cs ws (castL S)).wd = 1 ∧ ((exprS cs ws (castL S)).op = 1 ∨ (exprS cs ws (castL S)).op = 14) ∧
      (∀ x ∈ (exprS cs ws (castL S)).leaves, x.op = 1 ∨ ∃ i, i < ws.length ∧ x = .mk 2 (ws.getD i 0) (cs.getD i 0) []) ∧ ∀ old now, (exprS cs ws (castL S)).eval old now = if (numS cs ws now).toNat ∈ S then 1 else 0) := by
  obtain ⟨h1, hwd, hs0, hs12⟩ := small_sum h.small
  obtain ⟨hl, hinc, hin⟩ := shape_iff.1 h1
  have hbn : bitsN ws ws.length = (sumI ws).toNat := by unfold bitsN; rw [List.take_length]
  have hC : ∀ i, i < ws.length → 0 ≤ cs.getD i 0 ∧ cs.getD i 0 < 32 := fun i hi => ⟨(hin i (by omega)).1, (hin i (by omega)).2.1⟩
  have hlt : ∀ x ∈ S, x < 2 ^ bitsN ws ws.length := fun x hx => by
    have := h.lt x hx
    rw [hbn]
    unfold pw at this
    exact_mod_cast this
  have hg := mem_good hwd.2 hC ws.length S (Nat.le_refl _) h.sorted hlt
  have hv := fun now old : List Int => mem_val (cs := cs) (old := old) (now := now) hwd.2 ws.length S (Nat.le_refl _) h.sorted hlt
  have hes : exprS cs ws (castL S) = if 600 < (memF cs ws ws.length S).size then .mk 0 0 0 [] else memF cs ws ws.length S := by
    unfold exprS; rw [if_pos (valid_of h), natL_cast]
  rw [hes]
  by_cases hbig : 600 < (memF cs ws ws.length S).size
  · rw [if_pos hbig]; exact .inl rfl
  · rw [if_neg hbig]
    generalize memF cs ws ws.length S = e at *
    obtain ⟨g1, g2, g3, g4⟩ := hg
    have hwf : e.wf = true := by
      unfold E.wf
      rw [g3 40 (by omega), decide_eq_true (show e.size ≤ 600 by omega)]; rfl
    refine .inr ⟨hwf, g1, g2, g4, fun old now => ?_⟩
    have a1 := numN_eq now hl hwd.2 (fun i hi => (hin i hi).1) ws.length (by omega)
    have a2 : numN now cs ws ws.length = (numS cs ws now).toNat := by unfold numS; rw [if_pos h.small, hl]; omega
    unfold E.eval
    rw [if_pos hwf, hv now old, a2]
/-- All numbers: the constant 1. -/
theorem hexp_all {cs ws : List Int} {S : List Nat} (h : ValidS cs ws S) (ha : ∀ n : Nat, (n : Int) < pw (sumI ws) → n ∈ S) : exprS cs ws (castL S) = .mk 1 1 1 [] := by
  obtain ⟨h1, hwd, hs0, hs12⟩ := small_sum h.small
  have hbn : bitsN ws ws.length = (sumI ws).toNat := by unfold bitsN; rw [List.take_length]
  have hp : pw (sumI ws) = ((2 ^ bitsN ws ws.length : Nat) : Int) := by rw [hbn]; unfold pw; push_cast; rfl
  have hS : S = List.range (2 ^ bitsN ws ws.length) := sorted_ext h.sorted List.pairwise_lt_range fun n => by
    rw [List.mem_range]
    constructor
    · intro hn; have := h.lt n hn; rw [hp] at this; omega
    · intro hn; exact ha n (by rw [hp]; omega)
  have hlen : S.length = 2 ^ bitsN ws ws.length := by rw [hS, List.length_range]
  have hpos := Nat.two_pow_pos (bitsN ws ws.length)
  have hm : memF cs ws ws.length S = .mk 1 1 1 [] := by
    generalize hk : ws.length = k at *
    cases k with
    | zero => unfold memF; rw [if_neg (by omega), if_pos hlen]
    | succ k => unfold memF; rw [if_neg (by omega), if_pos hlen]
  unfold exprS
  rw [if_pos (valid_of h), natL_cast, hm, if_neg (by simp [E.size, sizeAll])]

/-! ### The cells of a condition -/
def chooseL (cells : List CellD) (a b : List Int) : List Int := upTo (fun j => decide (j < cells.length) && (a.contains (j : Int) || b.contains (j : Int))) 32
/-- A formula of a formed condition. -/
def formC (cells : List CellD) (e : E) : Prop := e.valid cells true = true ∧ e.wd = 1
def hOld (cells : List CellD) (h g : E) : List Int := chooseL cells h.supOld g.supOld
def hNow (cells : List CellD) (h g : E) : List Int := chooseL cells h.supNow g.supNow
def stepB (cells : List CellD) (h g : E) : Bool := !(hOld cells h g).isEmpty
def cP (cells : List CellD) (h g : E) : List Int := if stepB cells h g then hOld cells h g else hNow cells h g
def cQ (cells : List CellD) (h g : E) : List Int := if stepB cells h g then hNow cells h g else hOld cells h g
/-- The hypothesis is 1 and the goal 0. -/
def violB (h g : E) (old now : List Int) : Bool := decide (h.eval old now = 1) && decide (g.eval old now = 0)
def violN (cells : List CellD) (h g : E) (n m : Nat) : Bool :=
  if stepB cells h g then violB h g (stN (cP cells h g) (wOf cells (cP cells h g)) n) (stN (cQ cells h g) (wOf cells (cQ cells h g)) m)
  else violB h g (stN (cQ cells h g) (wOf cells (cQ cells h g)) m) (stN (cP cells h g) (wOf cells (cP cells h g)) n)
def goodB (cells : List CellD) (h g : E) (n : Nat) : Bool := (List.range (pw (sumI (wOf cells (cQ cells h g)))).toNat).all fun m => !violN cells h g n m
def goodL (cells : List CellD) (h g : E) : List Nat := (List.range (pw (sumI (wOf cells (cP cells h g)))).toNat).filter (goodB cells h g)
/-- The expression before the turn to the state before. -/
def weak0 (cells : List CellD) (h g : E) : E := exprS (cP cells h g) (wOf cells (cP cells h g)) (castL (goodL cells h g))
def weakE (cells : List CellD) (h g : E) : E := if stepB cells h g then (weak0 cells h g).before else weak0 cells h g
/-- What it says. -/
def holdsAt (cells : List CellD) (h g : E) (old now : List Int) : Prop := if stepB cells h g then ∀ now', violB h g old now' = false else violB h g old now = false

theorem choose_mem {cells : List CellD} {a b : List Int} {c : Int} : c ∈ chooseL cells a b ↔ ∃ j : Nat, c = (j : Int) ∧ j < 32 ∧ j < cells.length ∧ (c ∈ a ∨ c ∈ b) := by
  unfold chooseL
  rw [mem_upTo]
  constructor
  · rintro ⟨j, hj, rfl, hf⟩
    simp only [Bool.and_eq_true, Bool.or_eq_true, decide_eq_true_eq, List.contains_iff_mem] at hf
    exact ⟨j, rfl, hj, hf.1, hf.2⟩
  · rintro ⟨j, rfl, hj, hl, hm⟩
    refine ⟨j, hj, rfl, ?_⟩
    simp only [Bool.and_eq_true, Bool.or_eq_true, decide_eq_true_eq, List.contains_iff_mem]
    exact ⟨hl, hm⟩
/-- A leaf that is a cell lies in the support, its width is the cell's. -/
theorem form_leaf {cells : List CellD} {e : E} (he : formC cells e) {x : E} (hx : x ∈ e.leaves) (ho : x.op = 2 ∨ x.op = 3) :
    ∃ j : Nat, x.n = (j : Int) ∧ j < 32 ∧ j < cells.length ∧ wAt cells x.n = x.wd ∧ 1 ≤ x.wd ∧ x.wd ≤ 8 ∧ (x.op = 2 → x.n ∈ e.supNow) ∧ (x.op = 3 → x.n ∈ e.supOld) := by
  obtain ⟨hv, _⟩ := he
  simp only [E.valid, Bool.and_eq_true, List.all_eq_true] at hv
  have hdp := hv.1
  simp only [E.wf, Bool.and_eq_true] at hdp
  have hok := hv.2 x hx
  have hshp := (leaves_shaped e 40 hdp.2 x hx).2
  have hsh := shapedW_cell hshp ho
  have hwd := shapedW_wd hshp
  obtain ⟨j, hj⟩ := Int.eq_ofNat_of_zero_le hsh.2.1
  unfold okLeaf at hok
  simp only [Bool.or_eq_true, Bool.and_eq_true, decide_eq_true_eq] at hok
  rcases hok with c | c
  · omega
  refine ⟨j, hj, by omega, by have := c.1.1; rw [hj] at this; simpa using this, ?_, hwd.1, hwd.2, fun h2 => ?_, fun h3 => ?_⟩
  · have e1 := c.1.2
    unfold wAt
    simp only [List.getD, List.getElem?_map] at e1 ⊢
    exact e1
  · unfold E.supNow; rw [if_pos hv.1, hj]; exact mem_upTo' (by omega) (occurs_of hx h2 hj)
  · unfold E.supOld; rw [if_pos hv.1, hj]; exact mem_upTo' (by omega) (occurs_of hx h3 hj)
/-- What lies in a support is a leaf. -/
theorem sup_leaf {e : E} {c : Int} : (c ∈ e.supNow → ∃ x ∈ e.leaves, x.op = 2 ∧ x.n = c) ∧ (c ∈ e.supOld → ∃ x ∈ e.leaves, x.op = 3 ∧ x.n = c) := by
  constructor
  · intro hc
    unfold E.supNow at hc
    split at hc
    · obtain ⟨j, hj, rfl, hf⟩ := mem_upTo.1 hc
      unfold occurs at hf
      rw [List.any_eq_true] at hf
      obtain ⟨x, hx, h2⟩ := hf
      rw [Bool.and_eq_true, decide_eq_true_eq, decide_eq_true_eq] at h2
      exact ⟨x, hx, h2.1, h2.2⟩
    · cases hc
  · intro hc
    unfold E.supOld at hc
    split at hc
    · obtain ⟨j, hj, rfl, hf⟩ := mem_upTo.1 hc
      unfold occurs at hf
      rw [List.any_eq_true] at hf
      obtain ⟨x, hx, h2⟩ := hf
      rw [Bool.and_eq_true, decide_eq_true_eq, decide_eq_true_eq] at h2
      exact ⟨x, hx, h2.1, h2.2⟩
    · cases hc
section
variable {cells : List CellD} {h g : E} (hh : formC cells h) (hg : formC cells g)
include hh hg
theorem old_w {c : Int} (hc : c ∈ hOld cells h g) : 0 ≤ c ∧ c < 32 ∧ c < (cells.length : Int) ∧ 1 ≤ wAt cells c ∧ wAt cells c ≤ 8 := by
  obtain ⟨j, rfl, h32, hl, hm⟩ := choose_mem.1 hc
  have key : ∀ e : E, formC cells e → (j : Int) ∈ e.supOld → 1 ≤ wAt cells (j : Int) ∧ wAt cells (j : Int) ≤ 8 := fun e he hm => by
    obtain ⟨x, hx, h3, hn⟩ := sup_leaf.2 hm
    obtain ⟨_, _, _, _, hw, h1, h8, _⟩ := form_leaf he hx (.inr h3)
    rw [hn] at hw; omega
  have := hm.elim (key h hh) (key g hg)
  omega
theorem now_w {c : Int} (hc : c ∈ hNow cells h g) : 0 ≤ c ∧ c < 32 ∧ c < (cells.length : Int) ∧ 1 ≤ wAt cells c ∧ wAt cells c ≤ 8 := by
  obtain ⟨j, rfl, h32, hl, hm⟩ := choose_mem.1 hc
  have key : ∀ e : E, formC cells e → (j : Int) ∈ e.supNow → 1 ≤ wAt cells (j : Int) ∧ wAt cells (j : Int) ≤ 8 := fun e he hm => by
    obtain ⟨x, hx, h3, hn⟩ := sup_leaf.1 hm
    obtain ⟨_, _, _, _, hw, h1, h8, _⟩ := form_leaf he hx (.inl h3)
    rw [hn] at hw; omega
  have := hm.elim (key h hh) (key g hg)
  omega
theorem choose_shape {l : List Int} (hl : l = hOld cells h g ∨ l = hNow cells h g) : shapeB l (wOf cells l) = true := by
  rw [shape_iff]
  have hw : ∀ c ∈ l, 0 ≤ c ∧ c < 32 ∧ c < (cells.length : Int) ∧ 1 ≤ wAt cells c ∧ wAt cells c ≤ 8 := fun c hc => by
    rcases hl with rfl | rfl
    · exact old_w hh hg hc
    · exact now_w hh hg hc
  refine ⟨by simp [wOf], ?_, fun i hi => ?_⟩
  · have : l.Pairwise (· < ·) := by
      rcases hl with rfl | rfl <;>
      · first | unfold hOld chooseL upTo | unfold hNow chooseL upTo
        rw [List.pairwise_map]
        exact (List.Pairwise.filter _ List.pairwise_lt_range).imp fun h => Int.ofNat_lt.2 h
    refine inc_iff.2 fun i hi => ?_
    have h2 := List.pairwise_iff_getElem.1 this i (i + 1) (by omega) hi (by omega)
    rw [show l.getD i 0 = l[i] by simp [List.getD, show i < l.length by omega], show l.getD (i + 1) 0 = l[i + 1] by simp [List.getD, hi]]
    exact h2
  · have h1 := hw _ (List.getElem_mem hi)
    have e1 : l.getD i 0 = l[i] := by simp [List.getD, hi]
    have e2 : (wOf cells l).getD i 0 = wAt cells l[i] := by unfold wOf; simp [List.getD, hi]
    rw [e1, e2]; omega
/-- The value at the numbers of two states. -/
theorem form_eval {e : E} (he : e = h ∨ e = g) (ho : sumI (wOf cells (hOld cells h g)) ≤ 12) (hn : sumI (wOf cells (hNow cells h g)) ≤ 12) (old now : List Int) :
    e.eval (stN (hOld cells h g) (wOf cells (hOld cells h g)) (numS (hOld cells h g) (wOf cells (hOld cells h g)) old).toNat) (stN (hNow cells h g) (wOf cells (hNow cells h g)) (numS (hNow cells h g) (wOf cells (hNow cells h g)) now).toNat) = e.eval old now := by
  have hso := small_of (choose_shape hh hg (.inl rfl)) ho
  have hsn := small_of (choose_shape hh hg (.inr rfl)) hn
  have hf : formC cells e := by rcases he with rfl | rfl <;> assumption
  refine eval_leaf fun x hx => ?_
  have hv := hf.1
  simp only [E.valid, Bool.and_eq_true, List.all_eq_true] at hv
  have hok := hv.2 x hx
  refine ⟨fun h2 => ?_, fun h3 => ?_⟩
  · obtain ⟨j, hj, h32, hjl, _, _, _, hm, _⟩ := form_leaf hf hx (.inl h2)
    refine leaf_num hsn hok (by omega) (choose_mem.2 ⟨j, hj, h32, hjl, ?_⟩) now
    rcases he with rfl | rfl
    · exact .inl (hm h2)
    · exact .inr (hm h2)
  · obtain ⟨j, hj, h32, hjl, _, _, _, _, hm⟩ := form_leaf hf hx (.inr h3)
    refine leaf_num hso hok (by omega) (choose_mem.2 ⟨j, hj, h32, hjl, ?_⟩) old
    rcases he with rfl | rfl
    · exact .inl (hm h3)
    · exact .inr (hm h3)
theorem viol_num (ho : sumI (wOf cells (hOld cells h g)) ≤ 12) (hn : sumI (wOf cells (hNow cells h g)) ≤ 12) (old now : List Int) :
    violB h g (stN (hOld cells h g) (wOf cells (hOld cells h g)) (numS (hOld cells h g) (wOf cells (hOld cells h g)) old).toNat) (stN (hNow cells h g) (wOf cells (hNow cells h g)) (numS (hNow cells h g) (wOf cells (hNow cells h g)) now).toNat) = violB h g old now := by
  unfold violB
  rw [form_eval hh hg (.inl rfl) ho hn, form_eval hh hg (.inr rfl) ho hn]
theorem good_valid (ho : sumI (wOf cells (hOld cells h g)) ≤ 12) (hn : sumI (wOf cells (hNow cells h g)) ≤ 12) : ValidS (cP cells h g) (wOf cells (cP cells h g)) (goodL cells h g) := by
  have hsm : smallB (cP cells h g) (wOf cells (cP cells h g)) = true := by
    unfold cP
    split
    · exact small_of (choose_shape hh hg (.inl rfl)) ho
    · exact small_of (choose_shape hh hg (.inr rfl)) hn
  refine ⟨hsm, List.Pairwise.filter _ List.pairwise_lt_range, fun x hx => ?_⟩
  have := List.mem_range.1 (List.mem_filter.1 hx).1
  omega
/-- The number of a state is good: what the state says. -/
theorem good_iff (ho : sumI (wOf cells (hOld cells h g)) ≤ 12) (hn : sumI (wOf cells (hNow cells h g)) ≤ 12) (st old now : List Int) (hst : st = if stepB cells h g then old else now) :
    (numS (cP cells h g) (wOf cells (cP cells h g)) st).toNat ∈ goodL cells h g ↔ holdsAt cells h g old now := by
  have hV := good_valid hh hg ho hn
  have hlt := num_lt hV.small st
  unfold goodL
  rw [List.mem_filter, List.mem_range]
  have h1 : (numS (cP cells h g) (wOf cells (cP cells h g)) st).toNat < (pw (sumI (wOf cells (cP cells h g)))).toNat := by omega
  rw [and_iff_right h1]
  unfold goodB holdsAt
  rw [List.all_eq_true]
  cases hs : stepB cells h g with
  | true =>
    have eP : cP cells h g = hOld cells h g := by unfold cP; rw [hs]; rfl
    have eQ : cQ cells h g = hNow cells h g := by unfold cQ; rw [hs]; rfl
    rw [hs, if_pos rfl] at hst
    subst hst
    rw [if_pos rfl]
    unfold violN
    rw [hs, eP, eQ]
    simp only [if_true, Bool.not_eq_true']
    have hsn := small_of (choose_shape hh hg (.inr rfl)) hn
    constructor
    · intro ha now'
      have hl := num_lt hsn now'
      rw [← viol_num hh hg ho hn st now']
      exact ha _ (List.mem_range.2 (by omega))
    · intro ha m hm
      rw [List.mem_range] at hm
      have hm' : (m : Int) < pw (sumI (wOf cells (hNow cells h g))) := by omega
      have e1 := viol_num hh hg ho hn st (stN (hNow cells h g) (wOf cells (hNow cells h g)) m)
      rw [num_stN hsn hm', Int.toNat_natCast] at e1
      rw [e1]; exact ha _
  | false =>
    have eP : cP cells h g = hNow cells h g := by unfold cP; rw [hs]; rfl
    have eQ : cQ cells h g = hOld cells h g := by unfold cQ; rw [hs]; rfl
    have hnil : hOld cells h g = [] := by unfold stepB at hs; simpa using hs
    rw [hs] at hst
    simp only [Bool.false_eq_true, if_false] at hst
    subst hst
    unfold violN
    rw [hs, eP, eQ]
    simp only [Bool.false_eq_true, if_false, Bool.not_eq_true']
    have hso := small_of (choose_shape hh hg (.inl rfl)) ho
    have hp1 : pw (sumI (wOf cells (hOld cells h g))) = 1 := by rw [hnil]; rfl
    have hl0 := num_lt hso old
    rw [hp1] at hl0
    have e0 : (numS (hOld cells h g) (wOf cells (hOld cells h g)) old).toNat = 0 := by omega
    have e1 := viol_num hh hg ho hn old st
    rw [e0] at e1
    constructor
    · intro ha
      rw [← e1]
      exact ha 0 (List.mem_range.2 (by rw [hp1]; decide))
    · intro ha m hm
      rw [List.mem_range, hp1] at hm
      obtain rfl : m = 0 := by have : (1 : Int).toNat = 1 := rfl; omega
      rw [e1]; exact ha
/-- WHAT THE WEAKEST EXPRESSION SAYS. -/
theorem weak_law (ho : sumI (wOf cells (hOld cells h g)) ≤ 12) (hn : sumI (wOf cells (hNow cells h g)) ≤ 12) (hz : (weak0 cells h g).op ≠ 0) :
    (weakE cells h g).wf = true ∧ (weakE cells h g).wd = 1 ∧ (∀ old now, (weakE cells h g).eval old now = 1 ↔ holdsAt cells h g old now) ∧ ∀ old now, (weakE cells h g).eval old now = 0 ∨ (weakE cells h g).eval old now = 1 := by
  have hV := good_valid hh hg ho hn
  rcases hexp_law hV with h0 | ⟨hwf, hwd, _, _, hev⟩
  · exact absurd h0 hz
  have hif : ∀ (p : Prop) [Decidable p], ((if p then (1 : Int) else 0) = 1 ↔ p) := fun p _ => by split <;> simp_all
  have hif2 : ∀ (p : Prop) [Decidable p], (if p then (1 : Int) else 0) = 0 ∨ (if p then (1 : Int) else 0) = 1 := fun p _ => by split <;> simp
  unfold weakE
  cases hs : stepB cells h g with
  | true =>
    rw [if_pos rfl]
    have hev' : ∀ old now, (weak0 cells h g).before.eval old now = if (numS (cP cells h g) (wOf cells (cP cells h g)) old).toNat ∈ goodL cells h g then 1 else 0 := fun old now => (before_eval hwf old now).trans (hev old old)
    have hwf' : (weak0 cells h g).wf = true := hwf
    refine ⟨before_wf hwf', ?_, fun old now => ?_, fun old now => ?_⟩
    · rw [before_eq hwf', reb_wd]; exact hwd
    · rw [hev', hif, good_iff hh hg ho hn old old now (by rw [hs]; rfl)]
    · rw [hev']; exact hif2 _
  | false =>
    rw [if_neg (by simp)]
    refine ⟨hwf, hwd, fun old now => ?_, fun old now => ?_⟩
    · rw [show (weak0 cells h g).eval old now = _ from hev old now, hif, good_iff hh hg ho hn now old now (by rw [hs]; rfl)]
    · rw [show (weak0 cells h g).eval old now = _ from hev old now]; exact hif2 _
end
end Go.Proofs.YtlcgbdjmlnjhcaaGreatDoor
namespace Go.Proofs.YtlcgbdjmlnjhcaaGreatDoor
open Go.RowKit Go.Shelf

structure Part3 (w : World) (q : Nat) (u1 u2 : Value) (s : Int) (l m : List Int) : Prop where
  blk : w.heap[q]? = some (.cells #[u1, u2, .int .i64 s] 64 (0, 0))
  o1 : OwnInts w (q + 1) u1 l
  o2 : OwnInts w (q + 1) u2 m
  sep : ∀ x, u1.ownBlock = some x → u2.ownBlock ≠ some x
variable {w w5 : World} {q : Nat} {u1 u2 : Value} {s : Int} {l m : List Int}
theorem Part3.later {w' : World} (h : Part3 w q u1 u2 s l m) (hx : Ext w w') : Part3 w' q u1 u2 s l m := ⟨(hx.block q (lt_heap h.blk)).trans h.blk, h.o1.kept hx, h.o2.kept hx, h.sep⟩
theorem Part3.cells (h : Part3 w q u1 u2 s l m) : w.cell? ⟨q, 0, none⟩ = some u1 ∧ w.cell? ⟨q, 1, none⟩ = some u2 ∧ w.cell? ⟨q, 2, none⟩ = some (.int .i64 s) := by
  refine ⟨?_, ?_, ?_⟩ <;> (rw [Lib.cell_of_heap h.blk]; rfl)
/-- The block behind an append to one of its rows. -/
theorem Part3.grown (h : Part3 w q u1 u2 s l m) {row : Option Nat} (hg : w.grownBy w5 row) (hr : ∀ k, row = some k → q + 1 ≤ k) : w5.heap[q]? = some (.cells #[u1, u2, .int .i64 s] 64 (0, 0)) :=
  (hg.block q (lt_heap h.blk) fun e => by have := hr q e.symm; omega).trans h.blk
/-- An int appended to the first row and stored. -/
theorem Part3.put1 (h : Part3 w q u1 u2 s l m) {g n c : Nat} {l' : List Int} (ho : OwnInts w5 (q + 1) (.slice (some ⟨g, 0, none⟩) n c) l') (hg : w.grownBy w5 u1.ownBlock) (hn : u1.ownBlock = some g ∨ g = w.heap.size + 1) :
    Part3 (w5.setCell ⟨q, 0, none⟩ (.slice (some ⟨g, 0, none⟩) n c)) q (.slice (some ⟨g, 0, none⟩) n c) u2 s l' m := by
  have hb := h.grown hg fun k e => h.o1.base k e
  refine ⟨heap_setCell_same w5 q 0 _ _ _ hb, ho.keep fun k e => heap_setCell_other _ _ _ _ (by have := ho.base k e; show k ≠ q; omega), h.o2.keep fun k e => ?_, fun x e e2 => ?_⟩
  · have h2 := h.o2.base k e
    refine (heap_setCell_other _ _ _ _ (by show k ≠ q; omega)).trans (hg.block k (own_lt h.o2 k e) fun e3 => ?_)
    exact h.sep k e3.symm e
  · cases e
    rcases hn with e3 | e3
    · exact h.sep _ e3 e2
    · have := own_lt h.o2 _ e2
      have e4 : g < w.heap.size := this
      omega
/-- An int appended to the second row and stored. -/
theorem Part3.put2 (h : Part3 w q u1 u2 s l m) {g n c : Nat} {m' : List Int} (ho : OwnInts w5 (q + 1) (.slice (some ⟨g, 0, none⟩) n c) m') (hg : w.grownBy w5 u2.ownBlock) (hn : u2.ownBlock = some g ∨ g = w.heap.size + 1) :
    Part3 (w5.setCell ⟨q, 1, none⟩ (.slice (some ⟨g, 0, none⟩) n c)) q u1 (.slice (some ⟨g, 0, none⟩) n c) s l m' := by
  have hb := h.grown hg fun k e => h.o2.base k e
  refine ⟨heap_setCell_same w5 q 1 _ _ _ hb, h.o1.keep fun k e => ?_, ho.keep fun k e => heap_setCell_other _ _ _ _ (by have := ho.base k e; show k ≠ q; omega), fun x e e2 => ?_⟩
  · have h2 := h.o1.base k e
    refine (heap_setCell_other _ _ _ _ (by show k ≠ q; omega)).trans (hg.block k (own_lt h.o1 k e) fun e3 => ?_)
    exact h.sep k e e3.symm
  · cases e2
    rcases hn with e3 | e3
    · exact h.sep _ e e3
    · have := own_lt h.o1 _ e
      have e4 : g < w.heap.size := this
      omega
/-- The number stored. -/
theorem Part3.put3 (h : Part3 w q u1 u2 s l m) (z : Int) : Part3 (w.setCell ⟨q, 2, none⟩ (.int .i64 z)) q u1 u2 z l m :=
  ⟨heap_setCell_same w q 2 _ _ _ h.blk, h.o1.keep fun k e => heap_setCell_other _ _ _ _ (by have := h.o1.base k e; show k ≠ q; omega), h.o2.keep fun k e => heap_setCell_other _ _ _ _ (by have := h.o2.base k e; show k ≠ q; omega), h.sep⟩
end Go.Proofs.YtlcgbdjmlnjhcaaGreatDoor
