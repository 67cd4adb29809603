/-
  Plain laws of the statements on formulas: resolution, normal forms, renaming.
-/
import Derived.Test.YtnkhaobokmmnjaaDoorLg0
namespace Go.Proofs.YtnkhaobokmmnjaaDoor

/-! ### Resolution -/
def without (c : List Int) (l : Int) (k : Nat) : List Int := (c.take k).filter fun x => x != l
def resOut (c d : List Int) (l : Int) : List Int := without c l c.length ++ without d (-l) d.length
theorem without_yes {c : List Int} {l : Int} {k : Nat} (hk : k < c.length) (h : c[k] ≠ l) : without c l (k + 1) = without c l k ++ [c[k]] := by
  unfold without
  rw [List.take_succ_eq_append_getElem hk, List.filter_append, List.filter_cons, if_pos (by simpa using h)]; rfl
theorem without_no {c : List Int} {l : Int} {k : Nat} (hk : k < c.length) (h : c[k] = l) : without c l (k + 1) = without c l k := by
  unfold without
  rw [List.take_succ_eq_append_getElem hk, List.filter_append, List.filter_cons, if_neg (by simp [h])]; simp
theorem without_len (c : List Int) (l : Int) (k : Nat) : (without c l k).length ≤ c.length := by
  unfold without
  exact Nat.le_trans (List.length_filter_le _ _) (by simp; omega)
theorem without_mem {c : List Int} {l x : Int} {k : Nat} (h : x ∈ without c l k) : x ∈ c := List.mem_of_mem_take (List.mem_filter.1 h).1
theorem without_all {c : List Int} {l x : Int} (h : x ∈ c) (hx : x ≠ l) : x ∈ without c l c.length := by
  unfold without
  rw [List.take_length]
  exact List.mem_filter.2 ⟨h, by simpa using hx⟩
theorem validC_one {vars : Int} {cl : List (List Int)} (hv : validC vars cl = true) {o : List Int} (ho : ∀ x ∈ o, ∃ c ∈ cl, x ∈ c) : validC vars [o] = true := by
  unfold validC at *
  simp only [Bool.and_eq_true, decide_eq_true_eq, List.all_eq_true] at *
  refine ⟨⟨hv.1.1, by simp⟩, fun c hc x hx => ?_⟩
  rw [List.mem_singleton] at hc; subst hc
  obtain ⟨c', h1, h2⟩ := ho x hx
  exact hv.2 c' h1 x h2
theorem validC_lit {vars : Int} {cl : List (List Int)} (hv : validC vars cl = true) {c : List Int} (hc : c ∈ cl) {x : Int} (hx : x ∈ c) : litOk vars x = true := by
  unfold validC at hv
  simp only [Bool.and_eq_true, decide_eq_true_eq, List.all_eq_true] at hv
  exact hv.2 c hc x hx
theorem validC_vars {vars : Int} {cl : List (List Int)} (hv : validC vars cl = true) : 0 ≤ vars ∧ vars ≤ 8000 := by
  unfold validC at hv
  simp only [Bool.and_eq_true, decide_eq_true_eq, List.all_eq_true] at hv
  exact hv.1.1
theorem litOk_iff {vars l : Int} : litOk vars l = true ↔ l ≠ 0 ∧ l ≤ vars ∧ -vars ≤ l := by
  unfold litOk; simp [and_assoc]
theorem res_law {vars : Int} {cl : List (List Int)} {vs : List Bool} (hv : validC vars cl = true) {c d : List Int} (hc : c ∈ cl) (hd : d ∈ cl) {l : Int} (hl : l ∈ c) (ht : evalC vars cl vs = true) : evalC vars [resOut c d l] vs = true := by
  have h1 : validC vars [resOut c d l] = true := validC_one hv fun x hx => by
    rcases List.mem_append.1 hx with g | g
    · exact ⟨c, hc, without_mem g⟩
    · exact ⟨d, hd, without_mem g⟩
  unfold evalC at ht ⊢
  rw [h1, Bool.true_and]
  simp only [hv, Bool.true_and, List.all_eq_true] at ht
  have hl0 : l ≠ 0 := (litOk_iff.1 (validC_lit hv hc hl)).1
  have := resolvent_true hl0 (ht c hc) (ht d hd) (o := resOut c d l) fun x hx => by
    rcases hx with ⟨g1, g2⟩ | ⟨g1, g2⟩
    · exact List.mem_append.2 (.inl (without_all g1 g2))
    · exact List.mem_append.2 (.inr (without_all g1 g2))
  simp [this]
theorem lit_in {vars l : Int} (h0 : vars ≤ 8000) (h : litOk vars l = true) : l ≠ 0 ∧ -8000 ≤ l ∧ l ≤ 8000 := by
  have := litOk_iff.1 h; omega
theorem res_tame {vars : Int} {cl : List (List Int)} (ht : TameC vars cl) {c d : List Int} (hc : c ∈ cl) (hd : d ∈ cl) (lc : c.length ≤ 20) (ld : d.length ≤ 20) (l : Int) : TameC vars [resOut c d l] :=
  ⟨ht.vars, by simp, fun e he => by
    rw [List.mem_singleton] at he; subst he
    refine ⟨?_, fun x hx => ?_⟩
    · unfold resOut; rw [List.length_append]; have := without_len c l c.length; have := without_len d (-l) d.length; omega
    · rcases List.mem_append.1 hx with g | g
      · exact (ht.lits c hc).2 x (without_mem g)
      · exact (ht.lits d hd).2 x (without_mem g)⟩

/-! ### Normal forms -/
theorem normF_valid {vars : Int} {F N : List (List Int)} (h : NormF F N) (hv : validC vars F = true) (hl : N.length ≤ F.length) : validC vars N = true := by
  unfold validC at *
  simp only [Bool.and_eq_true, decide_eq_true_eq, List.all_eq_true] at *
  refine ⟨⟨hv.1.1, by omega⟩, fun n hn x hx => ?_⟩
  obtain ⟨c, hc, hcn⟩ := (h.mem n).1 hn
  exact hv.2 c hc x ((hcn.mem x).1 hx)
theorem normF_eval {vars : Int} {F N : List (List Int)} (h : NormF F N) (hv : validC vars F = true) (hl : N.length ≤ F.length) (vs : List Bool) : evalC vars N vs = evalC vars F vs := by
  unfold evalC
  rw [hv, normF_valid h hv hl, Bool.true_and, Bool.true_and]
  exact h.eval vs fun c hc x hx => (litOk_iff.1 (validC_lit hv hc hx)).1
theorem normF_tame {vars : Int} {F N : List (List Int)} (h : NormF F N) (ht : TameC vars F) (hl : N.length ≤ F.length) (hb : ∀ n ∈ N, n.length ≤ 100000) : TameC vars N :=
  ⟨ht.vars, by have := ht.len; omega, fun n hn => ⟨hb n hn, fun x hx => by
    obtain ⟨c, hc, hcn⟩ := (h.mem n).1 hn
    exact (ht.lits c hc).2 x ((hcn.mem x).1 hx)⟩⟩
theorem normF_order {F N : List (List Int)} (h : NormF F N) {i : Nat} (hi : i + 1 < N.length) : ordC N[i] N[i + 1] < 0 := (List.pairwise_iff_getElem.1 h.sorted) i (i + 1) (by omega) hi (by omega)
theorem normF_inner {F N : List (List Int)} (h : NormF F N) {i k : Nat} (hi : i < N.length) (hk : k + 1 < N[i].length) : absI N[i][k] < absI N[i][k + 1] := by
  obtain ⟨c, _, hcn⟩ := (h.mem N[i]).1 (List.getElem_mem hi)
  exact (List.pairwise_iff_getElem.1 hcn.sorted) k (k + 1) (by omega) hk (by omega)

/-! ### Renaming -/
def xorAt (vs inv : List Bool) (v : Nat) : Bool := if inFirst' inv v then !inFirst' vs v else inFirst' vs v
where inFirst' (l : List Bool) (v : Nat) : Bool := decide (v < l.length) && l.getD v false
def place (n by' v : Nat) : Nat := (v + by') % n
def renW (n by' : Nat) (vs inv : List Bool) : Nat → List Bool
  | 0 => List.replicate n false
  | k + 1 => (renW n by' vs inv k).set (place n by' k) (xorAt vs inv k)
theorem renW_len (n by' : Nat) (vs inv : List Bool) (k : Nat) : (renW n by' vs inv k).length = n := by
  induction k with
  | zero => simp [renW]
  | succ k ih => simp [renW, ih]
theorem place_lt {n by' v : Nat} (h : 0 < n) : place n by' v < n := Nat.mod_lt _ h
theorem place_inj {n by' u v : Nat} (hu : u < n) (hv : v < n) (h : place n by' u = place n by' v) : u = v := by
  unfold place at h
  have e : ∀ x, (x + by') % n = (x + by' % n) % n := fun x => by rw [Nat.add_mod_mod]
  rw [e u, e v] at h
  have hb : by' % n < n := Nat.mod_lt _ (by omega)
  generalize by' % n = b at *
  have f : ∀ x, x < n → (x + b) % n = if x + b < n then x + b else x + b - n := fun x hx => by
    split
    · next g => exact Nat.mod_eq_of_lt g
    · next g => rw [Nat.mod_eq_sub_mod (by omega), Nat.mod_eq_of_lt (by omega)]
  rw [f u hu, f v hv] at h
  split at h <;> split at h <;> omega
theorem renW_at {n by' : Nat} (vs inv : List Bool) {k : Nat} (hk : k ≤ n) : ∀ v, v < k → (renW n by' vs inv k).getD (place n by' v) false = xorAt vs inv v := by
  induction k with
  | zero => intro v hv; omega
  | succ k ih =>
    intro v hv
    have hl := renW_len n by' vs inv k
    have hp := place_lt (by' := by') (v := v) (show 0 < n by omega)
    unfold renW
    rw [List.getD_eq_getElem?_getD, List.getElem?_set]
    split
    · next e =>
      rw [if_pos (by rw [hl]; exact place_lt (by omega))]
      have : k = v := place_inj (by omega) (by omega) e
      subst this; rfl
    · next e =>
      rw [← List.getD_eq_getElem?_getD]
      exact ih (by omega) v (by
        rcases Nat.lt_or_ge v k with c | c
        · exact c
        · exfalso; apply e; have : v = k := by omega
          rw [this])
def renV (n by' : Nat) (l : Int) : Int := (place n by' (absI l - 1).toNat : Nat) + 1
def renSign (inv : List Bool) (l : Int) : Bool := decide (l < 0) != xorAt.inFirst' inv (absI l - 1).toNat
def renL (n by' : Nat) (inv : List Bool) (l : Int) : Int := if renSign inv l then -renV n by' l else renV n by' l
theorem renV_range {n by' : Nat} (hn : 0 < n) (l : Int) : 1 ≤ renV n by' l ∧ renV n by' l ≤ n := by
  unfold renV; have := place_lt (by' := by') (v := (absI l - 1).toNat) hn; omega
theorem ren_lit {n by' : Nat} (hn : 0 < n) (vs inv : List Bool) {l : Int} (hl : litOk n l = true) : litOk n (renL n by' inv l) = true ∧ litT (renW n by' vs inv n) (renL n by' inv l) = litT vs l := by
  have hr := renV_range (by' := by') hn l
  have hL := litOk_iff.1 hl
  have hok := absI_ok hl
  have habs : absI (renL n by' inv l) = renV n by' l := by
    unfold renL; split
    · rw [absI_neg]; unfold absI; rw [if_neg (by omega)]
    · unfold absI; rw [if_neg (by omega)]
  refine ⟨litOk_iff.2 ?_, ?_⟩
  · unfold renL; split <;> omega
  · unfold litT
    rw [habs, renW_len, decide_eq_true (by omega), Bool.true_and]
    have e1 : (renV n by' l - 1).toNat = place n by' (absI l - 1).toNat := by unfold renV; omega
    rw [e1, renW_at vs inv (Nat.le_refl n) _ (by omega)]
    have e2 : decide (absI l ≤ vs.length) = decide ((absI l - 1).toNat < vs.length) := by
      rw [decide_eq_decide]; omega
    rw [e2]
    have e3 : (decide ((absI l - 1).toNat < vs.length) && vs.getD (absI l - 1).toNat false) = xorAt.inFirst' vs (absI l - 1).toNat := rfl
    rw [e3]
    unfold xorAt renL renSign
    generalize xorAt.inFirst' vs (absI l - 1).toNat = x
    generalize xorAt.inFirst' inv (absI l - 1).toNat = y
    rcases Int.lt_or_gt_of_ne hL.1 with c | c
    · rw [decide_eq_true c, decide_eq_false (show ¬ 0 < l by omega)]
      cases y
      · simp only [Bool.true_bne, Bool.not_false, if_true, Bool.false_eq_true, if_false]
        rw [decide_eq_false (by omega)]
      · simp only [bne_self_eq_false, if_true, Bool.false_eq_true, if_false]
        rw [decide_eq_true (by omega)]; cases x <;> rfl
    · rw [decide_eq_false (show ¬ l < 0 by omega), decide_eq_true (show 0 < l by omega)]
      cases y
      · simp only [bne_self_eq_false, Bool.false_eq_true, if_false]
        rw [decide_eq_true (by omega)]
      · simp only [Bool.false_bne, if_true]
        rw [decide_eq_false (by omega)]; cases x <;> rfl
theorem ren_law {n by' : Nat} (hn : 0 < n) {cl : List (List Int)} (hv : validC n cl = true) (vs inv : List Bool) :
    validC n (cl.map (·.map (renL n by' inv))) = true ∧ evalC n (cl.map (·.map (renL n by' inv))) (renW n by' vs inv n) = evalC n cl vs := by
  have hV := hv
  have h1 : validC n (cl.map (·.map (renL n by' inv))) = true := by
    unfold validC at hv ⊢
    simp only [Bool.and_eq_true, decide_eq_true_eq, List.all_eq_true, List.length_map] at *
    refine ⟨hv.1, fun c hc x hx => ?_⟩
    obtain ⟨c', hc', rfl⟩ := List.mem_map.1 hc
    obtain ⟨y, hy, rfl⟩ := List.mem_map.1 hx
    exact (ren_lit hn vs inv (hv.2 c' hc' y hy)).1
  refine ⟨h1, ?_⟩
  unfold evalC
  rw [h1, hV, Bool.true_and, Bool.true_and, List.all_map]
  rw [Bool.eq_iff_iff, List.all_eq_true, List.all_eq_true]
  have key : ∀ c ∈ cl, ((Go.Proofs.YtnkhaobokmmnjaaDoor.clauseT (renW n by' vs inv n)) ∘ fun x => x.map (renL n by' inv)) c = Go.Proofs.YtnkhaobokmmnjaaDoor.clauseT vs c := fun c hc => by
    unfold clauseT
    simp only [Function.comp, List.any_map]
    rw [Bool.eq_iff_iff, List.any_eq_true, List.any_eq_true]
    constructor
    · rintro ⟨x, hx, h⟩; exact ⟨x, hx, by rw [← (ren_lit hn vs inv (validC_lit hV hc hx)).2]; exact h⟩
    · rintro ⟨x, hx, h⟩; exact ⟨x, hx, by have := (ren_lit (by' := by') hn vs inv (validC_lit hV hc hx)).2; simp only [Function.comp]; rw [this]; exact h⟩
  constructor
  · intro h c hc; rw [← key c hc]; exact h c hc
  · intro h c hc; rw [key c hc]; exact h c hc
/-! ### Clauses in memory -/
open Go.RowKit Go.Shelf
theorem lists_at {w : World} {fa : Option Addr} {fc : Nat} {cl : List (List Int)} (h : Lists w (.slice fa cl.length fc) cl) {k : Nat} (hk : k < cl.length) : ∃ b o c1 c2, fa = some ⟨b, o, none⟩ ∧ w.cell? ⟨b, o + k, none⟩ = some (.slice c1 cl[k].length c2) ∧ Ints w (.slice c1 cl[k].length c2) cl[k] := by
  rcases h with ⟨_, e⟩ | ⟨b, o, cap, e, _, hc⟩
  · rw [e] at hk; simp at hk
  cases e
  obtain ⟨v1, g4, i1⟩ := hc k hk
  rw [Nat.mul_one] at g4
  obtain ⟨c1, c2, rfl⟩ := i1.shape
  exact ⟨b, o, c1, c2, rfl, g4, i1⟩
/-- A row of one clause. -/
theorem lists_one {w : World} {v : Value} {l : List Int} (h : Ints w v l) : Lists (w.alloc (.cells #[v] 30)) (.slice (some ⟨w.heap.size, 0, none⟩) 1 1) [l] := by
  refine .inr ⟨w.heap.size, 0, 1, rfl, by simp, fun i hi => ?_⟩
  obtain rfl : i = 0 := by simpa using hi
  refine ⟨v, ?_, h.ext ((Ext.refl w).alloc _)⟩
  rw [Lib.cell_of_heap (heap_new w _)]; rfl
theorem tmod_nat (a n : Nat) : (a : Int).tmod (n : Int) = ((a % n : Nat) : Int) := by
  rw [Int.tmod_eq_emod_of_nonneg (by omega)]; push_cast; rfl

theorem NRow.add {r : Nat} {vars : Int} {w4 w5 : World} {vcl v' : Value} {vs : List Value} {M : List (List Int)} (h : NRow r vars w4 vcl vs M) {u : Value} {n : List Int} (hu : OwnInts w4 (r + 1) u n) (hg : w4.grownBy w5 vcl.ownBlock) (ho : OwnL w5 (r + 1) v' (vs ++ [u])) :
    NRow r vars (w5.setCell ⟨r, 1, none⟩ v') v' (vs ++ [u]) (M ++ [n]) := by
  refine h.turn hg ho (by simp [h.len]) fun i h1 h2 => ?_
  have hll := h.len
  rcases Nat.lt_or_ge i vs.length with c' | c'
  · have e1 : (vs ++ [u])[i] = vs[i] := List.getElem_append_left c'
    have e2 : (M ++ [n])[i] = M[i]'(by omega) := List.getElem_append_left (by omega)
    rw [e1, e2]; exact h.el_grown hg (h.el i c' (by omega))
  · have hi : i = vs.length := by simp at h1; omega
    subst hi
    have e1 : (vs ++ [u])[vs.length] = u := by simp
    have e2 : (M ++ [n])[vs.length]'h2 = n := by simp [hll]
    rw [e1, e2]; exact h.el_grown hg hu
theorem NRow.lists {r : Nat} {vars : Int} {w : World} {vcl : Value} {vs : List Value} {M : List (List Int)} (h : NRow r vars w vcl vs M) : Lists w vcl M := h.own.lists h.len fun i h1 h2 => (h.el i h1 h2).ints
end Go.Proofs.YtnkhaobokmmnjaaDoor
