/-
  The plain law of substitution. No program in sight.
  The walk of ExprSubstitution. Printed by gen_subst.py.
-/
import Derived.Test.YtdancokndklpnaaDoorMLs
import Derived.Test.YtdancokndklpnaaDoorMBf
namespace Go.Proofs.YtdancokndklpnaaDoor
open Go.RowKit

/-- What a substitution has to fit: each cell that it replaces is replaced by a well-formed expression of the cell's width, of at most m nodes. -/
def Fit (σ : Nat → Option E) (m : Nat) (e : E) : Prop := ∀ x ∈ e.leaves, x.op = 2 → ∀ t, σ x.n.toNat = some t → t.wd = x.wd ∧ t.wf = true ∧ t.size ≤ m
theorem Fit.kid {σ : Nat → Option E} {m : Nat} {op wd n : Int} {ks : List E} (h : Fit σ m (.mk op wd n ks)) (k : E) (hk : k ∈ ks) : Fit σ m k := by
  intro x hx
  have hne : ks ≠ [] := by intro e; subst e; cases hk
  exact h x (by rw [leaves_cons hne]; exact mem_leavesAll.2 ⟨k, hk, hx⟩)

theorem substLeaf_cell {σ : Nat → Option E} {wd n : Int} {t : E} (h : σ n.toNat = some t) (hw : t.wd = wd) (hf : t.wf = true) : substLeaf σ (.mk 2 wd n []) = t := by
  simp [substLeaf, h, hw, hf]
theorem substLeaf_none {σ : Nat → Option E} {wd n : Int} (h : σ n.toNat = none) : substLeaf σ (.mk 2 wd n []) = .mk 2 wd n [] := by
  simp [substLeaf, h, E.bare]
theorem substLeaf_other {σ : Nat → Option E} {op wd n : Int} (h : op ≠ 2) : substLeaf σ (.mk op wd n []) = .mk op wd n [] := by
  simp [substLeaf, h, E.bare]

/-- The state in which the replaced cells have the values of their expressions. -/
def Next (σ : Nat → Option E) (so sn next : List Int) : Prop := ∀ j : Nat, j < 32 → elemS next j = match σ j with | some t => t.val so sn | none => elemS sn j

mutual
theorem subst_all (σ : Nat → Option E) (m : Nat) (hm : 1 ≤ m) : (e : E) → (d : Nat) → e.deep d = true → Fit σ m e →
    (e.rebuild (substLeaf σ)).wd = e.wd ∧ (e.rebuild (substLeaf σ)).deep (d + m) = true ∧ (e.rebuild (substLeaf σ)).size ≤ m * e.size ∧ (∀ so sn next, Next σ so sn next → (e.rebuild (substLeaf σ)).val so sn = e.val so next)
  | .mk op wd n ks, d, h, hf => by
    obtain ⟨h1, h2, h3⟩ := deepParts h
    by_cases hk : ks = []
    · subst hk
      have ho := (shaped_kids h2).1 rfl
      rw [rebuild_nil]
      by_cases ho2 : op = 2
      · subst ho2
        have hn := shapedW_cell h2 (.inl rfl)
        cases ht : σ n.toNat with
        | none =>
          rw [substLeaf_none ht]
          refine ⟨rfl, deep_up _ _ _ (by omega) h, by simp [E.size, sizeAll]; omega, fun so sn next hN => ?_⟩
          have := hN n.toNat (by omega)
          rw [ht] at this
          simp only [E.val]
          simp only [elemS] at this ⊢
          rw [show ((n.toNat : Int)).toNat = n.toNat by omega] at this
          rw [if_neg (by omega), if_pos trivial, if_neg (by omega), if_pos trivial, this]
        | some t =>
          obtain ⟨t1, t2, t3⟩ := hf (.mk 2 wd n []) (by rw [leaves_nil]; simp) rfl t ht
          simp only [E.wd_mk] at t1
          rw [substLeaf_cell ht t1 t2]
          refine ⟨t1, deep_up _ _ _ (by omega) (deep_in_size _ _ (wf_deep t2)), by simp [E.size, sizeAll]; omega, fun so sn next hN => ?_⟩
          have := hN n.toNat (by omega)
          rw [ht] at this
          have hr := val_range so sn t 40 (wf_deep t2)
          simp only [E.val]
          simp only [elemS] at this ⊢
          rw [show ((n.toNat : Int)).toNat = n.toNat by omega] at this
          simp only [this]
          simp
          rw [← t1, Int.emod_eq_of_lt hr.1 hr.2]
      · rw [substLeaf_other ho2]
        refine ⟨rfl, deep_up _ _ _ (by omega) h, by simp [E.size, sizeAll]; omega, fun so sn next _ => ?_⟩
        simp only [E.val]
        rcases ho with rfl | rfl | rfl
        · simp
        · exact absurd rfl ho2
        · simp
    · have ho : ¬ (op = 1 ∨ op = 2 ∨ op = 3) := fun ho => hk (by have := (shaped_kids h2).2 ho; simpa using this)
      obtain ⟨k1, k2, k3, k4⟩ := subst_list σ m hm ks (d - 1) h3 (fun k hk => hf.kid k hk)
      rw [rebuild_cons _ hk]
      refine ⟨rfl, deepMk (by omega) (by rw [List.map_map, show ks.map (E.wd ∘ E.rebuild (substLeaf σ)) = ks.map E.wd from List.map_congr_left fun k hk => k1 k hk]; exact h2) ?_, ?_, fun so sn next hN => ?_⟩
      · intro k hk
        obtain ⟨y, hy, rfl⟩ := List.mem_map.1 hk
        have := k2 y hy
        rwa [show d - 1 + m = d + m - 1 by omega] at this
      · simp only [E.size]
        rw [Nat.mul_add, Nat.mul_one]; omega
      · rw [E.val, E.val, if_neg (by omega), if_neg (by omega), if_neg (by omega), if_neg (by omega), if_neg (by omega), if_neg (by omega), k4 so sn next hN]
theorem subst_list (σ : Nat → Option E) (m : Nat) (hm : 1 ≤ m) : (ks : List E) → (d : Nat) → (∀ k ∈ ks, k.deep d = true) → (∀ k ∈ ks, Fit σ m k) →
    (∀ k ∈ ks, (k.rebuild (substLeaf σ)).wd = k.wd) ∧ (∀ k ∈ ks, (k.rebuild (substLeaf σ)).deep (d + m) = true) ∧ sizeAll (ks.map (E.rebuild (substLeaf σ))) ≤ m * sizeAll ks ∧ (∀ so sn next, Next σ so sn next → valAll so sn (ks.map (E.rebuild (substLeaf σ))) = valAll so next ks)
  | [], d, _, _ => by simp [sizeAll, valAll]
  | e :: r, d, h, hf => by
    obtain ⟨a1, a2, a3, a4⟩ := subst_all σ m hm e d (h e (by simp)) (hf e (by simp))
    obtain ⟨b1, b2, b3, b4⟩ := subst_list σ m hm r d (fun k hk => h k (by simp [hk])) (fun k hk => hf k (by simp [hk]))
    refine ⟨fun k hk => ?_, fun k hk => ?_, ?_, fun so sn next hN => ?_⟩
    · rcases List.mem_cons.1 hk with rfl | hk
      · exact a1
      · exact b1 k hk
    · rcases List.mem_cons.1 hk with rfl | hk
      · exact a2
      · exact b2 k hk
    · simp only [List.map_cons, sizeAll]; rw [Nat.mul_add]; omega
    · simp only [List.map_cons, valAll, a4 so sn next hN, b4 so sn next hN]
end

theorem Fit.ok {σ : Nat → Option E} {m : Nat} {e : E} (h : Fit σ m e) : e.leaves.all (substOk σ) = true := by
  rw [List.all_eq_true]
  intro x hx
  unfold substOk
  split
  · next ho =>
    split
    · next t ht => obtain ⟨h1, h2, _⟩ := h x hx ho t ht; simp [h1, h2]
    · rfl
  · rfl
/-- A substitution that fits and stays small is what it should be. -/
theorem subst_eq {e : E} {set : List (Int × E)} {m : Nat} (he : e.wf = true) (hm : 1 ≤ m) (hf : Fit (toS set) m e) (hs : m * e.size ≤ 600) (hd : e.size + m ≤ 40) :
    e.subst set = e.rebuild (substLeaf (toS set)) ∧ (e.rebuild (substLeaf (toS set))).wf = true := by
  obtain ⟨_, h2, h3, _⟩ := subst_all (toS set) m hm e e.size (deep_in_size _ _ (wf_deep he)) hf
  have hw : (e.rebuild (substLeaf (toS set))).wf = true := by
    simp only [E.wf, Bool.and_eq_true, decide_eq_true_eq]
    exact ⟨by omega, deep_up _ _ _ hd h2⟩
  exact ⟨by rw [E.subst, if_pos ⟨he, hf.ok, hw⟩], hw⟩

/-- What fits says of the leaves. -/
theorem toS_find (set : List (Int × E)) (n : Int) (h0 : 0 ≤ n) : toS set n.toNat = (set.find? (fun a => a.1 == n)).map (·.2) := by
  unfold toS
  congr 2
  funext a
  rw [show ((n.toNat : Nat) : Int) = n by omega]
  by_cases h : a.1 = n <;> simp [h]
mutual
theorem fits_fit (set : List (Int × E)) (m : Nat) (hs : ∀ a ∈ set, a.2.size ≤ m) : (e : E) → (d : Nat) → e.deep d = true → fitsB set e = true → Fit (toS set) m e
  | .mk op wd n ks, d, h, hf => by
    obtain ⟨h1, h2, h3⟩ := deepParts h
    rw [fitsB, Bool.and_eq_true] at hf
    obtain ⟨ha, hb⟩ := hf
    by_cases hk : ks = []
    · subst hk
      intro x hx ho t ht
      rw [leaves_nil, List.mem_singleton] at hx
      subst hx
      simp only [E.op_mk] at ho
      subst ho
      have hn := shapedW_cell h2 (.inl rfl)
      simp only [E.n_mk] at ht
      rw [toS_find set n hn.2.1, Option.map_eq_some_iff] at ht
      obtain ⟨a, hfind, rfl⟩ := ht
      rw [if_pos rfl, hfind] at hb
      have hmem := List.mem_of_find?_eq_some hfind
      exact ⟨by simpa using hb, List.all_eq_true.1 ha a hmem, hs a hmem⟩
    · have ho : ¬ (op = 1 ∨ op = 2 ∨ op = 3) := fun ho => hk (by have := (shaped_kids h2).2 ho; simpa using this)
      rw [if_neg (by omega)] at hb
      have := fits_list set m hs ks (d - 1) h3 hb
      intro x hx
      rw [leaves_cons hk] at hx
      obtain ⟨k, hk, hx⟩ := mem_leavesAll.1 hx
      exact this k hk x hx
theorem fits_list (set : List (Int × E)) (m : Nat) (hs : ∀ a ∈ set, a.2.size ≤ m) : (ks : List E) → (d : Nat) → (∀ k ∈ ks, k.deep d = true) → fitsAll set ks = true → ∀ k ∈ ks, Fit (toS set) m k
  | [], _, _, _ => by simp
  | e :: r, d, h, hf => by
    rw [fitsAll, Bool.and_eq_true] at hf
    have h0 := fits_fit set m hs e d (h e (by simp)) hf.1
    intro k hk
    rcases List.mem_cons.1 hk with hk | hk
    · rw [hk]; exact h0
    · exact fits_list set m hs r d (fun k hk => h k (by simp [hk])) hf.2 k hk
end
end Go.Proofs.YtdancokndklpnaaDoor
namespace Go.Proofs.YtdancokndklpnaaDoor
open Go.RowKit

theorem Subst_ret (e : E) (v sv : Value) (set : List (Int × E)) (w : World) (he : EVal w v e) (hS : Assigns w sv set) (hM : Masks w) : Calls Tryd.prog 16 #[v, sv] w (RetE (e.subst set) w) :=
  (Subst_any e v sv set w he hS hM).mono fun _ _ ⟨⟨v, hr, hv⟩, hx⟩ => ⟨⟨v, hr, hv.eVal⟩, hx⟩

/-- The state after the assignments of l. -/
def nextF (so sn : List Int) (now : List Int) (l : List (Int × E)) (j : Nat) : Int := match l.find? (fun a => a.1 == (j : Int)) with | some a => a.2.eval so sn | none => stateF now j
theorem nextF_set {so sn now : List Int} {a : Int × E} {l : List (Int × E)} {c : Nat} (h : a.1 = (c : Int)) (j : Nat) : (if j = c then a.2.eval so sn else nextF so sn now l j) = nextF so sn now (a :: l) j := by
  unfold nextF
  rw [List.find?_cons]
  by_cases hj : j = c
  · subst hj; rw [if_pos rfl]; simp [h]
  · rw [if_neg hj]
    have : (a.1 == (j : Int)) = false := by rw [h]; simp; omega
    rw [this]
theorem nextF_skip {so sn now : List Int} {a : Int × E} {l : List (Int × E)} (h : a.1 < 0 ∨ 32 ≤ a.1) (j : Nat) (hj : j < 32) : nextF so sn now l j = nextF so sn now (a :: l) j := by
  unfold nextF
  rw [List.find?_cons]
  have : (a.1 == (j : Int)) = false := by simp; omega
  rw [this]
theorem drop_next {set : List (Int × E)} {k : Nat} (h : k < set.length) : set.drop k = set[k] :: set.drop (k + 1) := List.drop_eq_getElem_cons h
def SubRel (set : List (Int × E)) (so sn now : List Int) (W : World) (B : Nat) (i : Value) (wr : World) : Prop :=
  Ext W wr ∧ ((i = .int .i64 (-1) ∧ RowAt wr B (nextF so sn now set)) ∨ ∃ k : Nat, k < set.length ∧ i = .int .i64 k ∧ RowAt wr B (nextF so sn now (set.drop (k + 1))))
theorem SubRel.start {set : List (Int × E)} {so sn now : List Int} {W W3 : World} {B : Nat} (hx : Ext W W3) (hr : RowAt W3 B (stateF now)) : SubRel set so sn now W B (.int .i64 ((set.length : Int) - 1)) W3 := by
  refine ⟨hx, ?_⟩
  rcases Nat.eq_zero_or_pos set.length with h | h
  · left
    have : set = [] := List.length_eq_zero_iff.1 h
    subst this
    exact ⟨rfl, hr⟩
  · right
    refine ⟨set.length - 1, by omega, by rw [show ((set.length - 1 : Nat) : Int) = (set.length : Int) - 1 by omega], ?_⟩
    rw [List.drop_eq_nil_of_le (by omega)]
    exact hr
theorem SubRel.down {set : List (Int × E)} {so sn now : List Int} {W wr : World} {B k : Nat} {v : Value} (hx : Ext W wr) (hk : k < set.length) (hv : v = .int .i64 ((k : Int) - 1)) (hr : RowAt wr B (nextF so sn now (set.drop k))) : SubRel set so sn now W B v wr := by
  refine ⟨hx, ?_⟩
  rcases Nat.eq_zero_or_pos k with h | h
  · subst h; left; exact ⟨hv, by simpa using hr⟩
  · right
    refine ⟨k - 1, by omega, by rw [hv, show ((k - 1 : Nat) : Int) = (k : Int) - 1 by omega], ?_⟩
    rw [show k - 1 + 1 = k by omega]; exact hr
theorem elem_row (f : Nat → Int) (j : Nat) (h : j < 32) : elemS (row32 f) j = f j := by simp [elemS, row32, h]
theorem next_ok {set : List (Int × E)} {so now : List Int} (hw : ∀ a ∈ set, a.2.wf = true) : Next (toS set) so (row32 (stateF now)) (row32 (nextF so (row32 (stateF now)) now set)) := by
  intro j hj
  rw [elem_row _ j hj, elem_row _ j hj, nextF, toS]
  have e : (fun a : Int × E => a.1 == (j : Int)) = fun a => decide (a.1 = (j : Int)) := by funext a; by_cases h : a.1 = (j : Int) <;> simp [h]
  rw [e]
  cases hf : set.find? (fun a => decide (a.1 = (j : Int))) with
  | none => rfl
  | some a => simp only [Option.map_some]; rw [E.eval, if_pos (hw a (List.mem_of_find?_eq_some hf))]
/-- The law, in plain words. -/
theorem subst_law {e : E} {set : List (Int × E)} (old now : List Int) (he : (e.size : Int) ≤ 24 ∧ e.wf = true) (hfew : fewB set 6 12 = true) (hfit : fitsB set e = true) :
    (e.subst set).wd = e.wd ∧ (e.subst set).eval (row32 (stateF old)) (row32 (stateF now)) = e.eval (row32 (stateF old)) (row32 (nextF (row32 (stateF old)) (row32 (stateF now)) now set)) := by
  have hs : ∀ a ∈ set, a.2.size ≤ 12 := fun a ha => by
    simp only [fewB, Bool.and_eq_true, List.all_eq_true, decide_eq_true_eq] at hfew
    have := hfew.2 a ha; omega
  have hw : ∀ a ∈ set, a.2.wf = true := by
    obtain ⟨op, wd, n, ks⟩ := e
    rw [fitsB, Bool.and_eq_true] at hfit
    exact fun a ha => List.all_eq_true.1 hfit.1 a ha
  have hF := fits_fit set 12 hs e 40 (wf_deep he.2) hfit
  obtain ⟨h1, h2⟩ := subst_eq he.2 (by omega) hF (by have := he.1; omega) (by have := he.1; omega)
  obtain ⟨k1, _, _, k4⟩ := subst_all (toS set) 12 (by omega) e 40 (wf_deep he.2) hF
  rw [h1]
  refine ⟨k1, ?_⟩
  rw [E.eval, E.eval, if_pos h2, if_pos he.2]
  exact k4 _ _ _ (next_ok hw)

set_option maxRecDepth 100000 in
set_option maxHeartbeats 16000000 in
theorem ExprSubstitution_any (e : E) (set : List (Int × E)) (old now : List Int) (ve vs vo vn : Value) (w : World) (he : EVal w ve e) (hS : Assigns w vs set) (hO : Ints w vo old) (hN : Ints w vn now) (hM : Masks w) (hNm : Names w) (hP : Pow10 w) :
    Calls Tryd.prog 3 #[ve, vs, vo, vn] w fun r w' => r = .returned (.bool true) ∧ Ext w w' := by
  obtain ⟨ea, el, ec, rfl, _⟩ := he.shape
  obtain ⟨sa, scap, rfl⟩ := hS.shape
  obtain ⟨oa, ocap, rfl⟩ := hO.shape
  obtain ⟨na, ncap, rfl⟩ := hN.shape
  obtain ⟨W, hW⟩ : ∃ W, W = w.alloc (.cells #[.int .i64 e.op, .int .i64 e.wd, .int .i64 e.n, .slice ea el ec] 24) := ⟨_, rfl⟩
  have hx : Ext w W := by rw [hW]; exact (Ext.refl w).alloc _
  have HV1 : Hid (VarE W w.heap.size e.op e.wd e.n (.slice ea el ec)) := by rw [hW]; exact VarE.new _ _ _ _ _
  have HW := Lib.hid hW; have HX := Lib.hid hx; have HA := Lib.hid (he.ext hx); have HS := Lib.hid (hS.ext hx); have HO := Lib.hid (hO.ext hx); have HN := Lib.hid (hN.ext hx); have HM := Lib.hid (hM.ext hx); have HNm := Lib.hid (hNm.ext hx); have HP := Lib.hid (hP.ext hx)
  clear hW hx he hS hO hN hM hNm hP
  go_enter Tryd.func3, Tryd.ntmps3
  go_wp2_with fail
  rw [← HW.out]
  clear HW
  generalize w.heap.size = b1 at *
  refine (head_any W HM.out HNm.out HP.out).mono ?_
  rintro r wk1 ⟨rfl, x1⟩
  replace HX := Lib.hid (HX.out.trans x1); replace HV1 := Lib.hid (HV1.out.ext x1); replace HA := Lib.hid (HA.out.ext x1); replace HS := Lib.hid (HS.out.ext x1); replace HO := Lib.hid (HO.out.ext x1); replace HN := Lib.hid (HN.out.ext x1); replace HM := Lib.hid (HM.out.ext x1)
  clear x1
  clear HNm HP
  obtain ⟨cHV10, cHV11, cHV12, cHV13⟩ := HV1.out.cells
  go_wp2_with fail
  refine (sound_any e _ _ 24 HA.out (by omega) (by omega)).mono ?_
  rintro r wk2 ⟨rfl, x1⟩
  replace HX := Lib.hid (HX.out.trans x1); replace HV1 := Lib.hid (HV1.out.ext x1); replace HA := Lib.hid (HA.out.ext x1); replace HS := Lib.hid (HS.out.ext x1); replace HO := Lib.hid (HO.out.ext x1); replace HN := Lib.hid (HN.out.ext x1); replace HM := Lib.hid (HM.out.ext x1)
  clear x1 cHV10 cHV11 cHV12 cHV13
  cases h1 : (decide ((e.size : Int) ≤ 24) && e.wf) with
  | false =>
    clear h1
    go_wp2_with fail
    exact bodyPost_ret (v := .bool true) (by simp [results, Tryd.results3, go_sem]) rfl ⟨rfl, HX.out⟩
  | true =>
  simp only [Bool.and_eq_true, decide_eq_true_eq] at h1
  have HSd := Lib.hid h1; clear h1
  go_wp2_with fail
  refine (few_any set _ _ 6 12 HS.out (by omega) (by omega) (by omega) (by omega)).mono ?_
  rintro r wk3 ⟨rfl, x1⟩
  replace HX := Lib.hid (HX.out.trans x1); replace HV1 := Lib.hid (HV1.out.ext x1); replace HA := Lib.hid (HA.out.ext x1); replace HS := Lib.hid (HS.out.ext x1); replace HO := Lib.hid (HO.out.ext x1); replace HN := Lib.hid (HN.out.ext x1); replace HM := Lib.hid (HM.out.ext x1)
  clear x1
  cases h1 : fewB set 6 12 with
  | false =>
    clear h1
    go_wp2_with fail
    exact bodyPost_ret (v := .bool true) (by simp [results, Tryd.results3, go_sem]) rfl ⟨rfl, HX.out⟩
  | true =>
  have HFew := Lib.hid h1; clear h1
  obtain ⟨cHV10, cHV11, cHV12, cHV13⟩ := HV1.out.cells
  go_wp2_with fail
  refine (fits_any set _ e.size e _ _ (Nat.le_refl _) HA.out HS.out).mono ?_
  rintro r wk4 ⟨rfl, x1⟩
  replace HX := Lib.hid (HX.out.trans x1); replace HV1 := Lib.hid (HV1.out.ext x1); replace HA := Lib.hid (HA.out.ext x1); replace HS := Lib.hid (HS.out.ext x1); replace HO := Lib.hid (HO.out.ext x1); replace HN := Lib.hid (HN.out.ext x1); replace HM := Lib.hid (HM.out.ext x1)
  clear x1 cHV10 cHV11 cHV12 cHV13
  cases h1 : fitsB set e with
  | false =>
    clear h1
    go_wp2_with fail
    exact bodyPost_ret (v := .bool true) (by simp [results, Tryd.results3, go_sem]) rfl ⟨rfl, HX.out⟩
  | true =>
  have HFit := Lib.hid h1; clear h1
  have HL := Lib.hid (subst_law old now HSd.out HFew.out HFit.out)
  have hslen : set.length ≤ 6 := by
    have := HFew.out
    simp only [fewB, Bool.and_eq_true, decide_eq_true_eq] at this
    omega
  obtain ⟨so, hso⟩ : ∃ so, so = row32 (stateF old) := ⟨_, rfl⟩
  obtain ⟨sn, hsn⟩ : ∃ sn, sn = row32 (stateF now) := ⟨_, rfl⟩
  rw [← hso, ← hsn] at HL
  have ESO := Lib.hid hso; have ESN := Lib.hid hsn
  clear hso hsn
  go_wp2_with fail
  refine (State_any now _ _ HN.out).mono ?_
  rintro r W3 ⟨B, hB, rfl, hrow, x1⟩
  have HB : Hid (wk4.heap.size ≤ B) := hB
  have HST := Lib.hid (SubRel.start (set := set) (so := so) (sn := sn) x1 hrow)
  clear x1 hB hrow
  go_wp2_with fail
  go_loopw [11] (fun i wr => SubRel set so sn now wk4 B i wr) (fun i _ => (intOf i + 1).toNat)
  case atStart => exact HST.out
  case round =>
    clear HST
    obtain ⟨hX, hrel⟩ := hrel
    have HXr := Lib.hid hX
    clear hX
    rcases hrel with ⟨rfl, hR⟩ | ⟨k, hk, rfl, hR⟩
    · have HR := Lib.hid hR
      clear hR
      replace HX := Lib.hid (HX.out.trans HXr.out); replace HV1 := Lib.hid (HV1.out.ext HXr.out); replace HA := Lib.hid (HA.out.ext HXr.out); replace HS := Lib.hid (HS.out.ext HXr.out); replace HO := Lib.hid (HO.out.ext HXr.out); replace HN := Lib.hid (HN.out.ext HXr.out); replace HM := Lib.hid (HM.out.ext HXr.out)
      have HL1 := Lib.hid HL.out.1; have HL2 := Lib.hid HL.out.2
      obtain ⟨x, hx⟩ : ∃ x, x = e.subst set := ⟨_, rfl⟩
      rw [← hx] at HL1 HL2
      have EX := Lib.hid hx
      clear hx HL
      have hwd : (x.wd == e.wd) = true := by rw [HL1.out]; simp
      obtain ⟨y, hy⟩ : ∃ y, y = e.eval so (row32 (nextF so sn now set)) := ⟨_, rfl⟩
      rw [← hy] at HL2
      have EY := Lib.hid hy
      clear hy
      clear HXr
      obtain ⟨cHV10, cHV11, cHV12, cHV13⟩ := HV1.out.cells
      go_wp2_with fail
      refine (Subst_ret e _ _ set _ HA.out HS.out HM.out).mono ?_
      rintro r wk5 ⟨⟨v, rfl, e⟩, x1⟩
      rw [← EX.out] at e
      obtain ⟨va5, vl5, vc5, rfl, _⟩ := e.shape
      have HT := Lib.hid e
      replace HX := Lib.hid (HX.out.trans x1); replace HV1 := Lib.hid (HV1.out.ext x1); replace HA := Lib.hid (HA.out.ext x1); replace HS := Lib.hid (HS.out.ext x1); replace HO := Lib.hid (HO.out.ext x1); replace HN := Lib.hid (HN.out.ext x1); replace HM := Lib.hid (HM.out.ext x1); replace HR := Lib.hid (HR.out.ext x1)
      clear x1 e cHV10 cHV11 cHV12 cHV13
      go_upto_region 11 with fail
      obtain ⟨Wk5, hWk⟩ : ∃ Wk, Wk = wk5.alloc (.cells #[.int .i64 x.op, .int .i64 x.wd, .int .i64 x.n, .slice va5 vl5 vc5] 24) := ⟨_, rfl⟩
      have x1 : Ext wk5 Wk5 := by rw [hWk]; exact (Ext.refl _).alloc _
      have HV2 : Hid (VarE Wk5 wk5.heap.size x.op x.wd x.n (.slice va5 vl5 vc5)) := by rw [hWk]; exact VarE.new _ _ _ _ _
      rw [← hWk]
      replace HX := Lib.hid (HX.out.trans x1); replace HV1 := Lib.hid (HV1.out.ext x1); replace HA := Lib.hid (HA.out.ext x1); replace HS := Lib.hid (HS.out.ext x1); replace HO := Lib.hid (HO.out.ext x1); replace HN := Lib.hid (HN.out.ext x1); replace HM := Lib.hid (HM.out.ext x1); replace HR := Lib.hid (HR.out.ext x1); replace HT := Lib.hid (HT.out.ext x1)
      clear x1 hWk
      generalize wk5.heap.size = b2 at *
      have HR0 := Lib.hid ((Ext.refl Wk5).drew)
      obtain ⟨z00, z01, z02, z03⟩ := HV1.out.cells
      obtain ⟨z10, z11, z12, z13⟩ := HV2.out.cells
      go_region_held3 (fun w' => (w'.cell? ⟨b1, 0, none⟩ = some (.int .i64 e.op) ∧ w'.cell? ⟨b1, 1, none⟩ = some (.int .i64 e.wd) ∧ w'.cell? ⟨b1, 2, none⟩ = some (.int .i64 e.n) ∧ w'.cell? ⟨b1, 3, none⟩ = some (.slice ea el ec)) ∧ (w'.cell? ⟨b2, 0, none⟩ = some (.int .i64 x.op) ∧ w'.cell? ⟨b2, 1, none⟩ = some (.int .i64 x.wd) ∧ w'.cell? ⟨b2, 2, none⟩ = some (.int .i64 x.n) ∧ w'.cell? ⟨b2, 3, none⟩ = some (.slice va5 vl5 vc5)))
        (first | (with_reducible exact hk5) | (with_reducible exact hk4) | (with_reducible exact hk3) | (with_reducible exact hk2) | (with_reducible exact hk1) | exact ⟨⟨z00, z01, z02, z03⟩, ⟨z10, z11, z12, z13⟩⟩ | fail)
        ((first
          | (have hgo := HR4.out; clear hgo; go_at_call 15; refine (Eval_any e _ _ _ so (row32 (nextF so sn now set)) _ (HA.out.ext HR4.out) (by rw [ESO.out]; exact HRC.out.ints) (HR.out.ext HR4.out).ints (HM.out.ext HR4.out)).mono ?_; rintro r wh5 ⟨rfl, x1⟩; rw [← EY.out]; have HR5 := Lib.hid (HR4.out.trans x1); have hk5 := And.intro (HV1.out.ext HR5.out).cells ((HV2.out.ext HR5.out).cells); clear x1)
          | (have hgo := HR3.out; clear hgo; go_at_call 14; refine (State_any old _ _ (HO.out.ext HR3.out)).mono ?_; rintro r wh4 ⟨Bc, hBc, rfl, hrow, x1⟩; have HRC := Lib.hid hrow; clear hrow hBc; have HR4 := Lib.hid (HR3.out.trans x1); have hk4 := And.intro (HV1.out.ext HR4.out).cells ((HV2.out.ext HR4.out).cells); clear x1)
          | (have hgo := HR2.out; clear hgo; go_at_call 15; refine (Eval_any x _ _ _ so sn _ (HT.out.ext HR2.out) (by rw [ESO.out]; exact HRA.out.ints) (by rw [ESN.out]; exact HRB.out.ints) (HM.out.ext HR2.out)).mono ?_; rintro r wh3 ⟨rfl, x1⟩; rw [HL2.out]; have HR3 := Lib.hid (HR2.out.trans x1); have hk3 := And.intro (HV1.out.ext HR3.out).cells ((HV2.out.ext HR3.out).cells); clear x1)
          | (have hgo := HR1.out; clear hgo; go_at_call 14; refine (State_any now _ _ (HN.out.ext HR1.out)).mono ?_; rintro r wh2 ⟨Bb, hBb, rfl, hrow, x1⟩; have HRB := Lib.hid hrow; replace HRA := Lib.hid (HRA.out.ext x1); clear hrow hBb; have HR2 := Lib.hid (HR1.out.trans x1); have hk2 := And.intro (HV1.out.ext HR2.out).cells ((HV2.out.ext HR2.out).cells); clear x1)
          | (have hgo := HR0.out; clear hgo; go_at_call 14; refine (State_any old _ _ (HO.out.ext HR0.out)).mono ?_; rintro r wh1 ⟨Ba, hBa, rfl, hrow, x1⟩; have HRA := Lib.hid hrow; clear hrow hBa; have HR1 := Lib.hid (HR0.out.trans x1); have hk1 := And.intro (HV1.out.ext HR1.out).cells ((HV2.out.ext HR1.out).cells); clear x1)))
      replace HX := Lib.hid (HX.out.trans HR5.out)
      go_wp2_with fail
      exact bodyPost_ret (v := .bool true) (by simp [results, Tryd.results3, go_sem]) rfl ⟨rfl, HX.out⟩
    · have HR := Lib.hid hR
      clear hR
      rcases HS.out with ⟨_, e⟩ | ⟨b', o', cap', e, _, hk'⟩
      · rw [e] at hk; simp at hk
      cases e
      have hlb : b' < wk4.heap.size := block_lt (hk' k hk).1
      have hne : b' ≠ B := by have := HB.out; omega
      have hE := (hk' k hk).2.ext HXr.out
      obtain ⟨g0, g1, g2, kv, g3, hkk⟩ := hE.cells
      obtain ⟨ka, kc, rfl⟩ := SliceAt.shape hkk
      have gc := HXr.out.cell (hk' k hk).1
      have HT : Hid (EVal wr (.agg #[.int .i64 set[k].2.op, .int .i64 set[k].2.wd, .int .i64 set[k].2.n, .slice ka set[k].2.kids.length kc]) set[k].2) := ⟨_, rfl, hkk⟩
      have HVB : Hid (∀ w', Ext wk4 w' → w'.cell? ⟨b', o' + k * 5, none⟩ = some (.int .i64 set[k].1) ∧ w'.cell? ⟨b', o' + k * 5 + 1, none⟩ = some (.int .i64 set[k].2.op) ∧ w'.cell? ⟨b', o' + k * 5 + 1 + 1, none⟩ = some (.int .i64 set[k].2.wd) ∧ w'.cell? ⟨b', o' + k * 5 + 1 + 2, none⟩ = some (.int .i64 set[k].2.n) ∧ w'.cell? ⟨b', o' + k * 5 + 1 + 3, none⟩ = some (.slice ka set[k].2.kids.length kc)) :=
        by
          obtain ⟨e0, e1, e2, kw, e3, _⟩ := (hk' k hk).2.cells
          have : kw = .slice ka set[k].2.kids.length kc := by have h3 := HXr.out.cell e3; rw [g3] at h3; exact (Option.some.inj h3).symm
          subst this
          exact fun w' hx => ⟨hx.cell (hk' k hk).1, hx.cell e0, hx.cell e1, hx.cell e2, hx.cell e3⟩
      clear hkk hk' hE
      by_cases hc : 0 ≤ set[k].1 ∧ set[k].1 < 32
      · obtain ⟨hc0, hc32⟩ := hc
        obtain ⟨c, hcc⟩ := Int.eq_ofNat_of_zero_le hc0
        have HCC := Lib.hid hcc
        have h0 : (0 : Int) ≤ (c : Int) := by omega
        have h32 : (c : Int) < 32 := by omega
        have hn32 : c < 32 := by omega
        rw [hcc] at gc HVB
        clear hcc hc0 hc32
        have d1 : decide ((0 : Int) ≤ (c : Int)) = true := decide_eq_true h0
        have d2 : decide ((c : Int) < 32) = true := decide_eq_true h32
        go_wp2_with fail
        have HR0 := Lib.hid ((Ext.refl wr).drew)
        go_region_held3 (fun w' => w'.cell? ⟨b', o' + k * 5, none⟩ = some (.int .i64 (c : Int)) ∧ w'.cell? ⟨b', o' + k * 5 + 1, none⟩ = some (.int .i64 set[k].2.op) ∧ w'.cell? ⟨b', o' + k * 5 + 1 + 1, none⟩ = some (.int .i64 set[k].2.wd) ∧ w'.cell? ⟨b', o' + k * 5 + 1 + 2, none⟩ = some (.int .i64 set[k].2.n) ∧ w'.cell? ⟨b', o' + k * 5 + 1 + 3, none⟩ = some (.slice ka set[k].2.kids.length kc))
          (first | (with_reducible exact hk4) | (with_reducible exact hk3) | (with_reducible exact hk2) | (with_reducible exact hk1) | exact ⟨gc, g0, g1, g2, g3⟩ | go_keep)
          ((first
            | (have hgo := HR2.out; clear hgo; go_at_call 15; refine (Eval_any set[k].2 _ _ _ so sn _ (HT.out.ext HR2.out) (by rw [ESO.out]; exact HRA.out.ints.ext HR12.out) (by rw [ESN.out]; exact HRB.out.ints) (HM.out.ext (HXr.out.trans HR2.out))).mono ?_; rintro r wh3 ⟨rfl, x1⟩; have HR3 := Lib.hid (HR2.out.trans x1); have hk3 := HVB.out _ (HXr.out.trans HR3.out); have hk4 := HVB.out _ ((HXr.out.trans HR3.out).setCell (p := ⟨B, c, none⟩) HB.out (.int .i64 (set[k].2.eval so sn))); have hq1 := (HR.out.ext HR3.out).cell c hn32; have hq2 := (HR.out.ext HR3.out).frozen c; clear x1)
            | (have hgo := HR1.out; clear hgo; go_at_call 14; refine (State_any now _ _ (HN.out.ext (HXr.out.trans HR1.out))).mono ?_; rintro r wh2 ⟨Bb, hBb, rfl, hrow, x1⟩; have HRB := Lib.hid hrow; have HR12 := Lib.hid x1; have HR2 := Lib.hid (HR1.out.trans x1); have hk2 := HVB.out _ (HXr.out.trans HR2.out); clear x1 hrow hBb)
            | (have hgo := HR0.out; clear hgo; go_at_call 14; refine (State_any old _ _ (HO.out.ext (HXr.out.trans HR0.out))).mono ?_; rintro r wh1 ⟨Ba, hBa, rfl, hrow, x1⟩; have HRA := Lib.hid hrow; have HR1 := Lib.hid (HR0.out.trans x1); have hk1 := HVB.out _ (HXr.out.trans HR1.out); clear x1 hrow hBa)))
        go_wp2_with fail
        exact ⟨SubRel.down ((HXr.out.trans HR3.out).setCell HB.out _) hk (by go_num) (((HR.out.ext HR3.out).set c _).congr fun j hj => by rw [drop_next hk]; exact nextF_set HCC.out j), by simp [intOf]⟩
      · have HF : Hid (RowAt wr B (nextF so sn now (set.drop k))) := HR.out.congr fun j hj => by rw [drop_next hk]; exact nextF_skip (by omega) j hj
        rcases (show set[k].1 < 0 ∨ (0 ≤ set[k].1 ∧ 32 ≤ set[k].1) by omega) with hc1 | ⟨hc1, hc2⟩
        · have d1 : decide ((0 : Int) ≤ set[k].1) = false := decide_eq_false (by omega)
          go_wp2_with fail
          exact ⟨SubRel.down HXr.out hk (by go_num) HF.out, by simp [intOf]⟩
        · have d1 : decide ((0 : Int) ≤ set[k].1) = true := decide_eq_true hc1
          have d2 : decide (set[k].1 < 32) = false := decide_eq_false (by omega)
          go_wp2_with fail
          exact ⟨SubRel.down HXr.out hk (by go_num) HF.out, by simp [intOf]⟩
end Go.Proofs.YtdancokndklpnaaDoor
