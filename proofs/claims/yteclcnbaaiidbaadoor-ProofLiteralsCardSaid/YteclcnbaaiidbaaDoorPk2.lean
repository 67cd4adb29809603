/-
  The walks of the reference's Step and Valid.
-/
import Derived.Test.YteclcnbaaiidbaaDoorPk1
namespace Go.Proofs.YteclcnbaaiidbaaDoor
open Go.RowKit

theorem varS_abs {x : Int} (h : InI x) : (1 ≤ varS x ∧ varS x = absI x) ∨ (varS x < 1 ∧ (absI x < 1 ∨ absI x = 9223372036854775808)) := by
  unfold InI at h
  unfold varS absI
  split
  · by_cases c : x = -9223372036854775808
    · subst c; right; refine ⟨by unfold wrap64; omega, .inr (by omega)⟩
    · left; have : wrap64 (-x) = -x := by unfold wrap64; omega
      rw [this]; exact ⟨by omega, rfl⟩
  · by_cases c : 1 ≤ x
    · exact .inl ⟨c, rfl⟩
    · exact .inr ⟨by omega, .inl (by omega)⟩
/-- What the reference finds of the first literals. -/
structure LitOk (vars : Int) (l : List Int) (k : Nat) : Prop where
  bd : ∀ i, i < k → 1 ≤ varS (l.getD i 0) ∧ varS (l.getD i 0) ≤ vars
  ne : ∀ i j, i < j → j < k → varS (l.getD i 0) ≠ varS (l.getD j 0)
theorem litOk_iff {vars : Int} {l : List Int} (hr : ∀ x ∈ l, InI x) (hv : InI vars) : litsOk vars l = true ↔ LitOk vars l l.length := by
  have hg : ∀ i, (h : i < l.length) → l.getD i 0 = l[i] := fun i h => by simp [List.getD, h]
  have hm : ∀ i, (h : i < l.length) → InI l[i] := fun i h => hr _ (List.getElem_mem h)
  unfold InI at hv
  unfold litsOk
  rw [Bool.and_eq_true, List.all_eq_true, decide_eq_true_eq]
  constructor
  · rintro ⟨h1, h2⟩
    have h3 : ∀ i, (h : i < l.length) → 1 ≤ absI l[i] ∧ absI l[i] ≤ vars := fun i h => by simpa using h1 _ (List.getElem_mem h)
    have h4 : ∀ i, (h : i < l.length) → varS l[i] = absI l[i] := fun i h => by
      have a := h3 i h
      rcases varS_abs (hm i h) with b | b
      · exact b.2
      · omega
    refine ⟨fun i h => ?_, fun i j hij hj => ?_⟩
    · rw [hg i h, h4 i h]; exact h3 i h
    · rw [hg i (by omega), hg j hj, h4 i (by omega), h4 j hj]
      have := (List.pairwise_iff_getElem.1 h2) i j (by simp; omega) (by simpa using hj) hij
      simpa using this
  · rintro ⟨h1, h2⟩
    have h4 : ∀ i, (h : i < l.length) → varS l[i] = absI l[i] ∧ 1 ≤ absI l[i] ∧ absI l[i] ≤ vars := fun i h => by
      have a := h1 i h
      rw [hg i h] at a
      rcases varS_abs (hm i h) with b | b
      · rw [← b.2]; exact ⟨rfl, a.1, a.2⟩
      · omega
    refine ⟨fun x hx => ?_, ?_⟩
    · obtain ⟨i, hi, rfl⟩ := List.getElem_of_mem hx
      have := h4 i hi
      simp; omega
    · show List.Pairwise (· ≠ ·) _
      rw [List.pairwise_iff_getElem]
      intro i j hi hj hij
      simp only [List.length_map] at hi hj
      have := h2 i j hij hj
      rw [hg i (by omega), hg j hj, (h4 i (by omega)).1, (h4 j hj).1] at this
      simpa using this
set_option maxRecDepth 100000 in
set_option maxHeartbeats 4000000 in
theorem Step_any (vars num : Int) (lits hints : List Int) (a1 a2 : Option Addr) (c1 c2 : Nat) (w : World) (i1 : Ints w (.slice a1 lits.length c1) lits) (i2 : Ints w (.slice a2 hints.length c2) hints) (hr : ∀ x ∈ lits, InI x) (hv : InI vars) :
    Calls Tryd.prog 30 #[.int .i64 vars, .int .i64 num, .agg #[.slice a1 lits.length c1, .slice a2 hints.length c2]] w fun r w' => r = .returned (.bool (litsOk vars lits && hintsOk num hints)) ∧ Ext w w' := by
  have hlen1 := SliceAt.len_le i1
  have hlen2 := SliceAt.len_le i2
  obtain ⟨W, hW⟩ : ∃ W, W = w.alloc (.cells #[.slice a1 lits.length c1, .slice a2 hints.length c2] 35) := ⟨_, rfl⟩
  have hx : Ext w W := by rw [hW]; exact (Ext.refl w).alloc _
  have hB : W.heap[w.heap.size]? = some (.cells #[.slice a1 lits.length c1, .slice a2 hints.length c2] 35 (0, 0)) := by rw [hW]; exact heap_new _ _
  have p0 : W.cell? ⟨w.heap.size, 0, none⟩ = some (.slice a1 lits.length c1) := by simp [World.cell?, hB]
  have p1 : W.cell? ⟨w.heap.size, 1, none⟩ = some (.slice a2 hints.length c2) := by simp [World.cell?, hB]
  have I1 := Lib.hid (i1.ext hx); have I2 := Lib.hid (i2.ext hx); have HX := Lib.hid hx; have HW := Lib.hid hW
  have HLI := Lib.hid (litOk_iff (vars := vars) hr hv)
  clear i1 i2 hB hx hW hr
  go_enter Tryd.func30, Tryd.ntmps30
  go_upto_region 1 with fail
  rw [← HW.out]
  clear HW
  generalize w.heap.size = b0 at *
  go_wp2_with fail
  go_loop [7] (fun i => ∃ k : Nat, k ≤ lits.length ∧ i = .int .i64 k ∧ LitOk vars lits k) (fun i => lits.length - (intOf i).toNat)
  case atStart => exact ⟨0, Nat.zero_le _, rfl, ⟨fun i h => by omega, fun i j _ h => by omega⟩⟩
  case round =>
    obtain ⟨k, hk, rfl, hok⟩ := hrel
    have HOK := Lib.hid hok; clear hok
    by_cases hlt : k < lits.length
    · obtain ⟨b, o, ha, g⟩ := ints_at I1.out k hlt
      have HA := Lib.hid ha
      subst ha
      have HNO : Hid (¬ LitOk vars lits (k + 1) → (litsOk vars lits && hintsOk num hints) = false) := fun h => by
        have : litsOk vars lits = false := by
          rw [Bool.eq_false_iff]; intro c
          have := HLI.out.1 c
          exact h ⟨fun i hi => this.bd i (by omega), fun i j hij hj => this.ne i j hij (by omega)⟩
        rw [this]; rfl
      have HNB : Hid (¬ (1 ≤ varS (lits.getD k 0) ∧ varS (lits.getD k 0) ≤ vars) → ¬ LitOk vars lits (k + 1)) := fun h c => h (c.bd k (by omega))
      have HNE : Hid (∀ j, j < k → varS (lits.getD j 0) = varS (lits.getD k 0) → ¬ LitOk vars lits (k + 1)) := fun j hj e c => c.ne j k hj (by omega) e
      have HYES : Hid (1 ≤ varS (lits.getD k 0) → varS (lits.getD k 0) ≤ vars → (∀ j, j < k → varS (lits.getD j 0) ≠ varS (lits.getD k 0)) → LitOk vars lits (k + 1)) := fun h1 h2 h3 =>
        ⟨fun i hi => by
          by_cases e : i = k
          · rw [e]; exact ⟨h1, h2⟩
          · exact HOK.out.bd i (by omega), fun i j hij hj => by
          by_cases e : j = k
          · rw [e]; exact h3 i (by omega)
          · exact HOK.out.ne i j hij (by omega)⟩
      generalize lits.getD k 0 = lk at *
      go_wp2_with fail
      refine (Var_any lk W).mono ?_
      rintro r wv ⟨rfl, hwv⟩
      rw [hwv]; clear hwv wv
      clear g
      generalize varS lk = v at *
      by_cases h1 : v < 1
      · have HN := Lib.hid (HNO.out (HNB.out (by omega)))
        clear HNO HNB HNE HYES
        go_wp2_with fail
        go_ret
        exact ⟨by rw [HN.out]; rfl, HX.out⟩
      by_cases h2 : v > vars
      · have HN := Lib.hid (HNO.out (HNB.out (by omega)))
        clear HNO HNB HNE HYES
        go_wp2_with fail
        go_ret
        exact ⟨by rw [HN.out]; rfl, HX.out⟩
      have HY2 := Lib.hid (HYES.out (by omega) (by omega))
      clear HYES HNB
      go_wp2_with fail
      go_loop [9] (fun i => ∃ q : Nat, q ≤ k ∧ i = .int .i64 q ∧ ∀ j, j < q → varS (lits.getD j 0) ≠ v) (fun i => k - (intOf i).toNat)
      case atStart => exact ⟨0, Nat.zero_le _, rfl, fun j h => by omega⟩
      case round =>
        obtain ⟨q, hq, rfl, hne⟩ := hrel
        have HNEq := Lib.hid hne; clear hne
        by_cases hqk : q < k
        · obtain ⟨b', o', ha', g⟩ := ints_at I1.out q (by omega)
          cases ha'
          have HNk : Hid (varS (lits.getD q 0) = v → (litsOk vars lits && hintsOk num hints) = false) := fun e => HNO.out (HNE.out q hqk e)
          have HYk : Hid (varS (lits.getD q 0) ≠ v → ∀ j, j < q + 1 → varS (lits.getD j 0) ≠ v) := fun e j hj => by
            by_cases c : j = q
            · rw [c]; exact e
            · exact HNEq.out j (by omega)
          have hql : q < lits.length := by omega
          generalize lits.getD q 0 = lq at *
          go_wp2_with fail
          refine (Var_any lq W).mono ?_
          rintro r wv ⟨rfl, hwv⟩
          rw [hwv]; clear hwv wv g
          generalize varS lq = u at *
          by_cases e : u = v
          · have HN := Lib.hid (HNk.out e)
            have hb : (u == v) = true := by simp [e]
            clear HNk HYk e
            go_wp2_with fail
            go_ret
            exact ⟨by rw [HN.out]; rfl, HX.out⟩
          · have HYY := Lib.hid (HYk.out e)
            have hb : (u == v) = false := by simp [e]
            clear HNk HYk e
            go_wp2_with fail
            exact ⟨⟨q + 1, by omega, by go_num, HYY.out⟩, by simp [intOf]; omega⟩
        · have hqe : q = k := by omega
          have HF := Lib.hid (HY2.out (by rw [← hqe]; exact HNEq.out))
          subst hqe
          go_wp2_with fail
          exact ⟨⟨q + 1, by omega, by go_num, HF.out⟩, by simp [intOf]; omega⟩
    · have hkl : k = lits.length := by omega
      have HT : Hid ((litsOk vars lits && hintsOk num hints) = hintsOk num hints) := by unfold Hid; rw [HLI.out.2 (by rw [← hkl]; exact HOK.out), Bool.true_and]
      clear HOK HLI
      go_wp2_with fail
      go_loop [10] (fun i => ∃ q : Nat, q ≤ hints.length ∧ i = .int .i64 q ∧ hintsOk num (hints.take q) = true) (fun i => hints.length - (intOf i).toNat)
      case atStart => exact ⟨0, Nat.zero_le _, rfl, rfl⟩
      case round =>
        obtain ⟨q, hq, rfl, hh⟩ := hrel
        have HH := Lib.hid hh; clear hh
        by_cases hlq : q < hints.length
        · obtain ⟨b, o, ha, g⟩ := ints_at I2.out q hlq
          subst ha
          have hg : hints.getD q 0 = hints[q] := by simp [List.getD, hlq]
          rw [hg] at g
          have hmem : hints[q] ∈ hints := List.getElem_mem hlq
          have HN3 : Hid (¬ (0 ≤ hints[q] ∧ hints[q] < num) → (litsOk vars lits && hintsOk num hints) = false) := fun h => by
            rw [HT.out, Bool.eq_false_iff]; intro c
            unfold hintsOk at c
            rw [List.all_eq_true] at c
            have := c _ hmem
            simp only [Bool.and_eq_true, decide_eq_true_eq] at this
            exact h this
          have HY3 : Hid (0 ≤ hints[q] → hints[q] < num → hintsOk num (hints.take (q + 1)) = true) := fun h1 h2 => by
            unfold hintsOk
            rw [List.take_succ_eq_append_getElem hlq, List.all_append]
            have := HH.out
            unfold hintsOk at this
            rw [this]; simp [h1, h2]
          clear hg hmem
          generalize hints[q] = x at *
          by_cases h0 : x < 0
          · have HN := Lib.hid (HN3.out (by omega))
            clear HN3 HY3
            go_wp2_with fail
            go_ret
            exact ⟨by rw [HN.out]; rfl, HX.out⟩
          by_cases h1 : x ≥ num
          · have HN := Lib.hid (HN3.out (by omega))
            clear HN3 HY3
            go_wp2_with fail
            go_ret
            exact ⟨by rw [HN.out]; rfl, HX.out⟩
          · have HYY := Lib.hid (HY3.out (by omega) (by omega))
            clear HN3 HY3
            go_wp2_with fail
            exact ⟨⟨q + 1, by omega, by go_num, HYY.out⟩, by simp [intOf]; omega⟩
        · have HN : Hid ((litsOk vars lits && hintsOk num hints) = true) := by have := HH.out; rw [List.take_of_length_le (show hints.length ≤ q by omega)] at this; unfold Hid; rw [HT.out, this]
          go_wp2_with fail
          go_ret
          exact ⟨by rw [HN.out]; rfl, HX.out⟩
end Go.Proofs.YteclcnbaaiidbaaDoor
