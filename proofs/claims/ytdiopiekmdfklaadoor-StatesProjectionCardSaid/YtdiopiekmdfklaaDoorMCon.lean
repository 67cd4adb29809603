/-
  cmp.Compare of ints; the binary search with a function; states.Contains.
  slices.BinarySearchFunc with states.Contains's comparison.
  The walk of states.Contains.
-/
import Derived.Test.YtdiopiekmdfklaaDoorMSta
import Derived.Test.YtdiopiekmdfklaaDoorMNum
import Derived.Test.YtdiopiekmdfklaaDoorMBmb
import Derived.Test.YtdiopiekmdfklaaDoorMRnb
import Derived.Deep.RegionHeld3
namespace Go.Proofs.YtdiopiekmdfklaaDoor
open Go.RowKit

def cmpS (a b : Int) : Int := if a < b then -1 else if b < a then 1 else 0
set_option maxHeartbeats 1000000 in
theorem Compare_any (a b : Int) (w : World) : Calls Tryd.prog 51 #[.int .i64 a, .int .i64 b] w fun r w' => r = .returned (.int .i64 (cmpS a b)) ∧ w' = w := by
  have hN : ∀ (x : Int) (V : World), Calls Tryd.prog 77 #[.int .i64 x] V fun r w' => r = .returned (.bool false) ∧ w' = V := fun x V => by
    go_enter Tryd.func77, Tryd.ntmps77
    go_wp2_with fail
    go_ret
    exact ⟨by simp, rfl⟩
  have HN := Lib.hid hN
  clear hN
  rcases Int.lt_trichotomy a b with h | h | h
  · have h1 : decide (a < b) = true := decide_eq_true h
    have HC : Hid (cmpS a b = -1) := by unfold Hid cmpS; rw [if_pos h]
    clear h
    go_enter Tryd.func51, Tryd.ntmps51
    go_wp2_with fail
    refine (HN.out _ _).mono ?_
    rintro r w1 ⟨rfl, rfl⟩
    go_wp2_with fail
    refine (HN.out _ _).mono ?_
    rintro r w1 ⟨rfl, rfl⟩
    go_wp2_with fail
    go_ret
    exact ⟨by rw [HC.out]; rfl, rfl⟩
  · subst h
    have h1 : decide (a < a) = false := decide_eq_false (by omega)
    have HC : Hid (cmpS a a = 0) := by unfold Hid cmpS; rw [if_neg (by omega), if_neg (by omega)]
    go_enter Tryd.func51, Tryd.ntmps51
    go_wp2_with fail
    refine (HN.out _ _).mono ?_
    rintro r w1 ⟨rfl, rfl⟩
    go_wp2_with fail
    refine (HN.out _ _).mono ?_
    rintro r w1 ⟨rfl, rfl⟩
    go_wp2_with fail
    go_ret
    exact ⟨by rw [HC.out]; rfl, rfl⟩
  · have h1 : decide (a < b) = false := decide_eq_false (by omega)
    have h2 : decide (b < a) = true := decide_eq_true h
    have HC : Hid (cmpS a b = 1) := by unfold Hid cmpS; rw [if_neg (by omega), if_pos h]
    clear h
    go_enter Tryd.func51, Tryd.ntmps51
    go_wp2_with fail
    refine (HN.out _ _).mono ?_
    rintro r w1 ⟨rfl, rfl⟩
    go_wp2_with fail
    refine (HN.out _ _).mono ?_
    rintro r w1 ⟨rfl, rfl⟩
    go_wp2_with fail
    go_ret
    exact ⟨by rw [HC.out]; rfl, rfl⟩
set_option maxHeartbeats 1000000 in
theorem Contains1_any (a b : Int) (w : World) : Calls Tryd.prog 50 #[.int .i64 a, .int .i64 b] w fun r w' => r = .returned (.int .i64 (cmpS a b)) ∧ w' = w := by
  go_enter Tryd.func50, Tryd.ntmps50
  go_wp2_with fail
  refine (Compare_any a b _).mono ?_
  rintro r w1 ⟨rfl, rfl⟩
  go_wp2_with fail
  go_ret
  exact ⟨rfl, rfl⟩
end Go.Proofs.YtdiopiekmdfklaaDoor
namespace Go.Proofs.YtdiopiekmdfklaaDoor
open Go.RowKit

theorem sorted_get {l : List Int} (h : l.Pairwise (· < ·)) {i j : Nat} (hi : i < j) (hj : j < l.length) : l.getD i 0 < l.getD j 0 := by
  rw [List.getD_eq_getElem?_getD, List.getD_eq_getElem?_getD, List.getElem?_eq_getElem hj, List.getElem?_eq_getElem (by omega)]
  exact List.pairwise_iff_getElem.1 h i j _ _ hi
theorem cmp_lt (a b : Int) : decide (cmpS a b < 0) = decide (a < b) := by
  unfold cmpS
  by_cases h1 : a < b
  · rw [if_pos h1]; simp [h1]
  · rw [if_neg h1]
    by_cases h2 : b < a
    · rw [if_pos h2]; simp; omega
    · rw [if_neg h2]; simp; omega
theorem ints_at {w : World} {a : Option Addr} {n c : Nat} {l : List Int} (h : Ints w (.slice a n c) l) (k : Nat) (hk : k < l.length) : ∃ b o, a = some ⟨b, o, none⟩ ∧ w.cell? ⟨b, o + k, none⟩ = some (.int .i64 (l.getD k 0)) := by
  rcases h with ⟨_, e⟩ | ⟨b, o, cc, e, hm, hcell⟩
  · subst e; simp at hk
  · cases e
    refine ⟨b, o, rfl, ?_⟩
    have := hcell k hk
    rw [List.getD_eq_getElem?_getD, List.getElem?_eq_getElem hk]
    simpa [IntAt] using this
theorem mem_at {l : List Int} (h : l.Pairwise (· < ·)) {x : Int} {p : Nat} (h1 : ∀ k, k < p → l.getD k 0 < x) (h2 : ∀ k, p ≤ k → k < l.length → x ≤ l.getD k 0) : (x ∈ l) ↔ (p < l.length ∧ l.getD p 0 = x) := by
  constructor
  · intro hx
    obtain ⟨i, hi, e⟩ := List.getElem_of_mem hx
    have e' : l.getD i 0 = x := by rw [List.getD_eq_getElem?_getD, List.getElem?_eq_getElem hi]; exact e
    rcases Nat.lt_trichotomy i p with c | c | c
    · have := h1 i c; omega
    · subst c; exact ⟨hi, e'⟩
    · have a1 := h2 p (Nat.le_refl _) (by omega)
      have a2 := sorted_get h c hi
      omega
  · rintro ⟨hp, e⟩
    rw [List.getD_eq_getElem?_getD, List.getElem?_eq_getElem hp] at e
    rw [← e]; exact List.getElem_mem hp
theorem cmp_eq (a b : Int) : (cmpS a b == 0) = decide (a = b) := by
  unfold cmpS
  by_cases h1 : a < b
  · rw [if_pos h1]; simp; omega
  · rw [if_neg h1]
    by_cases h2 : b < a
    · rw [if_pos h2]; simp; omega
    · rw [if_neg h2]; simp; omega
set_option maxRecDepth 100000 in
set_option maxHeartbeats 2000000 in
theorem BSF_any (l : List Int) (v : Value) (x : Int) (w : World) (hl : Ints w v l) (hs : l.Pairwise (· < ·)) (hn : l.length ≤ 1000000) : Calls Tryd.prog 49 #[v, .int .i64 x, .func (.func 50) #[] #[]] w fun r w' => (∃ p : Int, r = .returned (.tuple #[.int .i64 p, .bool (decide (x ∈ l))])) ∧ w' = w := by
  obtain ⟨a, c, rfl⟩ := hl.shape
  have HL := Lib.hid hl; have HS := Lib.hid hs
  clear hl hs
  go_enter Tryd.func49, Tryd.ntmps49
  go_wp2_with fail
  go_loop [9, 10] (fun i j => ∃ p q : Nat, p ≤ q ∧ q ≤ l.length ∧ i = .int .i64 p ∧ j = .int .i64 q ∧ (∀ k, k < p → l.getD k 0 < x) ∧ (∀ k, q ≤ k → k < l.length → x ≤ l.getD k 0)) (fun i j => (intOf j).toNat - (intOf i).toNat)
  case atStart => exact ⟨0, l.length, Nat.zero_le _, Nat.le_refl _, rfl, rfl, fun k h => by omega, fun k h1 h2 => by omega⟩
  case round =>
    obtain ⟨p, q, hpq, hq, rfl, rfl, h1, h2⟩ := hrel
    have HA := Lib.hid h1; have HZ := Lib.hid h2
    clear h1 h2
    by_cases hlt : p < q
    · obtain ⟨mm, hmm⟩ : ∃ mm, mm = (p + q) / 2 := ⟨_, rfl⟩
      have hmid : ((p : Int) + (q : Int)) / 2 = (mm : Int) := by omega
      have hm1 : p ≤ mm := by omega
      have hm2 : mm < q := by omega
      have i1 : (0 : Int) ≤ (mm : Int) := by omega
      have i2 : (mm : Int) < (l.length : Int) := by omega
      obtain ⟨b, o, rfl, g0⟩ := ints_at HL.out mm (by omega)
      obtain ⟨y, hy⟩ : ∃ y, y = l.getD mm 0 := ⟨_, rfl⟩
      rw [← hy] at g0
      have HY := Lib.hid hy
      clear hmm hy
      go_wp2_with fail
      refine (Contains1_any _ _ _).mono ?_
      rintro r w1 ⟨rfl, rfl⟩
      have hcl := cmp_lt y x
      by_cases hc : y < x
      · rw [decide_eq_true hc] at hcl
        have HC := Lib.hid hc
        clear hc
        go_wp2_with fail
        refine ⟨⟨mm + 1, q, by omega, hq, by go_num, rfl, fun k hk => ?_, HZ.out⟩, by simp [intOf]; omega⟩
        rcases Nat.lt_or_ge k mm with e | e
        · have := sorted_get HS.out e (by omega); have := HC.out; have := HY.out; omega
        · obtain rfl : k = mm := by omega
          rw [← HY.out]; exact HC.out
      · rw [decide_eq_false hc] at hcl
        have HC := Lib.hid hc
        clear hc
        go_wp2_with fail
        refine ⟨⟨p, mm, hm1, by omega, rfl, rfl, HA.out, fun k hk1 hk2 => ?_⟩, by simp [intOf]; omega⟩
        have := HC.out; have := HY.out
        rcases Nat.lt_or_ge mm k with e | e
        · have := sorted_get HS.out e hk2; omega
        · obtain rfl : k = mm := by omega
          omega
    · obtain rfl : p = q := by omega
      have HM := Lib.hid (mem_at HS.out HA.out HZ.out)
      by_cases hp : p < l.length
      · have hpd : decide (p < l.length) = true := decide_eq_true hp
        have i1 : (0 : Int) ≤ (p : Int) := by omega
        have i2 : (p : Int) < (l.length : Int) := by omega
        obtain ⟨b, o, rfl, g0⟩ := ints_at HL.out p hp
        obtain ⟨y, hy⟩ : ∃ y, y = l.getD p 0 := ⟨_, rfl⟩
        rw [← hy] at g0
        have HF : Hid ((cmpS y x == 0) = decide (x ∈ l)) := by
          unfold Hid
          rw [cmp_eq]
          congr 1
          rw [hy]
          exact propext ⟨fun e => HM.out.2 ⟨hp, e⟩, fun e => (HM.out.1 e).2⟩
        clear hp hy
        go_wp2_with fail
        refine (Contains1_any _ _ _).mono ?_
        rintro r w1 ⟨rfl, rfl⟩
        go_wp2_with fail
        go_ret2
        exact ⟨⟨p, by rw [← HF.out]; rfl⟩, rfl⟩
      · have hpd : decide (p < l.length) = false := decide_eq_false hp
        have HNO : Hid (decide (x ∈ l) = false) := decide_eq_false fun h => hp ((HM.out.1 h).1)
        clear hp
        go_wp2_with fail
        go_ret2
        exact ⟨⟨p, by rw [HNO.out]; rfl⟩, rfl⟩
end Go.Proofs.YtdiopiekmdfklaaDoor
namespace Go.Proofs.YtdiopiekmdfklaaDoor
open Go.RowKit
attribute [local go_sem] Oper.semAt_some

def containsS (cs ws is st : List Int) : Bool := validB cs ws is && decide (numS cs ws st ∈ is)
theorem valid_sorted {cs ws is : List Int} (h : validB cs ws is = true) : is.Pairwise (· < ·) := by
  obtain ⟨h1, h2⟩ := valid_nat h
  rw [← h1]
  unfold castL
  rw [List.pairwise_map]
  exact h2.sorted.imp fun hab => by exact_mod_cast hab
theorem valid_len {cs ws is : List Int} (h : validB cs ws is = true) : is.length ≤ 4096 := by
  obtain ⟨h1, h2⟩ := valid_nat h
  have := sorted_len h2.sorted h2.lt4096
  simpa [natL] using this
set_option maxRecDepth 100000 in
set_option maxHeartbeats 2000000 in
theorem StContains_any (cs ws is st : List Int) (v vs : Value) (w : World) (hv : SetV w v cs ws is) (hst : Ints w vs st) : Calls Tryd.prog 12 #[v, vs] w fun r w' => r = .returned (.bool (containsS cs ws is st)) ∧ Ext w w' := by
  obtain ⟨ca, cc, wa, wc, ia, ic, rfl, h1, h2, h3⟩ := hv.shape
  obtain ⟨sa, sc, rfl⟩ := hst.shape
  obtain ⟨W, hW⟩ : ∃ W, W = w.alloc (.cells #[.slice ca cs.length cc, .slice wa ws.length wc, .slice ia is.length ic] 31) := ⟨_, rfl⟩
  have hx : Ext w W := by rw [hW]; exact (Ext.refl w).alloc _
  have HB : Hid (W.heap[w.heap.size]? = some (.cells #[.slice ca cs.length cc, .slice wa ws.length wc, .slice ia is.length ic] 31 (0, 0))) := by rw [hW]; exact heap_new _ _
  have HV := Lib.hid (hv.ext hx); have HST := Lib.hid (hst.ext hx); have H3 := Lib.hid (h3.ext hx); have HX := Lib.hid hx; have HW := Lib.hid hW
  clear hv h1 h2 h3 hst hx hW
  obtain ⟨p0, p1, p2⟩ := cells3 HB.out
  cases hval : validB cs ws is with
  | false =>
    have HF : Hid (containsS cs ws is st = false) := by unfold Hid containsS; rw [hval]; rfl
    have HVAL := Lib.hid hval
    clear hval
    go_enter Tryd.func12, Tryd.ntmps12
    go_upto_region 1 with fail
    rw [← HW.out]
    go_wp2_with fail
    refine (valid_any cs ws is _ _ HV.out).mono ?_
    rintro r w1 ⟨rfl, x1⟩
    rw [HVAL.out]
    have HX1 := Lib.hid x1
    clear x1
    go_wp2_with fail
    go_ret
    exact ⟨by rw [HF.out]; rfl, HX.out.trans HX1.out⟩
  | true =>
    have HF : Hid (containsS cs ws is st = decide (numS cs ws st ∈ is)) := by unfold Hid containsS; rw [hval]; rfl
    have HVAL := Lib.hid hval
    have HSO := Lib.hid (valid_sorted hval); have HLE := Lib.hid (valid_len hval)
    clear hval
    go_enter Tryd.func12, Tryd.ntmps12
    go_upto_region 1 with fail
    rw [← HW.out]
    go_wp2_with fail
    refine (valid_any cs ws is _ _ HV.out).mono ?_
    rintro r w1 ⟨rfl, x1⟩
    rw [HVAL.out]
    have HX1 := Lib.hid x1
    have q0 := x1.cell p0; have q1 := x1.cell p1; have q2 := x1.cell p2
    have qd := And.intro (x1.drew.cell p0) (And.intro (x1.drew.cell p1) (x1.drew.cell p2))
    clear x1 p0 p1 p2
    go_upto_region 3 with fail
    go_region_held3 (fun w' => w'.cell? ⟨w.heap.size, 0, none⟩ = some (.slice ca cs.length cc) ∧ w'.cell? ⟨w.heap.size, 1, none⟩ = some (.slice wa ws.length wc) ∧ w'.cell? ⟨w.heap.size, 2, none⟩ = some (.slice ia is.length ic))
      ((first
        | (with_reducible exact qe)
        | (with_reducible exact qd)
        | fail))
      ((first
        | (go_at_call 22
           refine (Number_any cs ws is st _ _ w1.drew (HV.out.ext (HX1.out.drew)) (HST.out.ext (HX1.out.drew))).mono ?_
           rintro r w2 ⟨rfl, x2⟩
           have HX2 : Hid (Ext W w2) := HX1.out.drew.trans x2
           have qe := And.intro ((Ext.refl w1).drew.trans x2 |>.cell q0) (And.intro ((Ext.refl w1).drew.trans x2 |>.cell q1) ((Ext.refl w1).drew.trans x2 |>.cell q2))
           clear x2)
        | (go_at_call 49
           refine (BSF_any is _ (numS cs ws st) w2 (H3.out.ext HX2.out) HSO.out (by have := HLE.out; omega)).mono ?_
           rintro r w3 ⟨⟨pp, rfl⟩, rfl⟩)))
    clear qd qe
    go_wp2_with fail
    go_ret
    exact ⟨by rw [HF.out]; rfl, HX.out.trans HX2.out⟩
end Go.Proofs.YtdiopiekmdfklaaDoor
