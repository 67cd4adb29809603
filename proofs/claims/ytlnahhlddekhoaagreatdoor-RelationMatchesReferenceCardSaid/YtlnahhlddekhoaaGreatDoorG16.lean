/-
  ref10.Valid, ref10.Same, ref15.Alike, ref15.Fits. Printed by gen_rr4.py.
  Relations by value; the walk of relation.valid.
  The walks of relation.rows, wordOf.
-/
import Derived.Test.YtlnahhlddekhoaaGreatDoorG15
import Derived.Test.YtlnahhlddekhoaaGreatDoorG10
namespace Go.Proofs.YtlnahhlddekhoaaGreatDoor
open Go.RowKit

theorem ris_first {n : Int} {is : List Int} (h : RisOk n is is.length) : incB is = true ∧ (is = [] ∨ (0 ≤ is.getD 0 0 ∧ is.getD (is.length - 1) 0 < n)) := by
  refine ⟨inc_iff.2 fun i hi => ?_, ?_⟩
  · have := h.inc i hi hi
    simpa [List.getD, hi, show i < is.length by omega] using this
  · rcases Nat.eq_zero_or_pos is.length with h0 | h0
    · exact .inl (List.length_eq_zero_iff.1 h0)
    · have h1 := h.bd 0 h0 h0
      have h2 := h.bd (is.length - 1) (by omega) (by omega)
      refine .inr ⟨?_, ?_⟩
      · simpa [List.getD, h0] using h1.1
      · simpa [List.getD, show is.length - 1 < is.length by omega] using h2.2
theorem first_ris {n : Int} {is : List Int} (h1 : incB is = true) (h2 : is = [] ∨ (0 ≤ is.getD 0 0 ∧ is.getD (is.length - 1) 0 < n)) : RisOk n is is.length := by
  have hin := inc_all h1
  have e : ∀ (i : Nat) (h : i < is.length), is.getD i 0 = is[i] := fun i h => by simp [List.getD, h]
  refine ⟨fun i hi _ => ?_, fun i hi _ => ?_⟩
  · rcases h2 with rfl | ⟨h3, h4⟩
    · simp at hi
    · rw [← e i hi]
      constructor
      · rcases Nat.eq_zero_or_pos i with rfl | h0
        · exact h3
        · have := hin 0 i h0 hi; omega
      · rcases Nat.lt_or_ge i (is.length - 1) with h0 | h0
        · have := hin i (is.length - 1) h0 (by omega); omega
        · have : i = is.length - 1 := by omega
          rw [this]; exact h4
  · have := hin i (i + 1) (by omega) hi
    rw [e i (by omega), e (i + 1) hi] at this
    exact this
theorem valid_ris {cs ws is : List Int} (h : smallB cs ws = true) : validB cs ws is = risB (pw (sumI ws)) is := by
  rw [Bool.eq_iff_iff, ris_iff]
  unfold validB
  rw [h, Bool.true_and, Bool.and_eq_true, Bool.or_eq_true, Bool.and_eq_true, decide_eq_true_eq, decide_eq_true_eq, decide_eq_true_eq]
  exact ⟨fun ⟨a, b⟩ => first_ris a b, fun c => ris_first c⟩
theorem valid_small {cs ws is : List Int} (h : smallB cs ws = false) : validB cs ws is = false := by unfold validB; rw [h]; rfl

set_option maxRecDepth 100000 in
set_option maxHeartbeats 2000000 in
theorem RSValid_any (cs ws is : List Int) (v : Value) (w : World) (hv : SetV w v cs ws is) : Calls Tryz.prog 95 #[v] w fun r w' => r = .returned (.bool (validB cs ws is)) ∧ Ext w w' := by
  obtain ⟨ca, cc, wa, wcp, ia, ic, rfl, a1, a2, a3⟩ := hv.shape
  obtain ⟨W, hW⟩ : ∃ W, W = w.alloc (.cells #[.slice ca cs.length cc, .slice wa ws.length wcp, .slice ia is.length ic] 31) := ⟨_, rfl⟩
  have hx : Ext w W := by rw [hW]; exact (Ext.refl w).alloc _
  have hB1 : W.heap[w.heap.size]? = some (.cells #[.slice ca cs.length cc, .slice wa ws.length wcp, .slice ia is.length ic] 31 (0, 0)) := by rw [hW]; exact heap_new _ _
  obtain ⟨p0, p1, p2⟩ := cells3 hB1
  have A1 := Lib.hid (a1.ext hx); have A2 := Lib.hid (a2.ext hx); have A3 := Lib.hid (a3.ext hx)
  have HX := Lib.hid hx; have HW := Lib.hid hW
  clear hv a1 a2 a3 hx hW hB1
  go_enter Tryz.func95, Tryz.ntmps95
  go_upto_region 1 with fail
  rw [← HW.out]
  go_wp2_with fail
  refine (RBits_any cs ws 12 _ _ _ A1.out A2.out).mono ?_
  rintro r w1 ⟨rfl, x1⟩
  have X2 := Lib.hid x1
  have p21 := x1.cell p2
  clear x1 p0 p1 p2
  cases hsm : smallB cs ws with
  | true =>
    obtain ⟨hsh, hwd, hs0, hs12⟩ := small_sum hsm
    have hbe : bitsI cs ws 12 = sumI ws := by unfold bitsI; rw [if_pos ⟨hsh, hs12⟩]
    have HF := Lib.hid (valid_ris (is := is) hsm)
    rw [hbe]
    have hd : decide (0 ≤ sumI ws) = true := decide_eq_true hs0
    clear hbe hsh hwd hsm
    generalize sumI ws = sm at *
    go_upto_region 2 with fail
    have HX0 := Lib.hid ((Ext.refl w1).drew)
    go_region_held3 (fun w' => w'.cell? ⟨w.heap.size, 2, none⟩ = some (.slice ia is.length ic))
      (first | exact p21 | (with_reducible exact hk2) | (with_reducible exact hk1) | fail)
      ((first
        | (have hgo := HX1.out; clear hgo; go_at_call 106; refine (RRising_any is (pw sm) _ _ (A3.out.ext (X2.out.trans HX1.out))).mono ?_; rintro r w3 ⟨rfl, x3⟩; have HX2 := Lib.hid (HX1.out.trans x3); have hk2 := HX2.out.cell p21; clear x3)
        | (go_at_call 87; refine (Power_any sm _ (by omega)).mono ?_; rintro r w2 ⟨rfl, x2⟩; have HX1 := HX0; rw [x2] at HX1; have hk1 := HX1.out.cell p21; clear x2)))
    generalize risB (pw sm) is = bb at *
    go_wp2_with fail
    go_ret
    exact ⟨by rw [HF.out]; rfl, HX.out.trans (X2.out.trans HX2.out)⟩
  | false =>
    have hbe : bitsI cs ws 12 = -1 := by
      unfold bitsI; rw [if_neg]
      intro c
      rw [small_of c.1 c.2] at hsm; cases hsm
    have HF := Lib.hid (valid_small (is := is) hsm)
    rw [hbe]
    clear hbe hsm
    go_upto_region 2 with fail
    go_quiet (fail)
    go_wp2_with fail
    go_ret
    exact ⟨by rw [HF.out]; rfl, (HX.out.trans X2.out).drewN _⟩

def sameS (cs ws : List Int) (is : List Int) (cs2 ws2 : List Int) (js : List Int) : Bool := decide (cs = cs2) && decide (ws = ws2) && decide (is = js)
set_option maxRecDepth 100000 in
set_option maxHeartbeats 2000000 in
theorem RSame10_any (cs ws : List Int) (is : List Int) (cs2 ws2 : List Int) (js : List Int) (va vs : Value) (w : World) (ha : SetV w va cs ws is) (hs : SetV w vs cs2 ws2 js) : Calls Tryz.prog 23 #[va, vs] w fun r w' => r = .returned (.bool (sameS cs ws is cs2 ws2 js)) ∧ Ext w w' := by
  obtain ⟨ca, cc, wa, wcp, ia, ic, rfl, a1, a2, a3⟩ := ha.shape
  obtain ⟨ca2, cc2, wa2, wc2, ia2, ic2, rfl, b1, b2, b3⟩ := hs.shape
  obtain ⟨W, hW⟩ : ∃ W, Boxes w W (.cells #[.slice ca cs.length cc, .slice wa ws.length wcp, .slice ia is.length ic] 31) (.cells #[.slice ca2 cs2.length cc2, .slice wa2 ws2.length wc2, .slice ia2 js.length ic2] 31) := ⟨_, Boxes.mk' _ _ _⟩
  obtain ⟨p0, p1, p2⟩ := cells3 hW.b0
  obtain ⟨q0, q1, q2⟩ := cells3 hW.b1
  have HA := Lib.hid (ha.ext hW.ext); have HS := Lib.hid (hs.ext hW.ext)
  have A1 := Lib.hid (a1.ext hW.ext); have A2 := Lib.hid (a2.ext hW.ext); have C1 := Lib.hid (b1.ext hW.ext); have C2 := Lib.hid (b2.ext hW.ext); have A3 := Lib.hid (a3.ext hW.ext); have C3 := Lib.hid (b3.ext hW.ext)
  have HW := Lib.hid hW
  have HF : Hid (sameS cs ws is cs2 ws2 js = (decide (cs = cs2) && decide (ws = ws2) && decide (is = js))) := rfl
  have X0 := Lib.hid (Ext.refl W)
  clear ha hs a1 a2 a3 b1 b2 b3 hW
  go_enter Tryz.func23, Tryz.ntmps23
  go_upto_region 1 with fail
  rw [← HW.out.eq]
  go_wp2_with fail
  refine (RInts_any cs cs2 _ _ _ (A1.out.ext X0.out) (C1.out.ext X0.out)).mono ?_
  rintro r w1 ⟨rfl, x⟩
  cases h : (decide (cs = cs2)) with
  | false =>
    have HN : Hid (sameS cs ws is cs2 ws2 js = false) := by unfold Hid; rw [HF.out, h]; rfl
    have XL := Lib.hid (HW.out.ext.trans (X0.out.trans x))
    clear h x
    go_wp2_with fail
    go_ret
    exact ⟨by rw [HN.out]; rfl, XL.out⟩
  | true =>
    have H0 := Lib.hid h; have X1 := Lib.hid (X0.out.trans x)
    replace p0 := x.cell p0; replace p1 := x.cell p1; replace p2 := x.cell p2; replace q0 := x.cell q0; replace q1 := x.cell q1; replace q2 := x.cell q2
    clear h x
    go_wp2_with fail
    refine (RInts_any ws ws2 _ _ _ (A2.out.ext X1.out) (C2.out.ext X1.out)).mono ?_
    rintro r w2 ⟨rfl, x⟩
    cases h : (decide (ws = ws2)) with
    | false =>
      have HN : Hid (sameS cs ws is cs2 ws2 js = false) := by unfold Hid; rw [HF.out, H0.out, h]; rfl
      have XL := Lib.hid (HW.out.ext.trans (X1.out.trans x))
      clear h x
      go_wp2_with fail
      go_ret
      exact ⟨by rw [HN.out]; rfl, XL.out⟩
    | true =>
      have H1 := Lib.hid h; have X2 := Lib.hid (X1.out.trans x)
      replace p0 := x.cell p0; replace p1 := x.cell p1; replace p2 := x.cell p2; replace q0 := x.cell q0; replace q1 := x.cell q1; replace q2 := x.cell q2
      clear h x
      go_wp2_with fail
      refine (RInts_any is js _ _ _ (A3.out.ext X2.out) (C3.out.ext X2.out)).mono ?_
      rintro r w3 ⟨rfl, x⟩
      have HN : Hid (sameS cs ws is cs2 ws2 js = (decide (is = js))) := by unfold Hid; rw [HF.out, H0.out, H1.out]; rfl
      have XL := Lib.hid (HW.out.ext.trans (X2.out.trans x))
      clear x
      generalize (decide (is = js)) = bb at *
      go_wp2_with fail
      go_ret
      exact ⟨by rw [HN.out]; rfl, XL.out⟩
end Go.Proofs.YtlnahhlddekhoaaGreatDoor
namespace Go.Proofs.YtlnahhlddekhoaaGreatDoor
open Go.RowKit

def PairAt (w : World) (b o : Nat) (p : Int × Int) : Prop := w.cell? ⟨b, o, .none⟩ = some (.int .i64 p.1) ∧ w.cell? ⟨b, o + 1, .none⟩ = some (.int .i64 p.2)
theorem PairAt.keeps : Keeps PairAt := fun _ _ _ _ _ he h => ⟨he.cell h.1, he.cell h.2⟩
def Pairs (w : World) (v : Value) (l : List (Int × Int)) : Prop := SliceAt 2 PairAt w v l
theorem Pairs.ext {w w' : World} {v : Value} {l : List (Int × Int)} (h : Pairs w v l) (he : Ext w w') : Pairs w' v l := SliceAt.ext PairAt.keeps h he
/-- A relation by value. -/
def RelV (w : World) (v : Value) (cs ws : List Int) (P : List (Int × Int)) : Prop := ∃ vc vw vi, v = .agg #[vc, vw, vi] ∧ Ints w vc cs ∧ Ints w vw ws ∧ Pairs w vi P
theorem RelV.ext {w w' : World} {v : Value} {cs ws : List Int} {P : List (Int × Int)} (h : RelV w v cs ws P) (hx : Ext w w') : RelV w' v cs ws P := by
  obtain ⟨a, b, c, h0, h1, h2, h3⟩ := h; exact ⟨a, b, c, h0, h1.ext hx, h2.ext hx, h3.ext hx⟩
theorem RelV.shape {w : World} {v : Value} {cs ws : List Int} {P : List (Int × Int)} (h : RelV w v cs ws P) : ∃ ca cc wa wc ia ic, v = .agg #[.slice ca cs.length cc, .slice wa ws.length wc, .slice ia P.length ic] ∧ Ints w (.slice ca cs.length cc) cs ∧ Ints w (.slice wa ws.length wc) ws ∧ Pairs w (.slice ia P.length ic) P := by
  obtain ⟨a, b, c, rfl, h1, h2, h3⟩ := h
  obtain ⟨_, _, rfl⟩ := h1.shape
  obtain ⟨_, _, rfl⟩ := h2.shape
  obtain ⟨_, _, rfl⟩ := h3.shape
  exact ⟨_, _, _, _, _, _, rfl, h1, h2, h3⟩
/-- The order of pairs of ints. -/
def ltI (p q : Int × Int) : Prop := p.1 < q.1 ∨ (p.1 = q.1 ∧ p.2 < q.2)
structure PairsOk (n : Int) (P : List (Int × Int)) (k : Nat) : Prop where
  bd : ∀ (i : Nat) (h : i < P.length), i < k → 0 ≤ P[i].1 ∧ P[i].1 < n ∧ 0 ≤ P[i].2 ∧ P[i].2 < n
  inc : ∀ (i : Nat) (h : i + 1 < P.length), i + 1 < k → ltI P[i] P[i + 1]
open Classical in
noncomputable def rvalidB (cs ws : List Int) (P : List (Int × Int)) : Bool := smallB cs ws && decide (sumI ws ≤ 6) && decide (PairsOk (pw (sumI ws)) P P.length)
theorem rvalid_iff {cs ws : List Int} {P : List (Int × Int)} : rvalidB cs ws P = true ↔ smallB cs ws = true ∧ sumI ws ≤ 6 ∧ PairsOk (pw (sumI ws)) P P.length := by
  simp only [rvalidB, Bool.and_eq_true, decide_eq_true_eq, and_assoc]
theorem comb_self (cs ws : List Int) : combB cs ws [] cs ws [] = smallB cs ws := by
  have : validB cs ws [] = smallB cs ws := by simp [validB, incB]
  simp [combB, this]
theorem rvalid_small {cs ws : List Int} {P : List (Int × Int)} (h : smallB cs ws = false) : rvalidB cs ws P = false := by unfold rvalidB; rw [h]; rfl
theorem rvalid_six {cs ws : List Int} {P : List (Int × Int)} (h : ¬ sumI ws ≤ 6) : rvalidB cs ws P = false := by
  rw [Bool.eq_false_iff]; exact fun c => h (rvalid_iff.1 c).2.1
theorem rvalid_no {cs ws : List Int} {P : List (Int × Int)} (h : ¬ PairsOk (pw (sumI ws)) P P.length) : rvalidB cs ws P = false := by
  rw [Bool.eq_false_iff]; exact fun c => h (rvalid_iff.1 c).2.2
theorem sizeRel : (Tryz.prog.info? 29).map (·.size) = some 3 := by kernel_rfl

set_option maxRecDepth 100000 in
set_option maxHeartbeats 2000000 in
theorem rvalid_any (cs ws : List Int) (P : List (Int × Int)) (v : Value) (w : World) (hv : RelV w v cs ws P) (hT : DeB w) : Calls Tryz.prog 57 #[v] w fun r w' => r = .returned (.bool (rvalidB cs ws P)) ∧ Ext w w' := by
  obtain ⟨ca, cc, wa, wcp, ia, ic, rfl, a1, a2, a3⟩ := hv.shape
  have hlen := SliceAt.len_le a3
  obtain ⟨W, hW⟩ : ∃ W, W = (w.alloc (.cells #[.slice ca cs.length cc, .slice wa ws.length wcp, .slice ia P.length ic] 29)).alloc (.cells #[.slice ca cs.length cc, .slice wa ws.length wcp, .slice none 0 0] 31) := ⟨_, rfl⟩
  have hx : Ext w W := by rw [hW]; exact ((Ext.refl w).alloc _).alloc _
  have hz : W.heap.size = w.heap.size + 2 := by rw [hW]; simp
  have hB1 : W.heap[w.heap.size]? = some (.cells #[.slice ca cs.length cc, .slice wa ws.length wcp, .slice ia P.length ic] 29 (0, 0)) := by
    rw [hW, heap_alloc_old _ _ (by simp)]; exact heap_new _ _
  have hB2 : W.heap[w.heap.size + 1]? = some (.cells #[.slice ca cs.length cc, .slice wa ws.length wcp, .slice none 0 0] 31 (0, 0)) := by
    rw [hW]
    have := heap_new (w.alloc (.cells #[.slice ca cs.length cc, .slice wa ws.length wcp, .slice ia P.length ic] 29)) (.cells #[.slice ca cs.length cc, .slice wa ws.length wcp, .slice none 0 0] 31)
    rw [World.size_alloc] at this; exact this
  obtain ⟨p0, p1, p2⟩ := cells3 hB1
  obtain ⟨q0, q1, q2⟩ := cells3 hB2
  have hs : SetV W (.agg #[.slice ca cs.length cc, .slice wa ws.length wcp, .slice none 0 0]) cs ws [] := ⟨_, _, _, rfl, a1.ext hx, a2.ext hx, .inl ⟨⟨_, _, rfl⟩, rfl⟩⟩
  have HS := Lib.hid hs; have A2 := Lib.hid (a2.ext hx); have A3 := Lib.hid (a3.ext hx); have HT := Lib.hid (hT.ext hx)
  have HX := Lib.hid hx; have HZ := Lib.hid hz; have HW := Lib.hid hW
  clear hv a1 a2 a3 hx hz hW hB1 hB2 hT hs
  go_enter Tryz.func57, Tryz.ntmps57
  go_upto_region 2 with fail
  rw [← HW.out]
  go_wp2_with fail
  refine (Meet_any cs ws [] cs ws [] _ _ _ HS.out HS.out HT.out).mono ?_
  intro r w1 h1
  unfold CombPost at h1
  rw [comb_self] at h1
  cases hsm : smallB cs ws with
  | false =>
    rw [hsm] at h1
    obtain ⟨v, rfl, hv, x1⟩ := h1
    obtain ⟨sa, sb, sc, sd, se, sf, rfl⟩ := hv.shape
    have HF := Lib.hid (rvalid_small (P := P) hsm)
    have X1 := Lib.hid (HX.out.trans x1)
    clear hv x1 hsm
    go_wp2_with fail
    go_ret
    exact ⟨by rw [HF.out]; rfl, X1.out.alloc _⟩
  | true =>
    rw [hsm] at h1
    obtain ⟨v, rfl, hv, x1⟩ := h1
    obtain ⟨sa, sb, sc, sd, se, sf, rfl⟩ := hv.shape
    obtain ⟨hsh, hwd, hs0, hs12⟩ := small_sum hsm
    have HSM := Lib.hid hsm; have HWD := Lib.hid hwd
    obtain ⟨w2, hw2⟩ : ∃ w2, w2 = w1.alloc (.cells #[.slice sa cs.length sb, .slice sc ws.length sd, .slice se (combL (· &&& ·) [] []).length sf] 31) := ⟨_, rfl⟩
    have x2 : Ext W w2 := by rw [hw2]; exact x1.alloc _
    have X2 := Lib.hid x2; have HW2 := Lib.hid hw2
    have p02 := x2.cell p0; have p12 := x2.cell p1; have p22 := x2.cell p2
    clear hv x1 hsm hsh hwd x2 hw2 p0 p1 p2 q0 q1 q2
    go_upto_region 3 with fail
    rw [← HW2.out]
    go_wp2_with fail
    refine (rsum_any ws _ _ (A2.out.ext X2.out) HWD.out).mono ?_
    rintro r w3 ⟨rfl, rfl⟩
    by_cases h6 : sumI ws ≤ 6
    · have HPW := Lib.hid (pow_wrap hs0 hs12)
      have HRV : Hid (∀ Q : Prop, (PairsOk (pw (sumI ws)) P P.length ↔ Q) → (Q → rvalidB cs ws P = true) ∧ (¬ Q → rvalidB cs ws P = false)) := fun Q hQ => ⟨fun q => rvalid_iff.2 ⟨HSM.out, h6, hQ.2 q⟩, fun q => rvalid_no fun c => q (hQ.1 c)⟩
      generalize hsum : sumI ws = sm at *
      have HSUM := Lib.hid hsum
      clear hsum
      go_wp2_with fail
      refine (rsum_any ws _ _ (A2.out.ext X2.out) HWD.out).mono ?_
      rintro r w4 ⟨rfl, rfl⟩
      rw [HSUM.out]
      go_upto_region 6 with fail
      rw [HPW.out]
      have hn1 : 1 ≤ pw sm ∧ pw sm ≤ 64 := by
        have h1 := pw_mono (s := 0) (t := sm) (by omega) hs0
        have h2 := pw_mono hs0 h6
        have e1 : pw 0 = 1 := by decide
        have e2 : pw 6 = 64 := by decide
        omega
      generalize pw sm = n at *
      clear HPW
      go_wp2_with fail
      have A34 := Lib.hid (A3.out.ext X2.out)
      go_loopw [35] (fun i wr => ∃ k : Nat, k ≤ P.length ∧ i = .int .i64 k ∧ Ext w4 wr ∧ PairsOk n P k) (fun i _ => P.length - (intOf i).toNat)
      case atStart => exact ⟨0, Nat.zero_le _, rfl, Ext.refl _, ⟨fun i _ h => absurd h (by omega), fun i _ h => absurd h (by omega)⟩⟩
      case round =>
        obtain ⟨k, hk, rfl, hX, hR⟩ := hrel
        have HXr := Lib.hid hX; have HR := Lib.hid hR; clear hX hR
        by_cases hlt : k < P.length
        · rcases A34.out with ⟨_, e⟩ | ⟨b, o, cap', e, _, hc⟩
          · rw [e] at hlt; simp at hlt
          cases e
          obtain ⟨g0, g1⟩ := hc k hlt
          replace g0 := HXr.out.cell g0; replace g1 := HXr.out.cell g1
          have HBD : Hid (¬ (0 ≤ P[k].1 ∧ P[k].1 < n ∧ 0 ≤ P[k].2 ∧ P[k].2 < n) → rvalidB cs ws P = false) := fun h => (HRV.out _ Iff.rfl).2 fun c => h (c.bd k hlt hlt)
          have HC := Lib.hid hc; clear hc
          generalize hx : P[k].1 = x at *
          generalize hy : P[k].2 = y at *
          have HXX := Lib.hid hx; have HYY := Lib.hid hy; clear hx hy
          by_cases t1 : x < 0
          · have HF := Lib.hid (HBD.out (by omega))
            go_wp2_with fail
            go_ret
            exact ⟨by rw [HF.out]; rfl, (HX.out.trans (X2.out.trans HXr.out)).alloc _⟩
          by_cases t2 : n ≤ x
          · have HF := Lib.hid (HBD.out (by omega))
            go_wp2_with fail
            go_ret
            exact ⟨by rw [HF.out]; rfl, (HX.out.trans (X2.out.trans HXr.out)).alloc _⟩
          by_cases t3 : y < 0
          · have HF := Lib.hid (HBD.out (by omega))
            go_wp2_with fail
            go_ret
            exact ⟨by rw [HF.out]; rfl, (HX.out.trans (X2.out.trans HXr.out)).alloc _⟩
          by_cases t4 : n ≤ y
          · have HF := Lib.hid (HBD.out (by omega))
            go_wp2_with fail
            go_ret
            exact ⟨by rw [HF.out]; rfl, (HX.out.trans (X2.out.trans HXr.out)).alloc _⟩
          go_upto_region 11 with fail
          obtain ⟨w5, hw5⟩ : ∃ w5, w5 = wr.alloc (.cells #[.int .i64 x, .int .i64 y] 52) := ⟨_, rfl⟩
          rw [← hw5]
          have x5 : Ext wr w5 := by rw [hw5]; exact (Ext.refl _).alloc _
          have hb5 : w5.heap[wr.heap.size]? = some (.cells #[.int .i64 x, .int .i64 y] 52 (0, 0)) := by rw [hw5]; exact heap_new _ _
          have d0 : w5.cell? ⟨wr.heap.size, 0, none⟩ = some (.int .i64 x) := by simp [World.cell?, hb5]
          have d1 : w5.cell? ⟨wr.heap.size, 1, none⟩ = some (.int .i64 y) := by simp [World.cell?, hb5]
          have p25 := (HXr.out.trans x5).cell p22
          have X5 := Lib.hid (HXr.out.trans x5); have HW5 := Lib.hid hw5
          have BNEW : Hid (0 ≤ P[k].1 ∧ P[k].1 < n ∧ 0 ≤ P[k].2 ∧ P[k].2 < n) := by unfold Hid; rw [HXX.out, HYY.out]; omega
          clear hw5 x5 hb5 g0 g1
          rcases Nat.eq_zero_or_pos k with hk0 | hk0
          · subst hk0
            have HNEW : Hid (PairsOk n P 1) := ⟨fun i h hi => by
              obtain rfl : i = 0 := by omega
              exact BNEW.out, fun i h hi => absurd hi (by omega)⟩
            go_quiet (fail)
            go_wp2_with fail
            exact ⟨⟨1, by omega, by go_num, X5.out.drewN _, HNEW.out⟩, by simp [intOf]; omega⟩
          · obtain ⟨m, hm⟩ : ∃ m, k = m + 1 := ⟨k - 1, by omega⟩
            have hml : m < P.length := by omega
            obtain ⟨g0, g1⟩ := HC.out m hml
            replace g0 := X5.out.cell g0; replace g1 := X5.out.cell g1
            have hsub : IntKind.i64.wrap ((k : Int) - 1) = (m : Int) := by rw [IntKind.wrap_i64]; omega
            have i0 : (0 : Int) ≤ (m : Int) := by omega
            have i1 : (m : Int) < (P.length : Int) := by omega
            have i2 : (0 : Int) < (k : Int) := by omega
            have HLT : Hid (¬ ltI P[m] P[k] → rvalidB cs ws P = false) := fun h => (HRV.out _ Iff.rfl).2 fun c => h (by subst hm; exact c.inc m hlt hlt)
            have HNEW : Hid (ltI P[m] P[k] → PairsOk n P (k + 1)) := fun h => ⟨fun i h2 hi => by
              by_cases c : i = k
              · subst c; exact BNEW.out
              · exact HR.out.bd i h2 (by omega), fun i h2 hi => by
              by_cases c : i = m
              · subst c; subst hm; exact h
              · exact HR.out.inc i h2 (by omega)⟩
            have HLI : Hid (ltI P[m] P[k] ↔ (P[m].1 < x ∨ (P[m].1 = x ∧ P[m].2 < y))) := by unfold Hid ltI; rw [HXX.out, HYY.out]
            generalize hx2 : P[m].1 = x2 at *
            generalize hy2 : P[m].2 = y2 at *
            have HX2 := Lib.hid hx2; have HY2 := Lib.hid hy2; have HMM := Lib.hid hm; clear hx2 hy2 hm HC HRV HBD
            by_cases u1 : x < x2
            · have HF := Lib.hid (HLT.out fun c => by have := HLI.out.1 c; omega)
              clear HLT HNEW HLI
              go_quiet (fail)
              go_wp2_with fail
              go_ret
              exact ⟨by rw [HF.out]; rfl, (HX.out.trans (X2.out.trans X5.out)).drewN _⟩
            · have u1' : decide (x < x2) = false := decide_eq_false u1
              by_cases u2 : x = x2
              · have u2' : (x == x2) = true := by simp [u2]
                by_cases u3 : y ≤ y2
                · have HF := Lib.hid (HLT.out fun c => by have := HLI.out.1 c; omega)
                  clear HLT HNEW HLI
                  have HU2 := Lib.hid u2
                  clear u2
                  go_quiet (fail)
                  go_wp2_with fail
                  go_ret
                  exact ⟨by rw [HF.out]; rfl, (HX.out.trans (X2.out.trans X5.out)).drewN _⟩
                · have HF := Lib.hid (HNEW.out (HLI.out.2 (.inr ⟨u2.symm, by omega⟩)))
                  have HU2 := Lib.hid u2
                  clear HLT HNEW HLI u2
                  go_quiet (fail)
                  go_wp2_with fail
                  exact ⟨⟨k + 1, by omega, by go_num, X5.out.drewN _, HF.out⟩, by simp [intOf]; omega⟩
              · have u2' : (x == x2) = false := by simp [u2]
                have HF := Lib.hid (HNEW.out (HLI.out.2 (.inl (by omega))))
                clear HLT HNEW HLI u2
                go_quiet (fail)
                go_wp2_with fail
                exact ⟨⟨k + 1, by omega, by go_num, X5.out.drewN _, HF.out⟩, by simp [intOf]; omega⟩
        · have HF : Hid (rvalidB cs ws P = true) := (HRV.out _ Iff.rfl).1 (by
            obtain rfl : k = P.length := by omega
            exact HR.out)
          go_wp2_with fail
          go_ret
          exact ⟨by rw [HF.out]; rfl, HX.out.trans (X2.out.trans HXr.out)⟩
    · have HF := Lib.hid (rvalid_six (cs := cs) (P := P) h6)
      generalize sumI ws = s at *
      go_wp2_with fail
      go_ret
      exact ⟨by rw [HF.out]; rfl, HX.out.trans X2.out⟩
end Go.Proofs.YtlnahhlddekhoaaGreatDoor
namespace Go.Proofs.YtlnahhlddekhoaaGreatDoor
open Go.RowKit

def castP (P : List (Nat × Nat)) : List (Int × Int) := P.map fun p => ((p.1 : Int), (p.2 : Int))
def natP (P : List (Int × Int)) : List (Nat × Nat) := P.map fun p => (p.1.toNat, p.2.toNat)
theorem castP_len (P : List (Nat × Nat)) : (castP P).length = P.length := by simp [castP]
theorem castP_get (P : List (Nat × Nat)) {i : Nat} (h : i < P.length) : (castP P)[i]'(by rw [castP_len]; exact h) = (((P[i].1 : Nat) : Int), ((P[i].2 : Nat) : Int)) := by simp [castP]
theorem natP_cast (P : List (Nat × Nat)) : natP (castP P) = P := by
  induction P with
  | nil => rfl
  | cons a r ih => simp only [castP, natP, List.map_cons] at *; rw [ih]; congr 1
theorem cast_natP {P : List (Int × Int)} (h : ∀ p ∈ P, 0 ≤ p.1 ∧ 0 ≤ p.2) : castP (natP P) = P := by
  induction P with
  | nil => rfl
  | cons a r ih =>
    have h1 := h a (by simp)
    have h2 := ih fun x hx => h x (by simp [hx])
    simp only [castP, natP, List.map_cons] at *
    rw [h2]; congr 1
    apply Prod.ext <;> simp <;> omega
theorem underMx : Tryz.prog.underlying 67 = some (.array 64 65) := by kernel_rfl
theorem sizeMx : (Tryz.prog.info? 67).map (·.size) = some 64 := by kernel_rfl
theorem rowsL_snoc (l : List (Nat × Nat)) {k : Nat} (h : k < l.length) : rowsL (l.take (k + 1)) = orAt (rowsL (l.take k)) l[k].1 (1 <<< l[k].2) := by
  unfold rowsL
  rw [List.take_succ_eq_append_getElem h, List.foldl_append]; rfl

set_option maxRecDepth 100000 in
set_option maxHeartbeats 1000000 in
theorem rows_any (cs ws : List Int) (P : List (Nat × Nat)) (v : Value) (w : World) (hv : RelV w v cs ws (castP P)) (hb : ∀ p ∈ P, p.1 < 64 ∧ p.2 < 64) :
    Calls Tryz.prog 51 #[v] w fun r w' => ∃ b, r = .returned (.pointer (some ⟨b, 0, none⟩)) ∧ w.heap.size ≤ b ∧ WordsAt 67 w' b (rowsL P) ∧ Ext w w' := by
  obtain ⟨ca, cc, wa, wcp, ia, ic, rfl, a1, a2, a3⟩ := hv.shape
  have hlen := SliceAt.len_le a3
  rw [castP_len] at *
  have HB := Lib.hid hb; have A3 := Lib.hid a3
  clear hv a1 a2 a3 hb
  go_enter Tryz.func51, Tryz.ntmps51
  go_upto_region 2 with fail
  rw [← words_zero]
  obtain ⟨W, hW⟩ : ∃ W, W = (w.alloc (.cells #[.slice ca cs.length cc, .slice wa ws.length wcp, .slice ia P.length ic] 29)).alloc (.cells (wordsV zeroM) 67) := ⟨_, rfl⟩
  rw [← hW]
  have hx : Ext w W := by rw [hW]; exact ((Ext.refl w).alloc _).alloc _
  have hM : WordsAt 67 W (w.heap.size + 1) zeroM := by
    rw [hW]
    have := WordsAt.new 67 (w.alloc (.cells #[.slice ca cs.length cc, .slice wa ws.length wcp, .slice ia P.length ic] 29)) zeroM len_zeroM zero_lt
    rw [World.size_alloc] at this; exact this
  have hB1 : W.heap[w.heap.size]? = some (.cells #[.slice ca cs.length cc, .slice wa ws.length wcp, .slice ia P.length ic] 29 (0, 0)) := by
    rw [hW, heap_alloc_old _ _ (by simp)]; exact heap_new _ _
  obtain ⟨p0, p1, p2⟩ := cells3 hB1
  have HX := Lib.hid hx; have HM := Lib.hid hM; have HW := Lib.hid hW
  clear hx hM hB1 hW
  go_wp2_with fail
  go_loopw [11] (fun i wr => ∃ k : Nat, k ≤ P.length ∧ i = .int .i64 k ∧ Ext w wr ∧ WordsAt 67 wr (w.heap.size + 1) (rowsL (P.take k))) (fun i _ => P.length - (intOf i).toNat)
  case atStart => exact ⟨0, Nat.zero_le _, rfl, HX.out, HM.out⟩
  case round =>
    obtain ⟨k, hk, rfl, hX, hM⟩ := hrel
    have HXr := Lib.hid hX; have HMr := Lib.hid hM; clear hX hM
    by_cases hlt : k < P.length
    · rcases A3.out with ⟨_, e⟩ | ⟨b, o, cap', e, _, hc⟩
      · have := castP_len P; rw [e] at this; simp at this; omega
      rw [castP_len] at e
      cases e
      obtain ⟨g0, g1⟩ := hc k (by rw [castP_len]; exact hlt)
      rw [castP_get P hlt] at g0 g1
      replace g0 := HXr.out.cell g0; replace g1 := HXr.out.cell g1
      clear hc
      have hbk := HB.out _ (List.getElem_mem hlt)
      have HS := Lib.hid (rowsL_snoc P hlt)
      generalize P[k].1 = x at *
      generalize P[k].2 = y at *
      obtain ⟨hx64, hy64⟩ := hbk
      go_upto_region 5 with fail
      obtain ⟨w5, hw5⟩ : ∃ w5, w5 = wr.alloc (.cells #[.int .i64 x, .int .i64 y] 52) := ⟨_, rfl⟩
      rw [← hw5]
      have x5 : Ext wr w5 := by rw [hw5]; exact (Ext.refl _).alloc _
      have hb5 : w5.heap[wr.heap.size]? = some (.cells #[.int .i64 x, .int .i64 y] 52 (0, 0)) := by rw [hw5]; exact heap_new _ _
      have d0 : w5.cell? ⟨wr.heap.size, 0, none⟩ = some (.int .i64 x) := by simp [World.cell?, hb5]
      have d1 : w5.cell? ⟨wr.heap.size, 1, none⟩ = some (.int .i64 y) := by simp [World.cell?, hb5]
      have c1 := (HMr.out.ext x5).cell hx64
      have c2 := (HMr.out.ext x5).frozen x
      have HM5 := Lib.hid (HMr.out.ext x5); have X5 := Lib.hid (HXr.out.trans x5); have HW5 := Lib.hid hw5
      have i0 : (0 : Int) ≤ (x : Int) := by omega
      have i1 : (x : Int) < 64 := by omega
      have i2 : (0 : Int) ≤ (y : Int) := by omega
      have i3 : (y : Int) < 64 := by omega
      have LR := Lib.hid (HM5.out.lt x)
      have HSR : Hid (orAt (rowsL (P.take k)) x (1 <<< y) = (rowsL (P.take k)).set x (rowM (rowsL (P.take k)) x ||| 1 <<< y)) := rfl
      clear hw5 x5 hb5 g0 g1
      generalize rowM (rowsL (P.take k)) x = z at *
      have HB64 : Hid (bits .or .u64 z (IntKind.u64.wrap (2 ^ y)) = ((z ||| 1 <<< y : Nat) : Int)) := by unfold Hid; rw [u64_pow hy64, u64_or LR.out (shl_lt hy64)]
      have M6 := Lib.hid (HM5.out.set hx64 (v := z ||| 1 <<< y) (Nat.or_lt_two_pow LR.out (shl_lt hy64)))
      have X6 := Lib.hid (X5.out.setCell (p := ⟨w.heap.size + 1, x, none⟩) (by simp) (.int .u64 (z ||| 1 <<< y : Nat)))
      rw [← HB64.out] at M6 X6
      go_still_tail 12, (by kernel_rfl)
      go_wp2_with fail
      exact ⟨⟨k + 1, by omega, by go_num, X6.out.drew, by rw [HS.out, HSR.out]; exact M6.out.drewN 1⟩, by simp [intOf]; omega⟩
    · have HT : Hid (P.take k = P) := List.take_of_length_le (by omega)
      rw [HT.out] at HMr
      go_wp2_with fail
      go_ret
      exact ⟨_, rfl, by omega, HMr.out, HXr.out⟩

theorem wordL_snoc (l : List Nat) {k : Nat} (h : k < l.length) : wordL (l.take (k + 1)) = wordL (l.take k) ||| 1 <<< l[k] := by
  unfold wordL
  rw [List.take_succ_eq_append_getElem h, List.foldl_append]; rfl
theorem wordL_lt {l : List Nat} (hb : ∀ x ∈ l, x < 64) : wordL l < 18446744073709551616 := by
  have key : ∀ (l : List Nat) (w : Nat), (∀ x ∈ l, x < 64) → w < 2 ^ 64 → l.foldl (fun w n => w ||| 1 <<< n) w < 2 ^ 64 := by
    intro l
    induction l with
    | nil => intro w _ h; exact h
    | cons a r ih => intro w hb h; exact ih _ (fun x hx => hb x (by simp [hx])) (Nat.or_lt_two_pow h (shl_lt (hb a (by simp))))
  exact key l 0 hb (by omega)
set_option maxHeartbeats 1000000 in
theorem wordOf_any (cs ws : List Int) (l : List Nat) (v : Value) (w : World) (hv : SetV w v cs ws (castL l)) (hb : ∀ x ∈ l, x < 64) :
    Calls Tryz.prog 68 #[v] w fun r w' => r = .returned (.int .u64 (wordL l)) ∧ Ext w w' := by
  obtain ⟨ca, cc, wa, wcp, ia, ic, rfl, a1, a2, a3⟩ := hv.shape
  have hlen := SliceAt.len_le a3
  rw [castL_len] at *
  obtain ⟨W, hW⟩ : ∃ W, W = w.alloc (.cells #[.slice ca cs.length cc, .slice wa ws.length wcp, .slice ia l.length ic] 31) := ⟨_, rfl⟩
  have hx : Ext w W := by rw [hW]; exact (Ext.refl w).alloc _
  have hB1 : W.heap[w.heap.size]? = some (.cells #[.slice ca cs.length cc, .slice wa ws.length wcp, .slice ia l.length ic] 31 (0, 0)) := by
    rw [hW]; exact heap_new _ _
  obtain ⟨p0, p1, p2⟩ := cells3 hB1
  have HB := Lib.hid hb; have A3 := Lib.hid (a3.ext hx); have HX := Lib.hid hx; have HW := Lib.hid hW
  clear hv a1 a2 a3 hb hx hB1 hW
  go_enter Tryz.func68, Tryz.ntmps68
  go_upto_region 1 with fail
  rw [← HW.out]
  go_wp2_with fail
  go_loopw [3, 9] (fun x i wr => ∃ k : Nat, k ≤ l.length ∧ i = .int .i64 k ∧ x = .int .u64 (wordL (l.take k)) ∧ Ext W wr) (fun _ i _ => l.length - (intOf i).toNat)
  case atStart => exact ⟨0, Nat.zero_le _, rfl, rfl, Ext.refl _⟩
  case round =>
    obtain ⟨k, hk, rfl, rfl, hX⟩ := hrel
    have HXr := Lib.hid hX; clear hX
    by_cases hlt : k < l.length
    · rcases A3.out with ⟨_, e⟩ | ⟨b, o, cap', e, _, hc⟩
      · have := castL_len l; rw [e] at this; simp at this; omega
      rw [castL_len] at e
      cases e
      have g0 : wr.cell? ⟨b, o + k, none⟩ = some (.int .i64 l[k]) := by
        have := HXr.out.cell (hc k (by rw [castL_len]; exact hlt)); rw [Nat.mul_one, castL_get l hlt] at this; exact this
      clear hc
      have h64 : l[k] < 64 := HB.out _ (List.getElem_mem hlt)
      have HS := Lib.hid (wordL_snoc l hlt)
      have HL := Lib.hid (wordL_lt (l := l.take k) fun x hx => HB.out x (List.mem_of_mem_take hx))
      generalize l[k] = n at *
      generalize wordL (l.take k) = z at *
      have i0 : (0 : Int) ≤ (n : Int) := by omega
      have HB64 : Hid (bits .or .u64 z (IntKind.u64.wrap (2 ^ n)) = ((z ||| 1 <<< n : Nat) : Int)) := by unfold Hid; rw [u64_pow h64, u64_or HL.out (shl_lt h64)]
      go_wp2_with fail
      exact ⟨⟨k + 1, by omega, by go_num, by rw [HS.out, HB64.out], HXr.out⟩, by simp [intOf]; omega⟩
    · have HT : Hid (l.take k = l) := List.take_of_length_le (by omega)
      rw [HT.out]
      go_wp2_with fail
      go_ret
      exact ⟨rfl, HX.out.trans HXr.out⟩
end Go.Proofs.YtlnahhlddekhoaaGreatDoor
