/-
  ref10.Valid, ref10.Same, ref15.Alike, ref15.Fits. Printed by gen_rr4.py.
-/
import Derived.Test.YtlnahhlddekhoaaDoorMRra
namespace Go.Proofs.YtlnahhlddekhoaaDoor
open Go.RowKit

theorem ris_first {n : Int} {is : List Int} (h : RisOk n is is.length) : incB is = true ∧ (is = [] ∨ (0 ≤ is.getD 0 0 ∧ is.getD (is.length - 1) 0 < n)) := by
  refine ⟨inc_iff.2 fun i hi => ?_, ?_⟩
  · have := h.inc i hi hi
    simpa [List.getD, hi, show i < is.length by omega] using this
  · rcases Nat.eq_zero_or_pos is.length with h0 | h0
    · exact .inl (List.length_eq_zero_iff.1 h0)
    · have h1 := h.bd 0 h0 h0
      have h2 := h.bd (is.length - 1) (by omega) (by omega)
      refine .inr ⟨?_, ?_⟩
      · simpa [List.getD, h0] using h1.1
      · simpa [List.getD, show is.length - 1 < is.length by omega] using h2.2
theorem first_ris {n : Int} {is : List Int} (h1 : incB is = true) (h2 : is = [] ∨ (0 ≤ is.getD 0 0 ∧ is.getD (is.length - 1) 0 < n)) : RisOk n is is.length := by
  have hin := inc_all h1
  have e : ∀ (i : Nat) (h : i < is.length), is.getD i 0 = is[i] := fun i h => by simp [List.getD, h]
  refine ⟨fun i hi _ => ?_, fun i hi _ => ?_⟩
  · rcases h2 with rfl | ⟨h3, h4⟩
    · simp at hi
    · rw [← e i hi]
      constructor
      · rcases Nat.eq_zero_or_pos i with rfl | h0
        · exact h3
        · have := hin 0 i h0 hi; omega
      · rcases Nat.lt_or_ge i (is.length - 1) with h0 | h0
        · have := hin i (is.length - 1) h0 (by omega); omega
        · have : i = is.length - 1 := by omega
          rw [this]; exact h4
  · have := hin i (i + 1) (by omega) hi
    rw [e i (by omega), e (i + 1) hi] at this
    exact this
theorem valid_ris {cs ws is : List Int} (h : smallB cs ws = true) : validB cs ws is = risB (pw (sumI ws)) is := by
  rw [Bool.eq_iff_iff, ris_iff]
  unfold validB
  rw [h, Bool.true_and, Bool.and_eq_true, Bool.or_eq_true, Bool.and_eq_true, decide_eq_true_eq, decide_eq_true_eq, decide_eq_true_eq]
  exact ⟨fun ⟨a, b⟩ => first_ris a b, fun c => ris_first c⟩
theorem valid_small {cs ws is : List Int} (h : smallB cs ws = false) : validB cs ws is = false := by unfold validB; rw [h]; rfl

set_option maxRecDepth 100000 in
set_option maxHeartbeats 2000000 in
theorem RSValid_any (cs ws is : List Int) (v : Value) (w : World) (hv : SetV w v cs ws is) : Calls Tryd.prog 41 #[v] w fun r w' => r = .returned (.bool (validB cs ws is)) ∧ Ext w w' := by
  obtain ⟨ca, cc, wa, wcp, ia, ic, rfl, a1, a2, a3⟩ := hv.shape
  obtain ⟨W, hW⟩ : ∃ W, W = w.alloc (.cells #[.slice ca cs.length cc, .slice wa ws.length wcp, .slice ia is.length ic] 27) := ⟨_, rfl⟩
  have hx : Ext w W := by rw [hW]; exact (Ext.refl w).alloc _
  have hB1 : W.heap[w.heap.size]? = some (.cells #[.slice ca cs.length cc, .slice wa ws.length wcp, .slice ia is.length ic] 27 (0, 0)) := by rw [hW]; exact heap_new _ _
  obtain ⟨p0, p1, p2⟩ := cells3 hB1
  have A1 := Lib.hid (a1.ext hx); have A2 := Lib.hid (a2.ext hx); have A3 := Lib.hid (a3.ext hx)
  have HX := Lib.hid hx; have HW := Lib.hid hW
  clear hv a1 a2 a3 hx hW hB1
  go_enter Tryd.func41, Tryd.ntmps41
  go_upto_region 1 with fail
  rw [← HW.out]
  go_wp2_with fail
  refine (RBits_any cs ws 12 _ _ _ A1.out A2.out).mono ?_
  rintro r w1 ⟨rfl, x1⟩
  have X2 := Lib.hid x1
  have p21 := x1.cell p2
  clear x1 p0 p1 p2
  cases hsm : smallB cs ws with
  | true =>
    obtain ⟨hsh, hwd, hs0, hs12⟩ := small_sum hsm
    have hbe : bitsI cs ws 12 = sumI ws := by unfold bitsI; rw [if_pos ⟨hsh, hs12⟩]
    have HF := Lib.hid (valid_ris (is := is) hsm)
    rw [hbe]
    have hd : decide (0 ≤ sumI ws) = true := decide_eq_true hs0
    clear hbe hsh hwd hsm
    generalize sumI ws = sm at *
    go_upto_region 2 with fail
    have HX0 := Lib.hid ((Ext.refl w1).drew)
    go_region_held3 (fun w' => w'.cell? ⟨w.heap.size, 2, none⟩ = some (.slice ia is.length ic))
      (first | exact p21 | (with_reducible exact hk2) | (with_reducible exact hk1) | fail)
      ((first
        | (have hgo := HX1.out; clear hgo; go_at_call 73; refine (RRising_any is (pw sm) _ _ (A3.out.ext (X2.out.trans HX1.out))).mono ?_; rintro r w3 ⟨rfl, x3⟩; have HX2 := Lib.hid (HX1.out.trans x3); have hk2 := HX2.out.cell p21; clear x3)
        | (go_at_call 25; refine (Power_any sm _ (by omega)).mono ?_; rintro r w2 ⟨rfl, x2⟩; have HX1 := HX0; rw [x2] at HX1; have hk1 := HX1.out.cell p21; clear x2)))
    generalize risB (pw sm) is = bb at *
    go_wp2_with fail
    go_ret
    exact ⟨by rw [HF.out]; rfl, HX.out.trans (X2.out.trans HX2.out)⟩
  | false =>
    have hbe : bitsI cs ws 12 = -1 := by
      unfold bitsI; rw [if_neg]
      intro c
      rw [small_of c.1 c.2] at hsm; cases hsm
    have HF := Lib.hid (valid_small (is := is) hsm)
    rw [hbe]
    clear hbe hsm
    go_upto_region 2 with fail
    go_quiet (fail)
    go_wp2_with fail
    go_ret
    exact ⟨by rw [HF.out]; rfl, (HX.out.trans X2.out).drewN _⟩

def sameS (cs ws : List Int) (is : List Int) (cs2 ws2 : List Int) (js : List Int) : Bool := decide (cs = cs2) && decide (ws = ws2) && decide (is = js)
set_option maxRecDepth 100000 in
set_option maxHeartbeats 2000000 in
theorem RSame10_any (cs ws : List Int) (is : List Int) (cs2 ws2 : List Int) (js : List Int) (va vs : Value) (w : World) (ha : SetV w va cs ws is) (hs : SetV w vs cs2 ws2 js) : Calls Tryd.prog 18 #[va, vs] w fun r w' => r = .returned (.bool (sameS cs ws is cs2 ws2 js)) ∧ Ext w w' := by
  obtain ⟨ca, cc, wa, wcp, ia, ic, rfl, a1, a2, a3⟩ := ha.shape
  obtain ⟨ca2, cc2, wa2, wc2, ia2, ic2, rfl, b1, b2, b3⟩ := hs.shape
  obtain ⟨W, hW⟩ : ∃ W, Boxes w W (.cells #[.slice ca cs.length cc, .slice wa ws.length wcp, .slice ia is.length ic] 27) (.cells #[.slice ca2 cs2.length cc2, .slice wa2 ws2.length wc2, .slice ia2 js.length ic2] 27) := ⟨_, Boxes.mk' _ _ _⟩
  obtain ⟨p0, p1, p2⟩ := cells3 hW.b0
  obtain ⟨q0, q1, q2⟩ := cells3 hW.b1
  have HA := Lib.hid (ha.ext hW.ext); have HS := Lib.hid (hs.ext hW.ext)
  have A1 := Lib.hid (a1.ext hW.ext); have A2 := Lib.hid (a2.ext hW.ext); have C1 := Lib.hid (b1.ext hW.ext); have C2 := Lib.hid (b2.ext hW.ext); have A3 := Lib.hid (a3.ext hW.ext); have C3 := Lib.hid (b3.ext hW.ext)
  have HW := Lib.hid hW
  have HF : Hid (sameS cs ws is cs2 ws2 js = (decide (cs = cs2) && decide (ws = ws2) && decide (is = js))) := rfl
  have X0 := Lib.hid (Ext.refl W)
  clear ha hs a1 a2 a3 b1 b2 b3 hW
  go_enter Tryd.func18, Tryd.ntmps18
  go_upto_region 1 with fail
  rw [← HW.out.eq]
  go_wp2_with fail
  refine (RInts_any cs cs2 _ _ _ (A1.out.ext X0.out) (C1.out.ext X0.out)).mono ?_
  rintro r w1 ⟨rfl, x⟩
  cases h : (decide (cs = cs2)) with
  | false =>
    have HN : Hid (sameS cs ws is cs2 ws2 js = false) := by unfold Hid; rw [HF.out, h]; rfl
    have XL := Lib.hid (HW.out.ext.trans (X0.out.trans x))
    clear h x
    go_wp2_with fail
    go_ret
    exact ⟨by rw [HN.out]; rfl, XL.out⟩
  | true =>
    have H0 := Lib.hid h; have X1 := Lib.hid (X0.out.trans x)
    replace p0 := x.cell p0; replace p1 := x.cell p1; replace p2 := x.cell p2; replace q0 := x.cell q0; replace q1 := x.cell q1; replace q2 := x.cell q2
    clear h x
    go_wp2_with fail
    refine (RInts_any ws ws2 _ _ _ (A2.out.ext X1.out) (C2.out.ext X1.out)).mono ?_
    rintro r w2 ⟨rfl, x⟩
    cases h : (decide (ws = ws2)) with
    | false =>
      have HN : Hid (sameS cs ws is cs2 ws2 js = false) := by unfold Hid; rw [HF.out, H0.out, h]; rfl
      have XL := Lib.hid (HW.out.ext.trans (X1.out.trans x))
      clear h x
      go_wp2_with fail
      go_ret
      exact ⟨by rw [HN.out]; rfl, XL.out⟩
    | true =>
      have H1 := Lib.hid h; have X2 := Lib.hid (X1.out.trans x)
      replace p0 := x.cell p0; replace p1 := x.cell p1; replace p2 := x.cell p2; replace q0 := x.cell q0; replace q1 := x.cell q1; replace q2 := x.cell q2
      clear h x
      go_wp2_with fail
      refine (RInts_any is js _ _ _ (A3.out.ext X2.out) (C3.out.ext X2.out)).mono ?_
      rintro r w3 ⟨rfl, x⟩
      have HN : Hid (sameS cs ws is cs2 ws2 js = (decide (is = js))) := by unfold Hid; rw [HF.out, H0.out, H1.out]; rfl
      have XL := Lib.hid (HW.out.ext.trans (X2.out.trans x))
      clear x
      generalize (decide (is = js)) = bb at *
      go_wp2_with fail
      go_ret
      exact ⟨by rw [HN.out]; rfl, XL.out⟩

noncomputable def alikeR (cs ws : List Int) (P : List (Int × Int)) (cs2 ws2 : List Int) (Q : List (Int × Int)) : Bool := rvalidB cs ws P && rvalidB cs2 ws2 Q && decide (cs = cs2) && decide (ws = ws2)
set_option maxRecDepth 100000 in
set_option maxHeartbeats 2000000 in
theorem RAlike_any (cs ws : List Int) (P : List (Int × Int)) (cs2 ws2 : List Int) (Q : List (Int × Int)) (va vs : Value) (w : World) (ha : RelV w va cs ws P) (hs : RelV w vs cs2 ws2 Q) : Calls Tryd.prog 19 #[va, vs] w fun r w' => r = .returned (.bool (alikeR cs ws P cs2 ws2 Q)) ∧ Ext w w' := by
  obtain ⟨ca, cc, wa, wcp, ia, ic, rfl, a1, a2, a3⟩ := ha.shape
  obtain ⟨ca2, cc2, wa2, wc2, ia2, ic2, rfl, b1, b2, b3⟩ := hs.shape
  obtain ⟨W, hW⟩ : ∃ W, Boxes w W (.cells #[.slice ca cs.length cc, .slice wa ws.length wcp, .slice ia P.length ic] 25) (.cells #[.slice ca2 cs2.length cc2, .slice wa2 ws2.length wc2, .slice ia2 Q.length ic2] 25) := ⟨_, Boxes.mk' _ _ _⟩
  obtain ⟨p0, p1, p2⟩ := cells3 hW.b0
  obtain ⟨q0, q1, q2⟩ := cells3 hW.b1
  have HA := Lib.hid (ha.ext hW.ext); have HS := Lib.hid (hs.ext hW.ext)
  have A1 := Lib.hid (a1.ext hW.ext); have A2 := Lib.hid (a2.ext hW.ext); have C1 := Lib.hid (b1.ext hW.ext); have C2 := Lib.hid (b2.ext hW.ext); have A3 := Lib.hid (a3.ext hW.ext); have C3 := Lib.hid (b3.ext hW.ext)
  have HW := Lib.hid hW
  have HF : Hid (alikeR cs ws P cs2 ws2 Q = (rvalidB cs ws P && rvalidB cs2 ws2 Q && decide (cs = cs2) && decide (ws = ws2))) := rfl
  have X0 := Lib.hid (Ext.refl W)
  clear ha hs a1 a2 a3 b1 b2 b3 hW
  go_enter Tryd.func19, Tryd.ntmps19
  go_upto_region 1 with fail
  rw [← HW.out.eq]
  go_wp2_with fail
  refine (RValid_any cs ws P _ _ (HA.out.ext X0.out)).mono ?_
  rintro r w1 ⟨rfl, x⟩
  cases h : (rvalidB cs ws P) with
  | false =>
    have HN : Hid (alikeR cs ws P cs2 ws2 Q = false) := by unfold Hid; rw [HF.out, h]; rfl
    have XL := Lib.hid (HW.out.ext.trans (X0.out.trans x))
    clear h x
    go_wp2_with fail
    go_ret
    exact ⟨by rw [HN.out]; rfl, XL.out⟩
  | true =>
    have H0 := Lib.hid h; have X1 := Lib.hid (X0.out.trans x)
    replace p0 := x.cell p0; replace p1 := x.cell p1; replace p2 := x.cell p2; replace q0 := x.cell q0; replace q1 := x.cell q1; replace q2 := x.cell q2
    clear h x
    go_wp2_with fail
    refine (RValid_any cs2 ws2 Q _ _ (HS.out.ext X1.out)).mono ?_
    rintro r w2 ⟨rfl, x⟩
    cases h : (rvalidB cs2 ws2 Q) with
    | false =>
      have HN : Hid (alikeR cs ws P cs2 ws2 Q = false) := by unfold Hid; rw [HF.out, H0.out, h]; rfl
      have XL := Lib.hid (HW.out.ext.trans (X1.out.trans x))
      clear h x
      go_wp2_with fail
      go_ret
      exact ⟨by rw [HN.out]; rfl, XL.out⟩
    | true =>
      have H1 := Lib.hid h; have X2 := Lib.hid (X1.out.trans x)
      replace p0 := x.cell p0; replace p1 := x.cell p1; replace p2 := x.cell p2; replace q0 := x.cell q0; replace q1 := x.cell q1; replace q2 := x.cell q2
      clear h x
      go_wp2_with fail
      refine (RInts_any cs cs2 _ _ _ (A1.out.ext X2.out) (C1.out.ext X2.out)).mono ?_
      rintro r w3 ⟨rfl, x⟩
      cases h : (decide (cs = cs2)) with
      | false =>
        have HN : Hid (alikeR cs ws P cs2 ws2 Q = false) := by unfold Hid; rw [HF.out, H0.out, H1.out, h]; rfl
        have XL := Lib.hid (HW.out.ext.trans (X2.out.trans x))
        clear h x
        go_wp2_with fail
        go_ret
        exact ⟨by rw [HN.out]; rfl, XL.out⟩
      | true =>
        have H2 := Lib.hid h; have X3 := Lib.hid (X2.out.trans x)
        replace p0 := x.cell p0; replace p1 := x.cell p1; replace p2 := x.cell p2; replace q0 := x.cell q0; replace q1 := x.cell q1; replace q2 := x.cell q2
        clear h x
        go_wp2_with fail
        refine (RInts_any ws ws2 _ _ _ (A2.out.ext X3.out) (C2.out.ext X3.out)).mono ?_
        rintro r w4 ⟨rfl, x⟩
        have HN : Hid (alikeR cs ws P cs2 ws2 Q = (decide (ws = ws2))) := by unfold Hid; rw [HF.out, H0.out, H1.out, H2.out]; rfl
        have XL := Lib.hid (HW.out.ext.trans (X3.out.trans x))
        clear x
        generalize (decide (ws = ws2)) = bb at *
        go_wp2_with fail
        go_ret
        exact ⟨by rw [HN.out]; rfl, XL.out⟩

noncomputable def fitsR (cs ws : List Int) (P : List (Int × Int)) (cs2 ws2 : List Int) (js : List Int) : Bool := rvalidB cs ws P && validB cs2 ws2 js && decide (cs = cs2) && decide (ws = ws2)
set_option maxRecDepth 100000 in
set_option maxHeartbeats 2000000 in
theorem RFits_any (cs ws : List Int) (P : List (Int × Int)) (cs2 ws2 : List Int) (js : List Int) (va vs : Value) (w : World) (ha : RelV w va cs ws P) (hs : SetV w vs cs2 ws2 js) : Calls Tryd.prog 12 #[va, vs] w fun r w' => r = .returned (.bool (fitsR cs ws P cs2 ws2 js)) ∧ Ext w w' := by
  obtain ⟨ca, cc, wa, wcp, ia, ic, rfl, a1, a2, a3⟩ := ha.shape
  obtain ⟨ca2, cc2, wa2, wc2, ia2, ic2, rfl, b1, b2, b3⟩ := hs.shape
  obtain ⟨W, hW⟩ : ∃ W, Boxes w W (.cells #[.slice ca cs.length cc, .slice wa ws.length wcp, .slice ia P.length ic] 25) (.cells #[.slice ca2 cs2.length cc2, .slice wa2 ws2.length wc2, .slice ia2 js.length ic2] 27) := ⟨_, Boxes.mk' _ _ _⟩
  obtain ⟨p0, p1, p2⟩ := cells3 hW.b0
  obtain ⟨q0, q1, q2⟩ := cells3 hW.b1
  have HA := Lib.hid (ha.ext hW.ext); have HS := Lib.hid (hs.ext hW.ext)
  have A1 := Lib.hid (a1.ext hW.ext); have A2 := Lib.hid (a2.ext hW.ext); have C1 := Lib.hid (b1.ext hW.ext); have C2 := Lib.hid (b2.ext hW.ext); have A3 := Lib.hid (a3.ext hW.ext); have C3 := Lib.hid (b3.ext hW.ext)
  have HW := Lib.hid hW
  have HF : Hid (fitsR cs ws P cs2 ws2 js = (rvalidB cs ws P && validB cs2 ws2 js && decide (cs = cs2) && decide (ws = ws2))) := rfl
  have X0 := Lib.hid (Ext.refl W)
  clear ha hs a1 a2 a3 b1 b2 b3 hW
  go_enter Tryd.func12, Tryd.ntmps12
  go_upto_region 1 with fail
  rw [← HW.out.eq]
  go_wp2_with fail
  refine (RValid_any cs ws P _ _ (HA.out.ext X0.out)).mono ?_
  rintro r w1 ⟨rfl, x⟩
  cases h : (rvalidB cs ws P) with
  | false =>
    have HN : Hid (fitsR cs ws P cs2 ws2 js = false) := by unfold Hid; rw [HF.out, h]; rfl
    have XL := Lib.hid (HW.out.ext.trans (X0.out.trans x))
    clear h x
    go_wp2_with fail
    go_ret
    exact ⟨by rw [HN.out]; rfl, XL.out⟩
  | true =>
    have H0 := Lib.hid h; have X1 := Lib.hid (X0.out.trans x)
    replace p0 := x.cell p0; replace p1 := x.cell p1; replace p2 := x.cell p2; replace q0 := x.cell q0; replace q1 := x.cell q1; replace q2 := x.cell q2
    clear h x
    go_wp2_with fail
    refine (RSValid_any cs2 ws2 js _ _ (HS.out.ext X1.out)).mono ?_
    rintro r w2 ⟨rfl, x⟩
    cases h : (validB cs2 ws2 js) with
    | false =>
      have HN : Hid (fitsR cs ws P cs2 ws2 js = false) := by unfold Hid; rw [HF.out, H0.out, h]; rfl
      have XL := Lib.hid (HW.out.ext.trans (X1.out.trans x))
      clear h x
      go_wp2_with fail
      go_ret
      exact ⟨by rw [HN.out]; rfl, XL.out⟩
    | true =>
      have H1 := Lib.hid h; have X2 := Lib.hid (X1.out.trans x)
      replace p0 := x.cell p0; replace p1 := x.cell p1; replace p2 := x.cell p2; replace q0 := x.cell q0; replace q1 := x.cell q1; replace q2 := x.cell q2
      clear h x
      go_wp2_with fail
      refine (RInts_any cs cs2 _ _ _ (A1.out.ext X2.out) (C1.out.ext X2.out)).mono ?_
      rintro r w3 ⟨rfl, x⟩
      cases h : (decide (cs = cs2)) with
      | false =>
        have HN : Hid (fitsR cs ws P cs2 ws2 js = false) := by unfold Hid; rw [HF.out, H0.out, H1.out, h]; rfl
        have XL := Lib.hid (HW.out.ext.trans (X2.out.trans x))
        clear h x
        go_wp2_with fail
        go_ret
        exact ⟨by rw [HN.out]; rfl, XL.out⟩
      | true =>
        have H2 := Lib.hid h; have X3 := Lib.hid (X2.out.trans x)
        replace p0 := x.cell p0; replace p1 := x.cell p1; replace p2 := x.cell p2; replace q0 := x.cell q0; replace q1 := x.cell q1; replace q2 := x.cell q2
        clear h x
        go_wp2_with fail
        refine (RInts_any ws ws2 _ _ _ (A2.out.ext X3.out) (C2.out.ext X3.out)).mono ?_
        rintro r w4 ⟨rfl, x⟩
        have HN : Hid (fitsR cs ws P cs2 ws2 js = (decide (ws = ws2))) := by unfold Hid; rw [HF.out, H0.out, H1.out, H2.out]; rfl
        have XL := Lib.hid (HW.out.ext.trans (X3.out.trans x))
        clear x
        generalize (decide (ws = ws2)) = bb at *
        go_wp2_with fail
        go_ret
        exact ⟨by rw [HN.out]; rfl, XL.out⟩
end Go.Proofs.YtlnahhlddekhoaaDoor
