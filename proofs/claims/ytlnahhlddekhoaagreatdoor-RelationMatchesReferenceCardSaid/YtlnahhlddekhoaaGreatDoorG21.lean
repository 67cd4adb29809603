/-
  ref15.Alike, ref15.Fits.
  ref15.Same.
  ref15.In, law15's leads, inside, Short, Few, Light.
-/
import Derived.Test.YtlnahhlddekhoaaGreatDoorG16
import Derived.Test.YtlnahhlddekhoaaGreatDoorG20
import Derived.Laws.StructEq
namespace Go.Proofs.YtlnahhlddekhoaaGreatDoor
open Go.RowKit

noncomputable def alikeR (cs ws : List Int) (P : List (Int × Int)) (cs2 ws2 : List Int) (Q : List (Int × Int)) : Bool := rvalidB cs ws P && rvalidB cs2 ws2 Q && decide (cs = cs2) && decide (ws = ws2)
set_option maxRecDepth 100000 in
set_option maxHeartbeats 2000000 in
theorem RAlike_any (cs ws : List Int) (P : List (Int × Int)) (cs2 ws2 : List Int) (Q : List (Int × Int)) (va vs : Value) (w : World) (ha : RelV w va cs ws P) (hs : RelV w vs cs2 ws2 Q) : Calls Tryz.prog 52 #[va, vs] w fun r w' => r = .returned (.bool (alikeR cs ws P cs2 ws2 Q)) ∧ Ext w w' := by
  obtain ⟨ca, cc, wa, wcp, ia, ic, rfl, a1, a2, a3⟩ := ha.shape
  obtain ⟨ca2, cc2, wa2, wc2, ia2, ic2, rfl, b1, b2, b3⟩ := hs.shape
  obtain ⟨W, hW⟩ : ∃ W, Boxes w W (.cells #[.slice ca cs.length cc, .slice wa ws.length wcp, .slice ia P.length ic] 29) (.cells #[.slice ca2 cs2.length cc2, .slice wa2 ws2.length wc2, .slice ia2 Q.length ic2] 29) := ⟨_, Boxes.mk' _ _ _⟩
  obtain ⟨p0, p1, p2⟩ := cells3 hW.b0
  obtain ⟨q0, q1, q2⟩ := cells3 hW.b1
  have HA := Lib.hid (ha.ext hW.ext); have HS := Lib.hid (hs.ext hW.ext)
  have A1 := Lib.hid (a1.ext hW.ext); have A2 := Lib.hid (a2.ext hW.ext); have C1 := Lib.hid (b1.ext hW.ext); have C2 := Lib.hid (b2.ext hW.ext); have A3 := Lib.hid (a3.ext hW.ext); have C3 := Lib.hid (b3.ext hW.ext)
  have HW := Lib.hid hW
  have HF : Hid (alikeR cs ws P cs2 ws2 Q = (rvalidB cs ws P && rvalidB cs2 ws2 Q && decide (cs = cs2) && decide (ws = ws2))) := rfl
  have X0 := Lib.hid (Ext.refl W)
  clear ha hs a1 a2 a3 b1 b2 b3 hW
  go_enter Tryz.func52, Tryz.ntmps52
  go_upto_region 1 with fail
  rw [← HW.out.eq]
  go_wp2_with fail
  refine (RValid_any cs ws P _ _ (HA.out.ext X0.out)).mono ?_
  rintro r w1 ⟨rfl, x⟩
  cases h : (rvalidB cs ws P) with
  | false =>
    have HN : Hid (alikeR cs ws P cs2 ws2 Q = false) := by unfold Hid; rw [HF.out, h]; rfl
    have XL := Lib.hid (HW.out.ext.trans (X0.out.trans x))
    clear h x
    go_wp2_with fail
    go_ret
    exact ⟨by rw [HN.out]; rfl, XL.out⟩
  | true =>
    have H0 := Lib.hid h; have X1 := Lib.hid (X0.out.trans x)
    replace p0 := x.cell p0; replace p1 := x.cell p1; replace p2 := x.cell p2; replace q0 := x.cell q0; replace q1 := x.cell q1; replace q2 := x.cell q2
    clear h x
    go_wp2_with fail
    refine (RValid_any cs2 ws2 Q _ _ (HS.out.ext X1.out)).mono ?_
    rintro r w2 ⟨rfl, x⟩
    cases h : (rvalidB cs2 ws2 Q) with
    | false =>
      have HN : Hid (alikeR cs ws P cs2 ws2 Q = false) := by unfold Hid; rw [HF.out, H0.out, h]; rfl
      have XL := Lib.hid (HW.out.ext.trans (X1.out.trans x))
      clear h x
      go_wp2_with fail
      go_ret
      exact ⟨by rw [HN.out]; rfl, XL.out⟩
    | true =>
      have H1 := Lib.hid h; have X2 := Lib.hid (X1.out.trans x)
      replace p0 := x.cell p0; replace p1 := x.cell p1; replace p2 := x.cell p2; replace q0 := x.cell q0; replace q1 := x.cell q1; replace q2 := x.cell q2
      clear h x
      go_wp2_with fail
      refine (RInts_any cs cs2 _ _ _ (A1.out.ext X2.out) (C1.out.ext X2.out)).mono ?_
      rintro r w3 ⟨rfl, x⟩
      cases h : (decide (cs = cs2)) with
      | false =>
        have HN : Hid (alikeR cs ws P cs2 ws2 Q = false) := by unfold Hid; rw [HF.out, H0.out, H1.out, h]; rfl
        have XL := Lib.hid (HW.out.ext.trans (X2.out.trans x))
        clear h x
        go_wp2_with fail
        go_ret
        exact ⟨by rw [HN.out]; rfl, XL.out⟩
      | true =>
        have H2 := Lib.hid h; have X3 := Lib.hid (X2.out.trans x)
        replace p0 := x.cell p0; replace p1 := x.cell p1; replace p2 := x.cell p2; replace q0 := x.cell q0; replace q1 := x.cell q1; replace q2 := x.cell q2
        clear h x
        go_wp2_with fail
        refine (RInts_any ws ws2 _ _ _ (A2.out.ext X3.out) (C2.out.ext X3.out)).mono ?_
        rintro r w4 ⟨rfl, x⟩
        have HN : Hid (alikeR cs ws P cs2 ws2 Q = (decide (ws = ws2))) := by unfold Hid; rw [HF.out, H0.out, H1.out, H2.out]; rfl
        have XL := Lib.hid (HW.out.ext.trans (X3.out.trans x))
        clear x
        generalize (decide (ws = ws2)) = bb at *
        go_wp2_with fail
        go_ret
        exact ⟨by rw [HN.out]; rfl, XL.out⟩

noncomputable def fitsR (cs ws : List Int) (P : List (Int × Int)) (cs2 ws2 : List Int) (js : List Int) : Bool := rvalidB cs ws P && validB cs2 ws2 js && decide (cs = cs2) && decide (ws = ws2)
set_option maxRecDepth 100000 in
set_option maxHeartbeats 2000000 in
theorem RFits_any (cs ws : List Int) (P : List (Int × Int)) (cs2 ws2 : List Int) (js : List Int) (va vs : Value) (w : World) (ha : RelV w va cs ws P) (hs : SetV w vs cs2 ws2 js) : Calls Tryz.prog 64 #[va, vs] w fun r w' => r = .returned (.bool (fitsR cs ws P cs2 ws2 js)) ∧ Ext w w' := by
  obtain ⟨ca, cc, wa, wcp, ia, ic, rfl, a1, a2, a3⟩ := ha.shape
  obtain ⟨ca2, cc2, wa2, wc2, ia2, ic2, rfl, b1, b2, b3⟩ := hs.shape
  obtain ⟨W, hW⟩ : ∃ W, Boxes w W (.cells #[.slice ca cs.length cc, .slice wa ws.length wcp, .slice ia P.length ic] 29) (.cells #[.slice ca2 cs2.length cc2, .slice wa2 ws2.length wc2, .slice ia2 js.length ic2] 31) := ⟨_, Boxes.mk' _ _ _⟩
  obtain ⟨p0, p1, p2⟩ := cells3 hW.b0
  obtain ⟨q0, q1, q2⟩ := cells3 hW.b1
  have HA := Lib.hid (ha.ext hW.ext); have HS := Lib.hid (hs.ext hW.ext)
  have A1 := Lib.hid (a1.ext hW.ext); have A2 := Lib.hid (a2.ext hW.ext); have C1 := Lib.hid (b1.ext hW.ext); have C2 := Lib.hid (b2.ext hW.ext); have A3 := Lib.hid (a3.ext hW.ext); have C3 := Lib.hid (b3.ext hW.ext)
  have HW := Lib.hid hW
  have HF : Hid (fitsR cs ws P cs2 ws2 js = (rvalidB cs ws P && validB cs2 ws2 js && decide (cs = cs2) && decide (ws = ws2))) := rfl
  have X0 := Lib.hid (Ext.refl W)
  clear ha hs a1 a2 a3 b1 b2 b3 hW
  go_enter Tryz.func64, Tryz.ntmps64
  go_upto_region 1 with fail
  rw [← HW.out.eq]
  go_wp2_with fail
  refine (RValid_any cs ws P _ _ (HA.out.ext X0.out)).mono ?_
  rintro r w1 ⟨rfl, x⟩
  cases h : (rvalidB cs ws P) with
  | false =>
    have HN : Hid (fitsR cs ws P cs2 ws2 js = false) := by unfold Hid; rw [HF.out, h]; rfl
    have XL := Lib.hid (HW.out.ext.trans (X0.out.trans x))
    clear h x
    go_wp2_with fail
    go_ret
    exact ⟨by rw [HN.out]; rfl, XL.out⟩
  | true =>
    have H0 := Lib.hid h; have X1 := Lib.hid (X0.out.trans x)
    replace p0 := x.cell p0; replace p1 := x.cell p1; replace p2 := x.cell p2; replace q0 := x.cell q0; replace q1 := x.cell q1; replace q2 := x.cell q2
    clear h x
    go_wp2_with fail
    refine (RSValid_any cs2 ws2 js _ _ (HS.out.ext X1.out)).mono ?_
    rintro r w2 ⟨rfl, x⟩
    cases h : (validB cs2 ws2 js) with
    | false =>
      have HN : Hid (fitsR cs ws P cs2 ws2 js = false) := by unfold Hid; rw [HF.out, H0.out, h]; rfl
      have XL := Lib.hid (HW.out.ext.trans (X1.out.trans x))
      clear h x
      go_wp2_with fail
      go_ret
      exact ⟨by rw [HN.out]; rfl, XL.out⟩
    | true =>
      have H1 := Lib.hid h; have X2 := Lib.hid (X1.out.trans x)
      replace p0 := x.cell p0; replace p1 := x.cell p1; replace p2 := x.cell p2; replace q0 := x.cell q0; replace q1 := x.cell q1; replace q2 := x.cell q2
      clear h x
      go_wp2_with fail
      refine (RInts_any cs cs2 _ _ _ (A1.out.ext X2.out) (C1.out.ext X2.out)).mono ?_
      rintro r w3 ⟨rfl, x⟩
      cases h : (decide (cs = cs2)) with
      | false =>
        have HN : Hid (fitsR cs ws P cs2 ws2 js = false) := by unfold Hid; rw [HF.out, H0.out, H1.out, h]; rfl
        have XL := Lib.hid (HW.out.ext.trans (X2.out.trans x))
        clear h x
        go_wp2_with fail
        go_ret
        exact ⟨by rw [HN.out]; rfl, XL.out⟩
      | true =>
        have H2 := Lib.hid h; have X3 := Lib.hid (X2.out.trans x)
        replace p0 := x.cell p0; replace p1 := x.cell p1; replace p2 := x.cell p2; replace q0 := x.cell q0; replace q1 := x.cell q1; replace q2 := x.cell q2
        clear h x
        go_wp2_with fail
        refine (RInts_any ws ws2 _ _ _ (A2.out.ext X3.out) (C2.out.ext X3.out)).mono ?_
        rintro r w4 ⟨rfl, x⟩
        have HN : Hid (fitsR cs ws P cs2 ws2 js = (decide (ws = ws2))) := by unfold Hid; rw [HF.out, H0.out, H1.out, H2.out]; rfl
        have XL := Lib.hid (HW.out.ext.trans (X3.out.trans x))
        clear x
        generalize (decide (ws = ws2)) = bb at *
        go_wp2_with fail
        go_ret
        exact ⟨by rw [HN.out]; rfl, XL.out⟩
end Go.Proofs.YtlnahhlddekhoaaGreatDoor
namespace Go.Proofs.YtlnahhlddekhoaaGreatDoor
open Go.RowKit

/-- Two arrays of two numbers compared. -/
theorem run_eqPair (w : World) (a b c d : Int) : (Op.equalIn 10000 52 (.agg #[.int .i64 a, .int .i64 b]) (.agg #[.int .i64 c, .int .i64 d])).run Tryz.prog w = .ok (a == c && b == d) w := by
  obtain ⟨i0, hi, hz0, hz1, hz2⟩ := info_parts infoInt
  have hu : Tryz.prog.underlying 3 = some (.int .i64) := Tryz.underlying3
  have h1 := run_equalIn_int (P := Tryz.prog) w 9998 3 .i64 .i64 a c hu
  have h2 := run_equalIn_int (P := Tryz.prog) w 9998 3 .i64 .i64 b d hu
  have hs : (sizeOf 3).run Tryz.prog w = .ok 1 w := by simp [sizeOf, typeInfo, hi, hz1]
  rw [show (10000 : Nat) = 9998 + 1 + 1 from rfl, Op.equalIn]
  simp only [Sem.run_bind, run_underlying (show Tryz.prog.underlying 52 = some (.array 2 3) from Tryz.underlying52), Result.andThen_ok, hs, Std.Legacy.Range.forIn_eq_forIn_range', Std.Legacy.Range.size, Nat.sub_zero, Nat.add_sub_cancel, Nat.div_one]
  have hr : List.range' 0 2 1 = [0, 1] := rfl
  rw [hr]
  simp only [List.forIn_cons, List.forIn_nil, Sem.run_bind]
  have p1 : ∀ x y : Int, (part 3 #[.int .i64 x, .int .i64 y] (0 * 1)).run Tryz.prog w = .ok (.int .i64 x) w := fun x y => by simp [part, isAgg, run_underlying hu]
  have p2 : ∀ x y : Int, (part 3 #[.int .i64 x, .int .i64 y] 1).run Tryz.prog w = .ok (.int .i64 y) w := fun x y => by simp [part, isAgg, run_underlying hu]
  simp only [p1, Result.andThen_ok, h1]
  cases a == c
  · simp
  · simp [p2, h2]
    cases hbd : b == d
    · simp_all
    · simp_all
theorem run_neqPair (w : World) (a b c d : Int) : (binOp .neq 52 (.agg #[.int .i64 a, .int .i64 b]) (.agg #[.int .i64 c, .int .i64 d])).run Tryz.prog w = .ok (.bool (!(a == c && b == d))) w := by
  rw [run_neq_struct, run_eqPair]; rfl
theorem run_eqlPair (w : World) (a b c d : Int) : (binOp .eql 52 (.agg #[.int .i64 a, .int .i64 b]) (.agg #[.int .i64 c, .int .i64 d])).run Tryz.prog w = .ok (.bool (a == c && b == d)) w := by
  rw [run_eql_struct, run_eqPair]; rfl
def sameR (cs ws : List Int) (P : List (Int × Int)) (cs2 ws2 : List Int) (Q : List (Int × Int)) : Bool := decide (cs = cs2) && decide (ws = ws2) && decide (P = Q)
theorem pairAt_of {w : World} {v : Value} {P : List (Int × Int)} (h : Pairs w v P) {k : Nat} (hk : k < P.length) : ∃ b o c, v = .slice (some ⟨b, o, none⟩) P.length c ∧ w.cell? ⟨b, o + k * 2, none⟩ = some (.int .i64 P[k].1) ∧ w.cell? ⟨b, o + k * 2 + 1, none⟩ = some (.int .i64 P[k].2) := by
  rcases h with ⟨_, e⟩ | ⟨b, o, cap, e, _, hc⟩
  · rw [e] at hk; simp at hk
  · exact ⟨b, o, cap, e, (hc k hk).1, (hc k hk).2⟩
set_option maxRecDepth 100000 in
set_option maxHeartbeats 2000000 in
theorem RSame15_any (cs ws : List Int) (P : List (Int × Int)) (cs2 ws2 : List Int) (Q : List (Int × Int)) (va vs : Value) (w : World) (ha : RelV w va cs ws P) (hs : RelV w vs cs2 ws2 Q) : Calls Tryz.prog 10 #[va, vs] w fun r w' => r = .returned (.bool (sameR cs ws P cs2 ws2 Q)) ∧ Ext w w' := by
  obtain ⟨ca, cc, wa, wcp, ia, ic, rfl, a1, a2, a3⟩ := ha.shape
  obtain ⟨ca2, cc2, wa2, wc2, ia2, ic2, rfl, b1, b2, b3⟩ := hs.shape
  obtain ⟨W, hW⟩ : ∃ W, Boxes w W (.cells #[.slice ca cs.length cc, .slice wa ws.length wcp, .slice ia P.length ic] 29) (.cells #[.slice ca2 cs2.length cc2, .slice wa2 ws2.length wc2, .slice ia2 Q.length ic2] 29) := ⟨_, Boxes.mk' _ _ _⟩
  have hlen := SliceAt.len_le a3
  have hlen2 := SliceAt.len_le b3
  obtain ⟨p0, p1, p2⟩ := cells3 hW.b0
  obtain ⟨q0, q1, q2⟩ := cells3 hW.b1
  have A1 := Lib.hid (a1.ext hW.ext); have A2 := Lib.hid (a2.ext hW.ext); have C1 := Lib.hid (b1.ext hW.ext); have C2 := Lib.hid (b2.ext hW.ext); have A3 := Lib.hid (a3.ext hW.ext); have C3 := Lib.hid (b3.ext hW.ext)
  have HW := Lib.hid hW
  have HF : Hid (sameR cs ws P cs2 ws2 Q = (decide (cs = cs2) && decide (ws = ws2) && decide (P = Q))) := rfl
  clear ha hs a1 a2 a3 b1 b2 b3 hW
  go_enter Tryz.func10, Tryz.ntmps10
  go_upto_region 1 with fail
  rw [← HW.out.eq]
  go_wp2_with fail
  refine (RInts_any cs cs2 _ _ _ A1.out C1.out).mono ?_
  rintro r w1 ⟨rfl, x1⟩
  replace p0 := x1.cell p0; replace p1 := x1.cell p1; replace p2 := x1.cell p2; replace q0 := x1.cell q0; replace q1 := x1.cell q1; replace q2 := x1.cell q2
  have X1 := Lib.hid x1
  clear x1
  cases h1 : decide (cs = cs2) with
  | false =>
    have HN : Hid (sameR cs ws P cs2 ws2 Q = false) := by unfold Hid; rw [HF.out, h1]; rfl
    clear h1
    go_wp2_with fail
    go_ret
    exact ⟨by rw [HN.out]; rfl, HW.out.ext.trans X1.out⟩
  | true =>
    have H1 := Lib.hid h1
    clear h1
    go_wp2_with fail
    refine (RInts_any ws ws2 _ _ _ (A2.out.ext X1.out) (C2.out.ext X1.out)).mono ?_
    rintro r w2 ⟨rfl, x2⟩
    replace p2 := x2.cell p2; replace q2 := x2.cell q2
    have X2 := Lib.hid (X1.out.trans x2)
    clear x2 p0 p1 q0 q1
    cases h2 : decide (ws = ws2) with
    | false =>
      have HN : Hid (sameR cs ws P cs2 ws2 Q = false) := by unfold Hid; rw [HF.out, H1.out, h2]; rfl
      clear h2
      go_wp2_with fail
      go_ret
      exact ⟨by rw [HN.out]; rfl, HW.out.ext.trans X2.out⟩
    | true =>
      have HG : Hid (sameR cs ws P cs2 ws2 Q = decide (P = Q)) := by unfold Hid; rw [HF.out, H1.out, h2]; rfl
      clear h2 HF
      by_cases hl : P.length = Q.length
      · have HL := Lib.hid hl
        have hne : ((P.length : Int) != (Q.length : Int)) = false := by simp [hl]
        clear hl
        go_wp2_with fail
        go_loopw [5] (fun i wr => ∃ k : Nat, k ≤ P.length ∧ i = .int .i64 k ∧ Ext w2 wr ∧ ∀ (j : Nat) (h : j < P.length) (h2 : j < Q.length), j < k → P[j] = Q[j]) (fun i _ => P.length - (intOf i).toNat)
        case atStart => exact ⟨0, Nat.zero_le _, rfl, Ext.refl _, fun j _ _ h => absurd h (by omega)⟩
        case round =>
          obtain ⟨k, hk, rfl, hX, hR⟩ := hrel
          have HXr := Lib.hid hX; have HR := Lib.hid hR; clear hX hR
          have p2r := HXr.out.cell p2; have q2r := HXr.out.cell q2
          by_cases hlt : k < P.length
          · have hlt2 : k < Q.length := by rw [← HL.out]; exact hlt
            obtain ⟨b, o, c, e, g0, g1⟩ := pairAt_of (A3.out.ext (X2.out.trans HXr.out)) hlt
            cases e
            obtain ⟨b', o', c', e, g2, g3⟩ := pairAt_of (C3.out.ext (X2.out.trans HXr.out)) hlt2
            cases e
            have i0 : (0 : Int) ≤ (k : Int) := by omega
            have i1 : (k : Int) < (P.length : Int) := by omega
            have i2 : (k : Int) < (Q.length : Int) := by omega
            have HNO : Hid (P[k] ≠ Q[k] → decide (P = Q) = false) := fun h => decide_eq_false fun c => h (by subst c; rfl)
            have HYES : Hid (P[k] = Q[k] → ∀ (j : Nat) (h : j < P.length) (h2 : j < Q.length), j < k + 1 → P[j] = Q[j]) := fun h j h1 h2 hj => by
              by_cases c : j = k
              · subst c; exact h
              · exact HR.out j h1 h2 (by omega)
            generalize P[k] = x at *
            generalize Q[k] = y at *
            obtain ⟨x1, x2⟩ := x
            obtain ⟨y1, y2⟩ := y
            simp only at g0 g1 g2 g3
            have hqp := run_neqPair
            by_cases u1 : x1 = y1
            · have v1 : (x1 == y1) = true := by simp [u1]
              by_cases u2 : x2 = y2
              · have HN := Lib.hid (HYES.out (by rw [u1, u2]))
                have v2 : (x2 == y2) = true := by simp [u2]
                clear u1 u2
                go_upto_region 6 with fail
                go_quiet (fail)
                go_wp2_with fail
                exact ⟨⟨k + 1, by omega, by go_num, HXr.out.drewN _, HN.out⟩, by simp [intOf]; omega⟩
              · have HN := Lib.hid (HNO.out (by simp [u2]))
                have v2 : (x2 == y2) = false := by simp [u2]
                clear u1
                go_upto_region 6 with fail
                go_quiet (fail)
                go_wp2_with fail
                go_ret
                exact ⟨by rw [HG.out, HN.out]; rfl, (HW.out.ext.trans (X2.out.trans HXr.out)).drewN _⟩
            · have HN := Lib.hid (HNO.out (by simp [u1]))
              have v1 : (x1 == y1) = false := by simp [u1]
              go_upto_region 6 with fail
              go_quiet (fail)
              go_wp2_with fail
              go_ret
              exact ⟨by rw [HG.out, HN.out]; rfl, (HW.out.ext.trans (X2.out.trans HXr.out)).drewN _⟩
          · have HN : Hid (decide (P = Q) = true) := decide_eq_true (List.ext_getElem HL.out fun j h1 h2 => HR.out j h1 h2 (by omega))
            go_wp2_with fail
            go_ret
            exact ⟨by rw [HG.out, HN.out]; rfl, HW.out.ext.trans (X2.out.trans HXr.out)⟩
      · have hne : ((P.length : Int) != (Q.length : Int)) = true := by simp; omega
        have HN : Hid (decide (P = Q) = false) := decide_eq_false fun c => hl (by rw [c])
        go_wp2_with fail
        go_ret
        exact ⟨by rw [HG.out, HN.out]; rfl, HW.out.ext.trans X2.out⟩
end Go.Proofs.YtlnahhlddekhoaaGreatDoor
namespace Go.Proofs.YtlnahhlddekhoaaGreatDoor
open Go.RowKit

/-- The elements of a list are found in order in another one. -/
def inFrom {α : Type} [DecidableEq α] : List α → List α → Bool
  | [], _ => true
  | _ :: _, [] => false
  | p :: ps, q :: qs => if q = p then inFrom ps (q :: qs) else inFrom (p :: ps) qs
termination_by ps qs => ps.length + qs.length
theorem in_done {α : Type} [DecidableEq α] {P Q : List α} {i : Nat} (h : ¬ i < P.length) (k : Nat) : inFrom (P.drop i) (Q.drop k) = true := by
  rw [List.drop_eq_nil_of_le (by omega), inFrom]
theorem in_end {α : Type} [DecidableEq α] {P Q : List α} {i k : Nat} (h : i < P.length) (hk : ¬ k < Q.length) : inFrom (P.drop i) (Q.drop k) = false := by
  have e : Q.drop k = [] := List.drop_eq_nil_of_le (by omega)
  rw [List.drop_eq_getElem_cons h, e, inFrom]
theorem in_hit {α : Type} [DecidableEq α] {P Q : List α} {i k : Nat} (h : i < P.length) (hk : k < Q.length) (e : Q[k] = P[i]) : inFrom (P.drop i) (Q.drop k) = inFrom (P.drop (i + 1)) (Q.drop k) := by
  rw [List.drop_eq_getElem_cons h, List.drop_eq_getElem_cons hk, inFrom, if_pos e]
theorem in_skip {α : Type} [DecidableEq α] {P Q : List α} {i k : Nat} (h : i < P.length) (hk : k < Q.length) (e : Q[k] ≠ P[i]) : inFrom (P.drop i) (Q.drop k) = inFrom (P.drop i) (Q.drop (k + 1)) := by
  rw [List.drop_eq_getElem_cons h, List.drop_eq_getElem_cons hk, inFrom, if_neg e]

def leadsB (P : List (Int × Int)) (x y : Int) : Bool := decide ((x, y) ∈ P)
/-- The lengths are small. -/
def lenB (n : Int) (a b c : Nat) : Bool := decide ((a : Int) ≤ 40) && decide ((b : Int) ≤ 40) && decide ((c : Int) ≤ n)
set_option maxHeartbeats 1000000 in
theorem Short_any (cs ws : List Int) (P : List (Int × Int)) (va : Value) (w : World) (ha : RelV w va cs ws P) : Calls Tryz.prog 6 #[va] w fun r w' => r = .returned (.bool (lenB 1100 cs.length ws.length P.length)) ∧ Ext w w' := by
  obtain ⟨ca, cc, wa, wcp, ia, ic, rfl, a1, a2, a3⟩ := ha.shape
  have h1 := SliceAt.len_le a1; have h2 := SliceAt.len_le a2; have h3 := SliceAt.len_le a3
  have HF : Hid (lenB 1100 cs.length ws.length P.length = (decide ((cs.length : Int) ≤ 40) && decide ((ws.length : Int) ≤ 40) && decide ((P.length : Int) ≤ 1100))) := rfl
  clear ha a1 a2 a3
  generalize lenB 1100 cs.length ws.length P.length = bb at *
  by_cases t1 : cs.length ≤ 40
  · by_cases t2 : ws.length ≤ 40
    · have HN : Hid (bb = decide ((P.length : Int) ≤ 1100)) := by unfold Hid; rw [HF.out, decide_eq_true (show (cs.length : Int) ≤ 40 by omega), decide_eq_true (show (ws.length : Int) ≤ 40 by omega)]; rfl
      go_enter Tryz.func6, Tryz.ntmps6
      go_wp2_with fail
      go_ret
      exact ⟨by rw [HN.out]; rfl, (Ext.refl w).alloc _⟩
    · have HN : Hid (bb = false) := by unfold Hid; rw [HF.out, decide_eq_false (show ¬ (ws.length : Int) ≤ 40 by omega)]; simp
      have t2' : decide ((ws.length : Int) ≤ 40) = false := decide_eq_false (by omega)
      go_enter Tryz.func6, Tryz.ntmps6
      go_wp2_with fail
      go_ret
      exact ⟨by rw [HN.out]; rfl, (Ext.refl w).alloc _⟩
  · have HN : Hid (bb = false) := by unfold Hid; rw [HF.out, decide_eq_false (show ¬ (cs.length : Int) ≤ 40 by omega)]; simp
    have t1' : decide ((cs.length : Int) ≤ 40) = false := decide_eq_false (by omega)
    go_enter Tryz.func6, Tryz.ntmps6
    go_wp2_with fail
    go_ret
    exact ⟨by rw [HN.out]; rfl, (Ext.refl w).alloc _⟩
set_option maxHeartbeats 1000000 in
theorem Few_any (cs ws is : List Int) (va : Value) (w : World) (ha : SetV w va cs ws is) : Calls Tryz.prog 7 #[va] w fun r w' => r = .returned (.bool (lenB 64 cs.length ws.length is.length)) ∧ Ext w w' := by
  obtain ⟨ca, cc, wa, wcp, ia, ic, rfl, a1, a2, a3⟩ := ha.shape
  have h1 := SliceAt.len_le a1; have h2 := SliceAt.len_le a2; have h3 := SliceAt.len_le a3
  have HF : Hid (lenB 64 cs.length ws.length is.length = (decide ((cs.length : Int) ≤ 40) && decide ((ws.length : Int) ≤ 40) && decide ((is.length : Int) ≤ 64))) := rfl
  clear ha a1 a2 a3
  generalize lenB 64 cs.length ws.length is.length = bb at *
  by_cases t1 : cs.length ≤ 40
  · by_cases t2 : ws.length ≤ 40
    · have HN : Hid (bb = decide ((is.length : Int) ≤ 64)) := by unfold Hid; rw [HF.out, decide_eq_true (show (cs.length : Int) ≤ 40 by omega), decide_eq_true (show (ws.length : Int) ≤ 40 by omega)]; rfl
      go_enter Tryz.func7, Tryz.ntmps7
      go_wp2_with fail
      go_ret
      exact ⟨by rw [HN.out]; rfl, (Ext.refl w).alloc _⟩
    · have HN : Hid (bb = false) := by unfold Hid; rw [HF.out, decide_eq_false (show ¬ (ws.length : Int) ≤ 40 by omega)]; simp
      have t2' : decide ((ws.length : Int) ≤ 40) = false := decide_eq_false (by omega)
      go_enter Tryz.func7, Tryz.ntmps7
      go_wp2_with fail
      go_ret
      exact ⟨by rw [HN.out]; rfl, (Ext.refl w).alloc _⟩
  · have HN : Hid (bb = false) := by unfold Hid; rw [HF.out, decide_eq_false (show ¬ (cs.length : Int) ≤ 40 by omega)]; simp
    have t1' : decide ((cs.length : Int) ≤ 40) = false := decide_eq_false (by omega)
    go_enter Tryz.func7, Tryz.ntmps7
    go_wp2_with fail
    go_ret
    exact ⟨by rw [HN.out]; rfl, (Ext.refl w).alloc _⟩
noncomputable def lightB (cs ws : List Int) (P : List (Int × Int)) : Bool := lenB 1100 cs.length ws.length P.length && rvalidB cs ws P && decide (sumI ws ≤ 5)
end Go.Proofs.YtlnahhlddekhoaaGreatDoor
