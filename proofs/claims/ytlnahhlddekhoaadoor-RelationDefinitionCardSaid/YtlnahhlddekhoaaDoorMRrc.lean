/-
  ref15.Same.
  ref15.In, law15's leads, inside, Short, Few, Light.
-/
import Derived.Test.YtlnahhlddekhoaaDoorMRrb
import Derived.Laws.StructEq
namespace Go.Proofs.YtlnahhlddekhoaaDoor
open Go.RowKit

/-- Two arrays of two numbers compared. -/
theorem run_eqPair (w : World) (a b c d : Int) : (Op.equalIn 10000 62 (.agg #[.int .i64 a, .int .i64 b]) (.agg #[.int .i64 c, .int .i64 d])).run Tryd.prog w = .ok (a == c && b == d) w := by
  obtain ⟨i0, hi, hz0, hz1, hz2⟩ := info_parts infoInt
  have hu : Tryd.prog.underlying 3 = some (.int .i64) := Tryd.underlying3
  have h1 := run_equalIn_int (P := Tryd.prog) w 9998 3 .i64 .i64 a c hu
  have h2 := run_equalIn_int (P := Tryd.prog) w 9998 3 .i64 .i64 b d hu
  have hs : (sizeOf 3).run Tryd.prog w = .ok 1 w := by simp [sizeOf, typeInfo, hi, hz1]
  rw [show (10000 : Nat) = 9998 + 1 + 1 from rfl, Op.equalIn]
  simp only [Sem.run_bind, run_underlying (show Tryd.prog.underlying 62 = some (.array 2 3) from Tryd.underlying62), Result.andThen_ok, hs, Std.Legacy.Range.forIn_eq_forIn_range', Std.Legacy.Range.size, Nat.sub_zero, Nat.add_sub_cancel, Nat.div_one]
  have hr : List.range' 0 2 1 = [0, 1] := rfl
  rw [hr]
  simp only [List.forIn_cons, List.forIn_nil, Sem.run_bind]
  have p1 : ∀ x y : Int, (part 3 #[.int .i64 x, .int .i64 y] (0 * 1)).run Tryd.prog w = .ok (.int .i64 x) w := fun x y => by simp [part, isAgg, run_underlying hu]
  have p2 : ∀ x y : Int, (part 3 #[.int .i64 x, .int .i64 y] 1).run Tryd.prog w = .ok (.int .i64 y) w := fun x y => by simp [part, isAgg, run_underlying hu]
  simp only [p1, Result.andThen_ok, h1]
  cases a == c
  · simp
  · simp [p2, h2]
    cases hbd : b == d
    · simp_all
    · simp_all
theorem run_neqPair (w : World) (a b c d : Int) : (binOp .neq 62 (.agg #[.int .i64 a, .int .i64 b]) (.agg #[.int .i64 c, .int .i64 d])).run Tryd.prog w = .ok (.bool (!(a == c && b == d))) w := by
  rw [run_neq_struct, run_eqPair]; rfl
theorem run_eqlPair (w : World) (a b c d : Int) : (binOp .eql 62 (.agg #[.int .i64 a, .int .i64 b]) (.agg #[.int .i64 c, .int .i64 d])).run Tryd.prog w = .ok (.bool (a == c && b == d)) w := by
  rw [run_eql_struct, run_eqPair]; rfl
def sameR (cs ws : List Int) (P : List (Int × Int)) (cs2 ws2 : List Int) (Q : List (Int × Int)) : Bool := decide (cs = cs2) && decide (ws = ws2) && decide (P = Q)
theorem pairAt_of {w : World} {v : Value} {P : List (Int × Int)} (h : Pairs w v P) {k : Nat} (hk : k < P.length) : ∃ b o c, v = .slice (some ⟨b, o, none⟩) P.length c ∧ w.cell? ⟨b, o + k * 2, none⟩ = some (.int .i64 P[k].1) ∧ w.cell? ⟨b, o + k * 2 + 1, none⟩ = some (.int .i64 P[k].2) := by
  rcases h with ⟨_, e⟩ | ⟨b, o, cap, e, _, hc⟩
  · rw [e] at hk; simp at hk
  · exact ⟨b, o, cap, e, (hc k hk).1, (hc k hk).2⟩
set_option maxRecDepth 100000 in
set_option maxHeartbeats 2000000 in
theorem RSame15_any (cs ws : List Int) (P : List (Int × Int)) (cs2 ws2 : List Int) (Q : List (Int × Int)) (va vs : Value) (w : World) (ha : RelV w va cs ws P) (hs : RelV w vs cs2 ws2 Q) : Calls Tryd.prog 21 #[va, vs] w fun r w' => r = .returned (.bool (sameR cs ws P cs2 ws2 Q)) ∧ Ext w w' := by
  obtain ⟨ca, cc, wa, wcp, ia, ic, rfl, a1, a2, a3⟩ := ha.shape
  obtain ⟨ca2, cc2, wa2, wc2, ia2, ic2, rfl, b1, b2, b3⟩ := hs.shape
  obtain ⟨W, hW⟩ : ∃ W, Boxes w W (.cells #[.slice ca cs.length cc, .slice wa ws.length wcp, .slice ia P.length ic] 25) (.cells #[.slice ca2 cs2.length cc2, .slice wa2 ws2.length wc2, .slice ia2 Q.length ic2] 25) := ⟨_, Boxes.mk' _ _ _⟩
  have hlen := SliceAt.len_le a3
  have hlen2 := SliceAt.len_le b3
  obtain ⟨p0, p1, p2⟩ := cells3 hW.b0
  obtain ⟨q0, q1, q2⟩ := cells3 hW.b1
  have A1 := Lib.hid (a1.ext hW.ext); have A2 := Lib.hid (a2.ext hW.ext); have C1 := Lib.hid (b1.ext hW.ext); have C2 := Lib.hid (b2.ext hW.ext); have A3 := Lib.hid (a3.ext hW.ext); have C3 := Lib.hid (b3.ext hW.ext)
  have HW := Lib.hid hW
  have HF : Hid (sameR cs ws P cs2 ws2 Q = (decide (cs = cs2) && decide (ws = ws2) && decide (P = Q))) := rfl
  clear ha hs a1 a2 a3 b1 b2 b3 hW
  go_enter Tryd.func21, Tryd.ntmps21
  go_upto_region 1 with fail
  rw [← HW.out.eq]
  go_wp2_with fail
  refine (RInts_any cs cs2 _ _ _ A1.out C1.out).mono ?_
  rintro r w1 ⟨rfl, x1⟩
  replace p0 := x1.cell p0; replace p1 := x1.cell p1; replace p2 := x1.cell p2; replace q0 := x1.cell q0; replace q1 := x1.cell q1; replace q2 := x1.cell q2
  have X1 := Lib.hid x1
  clear x1
  cases h1 : decide (cs = cs2) with
  | false =>
    have HN : Hid (sameR cs ws P cs2 ws2 Q = false) := by unfold Hid; rw [HF.out, h1]; rfl
    clear h1
    go_wp2_with fail
    go_ret
    exact ⟨by rw [HN.out]; rfl, HW.out.ext.trans X1.out⟩
  | true =>
    have H1 := Lib.hid h1
    clear h1
    go_wp2_with fail
    refine (RInts_any ws ws2 _ _ _ (A2.out.ext X1.out) (C2.out.ext X1.out)).mono ?_
    rintro r w2 ⟨rfl, x2⟩
    replace p2 := x2.cell p2; replace q2 := x2.cell q2
    have X2 := Lib.hid (X1.out.trans x2)
    clear x2 p0 p1 q0 q1
    cases h2 : decide (ws = ws2) with
    | false =>
      have HN : Hid (sameR cs ws P cs2 ws2 Q = false) := by unfold Hid; rw [HF.out, H1.out, h2]; rfl
      clear h2
      go_wp2_with fail
      go_ret
      exact ⟨by rw [HN.out]; rfl, HW.out.ext.trans X2.out⟩
    | true =>
      have HG : Hid (sameR cs ws P cs2 ws2 Q = decide (P = Q)) := by unfold Hid; rw [HF.out, H1.out, h2]; rfl
      clear h2 HF
      by_cases hl : P.length = Q.length
      · have HL := Lib.hid hl
        have hne : ((P.length : Int) != (Q.length : Int)) = false := by simp [hl]
        clear hl
        go_wp2_with fail
        go_loopw [5] (fun i wr => ∃ k : Nat, k ≤ P.length ∧ i = .int .i64 k ∧ Ext w2 wr ∧ ∀ (j : Nat) (h : j < P.length) (h2 : j < Q.length), j < k → P[j] = Q[j]) (fun i _ => P.length - (intOf i).toNat)
        case atStart => exact ⟨0, Nat.zero_le _, rfl, Ext.refl _, fun j _ _ h => absurd h (by omega)⟩
        case round =>
          obtain ⟨k, hk, rfl, hX, hR⟩ := hrel
          have HXr := Lib.hid hX; have HR := Lib.hid hR; clear hX hR
          have p2r := HXr.out.cell p2; have q2r := HXr.out.cell q2
          by_cases hlt : k < P.length
          · have hlt2 : k < Q.length := by rw [← HL.out]; exact hlt
            obtain ⟨b, o, c, e, g0, g1⟩ := pairAt_of (A3.out.ext (X2.out.trans HXr.out)) hlt
            cases e
            obtain ⟨b', o', c', e, g2, g3⟩ := pairAt_of (C3.out.ext (X2.out.trans HXr.out)) hlt2
            cases e
            have i0 : (0 : Int) ≤ (k : Int) := by omega
            have i1 : (k : Int) < (P.length : Int) := by omega
            have i2 : (k : Int) < (Q.length : Int) := by omega
            have HNO : Hid (P[k] ≠ Q[k] → decide (P = Q) = false) := fun h => decide_eq_false fun c => h (by subst c; rfl)
            have HYES : Hid (P[k] = Q[k] → ∀ (j : Nat) (h : j < P.length) (h2 : j < Q.length), j < k + 1 → P[j] = Q[j]) := fun h j h1 h2 hj => by
              by_cases c : j = k
              · subst c; exact h
              · exact HR.out j h1 h2 (by omega)
            generalize P[k] = x at *
            generalize Q[k] = y at *
            obtain ⟨x1, x2⟩ := x
            obtain ⟨y1, y2⟩ := y
            simp only at g0 g1 g2 g3
            have hqp := run_neqPair
            by_cases u1 : x1 = y1
            · have v1 : (x1 == y1) = true := by simp [u1]
              by_cases u2 : x2 = y2
              · have HN := Lib.hid (HYES.out (by rw [u1, u2]))
                have v2 : (x2 == y2) = true := by simp [u2]
                clear u1 u2
                go_upto_region 6 with fail
                go_quiet (fail)
                go_wp2_with fail
                exact ⟨⟨k + 1, by omega, by go_num, HXr.out.drewN _, HN.out⟩, by simp [intOf]; omega⟩
              · have HN := Lib.hid (HNO.out (by simp [u2]))
                have v2 : (x2 == y2) = false := by simp [u2]
                clear u1
                go_upto_region 6 with fail
                go_quiet (fail)
                go_wp2_with fail
                go_ret
                exact ⟨by rw [HG.out, HN.out]; rfl, (HW.out.ext.trans (X2.out.trans HXr.out)).drewN _⟩
            · have HN := Lib.hid (HNO.out (by simp [u1]))
              have v1 : (x1 == y1) = false := by simp [u1]
              go_upto_region 6 with fail
              go_quiet (fail)
              go_wp2_with fail
              go_ret
              exact ⟨by rw [HG.out, HN.out]; rfl, (HW.out.ext.trans (X2.out.trans HXr.out)).drewN _⟩
          · have HN : Hid (decide (P = Q) = true) := decide_eq_true (List.ext_getElem HL.out fun j h1 h2 => HR.out j h1 h2 (by omega))
            go_wp2_with fail
            go_ret
            exact ⟨by rw [HG.out, HN.out]; rfl, HW.out.ext.trans (X2.out.trans HXr.out)⟩
      · have hne : ((P.length : Int) != (Q.length : Int)) = true := by simp; omega
        have HN : Hid (decide (P = Q) = false) := decide_eq_false fun c => hl (by rw [c])
        go_wp2_with fail
        go_ret
        exact ⟨by rw [HG.out, HN.out]; rfl, HW.out.ext.trans X2.out⟩
end Go.Proofs.YtlnahhlddekhoaaDoor
namespace Go.Proofs.YtlnahhlddekhoaaDoor
open Go.RowKit

/-- The elements of a list are found in order in another one. -/
def inFrom {α : Type} [DecidableEq α] : List α → List α → Bool
  | [], _ => true
  | _ :: _, [] => false
  | p :: ps, q :: qs => if q = p then inFrom ps (q :: qs) else inFrom (p :: ps) qs
termination_by ps qs => ps.length + qs.length
theorem in_done {α : Type} [DecidableEq α] {P Q : List α} {i : Nat} (h : ¬ i < P.length) (k : Nat) : inFrom (P.drop i) (Q.drop k) = true := by
  rw [List.drop_eq_nil_of_le (by omega), inFrom]
theorem in_end {α : Type} [DecidableEq α] {P Q : List α} {i k : Nat} (h : i < P.length) (hk : ¬ k < Q.length) : inFrom (P.drop i) (Q.drop k) = false := by
  have e : Q.drop k = [] := List.drop_eq_nil_of_le (by omega)
  rw [List.drop_eq_getElem_cons h, e, inFrom]
theorem in_hit {α : Type} [DecidableEq α] {P Q : List α} {i k : Nat} (h : i < P.length) (hk : k < Q.length) (e : Q[k] = P[i]) : inFrom (P.drop i) (Q.drop k) = inFrom (P.drop (i + 1)) (Q.drop k) := by
  rw [List.drop_eq_getElem_cons h, List.drop_eq_getElem_cons hk, inFrom, if_pos e]
theorem in_skip {α : Type} [DecidableEq α] {P Q : List α} {i k : Nat} (h : i < P.length) (hk : k < Q.length) (e : Q[k] ≠ P[i]) : inFrom (P.drop i) (Q.drop k) = inFrom (P.drop i) (Q.drop (k + 1)) := by
  rw [List.drop_eq_getElem_cons h, List.drop_eq_getElem_cons hk, inFrom, if_neg e]

set_option maxRecDepth 100000 in
set_option maxHeartbeats 2000000 in
theorem RIn_any (cs ws : List Int) (P : List (Int × Int)) (cs2 ws2 : List Int) (Q : List (Int × Int)) (va vs : Value) (w : World) (ha : RelV w va cs ws P) (hs : RelV w vs cs2 ws2 Q) : Calls Tryd.prog 24 #[va, vs] w fun r w' => r = .returned (.bool (inFrom P Q)) ∧ Ext w w' := by
  obtain ⟨ca, cc, wa, wcp, ia, ic, rfl, a1, a2, a3⟩ := ha.shape
  obtain ⟨ca2, cc2, wa2, wc2, ia2, ic2, rfl, b1, b2, b3⟩ := hs.shape
  obtain ⟨W, hW⟩ : ∃ W, Boxes w W (.cells #[.slice ca cs.length cc, .slice wa ws.length wcp, .slice ia P.length ic] 25) (.cells #[.slice ca2 cs2.length cc2, .slice wa2 ws2.length wc2, .slice ia2 Q.length ic2] 25) := ⟨_, Boxes.mk' _ _ _⟩
  have hlen := SliceAt.len_le a3
  have hlen2 := SliceAt.len_le b3
  obtain ⟨p0, p1, p2⟩ := cells3 hW.b0
  obtain ⟨q0, q1, q2⟩ := cells3 hW.b1
  have A3 := Lib.hid (a3.ext hW.ext); have C3 := Lib.hid (b3.ext hW.ext)
  have HW := Lib.hid hW
  clear ha hs a1 a2 a3 b1 b2 b3 hW p0 p1 q0 q1
  go_enter Tryd.func24, Tryd.ntmps24
  go_upto_region 1 with fail
  rw [← HW.out.eq]
  go_wp2_with fail
  go_loopw [5, 6] (fun kv iv wr => ∃ i k : Nat, i ≤ P.length ∧ k ≤ Q.length ∧ iv = .int .i64 i ∧ kv = .int .i64 k ∧ Ext W wr ∧ inFrom (P.drop i) (Q.drop k) = inFrom P Q) (fun _ iv _ => P.length - (intOf iv).toNat)
  case atStart => exact ⟨0, 0, Nat.zero_le _, Nat.zero_le _, rfl, rfl, Ext.refl _, rfl⟩
  case round =>
    obtain ⟨i, k, hi, hk, rfl, rfl, hX, hR⟩ := hrel
    have HXr := Lib.hid hX; have HR := Lib.hid hR
    have p2r := hX.cell p2
    clear hX hR
    generalize wr = wx at *
    by_cases hli : i < P.length
    · go_wp2_with fail
      go_loopw [5] (fun kv wr => ∃ k : Nat, k ≤ Q.length ∧ kv = .int .i64 k ∧ Ext W wr ∧ inFrom (P.drop i) (Q.drop k) = inFrom P Q) (fun kv _ => Q.length - (intOf kv).toNat)
      case atStart => exact ⟨k, hk, rfl, HXr.out, HR.out⟩
      case round =>
        obtain ⟨j, hj, rfl, hX, hR⟩ := hrel
        have HXj := Lib.hid hX; have HRj := Lib.hid hR
        have p2j := hX.cell p2; have q2j := hX.cell q2
        clear hX hR p2r
        obtain ⟨b, o, c, e, g0, g1⟩ := pairAt_of (A3.out.ext HXj.out) hli
        cases e
        have i0 : (0 : Int) ≤ (i : Int) := by omega
        have i1 : (i : Int) < (P.length : Int) := by omega
        have j0 : (0 : Int) ≤ (j : Int) := by omega
        by_cases hlj : j < Q.length
        · obtain ⟨b', o', c', e, g2, g3⟩ := pairAt_of (C3.out.ext HXj.out) hlj
          cases e
          have j1 : (j : Int) < (Q.length : Int) := by omega
          have HHIT : Hid (Q[j] = P[i] → inFrom (P.drop (i + 1)) (Q.drop j) = inFrom P Q) := fun e => by rw [← in_hit hli hlj e]; exact HRj.out
          have HSK : Hid (Q[j] ≠ P[i] → inFrom (P.drop i) (Q.drop (j + 1)) = inFrom P Q) := fun e => by rw [← in_skip hli hlj e]; exact HRj.out
          generalize P[i] = x at *
          generalize Q[j] = y at *
          obtain ⟨x1, x2⟩ := x
          obtain ⟨y1, y2⟩ := y
          simp only at g0 g1 g2 g3
          have hqp := run_neqPair
          have hjt : decide ((j : Int) < (Q.length : Int)) = true := decide_eq_true j1
          by_cases u1 : y1 = x1
          · have v1 : (y1 == x1) = true := by simp [u1]
            by_cases u2 : y2 = x2
            · have v2 : (y2 == x2) = true := by simp [u2]
              have HN := Lib.hid (HHIT.out (by rw [u1, u2]))
              have hne : ((j : Int) == (Q.length : Int)) = false := by simp; omega
              clear u1 u2 HHIT HSK
              go_upto_region 5 with fail
              go_quiet (fail)
              go_wp2_with fail
              exact ⟨⟨i + 1, j, by omega, by omega, by go_num, rfl, HXj.out.drewN _, HN.out⟩, by simp [intOf]; omega⟩
            · have v2 : (y2 == x2) = false := by simp [u2]
              have HN := Lib.hid (HSK.out (by simp [u2]))
              clear u1 u2 HHIT HSK
              go_upto_region 5 with fail
              go_quiet (fail)
              go_wp2_with fail
              exact ⟨⟨j + 1, by omega, by go_num, HXj.out.drewN _, HN.out⟩, by simp [intOf]; omega⟩
          · have v1 : (y1 == x1) = false := by simp [u1]
            have HN := Lib.hid (HSK.out (by simp [u1]))
            clear u1 HHIT HSK
            go_upto_region 5 with fail
            go_quiet (fail)
            go_wp2_with fail
            exact ⟨⟨j + 1, by omega, by go_num, HXj.out.drewN _, HN.out⟩, by simp [intOf]; omega⟩
        · have HN : Hid (inFrom P Q = false) := by unfold Hid; rw [← HRj.out]; exact in_end hli hlj
          obtain rfl : j = Q.length := by omega
          go_upto_region 5 with fail
          go_quiet (fail)
          go_wp2_with fail
          go_ret
          exact ⟨by rw [HN.out]; rfl, (HW.out.ext.trans HXj.out).drewN _⟩
    · have HN : Hid (inFrom P Q = true) := by unfold Hid; rw [← HR.out]; exact in_done hli k
      go_wp2_with fail
      go_ret
      exact ⟨by rw [HN.out]; rfl, HW.out.ext.trans HXr.out⟩

def leadsB (P : List (Int × Int)) (x y : Int) : Bool := decide ((x, y) ∈ P)
set_option maxRecDepth 100000 in
set_option maxHeartbeats 2000000 in
theorem leads_any (cs ws : List Int) (P : List (Int × Int)) (x y : Int) (va : Value) (w : World) (ha : RelV w va cs ws P) : Calls Tryd.prog 27 #[va, .int .i64 x, .int .i64 y] w fun r w' => r = .returned (.bool (leadsB P x y)) ∧ Ext w w' := by
  obtain ⟨ca, cc, wa, wcp, ia, ic, rfl, a1, a2, a3⟩ := ha.shape
  obtain ⟨W, hW⟩ : ∃ W, W = w.alloc (.cells #[.slice ca cs.length cc, .slice wa ws.length wcp, .slice ia P.length ic] 25) := ⟨_, rfl⟩
  have hx : Ext w W := by rw [hW]; exact (Ext.refl w).alloc _
  have hB1 : W.heap[w.heap.size]? = some (.cells #[.slice ca cs.length cc, .slice wa ws.length wcp, .slice ia P.length ic] 25 (0, 0)) := by rw [hW]; exact heap_new _ _
  obtain ⟨p0, p1, p2⟩ := cells3 hB1
  have hlen := SliceAt.len_le a3
  have A3 := Lib.hid (a3.ext hx)
  have HX := Lib.hid hx; have HW := Lib.hid hW
  clear ha a1 a2 a3 hx hW hB1 p0 p1
  go_enter Tryd.func27, Tryd.ntmps27
  go_upto_region 1 with fail
  rw [← HW.out]
  go_wp2_with fail
  go_loop [7] (fun iv => ∃ i : Nat, i ≤ P.length ∧ iv = .int .i64 i ∧ ∀ (j : Nat) (h : j < P.length), j < i → P[j] ≠ (x, y)) (fun iv => P.length - (intOf iv).toNat)
  case atStart => exact ⟨0, Nat.zero_le _, rfl, fun j _ h => absurd h (by omega)⟩
  case round =>
    obtain ⟨i, hi, rfl, hR⟩ := hrel
    have HR := Lib.hid hR
    clear hR
    by_cases hli : i < P.length
    · obtain ⟨b, o, c, e, g0, g1⟩ := pairAt_of A3.out hli
      cases e
      have HHIT : Hid (P[i] = (x, y) → leadsB P x y = true) := fun e => decide_eq_true (by rw [← e]; exact List.getElem_mem hli)
      have HSK : Hid (P[i] ≠ (x, y) → ∀ (j : Nat) (h : j < P.length), j < i + 1 → P[j] ≠ (x, y)) := fun e j h hj => by
        by_cases c : j = i
        · subst c; exact e
        · exact HR.out j h (by omega)
      generalize P[i] = z at *
      obtain ⟨x1, x2⟩ := z
      simp only at g0 g1
      have hqp := run_eqlPair
      by_cases u1 : x1 = x
      · have v1 : (x1 == x) = true := by simp [u1]
        by_cases u2 : x2 = y
        · have v2 : (x2 == y) = true := by simp [u2]
          have HN := Lib.hid (HHIT.out (by rw [u1, u2]))
          clear u1 u2 HHIT HSK
          go_wp2_with fail
          go_ret
          exact ⟨by rw [HN.out]; rfl, HX.out⟩
        · have v2 : (x2 == y) = false := by simp [u2]
          have HN := Lib.hid (HSK.out (by simp [u2]))
          clear u1 u2 HHIT HSK
          go_wp2_with fail
          exact ⟨⟨i + 1, by omega, by go_num, HN.out⟩, by simp [intOf]; omega⟩
      · have v1 : (x1 == x) = false := by simp [u1]
        have HN := Lib.hid (HSK.out (by simp [u1]))
        clear u1 HHIT HSK
        go_wp2_with fail
        exact ⟨⟨i + 1, by omega, by go_num, HN.out⟩, by simp [intOf]; omega⟩
    · have HN : Hid (leadsB P x y = false) := decide_eq_false fun c => by
        obtain ⟨j, hj, e⟩ := List.getElem_of_mem c
        exact HR.out j hj (by omega) e
      go_wp2_with fail
      go_ret
      exact ⟨by rw [HN.out]; rfl, HX.out⟩

set_option maxHeartbeats 1000000 in
theorem inside_any (cs ws is cs2 ws2 js : List Int) (va vb : Value) (w : World) (ha : SetV w va cs ws is) (hb : SetV w vb cs2 ws2 js) : Calls Tryd.prog 16 #[va, vb] w fun r w' => r = .returned (.bool (withinB is js)) ∧ Ext w w' := by
  obtain ⟨ca, cc, wa, wcp, ia, ic, rfl, a1, a2, a3⟩ := ha.shape
  obtain ⟨ca2, cc2, wa2, wc2, ia2, ic2, rfl, b1, b2, b3⟩ := hb.shape
  obtain ⟨W, hW⟩ : ∃ W, Boxes w W (.cells #[.slice ca cs.length cc, .slice wa ws.length wcp, .slice ia is.length ic] 27) (.cells #[.slice ca2 cs2.length cc2, .slice wa2 ws2.length wc2, .slice ia2 js.length ic2] 27) := ⟨_, Boxes.mk' _ _ _⟩
  obtain ⟨p0, p1, p2⟩ := cells3 hW.b0
  obtain ⟨q0, q1, q2⟩ := cells3 hW.b1
  have A3 := Lib.hid (a3.ext hW.ext); have C3 := Lib.hid (b3.ext hW.ext)
  have HW := Lib.hid hW
  clear ha hb a1 a2 a3 b1 b2 b3 hW p0 p1 q0 q1
  go_enter Tryd.func16, Tryd.ntmps16
  go_upto_region 1 with fail
  rw [← HW.out.eq]
  go_wp2_with fail
  refine (RWithin_any is js _ _ _ A3.out C3.out).mono ?_
  rintro r w1 ⟨rfl, hw1⟩
  rw [hw1]; clear hw1 w1
  go_wp2_with fail
  go_ret
  exact ⟨rfl, HW.out.ext⟩

/-- The lengths are small. -/
def lenB (n : Int) (a b c : Nat) : Bool := decide ((a : Int) ≤ 40) && decide ((b : Int) ≤ 40) && decide ((c : Int) ≤ n)
set_option maxHeartbeats 1000000 in
theorem Short_any (cs ws : List Int) (P : List (Int × Int)) (va : Value) (w : World) (ha : RelV w va cs ws P) : Calls Tryd.prog 39 #[va] w fun r w' => r = .returned (.bool (lenB 1100 cs.length ws.length P.length)) ∧ Ext w w' := by
  obtain ⟨ca, cc, wa, wcp, ia, ic, rfl, a1, a2, a3⟩ := ha.shape
  have h1 := SliceAt.len_le a1; have h2 := SliceAt.len_le a2; have h3 := SliceAt.len_le a3
  have HF : Hid (lenB 1100 cs.length ws.length P.length = (decide ((cs.length : Int) ≤ 40) && decide ((ws.length : Int) ≤ 40) && decide ((P.length : Int) ≤ 1100))) := rfl
  clear ha a1 a2 a3
  generalize lenB 1100 cs.length ws.length P.length = bb at *
  by_cases t1 : cs.length ≤ 40
  · by_cases t2 : ws.length ≤ 40
    · have HN : Hid (bb = decide ((P.length : Int) ≤ 1100)) := by unfold Hid; rw [HF.out, decide_eq_true (show (cs.length : Int) ≤ 40 by omega), decide_eq_true (show (ws.length : Int) ≤ 40 by omega)]; rfl
      go_enter Tryd.func39, Tryd.ntmps39
      go_wp2_with fail
      go_ret
      exact ⟨by rw [HN.out]; rfl, (Ext.refl w).alloc _⟩
    · have HN : Hid (bb = false) := by unfold Hid; rw [HF.out, decide_eq_false (show ¬ (ws.length : Int) ≤ 40 by omega)]; simp
      have t2' : decide ((ws.length : Int) ≤ 40) = false := decide_eq_false (by omega)
      go_enter Tryd.func39, Tryd.ntmps39
      go_wp2_with fail
      go_ret
      exact ⟨by rw [HN.out]; rfl, (Ext.refl w).alloc _⟩
  · have HN : Hid (bb = false) := by unfold Hid; rw [HF.out, decide_eq_false (show ¬ (cs.length : Int) ≤ 40 by omega)]; simp
    have t1' : decide ((cs.length : Int) ≤ 40) = false := decide_eq_false (by omega)
    go_enter Tryd.func39, Tryd.ntmps39
    go_wp2_with fail
    go_ret
    exact ⟨by rw [HN.out]; rfl, (Ext.refl w).alloc _⟩
set_option maxHeartbeats 1000000 in
theorem Few_any (cs ws is : List Int) (va : Value) (w : World) (ha : SetV w va cs ws is) : Calls Tryd.prog 11 #[va] w fun r w' => r = .returned (.bool (lenB 64 cs.length ws.length is.length)) ∧ Ext w w' := by
  obtain ⟨ca, cc, wa, wcp, ia, ic, rfl, a1, a2, a3⟩ := ha.shape
  have h1 := SliceAt.len_le a1; have h2 := SliceAt.len_le a2; have h3 := SliceAt.len_le a3
  have HF : Hid (lenB 64 cs.length ws.length is.length = (decide ((cs.length : Int) ≤ 40) && decide ((ws.length : Int) ≤ 40) && decide ((is.length : Int) ≤ 64))) := rfl
  clear ha a1 a2 a3
  generalize lenB 64 cs.length ws.length is.length = bb at *
  by_cases t1 : cs.length ≤ 40
  · by_cases t2 : ws.length ≤ 40
    · have HN : Hid (bb = decide ((is.length : Int) ≤ 64)) := by unfold Hid; rw [HF.out, decide_eq_true (show (cs.length : Int) ≤ 40 by omega), decide_eq_true (show (ws.length : Int) ≤ 40 by omega)]; rfl
      go_enter Tryd.func11, Tryd.ntmps11
      go_wp2_with fail
      go_ret
      exact ⟨by rw [HN.out]; rfl, (Ext.refl w).alloc _⟩
    · have HN : Hid (bb = false) := by unfold Hid; rw [HF.out, decide_eq_false (show ¬ (ws.length : Int) ≤ 40 by omega)]; simp
      have t2' : decide ((ws.length : Int) ≤ 40) = false := decide_eq_false (by omega)
      go_enter Tryd.func11, Tryd.ntmps11
      go_wp2_with fail
      go_ret
      exact ⟨by rw [HN.out]; rfl, (Ext.refl w).alloc _⟩
  · have HN : Hid (bb = false) := by unfold Hid; rw [HF.out, decide_eq_false (show ¬ (cs.length : Int) ≤ 40 by omega)]; simp
    have t1' : decide ((cs.length : Int) ≤ 40) = false := decide_eq_false (by omega)
    go_enter Tryd.func11, Tryd.ntmps11
    go_wp2_with fail
    go_ret
    exact ⟨by rw [HN.out]; rfl, (Ext.refl w).alloc _⟩
noncomputable def lightB (cs ws : List Int) (P : List (Int × Int)) : Bool := lenB 1100 cs.length ws.length P.length && rvalidB cs ws P && decide (sumI ws ≤ 5)
set_option maxHeartbeats 1000000 in
theorem Light_any (cs ws : List Int) (P : List (Int × Int)) (va : Value) (w : World) (ha : RelV w va cs ws P) : Calls Tryd.prog 10 #[va] w fun r w' => r = .returned (.bool (lightB cs ws P)) ∧ Ext w w' := by
  obtain ⟨ca, cc, wa, wcp, ia, ic, rfl, a1, a2, a3⟩ := ha.shape
  obtain ⟨W, hW⟩ : ∃ W, W = w.alloc (.cells #[.slice ca cs.length cc, .slice wa ws.length wcp, .slice ia P.length ic] 25) := ⟨_, rfl⟩
  have hx : Ext w W := by rw [hW]; exact (Ext.refl w).alloc _
  have hB1 : W.heap[w.heap.size]? = some (.cells #[.slice ca cs.length cc, .slice wa ws.length wcp, .slice ia P.length ic] 25 (0, 0)) := by rw [hW]; exact heap_new _ _
  obtain ⟨p0, p1, p2⟩ := cells3 hB1
  have HF : Hid (lightB cs ws P = (lenB 1100 cs.length ws.length P.length && rvalidB cs ws P && decide (sumI ws ≤ 5))) := rfl
  have HA := Lib.hid (ha.ext hx); have A2 := Lib.hid (a2.ext hx); have HX := Lib.hid hx; have HW := Lib.hid hW
  clear ha a1 a2 a3 hx hW hB1
  go_enter Tryd.func10, Tryd.ntmps10
  go_upto_region 1 with fail
  rw [← HW.out]
  go_wp2_with fail
  refine (Short_any cs ws P _ _ HA.out).mono ?_
  rintro r w1 ⟨rfl, x1⟩
  replace p0 := x1.cell p0; replace p1 := x1.cell p1; replace p2 := x1.cell p2
  have X1 := Lib.hid x1
  clear x1
  cases h1 : lenB 1100 cs.length ws.length P.length with
  | false =>
    have HN : Hid (lightB cs ws P = false) := by unfold Hid; rw [HF.out, h1]; rfl
    clear h1
    go_wp2_with fail
    go_ret
    exact ⟨by rw [HN.out]; rfl, HX.out.trans X1.out⟩
  | true =>
    have H1 := Lib.hid h1
    clear h1
    go_wp2_with fail
    refine (RValid_any cs ws P _ _ (HA.out.ext X1.out)).mono ?_
    rintro r w2 ⟨rfl, x2⟩
    replace p1 := x2.cell p1
    have X2 := Lib.hid (X1.out.trans x2)
    clear x2 p0 p2
    cases h2 : rvalidB cs ws P with
    | false =>
      have HN : Hid (lightB cs ws P = false) := by unfold Hid; rw [HF.out, H1.out, h2]; rfl
      clear h2
      go_wp2_with fail
      go_ret
      exact ⟨by rw [HN.out]; rfl, HX.out.trans X2.out⟩
    | true =>
      have HN : Hid (lightB cs ws P = decide (sumI ws ≤ 5)) := by unfold Hid; rw [HF.out, H1.out, h2]; rfl
      have HWD := Lib.hid (small_sum (rvalid_iff.1 h2).1).2.1
      clear h2
      go_wp2_with fail
      refine (RSum_any ws _ _ (A2.out.ext X2.out) HWD.out).mono ?_
      rintro r w3 ⟨rfl, hw3⟩
      rw [hw3]; clear hw3 w3
      generalize sumI ws = sm at *
      go_wp2_with fail
      go_ret
      exact ⟨by rw [HN.out]; rfl, HX.out.trans X2.out⟩
end Go.Proofs.YtlnahhlddekhoaaDoor
