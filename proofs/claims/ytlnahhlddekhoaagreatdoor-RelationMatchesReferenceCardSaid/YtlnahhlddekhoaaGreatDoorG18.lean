/-
  What a valid relation is; the walks of relation.Image and Inside. Printed by gen_image.py.
  The iterator over the pairs of a matrix.
  Relations of the call's own; the walk of relation.relation.
-/
import Derived.Test.YtlnahhlddekhoaaGreatDoorG17
import Derived.RangeFuncNested
import Derived.RangeFuncBound
import Derived.RangeFuncCalls
import Derived.RangeFuncLeaves
import Derived.Shelf.Abstract
import Derived.Shelf.RegionOpen
import Derived.OwnWalkIn
import Derived.TacticsInMore
import Derived.LoopNIn
import Derived.LoopIn
import Derived.RangeFuncWrites
namespace Go.Proofs.YtlnahhlddekhoaaGreatDoor
open Go.RowKit

structure ValidR (cs ws : List Int) (P : List (Nat × Nat)) : Prop where
  small : smallB cs ws = true
  six : sumI ws ≤ 6
  sorted : P.Pairwise ltP
  lt : ∀ p ∈ P, (p.1 : Int) < pw (sumI ws) ∧ (p.2 : Int) < pw (sumI ws)
theorem ValidR.pw64 {cs ws : List Int} {P : List (Nat × Nat)} (h : ValidR cs ws P) : pw (sumI ws) ≤ 64 := by
  obtain ⟨_, _, h2, h3⟩ := small_sum h.small
  have h4 := pw_mono h2 h.six
  have h5 : pw 6 = 64 := by decide
  omega
theorem ValidR.lt64 {cs ws : List Int} {P : List (Nat × Nat)} (h : ValidR cs ws P) : ∀ p ∈ P, p.1 < 64 ∧ p.2 < 64 := by
  intro p hp
  have h1 := h.lt p hp
  have h2 := h.pw64
  omega
theorem ltP_trans {a b c : Nat × Nat} (h1 : ltP a b) (h2 : ltP b c) : ltP a c := by unfold ltP at *; omega
theorem rvalid_nat {cs ws : List Int} {P : List (Int × Int)} (h : rvalidB cs ws P = true) : castP (natP P) = P ∧ ValidR cs ws (natP P) := by
  obtain ⟨h1, h2, h3⟩ := rvalid_iff.1 h
  have h0 : ∀ p ∈ P, 0 ≤ p.1 ∧ p.1 < pw (sumI ws) ∧ 0 ≤ p.2 ∧ p.2 < pw (sumI ws) := fun p hp => by
    obtain ⟨i, hi, rfl⟩ := List.getElem_of_mem hp; exact h3.bd i hi hi
  have hc : castP (natP P) = P := cast_natP fun p hp => ⟨(h0 p hp).1, (h0 p hp).2.2.1⟩
  refine ⟨hc, h1, h2, ?_, fun p hp => ?_⟩
  · rw [List.pairwise_iff_getElem]
    have hlen : (natP P).length = P.length := by simp [natP]
    have step : ∀ i (hi : i + 1 < P.length), ltP ((natP P)[i]'(by omega)) ((natP P)[i + 1]'(by omega)) := by
      intro i hi
      have h4 := h3.inc i hi hi
      have h5 := h3.bd i (by omega) (by omega)
      have h6 := h3.bd (i + 1) hi hi
      simp only [natP, List.getElem_map]
      unfold ltI at h4
      unfold ltP
      omega
    have all : ∀ (j i : Nat) (hi : i < j) (hj : j < P.length), ltP ((natP P)[i]'(by omega)) ((natP P)[j]'(by omega)) := by
      intro j
      induction j with
      | zero => intro i hi; omega
      | succ j ih =>
        intro i hi hj
        rcases Nat.lt_or_ge i j with c | c
        · exact ltP_trans (ih i c (by omega)) (step j hj)
        · obtain rfl : i = j := by omega
          exact step i hj
    intro i j hi hj hij
    exact all j i hij (by omega)
  · obtain ⟨q, hq, rfl⟩ := List.mem_map.1 hp
    have := h0 q hq
    simp only
    omega
theorem rvalid_of {cs ws : List Int} {P : List (Nat × Nat)} (h : ValidR cs ws P) : rvalidB cs ws (castP P) = true := by
  refine rvalid_iff.2 ⟨h.small, h.six, ⟨fun i hi _ => ?_, fun i hi _ => ?_⟩⟩
  · rw [castP_len] at hi
    rw [castP_get P hi]
    have := h.lt _ (List.getElem_mem hi)
    simp only
    omega
  · rw [castP_len] at hi
    rw [castP_get P hi, castP_get P (show i < P.length by omega)]
    have := List.pairwise_iff_getElem.1 h.sorted i (i + 1) (by omega) hi (by omega)
    unfold ltP at this
    unfold ltI
    simp only
    omega
theorem natP_len (P : List (Int × Int)) : (natP P).length = P.length := by simp [natP]
theorem natL_len (l : List Int) : (natL l).length = l.length := by simp [natL]
def OpPost (ok : Bool) (C D I : List Int) (w : World) (r : Ending) (w' : World) : Prop := if ok then SetRes 0 C D I w r w' else SetRes 1 [] [] [] w r w'
theorem OpPost.res {ok : Bool} {C D I : List Int} {w : World} {r : Ending} {w' : World} (h : OpPost ok C D I w r w') : ∃ e C' D' I', SetRes e C' D' I' w r w' ∧ ∀ w0 r2 w2, SetRes e C' D' I' w0 r2 w2 → OpPost ok C D I w0 r2 w2 := by
  unfold OpPost at *
  cases ok with
  | true => exact ⟨_, _, _, _, h, fun _ _ _ h => h⟩
  | false => exact ⟨_, _, _, _, h, fun _ _ _ h => h⟩
theorem applies_parts {cs ws : List Int} {P : List (Int × Int)} {cs2 ws2 is : List Int} (h : appliesB cs ws P cs2 ws2 is = true) : cs = cs2 ∧ ws = ws2 ∧ castP (natP P) = P ∧ ValidR cs ws (natP P) ∧ castL (natL is) = is ∧ ValidS cs2 ws2 (natL is) := by
  unfold appliesB at h
  simp only [Bool.and_eq_true, decide_eq_true_eq] at h
  obtain ⟨⟨⟨h1, h2⟩, h3⟩, h4⟩ := h
  exact ⟨h3, h4, (rvalid_nat h2).1, (rvalid_nat h2).2, (valid_nat h1).1, (valid_nat h1).2⟩

theorem Image_cf (args : Array Value) (w : World) : (callFunc 62 args).run Tryz.prog w = .ok (.enter 62 args) w := by go_simp
set_option maxRecDepth 100000 in
set_option maxHeartbeats 2000000 in
theorem Image_any (cs ws : List Int) (P : List (Int × Int)) (cs2 ws2 is : List Int) (va vs : Value) (w : World) (ha : RelV w va cs ws P) (hs : SetV w vs cs2 ws2 is) (hT : DeB w) :
    Calls Tryz.prog 19 #[va, vs] w (OpPost (appliesB cs ws P cs2 ws2 is) cs2 ws2 (castL (inWord (imageW (rowsL (natP P)) (natL is)))) w) := by
  obtain ⟨ca, cc, wa, wcp, ia, ic, rfl, a1, a2, a3⟩ := ha.shape
  obtain ⟨ca2, cc2, wa2, wc2, ia2, ic2, rfl, b1, b2, b3⟩ := hs.shape
  obtain ⟨W, hW⟩ : ∃ W, Boxes3 w W (.cells #[.slice ca cs.length cc, .slice wa ws.length wcp, .slice ia P.length ic] 29) (.cells #[.slice ca2 cs2.length cc2, .slice wa2 ws2.length wc2, .slice ia2 is.length ic2] 31) (.cells #[.slice none 0 0, .slice none 0 0, .slice none 0 0] 31) := ⟨_, Boxes3.mk' _ _ _ _⟩
  obtain ⟨p0, p1, p2⟩ := cells3 hW.b0
  obtain ⟨q0, q1, q2⟩ := cells3 hW.b1
  have HA := Lib.hid (ha.ext hW.ext); have HS := Lib.hid (hs.ext hW.ext); have HT := Lib.hid (hT.ext hW.ext); have B3 := Lib.hid (b3.ext hW.ext)
  have HW := Lib.hid hW
  clear ha hs hT a1 a2 a3 b1 b2 b3 hW
  go_enter Tryz.func19, Tryz.ntmps19
  go_upto_region 1 with fail
  rw [← HW.out.eq]
  go_wp2_with fail
  refine (applies_any cs ws P cs2 ws2 is _ _ _ HA.out HS.out HT.out).mono ?_
  rintro r w1 ⟨rfl, x1⟩
  have hcall : ∀ f, f = .func (.func 62) #[] #[.pointer (some ⟨w.heap.size, 0, none⟩), .pointer (some ⟨w.heap.size + 1, 0, none⟩)] → Calls Tryz.prog 60 #[.bool (appliesB cs ws P cs2 ws2 is), f] w1 (OpPost (appliesB cs ws P cs2 ws2 is) cs2 ws2 (castL (inWord (imageW (rowsL (natP P)) (natL is)))) w1) := by
    rintro f rfl
    cases hap : appliesB cs ws P cs2 ws2 is with
    | false => exact checkedS_no _ _
    | true =>
      obtain ⟨e1, e2, e3, e4, e5, e6⟩ := applies_parts hap
      have hsh := small_sum e6.small
      have hV : Vars W w.heap.size (w.heap.size + 1) cs ws (natP P) cs2 ws2 (natL is) ca wa ia cc wcp ic ca2 wa2 ia2 cc2 wc2 ic2 :=
        ⟨by rw [natP_len]; exact HW.out.b0, by rw [natL_len]; exact HW.out.b1, by rw [natP_len, e3]; exact HA.out, by rw [natL_len, e5]; exact HS.out, by rw [natL_len, e5]; exact B3.out, e4.lt64,
          fun x hx => by have h1 := e6.lt x hx; have h2 := e4.pw64; rw [e2] at h2; omega, by have := (shape_iff.1 hsh.1).1; have := hsh.2.1.1; omega, by have := hsh.2.1.1; omega⟩
      exact checkedS_yes _ _ _ _ _ _ ⟨Image_cf, fun w' hx' => Image1_any w' _ _ cs ws (natP P) cs2 ws2 (natL is) ca wa ia cc wcp ic ca2 wa2 ia2 cc2 wc2 ic2 (hV.ext (x1.trans hx'))⟩
  have HC := Lib.hid hcall; have X1 := Lib.hid x1
  clear hcall x1
  generalize appliesB cs ws P cs2 ws2 is = ok at *
  generalize castL (inWord (imageW (rowsL (natP P)) (natL is))) = I at *
  go_wp2_with fail
  refine (HC.out _ rfl).mono ?_
  intro r w2 h2
  obtain ⟨e, C', D', I', ⟨v, rfl, hv, x2⟩, hback⟩ := h2.res
  obtain ⟨sa, sb, sc, sd, se, sf, rfl⟩ := hv.shape
  clear h2
  have hR := (X1.out.trans x2).block (w.heap.size + 2) (by have := HW.out.size; omega)
  rw [HW.out.b2] at hR
  obtain ⟨z0, z1, z2, f0, f1, f2⟩ := block3 hR
  have HR := Lib.hid (put3_new (x := .slice sa C'.length sb) (y := .slice sc D'.length sd) (z := .slice se I'.length sf) hR)
  have HF : Hid (OpPost ok cs2 ws2 I w (.returned (.tuple #[.agg #[.slice sa C'.length sb, .slice sc D'.length sd, .slice se I'.length sf], .int .i64 e])) (put3 w2 (w.heap.size + 2) (.slice sa C'.length sb) (.slice sc D'.length sd) (.slice se I'.length sf))) := by
    have hz := HW.out.size
    have hz1 := X1.out.size
    exact hback _ _ _ ⟨_, rfl, (hv.put3 (by omega) _ _ _).mono (by omega), (HW.out.ext.trans (X1.out.trans x2)).put3 (by omega) _ _ _⟩
  clear hR hback hv x2
  go_wp2_with fail
  exact bodyPost_ret (v := .tuple #[.agg #[.slice sa C'.length sb, .slice sc D'.length sd, .slice se I'.length sf], .int .i64 e]) (results_row_tmp Tryz.results19 _ _ (w.heap.size + 2) 31 _ (0, 0) _ rfl HR.out Tryz.underlying31 rfl sizeSet) rfl HF.out

theorem Inside_cf (args : Array Value) (w : World) : (callFunc 67 args).run Tryz.prog w = .ok (.enter 67 args) w := by go_simp
set_option maxRecDepth 100000 in
set_option maxHeartbeats 2000000 in
theorem Inside_any (cs ws : List Int) (P : List (Int × Int)) (cs2 ws2 is : List Int) (va vs : Value) (w : World) (ha : RelV w va cs ws P) (hs : SetV w vs cs2 ws2 is) (hT : DeB w) :
    Calls Tryz.prog 21 #[va, vs] w (OpPost (appliesB cs ws P cs2 ws2 is) cs2 ws2 (castL (inWord (insideW (rowsL (natP P)) (natL is)))) w) := by
  obtain ⟨ca, cc, wa, wcp, ia, ic, rfl, a1, a2, a3⟩ := ha.shape
  obtain ⟨ca2, cc2, wa2, wc2, ia2, ic2, rfl, b1, b2, b3⟩ := hs.shape
  obtain ⟨W, hW⟩ : ∃ W, Boxes3 w W (.cells #[.slice ca cs.length cc, .slice wa ws.length wcp, .slice ia P.length ic] 29) (.cells #[.slice ca2 cs2.length cc2, .slice wa2 ws2.length wc2, .slice ia2 is.length ic2] 31) (.cells #[.slice none 0 0, .slice none 0 0, .slice none 0 0] 31) := ⟨_, Boxes3.mk' _ _ _ _⟩
  obtain ⟨p0, p1, p2⟩ := cells3 hW.b0
  obtain ⟨q0, q1, q2⟩ := cells3 hW.b1
  have HA := Lib.hid (ha.ext hW.ext); have HS := Lib.hid (hs.ext hW.ext); have HT := Lib.hid (hT.ext hW.ext); have B3 := Lib.hid (b3.ext hW.ext)
  have HW := Lib.hid hW
  clear ha hs hT a1 a2 a3 b1 b2 b3 hW
  go_enter Tryz.func21, Tryz.ntmps21
  go_upto_region 1 with fail
  rw [← HW.out.eq]
  go_wp2_with fail
  refine (applies_any cs ws P cs2 ws2 is _ _ _ HA.out HS.out HT.out).mono ?_
  rintro r w1 ⟨rfl, x1⟩
  have hcall : ∀ f, f = .func (.func 67) #[] #[.pointer (some ⟨w.heap.size, 0, none⟩), .pointer (some ⟨w.heap.size + 1, 0, none⟩)] → Calls Tryz.prog 60 #[.bool (appliesB cs ws P cs2 ws2 is), f] w1 (OpPost (appliesB cs ws P cs2 ws2 is) cs2 ws2 (castL (inWord (insideW (rowsL (natP P)) (natL is)))) w1) := by
    rintro f rfl
    cases hap : appliesB cs ws P cs2 ws2 is with
    | false => exact checkedS_no _ _
    | true =>
      obtain ⟨e1, e2, e3, e4, e5, e6⟩ := applies_parts hap
      have hsh := small_sum e6.small
      have hV : Vars W w.heap.size (w.heap.size + 1) cs ws (natP P) cs2 ws2 (natL is) ca wa ia cc wcp ic ca2 wa2 ia2 cc2 wc2 ic2 :=
        ⟨by rw [natP_len]; exact HW.out.b0, by rw [natL_len]; exact HW.out.b1, by rw [natP_len, e3]; exact HA.out, by rw [natL_len, e5]; exact HS.out, by rw [natL_len, e5]; exact B3.out, e4.lt64,
          fun x hx => by have h1 := e6.lt x hx; have h2 := e4.pw64; rw [e2] at h2; omega, by have := (shape_iff.1 hsh.1).1; have := hsh.2.1.1; omega, by have := hsh.2.1.1; omega⟩
      exact checkedS_yes _ _ _ _ _ _ ⟨Inside_cf, fun w' hx' => Inside1_any w' _ _ cs ws (natP P) cs2 ws2 (natL is) ca wa ia cc wcp ic ca2 wa2 ia2 cc2 wc2 ic2 (hV.ext (x1.trans hx'))⟩
  have HC := Lib.hid hcall; have X1 := Lib.hid x1
  clear hcall x1
  generalize appliesB cs ws P cs2 ws2 is = ok at *
  generalize castL (inWord (insideW (rowsL (natP P)) (natL is))) = I at *
  go_wp2_with fail
  refine (HC.out _ rfl).mono ?_
  intro r w2 h2
  obtain ⟨e, C', D', I', ⟨v, rfl, hv, x2⟩, hback⟩ := h2.res
  obtain ⟨sa, sb, sc, sd, se, sf, rfl⟩ := hv.shape
  clear h2
  have hR := (X1.out.trans x2).block (w.heap.size + 2) (by have := HW.out.size; omega)
  rw [HW.out.b2] at hR
  obtain ⟨z0, z1, z2, f0, f1, f2⟩ := block3 hR
  have HR := Lib.hid (put3_new (x := .slice sa C'.length sb) (y := .slice sc D'.length sd) (z := .slice se I'.length sf) hR)
  have HF : Hid (OpPost ok cs2 ws2 I w (.returned (.tuple #[.agg #[.slice sa C'.length sb, .slice sc D'.length sd, .slice se I'.length sf], .int .i64 e])) (put3 w2 (w.heap.size + 2) (.slice sa C'.length sb) (.slice sc D'.length sd) (.slice se I'.length sf))) := by
    have hz := HW.out.size
    have hz1 := X1.out.size
    exact hback _ _ _ ⟨_, rfl, (hv.put3 (by omega) _ _ _).mono (by omega), (HW.out.ext.trans (X1.out.trans x2)).put3 (by omega) _ _ _⟩
  clear hR hback hv x2
  go_wp2_with fail
  exact bodyPost_ret (v := .tuple #[.agg #[.slice sa C'.length sb, .slice sc D'.length sd, .slice se I'.length sf], .int .i64 e]) (results_row_tmp Tryz.results21 _ _ (w.heap.size + 2) 31 _ (0, 0) _ rfl HR.out Tryz.underlying31 rfl sizeSet) rfl HF.out

end Go.Proofs.YtlnahhlddekhoaaGreatDoor
namespace Go.Proofs.YtlnahhlddekhoaaGreatDoor
open Go.RowKit Go.Shelf
attribute [local go_sem] Oper.semAt_some

/-- The pairs of the first rows, and of the next row a part. -/
def pairsTo (M : List Nat) (i : Nat) : List (Nat × Nat) := (List.range i).flatMap fun x => (inWord (rowM M x)).map fun y => (x, y)
def rowTo (M : List Nat) (i j : Nat) : List (Nat × Nat) := (inTo (rowM M i) j).map fun y => (i, y)
theorem pairsTo_succ (M : List Nat) (i : Nat) : pairsTo M (i + 1) = pairsTo M i ++ rowTo M i 64 := by
  unfold pairsTo rowTo; rw [List.range_succ, List.flatMap_append]; simp; rfl
theorem rowTo_hit {M : List Nat} {i j : Nat} (h : (rowM M i).testBit j = true) : rowTo M i (j + 1) = rowTo M i j ++ [(i, j)] := by
  unfold rowTo; rw [inTo_succ, if_pos h]; simp
theorem rowTo_miss {M : List Nat} {i j : Nat} (h : (rowM M i).testBit j = false) : rowTo M i (j + 1) = rowTo M i j := by
  unfold rowTo; rw [inTo_succ, h]; rfl
theorem inTo_prefix (x : Nat) {j k : Nat} (h : j ≤ k) : inTo x j <+: inTo x k := by
  induction k with
  | zero => obtain rfl : j = 0 := by omega
            exact List.prefix_refl _
  | succ k ih =>
    rcases Nat.lt_or_ge j (k + 1) with c | c
    · rw [inTo_succ]
      split
      · exact (ih (by omega)).trans (List.prefix_append _ _)
      · exact ih (by omega)
    · obtain rfl : j = k + 1 := by omega
      exact List.prefix_refl _
theorem rowTo_prefix (M : List Nat) (i : Nat) {j k : Nat} (h : j ≤ k) : rowTo M i j <+: rowTo M i k := by
  unfold rowTo
  obtain ⟨t, ht⟩ := inTo_prefix (rowM M i) h
  exact ⟨t.map fun y => (i, y), by rw [← ht]; simp⟩
theorem pairsTo_prefix (M : List Nat) {i k : Nat} (h : i ≤ k) : pairsTo M i <+: pairsTo M k := by
  induction k with
  | zero => obtain rfl : i = 0 := by omega
            exact List.prefix_refl _
  | succ k ih =>
    rcases Nat.lt_or_ge i (k + 1) with c | c
    · rw [pairsTo_succ]
      exact (ih (by omega)).trans (List.prefix_append _ _)
    · obtain rfl : i = k + 1 := by omega
      exact List.prefix_refl _
theorem part_prefix (M : List Nat) {i j : Nat} (hi : i < 64) (hj : j ≤ 64) : pairsTo M i ++ rowTo M i j <+: pairsM M := by
  have h1 : pairsTo M i ++ rowTo M i j <+: pairsTo M (i + 1) := by
    rw [pairsTo_succ]
    obtain ⟨t, ht⟩ := rowTo_prefix M i hj
    exact ⟨t, by rw [← ht]; simp⟩
  exact h1.trans (pairsTo_prefix M (k := 64) (by omega))

set_option maxRecDepth 100000 in
set_option maxHeartbeats 2000000 in
theorem pairs1_in (n : Nat) (hn : 1 ≤ n) (l Bn n₀ g : Nat) (M : List Nat) (J Jx : List (Nat × Nat) → World → Prop)
    (hY : ∀ pre x W, (x : Nat × Nat).1 < 64 → x.2 < 64 → J pre W → pre.length < (pairsM M).length → YieldAt Fence.wide (n - 1) Tryz.prog l #[.int .i64 x.1, .int .i64 x.2] W fun e W' =>
      (e = .returned (.bool true) ∧ J (pre ++ [x]) W' ∧ Below n₀ W W') ∨ (e = .returned (.bool false) ∧ Jx (pre ++ [x]) W'))
    (hJ : ∀ s W k, J s W → J s (World.drewN W k)) (W : World) (hBn : W.cell? ⟨Bn, 0, none⟩ = some (.pointer (some ⟨g, 0, none⟩))) (hM : WordsAt 67 W g M) (hg : g < n₀) (h0 : J [] W) :
    CallsIn Fence.wide n Tryz.prog 93 #[.func (.yield l) #[] #[], .pointer (some ⟨Bn, 0, none⟩)] W fun e W' => (∃ v, e = .returned v) ∧
      ((∃ ys, ys = pairsM M ∧ J ys W') ∨ (∃ pre, pre <+: pairsM M ∧ Jx pre W')) := by
  have HM := Lib.hid hM; have HY := Lib.hid hY; have H0 := Lib.hid h0; have HD := Lib.hid hJ
  clear hM hY h0 hJ
  refine callsIn_of_wp Tryz.func93 rfl trivial ?_ rfl
  simp only [Tryz.ntmps93, List.size_toArray, List.length_cons, List.length_nil, Nat.reduceAdd, Nat.reduceSub, Array.replicate_succ, Array.replicate_zero, List.push_toArray, List.append_toArray, List.nil_append, List.cons_append]
  gi_wp2
  gi_loopw [7] (fun p wr => ∃ i : Nat, i ≤ 64 ∧ p = .int .i64 i ∧ Below n₀ W wr ∧ J (pairsTo M i) wr) (fun p _ => 64 - (intOf p).toNat)
  case atStart => exact ⟨0, Nat.zero_le _, rfl, Below.refl _ _, H0.out⟩
  case round =>
    obtain ⟨i, hi, rfl, hB, hJ⟩ := hrel
    have HB := Lib.hid hB; have HJ := Lib.hid hJ; clear hB hJ
    by_cases hlt : i < 64
    · have g0 : wr.cell? ⟨g, i, none⟩ = some (.int .u64 (rowM M i)) := (HB.out.cell (p := ⟨g, i, none⟩) hg).trans (HM.out.cell hlt)
      have HLT := Lib.hid (HM.out.lt i)
      have HS := Lib.hid (pairsTo_succ M i)
      have i0 : (0 : Int) ≤ (i : Int) := by omega
      have i1 : (i : Int) < 64 := by omega
      gi_wp2
      gi_quiet (fail)
      gi_wp2
      have B0 : Hid (Below n₀ W (wr.drewN nq)) := ⟨HB.out.os, HB.out.tape, HB.out.output, HB.out.size, HB.out.block⟩
      have J0 := Lib.hid (HD.out _ _ nq HJ.out)
      clear g0
      have HX64 := Lib.hid (bit_test HLT.out)
      have hhit : Hid (∀ j, (rowM M i).testBit j = true → rowTo M i (j + 1) = rowTo M i j ++ [(i, j)]) := fun j h => rowTo_hit h
      have hmiss : Hid (∀ j, (rowM M i).testBit j = false → rowTo M i (j + 1) = rowTo M i j) := fun j h => rowTo_miss h
      generalize rowM M i = x at *
      generalize wr.drewN nq = wo at *
      have J00 : Hid (J (pairsTo M i ++ rowTo M i 0) wo) := by
        unfold Hid
        have : rowTo M i 0 = [] := rfl
        rw [this, List.append_nil]; exact J0.out
      gi_loopw [13] (fun p wi => ∃ j : Nat, j ≤ 64 ∧ p = .int .i64 j ∧ Below n₀ W wi ∧ J (pairsTo M i ++ rowTo M i j) wi) (fun p _ => 64 - (intOf p).toNat)
      case atStart => exact ⟨0, Nat.zero_le _, rfl, B0.out, J00.out⟩
      case round =>
        obtain ⟨j, hj, rfl, hB, hJ⟩ := hrel
        have HB1 := Lib.hid hB; have HJ1 := Lib.hid hJ; clear hB hJ
        by_cases hlj : j < 64
        · have hbt := HX64.out j
          have j0 : (0 : Int) ≤ (j : Int) := by omega
          have j1 : (j : Int) < 64 := by omega
          cases hc : x.testBit j with
          | true =>
            rw [hc] at hbt
            have HS1 := Lib.hid (hhit.out j hc)
            have hpl : (pairsTo M i ++ rowTo M i j).length < (pairsM M).length := by
              have h1 := (part_prefix M hlt (j := j + 1) (by omega)).length_le
              rw [HS1.out] at h1
              simp at h1 ⊢; omega
            have HPX := Lib.hid (part_prefix M hlt (j := j + 1) (by omega))
            rw [HS1.out, ← List.append_assoc] at HPX
            obtain ⟨fn, tmps, assign, body, hy, hR⟩ := HY.out _ (i, j) _ hlt hlj HJ1.out hpl
            dsimp only at hy
            have HR := Lib.hid hR
            clear hpl hR hc
            gi_wp2
            refine HR.out.mono ?_
            rintro e W3 (⟨rfl, hJ3, hk3⟩ | ⟨rfl, hJx3⟩)
            · have HJ3 := Lib.hid hJ3; have HK3 := Lib.hid (HB1.out.trans hk3)
              clear hJ3 hk3 hy
              gi_wp2
              go_roundw
              case rel => exact ⟨j + 1, by omega, by go_num, HK3.out, by rw [HS1.out, ← List.append_assoc]; exact HJ3.out⟩
              case measure => simp [intOf]; omega
            · have HJx3 := Lib.hid hJx3
              clear hJx3 hy
              gi_wp2
              refine bodyPost_ret (results_none rfl _ _ _) rfl ?_
              exact ⟨⟨_, rfl⟩, .inr ⟨_, HPX.out, HJx3.out⟩⟩
          | false =>
            rw [hc] at hbt
            have HS1 := Lib.hid (hmiss.out j hc)
            clear hc
            gi_wp2
            refine ⟨fun _ h => (by cases h), ?_⟩
            gi_wp2
            go_roundw
            case rel => exact ⟨j + 1, by omega, by go_num, HB1.out, by rw [HS1.out]; exact HJ1.out⟩
            case measure => simp [intOf]; omega
        · obtain rfl : j = 64 := by omega
          have hj2 := HJ1.out
          rw [← HS.out] at hj2
          have HJ2 := Lib.hid hj2
          clear HJ1 hj2
          gi_wp2
          go_roundw
          case rel => exact ⟨i + 1, by omega, by go_num, HB1.out, HJ2.out⟩
          case measure => simp [intOf]; omega
    · obtain rfl : i = 64 := by omega
      gi_wp2
      go_end0
      exact ⟨⟨_, rfl⟩, .inl ⟨_, rfl, HJ.out⟩⟩
theorem grown_drewN (w : World) (k : Nat) : w.grownBy (w.drewN k) none := ⟨rfl, rfl, rfl, Nat.le_refl _, fun _ _ _ => rfl⟩
/-- The iterator's word. -/
theorem pairs_stops (n : Nat) (hn : 1 ≤ n) (Bn n₀ g : Nat) (M : List Nat) (w : World) (hBn : Bn < w.heap.size) (hc : w.cell? ⟨Bn, 0, none⟩ = some (.pointer (some ⟨g, 0, none⟩))) (hM : WordsAt 67 w g M) (hg : g < n₀) :
    SeqStopsK Fence.wide n Tryz.prog 93 #[.pointer (some ⟨Bn, 0, none⟩)] (fun x : Nat × Nat => #[Value.int .i64 x.1, Value.int .i64 x.2]) (Below n₀) (fun ys => ys = pairsM M) (fun pre => pre <+: pairsM M) (pairsM M).length w := fun l J Jx W hW hJ _ hY h0 =>
  pairs1_in n hn l Bn n₀ g M J Jx (fun pre x W _ _ => hY pre x W) (fun s W k hs => hJ s W _ none hs (grown_drewN W k) (fun r e => by cases e)) W ((hW.cell (p := ⟨Bn, 0, none⟩) hBn).trans hc) (hM.ext hW) hg h0
/-- A pair of numbers below 64; the iterator's word for a body that is told so much. -/
def Pt : Type := { p : Nat × Nat // p.1 < 64 ∧ p.2 < 64 }
def ptsL (l : List Pt) : List (Nat × Nat) := l.map Subtype.val
theorem ptsL_snoc (l : List Pt) (x : Pt) : ptsL (l ++ [x]) = ptsL l ++ [x.1] := by unfold ptsL; exact List.map_append
theorem ptsL_len (l : List Pt) : (ptsL l).length = l.length := by unfold ptsL; exact List.length_map _
theorem pairs_stopsP (n : Nat) (hn : 1 ≤ n) (Bn n₀ g : Nat) (M : List Nat) (w : World) (hBn : Bn < w.heap.size) (hc : w.cell? ⟨Bn, 0, none⟩ = some (.pointer (some ⟨g, 0, none⟩))) (hM : WordsAt 67 w g M) (hg : g < n₀) :
    SeqStopsK Fence.wide n Tryz.prog 93 #[.pointer (some ⟨Bn, 0, none⟩)] (fun x : Pt => #[Value.int .i64 x.1.1, Value.int .i64 x.1.2]) (Below n₀) (fun ys => ptsL ys = pairsM M) (fun pre => ptsL pre <+: pairsM M) (pairsM M).length w := fun l J Jx W hW hJ _ hY h0 => by
  have key := pairs1_in n hn l Bn n₀ g M (fun s W => ∃ s' : List Pt, ptsL s' = s ∧ J s' W) (fun s W => ∃ s' : List Pt, ptsL s' = s ∧ Jx s' W) ?_ ?_ W ((hW.cell (p := ⟨Bn, 0, none⟩) hBn).trans hc) (hM.ext hW) hg ⟨[], rfl, h0⟩
  · refine key.mono ?_
    rintro e W' ⟨hv, h⟩
    refine ⟨hv, ?_⟩
    rcases h with ⟨ys, rfl, s', hs, hj⟩ | ⟨pre, hp, s', hs, hj⟩
    · exact .inl ⟨s', hs, hj⟩
    · exact .inr ⟨s', by show ptsL s' <+: _; rw [hs]; exact hp, hj⟩
  · rintro pre x W1 h1 h2 ⟨s', rfl, hj⟩ hlen
    rw [ptsL_len] at hlen
    obtain ⟨fn, tmps, assign, body, hy, hR⟩ := hY s' ⟨x, h1, h2⟩ W1 hj hlen
    refine ⟨fn, tmps, assign, body, hy, hR.mono ?_⟩
    rintro e W' (⟨rfl, hj', hk⟩ | ⟨rfl, hj'⟩)
    · exact .inl ⟨rfl, ⟨_, ptsL_snoc _ _, hj'⟩, hk⟩
    · exact .inr ⟨rfl, ⟨_, ptsL_snoc _ _, hj'⟩⟩
  · rintro s W k ⟨s', rfl, hj⟩
    exact ⟨s', rfl, hJ s' W _ none hj (grown_drewN W k) (fun r e => by cases e)⟩
set_option maxHeartbeats 1000000 in
theorem pairs_in (n : Nat) (p0 : Option Addr) (w : World) :
    CallsIn Fence.wide n Tryz.prog 55 #[.pointer p0] w fun e w' => e = .returned (.func (.func 93) #[] #[.pointer (some ⟨w.heap.size, 0, none⟩)]) ∧ w' = w.alloc (.cells #[.pointer p0] 64) := by
  refine callsIn_of_wp Tryz.func55 rfl trivial ?_ rfl
  simp only [Tryz.ntmps55, List.size_toArray, List.length_cons, List.length_nil, Nat.reduceAdd, Nat.reduceSub, Array.replicate_succ, Array.replicate_zero, List.push_toArray, List.append_toArray, List.nil_append, List.cons_append]
  gi_wp2
  go_ret
  exact ⟨rfl, rfl⟩
end Go.Proofs.YtlnahhlddekhoaaGreatDoor
namespace Go.Proofs.YtlnahhlddekhoaaGreatDoor
open Go.RowKit Go.Shelf
attribute [local go_sem] Oper.semAt_some

theorem infoPair : (Tryz.prog.info? 52).map (fun i => (i.zero, i.size, i.bytes)) = some (some (.agg #[.int .i64 0, .int .i64 0]), 2, 16) := by kernel_rfl
def flatP (P : List (Int × Int)) : List Value := P.flatMap fun p => [.int .i64 p.1, .int .i64 p.2]
theorem flatP_len (P : List (Int × Int)) : (flatP P).length = P.length * 2 := by
  induction P with
  | nil => rfl
  | cons a r ih => simp only [flatP, List.flatMap_cons, List.length_append, List.length_cons] at *; rw [ih]; simp; omega
theorem flatP_get (P : List (Int × Int)) (i : Nat) (h : i < P.length) : (flatP P)[i * 2]? = some (.int .i64 P[i].1) ∧ (flatP P)[i * 2 + 1]? = some (.int .i64 P[i].2) := by
  induction P generalizing i with
  | nil => simp at h
  | cons a r ih =>
    cases i with
    | zero => exact ⟨rfl, rfl⟩
    | succ i =>
      have := ih i (by simpa using h)
      have e1 : (i + 1) * 2 = i * 2 + 2 := by omega
      have e2 : i * 2 + 2 + 1 = i * 2 + 1 + 2 := by omega
      rw [e1, e2]
      simpa [flatP, List.flatMap_cons] using this
theorem flatP_snoc (P : List (Int × Int)) (p : Int × Int) : flatP (P ++ [p]) = flatP P ++ [.int .i64 p.1, .int .i64 p.2] := by simp [flatP]
def OwnPairs (w : World) (base : Nat) (v : Value) (P : List (Int × Int)) : Prop := w.ownsRow base 52 2 v P.length (flatP P)
theorem OwnPairs.nil (w : World) (base : Nat) : OwnPairs w base (.slice none 0 0) [] := ⟨rfl, .inl ⟨rfl, rfl⟩⟩
theorem OwnPairs.pairs {w : World} {base : Nat} {v : Value} {P : List (Int × Int)} (h : OwnPairs w base v P) : Pairs w v P := by
  obtain ⟨_, h2⟩ := h
  rcases h2 with ⟨rfl, hl⟩ | ⟨g, cap, cur, rfl, _, hh, hn, hc, hs, ht⟩
  · exact .inl ⟨⟨_, _, rfl⟩, List.length_eq_zero_iff.1 hl⟩
  · refine .inr ⟨g, 0, cap, rfl, by unfold maxLen at hc; omega, fun i hi => ?_⟩
    have e : ∀ j, j < P.length * 2 → cur[j]? = (flatP P)[j]? := fun j hj => by
      have := congrArg (fun x => x[j]?) ht
      simp only [List.getElem?_take, if_pos hj] at this
      simpa using this
    have hf := flatP_get P i hi
    refine ⟨?_, ?_⟩
    · simp only [World.cell?, hh, Nat.zero_add]; rw [e (i * 2) (by omega)]; exact hf.1
    · simp only [World.cell?, hh, Nat.zero_add]; rw [e (i * 2 + 1) (by omega)]; exact hf.2
theorem OwnPairs.base {w : World} {base : Nat} {v : Value} {l : List (Int × Int)} (h : OwnPairs w base v l) (k : Nat) (hk : v.ownBlock = some k) : base ≤ k := by
  rcases h.2 with ⟨rfl, _⟩ | ⟨g, cap, cur, rfl, hg, _⟩
  · cases hk
  · simp [Value.ownBlock] at hk; omega
/-- Kept where its block lies as it lay. -/
theorem OwnPairs.keep {w w' : World} {base : Nat} {v : Value} {l : List (Int × Int)} (h : OwnPairs w base v l) (hk : ∀ k, v.ownBlock = some k → w'.heap[k]? = w.heap[k]?) : OwnPairs w' base v l := by
  obtain ⟨h1, h2⟩ := h
  refine ⟨h1, ?_⟩
  rcases h2 with h2 | ⟨g, cap, cur, hv, hg, hh, r⟩
  · exact .inl h2
  · exact .inr ⟨g, cap, cur, hv, hg, by rw [hk g (by rw [hv]; rfl)]; exact hh, r⟩
theorem OwnInts.keep {w w' : World} {base : Nat} {v : Value} {l : List Int} (h : OwnInts w base v l) (hk : ∀ k, v.ownBlock = some k → w'.heap[k]? = w.heap[k]?) : OwnInts w' base v l := by
  obtain ⟨h1, h2⟩ := h
  refine ⟨h1, ?_⟩
  rcases h2 with h2 | ⟨g, cap, cur, hv, hg, hh, r⟩
  · exact .inl h2
  · exact .inr ⟨g, cap, cur, hv, hg, by rw [hk g (by rw [hv]; rfl)]; exact hh, r⟩
theorem OwnPairs.isCells {w : World} {base : Nat} {v : Value} {l : List (Int × Int)} (h : OwnPairs w base v l) (k : Nat) (hk : v.ownBlock = some k) : ∃ o : Obj, w.heap[k]? = some o ∧ o.isCells = true := by
  rcases h.2 with ⟨rfl, _⟩ | ⟨g, cap, cur, rfl, hg, hh, _⟩
  · cases hk
  · cases hk; exact ⟨_, hh, rfl⟩
theorem OwnInts.isCells {w : World} {base : Nat} {v : Value} {l : List Int} (h : OwnInts w base v l) (k : Nat) (hk : v.ownBlock = some k) : ∃ o : Obj, w.heap[k]? = some o ∧ o.isCells = true := by
  rcases h.2 with ⟨rfl, _⟩ | ⟨g, cap, cur, rfl, hg, hh, _⟩
  · cases hk
  · cases hk; exact ⟨_, hh, rfl⟩
theorem OwnPairs.mono {w : World} {base base' : Nat} {v : Value} {l : List (Int × Int)} (h : OwnPairs w base v l) (hb : base' ≤ base) : OwnPairs w base' v l := by
  obtain ⟨h1, h2⟩ := h
  refine ⟨h1, ?_⟩
  rcases h2 with h2 | ⟨g, cap, cur, hv, hg, r⟩
  · exact .inl h2
  · exact .inr ⟨g, cap, cur, hv, by omega, r⟩
theorem ownP_lt {w : World} {base : Nat} {v : Value} {l : List (Int × Int)} (h : OwnPairs w base v l) (k : Nat) (hk : v.ownBlock = some k) : k < w.heap.size := by
  obtain ⟨o, ho, _⟩ := h.isCells k hk; exact lt_heap ho
/-- A relation of the call's own. -/
def RelO (w : World) (base : Nat) (v : Value) (cs ws : List Int) (P : List (Int × Int)) : Prop := ∃ vc vw vi, v = .agg #[vc, vw, vi] ∧ OwnInts w base vc cs ∧ OwnInts w base vw ws ∧ OwnPairs w base vi P
theorem RelO.relV {w : World} {base : Nat} {v : Value} {cs ws : List Int} {P : List (Int × Int)} (h : RelO w base v cs ws P) : RelV w v cs ws P := by
  obtain ⟨a, b, c, h0, h1, h2, h3⟩ := h; exact ⟨a, b, c, h0, h1.ints, h2.ints, h3.pairs⟩
theorem RelO.kept {w w' : World} {base : Nat} {v : Value} {cs ws : List Int} {P : List (Int × Int)} (h : RelO w base v cs ws P) (hx : Ext w w') : RelO w' base v cs ws P := by
  obtain ⟨a, b, c, h0, h1, h2, h3⟩ := h; exact ⟨a, b, c, h0, h1.kept hx, h2.kept hx, h3.keep fun k hk => hx.block k (ownP_lt h3 k hk)⟩
theorem RelO.mono {w : World} {base base' : Nat} {v : Value} {cs ws : List Int} {P : List (Int × Int)} (h : RelO w base v cs ws P) (hb : base' ≤ base) : RelO w base' v cs ws P := by
  obtain ⟨a, b, c, h0, h1, h2, h3⟩ := h; exact ⟨a, b, c, h0, h1.mono hb, h2.mono hb, h3.mono hb⟩
theorem OwnPairs.put3 {w : World} {base : Nat} {v : Value} {l : List (Int × Int)} (h : OwnPairs w base v l) {b : Nat} (hb : b < base) (x y z : Value) : OwnPairs (Proofs.YtlnahhlddekhoaaGreatDoor.put3 w b x y z) base v l :=
  h.keep fun k hk => put3_other k (by have := h.base k hk; omega)
theorem RelO.put3 {w : World} {base : Nat} {v : Value} {cs ws : List Int} {P : List (Int × Int)} (h : RelO w base v cs ws P) {g : Nat} (hb : g < base) (x y z : Value) : RelO (Proofs.YtlnahhlddekhoaaGreatDoor.put3 w g x y z) base v cs ws P := by
  obtain ⟨a, b, c, h0, h1, h2, h3⟩ := h; exact ⟨a, b, c, h0, h1.put3 hb _ _ _, h2.put3 hb _ _ _, h3.put3 hb _ _ _⟩
theorem RelO.nil (w : World) (base : Nat) : RelO w base (.agg #[.slice none 0 0, .slice none 0 0, .slice none 0 0]) [] [] [] := ⟨_, _, _, rfl, OwnInts.nil _ _, OwnInts.nil _ _, OwnPairs.nil _ _⟩
theorem RelO.shape {w : World} {base : Nat} {v : Value} {cs ws : List Int} {P : List (Int × Int)} (h : RelO w base v cs ws P) : ∃ ca cc wa wc ia ic, v = .agg #[.slice ca cs.length cc, .slice wa ws.length wc, .slice ia P.length ic] := by
  obtain ⟨ca, cc, wa, wc, ia, ic, e, _⟩ := h.relV.shape; exact ⟨ca, cc, wa, wc, ia, ic, e⟩

/-- A variable with a relation whose list is being filled. -/
structure RelVar (w : World) (R : Nat) (vc vw : Value) (cs ws : List Int) (P : List (Int × Int)) (base : Nat) (W : World) : Prop where
  heap : ∃ a c, W.heap[R]? = some (.cells #[vc, vw, .slice a P.length c] 29 (0, 0)) ∧ OwnPairs W base (.slice a P.length c) P
  ext : Ext w W
  oc : OwnInts W (w.heap.size + 1) vc cs
  ow : OwnInts W (w.heap.size + 1) vw ws
  nc : ∀ k, vc.ownBlock = some k → k < base ∧ k ≠ R
  nw : ∀ k, vw.ownBlock = some k → k < base ∧ k ≠ R
  lb : w.heap.size < R
  lR : R < base
  lw : base ≤ W.heap.size
  res : W.heap[w.heap.size]? = some (.cells #[.slice none 0 0, .slice none 0 0, .slice none 0 0] 29 (0, 0))

theorem grown_other {W W' : World} {row : Option Nat} (hg : W.grownBy W' row) (hr : ∀ r, row = some r → ∃ o : Obj, W.heap[r]? = some o ∧ o.isCells = false) (k : Nat) (o : Obj) (hk : W.heap[k]? = some o) (ho : o.isCells = true) : W'.heap[k]? = W.heap[k]? :=
  hg.block k (lt_heap hk) fun e => by
    obtain ⟨o', h1, h2⟩ := hr k e.symm
    rw [hk] at h1; cases h1; rw [ho] at h2; cases h2
theorem RelVar.own {w : World} {R : Nat} {vc vw : Value} {cs ws : List Int} {base B : Nat} (hB : w.heap.size ≤ B) : OwnFrom B (fun (pre : List (Nat × Nat)) W => RelVar w R vc vw cs ws (castP pre) base W) := by
  intro s W W' row h hg hr
  have hr' : ∀ r, row = some r → ∃ o : Obj, W.heap[r]? = some o ∧ o.isCells = false := fun r e => (hr r e).2
  obtain ⟨a, c, h1, h2⟩ := h.heap
  refine ⟨⟨a, c, (grown_other hg hr' R _ h1 rfl).trans h1, h2.keep fun k hk => ?_⟩, h.ext.grown hg fun k e => Nat.le_trans hB (hr k e).1, h.oc.keep fun k hk => ?_, h.ow.keep fun k hk => ?_, h.nc, h.nw, h.lb, h.lR, Nat.le_trans h.lw hg.size, (grown_other hg hr' _ _ h.res rfl).trans h.res⟩
  · obtain ⟨o, ho, hoc⟩ := h2.isCells k hk; exact grown_other hg hr' k o ho hoc
  · obtain ⟨o, ho, hoc⟩ := h.oc.isCells k hk; exact grown_other hg hr' k o ho hoc
  · obtain ⟨o, ho, hoc⟩ := h.ow.isCells k hk; exact grown_other hg hr' k o ho hoc
/-- One pair more. -/
theorem RelVar.step {w : World} {R : Nat} {vc vw : Value} {cs ws : List Int} {P : List (Int × Int)} {base : Nat} {W W' : World} (h : RelVar w R vc vw cs ws P base W) {a a' : Option Addr} {c c' : Nat} (p : Int × Int) (ho : OwnPairs W base (.slice a P.length c) P) (hh : W.heap[R]? = some (.cells #[vc, vw, .slice a P.length c] 29 (0, 0)))
    (hg : W.grownBy W' (Value.slice a P.length c).ownBlock) (ho' : OwnPairs W' base (.slice a' (P.length + 1) c') (P ++ [p])) : RelVar w R vc vw cs ws (P ++ [p]) base (W'.setCell ⟨R, 2, none⟩ (.slice a' (P.length + 1) c')) := by
  have hb : ∀ q, q < base → W'.heap[q]? = W.heap[q]? := fun q hq => hg.block q (by have := h.lw; omega) fun e => by have := ho.base q e.symm; omega
  have hR' : W'.heap[R]? = some (.cells #[vc, vw, .slice a P.length c] 29 (0, 0)) := (hb R h.lR).trans hh
  have hoth : ∀ q, q ≠ R → (W'.setCell ⟨R, 2, none⟩ (.slice a' (P.length + 1) c')).heap[q]? = W'.heap[q]? := fun q hq => heap_setCell_other _ _ _ _ hq
  have e1 : (P ++ [p]).length = P.length + 1 := by simp
  refine ⟨⟨a', c', ?_, ?_⟩, ?_, h.oc.keep fun k hk => ?_, h.ow.keep fun k hk => ?_, h.nc, h.nw, h.lb, h.lR, ?_, ?_⟩
  · rw [e1]; exact heap_setCell_same W' R 2 _ _ _ hR'
  · rw [e1]; exact ho'.keep fun k hk => hoth k (by have := ho'.base k hk; have := h.lR; omega)
  · exact (h.ext.grown hg fun k e => by have := ho.base k e; have := h.lR; have := h.lb; omega).setCell (p := ⟨R, 2, none⟩) (Nat.le_of_lt h.lb) _
  · rw [hoth k (h.nc k hk).2, hb k (h.nc k hk).1]
  · rw [hoth k (h.nw k hk).2, hb k (h.nw k hk).1]
  · have := h.lw; have := hg.size
    rw [show (W'.setCell ⟨R, 2, none⟩ (.slice a' (P.length + 1) c')).heap.size = W'.heap.size by simp [World.setCell]]; omega
  · rw [hoth _ (Nat.ne_of_lt h.lb), hb _ (by have := h.lb; have := h.lR; omega)]; exact h.res

theorem cells_two_new (w : World) (x y : Value) (t : TypeId) : ∀ j u, [x, y][j]? = some u → (w.alloc (.cells #[x, y] t)).cell? ((⟨w.heap.size, 0, none⟩ : Addr).add j) = some u := by
  intro j u hj
  have hh : (w.alloc (.cells #[x, y] t)).heap[w.heap.size]? = some (.cells #[x, y] t (0, 0)) := heap_new _ _
  have hadd : (⟨w.heap.size, 0, none⟩ : Addr).add j = ⟨w.heap.size, j, none⟩ := by unfold Addr.add; split <;> simp_all
  rw [hadd, cell_of_row _ _ _ _ _ _ hh]
  simpa using hj
theorem grown_alloc {W W' : World} {o : Obj} {row : Option Nat} (h : (W.alloc o).grownBy W' row) : W.grownBy W' row :=
  ⟨h.os, h.tape, h.output, by have := h.size; simp at this; omega, fun k hk hne => (h.block k (by simp; omega) hne).trans (Below.heap_alloc W _ k hk)⟩

set_option maxRecDepth 100000 in
set_option maxHeartbeats 2000000 in
theorem relation_any (cs ws : List Int) (M : List Nat) (g : Nat) (vc vw : Value) (w : World) (hc : Ints w vc cs) (hw : Ints w vw ws) (hM : WordsAt 67 w g M) (lc : cs.length ≤ 1000000000) (lw : ws.length ≤ 1000000000) :
    Calls Tryz.prog 39 #[vc, vw, .pointer (some ⟨g, 0, none⟩)] w fun r w' => ∃ v', r = .returned v' ∧ RelO w' w.heap.size v' cs ws (castP (pairsM M)) ∧ Ext w w' := by
  obtain ⟨ca, cc, rfl⟩ := hc.shape
  obtain ⟨wa, wcp, rfl⟩ := hw.shape
  obtain ⟨i0, hi, hz0, hz1, hz2⟩ := info_parts infoPair
  have hx : Ext w (w.alloc (.cells #[.slice none 0 0, .slice none 0 0, .slice none 0 0] 29)) := (Ext.refl w).alloc _
  have HC := Lib.hid (hc.ext hx); have HWd := Lib.hid (hw.ext hx); have HM := Lib.hid hM; have LC := Lib.hid lc; have LW := Lib.hid lw; have HX := Lib.hid hx
  clear hc hw hM lc lw hx
  refine (callsIn_wide (n := 3)).1 ?_
  refine callsIn_of_wp_marks Tryz.func39 rfl trivial ?_ rfl
  simp only [Tryz.ntmps39, List.size_toArray, List.length_cons, List.length_nil, Nat.reduceAdd, Nat.reduceSub, Array.replicate_succ, Array.replicate_zero, List.push_toArray, List.append_toArray, List.nil_append, List.cons_append]
  gi_wp2
  refine ⟨trivial, (callsIn_wide.2 (Clone_any cs _ _ HC.out LC.out)).mono ?_⟩
  rintro r v1 ⟨u1, rfl, o1, x1⟩
  obtain ⟨a1, c1, rfl⟩ := o1.ints.shape
  have O1 := Lib.hid o1; have X1 := Lib.hid x1
  clear o1 x1
  gi_wp2
  refine ⟨trivial, (callsIn_wide.2 (Clone_any ws _ _ (HWd.out.ext X1.out) LW.out)).mono ?_⟩
  rintro r v2 ⟨u2, rfl, o2, x2⟩
  obtain ⟨a2, c2, rfl⟩ := o2.ints.shape
  have O2 := Lib.hid o2; have X2 := Lib.hid x2
  clear o2 x2
  gi_wp2
  obtain ⟨v3, hv3⟩ : ∃ v, v = v2.alloc (.cells #[.slice a1 cs.length c1, .slice a2 ws.length c2, .slice none 0 0] 29) := ⟨_, rfl⟩
  rw [← hv3]
  refine ⟨trivial, (pairs_in _ _ _).mono ?_⟩
  rintro r v4 ⟨rfl, hv4⟩
  have z3 : v3.heap.size = v2.heap.size + 1 := by rw [hv3]; simp
  have z4 : v4.heap.size = v3.heap.size + 1 := by rw [hv4]; simp
  have x3 : Ext v2 v3 := by rw [hv3]; exact (Ext.refl _).alloc _
  have x4 : Ext v3 v4 := by rw [hv4]; exact (Ext.refl _).alloc _
  have hR3 : v4.heap[v2.heap.size]? = some (.cells #[.slice a1 cs.length c1, .slice a2 ws.length c2, .slice none 0 0] 29 (0, 0)) := by
    rw [x4.block _ (by omega), hv3]; exact heap_new _ _
  have hBn : v4.cell? ⟨v3.heap.size, 0, none⟩ = some (.pointer (some ⟨g, 0, none⟩)) := by
    have : v4.heap[v3.heap.size]? = some (.cells #[.pointer (some ⟨g, 0, none⟩)] 64 (0, 0)) := by rw [hv4]; exact heap_new _ _
    simp [World.cell?, this]
  have x04 : Ext w v4 := HX.out.trans (X1.out.trans (X2.out.trans (x3.trans x4)))
  have s1 := X1.out.size; have s2 := X2.out.size
  rw [World.size_alloc] at s1
  have hres : v4.heap[w.heap.size]? = some (.cells #[.slice none 0 0, .slice none 0 0, .slice none 0 0] 29 (0, 0)) := by
    rw [(X1.out.trans (X2.out.trans (x3.trans x4))).block _ (by simp)]; exact heap_new _ _
  have hRV : RelVar w v2.heap.size (.slice a1 cs.length c1) (.slice a2 ws.length c2) cs ws (castP []) v3.heap.size v4 := by
    refine ⟨⟨none, 0, hR3, OwnPairs.nil _ _⟩, x04, ?_, ?_, fun k hk => ?_, fun k hk => ?_, by omega, by omega, by omega, hres⟩
    · exact ((O1.out.kept X2.out).kept (x3.trans x4)).mono (by simp)
    · exact (O2.out.kept (x3.trans x4)).mono (by omega)
    · have := own_lt O1.out k hk; omega
    · have := own_lt O2.out k hk; omega
  have hM4 := HM.out.ext x04
  have hg0 : g < w.heap.size := HM.out.lt_size
  have hlen : (pairsM M).length ≤ 4096 := by
    have : ∀ i, (pairsTo M i).length ≤ 64 * i := by
      intro i
      induction i with
      | zero => simp [pairsTo]
      | succ i ih =>
        have h1 : (rowTo M i 64).length ≤ 64 := by unfold rowTo; rw [List.length_map]; exact inTo_len _ _
        rw [pairsTo_succ, List.length_append]; omega
    exact this 64
  have HRV := Lib.hid hRV; have HBN := Lib.hid hBn; have HM4 := Lib.hid hM4; have X04 := Lib.hid x04; have Z3 := Lib.hid z3; have Z4 := Lib.hid z4; have HLEN := Lib.hid hlen; have S1 := Lib.hid s1; have S2 := Lib.hid s2
  clear hv3 hv4 x3 x4 z3 z4 hR3 hBn x04 hres hRV hM4 hlen s1 s2
  gi_wp2
  refine wpIn_rangeFunc_ownG rfl (by omega) (gf := 93) (lb := #[.pointer (some ⟨v3.heap.size, 0, none⟩)]) rfl trivial (enters_of Tryz.func93 (by kernel_rfl) rfl)
    (pairs_stops 2 (by omega) v3.heap.size w.heap.size g M v4 (by have := Z4.out; omega) HBN.out HM4.out hg0) belowK_t (belowK_b (X04.out.size)) (Below.refl _ _) (fun _ => rfl)
    (fun pre W => RelVar w v2.heap.size (.slice a1 cs.length c1) (.slice a2 ws.length c2) cs ws (castP pre) v3.heap.size W)
    (fun _ _ _ => False) (RelVar.own X04.out.size) (fun _ _ _ _ _ hs _ _ => hs) HRV.out
    (fun x => { tmps := #[.slice ca cs.length cc, .slice wa ws.length wcp, .pointer (some ⟨g, 0, none⟩), undef, undef, undef, .pointer (some ⟨w.heap.size, 0, none⟩), .pointer (some ⟨v2.heap.size, 0, none⟩), .int .i64 x.1, .int .i64 x.2, .slice ca cs.length cc, .slice a1 cs.length c1, .slice wa ws.length wcp, .slice a2 ws.length c2, .agg #[.slice a1 cs.length c1, .slice a2 ws.length c2, .slice none 0 0], .pointer (some ⟨g, 0, none⟩), .func (.func 93) #[] #[.pointer (some ⟨v3.heap.size, 0, none⟩)], .int .i64 x.1, .int .i64 x.2, undef, undef, undef, undef, undef, undef, undef, undef, undef], defers := [] }) ?assign ?body ?done ?stop
  case assign =>
    intro l x W K hK
    gi_wp2
    exact hK
  case body =>
    rintro l pre x W hI hlt
    have HI := Lib.hid hI; clear hI
    obtain ⟨ta, tc, hh, ho⟩ := HI.out.heap
    obtain ⟨q0, q1, q2, f0, f1, f2⟩ := block3 hh
    have HO := Lib.hid ho; have HH := Lib.hid hh
    clear hh ho
    obtain ⟨p, q⟩ := x
    have hcn : castP (pre ++ [(p, q)]) = castP pre ++ [((p : Int), (q : Int))] := by simp [castP]
    have HCN := Lib.hid hcn; clear hcn
    have hpl : (castP pre).length < 4096 := by rw [castP_len]; have := HLEN.out; omega
    have hbW : v3.heap.size ≤ W.heap.size := HI.out.lw
    dsimp only
    gi_wp2_with (gi_at_builtin; refine wpListIn_append_own _ rfl (.tmp 20) (.tmp 24) 27 rfl v3.heap.size 52 i0 (.agg #[.int .i64 0, .int .i64 0]) 2 16 Tryz.underlying27 hi hz0 hz1 hz2 rfl (by decide) _ (castP pre).length (flatP (castP pre)) rfl (World.ownsRow.alloc HO.out _) ⟨W.heap.size, 0, none⟩ 1 1 [.int .i64 (p : Int), .int .i64 (q : Int)] rfl rfl (cells_two_new _ _ _ _) (by simp [Value.oneCell']) (by unfold maxLen; omega) (by omega) (by simp; omega) ?_; intro v' w1 hown' hgrow _; obtain ⟨g', cap', rfl⟩ := ownsRow_succ hown'; replace hgrow := grown_alloc hgrow; have hown2 : OwnPairs w1 v3.heap.size (.slice (some ⟨g', 0, none⟩) ((castP pre).length + 1) cap') (castP pre ++ [((p : Int), (q : Int))]) := (by unfold OwnPairs; rw [flatP_snoc, List.length_append]; exact hown'); have HST := Lib.hid (HI.out.step _ HO.out HH.out hgrow hown2); have HG := Lib.hid hgrow; have hz1' := hgrow.size; have hb4 : w1.heap[v2.heap.size]? = W.heap[v2.heap.size]? := hgrow.block _ (lt_heap HH.out) (fun e => by have := HO.out.base _ e.symm; have := HI.out.lR; omega); rw [HH.out] at hb4; obtain ⟨d0, d1, d2, e0, e1, e2⟩ := block3 hb4; clear hown' hgrow hown2 hb4)
    refine ⟨?_, ?_, ?_⟩
    · exact ((KeepsOthers.of_grownBy HG.out fun j o hj ho => by obtain ⟨o', h1, h2⟩ := HO.out.isCells j hj; rw [ho] at h1; cases h1; exact h2).trans (KeepsOthers.setCell _ _ _)).from _
    · have h1 := HI.out.lb; have h2 := HI.out.lR
      exact ((Below.refl w.heap.size W).grown HG.out (by have := HI.out.ext.size; omega) (fun k e => by have := HO.out.base k e; omega)).setCell (p := ⟨v2.heap.size, 2, none⟩) (Nat.le_of_lt h1) _
    · show RelVar w _ _ _ _ _ (castP (pre ++ [(p, q)])) _ _
      rw [HCN.out]; exact HST.out
  case done =>
    rintro D ys W hD rfl hI hK
    have HI := Lib.hid hI; clear hI
    obtain ⟨ta, tc, hh, ho⟩ := HI.out.heap
    obtain ⟨q0, q1, q2, f0, f1, f2⟩ := block3 hh
    obtain ⟨r0, r1, r2, e0, e1, e2⟩ := block3 HI.out.res
    have HO := Lib.hid ho; have HH := Lib.hid hh; have HK := Lib.hid hK
    clear hh ho hK
    have hDl : w.heap.size < D := by have := X04.out.size; have := Z4.out; have := Z3.out; have := S1.out; have := S2.out; omega
    gi_wp2
    obtain ⟨W6, hW6⟩ : ∃ W6, W6 = put3 W w.heap.size (.slice a1 cs.length c1) (.slice a2 ws.length c2) (.slice ta (castP (pairsM M)).length tc) := ⟨_, rfl⟩
    change bodyPostM _ _ _ _ _ _ _ (put3 W w.heap.size (.slice a1 cs.length c1) (.slice a2 ws.length c2) (.slice ta (castP (pairsM M)).length tc))
    rw [← hW6]
    have hK6 : W6.heap[D]? = some (.deferred (some [])) := by rw [hW6, put3_other D (by omega)]; exact HK.out
    have h6o : ∀ k, k ≠ w.heap.size → W6.heap[k]? = W.heap[k]? := fun k hk => by rw [hW6]; exact put3_other k hk
    have h60 : W6.heap[w.heap.size]? = some (.cells #[.slice a1 cs.length c1, .slice a2 ws.length c2, .slice ta (castP (pairsM M)).length tc] 29 (0, 0)) := by rw [hW6]; exact put3_new HI.out.res
    have hx6 : Ext w W6 := by rw [hW6]; exact HI.out.ext.put3 (Nat.le_refl _) _ _ _
    have hg7 := grownBy_putObj' W6 D (.deferred none)
    have h7o : ∀ k (o : Obj), W6.heap[k]? = some o → o.isCells = true → (W6.putObj D (.deferred none)).heap[k]? = W6.heap[k]? := fun k o hk ho =>
      hg7.block k (lt_heap hk) fun e => by cases e; rw [hK6] at hk; cases hk; cases ho
    refine ⟨by simp, .inl ⟨_, _, rfl, run_takeDeferred hK6, ?_⟩⟩
    refine ⟨_, results_cell_row (by rfl) _ _ w.heap.size 29 _ (0, 0) _ (by rfl) ((h7o _ _ h60 rfl).trans h60) Tryz.underlying29 rfl sizeRel, ?_⟩
    refine ⟨_, rfl, ⟨_, _, _, rfl, ?_, ?_, ?_⟩, hx6.grown hg7 fun k e => by cases e; omega⟩
    · exact (HI.out.oc.keep fun k hk => by
        obtain ⟨o, h1, h2⟩ := HI.out.oc.isCells k hk
        have hne : k ≠ w.heap.size := by have := HI.out.oc.base k hk; omega
        rw [h7o k o ((h6o k hne).trans h1) h2, h6o k hne]).mono (by omega)
    · exact (HI.out.ow.keep fun k hk => by
        obtain ⟨o, h1, h2⟩ := HI.out.ow.isCells k hk
        have hne : k ≠ w.heap.size := by have := HI.out.ow.base k hk; omega
        rw [h7o k o ((h6o k hne).trans h1) h2, h6o k hne]).mono (by omega)
    · exact (HO.out.keep fun k hk => by
        obtain ⟨o, h1, h2⟩ := HO.out.isCells k hk
        have hne : k ≠ w.heap.size := by have := HO.out.base k hk; have := HI.out.lR; have := HI.out.lb; omega
        rw [h7o k o ((h6o k hne).trans h1) h2, h6o k hne]).mono (by have := HI.out.lR; have := HI.out.lb; omega)
  case stop =>
    rintro D c pre W _ _ h _
    exact h.elim
end Go.Proofs.YtlnahhlddekhoaaGreatDoor
