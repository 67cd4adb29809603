/-
  The walks of relation.Union, Compose and Closure. Printed by gen_rg5.py.
-/
import Derived.Test.YtlnahhlddekhoaaDoorMRgb
namespace Go.Proofs.YtlnahhlddekhoaaDoor
open Go.RowKit

def OpPostR (ok : Bool) (C D : List Int) (I : List (Int × Int)) (w : World) (r : Ending) (w' : World) : Prop := if ok then RelRes 0 C D I w r w' else RelRes 1 [] [] [] w r w'
theorem OpPostR.res {ok : Bool} {C D : List Int} {I : List (Int × Int)} {w : World} {r : Ending} {w' : World} (h : OpPostR ok C D I w r w') : ∃ e C' D' I', RelRes e C' D' I' w r w' ∧ ∀ w0 r2 w2, RelRes e C' D' I' w0 r2 w2 → OpPostR ok C D I w0 r2 w2 := by
  unfold OpPostR at *
  cases ok with
  | true => exact ⟨_, _, _, _, h, fun _ _ _ h => h⟩
  | false => exact ⟨_, _, _, _, h, fun _ _ _ h => h⟩
theorem alike_parts {cs ws : List Int} {P : List (Int × Int)} {cs2 ws2 : List Int} {Q : List (Int × Int)} (h : alikeB cs ws P cs2 ws2 Q = true) : cs = cs2 ∧ ws = ws2 ∧ castP (natP P) = P ∧ ValidR cs ws (natP P) ∧ castP (natP Q) = Q ∧ ValidR cs2 ws2 (natP Q) := by
  unfold alikeB at h
  simp only [Bool.and_eq_true, decide_eq_true_eq] at h
  obtain ⟨⟨⟨h1, h2⟩, h3⟩, h4⟩ := h
  exact ⟨h3, h4, (rvalid_nat h1).1, (rvalid_nat h1).2, (rvalid_nat h2).1, (rvalid_nat h2).2⟩

theorem Union_cf (args : Array Value) (w : World) : (callFunc 60 args).run Tryd.prog w = .ok (.enter 60 args) w := by go_simp
set_option maxRecDepth 100000 in
set_option maxHeartbeats 2000000 in
theorem Union_any (cs ws : List Int) (P : List (Int × Int)) (cs2 ws2 : List Int) (Q : List (Int × Int)) (va vs : Value) (w : World) (ha : RelV w va cs ws P) (hs : RelV w vs cs2 ws2 Q) (hT : DeB w) :
    Calls Tryd.prog 22 #[va, vs] w (OpPostR (alikeB cs ws P cs2 ws2 Q) cs ws (castP (pairsM (unionM (rowsL (natP P)) (rowsL (natP Q))))) w) := by
  obtain ⟨ca, cc, wa, wcp, ia, ic, rfl, a1, a2, a3⟩ := ha.shape
  obtain ⟨ca2, cc2, wa2, wc2, ia2, ic2, rfl, b1, b2, b3⟩ := hs.shape
  obtain ⟨W, hW⟩ : ∃ W, Boxes3 w W (.cells #[.slice ca cs.length cc, .slice wa ws.length wcp, .slice ia P.length ic] 25) (.cells #[.slice ca2 cs2.length cc2, .slice wa2 ws2.length wc2, .slice ia2 Q.length ic2] 25) (.cells #[.slice none 0 0, .slice none 0 0, .slice none 0 0] 25) := ⟨_, Boxes3.mk' _ _ _ _⟩
  obtain ⟨p0, p1, p2⟩ := cells3 hW.b0
  obtain ⟨q0, q1, q2⟩ := cells3 hW.b1
  have HA := Lib.hid (ha.ext hW.ext); have HS := Lib.hid (hs.ext hW.ext); have HT := Lib.hid (hT.ext hW.ext)
  have A1 := Lib.hid (a1.ext hW.ext); have A2 := Lib.hid (a2.ext hW.ext); have B1 := Lib.hid (b1.ext hW.ext); have B2 := Lib.hid (b2.ext hW.ext)
  have HW := Lib.hid hW
  clear ha hs hT a1 a2 a3 b1 b2 b3 hW
  go_enter Tryd.func22, Tryd.ntmps22
  go_upto_region 1 with fail
  rw [← HW.out.eq]
  go_wp2_with fail
  refine (alike_any cs ws P cs2 ws2 Q _ _ _ HA.out HS.out HT.out).mono ?_
  rintro r w1 ⟨rfl, x1⟩
  have hcall : ∀ f, f = .func (.func 60) #[] #[.pointer (some ⟨w.heap.size, 0, none⟩), .pointer (some ⟨w.heap.size + 1, 0, none⟩)] → Calls Tryd.prog 52 #[.bool (alikeB cs ws P cs2 ws2 Q), f] w1 (OpPostR (alikeB cs ws P cs2 ws2 Q) cs ws (castP (pairsM (unionM (rowsL (natP P)) (rowsL (natP Q))))) w1) := by
    rintro f rfl
    cases hap : alikeB cs ws P cs2 ws2 Q with
    | false => exact checkedR_no _ _
    | true =>
      obtain ⟨e1, e2, e3, e4, e5, e6⟩ := alike_parts hap
      have hVA : RelBox W w.heap.size cs ws (natP P) ca wa ia cc wcp ic := ⟨by rw [natP_len]; exact HW.out.b0, by rw [natP_len, e3]; exact HA.out, A1.out, A2.out, e4⟩
      have hVB : RelBox W (w.heap.size + 1) cs2 ws2 (natP Q) ca2 wa2 ia2 cc2 wc2 ic2 := ⟨by rw [natP_len]; exact HW.out.b1, by rw [natP_len, e5]; exact HS.out, B1.out, B2.out, e6⟩
      exact checkedR_yes _ _ _ _ _ _ ⟨Union_cf, fun w' hx' => Union1_any w' _ _ cs ws (natP P) cs2 ws2 (natP Q) ca wa ia cc wcp ic ca2 wa2 ia2 cc2 wc2 ic2 (hVA.ext (x1.trans hx')) (hVB.ext (x1.trans hx'))⟩
  have HC := Lib.hid hcall; have X1 := Lib.hid x1
  clear hcall x1
  generalize alikeB cs ws P cs2 ws2 Q = ok at *
  generalize castP (pairsM (unionM (rowsL (natP P)) (rowsL (natP Q)))) = I at *
  go_wp2_with fail
  refine (HC.out _ rfl).mono ?_
  intro r w2 h2
  obtain ⟨e, C', D', I', ⟨v, rfl, hv, x2⟩, hback⟩ := h2.res
  obtain ⟨sa, sb, sc, sd, se, sf, rfl⟩ := hv.shape
  clear h2
  have hR := (X1.out.trans x2).block (w.heap.size + 2) (by have := HW.out.size; omega)
  rw [HW.out.b2] at hR
  obtain ⟨z0, z1, z2, f0, f1, f2⟩ := block3 hR
  have HR := Lib.hid (put3_new (x := .slice sa C'.length sb) (y := .slice sc D'.length sd) (z := .slice se I'.length sf) hR)
  have HF : Hid (OpPostR ok cs ws I w (.returned (.tuple #[.agg #[.slice sa C'.length sb, .slice sc D'.length sd, .slice se I'.length sf], .int .i64 e])) (put3 w2 (w.heap.size + 2) (.slice sa C'.length sb) (.slice sc D'.length sd) (.slice se I'.length sf))) := by
    have hz := HW.out.size
    have hz1 := X1.out.size
    exact hback _ _ _ ⟨_, rfl, (hv.put3 (by omega) _ _ _).mono (by omega), (HW.out.ext.trans (X1.out.trans x2)).put3 (by omega) _ _ _⟩
  clear hR hback hv x2
  go_wp2_with fail
  exact bodyPost_ret (v := .tuple #[.agg #[.slice sa C'.length sb, .slice sc D'.length sd, .slice se I'.length sf], .int .i64 e]) (results_row_tmp Tryd.results22 _ _ (w.heap.size + 2) 25 _ (0, 0) _ rfl HR.out Tryd.underlying25 rfl sizeRel) rfl HF.out

theorem Compose_cf (args : Array Value) (w : World) : (callFunc 58 args).run Tryd.prog w = .ok (.enter 58 args) w := by go_simp
set_option maxRecDepth 100000 in
set_option maxHeartbeats 2000000 in
theorem Compose_any (cs ws : List Int) (P : List (Int × Int)) (cs2 ws2 : List Int) (Q : List (Int × Int)) (va vs : Value) (w : World) (ha : RelV w va cs ws P) (hs : RelV w vs cs2 ws2 Q) (hT : DeB w) :
    Calls Tryd.prog 20 #[va, vs] w (OpPostR (alikeB cs ws P cs2 ws2 Q) cs ws (castP (pairsM (composeM (rowsL (natP P)) (rowsL (natP Q))))) w) := by
  obtain ⟨ca, cc, wa, wcp, ia, ic, rfl, a1, a2, a3⟩ := ha.shape
  obtain ⟨ca2, cc2, wa2, wc2, ia2, ic2, rfl, b1, b2, b3⟩ := hs.shape
  obtain ⟨W, hW⟩ : ∃ W, Boxes3 w W (.cells #[.slice ca cs.length cc, .slice wa ws.length wcp, .slice ia P.length ic] 25) (.cells #[.slice ca2 cs2.length cc2, .slice wa2 ws2.length wc2, .slice ia2 Q.length ic2] 25) (.cells #[.slice none 0 0, .slice none 0 0, .slice none 0 0] 25) := ⟨_, Boxes3.mk' _ _ _ _⟩
  obtain ⟨p0, p1, p2⟩ := cells3 hW.b0
  obtain ⟨q0, q1, q2⟩ := cells3 hW.b1
  have HA := Lib.hid (ha.ext hW.ext); have HS := Lib.hid (hs.ext hW.ext); have HT := Lib.hid (hT.ext hW.ext)
  have A1 := Lib.hid (a1.ext hW.ext); have A2 := Lib.hid (a2.ext hW.ext); have B1 := Lib.hid (b1.ext hW.ext); have B2 := Lib.hid (b2.ext hW.ext)
  have HW := Lib.hid hW
  clear ha hs hT a1 a2 a3 b1 b2 b3 hW
  go_enter Tryd.func20, Tryd.ntmps20
  go_upto_region 1 with fail
  rw [← HW.out.eq]
  go_wp2_with fail
  refine (alike_any cs ws P cs2 ws2 Q _ _ _ HA.out HS.out HT.out).mono ?_
  rintro r w1 ⟨rfl, x1⟩
  have hcall : ∀ f, f = .func (.func 58) #[] #[.pointer (some ⟨w.heap.size, 0, none⟩), .pointer (some ⟨w.heap.size + 1, 0, none⟩)] → Calls Tryd.prog 52 #[.bool (alikeB cs ws P cs2 ws2 Q), f] w1 (OpPostR (alikeB cs ws P cs2 ws2 Q) cs ws (castP (pairsM (composeM (rowsL (natP P)) (rowsL (natP Q))))) w1) := by
    rintro f rfl
    cases hap : alikeB cs ws P cs2 ws2 Q with
    | false => exact checkedR_no _ _
    | true =>
      obtain ⟨e1, e2, e3, e4, e5, e6⟩ := alike_parts hap
      have hVA : RelBox W w.heap.size cs ws (natP P) ca wa ia cc wcp ic := ⟨by rw [natP_len]; exact HW.out.b0, by rw [natP_len, e3]; exact HA.out, A1.out, A2.out, e4⟩
      have hVB : RelBox W (w.heap.size + 1) cs2 ws2 (natP Q) ca2 wa2 ia2 cc2 wc2 ic2 := ⟨by rw [natP_len]; exact HW.out.b1, by rw [natP_len, e5]; exact HS.out, B1.out, B2.out, e6⟩
      exact checkedR_yes _ _ _ _ _ _ ⟨Compose_cf, fun w' hx' => Compose1_any w' _ _ cs ws (natP P) cs2 ws2 (natP Q) ca wa ia cc wcp ic ca2 wa2 ia2 cc2 wc2 ic2 (hVA.ext (x1.trans hx')) (hVB.ext (x1.trans hx'))⟩
  have HC := Lib.hid hcall; have X1 := Lib.hid x1
  clear hcall x1
  generalize alikeB cs ws P cs2 ws2 Q = ok at *
  generalize castP (pairsM (composeM (rowsL (natP P)) (rowsL (natP Q)))) = I at *
  go_wp2_with fail
  refine (HC.out _ rfl).mono ?_
  intro r w2 h2
  obtain ⟨e, C', D', I', ⟨v, rfl, hv, x2⟩, hback⟩ := h2.res
  obtain ⟨sa, sb, sc, sd, se, sf, rfl⟩ := hv.shape
  clear h2
  have hR := (X1.out.trans x2).block (w.heap.size + 2) (by have := HW.out.size; omega)
  rw [HW.out.b2] at hR
  obtain ⟨z0, z1, z2, f0, f1, f2⟩ := block3 hR
  have HR := Lib.hid (put3_new (x := .slice sa C'.length sb) (y := .slice sc D'.length sd) (z := .slice se I'.length sf) hR)
  have HF : Hid (OpPostR ok cs ws I w (.returned (.tuple #[.agg #[.slice sa C'.length sb, .slice sc D'.length sd, .slice se I'.length sf], .int .i64 e])) (put3 w2 (w.heap.size + 2) (.slice sa C'.length sb) (.slice sc D'.length sd) (.slice se I'.length sf))) := by
    have hz := HW.out.size
    have hz1 := X1.out.size
    exact hback _ _ _ ⟨_, rfl, (hv.put3 (by omega) _ _ _).mono (by omega), (HW.out.ext.trans (X1.out.trans x2)).put3 (by omega) _ _ _⟩
  clear hR hback hv x2
  go_wp2_with fail
  exact bodyPost_ret (v := .tuple #[.agg #[.slice sa C'.length sb, .slice sc D'.length sd, .slice se I'.length sf], .int .i64 e]) (results_row_tmp Tryd.results20 _ _ (w.heap.size + 2) 25 _ (0, 0) _ rfl HR.out Tryd.underlying25 rfl sizeRel) rfl HF.out

theorem Closure_cf (args : Array Value) (w : World) : (callFunc 54 args).run Tryd.prog w = .ok (.enter 54 args) w := by go_simp
set_option maxRecDepth 100000 in
set_option maxHeartbeats 2000000 in
theorem Closure_any (cs ws : List Int) (P : List (Int × Int)) (va : Value) (w : World) (ha : RelV w va cs ws P) (hT : DeB w) :
    Calls Tryd.prog 17 #[va] w (OpPostR (rvalidB cs ws P) cs ws (castP (pairsM (closeM (pw (sumI ws)).toNat (rowsL (natP P))))) w) := by
  obtain ⟨ca, cc, wa, wcp, ia, ic, rfl, a1, a2, a3⟩ := ha.shape
  obtain ⟨W, hW⟩ : ∃ W, Boxes w W (.cells #[.slice ca cs.length cc, .slice wa ws.length wcp, .slice ia P.length ic] 25) (.cells #[.slice none 0 0, .slice none 0 0, .slice none 0 0] 25) := ⟨_, Boxes.mk' _ _ _⟩
  obtain ⟨p0, p1, p2⟩ := cells3 hW.b0
  have HA := Lib.hid (ha.ext hW.ext); have HT := Lib.hid (hT.ext hW.ext)
  have A1 := Lib.hid (a1.ext hW.ext); have A2 := Lib.hid (a2.ext hW.ext)
  have HW := Lib.hid hW
  clear ha hT a1 a2 a3 hW
  go_enter Tryd.func17, Tryd.ntmps17
  go_upto_region 1 with fail
  rw [← HW.out.eq]
  go_wp2_with fail
  refine (rvalid_any cs ws P _ _ HA.out HT.out).mono ?_
  rintro r w1 ⟨rfl, x1⟩
  have hcall : ∀ f, f = .func (.func 54) #[] #[.pointer (some ⟨w.heap.size, 0, none⟩)] → Calls Tryd.prog 52 #[.bool (rvalidB cs ws P), f] w1 (OpPostR (rvalidB cs ws P) cs ws (castP (pairsM (closeM (pw (sumI ws)).toNat (rowsL (natP P))))) w1) := by
    rintro f rfl
    cases hap : rvalidB cs ws P with
    | false => exact checkedR_no _ _
    | true =>
      obtain ⟨e3, e4⟩ := rvalid_nat hap
      have hVA : RelBox W w.heap.size cs ws (natP P) ca wa ia cc wcp ic := ⟨by rw [natP_len]; exact HW.out.b0, by rw [natP_len, e3]; exact HA.out, A1.out, A2.out, e4⟩
      exact checkedR_yes _ _ _ _ _ _ ⟨Closure_cf, fun w' hx' => Closure1_any w' _ cs ws (natP P) ca wa ia cc wcp ic (hVA.ext (x1.trans hx'))⟩
  have HC := Lib.hid hcall; have X1 := Lib.hid x1
  clear hcall x1
  generalize rvalidB cs ws P = ok at *
  generalize castP (pairsM (closeM (pw (sumI ws)).toNat (rowsL (natP P)))) = I at *
  go_wp2_with fail
  refine (HC.out _ rfl).mono ?_
  intro r w2 h2
  obtain ⟨e, C', D', I', ⟨v, rfl, hv, x2⟩, hback⟩ := h2.res
  obtain ⟨sa, sb, sc, sd, se, sf, rfl⟩ := hv.shape
  clear h2
  have hR := (X1.out.trans x2).block (w.heap.size + 1) (by have := HW.out.size; omega)
  rw [HW.out.b1] at hR
  obtain ⟨z0, z1, z2, f0, f1, f2⟩ := block3 hR
  have HR := Lib.hid (put3_new (x := .slice sa C'.length sb) (y := .slice sc D'.length sd) (z := .slice se I'.length sf) hR)
  have HF : Hid (OpPostR ok cs ws I w (.returned (.tuple #[.agg #[.slice sa C'.length sb, .slice sc D'.length sd, .slice se I'.length sf], .int .i64 e])) (put3 w2 (w.heap.size + 1) (.slice sa C'.length sb) (.slice sc D'.length sd) (.slice se I'.length sf))) := by
    have hz := HW.out.size
    have hz1 := X1.out.size
    exact hback _ _ _ ⟨_, rfl, (hv.put3 (by omega) _ _ _).mono (by omega), (HW.out.ext.trans (X1.out.trans x2)).put3 (by omega) _ _ _⟩
  clear hR hback hv x2
  go_wp2_with fail
  exact bodyPost_ret (v := .tuple #[.agg #[.slice sa C'.length sb, .slice sc D'.length sd, .slice se I'.length sf], .int .i64 e]) (results_row_tmp Tryd.results17 _ _ (w.heap.size + 1) 25 _ (0, 0) _ rfl HR.out Tryd.underlying25 rfl sizeRel) rfl HF.out

end Go.Proofs.YtlnahhlddekhoaaDoor
