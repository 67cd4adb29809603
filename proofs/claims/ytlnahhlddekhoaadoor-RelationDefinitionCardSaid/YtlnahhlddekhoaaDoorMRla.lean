/-
  Relations by value; the walk of relation.valid.
  The walks of relation.rows, wordOf.
  The walk of relation.set. Printed by gen_rset.py out of XRl3.src.
-/
import Derived.Test.YtlnahhlddekhoaaDoorMBmc
namespace Go.Proofs.YtlnahhlddekhoaaDoor
open Go.RowKit

def PairAt (w : World) (b o : Nat) (p : Int × Int) : Prop := w.cell? ⟨b, o, .none⟩ = some (.int .i64 p.1) ∧ w.cell? ⟨b, o + 1, .none⟩ = some (.int .i64 p.2)
theorem PairAt.keeps : Keeps PairAt := fun _ _ _ _ _ he h => ⟨he.cell h.1, he.cell h.2⟩
def Pairs (w : World) (v : Value) (l : List (Int × Int)) : Prop := SliceAt 2 PairAt w v l
theorem Pairs.ext {w w' : World} {v : Value} {l : List (Int × Int)} (h : Pairs w v l) (he : Ext w w') : Pairs w' v l := SliceAt.ext PairAt.keeps h he
/-- A relation by value. -/
def RelV (w : World) (v : Value) (cs ws : List Int) (P : List (Int × Int)) : Prop := ∃ vc vw vi, v = .agg #[vc, vw, vi] ∧ Ints w vc cs ∧ Ints w vw ws ∧ Pairs w vi P
theorem RelV.ext {w w' : World} {v : Value} {cs ws : List Int} {P : List (Int × Int)} (h : RelV w v cs ws P) (hx : Ext w w') : RelV w' v cs ws P := by
  obtain ⟨a, b, c, h0, h1, h2, h3⟩ := h; exact ⟨a, b, c, h0, h1.ext hx, h2.ext hx, h3.ext hx⟩
theorem RelV.shape {w : World} {v : Value} {cs ws : List Int} {P : List (Int × Int)} (h : RelV w v cs ws P) : ∃ ca cc wa wc ia ic, v = .agg #[.slice ca cs.length cc, .slice wa ws.length wc, .slice ia P.length ic] ∧ Ints w (.slice ca cs.length cc) cs ∧ Ints w (.slice wa ws.length wc) ws ∧ Pairs w (.slice ia P.length ic) P := by
  obtain ⟨a, b, c, rfl, h1, h2, h3⟩ := h
  obtain ⟨_, _, rfl⟩ := h1.shape
  obtain ⟨_, _, rfl⟩ := h2.shape
  obtain ⟨_, _, rfl⟩ := h3.shape
  exact ⟨_, _, _, _, _, _, rfl, h1, h2, h3⟩
/-- The order of pairs of ints. -/
def ltI (p q : Int × Int) : Prop := p.1 < q.1 ∨ (p.1 = q.1 ∧ p.2 < q.2)
structure PairsOk (n : Int) (P : List (Int × Int)) (k : Nat) : Prop where
  bd : ∀ (i : Nat) (h : i < P.length), i < k → 0 ≤ P[i].1 ∧ P[i].1 < n ∧ 0 ≤ P[i].2 ∧ P[i].2 < n
  inc : ∀ (i : Nat) (h : i + 1 < P.length), i + 1 < k → ltI P[i] P[i + 1]
open Classical in
noncomputable def rvalidB (cs ws : List Int) (P : List (Int × Int)) : Bool := smallB cs ws && decide (sumI ws ≤ 6) && decide (PairsOk (pw (sumI ws)) P P.length)
theorem rvalid_iff {cs ws : List Int} {P : List (Int × Int)} : rvalidB cs ws P = true ↔ smallB cs ws = true ∧ sumI ws ≤ 6 ∧ PairsOk (pw (sumI ws)) P P.length := by
  simp only [rvalidB, Bool.and_eq_true, decide_eq_true_eq, and_assoc]
theorem comb_self (cs ws : List Int) : combB cs ws [] cs ws [] = smallB cs ws := by
  have : validB cs ws [] = smallB cs ws := by simp [validB, incB]
  simp [combB, this]
theorem rvalid_small {cs ws : List Int} {P : List (Int × Int)} (h : smallB cs ws = false) : rvalidB cs ws P = false := by unfold rvalidB; rw [h]; rfl
theorem rvalid_six {cs ws : List Int} {P : List (Int × Int)} (h : ¬ sumI ws ≤ 6) : rvalidB cs ws P = false := by
  rw [Bool.eq_false_iff]; exact fun c => h (rvalid_iff.1 c).2.1
theorem rvalid_no {cs ws : List Int} {P : List (Int × Int)} (h : ¬ PairsOk (pw (sumI ws)) P P.length) : rvalidB cs ws P = false := by
  rw [Bool.eq_false_iff]; exact fun c => h (rvalid_iff.1 c).2.2
theorem sizeRel : (Tryd.prog.info? 25).map (·.size) = some 3 := by kernel_rfl

set_option maxRecDepth 100000 in
set_option maxHeartbeats 2000000 in
theorem rvalid_any (cs ws : List Int) (P : List (Int × Int)) (v : Value) (w : World) (hv : RelV w v cs ws P) (hT : DeB w) : Calls Tryd.prog 53 #[v] w fun r w' => r = .returned (.bool (rvalidB cs ws P)) ∧ Ext w w' := by
  obtain ⟨ca, cc, wa, wcp, ia, ic, rfl, a1, a2, a3⟩ := hv.shape
  have hlen := SliceAt.len_le a3
  obtain ⟨W, hW⟩ : ∃ W, W = (w.alloc (.cells #[.slice ca cs.length cc, .slice wa ws.length wcp, .slice ia P.length ic] 25)).alloc (.cells #[.slice ca cs.length cc, .slice wa ws.length wcp, .slice none 0 0] 27) := ⟨_, rfl⟩
  have hx : Ext w W := by rw [hW]; exact ((Ext.refl w).alloc _).alloc _
  have hz : W.heap.size = w.heap.size + 2 := by rw [hW]; simp
  have hB1 : W.heap[w.heap.size]? = some (.cells #[.slice ca cs.length cc, .slice wa ws.length wcp, .slice ia P.length ic] 25 (0, 0)) := by
    rw [hW, heap_alloc_old _ _ (by simp)]; exact heap_new _ _
  have hB2 : W.heap[w.heap.size + 1]? = some (.cells #[.slice ca cs.length cc, .slice wa ws.length wcp, .slice none 0 0] 27 (0, 0)) := by
    rw [hW]
    have := heap_new (w.alloc (.cells #[.slice ca cs.length cc, .slice wa ws.length wcp, .slice ia P.length ic] 25)) (.cells #[.slice ca cs.length cc, .slice wa ws.length wcp, .slice none 0 0] 27)
    rw [World.size_alloc] at this; exact this
  obtain ⟨p0, p1, p2⟩ := cells3 hB1
  obtain ⟨q0, q1, q2⟩ := cells3 hB2
  have hs : SetV W (.agg #[.slice ca cs.length cc, .slice wa ws.length wcp, .slice none 0 0]) cs ws [] := ⟨_, _, _, rfl, a1.ext hx, a2.ext hx, .inl ⟨⟨_, _, rfl⟩, rfl⟩⟩
  have HS := Lib.hid hs; have A2 := Lib.hid (a2.ext hx); have A3 := Lib.hid (a3.ext hx); have HT := Lib.hid (hT.ext hx)
  have HX := Lib.hid hx; have HZ := Lib.hid hz; have HW := Lib.hid hW
  clear hv a1 a2 a3 hx hz hW hB1 hB2 hT hs
  go_enter Tryd.func53, Tryd.ntmps53
  go_upto_region 2 with fail
  rw [← HW.out]
  go_wp2_with fail
  refine (Meet_any cs ws [] cs ws [] _ _ _ HS.out HS.out HT.out).mono ?_
  intro r w1 h1
  unfold CombPost at h1
  rw [comb_self] at h1
  cases hsm : smallB cs ws with
  | false =>
    rw [hsm] at h1
    obtain ⟨v, rfl, hv, x1⟩ := h1
    obtain ⟨sa, sb, sc, sd, se, sf, rfl⟩ := hv.shape
    have HF := Lib.hid (rvalid_small (P := P) hsm)
    have X1 := Lib.hid (HX.out.trans x1)
    clear hv x1 hsm
    go_wp2_with fail
    go_ret
    exact ⟨by rw [HF.out]; rfl, X1.out.alloc _⟩
  | true =>
    rw [hsm] at h1
    obtain ⟨v, rfl, hv, x1⟩ := h1
    obtain ⟨sa, sb, sc, sd, se, sf, rfl⟩ := hv.shape
    obtain ⟨hsh, hwd, hs0, hs12⟩ := small_sum hsm
    have HSM := Lib.hid hsm; have HWD := Lib.hid hwd
    obtain ⟨w2, hw2⟩ : ∃ w2, w2 = w1.alloc (.cells #[.slice sa cs.length sb, .slice sc ws.length sd, .slice se (combL (· &&& ·) [] []).length sf] 27) := ⟨_, rfl⟩
    have x2 : Ext W w2 := by rw [hw2]; exact x1.alloc _
    have X2 := Lib.hid x2; have HW2 := Lib.hid hw2
    have p02 := x2.cell p0; have p12 := x2.cell p1; have p22 := x2.cell p2
    clear hv x1 hsm hsh hwd x2 hw2 p0 p1 p2 q0 q1 q2
    go_upto_region 3 with fail
    rw [← HW2.out]
    go_wp2_with fail
    refine (rsum_any ws _ _ (A2.out.ext X2.out) HWD.out).mono ?_
    rintro r w3 ⟨rfl, rfl⟩
    by_cases h6 : sumI ws ≤ 6
    · have HPW := Lib.hid (pow_wrap hs0 hs12)
      have HRV : Hid (∀ Q : Prop, (PairsOk (pw (sumI ws)) P P.length ↔ Q) → (Q → rvalidB cs ws P = true) ∧ (¬ Q → rvalidB cs ws P = false)) := fun Q hQ => ⟨fun q => rvalid_iff.2 ⟨HSM.out, h6, hQ.2 q⟩, fun q => rvalid_no fun c => q (hQ.1 c)⟩
      generalize hsum : sumI ws = sm at *
      have HSUM := Lib.hid hsum
      clear hsum
      go_wp2_with fail
      refine (rsum_any ws _ _ (A2.out.ext X2.out) HWD.out).mono ?_
      rintro r w4 ⟨rfl, rfl⟩
      rw [HSUM.out]
      go_upto_region 6 with fail
      rw [HPW.out]
      have hn1 : 1 ≤ pw sm ∧ pw sm ≤ 64 := by
        have h1 := pw_mono (s := 0) (t := sm) (by omega) hs0
        have h2 := pw_mono hs0 h6
        have e1 : pw 0 = 1 := by decide
        have e2 : pw 6 = 64 := by decide
        omega
      generalize pw sm = n at *
      clear HPW
      go_wp2_with fail
      have A34 := Lib.hid (A3.out.ext X2.out)
      go_loopw [35] (fun i wr => ∃ k : Nat, k ≤ P.length ∧ i = .int .i64 k ∧ Ext w4 wr ∧ PairsOk n P k) (fun i _ => P.length - (intOf i).toNat)
      case atStart => exact ⟨0, Nat.zero_le _, rfl, Ext.refl _, ⟨fun i _ h => absurd h (by omega), fun i _ h => absurd h (by omega)⟩⟩
      case round =>
        obtain ⟨k, hk, rfl, hX, hR⟩ := hrel
        have HXr := Lib.hid hX; have HR := Lib.hid hR; clear hX hR
        by_cases hlt : k < P.length
        · rcases A34.out with ⟨_, e⟩ | ⟨b, o, cap', e, _, hc⟩
          · rw [e] at hlt; simp at hlt
          cases e
          obtain ⟨g0, g1⟩ := hc k hlt
          replace g0 := HXr.out.cell g0; replace g1 := HXr.out.cell g1
          have HBD : Hid (¬ (0 ≤ P[k].1 ∧ P[k].1 < n ∧ 0 ≤ P[k].2 ∧ P[k].2 < n) → rvalidB cs ws P = false) := fun h => (HRV.out _ Iff.rfl).2 fun c => h (c.bd k hlt hlt)
          have HC := Lib.hid hc; clear hc
          generalize hx : P[k].1 = x at *
          generalize hy : P[k].2 = y at *
          have HXX := Lib.hid hx; have HYY := Lib.hid hy; clear hx hy
          by_cases t1 : x < 0
          · have HF := Lib.hid (HBD.out (by omega))
            go_wp2_with fail
            go_ret
            exact ⟨by rw [HF.out]; rfl, (HX.out.trans (X2.out.trans HXr.out)).alloc _⟩
          by_cases t2 : n ≤ x
          · have HF := Lib.hid (HBD.out (by omega))
            go_wp2_with fail
            go_ret
            exact ⟨by rw [HF.out]; rfl, (HX.out.trans (X2.out.trans HXr.out)).alloc _⟩
          by_cases t3 : y < 0
          · have HF := Lib.hid (HBD.out (by omega))
            go_wp2_with fail
            go_ret
            exact ⟨by rw [HF.out]; rfl, (HX.out.trans (X2.out.trans HXr.out)).alloc _⟩
          by_cases t4 : n ≤ y
          · have HF := Lib.hid (HBD.out (by omega))
            go_wp2_with fail
            go_ret
            exact ⟨by rw [HF.out]; rfl, (HX.out.trans (X2.out.trans HXr.out)).alloc _⟩
          go_upto_region 11 with fail
          obtain ⟨w5, hw5⟩ : ∃ w5, w5 = wr.alloc (.cells #[.int .i64 x, .int .i64 y] 62) := ⟨_, rfl⟩
          rw [← hw5]
          have x5 : Ext wr w5 := by rw [hw5]; exact (Ext.refl _).alloc _
          have hb5 : w5.heap[wr.heap.size]? = some (.cells #[.int .i64 x, .int .i64 y] 62 (0, 0)) := by rw [hw5]; exact heap_new _ _
          have d0 : w5.cell? ⟨wr.heap.size, 0, none⟩ = some (.int .i64 x) := by simp [World.cell?, hb5]
          have d1 : w5.cell? ⟨wr.heap.size, 1, none⟩ = some (.int .i64 y) := by simp [World.cell?, hb5]
          have p25 := (HXr.out.trans x5).cell p22
          have X5 := Lib.hid (HXr.out.trans x5); have HW5 := Lib.hid hw5
          have BNEW : Hid (0 ≤ P[k].1 ∧ P[k].1 < n ∧ 0 ≤ P[k].2 ∧ P[k].2 < n) := by unfold Hid; rw [HXX.out, HYY.out]; omega
          clear hw5 x5 hb5 g0 g1
          rcases Nat.eq_zero_or_pos k with hk0 | hk0
          · subst hk0
            have HNEW : Hid (PairsOk n P 1) := ⟨fun i h hi => by
              obtain rfl : i = 0 := by omega
              exact BNEW.out, fun i h hi => absurd hi (by omega)⟩
            go_quiet (fail)
            go_wp2_with fail
            exact ⟨⟨1, by omega, by go_num, X5.out.drewN _, HNEW.out⟩, by simp [intOf]; omega⟩
          · obtain ⟨m, hm⟩ : ∃ m, k = m + 1 := ⟨k - 1, by omega⟩
            have hml : m < P.length := by omega
            obtain ⟨g0, g1⟩ := HC.out m hml
            replace g0 := X5.out.cell g0; replace g1 := X5.out.cell g1
            have hsub : IntKind.i64.wrap ((k : Int) - 1) = (m : Int) := by rw [IntKind.wrap_i64]; omega
            have i0 : (0 : Int) ≤ (m : Int) := by omega
            have i1 : (m : Int) < (P.length : Int) := by omega
            have i2 : (0 : Int) < (k : Int) := by omega
            have HLT : Hid (¬ ltI P[m] P[k] → rvalidB cs ws P = false) := fun h => (HRV.out _ Iff.rfl).2 fun c => h (by subst hm; exact c.inc m hlt hlt)
            have HNEW : Hid (ltI P[m] P[k] → PairsOk n P (k + 1)) := fun h => ⟨fun i h2 hi => by
              by_cases c : i = k
              · subst c; exact BNEW.out
              · exact HR.out.bd i h2 (by omega), fun i h2 hi => by
              by_cases c : i = m
              · subst c; subst hm; exact h
              · exact HR.out.inc i h2 (by omega)⟩
            have HLI : Hid (ltI P[m] P[k] ↔ (P[m].1 < x ∨ (P[m].1 = x ∧ P[m].2 < y))) := by unfold Hid ltI; rw [HXX.out, HYY.out]
            generalize hx2 : P[m].1 = x2 at *
            generalize hy2 : P[m].2 = y2 at *
            have HX2 := Lib.hid hx2; have HY2 := Lib.hid hy2; have HMM := Lib.hid hm; clear hx2 hy2 hm HC HRV HBD
            by_cases u1 : x < x2
            · have HF := Lib.hid (HLT.out fun c => by have := HLI.out.1 c; omega)
              clear HLT HNEW HLI
              go_quiet (fail)
              go_wp2_with fail
              go_ret
              exact ⟨by rw [HF.out]; rfl, (HX.out.trans (X2.out.trans X5.out)).drewN _⟩
            · have u1' : decide (x < x2) = false := decide_eq_false u1
              by_cases u2 : x = x2
              · have u2' : (x == x2) = true := by simp [u2]
                by_cases u3 : y ≤ y2
                · have HF := Lib.hid (HLT.out fun c => by have := HLI.out.1 c; omega)
                  clear HLT HNEW HLI
                  have HU2 := Lib.hid u2
                  clear u2
                  go_quiet (fail)
                  go_wp2_with fail
                  go_ret
                  exact ⟨by rw [HF.out]; rfl, (HX.out.trans (X2.out.trans X5.out)).drewN _⟩
                · have HF := Lib.hid (HNEW.out (HLI.out.2 (.inr ⟨u2.symm, by omega⟩)))
                  have HU2 := Lib.hid u2
                  clear HLT HNEW HLI u2
                  go_quiet (fail)
                  go_wp2_with fail
                  exact ⟨⟨k + 1, by omega, by go_num, X5.out.drewN _, HF.out⟩, by simp [intOf]; omega⟩
              · have u2' : (x == x2) = false := by simp [u2]
                have HF := Lib.hid (HNEW.out (HLI.out.2 (.inl (by omega))))
                clear HLT HNEW HLI u2
                go_quiet (fail)
                go_wp2_with fail
                exact ⟨⟨k + 1, by omega, by go_num, X5.out.drewN _, HF.out⟩, by simp [intOf]; omega⟩
        · have HF : Hid (rvalidB cs ws P = true) := (HRV.out _ Iff.rfl).1 (by
            obtain rfl : k = P.length := by omega
            exact HR.out)
          go_wp2_with fail
          go_ret
          exact ⟨by rw [HF.out]; rfl, HX.out.trans (X2.out.trans HXr.out)⟩
    · have HF := Lib.hid (rvalid_six (cs := cs) (P := P) h6)
      generalize sumI ws = s at *
      go_wp2_with fail
      go_ret
      exact ⟨by rw [HF.out]; rfl, HX.out.trans X2.out⟩
end Go.Proofs.YtlnahhlddekhoaaDoor
namespace Go.Proofs.YtlnahhlddekhoaaDoor
open Go.RowKit

def castP (P : List (Nat × Nat)) : List (Int × Int) := P.map fun p => ((p.1 : Int), (p.2 : Int))
def natP (P : List (Int × Int)) : List (Nat × Nat) := P.map fun p => (p.1.toNat, p.2.toNat)
theorem castP_len (P : List (Nat × Nat)) : (castP P).length = P.length := by simp [castP]
theorem castP_get (P : List (Nat × Nat)) {i : Nat} (h : i < P.length) : (castP P)[i]'(by rw [castP_len]; exact h) = (((P[i].1 : Nat) : Int), ((P[i].2 : Nat) : Int)) := by simp [castP]
theorem natP_cast (P : List (Nat × Nat)) : natP (castP P) = P := by
  induction P with
  | nil => rfl
  | cons a r ih => simp only [castP, natP, List.map_cons] at *; rw [ih]; congr 1
theorem cast_natP {P : List (Int × Int)} (h : ∀ p ∈ P, 0 ≤ p.1 ∧ 0 ≤ p.2) : castP (natP P) = P := by
  induction P with
  | nil => rfl
  | cons a r ih =>
    have h1 := h a (by simp)
    have h2 := ih fun x hx => h x (by simp [hx])
    simp only [castP, natP, List.map_cons] at *
    rw [h2]; congr 1
    apply Prod.ext <;> simp <;> omega
theorem underMx : Tryd.prog.underlying 77 = some (.array 64 65) := by kernel_rfl
theorem sizeMx : (Tryd.prog.info? 77).map (·.size) = some 64 := by kernel_rfl
theorem rowsL_snoc (l : List (Nat × Nat)) {k : Nat} (h : k < l.length) : rowsL (l.take (k + 1)) = orAt (rowsL (l.take k)) l[k].1 (1 <<< l[k].2) := by
  unfold rowsL
  rw [List.take_succ_eq_append_getElem h, List.foldl_append]; rfl

set_option maxRecDepth 100000 in
set_option maxHeartbeats 1000000 in
theorem rows_any (cs ws : List Int) (P : List (Nat × Nat)) (v : Value) (w : World) (hv : RelV w v cs ws (castP P)) (hb : ∀ p ∈ P, p.1 < 64 ∧ p.2 < 64) :
    Calls Tryd.prog 47 #[v] w fun r w' => ∃ b, r = .returned (.pointer (some ⟨b, 0, none⟩)) ∧ w.heap.size ≤ b ∧ WordsAt 77 w' b (rowsL P) ∧ Ext w w' := by
  obtain ⟨ca, cc, wa, wcp, ia, ic, rfl, a1, a2, a3⟩ := hv.shape
  have hlen := SliceAt.len_le a3
  rw [castP_len] at *
  have HB := Lib.hid hb; have A3 := Lib.hid a3
  clear hv a1 a2 a3 hb
  go_enter Tryd.func47, Tryd.ntmps47
  go_upto_region 2 with fail
  rw [← words_zero]
  obtain ⟨W, hW⟩ : ∃ W, W = (w.alloc (.cells #[.slice ca cs.length cc, .slice wa ws.length wcp, .slice ia P.length ic] 25)).alloc (.cells (wordsV zeroM) 77) := ⟨_, rfl⟩
  rw [← hW]
  have hx : Ext w W := by rw [hW]; exact ((Ext.refl w).alloc _).alloc _
  have hM : WordsAt 77 W (w.heap.size + 1) zeroM := by
    rw [hW]
    have := WordsAt.new 77 (w.alloc (.cells #[.slice ca cs.length cc, .slice wa ws.length wcp, .slice ia P.length ic] 25)) zeroM len_zeroM zero_lt
    rw [World.size_alloc] at this; exact this
  have hB1 : W.heap[w.heap.size]? = some (.cells #[.slice ca cs.length cc, .slice wa ws.length wcp, .slice ia P.length ic] 25 (0, 0)) := by
    rw [hW, heap_alloc_old _ _ (by simp)]; exact heap_new _ _
  obtain ⟨p0, p1, p2⟩ := cells3 hB1
  have HX := Lib.hid hx; have HM := Lib.hid hM; have HW := Lib.hid hW
  clear hx hM hB1 hW
  go_wp2_with fail
  go_loopw [11] (fun i wr => ∃ k : Nat, k ≤ P.length ∧ i = .int .i64 k ∧ Ext w wr ∧ WordsAt 77 wr (w.heap.size + 1) (rowsL (P.take k))) (fun i _ => P.length - (intOf i).toNat)
  case atStart => exact ⟨0, Nat.zero_le _, rfl, HX.out, HM.out⟩
  case round =>
    obtain ⟨k, hk, rfl, hX, hM⟩ := hrel
    have HXr := Lib.hid hX; have HMr := Lib.hid hM; clear hX hM
    by_cases hlt : k < P.length
    · rcases A3.out with ⟨_, e⟩ | ⟨b, o, cap', e, _, hc⟩
      · have := castP_len P; rw [e] at this; simp at this; omega
      rw [castP_len] at e
      cases e
      obtain ⟨g0, g1⟩ := hc k (by rw [castP_len]; exact hlt)
      rw [castP_get P hlt] at g0 g1
      replace g0 := HXr.out.cell g0; replace g1 := HXr.out.cell g1
      clear hc
      have hbk := HB.out _ (List.getElem_mem hlt)
      have HS := Lib.hid (rowsL_snoc P hlt)
      generalize P[k].1 = x at *
      generalize P[k].2 = y at *
      obtain ⟨hx64, hy64⟩ := hbk
      go_upto_region 5 with fail
      obtain ⟨w5, hw5⟩ : ∃ w5, w5 = wr.alloc (.cells #[.int .i64 x, .int .i64 y] 62) := ⟨_, rfl⟩
      rw [← hw5]
      have x5 : Ext wr w5 := by rw [hw5]; exact (Ext.refl _).alloc _
      have hb5 : w5.heap[wr.heap.size]? = some (.cells #[.int .i64 x, .int .i64 y] 62 (0, 0)) := by rw [hw5]; exact heap_new _ _
      have d0 : w5.cell? ⟨wr.heap.size, 0, none⟩ = some (.int .i64 x) := by simp [World.cell?, hb5]
      have d1 : w5.cell? ⟨wr.heap.size, 1, none⟩ = some (.int .i64 y) := by simp [World.cell?, hb5]
      have c1 := (HMr.out.ext x5).cell hx64
      have c2 := (HMr.out.ext x5).frozen x
      have HM5 := Lib.hid (HMr.out.ext x5); have X5 := Lib.hid (HXr.out.trans x5); have HW5 := Lib.hid hw5
      have i0 : (0 : Int) ≤ (x : Int) := by omega
      have i1 : (x : Int) < 64 := by omega
      have i2 : (0 : Int) ≤ (y : Int) := by omega
      have i3 : (y : Int) < 64 := by omega
      have LR := Lib.hid (HM5.out.lt x)
      have HSR : Hid (orAt (rowsL (P.take k)) x (1 <<< y) = (rowsL (P.take k)).set x (rowM (rowsL (P.take k)) x ||| 1 <<< y)) := rfl
      clear hw5 x5 hb5 g0 g1
      generalize rowM (rowsL (P.take k)) x = z at *
      have HB64 : Hid (bits .or .u64 z (IntKind.u64.wrap (2 ^ y)) = ((z ||| 1 <<< y : Nat) : Int)) := by unfold Hid; rw [u64_pow hy64, u64_or LR.out (shl_lt hy64)]
      have M6 := Lib.hid (HM5.out.set hx64 (v := z ||| 1 <<< y) (Nat.or_lt_two_pow LR.out (shl_lt hy64)))
      have X6 := Lib.hid (X5.out.setCell (p := ⟨w.heap.size + 1, x, none⟩) (by simp) (.int .u64 (z ||| 1 <<< y : Nat)))
      rw [← HB64.out] at M6 X6
      go_still_tail 12, (by kernel_rfl)
      go_wp2_with fail
      exact ⟨⟨k + 1, by omega, by go_num, X6.out.drew, by rw [HS.out, HSR.out]; exact M6.out.drewN 1⟩, by simp [intOf]; omega⟩
    · have HT : Hid (P.take k = P) := List.take_of_length_le (by omega)
      rw [HT.out] at HMr
      go_wp2_with fail
      go_ret
      exact ⟨_, rfl, by omega, HMr.out, HXr.out⟩

theorem wordL_snoc (l : List Nat) {k : Nat} (h : k < l.length) : wordL (l.take (k + 1)) = wordL (l.take k) ||| 1 <<< l[k] := by
  unfold wordL
  rw [List.take_succ_eq_append_getElem h, List.foldl_append]; rfl
theorem wordL_lt {l : List Nat} (hb : ∀ x ∈ l, x < 64) : wordL l < 18446744073709551616 := by
  have key : ∀ (l : List Nat) (w : Nat), (∀ x ∈ l, x < 64) → w < 2 ^ 64 → l.foldl (fun w n => w ||| 1 <<< n) w < 2 ^ 64 := by
    intro l
    induction l with
    | nil => intro w _ h; exact h
    | cons a r ih => intro w hb h; exact ih _ (fun x hx => hb x (by simp [hx])) (Nat.or_lt_two_pow h (shl_lt (hb a (by simp))))
  exact key l 0 hb (by omega)
set_option maxHeartbeats 1000000 in
theorem wordOf_any (cs ws : List Int) (l : List Nat) (v : Value) (w : World) (hv : SetV w v cs ws (castL l)) (hb : ∀ x ∈ l, x < 64) :
    Calls Tryd.prog 50 #[v] w fun r w' => r = .returned (.int .u64 (wordL l)) ∧ Ext w w' := by
  obtain ⟨ca, cc, wa, wcp, ia, ic, rfl, a1, a2, a3⟩ := hv.shape
  have hlen := SliceAt.len_le a3
  rw [castL_len] at *
  obtain ⟨W, hW⟩ : ∃ W, W = w.alloc (.cells #[.slice ca cs.length cc, .slice wa ws.length wcp, .slice ia l.length ic] 27) := ⟨_, rfl⟩
  have hx : Ext w W := by rw [hW]; exact (Ext.refl w).alloc _
  have hB1 : W.heap[w.heap.size]? = some (.cells #[.slice ca cs.length cc, .slice wa ws.length wcp, .slice ia l.length ic] 27 (0, 0)) := by
    rw [hW]; exact heap_new _ _
  obtain ⟨p0, p1, p2⟩ := cells3 hB1
  have HB := Lib.hid hb; have A3 := Lib.hid (a3.ext hx); have HX := Lib.hid hx; have HW := Lib.hid hW
  clear hv a1 a2 a3 hb hx hB1 hW
  go_enter Tryd.func50, Tryd.ntmps50
  go_upto_region 1 with fail
  rw [← HW.out]
  go_wp2_with fail
  go_loopw [3, 9] (fun x i wr => ∃ k : Nat, k ≤ l.length ∧ i = .int .i64 k ∧ x = .int .u64 (wordL (l.take k)) ∧ Ext W wr) (fun _ i _ => l.length - (intOf i).toNat)
  case atStart => exact ⟨0, Nat.zero_le _, rfl, rfl, Ext.refl _⟩
  case round =>
    obtain ⟨k, hk, rfl, rfl, hX⟩ := hrel
    have HXr := Lib.hid hX; clear hX
    by_cases hlt : k < l.length
    · rcases A3.out with ⟨_, e⟩ | ⟨b, o, cap', e, _, hc⟩
      · have := castL_len l; rw [e] at this; simp at this; omega
      rw [castL_len] at e
      cases e
      have g0 : wr.cell? ⟨b, o + k, none⟩ = some (.int .i64 l[k]) := by
        have := HXr.out.cell (hc k (by rw [castL_len]; exact hlt)); rw [Nat.mul_one, castL_get l hlt] at this; exact this
      clear hc
      have h64 : l[k] < 64 := HB.out _ (List.getElem_mem hlt)
      have HS := Lib.hid (wordL_snoc l hlt)
      have HL := Lib.hid (wordL_lt (l := l.take k) fun x hx => HB.out x (List.mem_of_mem_take hx))
      generalize l[k] = n at *
      generalize wordL (l.take k) = z at *
      have i0 : (0 : Int) ≤ (n : Int) := by omega
      have HB64 : Hid (bits .or .u64 z (IntKind.u64.wrap (2 ^ n)) = ((z ||| 1 <<< n : Nat) : Int)) := by unfold Hid; rw [u64_pow h64, u64_or HL.out (shl_lt h64)]
      go_wp2_with fail
      exact ⟨⟨k + 1, by omega, by go_num, by rw [HS.out, HB64.out], HXr.out⟩, by simp [intOf]; omega⟩
    · have HT : Hid (l.take k = l) := List.take_of_length_le (by omega)
      rw [HT.out]
      go_wp2_with fail
      go_ret
      exact ⟨rfl, HX.out.trans HXr.out⟩
end Go.Proofs.YtlnahhlddekhoaaDoor
namespace Go.Proofs.YtlnahhlddekhoaaDoor
open Go.RowKit

theorem lt_heap {w : World} {b : Nat} {o : Obj} (h : w.heap[b]? = some o) : b < w.heap.size := (Array.getElem?_eq_some_iff.1 h).1
theorem own_lt {w : World} {base : Nat} {v : Value} {l : List Int} (h : OwnInts w base v l) (k : Nat) (hk : v.ownBlock = some k) : k < w.heap.size := by
  rcases h.2 with ⟨rfl, _⟩ | ⟨g, cap, cur, rfl, hg, hh, _⟩
  · cases hk
  · cases hk; exact lt_heap hh
theorem OwnInts.put3' {w : World} {base : Nat} {v : Value} {l : List Int} (h : OwnInts w base v l) {b : Nat} (hb : ∀ k, v.ownBlock = some k → k ≠ b) (x y z : Value) : OwnInts (Proofs.YtlnahhlddekhoaaDoor.put3 w b x y z) base v l := by
  obtain ⟨h1, h2⟩ := h
  refine ⟨h1, ?_⟩
  rcases h2 with h2 | ⟨g, cap, cur, hv, hg, hh, r⟩
  · exact .inl h2
  · exact .inr ⟨g, cap, cur, hv, hg, by rw [put3_other g (hb g (by rw [hv]; rfl))]; exact hh, r⟩
/-- A variable with a set whose list is to be filled. -/
structure SetVar (w1 : World) (b : Nat) (vc vw : Value) (cs ws : List Int) (V : World) : Prop where
  heap : V.heap[b]? = some (.cells #[vc, vw, .slice none 0 0] 27 (0, 0))
  lb : w1.heap.size ≤ b
  ext : Ext w1 V
  oc : OwnInts V w1.heap.size vc cs
  ow : OwnInts V w1.heap.size vw ws
  nc : ∀ k, vc.ownBlock = some k → k ≠ b
  nw : ∀ k, vw.ownBlock = some k → k ≠ b
theorem SetVar.mk3 {w1 V : World} {b : Nat} {vc vw x y z : Value} {cs ws : List Int} (hR : V.heap[b]? = some (.cells #[x, y, z] 27 (0, 0))) (lb : w1.heap.size ≤ b) (hx : Ext w1 V) (oc : OwnInts V w1.heap.size vc cs) (ow : OwnInts V w1.heap.size vw ws)
    (nc : ∀ k, vc.ownBlock = some k → k ≠ b) (nw : ∀ k, vw.ownBlock = some k → k ≠ b) : SetVar w1 b vc vw cs ws (put3 V b vc vw (.slice none 0 0)) :=
  ⟨put3_new hR, lb, hx.put3 lb _ _ _, oc.put3' nc _ _ _, ow.put3' nw _ _ _, nc, nw⟩
/-- The numbers below k in a word. -/
def inTo (x k : Nat) : List Nat := (List.range k).filter fun n => x.testBit n
theorem inTo_succ (x k : Nat) : inTo x (k + 1) = if x.testBit k then inTo x k ++ [k] else inTo x k := by
  unfold inTo
  rw [List.range_succ, List.filter_append]
  by_cases h : x.testBit k <;> simp [h]
theorem inTo_len (x k : Nat) : (inTo x k).length ≤ k := by unfold inTo; exact Nat.le_trans (List.length_filter_le _ _) (by simp)
/-- All blocks but b are as they were. -/
def Outside (b : Nat) (V w : World) : Prop := V.heap.size ≤ w.heap.size ∧ ∀ q, q < V.heap.size → q ≠ b → w.heap[q]? = V.heap[q]?
theorem OwnInts.outside {V w : World} {base : Nat} {v : Value} {l : List Int} (h : OwnInts V base v l) {b : Nat} (hb : ∀ k, v.ownBlock = some k → k ≠ b) (hO : Outside b V w) : OwnInts w base v l := by
  obtain ⟨h1, h2⟩ := h
  refine ⟨h1, ?_⟩
  rcases h2 with h2 | ⟨g, cap, cur, hv, hg, hh, r⟩
  · exact .inl h2
  · exact .inr ⟨g, cap, cur, hv, hg, by rw [hO.2 g (lt_heap hh) (hb g (by rw [hv]; rfl))]; exact hh, r⟩

/-- 'word>>n&1 == 1'. -/
theorem bit_test {x : Nat} (hx : x < 18446744073709551616) (k : Nat) : (bits .and .u64 ((x : Int) / 2 ^ k) 1 == 1) = x.testBit k := by
  have e1 : (x : Int) / 2 ^ k = ((x / 2 ^ k : Nat) : Int) := by push_cast; rfl
  have hle : x / 2 ^ k ≤ x := Nat.div_le_self _ _
  have e2 : bits .and .u64 ((x / 2 ^ k : Nat) : Int) ((1 : Nat) : Int) = ((x / 2 ^ k &&& 1 : Nat) : Int) := u64_and (by omega) (by omega)
  have e3 : x.testBit k = (x / 2 ^ k &&& 1 == 1) := by
    rw [Nat.testBit, Nat.shiftRight_eq_div_pow, Nat.and_comm]
    have : x / 2 ^ k &&& 1 = 0 ∨ x / 2 ^ k &&& 1 = 1 := by rw [Nat.and_one_is_mod]; omega
    rcases this with h | h <;> rw [h] <;> rfl
  rw [e1, show (1 : Int) = ((1 : Nat) : Int) from rfl, e2, e3]
  generalize x / 2 ^ k &&& 1 = z
  cases h : (z == 1) with
  | true => have : z = 1 := by simpa using h
            subst this; rfl
  | false => have : ¬ z = 1 := by simpa using h
             rw [beq_eq_false_iff_ne]; omega

set_option maxRecDepth 100000 in
set_option maxHeartbeats 2000000 in
theorem rset_any (cs ws is : List Int) (x : Nat) (v : Value) (w : World) (hv : SetV w v cs ws is) (hx64 : x < 18446744073709551616) (lc : cs.length ≤ 1000000000) (lw : ws.length ≤ 1000000000) :
    Calls Tryd.prog 48 #[v, .int .u64 x] w fun r w' => ∃ v', r = .returned v' ∧ SetO w' w.heap.size v' cs ws (castL (inWord x)) ∧ Ext w w' := by
  obtain ⟨ca, cc, wa, wcp, ia, ic, rfl, a1, a2, a3⟩ := hv.shape
  obtain ⟨w1, hW⟩ : ∃ W, W = (w.alloc (.cells #[.slice ca cs.length cc, .slice wa ws.length wcp, .slice ia is.length ic] 27)).alloc (.cells #[.slice none 0 0, .slice none 0 0, .slice none 0 0] 27) := ⟨_, rfl⟩
  have hx : Ext w w1 := by rw [hW]; exact ((Ext.refl w).alloc _).alloc _
  have hz : w1.heap.size = w.heap.size + 2 := by rw [hW]; simp
  have hB1 : w1.heap[w.heap.size]? = some (.cells #[.slice ca cs.length cc, .slice wa ws.length wcp, .slice ia is.length ic] 27 (0, 0)) := by
    rw [hW, heap_alloc_old _ _ (by simp)]; exact heap_new _ _
  have hB2 : w1.heap[w.heap.size + 1]? = some (.cells #[.slice none 0 0, .slice none 0 0, .slice none 0 0] 27 (0, 0)) := by
    rw [hW]
    have := heap_new (w.alloc (.cells #[.slice ca cs.length cc, .slice wa ws.length wcp, .slice ia is.length ic] 27)) (.cells #[.slice none 0 0, .slice none 0 0, .slice none 0 0] 27)
    rw [World.size_alloc] at this; exact this
  obtain ⟨p0, p1, p2⟩ := cells3 hB1
  have A1 := Lib.hid (a1.ext hx); have A2 := Lib.hid (a2.ext hx); have HX := Lib.hid hx; have HW := Lib.hid hW; have HZ := Lib.hid hz; have B2 := Lib.hid hB2; have LC := Lib.hid lc; have LW := Lib.hid lw; have H64 := Lib.hid hx64
  clear hv a1 a2 a3 hx hz hB1 hB2 hW lc lw hx64
  go_enter Tryd.func48, Tryd.ntmps48
  go_upto_region 1 with fail
  rw [← HW.out]
  go_cut [5] (fun s5 V => ∃ (b5 : Nat) (ua ub : Option Addr) (uc ud : Nat), s5 = .pointer (some ⟨b5, 0, none⟩) ∧ SetVar w1 b5 (.slice ua cs.length uc) (.slice ub ws.length ud) cs ws V)
  case first =>
    refine wp_region_held (S := fun w' => Ext w1 w') (by kernel_rfl) ?_
    refine wpAnyH_take (i := 0) (v := .pointer (some ⟨w.heap.size, 0, none⟩)) rfl (by kernel_rfl) (by kernel_rfl) (by kernel_rfl) (fun _ _ _ h => h) (.inl ⟨rfl, fun w' hx' => by go_simp⟩) (Ext.refl w1).drew ?_
    refine wpAnyH_take (i := 1) (v := .slice ca cs.length cc) rfl (by kernel_rfl) (by kernel_rfl) (by kernel_rfl) (fun _ _ _ h => h) (.inl ⟨rfl, fun w' hx' => by have c0 := hx'.cell p0; go_simp⟩) (Ext.refl w1).drew ?_
    refine wpAnyH_take (i := 3) (v := .pointer (some ⟨w.heap.size, 1, none⟩)) rfl (by kernel_rfl) (by kernel_rfl) (by kernel_rfl) (fun _ _ _ h => h) (.inl ⟨rfl, fun w' hx' => by go_simp⟩) (Ext.refl w1).drew ?_
    refine wpAnyH_take (i := 4) (v := .slice wa ws.length wcp) rfl (by kernel_rfl) (by kernel_rfl) (by kernel_rfl) (fun _ _ _ h => h) (.inl ⟨rfl, fun w' hx' => by have c0 := hx'.cell p1; go_simp⟩) (Ext.refl w1).drew ?_
    generalize hv0 : ({ w1 with drawn := w1.drawn + 1 } : World) = v0
    have E0 : Ext w1 v0 := by rw [← hv0]; exact (Ext.refl w1).drew
    clear hv0
    refine wpAnyH_all (rs := [2, 7]) (by kernel_rfl) (by simp) ?_
    intro i hi
    have hi' : i = 2 ∨ i = 7 := by simpa using hi
    clear hi
    rcases hi' with rfl | rfl
    · unfold wpOp
      go_simp
      refine .inl ((Clone_any cs _ _ (A1.out.ext (E0)) LC.out).mono ?_)
      rintro r v1 ⟨u2, rfl, o2, y2⟩
      obtain ⟨a2, c2, rfl⟩ := o2.ints.shape
      have E1 : Ext w1 v1 := (E0).trans y2
      have s2 : v0.heap.size ≤ v1.heap.size := y2.size
      have lo2 : ∀ k, (Value.slice a2 cs.length c2).ownBlock = some k → v0.heap.size ≤ k := o2.base
      have hi2 : ∀ k, (Value.slice a2 cs.length c2).ownBlock = some k → k < v1.heap.size := own_lt o2
      have LO2 := Lib.hid lo2; have HI2 := Lib.hid hi2
      clear lo2 hi2
      refine ⟨E1, ?_⟩
      refine wpAnyH_all (rs := [5, 7]) (by kernel_rfl) (by simp) ?_
      intro i hi
      have hi' : i = 5 ∨ i = 7 := by simpa using hi
      clear hi
      rcases hi' with rfl | rfl
      · unfold wpOp
        go_simp
        refine .inl ((Clone_any ws _ _ (A2.out.ext (E1)) LW.out).mono ?_)
        rintro r v2 ⟨u5, rfl, o5, y5⟩
        obtain ⟨a5, c5, rfl⟩ := o5.ints.shape
        have E2 : Ext w1 v2 := (E1).trans y5
        have s5 : v1.heap.size ≤ v2.heap.size := y5.size
        have lo5 : ∀ k, (Value.slice a5 ws.length c5).ownBlock = some k → v1.heap.size ≤ k := o5.base
        have hi5 : ∀ k, (Value.slice a5 ws.length c5).ownBlock = some k → k < v2.heap.size := own_lt o5
        have LO5 := Lib.hid lo5; have HI5 := Lib.hid hi5
        clear lo5 hi5
        refine ⟨E2, ?_⟩
        refine wpAnyH_all (rs := [6, 7]) (by kernel_rfl) (by simp) ?_
        intro i hi
        have hi' : i = 6 ∨ i = 7 := by simpa using hi
        clear hi
        rcases hi' with rfl | rfl
        · unfold wpOp
          go_simp
          first | refine .inl ⟨E2, ?_⟩ | refine .inl ?_
          refine wpAnyH_all (rs := [7]) (by kernel_rfl) (by simp) ?_
          intro i hi
          obtain rfl : i = 7 := by simpa using hi
          unfold wpOp
          go_simp
          refine .inl ⟨(E2).alloc _, ?_⟩
          have R4 := heap_new v2 (.cells #[.slice none 0 0, .slice none 0 0, .slice none 0 0] 27)
          have L4 : w1.heap.size ≤ v2.heap.size := Ext.size (E2)
          obtain ⟨v4, hv4⟩ : ∃ v, v = v2.alloc (.cells #[.slice none 0 0, .slice none 0 0, .slice none 0 0] 27) := ⟨_, rfl⟩
          have y7 : Ext v2 v4 := by rw [hv4]; exact (Ext.refl _).alloc _
          have s7 : v2.heap.size + 1 ≤ v4.heap.size := by rw [hv4]; simp
          rw [← hv4] at R4 ⊢
          have HV4 := Lib.hid hv4; clear hv4
          have HR4 := Lib.hid R4; clear R4
          refine wpAnyH_all (rs := [8]) (by kernel_rfl) (by simp) ?_
          intro i hi
          obtain rfl : i = 8 := by simpa using hi
          have NE2 : ∀ k, (Value.slice a2 cs.length c2).ownBlock = some k → k ≠ v2.heap.size := fun k hk => by have := LO2.out k hk; have := HI2.out k hk; omega
          have NE5 : ∀ k, (Value.slice a5 ws.length c5).ownBlock = some k → k ≠ v2.heap.size := fun k hk => by have := LO5.out k hk; have := HI5.out k hk; omega
          obtain ⟨z0, z1, z2, f0, f1, f2⟩ := block3 HR4.out
          unfold wpOp
          go_simp
          refine .inl ⟨(((E2).trans y7)).put3 L4 _ _ _, ?_⟩
          have HFIN := Lib.hid (SetVar.mk3 HR4.out L4 ((E2).trans y7) (((((o2.mono (Ext.size (E0)))).kept y5)).kept y7) (((o5.mono (Ext.size (E1)))).kept y7) NE2 NE5)
          clear z0 z1 z2 f0 f1 f2 NE2 NE5
          refine wpAnyH_done (by kernel_rfl) ?_ _
          go_wp2_with fail
          go_meet
          exact ⟨_, _, _, _, _, rfl, HFIN.out⟩
        · unfold wpOp
          go_simp
          refine .inl ⟨(E2).alloc _, ?_⟩
          have R3 := heap_new v2 (.cells #[.slice none 0 0, .slice none 0 0, .slice none 0 0] 27)
          have L3 : w1.heap.size ≤ v2.heap.size := Ext.size (E2)
          obtain ⟨v3, hv3⟩ : ∃ v, v = v2.alloc (.cells #[.slice none 0 0, .slice none 0 0, .slice none 0 0] 27) := ⟨_, rfl⟩
          have y7 : Ext v2 v3 := by rw [hv3]; exact (Ext.refl _).alloc _
          have s7 : v2.heap.size + 1 ≤ v3.heap.size := by rw [hv3]; simp
          rw [← hv3] at R3 ⊢
          have HV3 := Lib.hid hv3; clear hv3
          have HR3 := Lib.hid R3; clear R3
          refine wpAnyH_all (rs := [6]) (by kernel_rfl) (by simp) ?_
          intro i hi
          obtain rfl : i = 6 := by simpa using hi
          unfold wpOp
          go_simp
          first | refine .inl ⟨((E2).trans y7), ?_⟩ | refine .inl ?_
          refine wpAnyH_all (rs := [8]) (by kernel_rfl) (by simp) ?_
          intro i hi
          obtain rfl : i = 8 := by simpa using hi
          have NE2 : ∀ k, (Value.slice a2 cs.length c2).ownBlock = some k → k ≠ v2.heap.size := fun k hk => by have := LO2.out k hk; have := HI2.out k hk; omega
          have NE5 : ∀ k, (Value.slice a5 ws.length c5).ownBlock = some k → k ≠ v2.heap.size := fun k hk => by have := LO5.out k hk; have := HI5.out k hk; omega
          obtain ⟨z0, z1, z2, f0, f1, f2⟩ := block3 HR3.out
          unfold wpOp
          go_simp
          refine .inl ⟨(((E2).trans y7)).put3 L3 _ _ _, ?_⟩
          have HFIN := Lib.hid (SetVar.mk3 HR3.out L3 ((E2).trans y7) (((((o2.mono (Ext.size (E0)))).kept y5)).kept y7) (((o5.mono (Ext.size (E1)))).kept y7) NE2 NE5)
          clear z0 z1 z2 f0 f1 f2 NE2 NE5
          refine wpAnyH_done (by kernel_rfl) ?_ _
          go_wp2_with fail
          go_meet
          exact ⟨_, _, _, _, _, rfl, HFIN.out⟩
      · unfold wpOp
        go_simp
        refine .inl ⟨(E1).alloc _, ?_⟩
        have R2 := heap_new v1 (.cells #[.slice none 0 0, .slice none 0 0, .slice none 0 0] 27)
        have L2 : w1.heap.size ≤ v1.heap.size := Ext.size (E1)
        obtain ⟨v2, hv2⟩ : ∃ v, v = v1.alloc (.cells #[.slice none 0 0, .slice none 0 0, .slice none 0 0] 27) := ⟨_, rfl⟩
        have y7 : Ext v1 v2 := by rw [hv2]; exact (Ext.refl _).alloc _
        have s7 : v1.heap.size + 1 ≤ v2.heap.size := by rw [hv2]; simp
        rw [← hv2] at R2 ⊢
        have HV2 := Lib.hid hv2; clear hv2
        have HR2 := Lib.hid R2; clear R2
        refine wpAnyH_all (rs := [5]) (by kernel_rfl) (by simp) ?_
        intro i hi
        obtain rfl : i = 5 := by simpa using hi
        unfold wpOp
        go_simp
        refine .inl ((Clone_any ws _ _ (A2.out.ext (((E1).trans y7))) LW.out).mono ?_)
        rintro r v3 ⟨u5, rfl, o5, y5⟩
        obtain ⟨a5, c5, rfl⟩ := o5.ints.shape
        have E3 : Ext w1 v3 := (((E1).trans y7)).trans y5
        have s5 : v2.heap.size ≤ v3.heap.size := y5.size
        have lo5 : ∀ k, (Value.slice a5 ws.length c5).ownBlock = some k → v2.heap.size ≤ k := o5.base
        have hi5 : ∀ k, (Value.slice a5 ws.length c5).ownBlock = some k → k < v3.heap.size := own_lt o5
        have LO5 := Lib.hid lo5; have HI5 := Lib.hid hi5
        clear lo5 hi5
        refine ⟨E3, ?_⟩
        refine wpAnyH_all (rs := [6]) (by kernel_rfl) (by simp) ?_
        intro i hi
        obtain rfl : i = 6 := by simpa using hi
        unfold wpOp
        go_simp
        first | refine .inl ⟨E3, ?_⟩ | refine .inl ?_
        refine wpAnyH_all (rs := [8]) (by kernel_rfl) (by simp) ?_
        intro i hi
        obtain rfl : i = 8 := by simpa using hi
        have NE2 : ∀ k, (Value.slice a2 cs.length c2).ownBlock = some k → k ≠ v1.heap.size := fun k hk => by have := LO2.out k hk; have := HI2.out k hk; omega
        have NE5 : ∀ k, (Value.slice a5 ws.length c5).ownBlock = some k → k ≠ v1.heap.size := fun k hk => by have := LO5.out k hk; have := HI5.out k hk; omega
        obtain ⟨z0, z1, z2, f0, f1, f2⟩ := block3 ((y5.block _ (lt_heap HR2.out)).trans HR2.out)
        unfold wpOp
        go_simp
        refine .inl ⟨(E3).put3 L2 _ _ _, ?_⟩
        have HFIN := Lib.hid (SetVar.mk3 ((y5.block _ (lt_heap HR2.out)).trans HR2.out) L2 E3 (((((o2.mono (Ext.size (E0)))).kept y7)).kept y5) (o5.mono (Ext.size (((E1).trans y7)))) NE2 NE5)
        clear z0 z1 z2 f0 f1 f2 NE2 NE5
        refine wpAnyH_done (by kernel_rfl) ?_ _
        go_wp2_with fail
        go_meet
        exact ⟨_, _, _, _, _, rfl, HFIN.out⟩
    · unfold wpOp
      go_simp
      refine .inl ⟨(E0).alloc _, ?_⟩
      have R1 := heap_new v0 (.cells #[.slice none 0 0, .slice none 0 0, .slice none 0 0] 27)
      have L1 : w1.heap.size ≤ v0.heap.size := Ext.size (E0)
      obtain ⟨v1, hv1⟩ : ∃ v, v = v0.alloc (.cells #[.slice none 0 0, .slice none 0 0, .slice none 0 0] 27) := ⟨_, rfl⟩
      have y7 : Ext v0 v1 := by rw [hv1]; exact (Ext.refl _).alloc _
      have s7 : v0.heap.size + 1 ≤ v1.heap.size := by rw [hv1]; simp
      rw [← hv1] at R1 ⊢
      have HV1 := Lib.hid hv1; clear hv1
      have HR1 := Lib.hid R1; clear R1
      refine wpAnyH_all (rs := [2]) (by kernel_rfl) (by simp) ?_
      intro i hi
      obtain rfl : i = 2 := by simpa using hi
      unfold wpOp
      go_simp
      refine .inl ((Clone_any cs _ _ (A1.out.ext (((E0).trans y7))) LC.out).mono ?_)
      rintro r v2 ⟨u2, rfl, o2, y2⟩
      obtain ⟨a2, c2, rfl⟩ := o2.ints.shape
      have E2 : Ext w1 v2 := (((E0).trans y7)).trans y2
      have s2 : v1.heap.size ≤ v2.heap.size := y2.size
      have lo2 : ∀ k, (Value.slice a2 cs.length c2).ownBlock = some k → v1.heap.size ≤ k := o2.base
      have hi2 : ∀ k, (Value.slice a2 cs.length c2).ownBlock = some k → k < v2.heap.size := own_lt o2
      have LO2 := Lib.hid lo2; have HI2 := Lib.hid hi2
      clear lo2 hi2
      refine ⟨E2, ?_⟩
      refine wpAnyH_all (rs := [5]) (by kernel_rfl) (by simp) ?_
      intro i hi
      obtain rfl : i = 5 := by simpa using hi
      unfold wpOp
      go_simp
      refine .inl ((Clone_any ws _ _ (A2.out.ext (E2)) LW.out).mono ?_)
      rintro r v3 ⟨u5, rfl, o5, y5⟩
      obtain ⟨a5, c5, rfl⟩ := o5.ints.shape
      have E3 : Ext w1 v3 := (E2).trans y5
      have s5 : v2.heap.size ≤ v3.heap.size := y5.size
      have lo5 : ∀ k, (Value.slice a5 ws.length c5).ownBlock = some k → v2.heap.size ≤ k := o5.base
      have hi5 : ∀ k, (Value.slice a5 ws.length c5).ownBlock = some k → k < v3.heap.size := own_lt o5
      have LO5 := Lib.hid lo5; have HI5 := Lib.hid hi5
      clear lo5 hi5
      refine ⟨E3, ?_⟩
      refine wpAnyH_all (rs := [6]) (by kernel_rfl) (by simp) ?_
      intro i hi
      obtain rfl : i = 6 := by simpa using hi
      unfold wpOp
      go_simp
      first | refine .inl ⟨E3, ?_⟩ | refine .inl ?_
      refine wpAnyH_all (rs := [8]) (by kernel_rfl) (by simp) ?_
      intro i hi
      obtain rfl : i = 8 := by simpa using hi
      have NE2 : ∀ k, (Value.slice a2 cs.length c2).ownBlock = some k → k ≠ v0.heap.size := fun k hk => by have := LO2.out k hk; have := HI2.out k hk; omega
      have NE5 : ∀ k, (Value.slice a5 ws.length c5).ownBlock = some k → k ≠ v0.heap.size := fun k hk => by have := LO5.out k hk; have := HI5.out k hk; omega
      obtain ⟨z0, z1, z2, f0, f1, f2⟩ := block3 ((y5.block _ (lt_heap ((y2.block _ (lt_heap HR1.out)).trans HR1.out))).trans ((y2.block _ (lt_heap HR1.out)).trans HR1.out))
      unfold wpOp
      go_simp
      refine .inl ⟨(E3).put3 L1 _ _ _, ?_⟩
      have HFIN := Lib.hid (SetVar.mk3 ((y5.block _ (lt_heap ((y2.block _ (lt_heap HR1.out)).trans HR1.out))).trans ((y2.block _ (lt_heap HR1.out)).trans HR1.out)) L1 E3 (((o2.mono (Ext.size (((E0).trans y7))))).kept y5) (o5.mono (Ext.size (E2))) NE2 NE5)
      clear z0 z1 z2 f0 f1 f2 NE2 NE5
      refine wpAnyH_done (by kernel_rfl) ?_ _
      go_wp2_with fail
      go_meet
      exact ⟨_, _, _, _, _, rfl, HFIN.out⟩
  case rest =>
    obtain ⟨b5, ua, ub, uc, ud, rfl, hS⟩ := hcut
    have HS := Lib.hid hS; clear hS
    generalize wc = V at *
    go_wp2_with fail
    go_loopw [14] (fun i wr => ∃ (k : Nat) (ta : Option Addr) (tc : Nat), k ≤ 64 ∧ i = .int .i64 k ∧ Outside b5 V wr ∧ Ext w wr ∧ wr.heap[b5]? = some (.cells #[.slice ua cs.length uc, .slice ub ws.length ud, .slice ta (inTo x k).length tc] 27 (0, 0)) ∧ OwnInts wr V.heap.size (.slice ta (inTo x k).length tc) (castL (inTo x k))) (fun i _ => 64 - (intOf i).toNat)
    case atStart => exact ⟨0, none, 0, Nat.zero_le _, rfl, ⟨Nat.le_refl _, fun _ _ _ => rfl⟩, HX.out.trans HS.out.ext, HS.out.heap, OwnInts.nil _ _⟩
    case round =>
      obtain ⟨k, ta, tc, hk, rfl, hO, hX, hR, hI⟩ := hrel
      have HO := Lib.hid hO; have HXr := Lib.hid hX; have HR := Lib.hid hR; have HI := Lib.hid hI
      clear hO hX hR hI
      obtain ⟨c0, c1, c2, f0, f1, f2⟩ := block3 HR.out
      by_cases hlt : k < 64
      · have hbt := bit_test H64.out k
        have HSU := Lib.hid (inTo_succ x k)
        have HLN := Lib.hid (inTo_len x k)
        have i0 : (0 : Int) ≤ (k : Int) := by omega
        have i1 : (k : Int) < 64 := by omega
        have hb5 : b5 < V.heap.size := lt_heap HS.out.heap
        cases hc : x.testBit k with
        | true =>
          rw [hc] at hbt HSU
          go_wp2_with (at_builtin; refine wpList_append_int rfl (.tmp 23) (.tmp 25) rfl V.heap.size wr _ _ (k : Int) rfl rfl HI.out (by have := HLN.out; rw [castL_len]; omega) HO.out.1 ?_)
          intro v' w' hown' hg
          rw [show castL (inTo x k) ++ [(k : Int)] = castL (inTo x (k + 1)) by rw [HSU.out, if_pos (by first | rfl | trivial), castL_snoc]] at hown'
          obtain ⟨ta', tc', rfl⟩ := hown'.ints.shape
          have hnb : ∀ q, q < V.heap.size → w'.heap[q]? = wr.heap[q]? := fun q hq => hg.block q (by have := HO.out.1; omega) (fun e => by have := HI.out.base q e.symm; omega)
          have hR' := (hnb b5 hb5).trans HR.out
          obtain ⟨d0, d1, d2, e0, e1, e2⟩ := block3 hR'
          rw [castL_len] at hown' ⊢
          have hR2 := heap_setCell_same w' b5 2 _ _ (.slice ta' (inTo x (k + 1)).length tc') hR'
          have hoth : ∀ q, q ≠ b5 → (w'.setCell ⟨b5, 2, none⟩ (.slice ta' (inTo x (k + 1)).length tc')).heap[q]? = w'.heap[q]? := fun q hq => heap_setCell_other _ _ _ _ hq
          have HFIN : Hid (Outside b5 V (w'.setCell ⟨b5, 2, none⟩ (.slice ta' (inTo x (k + 1)).length tc')) ∧ Ext w (w'.setCell ⟨b5, 2, none⟩ (.slice ta' (inTo x (k + 1)).length tc')) ∧ (w'.setCell ⟨b5, 2, none⟩ (.slice ta' (inTo x (k + 1)).length tc')).heap[b5]? = some (.cells #[.slice ua cs.length uc, .slice ub ws.length ud, .slice ta' (inTo x (k + 1)).length tc'] 27 (0, 0)) ∧ OwnInts (w'.setCell ⟨b5, 2, none⟩ (.slice ta' (inTo x (k + 1)).length tc')) V.heap.size (.slice ta' (inTo x (k + 1)).length tc') (castL (inTo x (k + 1)))) := by
            refine ⟨⟨?_, fun q hq hne => ?_⟩, ?_, hR2, ?_⟩
            · have h1 := hg.size; have h2 := HO.out.1
              rw [show (w'.setCell ⟨b5, 2, none⟩ (.slice ta' (inTo x (k + 1)).length tc')).heap.size = w'.heap.size by simp [World.setCell]]; omega
            · rw [hoth q hne, hnb q hq]; exact HO.out.2 q hq hne
            · exact (HXr.out.grown hg (fun q hq => by have := HI.out.base q hq; have := HX.out.size; have := HS.out.ext.size; omega)).setCell (p := ⟨b5, 2, none⟩) (by have := HS.out.lb; have := HX.out.size; simp; omega) _
            · obtain ⟨h1, h2⟩ := hown'
              refine ⟨h1, ?_⟩
              rcases h2 with h2 | ⟨g, cap, cur, hv, hg2, hh, r⟩
              · exact .inl h2
              · exact .inr ⟨g, cap, cur, hv, hg2, by rw [hoth g (by omega)]; exact hh, r⟩
          clear hR2 hoth hnb hR' hown' hg
          go_wp2_with fail
          exact ⟨⟨k + 1, _, _, by omega, by go_num, HFIN.out⟩, by simp [intOf]; omega⟩
        | false =>
          rw [hc] at hbt HSU
          have HSE : Hid (inTo x (k + 1) = inTo x k) := by unfold Hid; rw [HSU.out]; rfl
          go_wp2_with fail
          exact ⟨⟨k + 1, ta, tc, by omega, by go_num, HO.out, HXr.out, by rw [HSE.out]; exact HR.out, by rw [HSE.out]; exact HI.out⟩, by simp [intOf]; omega⟩
      · obtain rfl : k = 64 := by omega
        have HE : Hid (inTo x 64 = inWord x) := rfl
        rw [HE.out] at HR HI c2
        have hR4 : wr.heap[w.heap.size + 1]? = some (.cells #[.slice none 0 0, .slice none 0 0, .slice none 0 0] 27 (0, 0)) := by
          have h1 := HZ.out; have h2 := HS.out.lb; have h3 := HS.out.ext.size
          rw [HO.out.2 _ (by omega) (by omega), HS.out.ext.block _ (by omega)]; exact B2.out
        obtain ⟨z0, z1, z2, e0, e1, e2⟩ := block3 hR4
        have HR5 := Lib.hid (put3_new (x := .slice ua cs.length uc) (y := .slice ub ws.length ud) (z := .slice ta (inWord x).length tc) hR4)
        have HFIN : Hid (SetO (put3 wr (w.heap.size + 1) (.slice ua cs.length uc) (.slice ub ws.length ud) (.slice ta (inWord x).length tc)) w.heap.size (.agg #[.slice ua cs.length uc, .slice ub ws.length ud, .slice ta (inWord x).length tc]) cs ws (castL (inWord x)) ∧ Ext w (put3 wr (w.heap.size + 1) (.slice ua cs.length uc) (.slice ub ws.length ud) (.slice ta (inWord x).length tc))) := by
          have h1 := HZ.out; have h2 := HS.out.lb; have h3 := HS.out.ext.size
          have g1 := HS.out.oc.outside HS.out.nc HO.out
          have g2 := HS.out.ow.outside HS.out.nw HO.out
          exact ⟨⟨_, _, _, rfl, (g1.put3 (by omega) _ _ _).mono (by omega), (g2.put3 (by omega) _ _ _).mono (by omega), (HI.out.put3 (by omega) _ _ _).mono (by omega)⟩, HXr.out.put3 (by omega) _ _ _⟩
        clear hR4
        go_wp2_with fail
        exact bodyPost_ret (v := .agg #[.slice ua cs.length uc, .slice ub ws.length ud, .slice ta (inWord x).length tc]) (results_cell_row Tryd.results48 _ _ (w.heap.size + 1) 27 _ (0, 0) _ rfl HR5.out Tryd.underlying27 rfl sizeSet) rfl ⟨_, rfl, HFIN.out.1, HFIN.out.2⟩
end Go.Proofs.YtlnahhlddekhoaaDoor
