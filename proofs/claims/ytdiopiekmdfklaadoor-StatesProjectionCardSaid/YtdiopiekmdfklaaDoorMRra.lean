/-
  ref10.Rising.
  ref10.Bits.
  ref10.Valid, ref10.Same, ref15.Alike, ref15.Fits. Printed by gen_rr4.py.
-/
import Derived.Test.YtdiopiekmdfklaaDoorMBmc
import Derived.Test.YtdiopiekmdfklaaDoorMQf
namespace Go.Proofs.YtdiopiekmdfklaaDoor
open Go.RowKit

structure RisOk (n : Int) (l : List Int) (k : Nat) : Prop where
  bd : ∀ (i : Nat) (h : i < l.length), i < k → 0 ≤ l[i] ∧ l[i] < n
  inc : ∀ (i : Nat) (h : i + 1 < l.length), i + 1 < k → l[i] < l[i + 1]
open Classical in
noncomputable def risB (n : Int) (l : List Int) : Bool := decide (RisOk n l l.length)
theorem ris_iff {n : Int} {l : List Int} : risB n l = true ↔ RisOk n l l.length := by simp only [risB, decide_eq_true_eq]
theorem ris_no {n : Int} {l : List Int} (h : ¬ RisOk n l l.length) : risB n l = false := by rw [Bool.eq_false_iff]; exact fun c => h (ris_iff.1 c)
set_option maxRecDepth 100000 in
set_option maxHeartbeats 2000000 in
theorem RRising_any (l : List Int) (n : Int) (v : Value) (w : World) (hl : Ints w v l) : Calls Tryd.prog 54 #[v, .int .i64 n] w fun r w' => r = .returned (.bool (risB n l)) ∧ Ext w w' := by
  obtain ⟨a, cap, rfl⟩ := hl.shape
  have hlen := SliceAt.len_le hl
  have HL := Lib.hid hl
  have HT : Hid (RisOk n l l.length → risB n l = true) := fun h => ris_iff.2 h
  have HF : Hid (¬ RisOk n l l.length → risB n l = false) := fun h => ris_no h
  clear hl
  go_enter Tryd.func54, Tryd.ntmps54
  go_wp2_with fail
  go_loopw [5] (fun i wr => ∃ k : Nat, k ≤ l.length ∧ i = .int .i64 k ∧ Ext w wr ∧ RisOk n l k) (fun i _ => l.length - (intOf i).toNat)
  case atStart => exact ⟨0, Nat.zero_le _, rfl, Ext.refl _, ⟨fun i _ h => absurd h (by omega), fun i _ h => absurd h (by omega)⟩⟩
  case round =>
    obtain ⟨k, hk, rfl, hX, hR⟩ := hrel
    have HX := Lib.hid hX; have HR := Lib.hid hR; clear hX hR
    by_cases hlt : k < l.length
    · rcases HL.out with ⟨_, e⟩ | ⟨b, o, cap', e, _, hc⟩
      · rw [e] at hlt; simp at hlt
      cases e
      have g0 : wr.cell? ⟨b, o + k, none⟩ = some (.int .i64 l[k]) := by have := HX.out.cell (hc k hlt); rw [Nat.mul_one] at this; exact this
      have HC := Lib.hid hc; clear hc
      have HBD : Hid (¬ (0 ≤ l[k] ∧ l[k] < n) → risB n l = false) := fun h => HF.out fun c => h (c.bd k hlt hlt)
      have HBN : Hid (0 ≤ l[k] → l[k] < n → 0 ≤ l[k] ∧ l[k] < n) := fun h1 h2 => ⟨h1, h2⟩
      generalize hx : l[k] = x at *
      have HXX := Lib.hid hx; clear hx
      have i0 : (0 : Int) ≤ (k : Int) := by omega
      have i1 : (k : Int) < (l.length : Int) := by omega
      by_cases t1 : x < 0
      · have HN := Lib.hid (HBD.out (by omega))
        go_upto_region 4 with fail
        go_quiet (fail)
        go_wp2_with fail
        go_ret
        exact ⟨by rw [HN.out]; rfl, HX.out.drewN _⟩
      have t1' : decide (x < 0) = false := decide_eq_false t1
      by_cases t2 : n ≤ x
      · have HN := Lib.hid (HBD.out (by omega))
        go_upto_region 4 with fail
        go_quiet (fail)
        go_wp2_with fail
        go_ret
        exact ⟨by rw [HN.out]; rfl, HX.out.drewN _⟩
      have t2' : decide (n ≤ x) = false := decide_eq_false t2
      have BNEW : Hid (0 ≤ l[k] ∧ l[k] < n) := by unfold Hid; rw [HXX.out]; omega
      rcases Nat.eq_zero_or_pos k with hk0 | hk0
      · subst hk0
        have HNEW : Hid (RisOk n l 1) := ⟨fun i h hi => by
          obtain rfl : i = 0 := by omega
          exact BNEW.out, fun i h hi => absurd hi (by omega)⟩
        have g00 := g0
        rw [Nat.add_zero] at g00
        go_upto_region 4 with fail
        go_quiet (fail)
        go_wp2_with fail
        exact ⟨⟨1, by omega, by go_num, HX.out.drewN _, HNEW.out⟩, by simp [intOf]; omega⟩
      · obtain ⟨m, hm⟩ : ∃ m, k = m + 1 := ⟨k - 1, by omega⟩
        have hml : m < l.length := by omega
        have g1 : wr.cell? ⟨b, o + m, none⟩ = some (.int .i64 l[m]) := by have := HX.out.cell (HC.out m hml); rw [Nat.mul_one] at this; exact this
        have hsub : IntKind.i64.wrap ((k : Int) - 1) = (m : Int) := by rw [IntKind.wrap_i64]; omega
        have j0 : (0 : Int) ≤ (m : Int) := by omega
        have j1 : (m : Int) < (l.length : Int) := by omega
        have j2 : (0 : Int) < (k : Int) := by omega
        have HLT : Hid (¬ l[m] < l[k] → risB n l = false) := fun h => HF.out fun c => h (by subst hm; exact c.inc m hlt hlt)
        have HNEW : Hid (l[m] < l[k] → RisOk n l (k + 1)) := fun h => ⟨fun i h2 hi => by
          by_cases c : i = k
          · subst c; exact BNEW.out
          · exact HR.out.bd i h2 (by omega), fun i h2 hi => by
          by_cases c : i = m
          · subst c; subst hm; exact h
          · exact HR.out.inc i h2 (by omega)⟩
        rw [HXX.out] at HLT HNEW
        generalize hy : l[m] = y at *
        have HYY := Lib.hid hy; have HMM := Lib.hid hm; clear hy hm
        by_cases u : x ≤ y
        · have HN := Lib.hid (HLT.out (by omega))
          clear HLT HNEW
          go_upto_region 4 with fail
          go_quiet (fail)
          go_wp2_with fail
          go_ret
          exact ⟨by rw [HN.out]; rfl, HX.out.drewN _⟩
        · have HN := Lib.hid (HNEW.out (by omega))
          have u' : decide (x ≤ y) = false := decide_eq_false u
          clear HLT HNEW
          go_upto_region 4 with fail
          go_quiet (fail)
          go_wp2_with fail
          exact ⟨⟨k + 1, by omega, by go_num, HX.out.drewN _, HN.out⟩, by simp [intOf]; omega⟩
    · have HN : Hid (risB n l = true) := HT.out (by
        obtain rfl : k = l.length := by omega
        exact HR.out)
      go_wp2_with fail
      go_ret
      exact ⟨by rw [HN.out]; rfl, HX.out⟩
end Go.Proofs.YtdiopiekmdfklaaDoor
namespace Go.Proofs.YtdiopiekmdfklaaDoor
open Go.RowKit

structure BitOk (cs ws : List Int) (k : Nat) : Prop where
  bd : ∀ i, i < k → 0 ≤ cs.getD i 0 ∧ cs.getD i 0 < 32 ∧ 1 ≤ ws.getD i 0 ∧ ws.getD i 0 ≤ 8
  inc : ∀ i, i + 1 < k → cs.getD i 0 < cs.getD (i + 1) 0
/-- What Bits computes. -/
def bitsI (cs ws : List Int) (most : Int) : Int := if shapeB cs ws = true ∧ sumI ws ≤ most then sumI ws else -1
theorem shape_len {cs ws : List Int} (h : shapeB cs ws = true) : cs.length ≤ 32 := by
  obtain ⟨_, h2, h3⟩ := shape_iff.1 h
  have key : ∀ i, i < cs.length → (i : Int) ≤ cs.getD i 0 := by
    intro i
    induction i with
    | zero => intro hi; have := (h3 0 hi).1; omega
    | succ i ih => intro hi; have := ih (by omega); have := inc_iff.1 h2 i hi; omega
  rcases Nat.eq_zero_or_pos cs.length with h0 | h0
  · omega
  · have h4 := key (cs.length - 1) (by omega)
    have h5 := (h3 (cs.length - 1) (by omega)).2.1
    omega
theorem shape_ok {cs ws : List Int} : shapeB cs ws = true ↔ cs.length = ws.length ∧ BitOk cs ws cs.length := by
  rw [shape_iff, inc_iff]
  exact ⟨fun ⟨a, b, c⟩ => ⟨a, c, b⟩, fun ⟨a, c⟩ => ⟨a, c.inc, c.bd⟩⟩
theorem bits_no {cs ws : List Int} {most : Int} (h : ¬ shapeB cs ws = true) : bitsI cs ws most = -1 := by unfold bitsI; rw [if_neg (fun c => h c.1)]
theorem BitOk.zero (cs ws : List Int) : BitOk cs ws 0 := ⟨fun i h => absurd h (by omega), fun i h => absurd h (by omega)⟩
theorem bitok_sum {cs ws : List Int} {k : Nat} (h : BitOk cs ws k) (hk : k ≤ ws.length) : 0 ≤ sumI (ws.take k) ∧ sumI (ws.take k) ≤ 8 * k := by
  have hb : ∀ x ∈ ws.take k, 1 ≤ x ∧ x ≤ 8 := by
    intro x hx
    obtain ⟨i, hi, rfl⟩ := List.getElem_of_mem hx
    have hi2 := hi
    rw [List.length_take] at hi2
    have := h.bd i (by omega)
    have e : (ws.take k)[i] = ws.getD i 0 := by simp [List.getD, show i < ws.length by omega]
    rw [e]; exact this.2.2
  have h2 := sum_bound hb (ws.take k).length (Nat.le_refl _)
  rw [List.take_length, List.length_take] at h2
  have : min k ws.length = k := by omega
  rw [this] at h2; exact h2
set_option maxRecDepth 100000 in
set_option maxHeartbeats 4000000 in
theorem RBits_any (cs ws : List Int) (most : Int) (vc vw : Value) (w : World) (hc : Ints w vc cs) (hw : Ints w vw ws) : Calls Tryd.prog 21 #[vc, vw, .int .i64 most] w fun r w' => r = .returned (.int .i64 (bitsI cs ws most)) ∧ Ext w w' := by
  obtain ⟨ca, cc, rfl⟩ := hc.shape
  obtain ⟨wa, wc, rfl⟩ := hw.shape
  have hlen := SliceAt.len_le hc
  have hlen2 := SliceAt.len_le hw
  have HC0 := Lib.hid hc; have HW0 := Lib.hid hw
  have HNO : Hid (¬ shapeB cs ws = true → bitsI cs ws most = -1) := fun h => bits_no h
  clear hc hw
  by_cases hl : cs.length = ws.length
  · by_cases h32 : cs.length ≤ 32
    · have HBN : Hid (¬ BitOk cs ws cs.length → bitsI cs ws most = -1) := fun h => HNO.out fun c => h (shape_ok.1 c).2
      have HYES : Hid (BitOk cs ws cs.length → shapeB cs ws = true) := fun h => shape_ok.2 ⟨hl, h⟩
      rw [← hl] at HW0 hlen2 ⊢
      have HL := Lib.hid hl
      clear hl
      go_enter Tryd.func21, Tryd.ntmps21
      go_wp2_with fail
      go_loopw [7, 8] (fun s i wr => ∃ k : Nat, k ≤ cs.length ∧ i = .int .i64 k ∧ s = .int .i64 (sumI (ws.take k)) ∧ Ext w wr ∧ BitOk cs ws k) (fun _ i _ => cs.length - (intOf i).toNat)
      case atStart => exact ⟨0, Nat.zero_le _, rfl, rfl, Ext.refl _, BitOk.zero _ _⟩
      case round =>
        obtain ⟨k, hk, rfl, rfl, hX, hR⟩ := hrel
        have HX := Lib.hid hX; have HR := Lib.hid hR
        have hsb : 0 ≤ sumI (ws.take k) ∧ sumI (ws.take k) ≤ 8 * k := bitok_sum hR (by rw [← HL.out]; exact hk)
        obtain ⟨hs0, hs1⟩ := hsb
        clear hX hR
        by_cases hlt : k < cs.length
        · have hlw : k < ws.length := by rw [← HL.out]; exact hlt
          have g0 := HX.out
          rcases HC0.out with ⟨_, e⟩ | ⟨b, o, cap', e, _, hc⟩
          · rw [e] at hlt; simp at hlt
          cases e
          rcases HW0.out with ⟨_, e⟩ | ⟨b2, o2, cap2, e, _, hc2⟩
          · rw [e] at hlw; simp at hlw
          have e2 := e
          rw [← HL.out] at e2
          cases e2
          clear e
          have g0 : wr.cell? ⟨b, o + k, none⟩ = some (.int .i64 cs[k]) := by have := HX.out.cell (hc k hlt); rw [Nat.mul_one] at this; exact this
          have g1 : wr.cell? ⟨b2, o2 + k, none⟩ = some (.int .i64 ws[k]) := by have := HX.out.cell (hc2 k hlw); rw [Nat.mul_one] at this; exact this
          have HC := Lib.hid hc; clear hc hc2
          have HBD : Hid (¬ (0 ≤ cs[k] ∧ cs[k] < 32 ∧ 1 ≤ ws[k] ∧ ws[k] ≤ 8) → bitsI cs ws most = -1) := fun h => HBN.out fun c => h (by
            have := c.bd k hlt
            simpa [List.getD, hlt, hlw] using this)
          have HSU := Lib.hid (sum_take hlw)
          have HBN2 : Hid (0 ≤ cs[k] ∧ cs[k] < 32 ∧ 1 ≤ ws[k] ∧ ws[k] ≤ 8 → 0 ≤ cs.getD k 0 ∧ cs.getD k 0 < 32 ∧ 1 ≤ ws.getD k 0 ∧ ws.getD k 0 ≤ 8) := fun h => by
            simpa [List.getD, hlt, hlw] using h
          generalize hx : cs[k] = x at *
          generalize hy : ws[k] = y at *
          have HXX := Lib.hid hx; clear hx hy
          generalize sumI (ws.take k) = sm at *
          have i0 : (0 : Int) ≤ (k : Int) := by omega
          have i1 : (k : Int) < (cs.length : Int) := by omega
          clear hlw
          by_cases t1 : x < 0
          · have HN := Lib.hid (HBD.out (by omega))
            go_upto_region 7 with fail
            go_quiet (fail)
            go_wp2_with fail
            go_ret
            exact ⟨by rw [HN.out]; rfl, HX.out.drewN _⟩
          have t1' : decide (x < 0) = false := decide_eq_false t1
          by_cases t2 : 32 ≤ x
          · have HN := Lib.hid (HBD.out (by omega))
            go_upto_region 7 with fail
            go_quiet (fail)
            go_wp2_with fail
            go_ret
            exact ⟨by rw [HN.out]; rfl, HX.out.drewN _⟩
          have t2' : decide (32 ≤ x) = false := decide_eq_false t2
          rcases Nat.eq_zero_or_pos k with hk0 | hk0
          · subst hk0
            have g00 := g0
            rw [Nat.add_zero] at g00
            have g11 := g1
            rw [Nat.add_zero] at g11
            by_cases t3 : y < 1
            · have HN := Lib.hid (HBD.out (by omega))
              go_upto_region 7 with fail
              go_quiet (fail)
              go_wp2_with fail
              go_ret
              exact ⟨by rw [HN.out]; rfl, HX.out.drewN _⟩
            have t3' : decide (y < 1) = false := decide_eq_false t3
            by_cases t4 : 8 < y
            · have HN := Lib.hid (HBD.out (by omega))
              go_upto_region 7 with fail
              go_quiet (fail)
              go_wp2_with fail
              go_ret
              exact ⟨by rw [HN.out]; rfl, HX.out.drewN _⟩
            have t4' : decide (8 < y) = false := decide_eq_false t4
            have HNW : Hid (BitOk cs ws (0 + 1)) := ⟨fun i hi => by
              obtain rfl : i = 0 := by omega
              exact HBN2.out (by omega), fun i hi => absurd hi (by omega)⟩
            go_upto_region 7 with fail
            go_quiet (fail)
            go_wp2_with fail
            exact ⟨⟨0 + 1, by omega, by go_num, by rw [HSU.out], HX.out.drewN _, HNW.out⟩, by simp [intOf]; omega⟩
          · obtain ⟨m, hm⟩ : ∃ m, k = m + 1 := ⟨k - 1, by omega⟩
            have hml : m < cs.length := by omega
            have g2 : wr.cell? ⟨b, o + m, none⟩ = some (.int .i64 cs[m]) := by have := HX.out.cell (HC.out m hml); rw [Nat.mul_one] at this; exact this
            have hsub : IntKind.i64.wrap ((k : Int) - 1) = (m : Int) := by rw [IntKind.wrap_i64]; omega
            have j0 : (0 : Int) ≤ (m : Int) := by omega
            have j1 : (m : Int) < (cs.length : Int) := by omega
            have j2 : (0 : Int) < (k : Int) := by omega
            have HLT : Hid (¬ cs[m] < cs[k] → bitsI cs ws most = -1) := fun h => HBN.out fun c => h (by
              have := c.inc m (by omega)
              rw [← hm] at this
              simpa [List.getD, hlt, hml] using this)
            have HNEW : Hid (cs[m] < cs[k] → 0 ≤ cs.getD k 0 ∧ cs.getD k 0 < 32 ∧ 1 ≤ ws.getD k 0 ∧ ws.getD k 0 ≤ 8 → BitOk cs ws (k + 1)) := fun h hb => ⟨fun i hi => by
              by_cases c : i = k
              · subst c; exact hb
              · exact HR.out.bd i (by omega), fun i hi => by
              by_cases c : i = m
              · subst c; rw [← hm]; simpa [List.getD, hlt, hml] using h
              · exact HR.out.inc i (by omega)⟩
            rw [HXX.out] at HLT HNEW
            generalize hz : cs[m] = z at *
            clear hz hm
            by_cases u : x ≤ z
            · have HN := Lib.hid (HLT.out (by omega))
              clear HLT HNEW
              go_upto_region 7 with fail
              go_quiet (fail)
              go_wp2_with fail
              go_ret
              exact ⟨by rw [HN.out]; rfl, HX.out.drewN _⟩
            have u' : decide (x ≤ z) = false := decide_eq_false u
            by_cases t3 : y < 1
            · have HN := Lib.hid (HBD.out (by omega))
              go_upto_region 7 with fail
              go_quiet (fail)
              go_wp2_with fail
              go_ret
              exact ⟨by rw [HN.out]; rfl, HX.out.drewN _⟩
            have t3' : decide (y < 1) = false := decide_eq_false t3
            by_cases t4 : 8 < y
            · have HN := Lib.hid (HBD.out (by omega))
              go_upto_region 7 with fail
              go_quiet (fail)
              go_wp2_with fail
              go_ret
              exact ⟨by rw [HN.out]; rfl, HX.out.drewN _⟩
            have t4' : decide (8 < y) = false := decide_eq_false t4
            have HNW := Lib.hid (HNEW.out (by omega) (HBN2.out (by omega)))
            clear HNEW HLT
            go_upto_region 7 with fail
            go_quiet (fail)
            go_wp2_with fail
            exact ⟨⟨k + 1, by omega, by go_num, by rw [HSU.out], HX.out.drewN _, HNW.out⟩, by simp [intOf]; omega⟩
        · obtain rfl : k = cs.length := by omega
          have HSH := Lib.hid (HYES.out HR.out)
          have HTK : Hid (sumI (ws.take cs.length) = sumI ws) := by unfold Hid; rw [HL.out, List.take_length]
          rw [HTK.out] at hs0 hs1 ⊢
          clear HTK
          by_cases hmo : sumI ws ≤ most
          · have HN : Hid (bitsI cs ws most = sumI ws) := by unfold Hid bitsI; rw [if_pos ⟨HSH.out, hmo⟩]
            generalize sumI ws = sm at *
            go_wp2_with fail
            go_ret
            exact ⟨by rw [HN.out]; rfl, HX.out⟩
          · have HN : Hid (bitsI cs ws most = -1) := by unfold Hid bitsI; rw [if_neg (fun c => hmo c.2)]
            generalize sumI ws = sm at *
            go_wp2_with fail
            go_ret
            exact ⟨by rw [HN.out]; rfl, HX.out⟩
    · have HN := Lib.hid (HNO.out fun c => h32 (shape_len c))
      rw [← hl]
      go_enter Tryd.func21, Tryd.ntmps21
      go_wp2_with fail
      go_ret
      exact ⟨by rw [HN.out]; rfl, Ext.refl _⟩
  · have HN := Lib.hid (HNO.out fun c => hl (shape_ok.1 c).1)
    have hne : ((cs.length : Int) != (ws.length : Int)) = true := by simp; omega
    go_enter Tryd.func21, Tryd.ntmps21
    go_wp2_with fail
    go_ret
    exact ⟨by rw [HN.out]; rfl, Ext.refl _⟩
theorem shape_sum0 {cs ws : List Int} (h : shapeB cs ws = true) : 0 ≤ sumI ws := by
  have := (sum_bound (shape_widths h).2 ws.length (Nat.le_refl _)).1
  rw [List.take_length] at this; exact this
theorem small_of {cs ws : List Int} (h : shapeB cs ws = true) (h2 : sumI ws ≤ 12) : smallB cs ws = true := by unfold smallB; rw [h, decide_eq_true h2]; rfl
end Go.Proofs.YtdiopiekmdfklaaDoor
namespace Go.Proofs.YtdiopiekmdfklaaDoor
open Go.RowKit

theorem ris_first {n : Int} {is : List Int} (h : RisOk n is is.length) : incB is = true ∧ (is = [] ∨ (0 ≤ is.getD 0 0 ∧ is.getD (is.length - 1) 0 < n)) := by
  refine ⟨inc_iff.2 fun i hi => ?_, ?_⟩
  · have := h.inc i hi hi
    simpa [List.getD, hi, show i < is.length by omega] using this
  · rcases Nat.eq_zero_or_pos is.length with h0 | h0
    · exact .inl (List.length_eq_zero_iff.1 h0)
    · have h1 := h.bd 0 h0 h0
      have h2 := h.bd (is.length - 1) (by omega) (by omega)
      refine .inr ⟨?_, ?_⟩
      · simpa [List.getD, h0] using h1.1
      · simpa [List.getD, show is.length - 1 < is.length by omega] using h2.2
theorem first_ris {n : Int} {is : List Int} (h1 : incB is = true) (h2 : is = [] ∨ (0 ≤ is.getD 0 0 ∧ is.getD (is.length - 1) 0 < n)) : RisOk n is is.length := by
  have hin := inc_all h1
  have e : ∀ (i : Nat) (h : i < is.length), is.getD i 0 = is[i] := fun i h => by simp [List.getD, h]
  refine ⟨fun i hi _ => ?_, fun i hi _ => ?_⟩
  · rcases h2 with rfl | ⟨h3, h4⟩
    · simp at hi
    · rw [← e i hi]
      constructor
      · rcases Nat.eq_zero_or_pos i with rfl | h0
        · exact h3
        · have := hin 0 i h0 hi; omega
      · rcases Nat.lt_or_ge i (is.length - 1) with h0 | h0
        · have := hin i (is.length - 1) h0 (by omega); omega
        · have : i = is.length - 1 := by omega
          rw [this]; exact h4
  · have := hin i (i + 1) (by omega) hi
    rw [e i (by omega), e (i + 1) hi] at this
    exact this
theorem valid_ris {cs ws is : List Int} (h : smallB cs ws = true) : validB cs ws is = risB (pw (sumI ws)) is := by
  rw [Bool.eq_iff_iff, ris_iff]
  unfold validB
  rw [h, Bool.true_and, Bool.and_eq_true, Bool.or_eq_true, Bool.and_eq_true, decide_eq_true_eq, decide_eq_true_eq, decide_eq_true_eq]
  exact ⟨fun ⟨a, b⟩ => first_ris a b, fun c => ris_first c⟩
theorem valid_small {cs ws is : List Int} (h : smallB cs ws = false) : validB cs ws is = false := by unfold validB; rw [h]; rfl

set_option maxRecDepth 100000 in
set_option maxHeartbeats 2000000 in
theorem RSValid_any (cs ws is : List Int) (v : Value) (w : World) (hv : SetV w v cs ws is) : Calls Tryd.prog 15 #[v] w fun r w' => r = .returned (.bool (validB cs ws is)) ∧ Ext w w' := by
  obtain ⟨ca, cc, wa, wcp, ia, ic, rfl, a1, a2, a3⟩ := hv.shape
  obtain ⟨W, hW⟩ : ∃ W, W = w.alloc (.cells #[.slice ca cs.length cc, .slice wa ws.length wcp, .slice ia is.length ic] 31) := ⟨_, rfl⟩
  have hx : Ext w W := by rw [hW]; exact (Ext.refl w).alloc _
  have hB1 : W.heap[w.heap.size]? = some (.cells #[.slice ca cs.length cc, .slice wa ws.length wcp, .slice ia is.length ic] 31 (0, 0)) := by rw [hW]; exact heap_new _ _
  obtain ⟨p0, p1, p2⟩ := cells3 hB1
  have A1 := Lib.hid (a1.ext hx); have A2 := Lib.hid (a2.ext hx); have A3 := Lib.hid (a3.ext hx)
  have HX := Lib.hid hx; have HW := Lib.hid hW
  clear hv a1 a2 a3 hx hW hB1
  go_enter Tryd.func15, Tryd.ntmps15
  go_upto_region 1 with fail
  rw [← HW.out]
  go_wp2_with fail
  refine (RBits_any cs ws 12 _ _ _ A1.out A2.out).mono ?_
  rintro r w1 ⟨rfl, x1⟩
  have X2 := Lib.hid x1
  have p21 := x1.cell p2
  clear x1 p0 p1 p2
  cases hsm : smallB cs ws with
  | true =>
    obtain ⟨hsh, hwd, hs0, hs12⟩ := small_sum hsm
    have hbe : bitsI cs ws 12 = sumI ws := by unfold bitsI; rw [if_pos ⟨hsh, hs12⟩]
    have HF := Lib.hid (valid_ris (is := is) hsm)
    rw [hbe]
    have hd : decide (0 ≤ sumI ws) = true := decide_eq_true hs0
    clear hbe hsh hwd hsm
    generalize sumI ws = sm at *
    go_upto_region 2 with fail
    have HX0 := Lib.hid ((Ext.refl w1).drew)
    go_region_held3 (fun w' => w'.cell? ⟨w.heap.size, 2, none⟩ = some (.slice ia is.length ic))
      (first | exact p21 | (with_reducible exact hk2) | (with_reducible exact hk1) | fail)
      ((first
        | (have hgo := HX1.out; clear hgo; go_at_call 54; refine (RRising_any is (pw sm) _ _ (A3.out.ext (X2.out.trans HX1.out))).mono ?_; rintro r w3 ⟨rfl, x3⟩; have HX2 := Lib.hid (HX1.out.trans x3); have hk2 := HX2.out.cell p21; clear x3)
        | (go_at_call 25; refine (Power_any sm _ (by omega)).mono ?_; rintro r w2 ⟨rfl, x2⟩; have HX1 := HX0; rw [x2] at HX1; have hk1 := HX1.out.cell p21; clear x2)))
    generalize risB (pw sm) is = bb at *
    go_wp2_with fail
    go_ret
    exact ⟨by rw [HF.out]; rfl, HX.out.trans (X2.out.trans HX2.out)⟩
  | false =>
    have hbe : bitsI cs ws 12 = -1 := by
      unfold bitsI; rw [if_neg]
      intro c
      rw [small_of c.1 c.2] at hsm; cases hsm
    have HF := Lib.hid (valid_small (is := is) hsm)
    rw [hbe]
    clear hbe hsm
    go_upto_region 2 with fail
    go_quiet (fail)
    go_wp2_with fail
    go_ret
    exact ⟨by rw [HF.out]; rfl, (HX.out.trans X2.out).drewN _⟩

def sameS (cs ws : List Int) (is : List Int) (cs2 ws2 : List Int) (js : List Int) : Bool := decide (cs = cs2) && decide (ws = ws2) && decide (is = js)
set_option maxRecDepth 100000 in
set_option maxHeartbeats 2000000 in
theorem RSame10_any (cs ws : List Int) (is : List Int) (cs2 ws2 : List Int) (js : List Int) (va vs : Value) (w : World) (ha : SetV w va cs ws is) (hs : SetV w vs cs2 ws2 js) : Calls Tryd.prog 20 #[va, vs] w fun r w' => r = .returned (.bool (sameS cs ws is cs2 ws2 js)) ∧ Ext w w' := by
  obtain ⟨ca, cc, wa, wcp, ia, ic, rfl, a1, a2, a3⟩ := ha.shape
  obtain ⟨ca2, cc2, wa2, wc2, ia2, ic2, rfl, b1, b2, b3⟩ := hs.shape
  obtain ⟨W, hW⟩ : ∃ W, Boxes w W (.cells #[.slice ca cs.length cc, .slice wa ws.length wcp, .slice ia is.length ic] 31) (.cells #[.slice ca2 cs2.length cc2, .slice wa2 ws2.length wc2, .slice ia2 js.length ic2] 31) := ⟨_, Boxes.mk' _ _ _⟩
  obtain ⟨p0, p1, p2⟩ := cells3 hW.b0
  obtain ⟨q0, q1, q2⟩ := cells3 hW.b1
  have HA := Lib.hid (ha.ext hW.ext); have HS := Lib.hid (hs.ext hW.ext)
  have A1 := Lib.hid (a1.ext hW.ext); have A2 := Lib.hid (a2.ext hW.ext); have C1 := Lib.hid (b1.ext hW.ext); have C2 := Lib.hid (b2.ext hW.ext); have A3 := Lib.hid (a3.ext hW.ext); have C3 := Lib.hid (b3.ext hW.ext)
  have HW := Lib.hid hW
  have HF : Hid (sameS cs ws is cs2 ws2 js = (decide (cs = cs2) && decide (ws = ws2) && decide (is = js))) := rfl
  have X0 := Lib.hid (Ext.refl W)
  clear ha hs a1 a2 a3 b1 b2 b3 hW
  go_enter Tryd.func20, Tryd.ntmps20
  go_upto_region 1 with fail
  rw [← HW.out.eq]
  go_wp2_with fail
  refine (RInts_any cs cs2 _ _ _ (A1.out.ext X0.out) (C1.out.ext X0.out)).mono ?_
  rintro r w1 ⟨rfl, x⟩
  cases h : (decide (cs = cs2)) with
  | false =>
    have HN : Hid (sameS cs ws is cs2 ws2 js = false) := by unfold Hid; rw [HF.out, h]; rfl
    have XL := Lib.hid (HW.out.ext.trans (X0.out.trans x))
    clear h x
    go_wp2_with fail
    go_ret
    exact ⟨by rw [HN.out]; rfl, XL.out⟩
  | true =>
    have H0 := Lib.hid h; have X1 := Lib.hid (X0.out.trans x)
    replace p0 := x.cell p0; replace p1 := x.cell p1; replace p2 := x.cell p2; replace q0 := x.cell q0; replace q1 := x.cell q1; replace q2 := x.cell q2
    clear h x
    go_wp2_with fail
    refine (RInts_any ws ws2 _ _ _ (A2.out.ext X1.out) (C2.out.ext X1.out)).mono ?_
    rintro r w2 ⟨rfl, x⟩
    cases h : (decide (ws = ws2)) with
    | false =>
      have HN : Hid (sameS cs ws is cs2 ws2 js = false) := by unfold Hid; rw [HF.out, H0.out, h]; rfl
      have XL := Lib.hid (HW.out.ext.trans (X1.out.trans x))
      clear h x
      go_wp2_with fail
      go_ret
      exact ⟨by rw [HN.out]; rfl, XL.out⟩
    | true =>
      have H1 := Lib.hid h; have X2 := Lib.hid (X1.out.trans x)
      replace p0 := x.cell p0; replace p1 := x.cell p1; replace p2 := x.cell p2; replace q0 := x.cell q0; replace q1 := x.cell q1; replace q2 := x.cell q2
      clear h x
      go_wp2_with fail
      refine (RInts_any is js _ _ _ (A3.out.ext X2.out) (C3.out.ext X2.out)).mono ?_
      rintro r w3 ⟨rfl, x⟩
      have HN : Hid (sameS cs ws is cs2 ws2 js = (decide (is = js))) := by unfold Hid; rw [HF.out, H0.out, H1.out]; rfl
      have XL := Lib.hid (HW.out.ext.trans (X2.out.trans x))
      clear x
      generalize (decide (is = js)) = bb at *
      go_wp2_with fail
      go_ret
      exact ⟨by rw [HN.out]; rfl, XL.out⟩
end Go.Proofs.YtdiopiekmdfklaaDoor
