/-
  The reference's Empty, a table of nothing; its Shape.
  ref10.Rising.
  ref10.Bits.
-/
import Derived.Test.YtlnahhlddekhoaaGreatDoorG14
import Derived.Test.YtlnahhlddekhoaaGreatDoorG11
import Derived.Test.YtlnahhlddekhoaaGreatDoorG01
namespace Go.Proofs.YtlnahhlddekhoaaGreatDoor
open Go.RowKit

theorem infoBits : (Tryz.prog.info? 74).map (fun i => (i.zero, i.size, i.bytes)) = some (some (.slice none 0 0), 1, 24) := by kernel_rfl

theorem TabR.made (w : World) (n : Nat) : TabR (w.alloc (.cells (madeCells #[.slice none 0 0] n) 74)) w.heap.size w.heap.size n (fun _ => 0) (fun _ _ => false) 0 :=
  ⟨Nat.le_refl _, ⟨.slice none 0 0, (World.rowIs_made w _ n _).congr fun i _ => by simp⟩, fun i hi => absurd hi (Nat.not_lt_zero _), fun i _ hi => absurd hi (Nat.not_lt_zero _)⟩

/-- The next row, made and put. -/
theorem TabR.next {w : World} {base g n m : Nat} {r : Nat → Nat} (h : TabR w base g n r (fun _ _ => false) m) (hm : m < n) :
    ∃ r', TabR ((w.setCell ⟨g, m, none⟩ (.slice (some ⟨w.heap.size, 0, none⟩) n n)).alloc (.cells (madeCells #[.bool false] n) 4)) base g n r' (fun _ _ => false) (m + 1) := by
  have hg := h.lt
  rw [← World.setCell_alloc_past (w := w) (.cells (madeCells #[.bool false] n) 4) g m _ hg]
  have hx : Ext w (w.alloc (.cells (madeCells #[.bool false] n) 4)) := (Ext.refl w).alloc _
  exact ⟨_, (h.ext hx).put hm (World.rowIs_made w _ n _) hg fun i hi => Nat.ne_of_lt (h.rlt hi)⟩

set_option maxHeartbeats 4000000 in
theorem REmpty_any (ws : List Int) (v : Value) (w : World) (n : Nat) (hl : Ints w v ws) (hW : Widths ws) (h0 : 0 ≤ sumI ws) (hn : pw (sumI ws) = (n : Int)) (h20 : sumI ws ≤ 20) (h64 : n ≤ 4096) :
    Calls Tryz.prog 44 #[v] w fun r w' => ∃ g, r = .returned (.slice (some ⟨g, 0, none⟩) n n) ∧ TabW w' w.heap.size g n (fun _ _ => false) ∧ Ext w w' := by
  have u_ := h0; clear u_
  have HS := Lib.hid (RSum_any ws v w hl hW)
  have HP := Lib.hid (Power_any (sumI ws) w h20)
  rw [hn] at HP
  have hmk := run_make_row' (P := Tryz.prog) 72 74 (.slice none 0 0) 24 Tryz.underlying72 infoBits rfl .i64 .i64 n (by omega) (by omega)
  have hmk2 := run_make_row' (P := Tryz.prog) 74 4 (.bool false) 1 Tryz.underlying74 infoBit rfl .i64 .i64 n (by omega) (by omega)
  clear hl hW h0 hn h20
  go_enter Tryz.func44, Tryz.ntmps44
  go_wp2_with fail
  refine HS.out.mono ?_
  rintro r w1 ⟨rfl, rfl⟩
  go_wp2_with fail
  refine HP.out.mono ?_
  rintro r w2 ⟨rfl, rfl⟩
  go_wp2_with fail
  go_loopw [5] (fun i wr => ∃ (k : Nat) (r : Nat → Nat), k ≤ n ∧ i = .int .i64 k ∧ TabR wr w1.heap.size w1.heap.size n r (fun _ _ => false) k ∧ Ext w1 wr) (fun i _ => n - (intOf i).toNat)
  case atStart => exact ⟨0, _, Nat.zero_le _, rfl, TabR.made _ _, (Ext.refl _).alloc _⟩
  case round =>
    obtain ⟨k, r, hk, rfl, hT, hX⟩ := hrel
    have HT := Lib.hid hT; have HX := Lib.hid hX
    obtain ⟨z, hz⟩ := hT.top
    have hgl : w1.heap.size < wr.heap.size := hT.lt
    by_cases hlt : k < n
    · have c1 := hz.cell hlt
      have f1 := hz.frozen k
      clear hz hT hX
      go_wp2_with fail
      obtain ⟨r', ht⟩ := HT.out.next hlt
      exact ⟨⟨k + 1, r', by omega, by go_num, ht, (HX.out.setCell (Nat.le_refl _) _).alloc _⟩, by simp [intOf]; omega⟩
    · have hkn : k = n := by omega
      subst hkn
      clear hz hT hX
      go_wp2_with fail
      go_ret
      exact ⟨_, rfl, ⟨r, HT.out⟩, HX.out⟩
end Go.Proofs.YtlnahhlddekhoaaGreatDoor
namespace Go.Proofs.YtlnahhlddekhoaaGreatDoor
open Go.RowKit

structure RisOk (n : Int) (l : List Int) (k : Nat) : Prop where
  bd : ∀ (i : Nat) (h : i < l.length), i < k → 0 ≤ l[i] ∧ l[i] < n
  inc : ∀ (i : Nat) (h : i + 1 < l.length), i + 1 < k → l[i] < l[i + 1]
open Classical in
noncomputable def risB (n : Int) (l : List Int) : Bool := decide (RisOk n l l.length)
theorem ris_iff {n : Int} {l : List Int} : risB n l = true ↔ RisOk n l l.length := by simp only [risB, decide_eq_true_eq]
theorem ris_no {n : Int} {l : List Int} (h : ¬ RisOk n l l.length) : risB n l = false := by rw [Bool.eq_false_iff]; exact fun c => h (ris_iff.1 c)
set_option maxRecDepth 100000 in
set_option maxHeartbeats 2000000 in
theorem RRising_any (l : List Int) (n : Int) (v : Value) (w : World) (hl : Ints w v l) : Calls Tryz.prog 106 #[v, .int .i64 n] w fun r w' => r = .returned (.bool (risB n l)) ∧ Ext w w' := by
  obtain ⟨a, cap, rfl⟩ := hl.shape
  have hlen := SliceAt.len_le hl
  have HL := Lib.hid hl
  have HT : Hid (RisOk n l l.length → risB n l = true) := fun h => ris_iff.2 h
  have HF : Hid (¬ RisOk n l l.length → risB n l = false) := fun h => ris_no h
  clear hl
  go_enter Tryz.func106, Tryz.ntmps106
  go_wp2_with fail
  go_loopw [5] (fun i wr => ∃ k : Nat, k ≤ l.length ∧ i = .int .i64 k ∧ Ext w wr ∧ RisOk n l k) (fun i _ => l.length - (intOf i).toNat)
  case atStart => exact ⟨0, Nat.zero_le _, rfl, Ext.refl _, ⟨fun i _ h => absurd h (by omega), fun i _ h => absurd h (by omega)⟩⟩
  case round =>
    obtain ⟨k, hk, rfl, hX, hR⟩ := hrel
    have HX := Lib.hid hX; have HR := Lib.hid hR; clear hX hR
    by_cases hlt : k < l.length
    · rcases HL.out with ⟨_, e⟩ | ⟨b, o, cap', e, _, hc⟩
      · rw [e] at hlt; simp at hlt
      cases e
      have g0 : wr.cell? ⟨b, o + k, none⟩ = some (.int .i64 l[k]) := by have := HX.out.cell (hc k hlt); rw [Nat.mul_one] at this; exact this
      have HC := Lib.hid hc; clear hc
      have HBD : Hid (¬ (0 ≤ l[k] ∧ l[k] < n) → risB n l = false) := fun h => HF.out fun c => h (c.bd k hlt hlt)
      have HBN : Hid (0 ≤ l[k] → l[k] < n → 0 ≤ l[k] ∧ l[k] < n) := fun h1 h2 => ⟨h1, h2⟩
      generalize hx : l[k] = x at *
      have HXX := Lib.hid hx; clear hx
      have i0 : (0 : Int) ≤ (k : Int) := by omega
      have i1 : (k : Int) < (l.length : Int) := by omega
      by_cases t1 : x < 0
      · have HN := Lib.hid (HBD.out (by omega))
        go_upto_region 4 with fail
        go_quiet (fail)
        go_wp2_with fail
        go_ret
        exact ⟨by rw [HN.out]; rfl, HX.out.drewN _⟩
      have t1' : decide (x < 0) = false := decide_eq_false t1
      by_cases t2 : n ≤ x
      · have HN := Lib.hid (HBD.out (by omega))
        go_upto_region 4 with fail
        go_quiet (fail)
        go_wp2_with fail
        go_ret
        exact ⟨by rw [HN.out]; rfl, HX.out.drewN _⟩
      have t2' : decide (n ≤ x) = false := decide_eq_false t2
      have BNEW : Hid (0 ≤ l[k] ∧ l[k] < n) := by unfold Hid; rw [HXX.out]; omega
      rcases Nat.eq_zero_or_pos k with hk0 | hk0
      · subst hk0
        have HNEW : Hid (RisOk n l 1) := ⟨fun i h hi => by
          obtain rfl : i = 0 := by omega
          exact BNEW.out, fun i h hi => absurd hi (by omega)⟩
        have g00 := g0
        rw [Nat.add_zero] at g00
        go_upto_region 4 with fail
        go_quiet (fail)
        go_wp2_with fail
        exact ⟨⟨1, by omega, by go_num, HX.out.drewN _, HNEW.out⟩, by simp [intOf]; omega⟩
      · obtain ⟨m, hm⟩ : ∃ m, k = m + 1 := ⟨k - 1, by omega⟩
        have hml : m < l.length := by omega
        have g1 : wr.cell? ⟨b, o + m, none⟩ = some (.int .i64 l[m]) := by have := HX.out.cell (HC.out m hml); rw [Nat.mul_one] at this; exact this
        have hsub : IntKind.i64.wrap ((k : Int) - 1) = (m : Int) := by rw [IntKind.wrap_i64]; omega
        have j0 : (0 : Int) ≤ (m : Int) := by omega
        have j1 : (m : Int) < (l.length : Int) := by omega
        have j2 : (0 : Int) < (k : Int) := by omega
        have HLT : Hid (¬ l[m] < l[k] → risB n l = false) := fun h => HF.out fun c => h (by subst hm; exact c.inc m hlt hlt)
        have HNEW : Hid (l[m] < l[k] → RisOk n l (k + 1)) := fun h => ⟨fun i h2 hi => by
          by_cases c : i = k
          · subst c; exact BNEW.out
          · exact HR.out.bd i h2 (by omega), fun i h2 hi => by
          by_cases c : i = m
          · subst c; subst hm; exact h
          · exact HR.out.inc i h2 (by omega)⟩
        rw [HXX.out] at HLT HNEW
        generalize hy : l[m] = y at *
        have HYY := Lib.hid hy; have HMM := Lib.hid hm; clear hy hm
        by_cases u : x ≤ y
        · have HN := Lib.hid (HLT.out (by omega))
          clear HLT HNEW
          go_upto_region 4 with fail
          go_quiet (fail)
          go_wp2_with fail
          go_ret
          exact ⟨by rw [HN.out]; rfl, HX.out.drewN _⟩
        · have HN := Lib.hid (HNEW.out (by omega))
          have u' : decide (x ≤ y) = false := decide_eq_false u
          clear HLT HNEW
          go_upto_region 4 with fail
          go_quiet (fail)
          go_wp2_with fail
          exact ⟨⟨k + 1, by omega, by go_num, HX.out.drewN _, HN.out⟩, by simp [intOf]; omega⟩
    · have HN : Hid (risB n l = true) := HT.out (by
        obtain rfl : k = l.length := by omega
        exact HR.out)
      go_wp2_with fail
      go_ret
      exact ⟨by rw [HN.out]; rfl, HX.out⟩
end Go.Proofs.YtlnahhlddekhoaaGreatDoor
namespace Go.Proofs.YtlnahhlddekhoaaGreatDoor
open Go.RowKit

structure BitOk (cs ws : List Int) (k : Nat) : Prop where
  bd : ∀ i, i < k → 0 ≤ cs.getD i 0 ∧ cs.getD i 0 < 32 ∧ 1 ≤ ws.getD i 0 ∧ ws.getD i 0 ≤ 8
  inc : ∀ i, i + 1 < k → cs.getD i 0 < cs.getD (i + 1) 0
/-- What Bits computes. -/
def bitsI (cs ws : List Int) (most : Int) : Int := if shapeB cs ws = true ∧ sumI ws ≤ most then sumI ws else -1
theorem shape_len {cs ws : List Int} (h : shapeB cs ws = true) : cs.length ≤ 32 := by
  obtain ⟨_, h2, h3⟩ := shape_iff.1 h
  have key : ∀ i, i < cs.length → (i : Int) ≤ cs.getD i 0 := by
    intro i
    induction i with
    | zero => intro hi; have := (h3 0 hi).1; omega
    | succ i ih => intro hi; have := ih (by omega); have := inc_iff.1 h2 i hi; omega
  rcases Nat.eq_zero_or_pos cs.length with h0 | h0
  · omega
  · have h4 := key (cs.length - 1) (by omega)
    have h5 := (h3 (cs.length - 1) (by omega)).2.1
    omega
theorem shape_ok {cs ws : List Int} : shapeB cs ws = true ↔ cs.length = ws.length ∧ BitOk cs ws cs.length := by
  rw [shape_iff, inc_iff]
  exact ⟨fun ⟨a, b, c⟩ => ⟨a, c, b⟩, fun ⟨a, c⟩ => ⟨a, c.inc, c.bd⟩⟩
theorem bits_no {cs ws : List Int} {most : Int} (h : ¬ shapeB cs ws = true) : bitsI cs ws most = -1 := by unfold bitsI; rw [if_neg (fun c => h c.1)]
theorem BitOk.zero (cs ws : List Int) : BitOk cs ws 0 := ⟨fun i h => absurd h (by omega), fun i h => absurd h (by omega)⟩
theorem bitok_sum {cs ws : List Int} {k : Nat} (h : BitOk cs ws k) (hk : k ≤ ws.length) : 0 ≤ sumI (ws.take k) ∧ sumI (ws.take k) ≤ 8 * k := by
  have hb : ∀ x ∈ ws.take k, 1 ≤ x ∧ x ≤ 8 := by
    intro x hx
    obtain ⟨i, hi, rfl⟩ := List.getElem_of_mem hx
    have hi2 := hi
    rw [List.length_take] at hi2
    have := h.bd i (by omega)
    have e : (ws.take k)[i] = ws.getD i 0 := by simp [List.getD, show i < ws.length by omega]
    rw [e]; exact this.2.2
  have h2 := sum_bound hb (ws.take k).length (Nat.le_refl _)
  rw [List.take_length, List.length_take] at h2
  have : min k ws.length = k := by omega
  rw [this] at h2; exact h2
set_option maxRecDepth 100000 in
set_option maxHeartbeats 4000000 in
theorem RBits_any (cs ws : List Int) (most : Int) (vc vw : Value) (w : World) (hc : Ints w vc cs) (hw : Ints w vw ws) : Calls Tryz.prog 88 #[vc, vw, .int .i64 most] w fun r w' => r = .returned (.int .i64 (bitsI cs ws most)) ∧ Ext w w' := by
  obtain ⟨ca, cc, rfl⟩ := hc.shape
  obtain ⟨wa, wc, rfl⟩ := hw.shape
  have hlen := SliceAt.len_le hc
  have hlen2 := SliceAt.len_le hw
  have HC0 := Lib.hid hc; have HW0 := Lib.hid hw
  have HNO : Hid (¬ shapeB cs ws = true → bitsI cs ws most = -1) := fun h => bits_no h
  clear hc hw
  by_cases hl : cs.length = ws.length
  · by_cases h32 : cs.length ≤ 32
    · have HBN : Hid (¬ BitOk cs ws cs.length → bitsI cs ws most = -1) := fun h => HNO.out fun c => h (shape_ok.1 c).2
      have HYES : Hid (BitOk cs ws cs.length → shapeB cs ws = true) := fun h => shape_ok.2 ⟨hl, h⟩
      rw [← hl] at HW0 hlen2 ⊢
      have HL := Lib.hid hl
      clear hl
      go_enter Tryz.func88, Tryz.ntmps88
      go_wp2_with fail
      go_loopw [7, 8] (fun s i wr => ∃ k : Nat, k ≤ cs.length ∧ i = .int .i64 k ∧ s = .int .i64 (sumI (ws.take k)) ∧ Ext w wr ∧ BitOk cs ws k) (fun _ i _ => cs.length - (intOf i).toNat)
      case atStart => exact ⟨0, Nat.zero_le _, rfl, rfl, Ext.refl _, BitOk.zero _ _⟩
      case round =>
        obtain ⟨k, hk, rfl, rfl, hX, hR⟩ := hrel
        have HX := Lib.hid hX; have HR := Lib.hid hR
        have hsb : 0 ≤ sumI (ws.take k) ∧ sumI (ws.take k) ≤ 8 * k := bitok_sum hR (by rw [← HL.out]; exact hk)
        obtain ⟨hs0, hs1⟩ := hsb
        clear hX hR
        by_cases hlt : k < cs.length
        · have hlw : k < ws.length := by rw [← HL.out]; exact hlt
          have g0 := HX.out
          rcases HC0.out with ⟨_, e⟩ | ⟨b, o, cap', e, _, hc⟩
          · rw [e] at hlt; simp at hlt
          cases e
          rcases HW0.out with ⟨_, e⟩ | ⟨b2, o2, cap2, e, _, hc2⟩
          · rw [e] at hlw; simp at hlw
          have e2 := e
          rw [← HL.out] at e2
          cases e2
          clear e
          have g0 : wr.cell? ⟨b, o + k, none⟩ = some (.int .i64 cs[k]) := by have := HX.out.cell (hc k hlt); rw [Nat.mul_one] at this; exact this
          have g1 : wr.cell? ⟨b2, o2 + k, none⟩ = some (.int .i64 ws[k]) := by have := HX.out.cell (hc2 k hlw); rw [Nat.mul_one] at this; exact this
          have HC := Lib.hid hc; clear hc hc2
          have HBD : Hid (¬ (0 ≤ cs[k] ∧ cs[k] < 32 ∧ 1 ≤ ws[k] ∧ ws[k] ≤ 8) → bitsI cs ws most = -1) := fun h => HBN.out fun c => h (by
            have := c.bd k hlt
            simpa [List.getD, hlt, hlw] using this)
          have HSU := Lib.hid (sum_take hlw)
          have HBN2 : Hid (0 ≤ cs[k] ∧ cs[k] < 32 ∧ 1 ≤ ws[k] ∧ ws[k] ≤ 8 → 0 ≤ cs.getD k 0 ∧ cs.getD k 0 < 32 ∧ 1 ≤ ws.getD k 0 ∧ ws.getD k 0 ≤ 8) := fun h => by
            simpa [List.getD, hlt, hlw] using h
          generalize hx : cs[k] = x at *
          generalize hy : ws[k] = y at *
          have HXX := Lib.hid hx; clear hx hy
          generalize sumI (ws.take k) = sm at *
          have i0 : (0 : Int) ≤ (k : Int) := by omega
          have i1 : (k : Int) < (cs.length : Int) := by omega
          clear hlw
          by_cases t1 : x < 0
          · have HN := Lib.hid (HBD.out (by omega))
            go_upto_region 7 with fail
            go_quiet (fail)
            go_wp2_with fail
            go_ret
            exact ⟨by rw [HN.out]; rfl, HX.out.drewN _⟩
          have t1' : decide (x < 0) = false := decide_eq_false t1
          by_cases t2 : 32 ≤ x
          · have HN := Lib.hid (HBD.out (by omega))
            go_upto_region 7 with fail
            go_quiet (fail)
            go_wp2_with fail
            go_ret
            exact ⟨by rw [HN.out]; rfl, HX.out.drewN _⟩
          have t2' : decide (32 ≤ x) = false := decide_eq_false t2
          rcases Nat.eq_zero_or_pos k with hk0 | hk0
          · subst hk0
            have g00 := g0
            rw [Nat.add_zero] at g00
            have g11 := g1
            rw [Nat.add_zero] at g11
            by_cases t3 : y < 1
            · have HN := Lib.hid (HBD.out (by omega))
              go_upto_region 7 with fail
              go_quiet (fail)
              go_wp2_with fail
              go_ret
              exact ⟨by rw [HN.out]; rfl, HX.out.drewN _⟩
            have t3' : decide (y < 1) = false := decide_eq_false t3
            by_cases t4 : 8 < y
            · have HN := Lib.hid (HBD.out (by omega))
              go_upto_region 7 with fail
              go_quiet (fail)
              go_wp2_with fail
              go_ret
              exact ⟨by rw [HN.out]; rfl, HX.out.drewN _⟩
            have t4' : decide (8 < y) = false := decide_eq_false t4
            have HNW : Hid (BitOk cs ws (0 + 1)) := ⟨fun i hi => by
              obtain rfl : i = 0 := by omega
              exact HBN2.out (by omega), fun i hi => absurd hi (by omega)⟩
            go_upto_region 7 with fail
            go_quiet (fail)
            go_wp2_with fail
            exact ⟨⟨0 + 1, by omega, by go_num, by rw [HSU.out], HX.out.drewN _, HNW.out⟩, by simp [intOf]; omega⟩
          · obtain ⟨m, hm⟩ : ∃ m, k = m + 1 := ⟨k - 1, by omega⟩
            have hml : m < cs.length := by omega
            have g2 : wr.cell? ⟨b, o + m, none⟩ = some (.int .i64 cs[m]) := by have := HX.out.cell (HC.out m hml); rw [Nat.mul_one] at this; exact this
            have hsub : IntKind.i64.wrap ((k : Int) - 1) = (m : Int) := by rw [IntKind.wrap_i64]; omega
            have j0 : (0 : Int) ≤ (m : Int) := by omega
            have j1 : (m : Int) < (cs.length : Int) := by omega
            have j2 : (0 : Int) < (k : Int) := by omega
            have HLT : Hid (¬ cs[m] < cs[k] → bitsI cs ws most = -1) := fun h => HBN.out fun c => h (by
              have := c.inc m (by omega)
              rw [← hm] at this
              simpa [List.getD, hlt, hml] using this)
            have HNEW : Hid (cs[m] < cs[k] → 0 ≤ cs.getD k 0 ∧ cs.getD k 0 < 32 ∧ 1 ≤ ws.getD k 0 ∧ ws.getD k 0 ≤ 8 → BitOk cs ws (k + 1)) := fun h hb => ⟨fun i hi => by
              by_cases c : i = k
              · subst c; exact hb
              · exact HR.out.bd i (by omega), fun i hi => by
              by_cases c : i = m
              · subst c; rw [← hm]; simpa [List.getD, hlt, hml] using h
              · exact HR.out.inc i (by omega)⟩
            rw [HXX.out] at HLT HNEW
            generalize hz : cs[m] = z at *
            clear hz hm
            by_cases u : x ≤ z
            · have HN := Lib.hid (HLT.out (by omega))
              clear HLT HNEW
              go_upto_region 7 with fail
              go_quiet (fail)
              go_wp2_with fail
              go_ret
              exact ⟨by rw [HN.out]; rfl, HX.out.drewN _⟩
            have u' : decide (x ≤ z) = false := decide_eq_false u
            by_cases t3 : y < 1
            · have HN := Lib.hid (HBD.out (by omega))
              go_upto_region 7 with fail
              go_quiet (fail)
              go_wp2_with fail
              go_ret
              exact ⟨by rw [HN.out]; rfl, HX.out.drewN _⟩
            have t3' : decide (y < 1) = false := decide_eq_false t3
            by_cases t4 : 8 < y
            · have HN := Lib.hid (HBD.out (by omega))
              go_upto_region 7 with fail
              go_quiet (fail)
              go_wp2_with fail
              go_ret
              exact ⟨by rw [HN.out]; rfl, HX.out.drewN _⟩
            have t4' : decide (8 < y) = false := decide_eq_false t4
            have HNW := Lib.hid (HNEW.out (by omega) (HBN2.out (by omega)))
            clear HNEW HLT
            go_upto_region 7 with fail
            go_quiet (fail)
            go_wp2_with fail
            exact ⟨⟨k + 1, by omega, by go_num, by rw [HSU.out], HX.out.drewN _, HNW.out⟩, by simp [intOf]; omega⟩
        · obtain rfl : k = cs.length := by omega
          have HSH := Lib.hid (HYES.out HR.out)
          have HTK : Hid (sumI (ws.take cs.length) = sumI ws) := by unfold Hid; rw [HL.out, List.take_length]
          rw [HTK.out] at hs0 hs1 ⊢
          clear HTK
          by_cases hmo : sumI ws ≤ most
          · have HN : Hid (bitsI cs ws most = sumI ws) := by unfold Hid bitsI; rw [if_pos ⟨HSH.out, hmo⟩]
            generalize sumI ws = sm at *
            go_wp2_with fail
            go_ret
            exact ⟨by rw [HN.out]; rfl, HX.out⟩
          · have HN : Hid (bitsI cs ws most = -1) := by unfold Hid bitsI; rw [if_neg (fun c => hmo c.2)]
            generalize sumI ws = sm at *
            go_wp2_with fail
            go_ret
            exact ⟨by rw [HN.out]; rfl, HX.out⟩
    · have HN := Lib.hid (HNO.out fun c => h32 (shape_len c))
      rw [← hl]
      go_enter Tryz.func88, Tryz.ntmps88
      go_wp2_with fail
      go_ret
      exact ⟨by rw [HN.out]; rfl, Ext.refl _⟩
  · have HN := Lib.hid (HNO.out fun c => hl (shape_ok.1 c).1)
    have hne : ((cs.length : Int) != (ws.length : Int)) = true := by simp; omega
    go_enter Tryz.func88, Tryz.ntmps88
    go_wp2_with fail
    go_ret
    exact ⟨by rw [HN.out]; rfl, Ext.refl _⟩
theorem shape_sum0 {cs ws : List Int} (h : shapeB cs ws = true) : 0 ≤ sumI ws := by
  have := (sum_bound (shape_widths h).2 ws.length (Nat.le_refl _)).1
  rw [List.take_length] at this; exact this
theorem small_of {cs ws : List Int} (h : shapeB cs ws = true) (h2 : sumI ws ≤ 12) : smallB cs ws = true := by unfold smallB; rw [h, decide_eq_true h2]; rfl
end Go.Proofs.YtlnahhlddekhoaaGreatDoor
