/-
  The walk of the law ProofPrefixes.
-/
import Derived.Test.YteclcnbaaiidbaaDoorLp0
import Derived.Test.YteclcnbaaiidbaaDoorPtB
namespace Go.Proofs.YteclcnbaaiidbaaDoor
open Go.RowKit

theorem valid_take {vars : Int} {n : Nat} {l : List St} (h : validP vars n l = true) (m : Nat) : validP vars n (l.take m) = true := by
  have hv := valid_iff.1 h
  have hg : ∀ k, k < (l.take m).length → (l.take m).getD k st0 = l.getD k st0 := fun k hk => by
    rw [List.length_take] at hk
    simp [List.getD, show k < m by omega]
  refine valid_iff.2 ⟨by rw [List.length_take]; have := hv.len; omega, fun k hk => ?_, fun k hk => ?_⟩
  · rw [hg k hk]; exact hv.lits k (by rw [List.length_take] at hk; omega)
  · rw [hg k hk]; exact hv.hints k (by rw [List.length_take] at hk; omega)
theorem valid_long {vars : Int} {n : Nat} {l : List St} {k : Nat} (h : validP vars n l = true) (hk : k < l.length) (hl : l.length ≤ 60) : validP vars n (longL n l k) = true := by
  have hv := valid_iff.1 h
  refine valid_iff.2 ⟨by rw [long_len]; omega, fun j hj => ?_, fun j hj => ?_⟩
  · rw [long_len] at hj
    by_cases e : j < l.length
    · rw [long_old e]; exact hv.lits j e
    · obtain rfl : j = l.length := by omega
      rw [long_new]; rfl
  · rw [long_len] at hj
    by_cases e : j < l.length
    · rw [long_old e]; exact hv.hints j e
    · obtain rfl : j = l.length := by omega
      rw [long_new]
      intro x hx
      simp at hx; subst hx; omega
theorem small_take {cl : List (List Int)} {l : List St} (h : SmallI cl l) (m : Nat) : SmallI cl (l.take m) :=
  ⟨h.clen, by rw [List.length_take]; have := h.len; omega, h.cls, fun s hs => h.lits s (List.mem_of_mem_take hs), fun s hs => h.hints s (List.mem_of_mem_take hs)⟩
theorem small_long {n : Nat} {cl : List (List Int)} {l : List St} {k : Nat} (h : SmallI cl l) (hl : l.length ≤ 60) : SmallI cl (longL n l k) := by
  refine ⟨h.clen, by rw [long_len]; omega, h.cls, fun s hs => ?_, fun s hs => ?_⟩ <;>
  · unfold longL at hs
    rw [List.mem_append, List.mem_singleton] at hs
    rcases hs with hs | rfl
    · first | exact h.lits s hs | exact h.hints s hs
    · simp
theorem Inp.take {vars : Int} {l : List St} (h : Inp vars l) (m : Nat) : Inp vars (l.take m) := ⟨h.vars, fun s hs => h.lits s (List.mem_of_mem_take hs)⟩
theorem Inp.long {vars : Int} {n : Nat} {l : List St} {k : Nat} (h : Inp vars l) : Inp vars (longL n l k) := ⟨h.vars, fun s hs => by
  unfold longL at hs
  rw [List.mem_append, List.mem_singleton] at hs
  rcases hs with hs | rfl
  · exact h.lits s hs
  · simp⟩
theorem Steps.pre {w : World} {b o c : Nat} {l : List St} (h : Steps w (.slice (some ⟨b, o, none⟩) l.length c) l) {m : Nat} (hm : m ≤ l.length) : Steps w (.slice (some ⟨b, o, none⟩) m c) (l.take m) := by
  have hlen : (l.take m).length = m := by rw [List.length_take]; omega
  rcases h with ⟨_, e⟩ | ⟨b', o', cap, e, hm', hc⟩
  · subst e
    obtain rfl : m = 0 := by simpa using hm
    exact .inl ⟨⟨_, _, rfl⟩, rfl⟩
  · cases e
    refine .inr ⟨b, o, c, by rw [hlen], by rw [hlen]; omega, fun i hi => ?_⟩
    rw [hlen] at hi
    have := hc i (by omega)
    have e2 : (l.take m)[i]'(by rw [hlen]; exact hi) = l[i] := by simp
    rw [e2]; exact this
set_option maxRecDepth 100000 in
set_option maxHeartbeats 8000000 in
theorem ProofPrefixes_any (vars : Int) (cl : List (List Int)) (l : List St) (x : Nat) (hxx : x < 256) (vf : Value) (la : Option Addr) (lc : Nat) (w : World) (hf : CnfV w vf vars cl) (hl : Steps w (.slice la l.length lc) l) (hcap : l.length ≤ lc) (hi : Inp vars l) (hT : PTab w) :
    Calls Tryd.prog 6 #[vf, .slice la l.length lc, .int .u8 (x : Int)] w fun r w' => r = .returned (.bool true) ∧ Ext w w' := by
  obtain ⟨fa, fc, rfl, hcl⟩ := hf.shape
  obtain ⟨W, hW⟩ : ∃ W, W = w.alloc (.cells #[.int .i64 vars, .slice fa cl.length fc] 27) := ⟨_, rfl⟩
  have hx : Ext w W := by rw [hW]; exact (Ext.refl w).alloc _
  have hB : W.heap[w.heap.size]? = some (.cells #[.int .i64 vars, .slice fa cl.length fc] 27 (0, 0)) := by rw [hW]; exact heap_new _ _
  have HX := Lib.hid hx; have HB := Lib.hid hB; have HW := Lib.hid hW; have HF := Lib.hid (hf.ext hx); have HL := Lib.hid (hl.ext hx); have HI := Lib.hid hi; have HT := Lib.hid (hT.ext hx)
  clear hf hl hcl hx hB hW hi hT
  go_enter Tryd.func6, Tryd.ntmps6
  go_upto_region 1 with fail
  rw [← HW.out]
  clear HW
  generalize w.heap.size = b0 at *
  go_wp2_with fail
  refine (head_any W HT.out).mono ?_
  rintro r w1 ⟨rfl, x1⟩
  have X1 := Lib.hid x1
  have g0 : w1.cell? ⟨b0, 0, none⟩ = some (.int .i64 vars) := by rw [Lib.cell_of_heap ((x1.block _ (lt_heap HB.out)).trans HB.out)]; rfl
  have g1 : w1.cell? ⟨b0, 1, none⟩ = some (.slice fa cl.length fc) := by rw [Lib.cell_of_heap ((x1.block _ (lt_heap HB.out)).trans HB.out)]; rfl
  clear x1
  go_wp2_with fail
  refine (PSmall_any vars cl l _ _ w1 (HF.out.ext X1.out) (HL.out.ext X1.out)).mono ?_
  rintro r w2 ⟨rfl, x2⟩
  have X2 := Lib.hid (X1.out.trans x2)
  replace g0 := x2.cell g0; replace g1 := x2.cell g1
  clear x2
  cases hs : smallP cl l with
  | false =>
    go_wp2_with fail
    go_ret
    exact ⟨rfl, HX.out.trans X2.out⟩
  | true =>
    have HS := Lib.hid (small_iff hs).1
    have HL60 := Lib.hid (small_iff hs).2
    go_wp2_with fail
    refine (PValid_any vars cl l _ _ w2 (HF.out.ext X2.out) (HL.out.ext X2.out) (HS.out.tame HI.out)).mono ?_
    rintro r w3 ⟨rfl, x3⟩
    have X3 := Lib.hid (X2.out.trans x3)
    replace g0 := x3.cell g0; replace g1 := x3.cell g1
    clear x3
    cases hv : validP vars cl.length l with
    | false =>
      go_wp2_with fail
      go_ret
      exact ⟨rfl, HX.out.trans X3.out⟩
    | true =>
      have HV := Lib.hid hv
      by_cases h0 : l.length = 0
      · have hz : ((l.length : Int) == 0) = true := by rw [h0]; rfl
        clear h0
        go_wp2_with fail
        go_ret
        exact ⟨rfl, HX.out.trans X3.out⟩
      have hz : ((l.length : Int) == 0) = false := by rw [beq_eq_false_iff_ne]; omega
      obtain ⟨K, hK⟩ : ∃ K, K = x % l.length := ⟨_, rfl⟩
      have hKL : K < l.length := by rw [hK]; exact Nat.mod_lt _ (by omega)
      have hcv : IntKind.i64.wrap (x : Int) = (x : Int) := by rw [IntKind.wrap_i64]; omega
      have hrm : Int.tmod (x : Int) (l.length : Int) = (K : Int) := by rw [hK]; rfl
      have hL0 : ¬ l.length = 0 := h0
      have hkw : wrap64 (K : Int) = (K : Int) := by unfold wrap64; have := HL60.out; omega
      have hk1 : IntKind.i64.wrap ((K : Int) + 1) = ((K + 1 : Nat) : Int) := by rw [IntKind.wrap_i64]; have := HL60.out; omega
      clear hs hv h0
      have hrm2 : (x : Int) % (l.length : Int) = (K : Int) := by rw [hK]; push_cast; rfl
      obtain ⟨lb, lo, hla, _⟩ := HL.out.addr (fun e => hL0 (by rw [e]; rfl))
      subst hla
      have HKL := Lib.hid hKL; have HC := Lib.hid hcap
      have hc1 : ((K + 1 : Nat) : Int) ≤ (lc : Int) := by omega
      have hc2 : (0 : Int) ≤ ((K + 1 : Nat) : Int) := by omega
      have hc3 : ((K : Int) + 1).toNat = K + 1 := by omega
      have hc4 : (K : Int) + 1 ≤ (lc : Int) := by omega
      have hc5 : (0 : Int) ≤ (K : Int) + 1 := by omega
      have hc6 : K + 1 ≤ lc := by omega
      have hc7 : ¬ lc < K + 1 := by omega
      have hc8 : K < lc := by omega
      have HPV : Hid (validP vars cl.length (l.take (K + 1)) = true) := valid_take HV.out (K + 1)
      have HPS : Hid (SmallI cl (l.take (K + 1))) := small_take HS.out (K + 1)
      have HPI : Hid (Inp vars (l.take (K + 1))) := HI.out.take (K + 1)
      have HPL : Hid (Steps w3.drew (.slice (some ⟨lb, lo, none⟩) (K + 1) lc) (l.take (K + 1))) := (Steps.pre HL.out (by omega)).ext (X3.out.trans (Ext.refl w3).drew)
      have HFD := Lib.hid ((HF.out.ext X3.out).ext (Ext.refl w3).drew)
      have G0 := Lib.hid g0; have G1 := Lib.hid g1
      clear hcap hcv hrm hK
      go_upto_region 6 with fail
      rw [hrm2]
      go_region_held3 (fun w' => w'.cell? ⟨b0, 0, none⟩ = some (.int .i64 vars) ∧ w'.cell? ⟨b0, 1, none⟩ = some (.slice fa cl.length fc))
        (first | exact ⟨g0, g1⟩ | (with_reducible exact ⟨hx1.cell g0, hx1.cell g1⟩) | fail)
        ((go_at_call 15; refine (Trim_ok HFD.out HPL.out (HPS.out.tame HPI.out) HPV.out).mono ?_; rintro r w5 ⟨ta, tc, rfl, ht, hx1'⟩; have hx1 : Ext w3 w5 := (Ext.refl w3).drew.trans hx1'; clear hx1'))
      have X5 := Lib.hid (X3.out.trans hx1); have T5 := Lib.hid ht
      have HTL : Hid (trimL cl.length (longL cl.length l K) = trimL cl.length (l.take (K + 1)) ++ [⟨[], [((cl.length + ((trimL cl.length (l.take (K + 1))).length - 1) : Nat) : Int)]⟩]) := trim_long (k := K) (HKL.out) (valid_iff.1 HV.out)
      have HP0 : Hid (0 < (trimL cl.length (l.take (K + 1))).length) := (trim_last (n := cl.length) (l := l.take (K + 1)) (fun e => by have h1 := congrArg List.length e; rw [pre_len HKL.out] at h1; simp at h1)).1
      have HP1 : Hid ((trimL cl.length (l.take (K + 1))).length ≤ 61) := Nat.le_trans (trim_le _ _) HPS.out.len
      have HLV : Hid (validP vars cl.length (longL cl.length l K) = true) := valid_long HV.out HKL.out HL60.out
      have HLS : Hid (SmallI cl (longL cl.length l K)) := small_long HS.out HL60.out
      have HLI : Hid (Inp vars (longL cl.length l K)) := HI.out.long
      have HNE : Hid (l ≠ []) := fun e => hL0 (by rw [e]; rfl)
      have hx5g0 := Lib.hid (hx1.cell g0); have hx5g1 := Lib.hid (hx1.cell g1)
      clear hx1 ht g0 g1 HFD HPL hc1 hc2 hc3 hc4 hc5 hc6 hc7 hc8 hrm2 hk1
      generalize trimL cl.length (l.take (K + 1)) = P at *
      obtain ⟨M1, hM1⟩ : ∃ M1, P.length = M1 + 1 := ⟨P.length - 1, by have := HP0.out; omega⟩
      have hncl := HS.out.clen
      have hl60 := HL60.out
      have hnk : IntKind.i64.wrap ((cl.length : Int) + (K : Int)) = ((cl.length + K : Nat) : Int) := by rw [IntKind.wrap_i64]; omega
      have hnk2 : wrap64 ((cl.length : Int) + (K : Int)) = ((cl.length + K : Nat) : Int) := by unfold wrap64; omega
      have HL5 := Lib.hid (HL.out.ext X5.out)
      have HM1 := Lib.hid hM1
      clear hM1
      go_wp2_with (at_builtin; refine wpList_append_steps rfl (.tmp 50) (.tmp 51) rfl w5.heap.size w5.heap.size w5 _ _ _ _ [] l rfl rfl (RowB.empty w5 _ _ (Nat.le_refl _)) HL5.out HNE.out ((Ext.refl w5).alloc _) (Nat.le_refl _) (by simp; omega) (by simp) ?_ (Nat.le_refl _))
      intro v6 w6 ho6 hg6 _
      have x6 : Ext w5 w6 := ((Ext.refl w5).alloc _).grown hg6 (fun q hq => by cases hq; exact Nat.le_refl _)
      have X6 := Lib.hid x6; have O6 := Lib.hid ho6
      obtain ⟨a6, c6, rfl⟩ := SliceAt.shape ho6.steps
      clear ho6 hg6 x6
      go_wp2_with (at_builtin; refine wpList_append_stepB rfl (.tmp 53) (.tmp 59) rfl w5.heap.size w5.heap.size (w6.alloc (.cells #[.int .i64 ((cl.length + K : Nat) : Int)] 3)) (w6.heap.size + 1) (by simp) _ l _ _ _ _ _ _ ⟨[], [((cl.length + K : Nat) : Int)]⟩ rfl rfl (O6.out.kept ((Ext.refl _).alloc _)) (IntsB.nil _ _ _) (IntsB.one _ _ _ _ X6.out.size) (by omega) (by have := X6.out.size; simp; omega) ?_ (Nat.le_refl _))
      intro v7 w7 ho7 hg7
      have x7 : Ext w5 w7 := (X6.out.trans ((Ext.refl _).alloc _)).grown hg7 (fun q hq => (O6.out.typed q hq).1)
      have X7 := Lib.hid x7
      have HST7 : Hid (Steps w7 v7 (longL cl.length l K)) := ho7.steps
      obtain ⟨a7, c7, rfl⟩ := SliceAt.shape ho7.steps
      have hl7 : ∀ y : Int, (l ++ [(⟨[], [y]⟩ : St)]).length = (longL cl.length l K).length := fun _ => by simp [longL]
      rw [hl7] at HST7 ⊢
      have g0 := x7.cell (hx5g0.out); have g1 := x7.cell hx5g1.out
      clear ho7 hg7 x7 hl7 hnk hnk2
      go_wp2_with fail
      refine (Trim_ok ((HF.out.ext X5.out).ext X7.out) HST7.out (HLS.out.tame HLI.out) HLV.out).mono ?_
      rintro r w8 ⟨a8, c8, rfl, hu, x8⟩
      have X8 := Lib.hid (X7.out.trans x8); have U8 := Lib.hid hu; have T8 := Lib.hid (T5.out.ext (X7.out.trans x8))
      clear x8 hu g0 g1
      have hP0 : ((P.length : Int) == 0) = false := by rw [beq_eq_false_iff_ne]; have := HP0.out; omega
      have HPN : Hid (P ≠ []) := fun e => by have := HP0.out; rw [e] at this; simp at this
      have hp1 := HP1.out
      go_wp2_with (at_builtin; refine wpList_append_steps rfl (.tmp 78) (.tmp 79) rfl w8.heap.size w8.heap.size w8 _ _ _ _ [] P rfl rfl (RowB.empty w8 _ _ (Nat.le_refl _)) T8.out HPN.out ((Ext.refl w8).alloc _) (Nat.le_refl _) (by simp; omega) (by simp) ?_ (Nat.le_refl _))
      intro v9 w9 ho9 hg9 _
      have x9 : Ext w8 w9 := ((Ext.refl w8).alloc _).grown hg9 (fun q hq => by cases hq; exact Nat.le_refl _)
      have X9 := Lib.hid x9; have O9 := Lib.hid ho9
      obtain ⟨a9, c9, rfl⟩ := SliceAt.shape ho9.steps
      clear ho9 hg9 x9
      go_wp2_with (at_builtin; refine wpList_append_stepB rfl (.tmp 81) (.tmp 89) rfl w8.heap.size w8.heap.size (w9.alloc (.cells #[.int .i64 ((cl.length : Int) + (P.length : Int) - 1)] 3)) (w9.heap.size + 1) (by simp) _ P _ _ _ _ _ _ ⟨[], [(cl.length : Int) + (P.length : Int) - 1]⟩ rfl rfl (O9.out.kept ((Ext.refl _).alloc _)) (IntsB.nil _ _ _) (IntsB.one _ _ _ _ X9.out.size) (by omega) (by have := X9.out.size; simp; omega) ?_ (Nat.le_refl _))
      intro v10 w10 ho10 hg10
      have x10 : Ext w8 w10 := (X9.out.trans ((Ext.refl _).alloc _)).grown hg10 (fun q hq => (O9.out.typed q hq).1)
      have hpe : (cl.length : Int) + (P.length : Int) - 1 = ((cl.length + M1 : Nat) : Int) := by have := HM1.out; omega
      have X10 := Lib.hid x10; have S10 := Lib.hid ho10.steps
      obtain ⟨a10, c10, rfl⟩ := SliceAt.shape ho10.steps
      have hl10 : ∀ y : Int, (P ++ [(⟨[], [y]⟩ : St)]).length = P.length + 1 := fun _ => by simp
      rw [hl10] at S10 ⊢
      have HEQ : Hid (trimL cl.length (longL cl.length l K) = P ++ [⟨[], [(cl.length : Int) + (P.length : Int) - 1]⟩]) := by
        unfold Hid; rw [hpe, HTL.out, show P.length - 1 = M1 by have := HM1.out; omega]
      clear ho10 hg10 x10 hpe hl10
      go_wp2_with fail
      refine (RSame_any _ _ _ _ w10 (U8.out.ext X10.out) S10.out).mono ?_
      rintro r w11 ⟨rfl, x11⟩
      rw [sameP_iff.2 HEQ.out]
      have X11 := Lib.hid (X10.out.trans x11)
      clear x11
      go_wp2_with fail
      go_ret
      exact ⟨rfl, HX.out.trans (X5.out.trans (X8.out.trans X11.out))⟩
end Go.Proofs.YteclcnbaaiidbaaDoor
