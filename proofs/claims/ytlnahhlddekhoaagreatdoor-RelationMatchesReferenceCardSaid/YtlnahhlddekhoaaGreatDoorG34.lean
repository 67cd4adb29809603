/-
  The walk of ref10.State.
  The reference's marks.
  The reference's Support, before, Before.
-/
import Derived.Test.YtlnahhlddekhoaaGreatDoorG33
import Derived.Test.YtlnahhlddekhoaaGreatDoorG26
import Derived.Test.YtlnahhlddekhoaaGreatDoorG32
import Derived.Test.YtlnahhlddekhoaaGreatDoorG22
import Derived.Test.YtlnahhlddekhoaaGreatDoorG23
import Derived.Test.YtlnahhlddekhoaaGreatDoorG15
import Derived.Test.YtlnahhlddekhoaaGreatDoorG09
import Derived.Test.YtlnahhlddekhoaaGreatDoorG05
import Derived.Test.YtlnahhlddekhoaaGreatDoorG06
import Derived.Test.YtlnahhlddekhoaaGreatDoorG11
import Derived.Test.YtlnahhlddekhoaaGreatDoorG10
import Derived.Test.YtlnahhlddekhoaaGreatDoorG07
import Derived.Test.YtlnahhlddekhoaaGreatDoorG25
import Derived.Test.YtlnahhlddekhoaaGreatDoorG03
import Derived.Test.YtlnahhlddekhoaaGreatDoorG01
import Derived.Test.YtlnahhlddekhoaaGreatDoorG04
import Derived.Test.YtlnahhlddekhoaaGreatDoorG16
import Derived.Deep.RegionHeld3
import Derived.RangeFuncWrites
import Derived.Deep.AppendLies
import Derived.Maps.AppendAt
import Derived.Deep.Slices
import Derived.Deep.LoopGhost
import Derived.Shelf.Strings.BuilderK
import Derived.Lib.ItoaLen
import Derived.StillTailTactics
import Derived.Test.YtlnahhlddekhoaaGreatDoorG13
import Derived.Test.YtlnahhlddekhoaaGreatDoorG14
namespace Go.Proofs.YtlnahhlddekhoaaGreatDoor
open Go.RowKit

theorem small_bits' {cs ws : List Int} (h : smallB cs ws = true) : bitsI cs ws 12 = sumI ws := by
  unfold smallB at h
  rw [Bool.and_eq_true, decide_eq_true_eq] at h
  unfold bitsI; rw [if_pos h]
theorem stTo_pos {cs ws : List Int} (hl : cs.length = ws.length) (n : Nat) (base : List Int) : ∀ k, k ≤ cs.length → 0 ≤ (stTo cs ws n base k).1 ∧ (stTo cs ws n base k).1 ≤ n := by
  intro k
  induction k with
  | zero => intro _; exact ⟨by show (0 : Int) ≤ (n : Int); omega, Int.le_refl _⟩
  | succ k ih =>
    intro hk
    obtain ⟨h1, h2⟩ := ih (by omega)
    rw [stTo_succ _ _ hl (by omega)]
    unfold stStep
    dsimp only
    exact ⟨Int.ediv_nonneg h1 (Int.le_of_lt pw_pos), Int.le_trans (Int.ediv_le_self _ h1) h2⟩
set_option maxRecDepth 100000 in
set_option maxHeartbeats 2000000 in
theorem RState_any (cs ws is base : List Int) (n : Nat) (va vb : Value) (w : World) (ha : SetV w va cs ws is) (hb : Ints w vb base) (hsm : smallB cs ws = true) (hn : (n : Int) < pw (sumI ws)) (h32 : 32 ≤ base.length) (hl : base.length ≤ 1000) : Calls Tryz.prog 45 #[va, .int .i64 n, vb] w fun r w' => ∃ v, r = .returned v ∧ OwnInts w' w.heap.size v (stateS cs ws n base) ∧ Ext w w' := by
  obtain ⟨ca, cc, wa, wcp, ia, ic, rfl, a1, a2, a3⟩ := ha.shape
  obtain ⟨W, hW⟩ : ∃ W, W = w.alloc (.cells #[.slice ca cs.length cc, .slice wa ws.length wcp, .slice ia is.length ic] 31) := ⟨_, rfl⟩
  have hx : Ext w W := by rw [hW]; exact (Ext.refl w).alloc _
  have hB1 : W.heap[w.heap.size]? = some (.cells #[.slice ca cs.length cc, .slice wa ws.length wcp, .slice ia is.length ic] 31 (0, 0)) := by rw [hW]; exact heap_new _ _
  obtain ⟨p0, p1, p2⟩ := cells3 hB1
  obtain ⟨hsh, hwd, hs0, hs12⟩ := small_sum hsm
  obtain ⟨heq, _, hin⟩ := shape_iff.1 hsh
  have hpw := pw_mono hs0 hs12
  have hp0 := @pw_pos (sumI ws)
  have hmask := mask12 (n := (n : Int)) hs0 hs12
  rw [Int.emod_eq_of_lt (by omega) hn] at hmask
  rw [show pw 12 = 4096 by decide] at hpw
  have P0 := Lib.hid p0; have P1 := Lib.hid p1
  have HA := Lib.hid (ha.ext hx); have A1 := Lib.hid (a1.ext hx); have A2 := Lib.hid (a2.ext hx); have HBb := Lib.hid (hb.ext hx); have HX := Lib.hid hx; have HW := Lib.hid hW
  have HEQ := Lib.hid heq; have HIN := Lib.hid hin; have HWD := Lib.hid hwd; have HBT := Lib.hid (small_bits' hsm)
  have HF : Hid (stateS cs ws n base = (stTo cs ws n base cs.length).2) := by unfold Hid stateS; rw [hsm]; rfl
  obtain ⟨ba, bc, rfl⟩ := hb.shape
  generalize hsum : sumI ws = sm at *
  have HSUM := Lib.hid hsum
  have hnl : decide (sm < 0) = false := decide_eq_false (by omega)
  have hwp : wrap64 (pw sm - 1) = pw sm - 1 := by unfold wrap64; omega
  have hn4 : n ≤ 4096 := by omega
  have HMask := Lib.hid hmask
  clear ha a1 a2 a3 hx hW hB1 hb hsh hwd heq hin hsm hn hsum p0 p1 p2 hmask
  have hown0 := OwnInts.empty W W.heap.size (Nat.le_refl _)
  have HO0 := Lib.hid hown0
  have HS0 := Lib.hid (HBb.out.ext ((Ext.refl W).alloc (.cells #[] 3)))
  clear hown0
  go_enter Tryz.func45, Tryz.ntmps45
  go_upto_region 1 with fail
  rw [← HW.out]
  go_wp2_with (at_builtin; refine wpList_append_list rfl (.tmp 10) (.tmp 11) rfl W.heap.size _ _ [] base rfl rfl HO0.out HS0.out (by simp; omega) (by simp) ?_)
  intro v' w1 hown' hg
  have hx' : Ext W w1 := ((Ext.refl W).alloc _).grown hg (fun q hq => HO0.out.base q hq)
  have HO' : Hid (OwnInts w1 W.heap.size v' base) := Lib.hid hown'
  have HX' := Lib.hid hx'
  obtain ⟨sa, sc, rfl⟩ := HO'.out.ints.shape
  clear hown' hx' hg HO0 HS0
  have q0 := HX'.out.cell P0.out; have q1 := HX'.out.cell P1.out
  go_wp2_with fail
  refine (RBits_any cs ws 12 _ _ _ (A1.out.ext HX'.out) (A2.out.ext HX'.out)).mono ?_
  rintro r w2 ⟨rfl, x2⟩
  rw [HBT.out]
  have HX2 := Lib.hid (HX'.out.trans x2); have HO2 := Lib.hid (HO'.out.kept x2)
  clear x2 q0 q1 HX' HO'
  have q1 := HX2.out.cell P1.out
  go_wp2_with fail
  refine (RSum_any ws _ _ (A2.out.ext HX2.out) HWD.out).mono ?_
  rintro r w3 ⟨rfl, hw3⟩
  rw [hw3, HSUM.out]; clear hw3 w3
  go_wp2_with fail
  refine (Power_any sm _ (by omega)).mono ?_
  rintro r w3 ⟨rfl, hw3⟩
  rw [← hw3]; clear hw3 w3
  go_upto_region 5 with fail
  rw [HMask.out]
  clear HMask hwp hnl q1
  go_wp2_with fail
  go_loopw [1, 8] (fun x i wr => ∃ k : Nat, k ≤ cs.length ∧ i = .int .i64 k ∧ x = .int .i64 (stTo cs ws n base k).1 ∧ Ext W wr ∧ (stTo cs ws n base k).2.length = base.length ∧ OwnInts wr W.heap.size (.slice sa base.length sc) (stTo cs ws n base k).2) (fun _ i _ => cs.length - (intOf i).toNat)
  case atStart => exact ⟨0, Nat.zero_le _, rfl, rfl, HX2.out, rfl, HO2.out⟩
  case round =>
    obtain ⟨k, hk, rfl, rfl, hX, hbl, hO⟩ := hrel
    have HXr := Lib.hid hX; have HO := Lib.hid hO; have HBL := Lib.hid hbl; clear hX hO hbl
    have q0 := HXr.out.cell P0.out; have q1 := HXr.out.cell P1.out
    by_cases hlt : k < cs.length
    · have hlt2 : k < ws.length := by have := HEQ.out; omega
      rcases A1.out with ⟨_, e⟩ | ⟨b, o, cap', e, _, hcl⟩
      · rw [e] at hlt; simp at hlt
      cases e
      rcases A2.out with ⟨_, e⟩ | ⟨b2, o2, cap2, e, _, hcl2⟩
      · rw [e] at hlt2; simp at hlt2
      cases e
      have g0 : wr.cell? ⟨b, o + k, none⟩ = some (.int .i64 cs[k]) := by have := HXr.out.cell (hcl k hlt); rw [Nat.mul_one] at this; exact this
      have g1 : wr.cell? ⟨b2, o2 + k, none⟩ = some (.int .i64 ws[k]) := by have := HXr.out.cell (hcl2 k hlt2); rw [Nat.mul_one] at this; exact this
      clear hcl hcl2
      have hbd := HIN.out k hlt
      rw [show cs.getD k 0 = cs[k] by simp [List.getD, hlt], show ws.getD k 0 = ws[k] by simp [List.getD, hlt2]] at hbd
      have HS := Lib.hid (stTo_succ (n : Int) base HEQ.out hlt)
      have hst1 : (stStep (stTo cs ws n base k) (cs[k], ws[k])).1 = (stTo cs ws n base k).1 / pw ws[k] := rfl
      have hst2 : (stStep (stTo cs ws n base k) (cs[k], ws[k])).2 = if cs[k] < ((stTo cs ws n base k).2.length : Int) then (stTo cs ws n base k).2.set cs[k].toNat ((stTo cs ws n base k).1 % pw ws[k]) else (stTo cs ws n base k).2 := rfl
      obtain ⟨m0, m1⟩ := stTo_pos HEQ.out n base k (by omega)
      rw [← HS.out] at hst1 hst2
      have HST1 := Lib.hid hst1; have HST2 := Lib.hid hst2
      clear hst1 hst2 HS
      generalize (stTo cs ws n base k).1 = m at *
      generalize (stTo cs ws n base k).2 = st at *
      generalize cs[k] = c at *
      generalize ws[k] = wd at *
      obtain ⟨h1, h2, h3, h4⟩ := hbd
      obtain ⟨cN, rfl⟩ := Int.eq_ofNat_of_zero_le h1
      obtain ⟨mN, rfl⟩ := Int.eq_ofNat_of_zero_le m0
      have hp := @pw_pos wd
      obtain ⟨pN, hpN⟩ := Int.eq_ofNat_of_zero_le (show 0 ≤ pw wd by omega)
      have HPN := Lib.hid hpN
      have hpn0 : 0 < pN := by omega
      have hcb : cN < base.length := by omega
      have hcs : cN < st.length := by rw [HBL.out]; exact hcb
      obtain ⟨qN, hqN⟩ : ∃ q, q = mN / pN := ⟨_, rfl⟩
      obtain ⟨rN, hrN⟩ : ∃ r, r = mN % pN := ⟨_, rfl⟩
      have hmq : qN ≤ mN := by rw [hqN]; exact Nat.div_le_self _ _
      have e1 : wrap64 ((mN : Int).tdiv (pN : Int)) = (qN : Int) := by
        rw [Int.tdiv_eq_ediv_of_nonneg (by omega)]
        have e : ((mN : Int) / (pN : Int)) = (qN : Int) := by rw [hqN]; push_cast; rfl
        rw [e]; unfold wrap64; omega
      have e1b : wrap64 ((mN : Int) / (pN : Int)) = (qN : Int) := by rw [Int.tdiv_eq_ediv_of_nonneg (by omega)] at e1; exact e1
      have e2 : (mN : Int).tmod (pN : Int) = (rN : Int) := by rw [Int.tmod_eq_emod_of_nonneg (by omega), hrN]; push_cast; rfl
      have HE1 : Hid ((mN : Int) / pw wd = (qN : Int)) := by unfold Hid; rw [hpN, hqN]; push_cast; rfl
      have HE2 : Hid ((mN : Int) % pw wd = (rN : Int)) := by unfold Hid; rw [hpN, hrN]; push_cast; rfl
      clear hqN hrN
      have hpz : ¬ pN = 0 := by omega
      obtain ⟨g, cap, hve, hg, hcell⟩ := HO.out.open (by omega)
      rw [HBL.out] at hve
      cases hve
      have d0 := (hcell cN hcs).1
      have d1 := (hcell cN hcs).2
      have hO' := HO.out
      rw [← HBL.out] at hO'
      have hown := hO'.set (i := cN) (rN : Int)
      rw [HBL.out] at hown
      have HOWN := Lib.hid hown
      have hE2 := HST2.out
      rw [if_pos (by omega), HE2.out] at hE2
      have HST3 := Lib.hid hE2
      have XS := Lib.hid (HXr.out.setCell (p := ⟨g, cN, none⟩) hg (.int .i64 (rN : Int)))
      have i0 : (0 : Int) ≤ (cN : Int) := by omega
      have i1 : (cN : Int) < (base.length : Int) := by omega
      have k0 : (0 : Int) ≤ (k : Int) := by omega
      have k1 : (k : Int) < (cs.length : Int) := by omega
      have HPW := Lib.hid (Power_any wd wr (by omega))
      clear hcell hO' hown hE2 hpN m1
      go_wp2_with fail
      refine HPW.out.mono ?_
      rintro r w4 ⟨rfl, hw4⟩
      rw [← hw4, HPN.out]; clear hw4 w4
      go_wp2_with fail
      go_still_tail 10, (by kernel_rfl)
      go_wp2_with fail
      exact ⟨⟨k + 1, by omega, by go_num, by rw [HST1.out, HE1.out, e1b], by first | exact XS.out | exact XS.out.drew | exact XS.out.drewN _, by rw [HST3.out, List.length_set]; exact HBL.out, by rw [HST3.out]; first | exact HOWN.out | exact HOWN.out.kept (Ext.refl _).drew | exact HOWN.out.kept ((Ext.refl _).drewN _)⟩, by simp [intOf]; omega⟩
    · obtain rfl : k = cs.length := by omega
      rw [← HF.out] at HO
      go_wp2_with fail
      go_ret
      exact ⟨_, rfl, HO.out.mono HX.out.size, HX.out.trans HXr.out⟩
end Go.Proofs.YtlnahhlddekhoaaGreatDoor
namespace Go.Proofs.YtlnahhlddekhoaaGreatDoor
open Go.RowKit
attribute [local go_sem] Oper.semAt_some

abbrev RowB (w : World) (A : Nat) (f : Nat → Bool) : Prop := w.rowIs A 4 32 fun j => .bool (f j)
theorem StepX.app {X : Nat → Prop} {A B C : World} (h : StepX X A B) (hx : Ext B C) : StepX X A C :=
  ⟨hx.os.trans h.os, hx.tape.trans h.tape, hx.output.trans h.output, Nat.le_trans h.size hx.size, fun k hk hn => (hx.block k (Nat.lt_of_lt_of_le hk h.size)).trans (h.block k hk hn)⟩
theorem StepX.ext {u A B : World} {X : Nat → Prop} (h : Ext u A) (hx : StepX X A B) (hX : ∀ k, X k → u.heap.size ≤ k) : Ext u B :=
  ⟨hx.os.trans h.os, hx.tape.trans h.tape, hx.output.trans h.output, Nat.le_trans h.size hx.size, fun k hk => (hx.block k (Nat.lt_of_lt_of_le hk h.size) (fun e => absurd (hX k e) (by omega))).trans (h.block k hk)⟩
theorem RowB.lt {w : World} {A : Nat} {f : Nat → Bool} (h : RowB w A f) : A < w.heap.size := by
  obtain ⟨c, hc, _⟩ := h
  exact lt_heap hc
theorem RowB.ext {w w' : World} {A : Nat} {f : Nat → Bool} (h : RowB w A f) (hx : Ext w w') : RowB w' A f := h.of_block (hx.block _ h.lt)
theorem RowB.other {w : World} {A B n : Nat} {f : Nat → Bool} {v : Value} (h : RowB w A f) (hAB : A ≠ B) : RowB (w.setCell ⟨B, n, none⟩ v) A f := h.of_block (heap_setCell_other _ _ _ _ hAB)
theorem RowB.congr' {w : World} {A : Nat} {f f' : Nat → Bool} (h : RowB w A f) (e : ∀ j, f' j = f j) : RowB w A f' := World.rowIs.congr h fun j _ => by rw [e]
theorem occurs_app (op : Int) (l l' : List E) (j : Nat) : occurs op (l ++ l') j = (occurs op l j || occurs op l' j) := by simp [occurs]
theorem cell_same {w w' : World} {k o : Nat} (h : w'.heap[k]? = w.heap[k]?) : w'.cell? ⟨k, o, none⟩ = w.cell? ⟨k, o, none⟩ := by simp [World.cell?, h]
def pairX (A B : Nat) (k : Nat) : Prop := k = A ∨ k = B

set_option maxHeartbeats 4000000 in
theorem Rmarks_leaf (A B : Nat) (hAB : A ≠ B) (op wd : Int) (m : Nat) (hm : op ≠ 1 → m < 32) (ho : op = 1 ∨ op = 2 ∨ op = 3) (a : Option Addr) (cap : Nat) (w : World) (f g : Nat → Bool) (h1 : RowB w A f) (h2 : RowB w B g) :
    Calls Tryz.prog 84 #[.agg #[.int .i64 op, .int .i64 wd, .int .i64 m, .slice a 0 cap], .slice (some ⟨A, 0, none⟩) 32 32, .slice (some ⟨B, 0, none⟩) 32 32] w fun r w' => r = .returned (.tuple #[]) ∧ StepX (pairX A B) w w' ∧ RowB w' A (fun j => f j || occurs 3 [.mk op wd m []] j) ∧ RowB w' B (fun j => g j || occurs 2 [.mk op wd m []] j) := by
  have hlA := h1.lt; have hlB := h2.lt
  have H1 := Lib.hid h1; have H2 := Lib.hid h2; have HX0 : Hid (∀ x, Ext w (w.alloc x)) := fun x => (Ext.refl w).alloc x
  clear h1 h2
  rcases ho with rfl | rfl | rfl
  · obtain ⟨W, hW⟩ : ∃ W, W = w.alloc (.cells #[.int .i64 1, .int .i64 wd, .int .i64 m, .slice a 0 cap] 26) := ⟨_, rfl⟩
    have HF : Hid (StepX (pairX A B) w W ∧ RowB W A (fun j => f j || occurs 3 [.mk 1 wd m []] j) ∧ RowB W B (fun j => g j || occurs 2 [.mk 1 wd m []] j)) := by
      have hx : Ext w W := by rw [hW]; exact HX0.out _
      exact ⟨(StepX.refl _ _).app hx, (H1.out.ext hx).congr' fun j => by simp [occurs], (H2.out.ext hx).congr' fun j => by simp [occurs]⟩
    have y3 : W.cell? ⟨w.heap.size, 3, none⟩ = some (.slice a 0 cap) := by
      rw [hW]
      simp
    have HY := Lib.hid y3; have HW := Lib.hid hW
    clear hW y3
    go_enter Tryz.func84, Tryz.ntmps84
    go_wp2_with fail
    rw [← HW.out]
    go_loopw [6] (fun i wr => i = .int .i64 (0 : Nat) ∧ wr = W) (fun i _ => 0)
    case atStart => exact ⟨rfl, rfl⟩
    case round =>
      obtain ⟨rfl, rfl⟩ := hrel
      have y3 := HY.out
      go_wp2_with fail
      go_end0
      exact ⟨rfl, HF.out⟩
  · have hm := hm (by decide)
    have hm0 : (0 : Int) ≤ (m : Int) := by omega
    have hm1 : (m : Int) < 32 := by omega
    have q5 := (H2.out.ext (HX0.out (.cells #[.int .i64 2, .int .i64 wd, .int .i64 m, .slice a 0 cap] 26))).cell hm
    have q6 := (H2.out.ext (HX0.out (.cells #[.int .i64 2, .int .i64 wd, .int .i64 m, .slice a 0 cap] 26))).frozen m
    obtain ⟨W, hW⟩ : ∃ W, W = (w.setCell ⟨B, m, none⟩ (.bool true)).alloc (.cells #[.int .i64 2, .int .i64 wd, .int .i64 m, .slice a 0 cap] 26) := ⟨_, rfl⟩
    have HF : Hid (StepX (pairX A B) w W ∧ RowB W A (fun j => f j || occurs 3 [.mk 2 wd m []] j) ∧ RowB W B (fun j => g j || occurs 2 [.mk 2 wd m []] j)) := by
      have hx : ∀ x, Ext (w.setCell ⟨B, m, none⟩ (.bool true)) ((w.setCell ⟨B, m, none⟩ (.bool true)).alloc x) := fun x => (Ext.refl _).alloc x
      rw [hW]
      exact ⟨((StepX.refl _ _).setCell (p := ⟨B, m, none⟩) (.inr rfl) _).app (hx _), ((H1.out.other hAB).ext (hx _)).congr' fun j => by simp [occurs], (row_mark (f' := fun j => g j || occurs 2 [.mk 2 wd m []] j) H2.out fun j => by simp only [occurs, List.any_cons, List.any_nil, Bool.or_false]; exact (occ_eq _ 2 m j).symm) |> fun h => RowB.ext h (hx _)⟩
    generalize g m = ob at q5
    have y3 : W.cell? ⟨w.heap.size, 3, none⟩ = some (.slice a 0 cap) := by
      rw [hW]
      have hb := heap_new (w.setCell ⟨B, m, none⟩ (.bool true)) (.cells #[.int .i64 2, .int .i64 wd, .int .i64 m, .slice a 0 cap] 26)
      rw [show (w.setCell ⟨B, m, none⟩ (.bool true)).heap.size = w.heap.size by simp [World.setCell]] at hb
      rw [Lib.cell_of_heap hb]; rfl
    have HY := Lib.hid y3; have HW := Lib.hid hW
    clear hW y3
    go_enter Tryz.func84, Tryz.ntmps84
    go_wp2_with fail
    rw [← HW.out]
    go_loopw [6] (fun i wr => i = .int .i64 (0 : Nat) ∧ wr = W) (fun i _ => 0)
    case atStart => exact ⟨rfl, rfl⟩
    case round =>
      obtain ⟨rfl, rfl⟩ := hrel
      have y3 := HY.out
      go_wp2_with fail
      go_end0
      exact ⟨rfl, HF.out⟩
  · have hm := hm (by decide)
    have hm0 : (0 : Int) ≤ (m : Int) := by omega
    have hm1 : (m : Int) < 32 := by omega
    have q5 := (H1.out.ext (HX0.out (.cells #[.int .i64 3, .int .i64 wd, .int .i64 m, .slice a 0 cap] 26))).cell hm
    have q6 := (H1.out.ext (HX0.out (.cells #[.int .i64 3, .int .i64 wd, .int .i64 m, .slice a 0 cap] 26))).frozen m
    obtain ⟨W, hW⟩ : ∃ W, W = (w.setCell ⟨A, m, none⟩ (.bool true)).alloc (.cells #[.int .i64 3, .int .i64 wd, .int .i64 m, .slice a 0 cap] 26) := ⟨_, rfl⟩
    have HF : Hid (StepX (pairX A B) w W ∧ RowB W A (fun j => f j || occurs 3 [.mk 3 wd m []] j) ∧ RowB W B (fun j => g j || occurs 2 [.mk 3 wd m []] j)) := by
      have hx : ∀ x, Ext (w.setCell ⟨A, m, none⟩ (.bool true)) ((w.setCell ⟨A, m, none⟩ (.bool true)).alloc x) := fun x => (Ext.refl _).alloc x
      rw [hW]
      exact ⟨((StepX.refl _ _).setCell (p := ⟨A, m, none⟩) (.inl rfl) _).app (hx _), (row_mark (f' := fun j => f j || occurs 3 [.mk 3 wd m []] j) H1.out fun j => by simp only [occurs, List.any_cons, List.any_nil, Bool.or_false]; exact (occ_eq _ 3 m j).symm) |> fun h => RowB.ext h (hx _), ((H2.out.other (Ne.symm hAB)).ext (hx _)).congr' fun j => by simp [occurs]⟩
    generalize f m = ob at q5
    have y3 : W.cell? ⟨w.heap.size, 3, none⟩ = some (.slice a 0 cap) := by
      rw [hW]
      have hb := heap_new (w.setCell ⟨A, m, none⟩ (.bool true)) (.cells #[.int .i64 3, .int .i64 wd, .int .i64 m, .slice a 0 cap] 26)
      rw [show (w.setCell ⟨A, m, none⟩ (.bool true)).heap.size = w.heap.size by simp [World.setCell]] at hb
      rw [Lib.cell_of_heap hb]; rfl
    have HY := Lib.hid y3; have HW := Lib.hid hW
    clear hW y3
    go_enter Tryz.func84, Tryz.ntmps84
    go_wp2_with fail
    rw [← HW.out]
    go_loopw [6] (fun i wr => i = .int .i64 (0 : Nat) ∧ wr = W) (fun i _ => 0)
    case atStart => exact ⟨rfl, rfl⟩
    case round =>
      obtain ⟨rfl, rfl⟩ := hrel
      have y3 := HY.out
      go_wp2_with fail
      go_end0
      exact ⟨rfl, HF.out⟩

set_option maxHeartbeats 4000000 in
theorem Rmarks_any (A B : Nat) (hAB : A ≠ B) (u : World) (hA : u.heap.size ≤ A) (hB : u.heap.size ≤ B) (N : Nat) : ∀ (e : E) (d : Nat) (v : Value) (w : World) (f g : Nat → Bool), e.size ≤ N → e.deep d = true → EVal u v e → Ext u w → RowB w A f → RowB w B g →
    Calls Tryz.prog 84 #[v, .slice (some ⟨A, 0, none⟩) 32 32, .slice (some ⟨B, 0, none⟩) 32 32] w fun r w' => r = .returned (.tuple #[]) ∧ StepX (pairX A B) w w' ∧ RowB w' A (fun j => f j || occurs 3 e.leaves j) ∧ RowB w' B (fun j => g j || occurs 2 e.leaves j) := by
  induction N with
  | zero => intro e d v w f g h; have := e.size_pos; omega
  | succ N ih =>
    intro e d v w f g hN hd he hx h1 h2
    obtain ⟨kv, rfl, hk⟩ := he
    obtain ⟨op, wd, n, ks⟩ := e
    simp only [E.op_mk, E.wd_mk, E.n_mk, E.kids_mk] at hk ⊢
    obtain ⟨a, cap, rfl⟩ := SliceAt.shape hk
    by_cases hks : ks = []
    · subst hks
      obtain ⟨ho, hn0, hn⟩ := shapedW_leaf (by simpa using deep_shape hd)
      obtain ⟨m, rfl⟩ := Int.eq_ofNat_of_zero_le hn0
      rw [leaves_nil]
      exact Rmarks_leaf A B hAB op wd m (fun h => by have := hn h; omega) ho a cap w f g h1 h2
    · obtain ⟨n2, n3⟩ := deep_inner hd hks
      rw [leaves_cons hks]
      have hlen : ks.length ≤ 9223372036854775807 := SliceAt.len_le hk
      have hb2 : (op == 2) = false := by simpa using n2
      have hb3 : (op == 3) = false := by simpa using n3
      have hwA := h1.lt; have hwB := h2.lt
      have IH := Lib.hid ih; have HK := Lib.hid hk; have HD := Lib.hid hd; have HX := Lib.hid hx; have H1 := Lib.hid h1; have H2 := Lib.hid h2
      have HX0 : Hid (∀ x, Ext w (w.alloc x)) := fun x => (Ext.refl w).alloc x
      have HUA := Lib.hid hA; have HUB := Lib.hid hB
      clear ih hk hd hks n2 n3 hx h1 h2 hA hB
      go_enter Tryz.func84, Tryz.ntmps84
      go_wp2_with fail
      go_loopw [6] (fun i wr => ∃ (k : Nat), k ≤ ks.length ∧ i = .int .i64 k ∧ StepX (pairX A B) w wr ∧ w.heap.size < wr.heap.size ∧ wr.cell? ⟨w.heap.size, 3, none⟩ = some (.slice a ks.length cap) ∧ RowB wr A (fun j => f j || occurs 3 (leavesAll (ks.take k)) j) ∧ RowB wr B (fun j => g j || occurs 2 (leavesAll (ks.take k)) j)) (fun i _ => ks.length - (intOf i).toNat)
      case atStart => exact ⟨0, Nat.zero_le _, rfl, (StepX.refl _ _).app (HX0.out _), by simp, by simp, (H1.out.ext (HX0.out _)).congr' fun j => by simp [occurs, leavesAll], (H2.out.ext (HX0.out _)).congr' fun j => by simp [occurs, leavesAll]⟩
      case round =>
        obtain ⟨k, hk, rfl, hS, hz, c3, hr1, hr2⟩ := hrel
        have HS := Lib.hid hS; have HR1 := Lib.hid hr1; have HR2 := Lib.hid hr2; have HC3 := Lib.hid c3; clear hS hr1 hr2
        by_cases hlt : k < ks.length
        · have HUW : Hid (Ext u wr) := HS.out.ext HX.out fun k hk => by
            have h1 := HUA.out; have h2 := HUB.out
            rcases hk with rfl | rfl <;> omega
          have HLV : Hid (leavesAll (ks.take (k + 1)) = leavesAll (ks.take k) ++ ks[k].leaves) := leavesAll_take_succ hlt
          rcases HK.out with ⟨_, e⟩ | ⟨b', o', cap', e, _, hk'⟩
          · rw [e] at hlt; simp at hlt
          cases e
          have hE0 := hk' k hlt
          have hE := hE0.ext HUW.out
          obtain ⟨g0, g1, g2, kv, g3, hkk⟩ := hE.cells
          obtain ⟨_, _, _, kv', g3', hkk'⟩ := hE0.cells
          have hkv : kv' = kv := by
            have := HUW.out.cell g3'
            rw [g3] at this; cases this; rfl
          subst hkv
          obtain ⟨ka, kc, rfl⟩ := SliceAt.shape hkk'
          have hin : ks[k] ∈ ks := List.getElem_mem hlt
          have hsz : ks[k].size ≤ N := by have := size_kid (op := op) (wd := wd) (n := n) hin; omega
          have HE : Hid (EVal u (.agg #[.int .i64 ks[k].op, .int .i64 ks[k].wd, .int .i64 ks[k].n, .slice ka ks[k].kids.length kc]) ks[k]) := ⟨_, rfl, hkk'⟩
          clear hkk hkk' hk' hE hE0 g3'
          go_wp2_with fail
          refine (IH.out _ _ _ _ _ _ hsz (deep_kid HD.out hlt) HE.out HUW.out HR1.out HR2.out).mono ?_
          rintro r w2 ⟨rfl, hs2, hq1, hq2⟩
          have HS2 := Lib.hid (HS.out.trans hs2)
          have hz2 : w.heap.size < w2.heap.size := Nat.lt_of_lt_of_le hz hs2.size
          have HC32 := Lib.hid ((cell_same (hs2.block w.heap.size hz (fun h => by rcases h with h | h <;> omega))).trans HC3.out)
          have HQ1 : Hid (RowB w2 A (fun j => f j || occurs 3 (leavesAll (ks.take (k + 1))) j)) := hq1.congr' fun j => by rw [HLV.out, occurs_app, Bool.or_assoc]
          have HQ2 : Hid (RowB w2 B (fun j => g j || occurs 2 (leavesAll (ks.take (k + 1))) j)) := hq2.congr' fun j => by rw [HLV.out, occurs_app, Bool.or_assoc]
          clear hs2 hq1 hq2
          go_wp2_with fail
          exact ⟨⟨k + 1, by omega, by go_num, HS2.out, hz2, HC32.out, HQ1.out, HQ2.out⟩, by simp [intOf]; omega⟩
        · have hkl : k = ks.length := by omega
          subst hkl
          rw [List.take_length] at HR1 HR2
          go_wp2_with fail
          go_end0
          exact ⟨rfl, HS.out, HR1.out, HR2.out⟩
end Go.Proofs.YtlnahhlddekhoaaGreatDoor
namespace Go.Proofs.YtlnahhlddekhoaaGreatDoor
open Go.RowKit
attribute [local go_sem] Oper.semAt_some

set_option maxRecDepth 100000 in
set_option maxHeartbeats 4000000 in
theorem RSupport_any (e : E) (v : Value) (w : World) (he : EVal w v e) :
    Calls Tryz.prog 42 #[v] w fun r w' => (∃ v1 v2, r = .returned (.tuple #[v1, v2]) ∧ Ints w' v1 e.supOld ∧ Ints w' v2 e.supNow) ∧ Ext w w' := by
  obtain ⟨kv, rfl, hk⟩ := he
  obtain ⟨a, cap, rfl⟩ := SliceAt.shape hk
  have HE : Hid (EVal w (.agg #[.int .i64 e.op, .int .i64 e.wd, .int .i64 e.n, .slice a e.kids.length cap]) e) := ⟨_, rfl, hk⟩
  have HX0 : Hid (∀ x, Ext w (w.alloc x)) := fun x => (Ext.refl w).alloc x
  clear hk
  have hmk := makeBits32
  go_enter Tryz.func42, Tryz.ntmps42
  go_wp2_with fail
  refine (RFormed_any e _ _ (HE.out.ext (HX0.out _))).mono ?_
  rintro r w1 ⟨rfl, hx1⟩
  have c0 : w1.cell? ⟨w.heap.size, 0, none⟩ = some (.int .i64 e.op) := hx1.cell (by simp)
  have c1 : w1.cell? ⟨w.heap.size, 1, none⟩ = some (.int .i64 e.wd) := hx1.cell (by simp)
  have c2 : w1.cell? ⟨w.heap.size, 2, none⟩ = some (.int .i64 e.n) := hx1.cell (by simp)
  have c3 : w1.cell? ⟨w.heap.size, 3, none⟩ = some (.slice a e.kids.length cap) := hx1.cell (by simp)
  have hsz : w.heap.size < w1.heap.size := by have := hx1.size; simp at this; omega
  have HX := Lib.hid ((HX0.out _).trans hx1); clear hx1
  cases hf : e.wf with
  | false =>
    have HF1 : Hid (e.supOld = []) := by unfold Hid E.supOld; rw [hf]; rfl
    have HF2 : Hid (e.supNow = []) := by unfold Hid E.supNow; rw [hf]; rfl
    clear hf hmk
    go_wp2_with fail
    exact bodyPost_ret (v := .tuple #[.slice none 0 0, .slice none 0 0]) (by simp [results, Tryz.results42, go_sem]) rfl ⟨⟨_, _, rfl, by rw [HF1.out]; exact .inl ⟨⟨_, _, rfl⟩, rfl⟩, by rw [HF2.out]; exact .inl ⟨⟨_, _, rfl⟩, rfl⟩⟩, HX.out⟩
  | true =>
    have HF1 : Hid (e.supOld = upTo (occurs 3 e.leaves) 32) := by unfold Hid E.supOld; rw [hf]; rfl
    have HF2 : Hid (e.supNow = upTo (occurs 2 e.leaves) 32) := by unfold Hid E.supNow; rw [hf]; rfl
    have HD : Hid (e.deep 40 = true) := by
      unfold E.wf at hf
      simp only [Bool.and_eq_true] at hf
      exact hf.2
    clear hf
    obtain ⟨W, hW⟩ : ∃ W, Boxes w1 W (.cells (madeCells #[.bool false] 32) 4) (.cells (madeCells #[.bool false] 32) 4) := ⟨_, Boxes.mk' _ _ _⟩
    have hr1 : RowB W w1.heap.size (fun _ => false) := by
      have h := RowB.ext (f := fun _ => false) (World.rowIs_made w1 (.bool false) 32 4) ((Ext.refl _).alloc (.cells (madeCells #[.bool false] 32) 4))
      rw [hW.eq]; exact h
    have hr2 : RowB W (w1.heap.size + 1) (fun _ => false) := by
      have h := World.rowIs_made (w1.alloc (.cells (madeCells #[.bool false] 32) 4)) (.bool false) 32 4
      rw [World.size_alloc] at h
      rw [hW.eq]; exact h
    have HW := Lib.hid hW.eq
    have HMK := Lib.hid (Rmarks_any w1.heap.size (w1.heap.size + 1) (by omega) w1 (Nat.le_refl _) (Nat.le_succ _) e.size e 40 _ W (fun _ => false) (fun _ => false) (Nat.le_refl _) HD.out (HE.out.ext HX.out) hW.ext hr1 hr2)
    have HXW := Lib.hid hW.ext
    clear hr1 hr2 hW
    go_wp2_with fail
    rw [← HW.out]
    clear hmk c0 c1 c2 c3
    refine HMK.out.mono ?_
    rintro r w2 ⟨rfl, hs, q1, q2⟩
    have HX2 : Hid (Ext w1 w2) := hs.ext HXW.out fun k hk => by rcases hk with rfl | rfl <;> omega
    have HB1 := Lib.hid (row_bits (by omega) q1); have HB2 := Lib.hid (row_bits (by omega) q2)
    have HU1 : Hid (upTo (bitF ((List.range 32).map fun j => false || occurs 3 e.leaves j)) 32 = upTo (occurs 3 e.leaves) 32) := upTo_congr fun j hj => by
      unfold bitF; simp [List.getD, hj]
    have HU2 : Hid (upTo (bitF ((List.range 32).map fun j => false || occurs 2 e.leaves j)) 32 = upTo (occurs 2 e.leaves) 32) := upTo_congr fun j hj => by
      unfold bitF; simp [List.getD, hj]
    clear hs q1 q2
    generalize w1.heap.size = g at *
    go_wp2_with fail
    refine (RMarked_any _ _ w2 HB1.out (by simp)).mono ?_
    rintro r w3 ⟨⟨u1, rfl, o1⟩, x3⟩
    rw [List.length_map, List.length_range, HU1.out, ← HF1.out] at o1
    have HO1 := Lib.hid o1.ints; have HX3 := Lib.hid x3
    clear o1 x3
    go_wp2_with fail
    refine (RMarked_any _ _ w3 (SliceAt.ext bitKeeps HB2.out HX3.out) (by simp)).mono ?_
    rintro r w4 ⟨⟨u2, rfl, o2⟩, x4⟩
    rw [List.length_map, List.length_range, HU2.out, ← HF2.out] at o2
    have HO2 := Lib.hid o2.ints; have HX4 := Lib.hid x4
    clear o2 x4
    go_wp2_with fail
    exact bodyPost_ret (v := .tuple #[u1, u2]) (by simp [results, Tryz.results42, go_sem]) rfl ⟨⟨_, _, rfl, HO1.out.ext HX4.out, HO2.out⟩, HX.out.trans (HX2.out.trans (HX3.out.trans HX4.out))⟩
end Go.Proofs.YtlnahhlddekhoaaGreatDoor
