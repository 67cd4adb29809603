/-
  A slice of ints appended whole (of XOf7).
  The walk of ref10.State.
-/
import Derived.Test.YtdiopiekmdfklaaDoorMLt
import Derived.Lib.AppendZerosOnto
import Derived.Lib.Walk
import Derived.Test.YtdiopiekmdfklaaDoorMAlg
import Derived.StillTailTactics
namespace Go.Proofs.YtdiopiekmdfklaaDoor
open Go.RowKit

/-- Nothing appended. -/
theorem append_nothing {w : World} {base : Nat} {v : Value} {l : List Int} (h : OwnInts w base v l) (ty : TypeId) (c : Nat) : (Builtin.append_ #[23, 23] ty #[v, .slice none 0 c]).run Tryd.prog w = .ok v w := by
  obtain ⟨i0, hi, hz0, hz1, hz2⟩ := info_parts infoInt
  have hu : Tryd.prog.underlying 23 = some (.slice 3) := Tryd.underlying23
  rcases h.2 with ⟨rfl, _⟩ | ⟨g, cap, cur, rfl, _, _, hn, _⟩
  · simp [Builtin.append_, run_underlying hu, sizeOf, typeInfo, hi, Builtin.lenOf, Builtin.firstCells]
  · simp [Builtin.append_, run_underlying hu, sizeOf, typeInfo, hi, Builtin.lenOf, Builtin.firstCells, hn, storeCells]
theorem wpList_append_list {ops : Array Oper} {rest : List Oper} {o : Oper} {a : Act} {w : World} {Q : Exit → Act → World → Prop} (hgd : o.guard = none) (s x : Operand)
    (ho : o.op = .call { callee := .builtin .append, args := #[s, x], argTypes := #[23, 23] }) (base : Nat) (v src : Value) (l l2 : List Int)
    (hs : a.eval s = v) (hx : a.eval x = src) (hown : OwnInts w base v l) (hsrc : Ints w src l2) (hl : l.length + l2.length ≤ 1000000000) (hb : base ≤ w.heap.size)
    (h : ∀ v' w', OwnInts w' base v' (l ++ l2) → w.grownBy w' v.ownBlock → wpList Tryd.prog ops Q rest (a.put o.dst v') w') : wpList Tryd.prog ops Q (o :: rest) a w := by
  obtain ⟨i0, hi, hz0, hz1, hz2⟩ := info_parts infoInt
  have key : ∀ (ad : Addr) (c : Nat), src = .slice (some ad) l2.length c → (∀ j u, (l2.map (Value.int .i64))[j]? = some u → w.cell? (ad.add j) = some u) → wpList Tryd.prog ops Q (o :: rest) a w := fun ad c he hn =>
    wpList_append_own _ hgd s x 23 ho base 3 i0 (.int .i64 0) 1 8 Tryd.underlying23 hi hz0 hz1 hz2 rfl (by decide) v l.length (l.map (Value.int .i64)) hs hown ad l2.length c (l2.map (Value.int .i64)) (hx.trans he) (by simp) hn
      (fun u hu => by obtain ⟨y, _, rfl⟩ := List.mem_map.1 hu; rfl) (by unfold maxLen; omega) (by omega) hb fun v' w' h1 h2 _ => h v' w' (by simpa [OwnInts] using h1) h2
  rcases hsrc with ⟨⟨A, c, rfl⟩, rfl⟩ | ⟨b, of, cap, rfl, hm, hc⟩
  · cases A with
    | some ad => exact key ad c rfl (fun j u hu => by simp at hu)
    | none =>
      refine wpList_plain hgd fun K hK => ?_
      unfold Oper.wp execOp
      simp only [ho, resolve, invoke, builtin, Sem.run_bind, Sem.run_pure, Result.andThen_ok, List.map_toArray, List.map_cons, List.map_nil, hs, hx, append_nothing hown]
      exact hK _ _ (h v w (by simpa using hown) (World.grownBy.refl w _))
  · refine key ⟨b, of, none⟩ cap rfl fun j u hu => ?_
    have hj : j < l2.length := by
      have := (List.getElem?_eq_some_iff.1 hu).1; simpa using this
    have hadd : (⟨b, of, none⟩ : Addr).add j = ⟨b, of + j, none⟩ := by unfold Addr.add; split <;> simp_all
    have := hc j hj
    rw [Nat.mul_one] at this
    rw [hadd]
    have e : u = .int .i64 l2[j] := by simpa [hj] using hu.symm
    rw [e]; exact this
theorem mask_nat12 (n : Int) (k : Nat) (hk : k ≤ 12) : bits .and .i64 n (2 ^ k - 1) = n % 2 ^ k := by
  have e : ((2 : Int) ^ k - 1) = ((2 ^ k - 1 : Nat) : Int) := by rw [Int.natCast_sub (Nat.two_pow_pos k)]; simp
  have hs : 2 ^ k ≤ 2 ^ 12 := Nat.pow_le_pow_right (by decide) hk
  have hp : 0 < 2 ^ k := Nat.two_pow_pos k
  have key : (BitVec.ofInt 64 n &&& BitVec.ofInt 64 ((2 : Int) ^ k - 1)).toNat = (n % ((2 ^ 64 : Nat) : Int)).toNat % 2 ^ k := by
    rw [BitVec.toNat_and, BitVec.toNat_ofInt, e, BitVec.ofInt_natCast, BitVec.toNat_ofNat, Nat.mod_eq_of_lt (a := 2 ^ k - 1) (by omega), Nat.and_two_pow_sub_one_eq_mod]
  show IntKind.i64.wrap ((BitVec.ofInt 64 n &&& BitVec.ofInt 64 ((2 : Int) ^ k - 1)).toNat : Nat) = n % 2 ^ k
  rw [key]
  have : k = 0 ∨ k = 1 ∨ k = 2 ∨ k = 3 ∨ k = 4 ∨ k = 5 ∨ k = 6 ∨ k = 7 ∨ k = 8 ∨ k = 9 ∨ k = 10 ∨ k = 11 ∨ k = 12 := by omega
  rw [IntKind.wrap_i64]
  rcases this with rfl | rfl | rfl | rfl | rfl | rfl | rfl | rfl | rfl | rfl | rfl | rfl | rfl <;> omega
theorem mask12 {n s : Int} (h0 : 0 ≤ s) (h : s ≤ 12) : bits .and .i64 n (pw s - 1) = n % pw s := by
  unfold pw; exact mask_nat12 n _ (by omega)
def lenOf : Value → Nat
  | .slice _ n _ => n
  | _ => 0
end Go.Proofs.YtdiopiekmdfklaaDoor
namespace Go.Proofs.YtdiopiekmdfklaaDoor
open Go.RowKit

theorem small_bits' {cs ws : List Int} (h : smallB cs ws = true) : bitsI cs ws 12 = sumI ws := by
  unfold smallB at h
  rw [Bool.and_eq_true, decide_eq_true_eq] at h
  unfold bitsI; rw [if_pos h]
theorem stTo_pos {cs ws : List Int} (hl : cs.length = ws.length) (n : Nat) (base : List Int) : ∀ k, k ≤ cs.length → 0 ≤ (stTo cs ws n base k).1 ∧ (stTo cs ws n base k).1 ≤ n := by
  intro k
  induction k with
  | zero => intro _; exact ⟨by show (0 : Int) ≤ (n : Int); omega, Int.le_refl _⟩
  | succ k ih =>
    intro hk
    obtain ⟨h1, h2⟩ := ih (by omega)
    rw [stTo_succ _ _ hl (by omega)]
    unfold stStep
    dsimp only
    exact ⟨Int.ediv_nonneg h1 (Int.le_of_lt pw_pos), Int.le_trans (Int.ediv_le_self _ h1) h2⟩
set_option maxRecDepth 100000 in
set_option maxHeartbeats 2000000 in
theorem RState_any (cs ws is base : List Int) (n : Nat) (va vb : Value) (w : World) (ha : SetV w va cs ws is) (hb : Ints w vb base) (hsm : smallB cs ws = true) (hn : (n : Int) < pw (sumI ws)) (h32 : 32 ≤ base.length) (hl : base.length ≤ 1000) : Calls Tryd.prog 30 #[va, .int .i64 n, vb] w fun r w' => ∃ v, r = .returned v ∧ OwnInts w' w.heap.size v (stateS cs ws n base) ∧ Ext w w' := by
  obtain ⟨ca, cc, wa, wcp, ia, ic, rfl, a1, a2, a3⟩ := ha.shape
  obtain ⟨W, hW⟩ : ∃ W, W = w.alloc (.cells #[.slice ca cs.length cc, .slice wa ws.length wcp, .slice ia is.length ic] 31) := ⟨_, rfl⟩
  have hx : Ext w W := by rw [hW]; exact (Ext.refl w).alloc _
  have hB1 : W.heap[w.heap.size]? = some (.cells #[.slice ca cs.length cc, .slice wa ws.length wcp, .slice ia is.length ic] 31 (0, 0)) := by rw [hW]; exact heap_new _ _
  obtain ⟨p0, p1, p2⟩ := cells3 hB1
  obtain ⟨hsh, hwd, hs0, hs12⟩ := small_sum hsm
  obtain ⟨heq, _, hin⟩ := shape_iff.1 hsh
  have hpw := pw_mono hs0 hs12
  have hp0 := @pw_pos (sumI ws)
  have hmask := mask12 (n := (n : Int)) hs0 hs12
  rw [Int.emod_eq_of_lt (by omega) hn] at hmask
  rw [show pw 12 = 4096 by decide] at hpw
  have P0 := Lib.hid p0; have P1 := Lib.hid p1
  have HA := Lib.hid (ha.ext hx); have A1 := Lib.hid (a1.ext hx); have A2 := Lib.hid (a2.ext hx); have HBb := Lib.hid (hb.ext hx); have HX := Lib.hid hx; have HW := Lib.hid hW
  have HEQ := Lib.hid heq; have HIN := Lib.hid hin; have HWD := Lib.hid hwd; have HBT := Lib.hid (small_bits' hsm)
  have HF : Hid (stateS cs ws n base = (stTo cs ws n base cs.length).2) := by unfold Hid stateS; rw [hsm]; rfl
  obtain ⟨ba, bc, rfl⟩ := hb.shape
  generalize hsum : sumI ws = sm at *
  have HSUM := Lib.hid hsum
  have hnl : decide (sm < 0) = false := decide_eq_false (by omega)
  have hwp : wrap64 (pw sm - 1) = pw sm - 1 := by unfold wrap64; omega
  have hn4 : n ≤ 4096 := by omega
  have HMask := Lib.hid hmask
  clear ha a1 a2 a3 hx hW hB1 hb hsh hwd heq hin hsm hn hsum p0 p1 p2 hmask
  have hown0 := OwnInts.empty W W.heap.size (Nat.le_refl _)
  have HO0 := Lib.hid hown0
  have HS0 := Lib.hid (HBb.out.ext ((Ext.refl W).alloc (.cells #[] 3)))
  clear hown0
  go_enter Tryd.func30, Tryd.ntmps30
  go_upto_region 1 with fail
  rw [← HW.out]
  go_wp2_with (at_builtin; refine wpList_append_list rfl (.tmp 10) (.tmp 11) rfl W.heap.size _ _ [] base rfl rfl HO0.out HS0.out (by simp; omega) (by simp) ?_)
  intro v' w1 hown' hg
  have hx' : Ext W w1 := ((Ext.refl W).alloc _).grown hg (fun q hq => HO0.out.base q hq)
  have HO' : Hid (OwnInts w1 W.heap.size v' base) := Lib.hid hown'
  have HX' := Lib.hid hx'
  obtain ⟨sa, sc, rfl⟩ := HO'.out.ints.shape
  clear hown' hx' hg HO0 HS0
  have q0 := HX'.out.cell P0.out; have q1 := HX'.out.cell P1.out
  go_wp2_with fail
  refine (RBits_any cs ws 12 _ _ _ (A1.out.ext HX'.out) (A2.out.ext HX'.out)).mono ?_
  rintro r w2 ⟨rfl, x2⟩
  rw [HBT.out]
  have HX2 := Lib.hid (HX'.out.trans x2); have HO2 := Lib.hid (HO'.out.kept x2)
  clear x2 q0 q1 HX' HO'
  have q1 := HX2.out.cell P1.out
  go_wp2_with fail
  refine (RSum_any ws _ _ (A2.out.ext HX2.out) HWD.out).mono ?_
  rintro r w3 ⟨rfl, hw3⟩
  rw [hw3, HSUM.out]; clear hw3 w3
  go_wp2_with fail
  refine (Power_any sm _ (by omega)).mono ?_
  rintro r w3 ⟨rfl, hw3⟩
  rw [← hw3]; clear hw3 w3
  go_upto_region 5 with fail
  rw [HMask.out]
  clear HMask hwp hnl q1
  go_wp2_with fail
  go_loopw [1, 8] (fun x i wr => ∃ k : Nat, k ≤ cs.length ∧ i = .int .i64 k ∧ x = .int .i64 (stTo cs ws n base k).1 ∧ Ext W wr ∧ (stTo cs ws n base k).2.length = base.length ∧ OwnInts wr W.heap.size (.slice sa base.length sc) (stTo cs ws n base k).2) (fun _ i _ => cs.length - (intOf i).toNat)
  case atStart => exact ⟨0, Nat.zero_le _, rfl, rfl, HX2.out, rfl, HO2.out⟩
  case round =>
    obtain ⟨k, hk, rfl, rfl, hX, hbl, hO⟩ := hrel
    have HXr := Lib.hid hX; have HO := Lib.hid hO; have HBL := Lib.hid hbl; clear hX hO hbl
    have q0 := HXr.out.cell P0.out; have q1 := HXr.out.cell P1.out
    by_cases hlt : k < cs.length
    · have hlt2 : k < ws.length := by have := HEQ.out; omega
      rcases A1.out with ⟨_, e⟩ | ⟨b, o, cap', e, _, hcl⟩
      · rw [e] at hlt; simp at hlt
      cases e
      rcases A2.out with ⟨_, e⟩ | ⟨b2, o2, cap2, e, _, hcl2⟩
      · rw [e] at hlt2; simp at hlt2
      cases e
      have g0 : wr.cell? ⟨b, o + k, none⟩ = some (.int .i64 cs[k]) := by have := HXr.out.cell (hcl k hlt); rw [Nat.mul_one] at this; exact this
      have g1 : wr.cell? ⟨b2, o2 + k, none⟩ = some (.int .i64 ws[k]) := by have := HXr.out.cell (hcl2 k hlt2); rw [Nat.mul_one] at this; exact this
      clear hcl hcl2
      have hbd := HIN.out k hlt
      rw [show cs.getD k 0 = cs[k] by simp [List.getD, hlt], show ws.getD k 0 = ws[k] by simp [List.getD, hlt2]] at hbd
      have HS := Lib.hid (stTo_succ (n : Int) base HEQ.out hlt)
      have hst1 : (stStep (stTo cs ws n base k) (cs[k], ws[k])).1 = (stTo cs ws n base k).1 / pw ws[k] := rfl
      have hst2 : (stStep (stTo cs ws n base k) (cs[k], ws[k])).2 = if cs[k] < ((stTo cs ws n base k).2.length : Int) then (stTo cs ws n base k).2.set cs[k].toNat ((stTo cs ws n base k).1 % pw ws[k]) else (stTo cs ws n base k).2 := rfl
      obtain ⟨m0, m1⟩ := stTo_pos HEQ.out n base k (by omega)
      rw [← HS.out] at hst1 hst2
      have HST1 := Lib.hid hst1; have HST2 := Lib.hid hst2
      clear hst1 hst2 HS
      generalize (stTo cs ws n base k).1 = m at *
      generalize (stTo cs ws n base k).2 = st at *
      generalize cs[k] = c at *
      generalize ws[k] = wd at *
      obtain ⟨h1, h2, h3, h4⟩ := hbd
      obtain ⟨cN, rfl⟩ := Int.eq_ofNat_of_zero_le h1
      obtain ⟨mN, rfl⟩ := Int.eq_ofNat_of_zero_le m0
      have hp := @pw_pos wd
      obtain ⟨pN, hpN⟩ := Int.eq_ofNat_of_zero_le (show 0 ≤ pw wd by omega)
      have HPN := Lib.hid hpN
      have hpn0 : 0 < pN := by omega
      have hcb : cN < base.length := by omega
      have hcs : cN < st.length := by rw [HBL.out]; exact hcb
      obtain ⟨qN, hqN⟩ : ∃ q, q = mN / pN := ⟨_, rfl⟩
      obtain ⟨rN, hrN⟩ : ∃ r, r = mN % pN := ⟨_, rfl⟩
      have hmq : qN ≤ mN := by rw [hqN]; exact Nat.div_le_self _ _
      have e1 : wrap64 ((mN : Int).tdiv (pN : Int)) = (qN : Int) := by
        rw [Int.tdiv_eq_ediv_of_nonneg (by omega)]
        have e : ((mN : Int) / (pN : Int)) = (qN : Int) := by rw [hqN]; push_cast; rfl
        rw [e]; unfold wrap64; omega
      have e1b : wrap64 ((mN : Int) / (pN : Int)) = (qN : Int) := by rw [Int.tdiv_eq_ediv_of_nonneg (by omega)] at e1; exact e1
      have e2 : (mN : Int).tmod (pN : Int) = (rN : Int) := by rw [Int.tmod_eq_emod_of_nonneg (by omega), hrN]; push_cast; rfl
      have HE1 : Hid ((mN : Int) / pw wd = (qN : Int)) := by unfold Hid; rw [hpN, hqN]; push_cast; rfl
      have HE2 : Hid ((mN : Int) % pw wd = (rN : Int)) := by unfold Hid; rw [hpN, hrN]; push_cast; rfl
      clear hqN hrN
      have hpz : ¬ pN = 0 := by omega
      obtain ⟨g, cap, hve, hg, hcell⟩ := HO.out.open (by omega)
      rw [HBL.out] at hve
      cases hve
      have d0 := (hcell cN hcs).1
      have d1 := (hcell cN hcs).2
      have hO' := HO.out
      rw [← HBL.out] at hO'
      have hown := hO'.set (i := cN) (rN : Int)
      rw [HBL.out] at hown
      have HOWN := Lib.hid hown
      have hE2 := HST2.out
      rw [if_pos (by omega), HE2.out] at hE2
      have HST3 := Lib.hid hE2
      have XS := Lib.hid (HXr.out.setCell (p := ⟨g, cN, none⟩) hg (.int .i64 (rN : Int)))
      have i0 : (0 : Int) ≤ (cN : Int) := by omega
      have i1 : (cN : Int) < (base.length : Int) := by omega
      have k0 : (0 : Int) ≤ (k : Int) := by omega
      have k1 : (k : Int) < (cs.length : Int) := by omega
      have HPW := Lib.hid (Power_any wd wr (by omega))
      clear hcell hO' hown hE2 hpN m1
      go_wp2_with fail
      refine HPW.out.mono ?_
      rintro r w4 ⟨rfl, hw4⟩
      rw [← hw4, HPN.out]; clear hw4 w4
      go_wp2_with fail
      go_still_tail 10, (by kernel_rfl)
      go_wp2_with fail
      exact ⟨⟨k + 1, by omega, by go_num, by rw [HST1.out, HE1.out, e1b], by first | exact XS.out | exact XS.out.drew | exact XS.out.drewN _, by rw [HST3.out, List.length_set]; exact HBL.out, by rw [HST3.out]; first | exact HOWN.out | exact HOWN.out.kept (Ext.refl _).drew | exact HOWN.out.kept ((Ext.refl _).drewN _)⟩, by simp [intOf]; omega⟩
    · obtain rfl : k = cs.length := by omega
      rw [← HF.out] at HO
      go_wp2_with fail
      go_ret
      exact ⟨_, rfl, HO.out.mono HX.out.size, HX.out.trans HXr.out⟩
end Go.Proofs.YtdiopiekmdfklaaDoor
