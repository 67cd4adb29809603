/-
  The walks of the reference's Power, arity, Size, Small.
  The walk of the reference's node.
-/
import Derived.Test.YtdancokndklpnaaDoorMEval
namespace Go.Proofs.YtdancokndklpnaaDoor
open Go.RowKit

theorem pow_bd (k : Nat) (h : k ≤ 20) : 0 < (2 : Int) ^ k ∧ (2 : Int) ^ k ≤ 1048576 := by
  have h1 := Nat.pow_le_pow_right (n := 2) (by decide) h
  have e : ((2 : Int) ^ k) = ((2 ^ k : Nat) : Int) := by simp
  have h2 := Nat.two_pow_pos k
  rw [e]
  omega

set_option maxHeartbeats 400000 in
theorem Power_any (n : Int) (w : World) (h : n ≤ 20) : Calls Tryd.prog 21 #[.int .i64 n] w fun e w' => e = .returned (.int .i64 (pw n)) ∧ w = w' := by
  go_enter Tryd.func21, Tryd.ntmps21
  go_wp2
  go_loop [3, 4] (fun o i => ∃ (k : Nat) (p : Int), (k = 0 ∨ (k : Int) ≤ n) ∧ i = .int .i64 k ∧ o = .int .i64 p ∧ Hid (p = 2 ^ k)) (fun _ i => n.toNat - (intOf i).toNat)
  case atStart => exact ⟨0, 1, .inl rfl, rfl, rfl, by simp [Hid]⟩
  case round =>
    obtain ⟨k, p, hk, rfl, rfl, hp⟩ := hrel
    have hb : 0 < p ∧ p ≤ 1048576 := by rw [hp.out]; exact pow_bd k (by omega)
    obtain ⟨hb1, hb2⟩ := hb
    by_cases hlt : (k : Int) < n
    · go_wp2
      go_round
      case rel => exact ⟨k + 1, _, .inr (by omega), by go_num, rfl, by unfold Hid; rw [Int.pow_succ, ← hp.out]⟩
      case measure => simp [intOf]; omega
    · go_wp2
      go_ret
      refine ⟨?_, rfl⟩
      have : n.toNat = k := by omega
      rw [pw, this, ← hp.out]; rfl

/-- The number of kids of an operator, -1 if it is unknown. -/
def arityS (op : Int) : Int := if 1 ≤ op ∧ op ≤ 3 then 0 else if op = 4 then 1 else if 5 ≤ op ∧ op ≤ 13 then 2 else if op = 14 then 3 else -1

set_option maxHeartbeats 400000 in
theorem arity_any (op : Int) (w : World) : Calls Tryd.prog 91 #[.int .i64 op] w fun e w' => e = .returned (.int .i64 (arityS op)) ∧ w' = w := by
  have hc : op < 1 ∨ (1 ≤ op ∧ op ≤ 3) ∨ op = 4 ∨ (5 ≤ op ∧ op ≤ 13) ∨ op = 14 ∨ 14 < op := by omega
  rcases hc with h | ⟨h, h'⟩ | rfl | ⟨h, h'⟩ | rfl | h
  · have HF : Hid (arityS op = -1) := by unfold Hid arityS; rw [if_neg (by omega), if_neg (by omega), if_neg (by omega), if_neg (by omega)]
    go_enter Tryd.func91, Tryd.ntmps91
    go_wp2
    go_ret
    exact ⟨by rw [HF.out]; rfl, rfl⟩
  · have HF : Hid (arityS op = 0) := by unfold Hid arityS; rw [if_pos (by omega)]
    go_enter Tryd.func91, Tryd.ntmps91
    go_wp2
    go_ret
    exact ⟨by rw [HF.out]; rfl, rfl⟩
  · go_enter Tryd.func91, Tryd.ntmps91
    go_wp2
    go_ret
    exact ⟨rfl, rfl⟩
  · have HF : Hid (arityS op = 2) := by unfold Hid arityS; rw [if_neg (by omega), if_neg (by omega), if_pos (by omega)]
    go_enter Tryd.func91, Tryd.ntmps91
    go_wp2
    go_ret
    exact ⟨by rw [HF.out]; rfl, rfl⟩
  · go_enter Tryd.func91, Tryd.ntmps91
    go_wp2
    go_ret
    exact ⟨rfl, rfl⟩
  · have HF : Hid (arityS op = -1) := by unfold Hid arityS; rw [if_neg (by omega), if_neg (by omega), if_neg (by omega), if_neg (by omega)]
    go_enter Tryd.func91, Tryd.ntmps91
    go_wp2
    go_ret
    exact ⟨by rw [HF.out]; rfl, rfl⟩

/-- What the reference's Size computes. -/
def sizeLim (s : Nat) (l : Int) : Int := if l ≤ 0 then 0 else if (s : Int) ≤ l then s else l

theorem sizeAll_snoc {ks : List E} {k : Nat} (h : k < ks.length) : sizeAll (ks.take (k + 1)) = sizeAll (ks.take k) + ks[k].size := by
  rw [sizeAll_eq, sizeAll_eq, List.take_succ_eq_append_getElem h, List.map_append, List.sum_append]
  simp only [List.map_cons, List.map_nil, List.sum_cons, List.sum_nil, Nat.add_zero]
theorem sizeAll_take (ks : List E) (k : Nat) : sizeAll (ks.take k) ≤ sizeAll ks := by
  have : ks = ks.take k ++ ks.drop k := (List.take_append_drop k ks).symm
  rw [sizeAll_eq, sizeAll_eq]
  conv => rhs; rw [this, List.map_append, List.sum_append]
  omega
theorem sizeLim_pos {s : Nat} {l : Int} (h : 0 < l) : sizeLim s l = if (s : Int) ≤ l then (s : Int) else l := by unfold sizeLim; rw [if_neg (by omega)]
theorem sizeLim_step {s t : Nat} {l : Int} (h : sizeLim s l < l) (h1 : 0 < l) : sizeLim (s + t) l = sizeLim s l + sizeLim t (l - sizeLim s l) := by
  have e : sizeLim s l = s := by
    rw [sizeLim_pos h1] at h ⊢
    split at h
    · rename_i c; rw [if_pos c]
    · omega
  rw [e] at h ⊢
  rw [sizeLim_pos h1, sizeLim_pos (by omega)]
  by_cases c : ((t : Nat) : Int) ≤ l - s
  · rw [if_pos c, if_pos (by omega)]; omega
  · rw [if_neg c, if_neg (by omega)]; omega
theorem sizeLim_stay {s t : Nat} {l : Int} (h : ¬ sizeLim s l < l) (h1 : 0 < l) : sizeLim (s + t) l = sizeLim s l := by
  rw [sizeLim_pos h1] at h ⊢
  rw [sizeLim_pos h1]
  split at h <;> split <;> omega
theorem sizeLim_bd (s : Nat) (l : Int) (h : 0 < l) : 0 ≤ sizeLim s l ∧ sizeLim s l ≤ l := by
  unfold sizeLim; rw [if_neg (by omega)]; split <;> omega

set_option maxHeartbeats 1000000 in
theorem RSize_any (N : Nat) : ∀ (e : E) (v : Value) (w : World) (l : Int), e.size ≤ N → EVal w v e → -10000 ≤ l → l ≤ 10000 →
    Calls Tryd.prog 63 #[v, .int .i64 l] w fun r w' => r = .returned (.int .i64 (sizeLim e.size l)) ∧ Ext w w' := by
  induction N with
  | zero => intro e v w l h; have := e.size_pos; omega
  | succ N ih =>
    intro e v w l hN he hl0 hl1
    obtain ⟨kv, rfl, hk⟩ := he
    obtain ⟨op, wd, n, ks⟩ := e
    simp only [E.op_mk, E.wd_mk, E.n_mk, E.kids_mk] at hk ⊢
    obtain ⟨a, cap, rfl⟩ := SliceAt.shape hk
    have hlen : ks.length ≤ 9223372036854775807 := SliceAt.len_le hk
    have IH := Lib.hid ih; have HK := Lib.hid hk; clear ih hk
    by_cases hl : l ≤ 0
    · have HF : Hid (sizeLim (E.mk op wd n ks).size l = 0) := by unfold Hid sizeLim; rw [if_pos hl]
      go_enter Tryd.func63, Tryd.ntmps63
      go_wp2_with fail
      go_ret
      exact ⟨by rw [HF.out]; rfl, (Ext.refl w).alloc _⟩
    · go_enter Tryd.func63, Tryd.ntmps63
      go_wp2_with fail
      go_loopw [5, 6] (fun m i wr => ∃ (k : Nat) (x : Int), k ≤ ks.length ∧ i = .int .i64 k ∧ m = .int .i64 x ∧ Hid (x = sizeLim (1 + sizeAll (ks.take k)) l) ∧ Ext (w.alloc (.cells #[.int .i64 op, .int .i64 wd, .int .i64 n, .slice a ks.length cap] 24)) wr) (fun _ i _ => ks.length - (intOf i).toNat)
      case atStart => exact ⟨0, 1, Nat.zero_le _, rfl, rfl, by unfold Hid sizeLim; simp [sizeAll]; omega, Ext.refl _⟩
      case round =>
        obtain ⟨k, x, hk, rfl, rfl, hx, hX⟩ := hrel
        have hbd : 0 ≤ x ∧ x ≤ l := by rw [hx.out]; exact sizeLim_bd _ _ (by omega)
        obtain ⟨hb0, hb1⟩ := hbd
        have c3 : wr.cell? ⟨w.heap.size, 3, none⟩ = some (.slice a ks.length cap) := hX.cell (by simp)
        have HX := Lib.hid hX; clear hX
        by_cases hlt : k < ks.length
        · by_cases hm : x < l
          · rcases HK.out with ⟨_, e⟩ | ⟨b', o', cap', e, _, hk'⟩
            · rw [e] at hlt; simp at hlt
            cases e
            have hE := (hk' k hlt).ext (((Ext.refl w).alloc _).trans HX.out)
            obtain ⟨g0, g1, g2, kv, g3, hkk⟩ := hE.cells
            obtain ⟨ka, kc, rfl⟩ := SliceAt.shape hkk
            have hin : ks[k] ∈ ks := List.getElem_mem hlt
            have hsz : ks[k].size ≤ N := by have := size_kid (op := op) (wd := wd) (n := n) hin; omega
            have HE : Hid (EVal wr (.agg #[.int .i64 ks[k].op, .int .i64 ks[k].wd, .int .i64 ks[k].n, .slice ka ks[k].kids.length kc]) ks[k]) := ⟨_, rfl, hkk⟩
            have HS := Lib.hid (sizeAll_snoc hlt)
            clear hkk hk' hE
            have hd : decide (x < l) = true := by simpa using hm
            go_wp2_with fail
            refine (IH.out _ _ _ _ hsz HE.out (by omega) (by omega)).mono ?_
            rintro r w1 ⟨rfl, hx1⟩
            have hq := sizeLim_bd ks[k].size (l - x) (by omega)
            have HQ : Hid (x + sizeLim ks[k].size (l - x) = sizeLim (1 + sizeAll (ks.take (k + 1))) l) := by
              unfold Hid
              rw [HS.out, ← Nat.add_assoc, sizeLim_step (by rw [← hx.out]; exact hm) (by omega), ← hx.out]
            have HX1 := Lib.hid (HX.out.trans hx1); clear hx1
            generalize sizeLim ks[k].size (l - x) = q at *
            obtain ⟨hq0, hq1⟩ := hq
            go_wp2_with fail
            exact ⟨⟨k + 1, _, by omega, by go_num, rfl, HQ, HX1.out⟩, by simp [intOf]; omega⟩
          · have hd : decide (x < l) = false := by simpa using hm
            have HF : Hid (x = sizeLim (E.mk op wd n ks).size l) := by
              unfold Hid
              have h1 := hx.out
              have h2 := sizeAll_take ks k
              have : (E.mk op wd n ks).size = (1 + sizeAll (ks.take k)) + (sizeAll ks - sizeAll (ks.take k)) := by simp only [E.size]; omega
              rw [this, sizeLim_stay (by rw [← h1]; exact hm) (by omega)]; exact h1
            go_wp2_with fail
            go_ret
            exact ⟨by rw [← HF.out]; rfl, ((Ext.refl w).alloc _).trans HX.out⟩
        · have HF : Hid (x = sizeLim (E.mk op wd n ks).size l) := by
            unfold Hid
            obtain rfl : k = ks.length := by omega
            have := hx.out
            rw [List.take_length] at this
            exact this
          go_wp2_with fail
          go_ret
          exact ⟨by rw [← HF.out]; rfl, ((Ext.refl w).alloc _).trans HX.out⟩

set_option maxHeartbeats 400000 in
theorem RSmall_any (e : E) (v : Value) (w : World) (l : Int) (he : EVal w v e) (h0 : 0 ≤ l) (h1 : l ≤ 1000) :
    Calls Tryd.prog 35 #[v, .int .i64 l] w fun r w' => r = .returned (.bool (decide ((e.size : Int) ≤ l))) ∧ Ext w w' := by
  obtain ⟨kv, rfl, hk⟩ := he
  obtain ⟨a, cap, rfl⟩ := SliceAt.shape hk
  have HK := Lib.hid hk; clear hk
  go_enter Tryd.func35, Tryd.ntmps35
  go_wp2_with fail
  refine (RSize_any e.size e _ _ (l + 1) (Nat.le_refl _) ⟨_, rfl, HK.out.ext ((Ext.refl w).alloc _)⟩ (by omega) (by omega)).mono ?_
  rintro r w1 ⟨rfl, hx1⟩
  have HX := Lib.hid (((Ext.refl w).alloc _).trans hx1)
  have HF : Hid (decide (sizeLim e.size (l + 1) ≤ l) = decide ((e.size : Int) ≤ l)) := by
    unfold Hid sizeLim; rw [if_neg (by omega)]; split <;> simp only [decide_eq_decide] <;> omega
  clear hx1
  go_wp2_with fail
  go_ret
  exact ⟨by rw [← HF.out]; rfl, HX.out⟩
end Go.Proofs.YtdancokndklpnaaDoor
namespace Go.Proofs.YtdancokndklpnaaDoor
open Go.RowKit

/-- A callee that leaves the world alone, in a quiet region that stands behind another one. -/
theorem quiet_more {P : Program} {f : FuncId} {args : Array Value} {w : World} {k n : Nat} {v : Value} (h : ∀ W : World, Calls P f args W fun e w' => e = .returned v ∧ W = w') :
    Calls P f args (w.drewN (k + n)) fun e w' => e = .returned v ∧ ∃ m, w' = w.drewN (k + m) := (h _).mono fun _ _ ⟨h1, h2⟩ => ⟨h1, n, h2.symm⟩
theorem bool_ret {a b : Bool} (h : a = b) : Ending.returned (.bool a) = .returned (.bool b) := by rw [h]
theorem arityS_cases {op : Int} {k : Nat} (h : arityS op = (k : Int)) : (op = 1 ∧ k = 0) ∨ ((op = 2 ∨ op = 3) ∧ k = 0) ∨ (op = 4 ∧ k = 1) ∨ ((op = 5 ∨ op = 6 ∨ op = 7 ∨ op = 8 ∨ op = 9 ∨ op = 10) ∧ k = 2) ∨ ((op = 11 ∨ op = 12 ∨ op = 13) ∧ k = 2) ∨ (op = 14 ∧ k = 3) := by
  unfold arityS at h
  split at h
  · omega
  split at h
  · omega
  split at h
  · omega
  split at h <;> omega
theorem shapedW_arity {op wd n : Int} {ws : List Int} (h : arityS op ≠ (ws.length : Int)) : shapedW op wd n ws = false := by
  cases hs : shapedW op wd n ws with
  | false => rfl
  | true =>
    exfalso
    apply h
    by_cases h1 : op = 1
    · subst h1; rw [(shapedW_const hs).1]; rfl
    by_cases h2 : op = 2
    · subst h2; rw [(shapedW_cell hs (.inl rfl)).1]; rfl
    by_cases h3 : op = 3
    · subst h3; rw [(shapedW_cell hs (.inr rfl)).1]; rfl
    obtain ⟨_, h4, h14, hc⟩ := shapedW_inner hs h1 h2 h3
    unfold arityS
    rcases hc with ⟨rfl, rfl⟩ | ⟨a, b, rfl⟩ | ⟨a, b, _, u, rfl⟩ | ⟨rfl, rfl⟩
    · rfl
    · rw [if_neg (by omega), if_neg (by omega), if_pos (by omega)]; rfl
    · rw [if_neg (by omega), if_neg (by omega), if_pos (by omega)]; rfl
    · rfl
theorem shapedW_wide {op wd n : Int} {ws : List Int} (h : ¬ (1 ≤ wd ∧ wd ≤ 8)) : shapedW op wd n ws = false := by
  simp only [shapedW]; rcases (show wd < 1 ∨ 8 < wd by omega) with h | h <;> simp <;> omega

set_option maxRecDepth 100000 in
set_option maxHeartbeats 2000000 in
theorem node_out (op wd n : Int) (ks : List E) (a : Option Addr) (cap : Nat) (w : World) (h : arityS op ≠ (ks.length : Int) ∨ ¬ (1 ≤ wd ∧ wd ≤ 8)) :
    Calls Tryd.prog 82 #[.agg #[.int .i64 op, .int .i64 wd, .int .i64 n, .slice a ks.length cap]] w fun r w' => r = .returned (.bool (shapedW op wd n (ks.map E.wd))) ∧ Ext w w' := by
  have HF : Hid (shapedW op wd n (ks.map E.wd) = false) := by
    rcases h with h | h
    · exact shapedW_arity (by simpa using h)
    · exact shapedW_wide h
  by_cases cA : arityS op = (ks.length : Int)
  · have hb : (arityS op != (ks.length : Int)) = false := by simp [cA]
    have HA := Lib.hid cA; clear cA
    by_cases cW : wd < 1
    · have hd : decide (wd < 1) = true := by simpa using cW
      clear h
      go_enter Tryd.func82, Tryd.ntmps82
      go_wp2_with fail
      go_quiet ((go_at_call 91; exact Calls.quiet_of_same (arity_any _ _)))
      go_wp2_with fail
      go_ret
      exact ⟨by rw [HF.out]; rfl, ((Ext.refl w).alloc _).drewN _⟩
    · have hd : decide (wd < 1) = false := by simpa using cW
      have hd2 : decide (8 < wd) = true := by
        rcases h with h | h
        · exact absurd HA.out h
        · simp; omega
      clear h
      go_enter Tryd.func82, Tryd.ntmps82
      go_wp2_with fail
      go_quiet ((go_at_call 91; exact Calls.quiet_of_same (arity_any _ _)))
      go_wp2_with fail
      go_ret
      exact ⟨by rw [HF.out]; rfl, ((Ext.refl w).alloc _).drewN _⟩
  · have hb : (arityS op != (ks.length : Int)) = true := by rw [bne_iff_ne]; exact cA
    clear cA h
    go_enter Tryd.func82, Tryd.ntmps82
    go_wp2_with fail
    go_quiet ((go_at_call 91; exact Calls.quiet_of_same (arity_any _ _)))
    go_wp2_with fail
    go_ret
    exact ⟨by rw [HF.out]; rfl, ((Ext.refl w).alloc _).drewN _⟩

theorem shapedW_in1 {wd n : Int} (h1 : 1 ≤ wd) (h8 : wd ≤ 8) : shapedW 1 wd n [] = (decide (0 ≤ n) && decide (n < pw wd)) := by
  have : decide (n ≤ pw wd - 1) = decide (n < pw wd) := by simp only [decide_eq_decide]; omega
  simp [shapedW, h1, h8, this]
theorem shapedW_in2 {op wd n : Int} (h1 : 1 ≤ wd) (h8 : wd ≤ 8) (ho : op = 2 ∨ op = 3) : shapedW op wd n [] = (decide (0 ≤ n) && decide (n < 32)) := by
  rcases ho with rfl | rfl <;> simp [shapedW, h1, h8]
theorem shapedW_in4 {wd n x : Int} (h1 : 1 ≤ wd) (h8 : wd ≤ 8) : shapedW 4 wd n [x] = ((n == 0) && (x == wd)) := by
  by_cases c : n = 0 <;> simp [shapedW, h1, h8, c]
  rw [Bool.eq_iff_iff]; simp
theorem shapedW_in5 {op wd n x y : Int} (h1 : 1 ≤ wd) (h8 : wd ≤ 8) (ho : op = 5 ∨ op = 6 ∨ op = 7 ∨ op = 8 ∨ op = 9 ∨ op = 10) : shapedW op wd n [x, y] = ((n == 0) && (x == wd) && (y == wd)) := by
  by_cases c : n = 0 <;> rcases ho with rfl | rfl | rfl | rfl | rfl | rfl <;> simp [shapedW, h1, h8, c] <;> rw [Bool.eq_iff_iff] <;> simp
theorem shapedW_in11 {op wd n x y : Int} (h1 : 1 ≤ wd) (h8 : wd ≤ 8) (ho : op = 11 ∨ op = 12 ∨ op = 13) : shapedW op wd n [x, y] = ((n == 0) && (wd == 1) && (x == y)) := by
  by_cases c : n = 0 <;> rcases ho with rfl | rfl | rfl <;> simp [shapedW, h1, h8, c] <;> rw [Bool.eq_iff_iff] <;> simp
theorem shapedW_in14 {wd n x y z : Int} (h1 : 1 ≤ wd) (h8 : wd ≤ 8) : shapedW 14 wd n [x, y, z] = ((n == 0) && (x == 1) && (y == wd) && (z == wd)) := by
  by_cases c : n = 0 <;> simp [shapedW, h1, h8, c] <;> rw [Bool.eq_iff_iff] <;> simp [and_assoc]

set_option maxRecDepth 100000 in
set_option maxHeartbeats 2000000 in
theorem node_0 (op wd n : Int) (a : Option Addr) (cap : Nat) (w : World) (h1 : 1 ≤ wd) (h8 : wd ≤ 8) (ho : op = 1 ∨ op = 2 ∨ op = 3) :
    Calls Tryd.prog 82 #[.agg #[.int .i64 op, .int .i64 wd, .int .i64 n, .slice a 0 cap]] w fun r w' => r = .returned (.bool (shapedW op wd n [])) ∧ Ext w w' := by
  have hd : decide (wd < 1) = false := by simpa using h1
  have hd2 : decide (8 < wd) = false := by simpa using h8
  have hb1 : (arityS 1 != (0 : Int)) = false := by decide
  have hb2 : (arityS 2 != (0 : Int)) = false := by decide
  have hb3 : (arityS 3 != (0 : Int)) = false := by decide
  by_cases c : 0 ≤ n
  · have hn : decide (0 ≤ n) = true := by simpa using c
    rcases ho with rfl | rfl | rfl
    · have HF : Hid (shapedW 1 wd n [] = decide (n < pw wd)) := by unfold Hid; rw [shapedW_in1 h1 h8, hn, Bool.true_and]
      go_enter Tryd.func82, Tryd.ntmps82
      go_wp2_with fail
      go_quiet ((go_at_call 91; exact Calls.quiet_of_same (arity_any _ _)))
      go_wp2_with fail
      go_quiet ((go_at_call 21; exact quiet_more (fun W => Power_any wd W (by omega))))
      go_wp2_with fail
      go_ret
      exact ⟨by rw [HF.out]; rfl, (((Ext.refl w).alloc _).drewN _).drewN _⟩
    all_goals
      have HF2 : Hid (shapedW 2 wd n [] = decide (n < 32)) := by unfold Hid; rw [shapedW_in2 h1 h8 (.inl rfl), hn, Bool.true_and]
      have HF3 : Hid (shapedW 3 wd n [] = decide (n < 32)) := by unfold Hid; rw [shapedW_in2 h1 h8 (.inr rfl), hn, Bool.true_and]
      go_enter Tryd.func82, Tryd.ntmps82
      go_wp2_with fail
      go_quiet ((go_at_call 91; exact Calls.quiet_of_same (arity_any _ _)))
      go_wp2_with fail
      go_ret
      exact ⟨by first | (rw [HF2.out]; rfl) | (rw [HF3.out]; rfl), ((Ext.refl w).alloc _).drewN _⟩
  · have hn : decide (0 ≤ n) = false := by simpa using c
    have HF : Hid (shapedW op wd n [] = false) := by
      unfold Hid
      rcases ho with rfl | rfl | rfl
      · rw [shapedW_in1 h1 h8, hn, Bool.false_and]
      · rw [shapedW_in2 h1 h8 (.inl rfl), hn, Bool.false_and]
      · rw [shapedW_in2 h1 h8 (.inr rfl), hn, Bool.false_and]
    rcases ho with rfl | rfl | rfl
    · go_enter Tryd.func82, Tryd.ntmps82
      go_wp2_with fail
      go_quiet ((go_at_call 91; exact Calls.quiet_of_same (arity_any _ _)))
      go_wp2_with fail
      go_quiet ((go_at_call 21; exact quiet_more (fun W => Power_any wd W (by omega))))
      go_wp2_with fail
      go_ret
      exact ⟨by rw [HF.out]; rfl, (((Ext.refl w).alloc _).drewN _).drewN _⟩
    all_goals
      go_enter Tryd.func82, Tryd.ntmps82
      go_wp2_with fail
      go_quiet ((go_at_call 91; exact Calls.quiet_of_same (arity_any _ _)))
      go_wp2_with fail
      go_ret
      exact ⟨by rw [HF.out]; rfl, ((Ext.refl w).alloc _).drewN _⟩

set_option maxRecDepth 100000 in
set_option maxHeartbeats 2000000 in
theorem node_1 (wd n x : Int) (b o : Nat) (cap : Nat) (w : World) (h1 : 1 ≤ wd) (h8 : wd ≤ 8) (c0 : w.cell? ⟨b, o + 1, none⟩ = some (.int .i64 x)) :
    Calls Tryd.prog 82 #[.agg #[.int .i64 4, .int .i64 wd, .int .i64 n, .slice (some ⟨b, o, none⟩) 1 cap]] w fun r w' => r = .returned (.bool (shapedW 4 wd n [x])) ∧ Ext w w' := by
  have hd : decide (wd < 1) = false := by simpa using h1
  have hd2 : decide (8 < wd) = false := by simpa using h8
  have hb : (arityS 4 != (1 : Int)) = false := by decide
  have hbs : b < w.heap.size := block_lt c0
  by_cases c : n = 0
  · have hn : (n == 0) = true := by simpa using c
    have HF : Hid (shapedW 4 wd n [x] = (x == wd)) := by unfold Hid; rw [shapedW_in4 h1 h8, hn, Bool.true_and]
    clear c
    go_enter Tryd.func82, Tryd.ntmps82
    go_wp2_with fail
    go_quiet ((go_at_call 91; exact Calls.quiet_of_same (arity_any _ _)))
    go_wp2_with fail
    go_quiet (fail)
    go_wp2_with fail
    go_ret
    exact ⟨by rw [HF.out]; rfl, (((Ext.refl w).alloc _).drewN _).drewN _⟩
  · have hn : (n == 0) = false := by simpa using c
    have HF : Hid (shapedW 4 wd n [x] = false) := by unfold Hid; rw [shapedW_in4 h1 h8, hn, Bool.false_and]
    clear c
    go_enter Tryd.func82, Tryd.ntmps82
    go_wp2_with fail
    go_quiet ((go_at_call 91; exact Calls.quiet_of_same (arity_any _ _)))
    go_wp2_with fail
    go_quiet (fail)
    go_wp2_with fail
    go_ret
    exact ⟨by rw [HF.out]; rfl, (((Ext.refl w).alloc _).drewN _).drewN _⟩

set_option maxRecDepth 100000 in
set_option maxHeartbeats 4000000 in
theorem node_2 (op wd n x y : Int) (b o : Nat) (cap : Nat) (w : World) (h1 : 1 ≤ wd) (h8 : wd ≤ 8) (ho : op = 5 ∨ op = 6 ∨ op = 7 ∨ op = 8 ∨ op = 9 ∨ op = 10) (c0 : w.cell? ⟨b, o + 1, none⟩ = some (.int .i64 x)) (c1 : w.cell? ⟨b, o + 4 + 1, none⟩ = some (.int .i64 y)) :
    Calls Tryd.prog 82 #[.agg #[.int .i64 op, .int .i64 wd, .int .i64 n, .slice (some ⟨b, o, none⟩) 2 cap]] w fun r w' => r = .returned (.bool (shapedW op wd n [x, y])) ∧ Ext w w' := by
  have hd : decide (wd < 1) = false := by simpa using h1
  have hd2 : decide (8 < wd) = false := by simpa using h8
  have hb : (arityS op != (2 : Int)) = false := by rcases ho with rfl | rfl | rfl | rfl | rfl | rfl <;> decide
  have hbs : b < w.heap.size := block_lt c0
  have e1 : (op == 1) = false := by rw [beq_eq_false_iff_ne]; omega
  have e2 : (op == 2) = false := by rw [beq_eq_false_iff_ne]; omega
  have e3 : (op == 3) = false := by rw [beq_eq_false_iff_ne]; omega
  have e4 : (op == 4) = false := by rw [beq_eq_false_iff_ne]; omega
  have e11 : (op == 11) = false := by rw [beq_eq_false_iff_ne]; omega
  have e12 : (op == 12) = false := by rw [beq_eq_false_iff_ne]; omega
  have e13 : (op == 13) = false := by rw [beq_eq_false_iff_ne]; omega
  have e14 : (op == 14) = false := by rw [beq_eq_false_iff_ne]; omega
  have HO := Lib.hid ho; clear ho
  by_cases c : n = 0
  · have hn : (n == 0) = true := by simpa using c
    clear c
    cases hx : (x == wd) with
    | true =>
      have HF : Hid (shapedW op wd n [x, y] = (y == wd)) := by unfold Hid; rw [shapedW_in5 h1 h8 HO.out, hn, hx, Bool.true_and, Bool.true_and]
      go_enter Tryd.func82, Tryd.ntmps82
      go_wp2_with fail
      go_quiet ((go_at_call 91; exact Calls.quiet_of_same (arity_any _ _)))
      go_wp2_with fail
      go_quiet (fail)
      go_wp2_with fail
      go_ret
      exact ⟨by rw [HF.out]; rfl, (((Ext.refl w).alloc _).drewN _).drewN _⟩
    | false =>
      have HF : Hid (shapedW op wd n [x, y] = false) := by unfold Hid; rw [shapedW_in5 h1 h8 HO.out, hn, hx, Bool.true_and, Bool.false_and]
      go_enter Tryd.func82, Tryd.ntmps82
      go_wp2_with fail
      go_quiet ((go_at_call 91; exact Calls.quiet_of_same (arity_any _ _)))
      go_wp2_with fail
      go_quiet (fail)
      go_wp2_with fail
      go_ret
      exact ⟨by rw [HF.out]; rfl, (((Ext.refl w).alloc _).drewN _).drewN _⟩
  · have hn : (n == 0) = false := by simpa using c
    have HF : Hid (shapedW op wd n [x, y] = false) := by unfold Hid; rw [shapedW_in5 h1 h8 HO.out, hn, Bool.false_and, Bool.false_and]
    clear c
    go_enter Tryd.func82, Tryd.ntmps82
    go_wp2_with fail
    go_quiet ((go_at_call 91; exact Calls.quiet_of_same (arity_any _ _)))
    go_wp2_with fail
    go_quiet (fail)
    go_wp2_with fail
    go_ret
    exact ⟨by rw [HF.out]; rfl, (((Ext.refl w).alloc _).drewN _).drewN _⟩

set_option maxRecDepth 100000 in
set_option maxHeartbeats 4000000 in
theorem node_11 (op wd n x y : Int) (b o : Nat) (cap : Nat) (w : World) (h1 : 1 ≤ wd) (h8 : wd ≤ 8) (ho : op = 11 ∨ op = 12 ∨ op = 13) (c0 : w.cell? ⟨b, o + 1, none⟩ = some (.int .i64 x)) (c1 : w.cell? ⟨b, o + 4 + 1, none⟩ = some (.int .i64 y)) :
    Calls Tryd.prog 82 #[.agg #[.int .i64 op, .int .i64 wd, .int .i64 n, .slice (some ⟨b, o, none⟩) 2 cap]] w fun r w' => r = .returned (.bool (shapedW op wd n [x, y])) ∧ Ext w w' := by
  have hd : decide (wd < 1) = false := by simpa using h1
  have hd2 : decide (8 < wd) = false := by simpa using h8
  have hb11 : (arityS 11 != (2 : Int)) = false := by decide
  have hb12 : (arityS 12 != (2 : Int)) = false := by decide
  have hb13 : (arityS 13 != (2 : Int)) = false := by decide
  have hbs : b < w.heap.size := block_lt c0
  by_cases c : n = 0
  · have hn : (n == 0) = true := by simpa using c
    clear c
    cases hx : (wd == 1) with
    | true =>
      have HF : Hid (shapedW op wd n [x, y] = (x == y)) := by unfold Hid; rw [shapedW_in11 h1 h8 ho, hn, hx, Bool.true_and, Bool.true_and]
      rcases ho with rfl | rfl | rfl
      all_goals
        go_enter Tryd.func82, Tryd.ntmps82
        go_wp2_with fail
        go_quiet ((go_at_call 91; exact Calls.quiet_of_same (arity_any _ _)))
        go_wp2_with fail
        go_quiet (fail)
        go_wp2_with fail
        go_ret
        exact ⟨by rw [HF.out]; rfl, (((Ext.refl w).alloc _).drewN _).drewN _⟩
    | false =>
      have HF : Hid (shapedW op wd n [x, y] = false) := by unfold Hid; rw [shapedW_in11 h1 h8 ho, hn, hx, Bool.true_and, Bool.false_and]
      rcases ho with rfl | rfl | rfl
      all_goals
        go_enter Tryd.func82, Tryd.ntmps82
        go_wp2_with fail
        go_quiet ((go_at_call 91; exact Calls.quiet_of_same (arity_any _ _)))
        go_wp2_with fail
        go_quiet (fail)
        go_wp2_with fail
        go_ret
        exact ⟨by rw [HF.out]; rfl, (((Ext.refl w).alloc _).drewN _).drewN _⟩
  · have hn : (n == 0) = false := by simpa using c
    have HF : Hid (shapedW op wd n [x, y] = false) := by unfold Hid; rw [shapedW_in11 h1 h8 ho, hn, Bool.false_and, Bool.false_and]
    clear c
    rcases ho with rfl | rfl | rfl
    all_goals
      go_enter Tryd.func82, Tryd.ntmps82
      go_wp2_with fail
      go_quiet ((go_at_call 91; exact Calls.quiet_of_same (arity_any _ _)))
      go_wp2_with fail
      go_quiet (fail)
      go_wp2_with fail
      go_ret
      exact ⟨by rw [HF.out]; rfl, (((Ext.refl w).alloc _).drewN _).drewN _⟩

set_option maxRecDepth 100000 in
set_option maxHeartbeats 4000000 in
theorem node_14 (wd n x y z : Int) (b o : Nat) (cap : Nat) (w : World) (h1 : 1 ≤ wd) (h8 : wd ≤ 8) (c0 : w.cell? ⟨b, o + 1, none⟩ = some (.int .i64 x)) (c1 : w.cell? ⟨b, o + 4 + 1, none⟩ = some (.int .i64 y)) (c2 : w.cell? ⟨b, o + 8 + 1, none⟩ = some (.int .i64 z)) :
    Calls Tryd.prog 82 #[.agg #[.int .i64 14, .int .i64 wd, .int .i64 n, .slice (some ⟨b, o, none⟩) 3 cap]] w fun r w' => r = .returned (.bool (shapedW 14 wd n [x, y, z])) ∧ Ext w w' := by
  have hd : decide (wd < 1) = false := by simpa using h1
  have hd2 : decide (8 < wd) = false := by simpa using h8
  have hb : (arityS 14 != (3 : Int)) = false := by decide
  have hbs : b < w.heap.size := block_lt c0
  by_cases c : n = 0
  · have hn : (n == 0) = true := by simpa using c
    clear c
    cases hx : (x == 1) with
    | true =>
      cases hy : (y == wd) with
      | true =>
        have HF : Hid (shapedW 14 wd n [x, y, z] = (z == wd)) := by unfold Hid; rw [shapedW_in14 h1 h8, hn, hx, hy, Bool.true_and, Bool.true_and, Bool.true_and]
        go_enter Tryd.func82, Tryd.ntmps82
        go_wp2_with fail
        go_quiet ((go_at_call 91; exact Calls.quiet_of_same (arity_any _ _)))
        go_wp2_with fail
        go_quiet (fail)
        go_wp2_with fail
        go_ret
        exact ⟨by rw [HF.out]; rfl, (((Ext.refl w).alloc _).drewN _).drewN _⟩
      | false =>
        have HF : Hid (shapedW 14 wd n [x, y, z] = false) := by unfold Hid; rw [shapedW_in14 h1 h8, hn, hx, hy, Bool.true_and, Bool.true_and, Bool.false_and]
        go_enter Tryd.func82, Tryd.ntmps82
        go_wp2_with fail
        go_quiet ((go_at_call 91; exact Calls.quiet_of_same (arity_any _ _)))
        go_wp2_with fail
        go_quiet (fail)
        go_wp2_with fail
        go_ret
        exact ⟨by rw [HF.out]; rfl, (((Ext.refl w).alloc _).drewN _).drewN _⟩
    | false =>
      have HF : Hid (shapedW 14 wd n [x, y, z] = false) := by unfold Hid; rw [shapedW_in14 h1 h8, hn, hx, Bool.true_and, Bool.false_and, Bool.false_and]
      go_enter Tryd.func82, Tryd.ntmps82
      go_wp2_with fail
      go_quiet ((go_at_call 91; exact Calls.quiet_of_same (arity_any _ _)))
      go_wp2_with fail
      go_quiet (fail)
      go_wp2_with fail
      go_ret
      exact ⟨by rw [HF.out]; rfl, (((Ext.refl w).alloc _).drewN _).drewN _⟩
  · have hn : (n == 0) = false := by simpa using c
    have HF : Hid (shapedW 14 wd n [x, y, z] = false) := by unfold Hid; rw [shapedW_in14 h1 h8, hn, Bool.false_and, Bool.false_and, Bool.false_and]
    clear c
    go_enter Tryd.func82, Tryd.ntmps82
    go_wp2_with fail
    go_quiet ((go_at_call 91; exact Calls.quiet_of_same (arity_any _ _)))
    go_wp2_with fail
    go_quiet (fail)
    go_wp2_with fail
    go_ret
    exact ⟨by rw [HF.out]; rfl, (((Ext.refl w).alloc _).drewN _).drewN _⟩

/-- node: the fields of a node, and the widths of its kids, fit together. -/
theorem node_any (e : E) (v : Value) (w : World) (he : EVal w v e) :
    Calls Tryd.prog 82 #[v] w fun r w' => r = .returned (.bool (shapedW e.op e.wd e.n (e.kids.map E.wd))) ∧ Ext w w' := by
  obtain ⟨kv, rfl, hk⟩ := he
  obtain ⟨op, wd, n, ks⟩ := e
  simp only [E.op_mk, E.wd_mk, E.n_mk, E.kids_mk] at hk ⊢
  by_cases ha : arityS op = (ks.length : Int)
  · by_cases hw : 1 ≤ wd ∧ wd ≤ 8
    · obtain ⟨h1, h8⟩ := hw
      rcases arityS_cases ha with ⟨ho, hl⟩ | ⟨ho, hl⟩ | ⟨rfl, hl⟩ | ⟨ho, hl⟩ | ⟨ho, hl⟩ | ⟨rfl, hl⟩
      · obtain rfl := List.length_eq_zero_iff.1 hl
        obtain ⟨a, cap, rfl⟩ := SliceAt.shape hk
        exact node_0 op wd n a cap w h1 h8 (.inl ho)
      · obtain rfl := List.length_eq_zero_iff.1 hl
        obtain ⟨a, cap, rfl⟩ := SliceAt.shape hk
        exact node_0 op wd n a cap w h1 h8 (.inr ho)
      · match ks, hl, hk with
        | [x], _, hk =>
          rcases hk with ⟨_, h⟩ | ⟨b, o, cap, rfl, _, hk⟩
          · cases h
          exact node_1 wd n x.wd b o cap w h1 h8 (hk 0 (by simp)).cells.2.1
      · match ks, hl, hk with
        | [x, y], _, hk =>
          rcases hk with ⟨_, h⟩ | ⟨b, o, cap, rfl, _, hk⟩
          · cases h
          exact node_2 op wd n x.wd y.wd b o cap w h1 h8 ho (hk 0 (by simp)).cells.2.1 (hk 1 (by simp)).cells.2.1
      · match ks, hl, hk with
        | [x, y], _, hk =>
          rcases hk with ⟨_, h⟩ | ⟨b, o, cap, rfl, _, hk⟩
          · cases h
          exact node_11 op wd n x.wd y.wd b o cap w h1 h8 ho (hk 0 (by simp)).cells.2.1 (hk 1 (by simp)).cells.2.1
      · match ks, hl, hk with
        | [x, y, z], _, hk =>
          rcases hk with ⟨_, h⟩ | ⟨b, o, cap, rfl, _, hk⟩
          · cases h
          exact node_14 wd n x.wd y.wd z.wd b o cap w h1 h8 (hk 0 (by simp)).cells.2.1 (hk 1 (by simp)).cells.2.1 (hk 2 (by simp)).cells.2.1
    · obtain ⟨a, cap, rfl⟩ := SliceAt.shape hk
      exact node_out op wd n ks a cap w (.inr hw)
  · obtain ⟨a, cap, rfl⟩ := SliceAt.shape hk
    exact node_out op wd n ks a cap w (.inl ha)
end Go.Proofs.YtdancokndklpnaaDoor
