/-
  The walk of the reference's node.
  The walks of wide and shaped.
  The walk of shaped: the operators with kids.
-/
import Derived.Test.YtlnahhlddekhoaaGreatDoorG01
namespace Go.Proofs.YtlnahhlddekhoaaGreatDoor
open Go.RowKit

/-- A callee that leaves the world alone, in a quiet region that stands behind another one. -/
theorem quiet_more {P : Program} {f : FuncId} {args : Array Value} {w : World} {k n : Nat} {v : Value} (h : ∀ W : World, Calls P f args W fun e w' => e = .returned v ∧ W = w') :
    Calls P f args (w.drewN (k + n)) fun e w' => e = .returned v ∧ ∃ m, w' = w.drewN (k + m) := (h _).mono fun _ _ ⟨h1, h2⟩ => ⟨h1, n, h2.symm⟩
theorem bool_ret {a b : Bool} (h : a = b) : Ending.returned (.bool a) = .returned (.bool b) := by rw [h]
theorem arityS_cases {op : Int} {k : Nat} (h : arityS op = (k : Int)) : (op = 1 ∧ k = 0) ∨ ((op = 2 ∨ op = 3) ∧ k = 0) ∨ (op = 4 ∧ k = 1) ∨ ((op = 5 ∨ op = 6 ∨ op = 7 ∨ op = 8 ∨ op = 9 ∨ op = 10) ∧ k = 2) ∨ ((op = 11 ∨ op = 12 ∨ op = 13) ∧ k = 2) ∨ (op = 14 ∧ k = 3) := by
  unfold arityS at h
  split at h
  · omega
  split at h
  · omega
  split at h
  · omega
  split at h <;> omega
theorem shapedW_arity {op wd n : Int} {ws : List Int} (h : arityS op ≠ (ws.length : Int)) : shapedW op wd n ws = false := by
  cases hs : shapedW op wd n ws with
  | false => rfl
  | true =>
    exfalso
    apply h
    by_cases h1 : op = 1
    · subst h1; rw [(shapedW_const hs).1]; rfl
    by_cases h2 : op = 2
    · subst h2; rw [(shapedW_cell hs (.inl rfl)).1]; rfl
    by_cases h3 : op = 3
    · subst h3; rw [(shapedW_cell hs (.inr rfl)).1]; rfl
    obtain ⟨_, h4, h14, hc⟩ := shapedW_inner hs h1 h2 h3
    unfold arityS
    rcases hc with ⟨rfl, rfl⟩ | ⟨a, b, rfl⟩ | ⟨a, b, _, u, rfl⟩ | ⟨rfl, rfl⟩
    · rfl
    · rw [if_neg (by omega), if_neg (by omega), if_pos (by omega)]; rfl
    · rw [if_neg (by omega), if_neg (by omega), if_pos (by omega)]; rfl
    · rfl
theorem shapedW_wide {op wd n : Int} {ws : List Int} (h : ¬ (1 ≤ wd ∧ wd ≤ 8)) : shapedW op wd n ws = false := by
  simp only [shapedW]; rcases (show wd < 1 ∨ 8 < wd by omega) with h | h <;> simp <;> omega

set_option maxRecDepth 100000 in
set_option maxHeartbeats 2000000 in
theorem node_out (op wd n : Int) (ks : List E) (a : Option Addr) (cap : Nat) (w : World) (h : arityS op ≠ (ks.length : Int) ∨ ¬ (1 ≤ wd ∧ wd ≤ 8)) :
    Calls Tryz.prog 114 #[.agg #[.int .i64 op, .int .i64 wd, .int .i64 n, .slice a ks.length cap]] w fun r w' => r = .returned (.bool (shapedW op wd n (ks.map E.wd))) ∧ Ext w w' := by
  have HF : Hid (shapedW op wd n (ks.map E.wd) = false) := by
    rcases h with h | h
    · exact shapedW_arity (by simpa using h)
    · exact shapedW_wide h
  by_cases cA : arityS op = (ks.length : Int)
  · have hb : (arityS op != (ks.length : Int)) = false := by simp [cA]
    have HA := Lib.hid cA; clear cA
    by_cases cW : wd < 1
    · have hd : decide (wd < 1) = true := by simpa using cW
      clear h
      go_enter Tryz.func114, Tryz.ntmps114
      go_wp2_with fail
      go_quiet ((go_at_call 117; exact Calls.quiet_of_same (arity_any _ _)))
      go_wp2_with fail
      go_ret
      exact ⟨by rw [HF.out]; rfl, ((Ext.refl w).alloc _).drewN _⟩
    · have hd : decide (wd < 1) = false := by simpa using cW
      have hd2 : decide (8 < wd) = true := by
        rcases h with h | h
        · exact absurd HA.out h
        · simp; omega
      clear h
      go_enter Tryz.func114, Tryz.ntmps114
      go_wp2_with fail
      go_quiet ((go_at_call 117; exact Calls.quiet_of_same (arity_any _ _)))
      go_wp2_with fail
      go_ret
      exact ⟨by rw [HF.out]; rfl, ((Ext.refl w).alloc _).drewN _⟩
  · have hb : (arityS op != (ks.length : Int)) = true := by rw [bne_iff_ne]; exact cA
    clear cA h
    go_enter Tryz.func114, Tryz.ntmps114
    go_wp2_with fail
    go_quiet ((go_at_call 117; exact Calls.quiet_of_same (arity_any _ _)))
    go_wp2_with fail
    go_ret
    exact ⟨by rw [HF.out]; rfl, ((Ext.refl w).alloc _).drewN _⟩

theorem shapedW_in1 {wd n : Int} (h1 : 1 ≤ wd) (h8 : wd ≤ 8) : shapedW 1 wd n [] = (decide (0 ≤ n) && decide (n < pw wd)) := by
  have : decide (n ≤ pw wd - 1) = decide (n < pw wd) := by simp only [decide_eq_decide]; omega
  simp [shapedW, h1, h8, this]
theorem shapedW_in2 {op wd n : Int} (h1 : 1 ≤ wd) (h8 : wd ≤ 8) (ho : op = 2 ∨ op = 3) : shapedW op wd n [] = (decide (0 ≤ n) && decide (n < 32)) := by
  rcases ho with rfl | rfl <;> simp [shapedW, h1, h8]
theorem shapedW_in4 {wd n x : Int} (h1 : 1 ≤ wd) (h8 : wd ≤ 8) : shapedW 4 wd n [x] = ((n == 0) && (x == wd)) := by
  by_cases c : n = 0 <;> simp [shapedW, h1, h8, c]
  rw [Bool.eq_iff_iff]; simp
theorem shapedW_in5 {op wd n x y : Int} (h1 : 1 ≤ wd) (h8 : wd ≤ 8) (ho : op = 5 ∨ op = 6 ∨ op = 7 ∨ op = 8 ∨ op = 9 ∨ op = 10) : shapedW op wd n [x, y] = ((n == 0) && (x == wd) && (y == wd)) := by
  by_cases c : n = 0 <;> rcases ho with rfl | rfl | rfl | rfl | rfl | rfl <;> simp [shapedW, h1, h8, c] <;> rw [Bool.eq_iff_iff] <;> simp
theorem shapedW_in11 {op wd n x y : Int} (h1 : 1 ≤ wd) (h8 : wd ≤ 8) (ho : op = 11 ∨ op = 12 ∨ op = 13) : shapedW op wd n [x, y] = ((n == 0) && (wd == 1) && (x == y)) := by
  by_cases c : n = 0 <;> rcases ho with rfl | rfl | rfl <;> simp [shapedW, h1, h8, c] <;> rw [Bool.eq_iff_iff] <;> simp
theorem shapedW_in14 {wd n x y z : Int} (h1 : 1 ≤ wd) (h8 : wd ≤ 8) : shapedW 14 wd n [x, y, z] = ((n == 0) && (x == 1) && (y == wd) && (z == wd)) := by
  by_cases c : n = 0 <;> simp [shapedW, h1, h8, c] <;> rw [Bool.eq_iff_iff] <;> simp [and_assoc]

set_option maxRecDepth 100000 in
set_option maxHeartbeats 2000000 in
theorem node_0 (op wd n : Int) (a : Option Addr) (cap : Nat) (w : World) (h1 : 1 ≤ wd) (h8 : wd ≤ 8) (ho : op = 1 ∨ op = 2 ∨ op = 3) :
    Calls Tryz.prog 114 #[.agg #[.int .i64 op, .int .i64 wd, .int .i64 n, .slice a 0 cap]] w fun r w' => r = .returned (.bool (shapedW op wd n [])) ∧ Ext w w' := by
  have hd : decide (wd < 1) = false := by simpa using h1
  have hd2 : decide (8 < wd) = false := by simpa using h8
  have hb1 : (arityS 1 != (0 : Int)) = false := by decide
  have hb2 : (arityS 2 != (0 : Int)) = false := by decide
  have hb3 : (arityS 3 != (0 : Int)) = false := by decide
  by_cases c : 0 ≤ n
  · have hn : decide (0 ≤ n) = true := by simpa using c
    rcases ho with rfl | rfl | rfl
    · have HF : Hid (shapedW 1 wd n [] = decide (n < pw wd)) := by unfold Hid; rw [shapedW_in1 h1 h8, hn, Bool.true_and]
      go_enter Tryz.func114, Tryz.ntmps114
      go_wp2_with fail
      go_quiet ((go_at_call 117; exact Calls.quiet_of_same (arity_any _ _)))
      go_wp2_with fail
      go_quiet ((go_at_call 87; exact quiet_more (fun W => Power_any wd W (by omega))))
      go_wp2_with fail
      go_ret
      exact ⟨by rw [HF.out]; rfl, (((Ext.refl w).alloc _).drewN _).drewN _⟩
    all_goals
      have HF2 : Hid (shapedW 2 wd n [] = decide (n < 32)) := by unfold Hid; rw [shapedW_in2 h1 h8 (.inl rfl), hn, Bool.true_and]
      have HF3 : Hid (shapedW 3 wd n [] = decide (n < 32)) := by unfold Hid; rw [shapedW_in2 h1 h8 (.inr rfl), hn, Bool.true_and]
      go_enter Tryz.func114, Tryz.ntmps114
      go_wp2_with fail
      go_quiet ((go_at_call 117; exact Calls.quiet_of_same (arity_any _ _)))
      go_wp2_with fail
      go_ret
      exact ⟨by first | (rw [HF2.out]; rfl) | (rw [HF3.out]; rfl), ((Ext.refl w).alloc _).drewN _⟩
  · have hn : decide (0 ≤ n) = false := by simpa using c
    have HF : Hid (shapedW op wd n [] = false) := by
      unfold Hid
      rcases ho with rfl | rfl | rfl
      · rw [shapedW_in1 h1 h8, hn, Bool.false_and]
      · rw [shapedW_in2 h1 h8 (.inl rfl), hn, Bool.false_and]
      · rw [shapedW_in2 h1 h8 (.inr rfl), hn, Bool.false_and]
    rcases ho with rfl | rfl | rfl
    · go_enter Tryz.func114, Tryz.ntmps114
      go_wp2_with fail
      go_quiet ((go_at_call 117; exact Calls.quiet_of_same (arity_any _ _)))
      go_wp2_with fail
      go_quiet ((go_at_call 87; exact quiet_more (fun W => Power_any wd W (by omega))))
      go_wp2_with fail
      go_ret
      exact ⟨by rw [HF.out]; rfl, (((Ext.refl w).alloc _).drewN _).drewN _⟩
    all_goals
      go_enter Tryz.func114, Tryz.ntmps114
      go_wp2_with fail
      go_quiet ((go_at_call 117; exact Calls.quiet_of_same (arity_any _ _)))
      go_wp2_with fail
      go_ret
      exact ⟨by rw [HF.out]; rfl, ((Ext.refl w).alloc _).drewN _⟩

set_option maxRecDepth 100000 in
set_option maxHeartbeats 2000000 in
theorem node_1 (wd n x : Int) (b o : Nat) (cap : Nat) (w : World) (h1 : 1 ≤ wd) (h8 : wd ≤ 8) (c0 : w.cell? ⟨b, o + 1, none⟩ = some (.int .i64 x)) :
    Calls Tryz.prog 114 #[.agg #[.int .i64 4, .int .i64 wd, .int .i64 n, .slice (some ⟨b, o, none⟩) 1 cap]] w fun r w' => r = .returned (.bool (shapedW 4 wd n [x])) ∧ Ext w w' := by
  have hd : decide (wd < 1) = false := by simpa using h1
  have hd2 : decide (8 < wd) = false := by simpa using h8
  have hb : (arityS 4 != (1 : Int)) = false := by decide
  have hbs : b < w.heap.size := block_lt c0
  by_cases c : n = 0
  · have hn : (n == 0) = true := by simpa using c
    have HF : Hid (shapedW 4 wd n [x] = (x == wd)) := by unfold Hid; rw [shapedW_in4 h1 h8, hn, Bool.true_and]
    clear c
    go_enter Tryz.func114, Tryz.ntmps114
    go_wp2_with fail
    go_quiet ((go_at_call 117; exact Calls.quiet_of_same (arity_any _ _)))
    go_wp2_with fail
    go_quiet (fail)
    go_wp2_with fail
    go_ret
    exact ⟨by rw [HF.out]; rfl, (((Ext.refl w).alloc _).drewN _).drewN _⟩
  · have hn : (n == 0) = false := by simpa using c
    have HF : Hid (shapedW 4 wd n [x] = false) := by unfold Hid; rw [shapedW_in4 h1 h8, hn, Bool.false_and]
    clear c
    go_enter Tryz.func114, Tryz.ntmps114
    go_wp2_with fail
    go_quiet ((go_at_call 117; exact Calls.quiet_of_same (arity_any _ _)))
    go_wp2_with fail
    go_quiet (fail)
    go_wp2_with fail
    go_ret
    exact ⟨by rw [HF.out]; rfl, (((Ext.refl w).alloc _).drewN _).drewN _⟩

set_option maxRecDepth 100000 in
set_option maxHeartbeats 4000000 in
theorem node_2 (op wd n x y : Int) (b o : Nat) (cap : Nat) (w : World) (h1 : 1 ≤ wd) (h8 : wd ≤ 8) (ho : op = 5 ∨ op = 6 ∨ op = 7 ∨ op = 8 ∨ op = 9 ∨ op = 10) (c0 : w.cell? ⟨b, o + 1, none⟩ = some (.int .i64 x)) (c1 : w.cell? ⟨b, o + 4 + 1, none⟩ = some (.int .i64 y)) :
    Calls Tryz.prog 114 #[.agg #[.int .i64 op, .int .i64 wd, .int .i64 n, .slice (some ⟨b, o, none⟩) 2 cap]] w fun r w' => r = .returned (.bool (shapedW op wd n [x, y])) ∧ Ext w w' := by
  have hd : decide (wd < 1) = false := by simpa using h1
  have hd2 : decide (8 < wd) = false := by simpa using h8
  have hb : (arityS op != (2 : Int)) = false := by rcases ho with rfl | rfl | rfl | rfl | rfl | rfl <;> decide
  have hbs : b < w.heap.size := block_lt c0
  have e1 : (op == 1) = false := by rw [beq_eq_false_iff_ne]; omega
  have e2 : (op == 2) = false := by rw [beq_eq_false_iff_ne]; omega
  have e3 : (op == 3) = false := by rw [beq_eq_false_iff_ne]; omega
  have e4 : (op == 4) = false := by rw [beq_eq_false_iff_ne]; omega
  have e11 : (op == 11) = false := by rw [beq_eq_false_iff_ne]; omega
  have e12 : (op == 12) = false := by rw [beq_eq_false_iff_ne]; omega
  have e13 : (op == 13) = false := by rw [beq_eq_false_iff_ne]; omega
  have e14 : (op == 14) = false := by rw [beq_eq_false_iff_ne]; omega
  have HO := Lib.hid ho; clear ho
  by_cases c : n = 0
  · have hn : (n == 0) = true := by simpa using c
    clear c
    cases hx : (x == wd) with
    | true =>
      have HF : Hid (shapedW op wd n [x, y] = (y == wd)) := by unfold Hid; rw [shapedW_in5 h1 h8 HO.out, hn, hx, Bool.true_and, Bool.true_and]
      go_enter Tryz.func114, Tryz.ntmps114
      go_wp2_with fail
      go_quiet ((go_at_call 117; exact Calls.quiet_of_same (arity_any _ _)))
      go_wp2_with fail
      go_quiet (fail)
      go_wp2_with fail
      go_ret
      exact ⟨by rw [HF.out]; rfl, (((Ext.refl w).alloc _).drewN _).drewN _⟩
    | false =>
      have HF : Hid (shapedW op wd n [x, y] = false) := by unfold Hid; rw [shapedW_in5 h1 h8 HO.out, hn, hx, Bool.true_and, Bool.false_and]
      go_enter Tryz.func114, Tryz.ntmps114
      go_wp2_with fail
      go_quiet ((go_at_call 117; exact Calls.quiet_of_same (arity_any _ _)))
      go_wp2_with fail
      go_quiet (fail)
      go_wp2_with fail
      go_ret
      exact ⟨by rw [HF.out]; rfl, (((Ext.refl w).alloc _).drewN _).drewN _⟩
  · have hn : (n == 0) = false := by simpa using c
    have HF : Hid (shapedW op wd n [x, y] = false) := by unfold Hid; rw [shapedW_in5 h1 h8 HO.out, hn, Bool.false_and, Bool.false_and]
    clear c
    go_enter Tryz.func114, Tryz.ntmps114
    go_wp2_with fail
    go_quiet ((go_at_call 117; exact Calls.quiet_of_same (arity_any _ _)))
    go_wp2_with fail
    go_quiet (fail)
    go_wp2_with fail
    go_ret
    exact ⟨by rw [HF.out]; rfl, (((Ext.refl w).alloc _).drewN _).drewN _⟩

set_option maxRecDepth 100000 in
set_option maxHeartbeats 4000000 in
theorem node_11 (op wd n x y : Int) (b o : Nat) (cap : Nat) (w : World) (h1 : 1 ≤ wd) (h8 : wd ≤ 8) (ho : op = 11 ∨ op = 12 ∨ op = 13) (c0 : w.cell? ⟨b, o + 1, none⟩ = some (.int .i64 x)) (c1 : w.cell? ⟨b, o + 4 + 1, none⟩ = some (.int .i64 y)) :
    Calls Tryz.prog 114 #[.agg #[.int .i64 op, .int .i64 wd, .int .i64 n, .slice (some ⟨b, o, none⟩) 2 cap]] w fun r w' => r = .returned (.bool (shapedW op wd n [x, y])) ∧ Ext w w' := by
  have hd : decide (wd < 1) = false := by simpa using h1
  have hd2 : decide (8 < wd) = false := by simpa using h8
  have hb11 : (arityS 11 != (2 : Int)) = false := by decide
  have hb12 : (arityS 12 != (2 : Int)) = false := by decide
  have hb13 : (arityS 13 != (2 : Int)) = false := by decide
  have hbs : b < w.heap.size := block_lt c0
  by_cases c : n = 0
  · have hn : (n == 0) = true := by simpa using c
    clear c
    cases hx : (wd == 1) with
    | true =>
      have HF : Hid (shapedW op wd n [x, y] = (x == y)) := by unfold Hid; rw [shapedW_in11 h1 h8 ho, hn, hx, Bool.true_and, Bool.true_and]
      rcases ho with rfl | rfl | rfl
      all_goals
        go_enter Tryz.func114, Tryz.ntmps114
        go_wp2_with fail
        go_quiet ((go_at_call 117; exact Calls.quiet_of_same (arity_any _ _)))
        go_wp2_with fail
        go_quiet (fail)
        go_wp2_with fail
        go_ret
        exact ⟨by rw [HF.out]; rfl, (((Ext.refl w).alloc _).drewN _).drewN _⟩
    | false =>
      have HF : Hid (shapedW op wd n [x, y] = false) := by unfold Hid; rw [shapedW_in11 h1 h8 ho, hn, hx, Bool.true_and, Bool.false_and]
      rcases ho with rfl | rfl | rfl
      all_goals
        go_enter Tryz.func114, Tryz.ntmps114
        go_wp2_with fail
        go_quiet ((go_at_call 117; exact Calls.quiet_of_same (arity_any _ _)))
        go_wp2_with fail
        go_quiet (fail)
        go_wp2_with fail
        go_ret
        exact ⟨by rw [HF.out]; rfl, (((Ext.refl w).alloc _).drewN _).drewN _⟩
  · have hn : (n == 0) = false := by simpa using c
    have HF : Hid (shapedW op wd n [x, y] = false) := by unfold Hid; rw [shapedW_in11 h1 h8 ho, hn, Bool.false_and, Bool.false_and]
    clear c
    rcases ho with rfl | rfl | rfl
    all_goals
      go_enter Tryz.func114, Tryz.ntmps114
      go_wp2_with fail
      go_quiet ((go_at_call 117; exact Calls.quiet_of_same (arity_any _ _)))
      go_wp2_with fail
      go_quiet (fail)
      go_wp2_with fail
      go_ret
      exact ⟨by rw [HF.out]; rfl, (((Ext.refl w).alloc _).drewN _).drewN _⟩

set_option maxRecDepth 100000 in
set_option maxHeartbeats 4000000 in
theorem node_14 (wd n x y z : Int) (b o : Nat) (cap : Nat) (w : World) (h1 : 1 ≤ wd) (h8 : wd ≤ 8) (c0 : w.cell? ⟨b, o + 1, none⟩ = some (.int .i64 x)) (c1 : w.cell? ⟨b, o + 4 + 1, none⟩ = some (.int .i64 y)) (c2 : w.cell? ⟨b, o + 8 + 1, none⟩ = some (.int .i64 z)) :
    Calls Tryz.prog 114 #[.agg #[.int .i64 14, .int .i64 wd, .int .i64 n, .slice (some ⟨b, o, none⟩) 3 cap]] w fun r w' => r = .returned (.bool (shapedW 14 wd n [x, y, z])) ∧ Ext w w' := by
  have hd : decide (wd < 1) = false := by simpa using h1
  have hd2 : decide (8 < wd) = false := by simpa using h8
  have hb : (arityS 14 != (3 : Int)) = false := by decide
  have hbs : b < w.heap.size := block_lt c0
  by_cases c : n = 0
  · have hn : (n == 0) = true := by simpa using c
    clear c
    cases hx : (x == 1) with
    | true =>
      cases hy : (y == wd) with
      | true =>
        have HF : Hid (shapedW 14 wd n [x, y, z] = (z == wd)) := by unfold Hid; rw [shapedW_in14 h1 h8, hn, hx, hy, Bool.true_and, Bool.true_and, Bool.true_and]
        go_enter Tryz.func114, Tryz.ntmps114
        go_wp2_with fail
        go_quiet ((go_at_call 117; exact Calls.quiet_of_same (arity_any _ _)))
        go_wp2_with fail
        go_quiet (fail)
        go_wp2_with fail
        go_ret
        exact ⟨by rw [HF.out]; rfl, (((Ext.refl w).alloc _).drewN _).drewN _⟩
      | false =>
        have HF : Hid (shapedW 14 wd n [x, y, z] = false) := by unfold Hid; rw [shapedW_in14 h1 h8, hn, hx, hy, Bool.true_and, Bool.true_and, Bool.false_and]
        go_enter Tryz.func114, Tryz.ntmps114
        go_wp2_with fail
        go_quiet ((go_at_call 117; exact Calls.quiet_of_same (arity_any _ _)))
        go_wp2_with fail
        go_quiet (fail)
        go_wp2_with fail
        go_ret
        exact ⟨by rw [HF.out]; rfl, (((Ext.refl w).alloc _).drewN _).drewN _⟩
    | false =>
      have HF : Hid (shapedW 14 wd n [x, y, z] = false) := by unfold Hid; rw [shapedW_in14 h1 h8, hn, hx, Bool.true_and, Bool.false_and, Bool.false_and]
      go_enter Tryz.func114, Tryz.ntmps114
      go_wp2_with fail
      go_quiet ((go_at_call 117; exact Calls.quiet_of_same (arity_any _ _)))
      go_wp2_with fail
      go_quiet (fail)
      go_wp2_with fail
      go_ret
      exact ⟨by rw [HF.out]; rfl, (((Ext.refl w).alloc _).drewN _).drewN _⟩
  · have hn : (n == 0) = false := by simpa using c
    have HF : Hid (shapedW 14 wd n [x, y, z] = false) := by unfold Hid; rw [shapedW_in14 h1 h8, hn, Bool.false_and, Bool.false_and, Bool.false_and]
    clear c
    go_enter Tryz.func114, Tryz.ntmps114
    go_wp2_with fail
    go_quiet ((go_at_call 117; exact Calls.quiet_of_same (arity_any _ _)))
    go_wp2_with fail
    go_quiet (fail)
    go_wp2_with fail
    go_ret
    exact ⟨by rw [HF.out]; rfl, (((Ext.refl w).alloc _).drewN _).drewN _⟩

/-- node: the fields of a node, and the widths of its kids, fit together. -/
theorem node_any (e : E) (v : Value) (w : World) (he : EVal w v e) :
    Calls Tryz.prog 114 #[v] w fun r w' => r = .returned (.bool (shapedW e.op e.wd e.n (e.kids.map E.wd))) ∧ Ext w w' := by
  obtain ⟨kv, rfl, hk⟩ := he
  obtain ⟨op, wd, n, ks⟩ := e
  simp only [E.op_mk, E.wd_mk, E.n_mk, E.kids_mk] at hk ⊢
  by_cases ha : arityS op = (ks.length : Int)
  · by_cases hw : 1 ≤ wd ∧ wd ≤ 8
    · obtain ⟨h1, h8⟩ := hw
      rcases arityS_cases ha with ⟨ho, hl⟩ | ⟨ho, hl⟩ | ⟨rfl, hl⟩ | ⟨ho, hl⟩ | ⟨ho, hl⟩ | ⟨rfl, hl⟩
      · obtain rfl := List.length_eq_zero_iff.1 hl
        obtain ⟨a, cap, rfl⟩ := SliceAt.shape hk
        exact node_0 op wd n a cap w h1 h8 (.inl ho)
      · obtain rfl := List.length_eq_zero_iff.1 hl
        obtain ⟨a, cap, rfl⟩ := SliceAt.shape hk
        exact node_0 op wd n a cap w h1 h8 (.inr ho)
      · match ks, hl, hk with
        | [x], _, hk =>
          rcases hk with ⟨_, h⟩ | ⟨b, o, cap, rfl, _, hk⟩
          · cases h
          exact node_1 wd n x.wd b o cap w h1 h8 (hk 0 (by simp)).cells.2.1
      · match ks, hl, hk with
        | [x, y], _, hk =>
          rcases hk with ⟨_, h⟩ | ⟨b, o, cap, rfl, _, hk⟩
          · cases h
          exact node_2 op wd n x.wd y.wd b o cap w h1 h8 ho (hk 0 (by simp)).cells.2.1 (hk 1 (by simp)).cells.2.1
      · match ks, hl, hk with
        | [x, y], _, hk =>
          rcases hk with ⟨_, h⟩ | ⟨b, o, cap, rfl, _, hk⟩
          · cases h
          exact node_11 op wd n x.wd y.wd b o cap w h1 h8 ho (hk 0 (by simp)).cells.2.1 (hk 1 (by simp)).cells.2.1
      · match ks, hl, hk with
        | [x, y, z], _, hk =>
          rcases hk with ⟨_, h⟩ | ⟨b, o, cap, rfl, _, hk⟩
          · cases h
          exact node_14 wd n x.wd y.wd z.wd b o cap w h1 h8 (hk 0 (by simp)).cells.2.1 (hk 1 (by simp)).cells.2.1 (hk 2 (by simp)).cells.2.1
    · obtain ⟨a, cap, rfl⟩ := SliceAt.shape hk
      exact node_out op wd n ks a cap w (.inr hw)
  · obtain ⟨a, cap, rfl⟩ := SliceAt.shape hk
    exact node_out op wd n ks a cap w (.inl ha)
end Go.Proofs.YtlnahhlddekhoaaGreatDoor
namespace Go.Proofs.YtlnahhlddekhoaaGreatDoor
open Go.RowKit

theorem ret_bool {a b : Bool} (h : a = b) : Ending.returned (.bool a) = .returned (.bool b) := by rw [h]

/-- Kids at an index: the width's cell. -/
theorem Kids.wd {w : World} {b o : Nat} {ks : List E} (hk : ∀ (i : Nat) (h : i < ks.length), IsE w b (o + i * 4) ks[i]) (i : Nat) (h : i < ks.length) : w.cell? ⟨b, o + i * 4 + 1, none⟩ = some (.int .i64 ks[i].wd) := (hk i h).cells.2.1

theorem map_wd_eq {ks : List E} {ws : List Int} (hl : ks.length = ws.length) (h : ∀ (i : Nat) (h : i < ks.length), ks[i].wd = ws[i]) : ks.map E.wd = ws := by
  apply List.ext_getElem
  · simpa using hl
  · intro i h1 h2; simp at h1; simpa using h i h1
theorem map_wd_ne {ks : List E} {ws : List Int} (i : Nat) (h1 : i < ks.length) (h2 : i < ws.length) (h : ks[i].wd ≠ ws[i]) : ks.map E.wd ≠ ws := by
  intro e; subst e; simp at h

set_option maxHeartbeats 400000 in
theorem wide_any (kv wv : Value) (ks : List E) (ws : List Int) (w : World) (hk : Kids w kv ks) (hw : Ints w wv ws) (hw1 : 1 ≤ ws.length) (hw3 : ws.length ≤ 3) :
    Calls Tryz.prog 112 #[kv, wv] w fun r w' => r = .returned (.bool (decide (ks.map E.wd = ws))) ∧ w = w' := by
  rcases hw with ⟨_, rfl⟩ | ⟨b2, o2, cap2, rfl, hl2, hc2⟩
  · simp at hw1
  by_cases hl : ks.length = ws.length
  · rcases hk with ⟨_, rfl⟩ | ⟨b, o, cap, rfl, hl1, hk⟩
    · simp at hl; omega
    have HK := Lib.hid hk; have HC := Lib.hid hc2; have HL := Lib.hid hl
    have hne : (((ks.length : Nat) : Int) != ((ws.length : Nat) : Int)) = false := by rw [hl]; simp
    clear hk hc2 hl
    go_enter Tryz.func112, Tryz.ntmps112
    go_wp2_with fail
    go_loop [5, 6, 14] (fun _ _ i => ∃ k : Nat, k ≤ ws.length ∧ i = .int .i64 k ∧ ∀ (j : Nat) (h : j < ks.length) (h' : j < ws.length), j < k → ks[j].wd = ws[j]) (fun _ _ i => ws.length - (intOf i).toNat)
    case atStart => exact ⟨0, Nat.zero_le _, rfl, fun j _ _ h => absurd h (Nat.not_lt_zero _)⟩
    case round =>
      obtain ⟨k, hk, rfl, hr⟩ := hrel
      have HR := Lib.hid hr; clear hr
      by_cases hlt : k < ws.length
      · have hlk : k < ks.length := by rw [HL.out]; exact hlt
        have g1 := (HK.out k hlk).cells.2.1
        have g2 : w.cell? ⟨b2, o2 + k, none⟩ = some (.int .i64 ws[k]) := by have := HC.out k hlt; rw [Nat.mul_one] at this; exact this
        go_wp2_with fail
        · go_ret
          have hne : ks[k].wd ≠ ws[k] := by simpa using ‹(ks[k].wd != ws[k]) = true›
          exact ⟨ret_bool (by simp [map_wd_ne k hlk hlt hne]), rfl⟩
        · have heq : ks[k].wd = ws[k] := by simpa using ‹(ks[k].wd != ws[k]) = false›
          refine ⟨⟨k + 1, by omega, by go_num, ?_⟩, by simp [intOf]; omega⟩
          intro j h h' hj
          by_cases c : j = k
          · subst c; exact heq
          · exact HR.out j h h' (by omega)
      · go_wp2_with fail
        go_ret
        exact ⟨ret_bool (by rw [decide_eq_true (map_wd_eq HL.out (fun i h => HR.out i h (by rw [← HL.out]; exact h) (by have := HL.out; omega)))]), rfl⟩
  · obtain ⟨a, cap, rfl⟩ := SliceAt.shape hk
    have hne : (((ks.length : Nat) : Int) != ((ws.length : Nat) : Int)) = true := by rw [bne_iff_ne]; omega
    have hd : ¬ ks.map E.wd = ws := by intro e; subst e; simp at hl
    have HD := Lib.hid hd
    clear hk hl hd
    go_enter Tryz.func112, Tryz.ntmps112
    go_wp2_with fail
    go_ret
    exact ⟨ret_bool (by rw [decide_eq_false HD.out]), rfl⟩
theorem ints1' {w : World} {x : Int} {t : TypeId} : Ints (w.alloc (.cells #[.int .i64 x] t)) (.slice (some ⟨w.heap.size, 0, none⟩) 1 1) [x] := by
  refine .inr ⟨_, _, _, rfl, by simp, fun i h => ?_⟩
  obtain rfl : i = 0 := by simp at h; omega
  simp [IntAt]
theorem ints2' {w : World} {x y : Int} {t : TypeId} : Ints (w.alloc (.cells #[.int .i64 x, .int .i64 y] t)) (.slice (some ⟨w.heap.size, 0, none⟩) 2 2) [x, y] := by
  refine .inr ⟨_, _, _, rfl, by simp, fun i h => ?_⟩
  have : i = 0 ∨ i = 1 := by simp at h; omega
  rcases this with rfl | rfl <;> simp [IntAt]
theorem ints3' {w : World} {x y z : Int} {t : TypeId} : Ints (w.alloc (.cells #[.int .i64 x, .int .i64 y, .int .i64 z] t)) (.slice (some ⟨w.heap.size, 0, none⟩) 3 3) [x, y, z] := by
  refine .inr ⟨_, _, _, rfl, by simp, fun i h => ?_⟩
  have : i = 0 ∨ i = 1 ∨ i = 2 := by simp at h; omega
  rcases this with rfl | rfl | rfl <;> simp [IntAt]
theorem ints1 {w : World} {x : Int} {t : TypeId} : Ints (w.drew.alloc (.cells #[.int .i64 x] t)) (.slice (some ⟨w.heap.size, 0, none⟩) 1 1) [x] := ints1' (w := w.drew)
theorem ints2 {w : World} {x y : Int} {t : TypeId} : Ints (w.drew.alloc (.cells #[.int .i64 x, .int .i64 y] t)) (.slice (some ⟨w.heap.size, 0, none⟩) 2 2) [x, y] := ints2' (w := w.drew)
theorem ints3 {w : World} {x y z : Int} {t : TypeId} : Ints (w.drew.alloc (.cells #[.int .i64 x, .int .i64 y, .int .i64 z] t)) (.slice (some ⟨w.heap.size, 0, none⟩) 3 3) [x, y, z] := ints3' (w := w.drew)

/-- Outside the widths. -/
theorem shapedW_out {op wd n : Int} {ws : List Int} (h : wd < 1 ∨ 8 < wd) : shapedW op wd n ws = false := by
  simp only [shapedW]; rcases h with h | h <;> simp <;> omega

set_option maxRecDepth 100000 in
set_option maxHeartbeats 1000000 in
theorem shaped_const (wd n : Int) (w : World) (b o : Nat) (a : Option Addr) (cap : Nat) (ks : List E) (hM : Masks w) (hw1' : 1 ≤ wd) (hw8' : wd ≤ 8) (h1 : w.cell? ⟨b, o + 1, none⟩ = some (.int .i64 wd)) (h2 : w.cell? ⟨b, o + 2, none⟩ = some (.int .i64 n)) (h3 : w.cell? ⟨b, o + 3, none⟩ = some (.slice a ks.length cap)) (hk : Kids w (.slice a ks.length cap) ks) (h0 : w.cell? ⟨b, o, none⟩ = some (.int .i64 1)) :
    Calls Tryz.prog 102 #[.pointer (some ⟨b, o, none⟩)] w fun r w' => r = .returned (.bool (shapedW 1 wd n (ks.map E.wd))) ∧ Ext w w' := by
  have hw0 : 0 ≤ wd := by omega
  have hw9 : wd < 9 := by omega
  have HK := Lib.hid hk; clear hk
  have hm := hM wd (by omega) hw8'
  by_cases d0 : ks.length = 0
  · have hb : (((ks.length : Nat) : Int) == 0) = true := by simp [d0]
    by_cases d1 : 0 ≤ n
    · have hb1 : decide (0 ≤ n) = true := by simpa using d1
      have HF : Hid (shapedW 1 wd n (ks.map E.wd) = decide (n ≤ pw wd - 1)) := by simp [Hid, shapedW, List.length_eq_zero_iff.1 d0, d1, hw1', hw8']
      clear d0
      go_enter Tryz.func102, Tryz.ntmps102
      go_wp2_with fail
      go_quiet (fail)
      go_wp2_with fail
      go_ret
      exact ⟨by rw [HF.out]; rfl, (Ext.refl _).drewN _⟩
    · have hb1 : decide (0 ≤ n) = false := by simpa using d1
      have HF : Hid (shapedW 1 wd n (ks.map E.wd) = false) := by simp [Hid, shapedW, List.length_eq_zero_iff.1 d0, d1]
      clear d0
      go_enter Tryz.func102, Tryz.ntmps102
      go_wp2_with fail
      go_quiet (fail)
      go_wp2_with fail
      go_ret
      exact ⟨by rw [HF.out]; rfl, (Ext.refl _).drewN _⟩
  · have hb : (((ks.length : Nat) : Int) == 0) = false := by rw [beq_eq_false_iff_ne]; omega
    have HF : Hid (shapedW 1 wd n (ks.map E.wd) = false) := by
      have : ks ≠ [] := by intro e; simp [e] at d0
      simp [Hid, shapedW, this]
    clear d0
    go_enter Tryz.func102, Tryz.ntmps102
    go_wp2_with fail
    go_quiet (fail)
    go_wp2_with fail
    go_ret
    exact ⟨by rw [HF.out]; rfl, (Ext.refl _).drewN _⟩

set_option maxRecDepth 100000 in
set_option maxHeartbeats 1000000 in
theorem shaped_cell (op wd n : Int) (w : World) (b o : Nat) (a : Option Addr) (cap : Nat) (ks : List E) (hw1' : 1 ≤ wd) (hw8' : wd ≤ 8) (h1 : w.cell? ⟨b, o + 1, none⟩ = some (.int .i64 wd)) (h2 : w.cell? ⟨b, o + 2, none⟩ = some (.int .i64 n)) (h3 : w.cell? ⟨b, o + 3, none⟩ = some (.slice a ks.length cap)) (hk : Kids w (.slice a ks.length cap) ks) (h0 : w.cell? ⟨b, o, none⟩ = some (.int .i64 op)) (c23 : op = 2 ∨ op = 3) :
    Calls Tryz.prog 102 #[.pointer (some ⟨b, o, none⟩)] w fun r w' => r = .returned (.bool (shapedW op wd n (ks.map E.wd))) ∧ Ext w w' := by
  have HK := Lib.hid hk; clear hk
  have HF : Hid (shapedW op wd n (ks.map E.wd) = (decide (ks.length = 0) && decide (0 ≤ n) && decide (n < 32))) := by
    rcases c23 with rfl | rfl <;> simp [Hid, shapedW, hw1', hw8']
  by_cases d0 : ks.length = 0
  · have hb : (((ks.length : Nat) : Int) == 0) = true := by simp [d0]
    have HD := Lib.hid d0
    clear d0
    by_cases d1 : 0 ≤ n
    · have hb1 : decide (0 ≤ n) = true := by simpa using d1
      have H1 := Lib.hid d1
      rcases c23 with rfl | rfl
      all_goals
        go_enter Tryz.func102, Tryz.ntmps102
        go_wp2_with fail
        go_ret
        exact ⟨by rw [HF.out]; exact ret_bool (by simp [HD.out, H1.out]), Ext.refl _⟩
    · have hb1 : decide (0 ≤ n) = false := by simpa using d1
      have H1 := Lib.hid d1
      rcases c23 with rfl | rfl
      all_goals
        go_enter Tryz.func102, Tryz.ntmps102
        go_wp2_with fail
        go_ret
        exact ⟨by rw [HF.out]; exact ret_bool (by simp; intro _ h; have := H1.out; omega), Ext.refl _⟩
  · have hb : (((ks.length : Nat) : Int) == 0) = false := by rw [beq_eq_false_iff_ne]; omega
    have HD := Lib.hid d0
    clear d0
    rcases c23 with rfl | rfl
    all_goals
      go_enter Tryz.func102, Tryz.ntmps102
      go_wp2_with fail
      go_ret
      exact ⟨by rw [HF.out]; exact ret_bool (by simp [HD.out]), Ext.refl _⟩

end Go.Proofs.YtlnahhlddekhoaaGreatDoor
namespace Go.Proofs.YtlnahhlddekhoaaGreatDoor
open Go.RowKit

set_option maxRecDepth 100000 in
set_option maxHeartbeats 1000000 in
theorem shaped_not (op wd : Int) (w : World) (b o : Nat) (a : Option Addr) (cap : Nat) (ks : List E) (hw1' : 1 ≤ wd) (hw8' : wd ≤ 8) (h1 : w.cell? ⟨b, o + 1, none⟩ = some (.int .i64 wd)) (h2 : w.cell? ⟨b, o + 2, none⟩ = some (.int .i64 0)) (h3 : w.cell? ⟨b, o + 3, none⟩ = some (.slice a ks.length cap)) (hk : Kids w (.slice a ks.length cap) ks) (h0 : w.cell? ⟨b, o, none⟩ = some (.int .i64 op)) (hop : op = 4) :
    Calls Tryz.prog 102 #[.pointer (some ⟨b, o, none⟩)] w fun r w' => r = .returned (.bool (shapedW op wd 0 (ks.map E.wd))) ∧ Ext w w' := by
  have HK := Lib.hid hk; clear hk
  have hbs : b < w.heap.size := block_lt h0
  have HF : Hid (shapedW op wd 0 (ks.map E.wd) = decide (ks.map E.wd = [wd])) := by
    rcases hop with rfl <;> simp [Hid, shapedW, hw1', hw8']
  rcases hop with rfl
  all_goals
    go_enter Tryz.func102, Tryz.ntmps102
    go_wp2_with fail
    go_region_held3 (fun w' => w'.cell? ⟨b, o + 1, none⟩ = some (.int .i64 wd) ∧ w'.cell? ⟨b, o + 3, none⟩ = some (.slice a ks.length cap))
      (first | exact ⟨h1, h3⟩ | exact ⟨Ext.cell ((Ext.refl w).drew.alloc _) h1, Ext.cell ((Ext.refl w).drew.alloc _) h3⟩)
      ((go_at_call 112; refine (wide_any _ _ ks [wd] _ (HK.out.ext ((Ext.refl w).drew.alloc _)) ints1 (by simp) (by simp)).mono ?_; rintro e w' ⟨rfl, rfl⟩))
    go_wp2_with fail
    go_ret
    exact ⟨by rw [HF.out]; rfl, (Ext.refl w).drew.alloc _⟩

set_option maxRecDepth 100000 in
set_option maxHeartbeats 1000000 in
theorem shaped_two (op wd : Int) (w : World) (b o : Nat) (a : Option Addr) (cap : Nat) (ks : List E) (hw1' : 1 ≤ wd) (hw8' : wd ≤ 8) (h1 : w.cell? ⟨b, o + 1, none⟩ = some (.int .i64 wd)) (h2 : w.cell? ⟨b, o + 2, none⟩ = some (.int .i64 0)) (h3 : w.cell? ⟨b, o + 3, none⟩ = some (.slice a ks.length cap)) (hk : Kids w (.slice a ks.length cap) ks) (h0 : w.cell? ⟨b, o, none⟩ = some (.int .i64 op)) (hop : op = 5 ∨ op = 6 ∨ op = 7 ∨ op = 8 ∨ op = 9 ∨ op = 10) :
    Calls Tryz.prog 102 #[.pointer (some ⟨b, o, none⟩)] w fun r w' => r = .returned (.bool (shapedW op wd 0 (ks.map E.wd))) ∧ Ext w w' := by
  have HK := Lib.hid hk; clear hk
  have hbs : b < w.heap.size := block_lt h0
  have HF : Hid (shapedW op wd 0 (ks.map E.wd) = decide (ks.map E.wd = [wd, wd])) := by
    rcases hop with rfl | rfl | rfl | rfl | rfl | rfl <;> simp [Hid, shapedW, hw1', hw8']
  rcases hop with rfl | rfl | rfl | rfl | rfl | rfl
  all_goals
    go_enter Tryz.func102, Tryz.ntmps102
    go_wp2_with fail
    go_region_held3 (fun w' => w'.cell? ⟨b, o + 1, none⟩ = some (.int .i64 wd) ∧ w'.cell? ⟨b, o + 3, none⟩ = some (.slice a ks.length cap))
      (first | exact ⟨h1, h3⟩ | exact ⟨Ext.cell ((Ext.refl w).drew.alloc _) h1, Ext.cell ((Ext.refl w).drew.alloc _) h3⟩)
      ((go_at_call 112; refine (wide_any _ _ ks [wd, wd] _ (HK.out.ext ((Ext.refl w).drew.alloc _)) ints2 (by simp) (by simp)).mono ?_; rintro e w' ⟨rfl, rfl⟩))
    go_wp2_with fail
    go_ret
    exact ⟨by rw [HF.out]; rfl, (Ext.refl w).drew.alloc _⟩

set_option maxRecDepth 100000 in
set_option maxHeartbeats 1000000 in
theorem shaped_ite (op wd : Int) (w : World) (b o : Nat) (a : Option Addr) (cap : Nat) (ks : List E) (hw1' : 1 ≤ wd) (hw8' : wd ≤ 8) (h1 : w.cell? ⟨b, o + 1, none⟩ = some (.int .i64 wd)) (h2 : w.cell? ⟨b, o + 2, none⟩ = some (.int .i64 0)) (h3 : w.cell? ⟨b, o + 3, none⟩ = some (.slice a ks.length cap)) (hk : Kids w (.slice a ks.length cap) ks) (h0 : w.cell? ⟨b, o, none⟩ = some (.int .i64 op)) (hop : op = 14) :
    Calls Tryz.prog 102 #[.pointer (some ⟨b, o, none⟩)] w fun r w' => r = .returned (.bool (shapedW op wd 0 (ks.map E.wd))) ∧ Ext w w' := by
  have HK := Lib.hid hk; clear hk
  have hbs : b < w.heap.size := block_lt h0
  have HF : Hid (shapedW op wd 0 (ks.map E.wd) = decide (ks.map E.wd = [1, wd, wd])) := by
    rcases hop with rfl <;> simp [Hid, shapedW, hw1', hw8']
  rcases hop with rfl
  all_goals
    go_enter Tryz.func102, Tryz.ntmps102
    go_wp2_with fail
    go_region_held3 (fun w' => w'.cell? ⟨b, o + 1, none⟩ = some (.int .i64 wd) ∧ w'.cell? ⟨b, o + 3, none⟩ = some (.slice a ks.length cap))
      (first | exact ⟨h1, h3⟩ | exact ⟨Ext.cell ((Ext.refl w).drew.alloc _) h1, Ext.cell ((Ext.refl w).drew.alloc _) h3⟩)
      ((go_at_call 112; refine (wide_any _ _ ks [1, wd, wd] _ (HK.out.ext ((Ext.refl w).drew.alloc _)) ints3 (by simp) (by simp)).mono ?_; rintro e w' ⟨rfl, rfl⟩))
    go_wp2_with fail
    go_ret
    exact ⟨by rw [HF.out]; rfl, (Ext.refl w).drew.alloc _⟩

end Go.Proofs.YtlnahhlddekhoaaGreatDoor
