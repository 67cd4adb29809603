/-
  The walk of the reference's node.
  The walks of equal, constant, isConst, isOnes, negation.
  The walks of the reference's deep, Formed, Same, Const, Cell, Two.
-/
import Derived.Test.YtlcgbdjmlnjhcaaGreatDoorG18
import Derived.Test.YtlcgbdjmlnjhcaaGreatDoorG15
namespace Go.Proofs.YtlcgbdjmlnjhcaaGreatDoor
open Go.RowKit

/-- A callee that leaves the world alone, in a quiet region that stands behind another one. -/
theorem quiet_more {P : Program} {f : FuncId} {args : Array Value} {w : World} {k n : Nat} {v : Value} (h : ∀ W : World, Calls P f args W fun e w' => e = .returned v ∧ W = w') :
    Calls P f args (w.drewN (k + n)) fun e w' => e = .returned v ∧ ∃ m, w' = w.drewN (k + m) := (h _).mono fun _ _ ⟨h1, h2⟩ => ⟨h1, n, h2.symm⟩
theorem bool_ret {a b : Bool} (h : a = b) : Ending.returned (.bool a) = .returned (.bool b) := by rw [h]
theorem arityS_cases {op : Int} {k : Nat} (h : arityS op = (k : Int)) : (op = 1 ∧ k = 0) ∨ ((op = 2 ∨ op = 3) ∧ k = 0) ∨ (op = 4 ∧ k = 1) ∨ ((op = 5 ∨ op = 6 ∨ op = 7 ∨ op = 8 ∨ op = 9 ∨ op = 10) ∧ k = 2) ∨ ((op = 11 ∨ op = 12 ∨ op = 13) ∧ k = 2) ∨ (op = 14 ∧ k = 3) := by
  unfold arityS at h
  split at h
  · omega
  split at h
  · omega
  split at h
  · omega
  split at h <;> omega
theorem shapedW_arity {op wd n : Int} {ws : List Int} (h : arityS op ≠ (ws.length : Int)) : shapedW op wd n ws = false := by
  cases hs : shapedW op wd n ws with
  | false => rfl
  | true =>
    exfalso
    apply h
    by_cases h1 : op = 1
    · subst h1; rw [(shapedW_const hs).1]; rfl
    by_cases h2 : op = 2
    · subst h2; rw [(shapedW_cell hs (.inl rfl)).1]; rfl
    by_cases h3 : op = 3
    · subst h3; rw [(shapedW_cell hs (.inr rfl)).1]; rfl
    obtain ⟨_, h4, h14, hc⟩ := shapedW_inner hs h1 h2 h3
    unfold arityS
    rcases hc with ⟨rfl, rfl⟩ | ⟨a, b, rfl⟩ | ⟨a, b, _, u, rfl⟩ | ⟨rfl, rfl⟩
    · rfl
    · rw [if_neg (by omega), if_neg (by omega), if_pos (by omega)]; rfl
    · rw [if_neg (by omega), if_neg (by omega), if_pos (by omega)]; rfl
    · rfl
theorem shapedW_wide {op wd n : Int} {ws : List Int} (h : ¬ (1 ≤ wd ∧ wd ≤ 8)) : shapedW op wd n ws = false := by
  simp only [shapedW]; rcases (show wd < 1 ∨ 8 < wd by omega) with h | h <;> simp <;> omega

set_option maxRecDepth 100000 in
set_option maxHeartbeats 2000000 in
theorem node_out (op wd n : Int) (ks : List E) (a : Option Addr) (cap : Nat) (w : World) (h : arityS op ≠ (ks.length : Int) ∨ ¬ (1 ≤ wd ∧ wd ≤ 8)) :
    Calls Tryz.prog 78 #[.agg #[.int .i64 op, .int .i64 wd, .int .i64 n, .slice a ks.length cap]] w fun r w' => r = .returned (.bool (shapedW op wd n (ks.map E.wd))) ∧ Ext w w' := by
  have HF : Hid (shapedW op wd n (ks.map E.wd) = false) := by
    rcases h with h | h
    · exact shapedW_arity (by simpa using h)
    · exact shapedW_wide h
  by_cases cA : arityS op = (ks.length : Int)
  · have hb : (arityS op != (ks.length : Int)) = false := by simp [cA]
    have HA := Lib.hid cA; clear cA
    by_cases cW : wd < 1
    · have hd : decide (wd < 1) = true := by simpa using cW
      clear h
      go_enter Tryz.func78, Tryz.ntmps78
      go_wp2_with fail
      go_quiet ((go_at_call 102; exact Calls.quiet_of_same (arity_any _ _)))
      go_wp2_with fail
      go_ret
      exact ⟨by rw [HF.out]; rfl, ((Ext.refl w).alloc _).drewN _⟩
    · have hd : decide (wd < 1) = false := by simpa using cW
      have hd2 : decide (8 < wd) = true := by
        rcases h with h | h
        · exact absurd HA.out h
        · simp; omega
      clear h
      go_enter Tryz.func78, Tryz.ntmps78
      go_wp2_with fail
      go_quiet ((go_at_call 102; exact Calls.quiet_of_same (arity_any _ _)))
      go_wp2_with fail
      go_ret
      exact ⟨by rw [HF.out]; rfl, ((Ext.refl w).alloc _).drewN _⟩
  · have hb : (arityS op != (ks.length : Int)) = true := by rw [bne_iff_ne]; exact cA
    clear cA h
    go_enter Tryz.func78, Tryz.ntmps78
    go_wp2_with fail
    go_quiet ((go_at_call 102; exact Calls.quiet_of_same (arity_any _ _)))
    go_wp2_with fail
    go_ret
    exact ⟨by rw [HF.out]; rfl, ((Ext.refl w).alloc _).drewN _⟩

theorem shapedW_in1 {wd n : Int} (h1 : 1 ≤ wd) (h8 : wd ≤ 8) : shapedW 1 wd n [] = (decide (0 ≤ n) && decide (n < pw wd)) := by
  have : decide (n ≤ pw wd - 1) = decide (n < pw wd) := by simp only [decide_eq_decide]; omega
  simp [shapedW, h1, h8, this]
theorem shapedW_in2 {op wd n : Int} (h1 : 1 ≤ wd) (h8 : wd ≤ 8) (ho : op = 2 ∨ op = 3) : shapedW op wd n [] = (decide (0 ≤ n) && decide (n < 32)) := by
  rcases ho with rfl | rfl <;> simp [shapedW, h1, h8]
theorem shapedW_in4 {wd n x : Int} (h1 : 1 ≤ wd) (h8 : wd ≤ 8) : shapedW 4 wd n [x] = ((n == 0) && (x == wd)) := by
  by_cases c : n = 0 <;> simp [shapedW, h1, h8, c]
  rw [Bool.eq_iff_iff]; simp
theorem shapedW_in5 {op wd n x y : Int} (h1 : 1 ≤ wd) (h8 : wd ≤ 8) (ho : op = 5 ∨ op = 6 ∨ op = 7 ∨ op = 8 ∨ op = 9 ∨ op = 10) : shapedW op wd n [x, y] = ((n == 0) && (x == wd) && (y == wd)) := by
  by_cases c : n = 0 <;> rcases ho with rfl | rfl | rfl | rfl | rfl | rfl <;> simp [shapedW, h1, h8, c] <;> rw [Bool.eq_iff_iff] <;> simp
theorem shapedW_in11 {op wd n x y : Int} (h1 : 1 ≤ wd) (h8 : wd ≤ 8) (ho : op = 11 ∨ op = 12 ∨ op = 13) : shapedW op wd n [x, y] = ((n == 0) && (wd == 1) && (x == y)) := by
  by_cases c : n = 0 <;> rcases ho with rfl | rfl | rfl <;> simp [shapedW, h1, h8, c] <;> rw [Bool.eq_iff_iff] <;> simp
theorem shapedW_in14 {wd n x y z : Int} (h1 : 1 ≤ wd) (h8 : wd ≤ 8) : shapedW 14 wd n [x, y, z] = ((n == 0) && (x == 1) && (y == wd) && (z == wd)) := by
  by_cases c : n = 0 <;> simp [shapedW, h1, h8, c] <;> rw [Bool.eq_iff_iff] <;> simp [and_assoc]

set_option maxRecDepth 100000 in
set_option maxHeartbeats 2000000 in
theorem node_0 (op wd n : Int) (a : Option Addr) (cap : Nat) (w : World) (h1 : 1 ≤ wd) (h8 : wd ≤ 8) (ho : op = 1 ∨ op = 2 ∨ op = 3) :
    Calls Tryz.prog 78 #[.agg #[.int .i64 op, .int .i64 wd, .int .i64 n, .slice a 0 cap]] w fun r w' => r = .returned (.bool (shapedW op wd n [])) ∧ Ext w w' := by
  have hd : decide (wd < 1) = false := by simpa using h1
  have hd2 : decide (8 < wd) = false := by simpa using h8
  have hb1 : (arityS 1 != (0 : Int)) = false := by decide
  have hb2 : (arityS 2 != (0 : Int)) = false := by decide
  have hb3 : (arityS 3 != (0 : Int)) = false := by decide
  by_cases c : 0 ≤ n
  · have hn : decide (0 ≤ n) = true := by simpa using c
    rcases ho with rfl | rfl | rfl
    · have HF : Hid (shapedW 1 wd n [] = decide (n < pw wd)) := by unfold Hid; rw [shapedW_in1 h1 h8, hn, Bool.true_and]
      go_enter Tryz.func78, Tryz.ntmps78
      go_wp2_with fail
      go_quiet ((go_at_call 102; exact Calls.quiet_of_same (arity_any _ _)))
      go_wp2_with fail
      go_quiet ((go_at_call 103; exact quiet_more (fun W => Power_any wd W (by omega))))
      go_wp2_with fail
      go_ret
      exact ⟨by rw [HF.out]; rfl, (((Ext.refl w).alloc _).drewN _).drewN _⟩
    all_goals
      have HF2 : Hid (shapedW 2 wd n [] = decide (n < 32)) := by unfold Hid; rw [shapedW_in2 h1 h8 (.inl rfl), hn, Bool.true_and]
      have HF3 : Hid (shapedW 3 wd n [] = decide (n < 32)) := by unfold Hid; rw [shapedW_in2 h1 h8 (.inr rfl), hn, Bool.true_and]
      go_enter Tryz.func78, Tryz.ntmps78
      go_wp2_with fail
      go_quiet ((go_at_call 102; exact Calls.quiet_of_same (arity_any _ _)))
      go_wp2_with fail
      go_ret
      exact ⟨by first | (rw [HF2.out]; rfl) | (rw [HF3.out]; rfl), ((Ext.refl w).alloc _).drewN _⟩
  · have hn : decide (0 ≤ n) = false := by simpa using c
    have HF : Hid (shapedW op wd n [] = false) := by
      unfold Hid
      rcases ho with rfl | rfl | rfl
      · rw [shapedW_in1 h1 h8, hn, Bool.false_and]
      · rw [shapedW_in2 h1 h8 (.inl rfl), hn, Bool.false_and]
      · rw [shapedW_in2 h1 h8 (.inr rfl), hn, Bool.false_and]
    rcases ho with rfl | rfl | rfl
    · go_enter Tryz.func78, Tryz.ntmps78
      go_wp2_with fail
      go_quiet ((go_at_call 102; exact Calls.quiet_of_same (arity_any _ _)))
      go_wp2_with fail
      go_quiet ((go_at_call 103; exact quiet_more (fun W => Power_any wd W (by omega))))
      go_wp2_with fail
      go_ret
      exact ⟨by rw [HF.out]; rfl, (((Ext.refl w).alloc _).drewN _).drewN _⟩
    all_goals
      go_enter Tryz.func78, Tryz.ntmps78
      go_wp2_with fail
      go_quiet ((go_at_call 102; exact Calls.quiet_of_same (arity_any _ _)))
      go_wp2_with fail
      go_ret
      exact ⟨by rw [HF.out]; rfl, ((Ext.refl w).alloc _).drewN _⟩

set_option maxRecDepth 100000 in
set_option maxHeartbeats 2000000 in
theorem node_1 (wd n x : Int) (b o : Nat) (cap : Nat) (w : World) (h1 : 1 ≤ wd) (h8 : wd ≤ 8) (c0 : w.cell? ⟨b, o + 1, none⟩ = some (.int .i64 x)) :
    Calls Tryz.prog 78 #[.agg #[.int .i64 4, .int .i64 wd, .int .i64 n, .slice (some ⟨b, o, none⟩) 1 cap]] w fun r w' => r = .returned (.bool (shapedW 4 wd n [x])) ∧ Ext w w' := by
  have hd : decide (wd < 1) = false := by simpa using h1
  have hd2 : decide (8 < wd) = false := by simpa using h8
  have hb : (arityS 4 != (1 : Int)) = false := by decide
  have hbs : b < w.heap.size := block_lt c0
  by_cases c : n = 0
  · have hn : (n == 0) = true := by simpa using c
    have HF : Hid (shapedW 4 wd n [x] = (x == wd)) := by unfold Hid; rw [shapedW_in4 h1 h8, hn, Bool.true_and]
    clear c
    go_enter Tryz.func78, Tryz.ntmps78
    go_wp2_with fail
    go_quiet ((go_at_call 102; exact Calls.quiet_of_same (arity_any _ _)))
    go_wp2_with fail
    go_quiet (fail)
    go_wp2_with fail
    go_ret
    exact ⟨by rw [HF.out]; rfl, (((Ext.refl w).alloc _).drewN _).drewN _⟩
  · have hn : (n == 0) = false := by simpa using c
    have HF : Hid (shapedW 4 wd n [x] = false) := by unfold Hid; rw [shapedW_in4 h1 h8, hn, Bool.false_and]
    clear c
    go_enter Tryz.func78, Tryz.ntmps78
    go_wp2_with fail
    go_quiet ((go_at_call 102; exact Calls.quiet_of_same (arity_any _ _)))
    go_wp2_with fail
    go_quiet (fail)
    go_wp2_with fail
    go_ret
    exact ⟨by rw [HF.out]; rfl, (((Ext.refl w).alloc _).drewN _).drewN _⟩

set_option maxRecDepth 100000 in
set_option maxHeartbeats 4000000 in
theorem node_2 (op wd n x y : Int) (b o : Nat) (cap : Nat) (w : World) (h1 : 1 ≤ wd) (h8 : wd ≤ 8) (ho : op = 5 ∨ op = 6 ∨ op = 7 ∨ op = 8 ∨ op = 9 ∨ op = 10) (c0 : w.cell? ⟨b, o + 1, none⟩ = some (.int .i64 x)) (c1 : w.cell? ⟨b, o + 4 + 1, none⟩ = some (.int .i64 y)) :
    Calls Tryz.prog 78 #[.agg #[.int .i64 op, .int .i64 wd, .int .i64 n, .slice (some ⟨b, o, none⟩) 2 cap]] w fun r w' => r = .returned (.bool (shapedW op wd n [x, y])) ∧ Ext w w' := by
  have hd : decide (wd < 1) = false := by simpa using h1
  have hd2 : decide (8 < wd) = false := by simpa using h8
  have hb : (arityS op != (2 : Int)) = false := by rcases ho with rfl | rfl | rfl | rfl | rfl | rfl <;> decide
  have hbs : b < w.heap.size := block_lt c0
  have e1 : (op == 1) = false := by rw [beq_eq_false_iff_ne]; omega
  have e2 : (op == 2) = false := by rw [beq_eq_false_iff_ne]; omega
  have e3 : (op == 3) = false := by rw [beq_eq_false_iff_ne]; omega
  have e4 : (op == 4) = false := by rw [beq_eq_false_iff_ne]; omega
  have e11 : (op == 11) = false := by rw [beq_eq_false_iff_ne]; omega
  have e12 : (op == 12) = false := by rw [beq_eq_false_iff_ne]; omega
  have e13 : (op == 13) = false := by rw [beq_eq_false_iff_ne]; omega
  have e14 : (op == 14) = false := by rw [beq_eq_false_iff_ne]; omega
  have HO := Lib.hid ho; clear ho
  by_cases c : n = 0
  · have hn : (n == 0) = true := by simpa using c
    clear c
    cases hx : (x == wd) with
    | true =>
      have HF : Hid (shapedW op wd n [x, y] = (y == wd)) := by unfold Hid; rw [shapedW_in5 h1 h8 HO.out, hn, hx, Bool.true_and, Bool.true_and]
      go_enter Tryz.func78, Tryz.ntmps78
      go_wp2_with fail
      go_quiet ((go_at_call 102; exact Calls.quiet_of_same (arity_any _ _)))
      go_wp2_with fail
      go_quiet (fail)
      go_wp2_with fail
      go_ret
      exact ⟨by rw [HF.out]; rfl, (((Ext.refl w).alloc _).drewN _).drewN _⟩
    | false =>
      have HF : Hid (shapedW op wd n [x, y] = false) := by unfold Hid; rw [shapedW_in5 h1 h8 HO.out, hn, hx, Bool.true_and, Bool.false_and]
      go_enter Tryz.func78, Tryz.ntmps78
      go_wp2_with fail
      go_quiet ((go_at_call 102; exact Calls.quiet_of_same (arity_any _ _)))
      go_wp2_with fail
      go_quiet (fail)
      go_wp2_with fail
      go_ret
      exact ⟨by rw [HF.out]; rfl, (((Ext.refl w).alloc _).drewN _).drewN _⟩
  · have hn : (n == 0) = false := by simpa using c
    have HF : Hid (shapedW op wd n [x, y] = false) := by unfold Hid; rw [shapedW_in5 h1 h8 HO.out, hn, Bool.false_and, Bool.false_and]
    clear c
    go_enter Tryz.func78, Tryz.ntmps78
    go_wp2_with fail
    go_quiet ((go_at_call 102; exact Calls.quiet_of_same (arity_any _ _)))
    go_wp2_with fail
    go_quiet (fail)
    go_wp2_with fail
    go_ret
    exact ⟨by rw [HF.out]; rfl, (((Ext.refl w).alloc _).drewN _).drewN _⟩

set_option maxRecDepth 100000 in
set_option maxHeartbeats 4000000 in
theorem node_11 (op wd n x y : Int) (b o : Nat) (cap : Nat) (w : World) (h1 : 1 ≤ wd) (h8 : wd ≤ 8) (ho : op = 11 ∨ op = 12 ∨ op = 13) (c0 : w.cell? ⟨b, o + 1, none⟩ = some (.int .i64 x)) (c1 : w.cell? ⟨b, o + 4 + 1, none⟩ = some (.int .i64 y)) :
    Calls Tryz.prog 78 #[.agg #[.int .i64 op, .int .i64 wd, .int .i64 n, .slice (some ⟨b, o, none⟩) 2 cap]] w fun r w' => r = .returned (.bool (shapedW op wd n [x, y])) ∧ Ext w w' := by
  have hd : decide (wd < 1) = false := by simpa using h1
  have hd2 : decide (8 < wd) = false := by simpa using h8
  have hb11 : (arityS 11 != (2 : Int)) = false := by decide
  have hb12 : (arityS 12 != (2 : Int)) = false := by decide
  have hb13 : (arityS 13 != (2 : Int)) = false := by decide
  have hbs : b < w.heap.size := block_lt c0
  by_cases c : n = 0
  · have hn : (n == 0) = true := by simpa using c
    clear c
    cases hx : (wd == 1) with
    | true =>
      have HF : Hid (shapedW op wd n [x, y] = (x == y)) := by unfold Hid; rw [shapedW_in11 h1 h8 ho, hn, hx, Bool.true_and, Bool.true_and]
      rcases ho with rfl | rfl | rfl
      all_goals
        go_enter Tryz.func78, Tryz.ntmps78
        go_wp2_with fail
        go_quiet ((go_at_call 102; exact Calls.quiet_of_same (arity_any _ _)))
        go_wp2_with fail
        go_quiet (fail)
        go_wp2_with fail
        go_ret
        exact ⟨by rw [HF.out]; rfl, (((Ext.refl w).alloc _).drewN _).drewN _⟩
    | false =>
      have HF : Hid (shapedW op wd n [x, y] = false) := by unfold Hid; rw [shapedW_in11 h1 h8 ho, hn, hx, Bool.true_and, Bool.false_and]
      rcases ho with rfl | rfl | rfl
      all_goals
        go_enter Tryz.func78, Tryz.ntmps78
        go_wp2_with fail
        go_quiet ((go_at_call 102; exact Calls.quiet_of_same (arity_any _ _)))
        go_wp2_with fail
        go_quiet (fail)
        go_wp2_with fail
        go_ret
        exact ⟨by rw [HF.out]; rfl, (((Ext.refl w).alloc _).drewN _).drewN _⟩
  · have hn : (n == 0) = false := by simpa using c
    have HF : Hid (shapedW op wd n [x, y] = false) := by unfold Hid; rw [shapedW_in11 h1 h8 ho, hn, Bool.false_and, Bool.false_and]
    clear c
    rcases ho with rfl | rfl | rfl
    all_goals
      go_enter Tryz.func78, Tryz.ntmps78
      go_wp2_with fail
      go_quiet ((go_at_call 102; exact Calls.quiet_of_same (arity_any _ _)))
      go_wp2_with fail
      go_quiet (fail)
      go_wp2_with fail
      go_ret
      exact ⟨by rw [HF.out]; rfl, (((Ext.refl w).alloc _).drewN _).drewN _⟩

set_option maxRecDepth 100000 in
set_option maxHeartbeats 4000000 in
theorem node_14 (wd n x y z : Int) (b o : Nat) (cap : Nat) (w : World) (h1 : 1 ≤ wd) (h8 : wd ≤ 8) (c0 : w.cell? ⟨b, o + 1, none⟩ = some (.int .i64 x)) (c1 : w.cell? ⟨b, o + 4 + 1, none⟩ = some (.int .i64 y)) (c2 : w.cell? ⟨b, o + 8 + 1, none⟩ = some (.int .i64 z)) :
    Calls Tryz.prog 78 #[.agg #[.int .i64 14, .int .i64 wd, .int .i64 n, .slice (some ⟨b, o, none⟩) 3 cap]] w fun r w' => r = .returned (.bool (shapedW 14 wd n [x, y, z])) ∧ Ext w w' := by
  have hd : decide (wd < 1) = false := by simpa using h1
  have hd2 : decide (8 < wd) = false := by simpa using h8
  have hb : (arityS 14 != (3 : Int)) = false := by decide
  have hbs : b < w.heap.size := block_lt c0
  by_cases c : n = 0
  · have hn : (n == 0) = true := by simpa using c
    clear c
    cases hx : (x == 1) with
    | true =>
      cases hy : (y == wd) with
      | true =>
        have HF : Hid (shapedW 14 wd n [x, y, z] = (z == wd)) := by unfold Hid; rw [shapedW_in14 h1 h8, hn, hx, hy, Bool.true_and, Bool.true_and, Bool.true_and]
        go_enter Tryz.func78, Tryz.ntmps78
        go_wp2_with fail
        go_quiet ((go_at_call 102; exact Calls.quiet_of_same (arity_any _ _)))
        go_wp2_with fail
        go_quiet (fail)
        go_wp2_with fail
        go_ret
        exact ⟨by rw [HF.out]; rfl, (((Ext.refl w).alloc _).drewN _).drewN _⟩
      | false =>
        have HF : Hid (shapedW 14 wd n [x, y, z] = false) := by unfold Hid; rw [shapedW_in14 h1 h8, hn, hx, hy, Bool.true_and, Bool.true_and, Bool.false_and]
        go_enter Tryz.func78, Tryz.ntmps78
        go_wp2_with fail
        go_quiet ((go_at_call 102; exact Calls.quiet_of_same (arity_any _ _)))
        go_wp2_with fail
        go_quiet (fail)
        go_wp2_with fail
        go_ret
        exact ⟨by rw [HF.out]; rfl, (((Ext.refl w).alloc _).drewN _).drewN _⟩
    | false =>
      have HF : Hid (shapedW 14 wd n [x, y, z] = false) := by unfold Hid; rw [shapedW_in14 h1 h8, hn, hx, Bool.true_and, Bool.false_and, Bool.false_and]
      go_enter Tryz.func78, Tryz.ntmps78
      go_wp2_with fail
      go_quiet ((go_at_call 102; exact Calls.quiet_of_same (arity_any _ _)))
      go_wp2_with fail
      go_quiet (fail)
      go_wp2_with fail
      go_ret
      exact ⟨by rw [HF.out]; rfl, (((Ext.refl w).alloc _).drewN _).drewN _⟩
  · have hn : (n == 0) = false := by simpa using c
    have HF : Hid (shapedW 14 wd n [x, y, z] = false) := by unfold Hid; rw [shapedW_in14 h1 h8, hn, Bool.false_and, Bool.false_and, Bool.false_and]
    clear c
    go_enter Tryz.func78, Tryz.ntmps78
    go_wp2_with fail
    go_quiet ((go_at_call 102; exact Calls.quiet_of_same (arity_any _ _)))
    go_wp2_with fail
    go_quiet (fail)
    go_wp2_with fail
    go_ret
    exact ⟨by rw [HF.out]; rfl, (((Ext.refl w).alloc _).drewN _).drewN _⟩

/-- node: the fields of a node, and the widths of its kids, fit together. -/
theorem node_any (e : E) (v : Value) (w : World) (he : EVal w v e) :
    Calls Tryz.prog 78 #[v] w fun r w' => r = .returned (.bool (shapedW e.op e.wd e.n (e.kids.map E.wd))) ∧ Ext w w' := by
  obtain ⟨kv, rfl, hk⟩ := he
  obtain ⟨op, wd, n, ks⟩ := e
  simp only [E.op_mk, E.wd_mk, E.n_mk, E.kids_mk] at hk ⊢
  by_cases ha : arityS op = (ks.length : Int)
  · by_cases hw : 1 ≤ wd ∧ wd ≤ 8
    · obtain ⟨h1, h8⟩ := hw
      rcases arityS_cases ha with ⟨ho, hl⟩ | ⟨ho, hl⟩ | ⟨rfl, hl⟩ | ⟨ho, hl⟩ | ⟨ho, hl⟩ | ⟨rfl, hl⟩
      · obtain rfl := List.length_eq_zero_iff.1 hl
        obtain ⟨a, cap, rfl⟩ := SliceAt.shape hk
        exact node_0 op wd n a cap w h1 h8 (.inl ho)
      · obtain rfl := List.length_eq_zero_iff.1 hl
        obtain ⟨a, cap, rfl⟩ := SliceAt.shape hk
        exact node_0 op wd n a cap w h1 h8 (.inr ho)
      · match ks, hl, hk with
        | [x], _, hk =>
          rcases hk with ⟨_, h⟩ | ⟨b, o, cap, rfl, _, hk⟩
          · cases h
          exact node_1 wd n x.wd b o cap w h1 h8 (hk 0 (by simp)).cells.2.1
      · match ks, hl, hk with
        | [x, y], _, hk =>
          rcases hk with ⟨_, h⟩ | ⟨b, o, cap, rfl, _, hk⟩
          · cases h
          exact node_2 op wd n x.wd y.wd b o cap w h1 h8 ho (hk 0 (by simp)).cells.2.1 (hk 1 (by simp)).cells.2.1
      · match ks, hl, hk with
        | [x, y], _, hk =>
          rcases hk with ⟨_, h⟩ | ⟨b, o, cap, rfl, _, hk⟩
          · cases h
          exact node_11 op wd n x.wd y.wd b o cap w h1 h8 ho (hk 0 (by simp)).cells.2.1 (hk 1 (by simp)).cells.2.1
      · match ks, hl, hk with
        | [x, y, z], _, hk =>
          rcases hk with ⟨_, h⟩ | ⟨b, o, cap, rfl, _, hk⟩
          · cases h
          exact node_14 wd n x.wd y.wd z.wd b o cap w h1 h8 (hk 0 (by simp)).cells.2.1 (hk 1 (by simp)).cells.2.1 (hk 2 (by simp)).cells.2.1
    · obtain ⟨a, cap, rfl⟩ := SliceAt.shape hk
      exact node_out op wd n ks a cap w (.inr hw)
  · obtain ⟨a, cap, rfl⟩ := SliceAt.shape hk
    exact node_out op wd n ks a cap w (.inl ha)
end Go.Proofs.YtlcgbdjmlnjhcaaGreatDoor
namespace Go.Proofs.YtlcgbdjmlnjhcaaGreatDoor
open Go.RowKit

mutual
/-- Equality of expressions, as a test. -/
def E.eqB : E → E → Bool
  | .mk a b c ks, .mk a' b' c' ks' => decide (a = a') && decide (b = b') && decide (c = c') && eqAll ks ks'
def eqAll : List E → List E → Bool
  | [], [] => true
  | e :: r, e' :: r' => e.eqB e' && eqAll r r'
  | _, _ => false
end
mutual
theorem eqB_iff : (a b : E) → (a.eqB b = true ↔ a = b)
  | .mk a b c ks, .mk a' b' c' ks' => by
    simp only [E.eqB, Bool.and_eq_true, decide_eq_true_eq, eqAll_iff ks ks', E.mk.injEq, and_assoc]
theorem eqAll_iff : (a b : List E) → (eqAll a b = true ↔ a = b)
  | [], [] => by simp [eqAll]
  | [], _ :: _ => by simp [eqAll]
  | _ :: _, [] => by simp [eqAll]
  | e :: r, e' :: r' => by simp [eqAll, eqB_iff e e', eqAll_iff r r']
end
theorem eqAll_length {a b : List E} (h : a.length ≠ b.length) : eqAll a b = false := by
  cases hq : eqAll a b with
  | false => rfl
  | true => exact absurd (by rw [(eqAll_iff a b).1 hq]) h
theorem eqAll_get {a b : List E} {i : Nat} (h1 : i < a.length) (h2 : i < b.length) (h : a[i].eqB b[i] = false) : eqAll a b = false := by
  cases hq : eqAll a b with
  | false => rfl
  | true =>
    have := (eqAll_iff a b).1 hq
    subst this
    rw [(eqB_iff _ _).2 rfl] at h; cases h
theorem eqAll_all {a b : List E} (hl : a.length = b.length) (h : ∀ (i : Nat) (h1 : i < a.length) (h2 : i < b.length), a[i].eqB b[i] = true) : eqAll a b = true := by
  rw [eqAll_iff]
  exact List.ext_getElem hl fun i h1 h2 => (eqB_iff _ _).1 (h i h1 h2)

end Go.Proofs.YtlcgbdjmlnjhcaaGreatDoor
namespace Go.Proofs.YtlcgbdjmlnjhcaaGreatDoor
open Go.RowKit

theorem deep_no {op wd n : Int} {ks : List E} {d : Nat} (h : d < 1 ∨ shapedW op wd n (ks.map E.wd) = false) : (E.mk op wd n ks).deep d = false := by
  rcases h with h | h
  · simp [E.deep]; omega
  · simp [E.deep, h]
theorem deep_no_kid {op wd n : Int} {ks : List E} {d k : Nat} (hk : k < ks.length) (h : ks[k].deep (d - 1) = false) : (E.mk op wd n ks).deep d = false := by
  cases hq : (E.mk op wd n ks).deep d with
  | false => rfl
  | true =>
    simp only [E.deep, Bool.and_eq_true] at hq
    have := (deepAll_iff _ _).1 hq.2 _ (List.getElem_mem hk)
    rw [h] at this; cases this
theorem deep_yes {op wd n : Int} {ks : List E} {d : Nat} (h1 : 1 ≤ d) (h2 : shapedW op wd n (ks.map E.wd) = true) (h3 : ∀ (i : Nat) (h : i < ks.length), ks[i].deep (d - 1) = true) : (E.mk op wd n ks).deep d = true := by
  simp only [E.deep, Bool.and_eq_true, decide_eq_true_eq]
  refine ⟨⟨h1, h2⟩, (deepAll_iff _ _).2 fun k hk => ?_⟩
  obtain ⟨i, hi, rfl⟩ := List.mem_iff_getElem.1 hk
  exact h3 i hi

set_option maxHeartbeats 2000000 in
theorem Rdeep_any (N : Nat) : ∀ (e : E) (v : Value) (w : World) (l : Int), e.size ≤ N → EVal w v e → -10000 ≤ l → l ≤ 10000 →
    Calls Tryz.prog 54 #[v, .int .i64 l] w fun r w' => r = .returned (.bool (e.deep l.toNat)) ∧ Ext w w' := by
  induction N with
  | zero => intro e v w l h; have := e.size_pos; omega
  | succ N ih =>
    intro e v w l hN he hl0 hl1
    obtain ⟨kv, rfl, hk⟩ := he
    obtain ⟨op, wd, n, ks⟩ := e
    simp only [E.op_mk, E.wd_mk, E.n_mk, E.kids_mk] at hk ⊢
    obtain ⟨a, cap, rfl⟩ := SliceAt.shape hk
    have hlen : ks.length ≤ 9223372036854775807 := SliceAt.len_le hk
    have IH := Lib.hid ih; have HK := Lib.hid hk; clear ih hk
    by_cases hl : l < 1
    · have hd : decide (l < 1) = true := by simpa using hl
      have HF : Hid ((E.mk op wd n ks).deep l.toNat = false) := deep_no (.inl (by omega))
      go_enter Tryz.func54, Tryz.ntmps54
      go_wp2_with fail
      go_ret
      exact ⟨by rw [HF.out]; rfl, (Ext.refl w).alloc _⟩
    · have hd : decide (l < 1) = false := by simpa using hl
      go_enter Tryz.func54, Tryz.ntmps54
      go_wp2_with fail
      refine (node_any (.mk op wd n ks) _ _ ⟨_, rfl, HK.out.ext ((Ext.refl w).alloc _)⟩).mono ?_
      rintro r w1 ⟨rfl, hx1⟩
      simp only [E.op_mk, E.wd_mk, E.n_mk, E.kids_mk]
      have c3' : w1.cell? ⟨w.heap.size, 3, none⟩ = some (.slice a ks.length cap) := hx1.cell (by simp)
      have HX1 := Lib.hid (((Ext.refl w).alloc _).trans hx1); clear hx1
      cases hs : shapedW op wd n (ks.map E.wd) with
      | false =>
        have HF : Hid ((E.mk op wd n ks).deep l.toNat = false) := deep_no (.inr hs)
        clear hs
        go_wp2_with fail
        go_ret
        exact ⟨by rw [HF.out]; rfl, HX1.out⟩
      | true =>
        have HS := Lib.hid hs; clear hs
        go_wp2_with fail
        go_loopw [5] (fun i wr => ∃ (k : Nat), k ≤ ks.length ∧ i = .int .i64 k ∧ Ext w1 wr ∧ ∀ (j : Nat) (h : j < ks.length), j < k → ks[j].deep (l.toNat - 1) = true) (fun i _ => ks.length - (intOf i).toNat)
        case atStart => exact ⟨0, Nat.zero_le _, rfl, Ext.refl _, fun j _ h => absurd h (Nat.not_lt_zero _)⟩
        case round =>
          obtain ⟨k, hk, rfl, hX, hR⟩ := hrel
          have c3 : wr.cell? ⟨w.heap.size, 3, none⟩ = some (.slice a ks.length cap) := hX.cell c3'
          have HX := Lib.hid hX; have HR := Lib.hid hR; clear hX hR
          by_cases hlt : k < ks.length
          · rcases HK.out with ⟨_, e⟩ | ⟨b', o', cap', e, _, hk'⟩
            · rw [e] at hlt; simp at hlt
            cases e
            have hE := (hk' k hlt).ext (HX1.out.trans HX.out)
            obtain ⟨g0, g1, g2, kv, g3, hkk⟩ := hE.cells
            obtain ⟨ka, kc, rfl⟩ := SliceAt.shape hkk
            have hin : ks[k] ∈ ks := List.getElem_mem hlt
            have hsz : ks[k].size ≤ N := by have := size_kid (op := op) (wd := wd) (n := n) hin; omega
            have HE : Hid (EVal wr (.agg #[.int .i64 ks[k].op, .int .i64 ks[k].wd, .int .i64 ks[k].n, .slice ka ks[k].kids.length kc]) ks[k]) := ⟨_, rfl, hkk⟩
            clear hkk hk' hE
            go_wp2_with fail
            refine (IH.out _ _ _ _ hsz HE.out (by omega) (by omega)).mono ?_
            rintro r w2 ⟨rfl, hx2⟩
            have HX2 := Lib.hid (HX.out.trans hx2); clear hx2
            rw [show (l - 1).toNat = l.toNat - 1 by omega]
            cases hq : ks[k].deep (l.toNat - 1) with
            | false =>
              have HF : Hid ((E.mk op wd n ks).deep l.toNat = false) := deep_no_kid hlt hq
              clear hq
              go_wp2_with fail
              go_ret
              exact ⟨by rw [HF.out]; rfl, HX1.out.trans HX2.out⟩
            | true =>
              have HQ := Lib.hid hq; clear hq
              go_wp2_with fail
              refine ⟨⟨k + 1, by omega, by go_num, HX2.out, fun j h hj => ?_⟩, by simp [intOf]; omega⟩
              by_cases c : j = k
              · subst c; exact HQ.out
              · exact HR.out j h (by omega)
          · have HF : Hid ((E.mk op wd n ks).deep l.toNat = true) := deep_yes (by omega) HS.out fun i h => HR.out i h (by omega)
            go_wp2_with fail
            go_ret
            exact ⟨by rw [HF.out]; rfl, HX1.out.trans HX.out⟩

set_option maxHeartbeats 400000 in
theorem RFormed_any (e : E) (v : Value) (w : World) (he : EVal w v e) :
    Calls Tryz.prog 21 #[v] w fun r w' => r = .returned (.bool e.wf) ∧ Ext w w' := by
  obtain ⟨kv, rfl, hk⟩ := he
  obtain ⟨a, cap, rfl⟩ := SliceAt.shape hk
  have HK := Lib.hid hk; clear hk
  go_enter Tryz.func21, Tryz.ntmps21
  go_wp2_with fail
  refine (RSize_any e.size e _ _ 601 (Nat.le_refl _) ⟨_, rfl, HK.out.ext ((Ext.refl w).alloc _)⟩ (by omega) (by omega)).mono ?_
  rintro r w1 ⟨rfl, hx1⟩
  have c0 : w1.cell? ⟨w.heap.size, 0, none⟩ = some (.int .i64 e.op) := hx1.cell (by simp)
  have c1 : w1.cell? ⟨w.heap.size, 1, none⟩ = some (.int .i64 e.wd) := hx1.cell (by simp)
  have c2 : w1.cell? ⟨w.heap.size, 2, none⟩ = some (.int .i64 e.n) := hx1.cell (by simp)
  have c3 : w1.cell? ⟨w.heap.size, 3, none⟩ = some (.slice a e.kids.length cap) := hx1.cell (by simp)
  have HX := Lib.hid (((Ext.refl w).alloc _).trans hx1)
  clear hx1
  by_cases h : e.size ≤ 600
  · have hd : decide (sizeLim e.size 601 ≤ 600) = true := by unfold sizeLim; rw [if_neg (by omega)]; simp; split <;> omega
    have HF : Hid (e.wf = e.deep 40) := by unfold Hid E.wf; simp [h]
    go_wp2_with fail
    refine (Rdeep_any e.size e _ _ 40 (Nat.le_refl _) ⟨_, rfl, HK.out.ext HX.out⟩ (by omega) (by omega)).mono ?_
    rintro r w2 ⟨rfl, hx2⟩
    have HX2 := Lib.hid (HX.out.trans hx2); clear hx2
    go_wp2_with fail
    go_ret
    exact ⟨by rw [HF.out]; rfl, HX2.out⟩
  · have hd : decide (sizeLim e.size 601 ≤ 600) = false := by unfold sizeLim; rw [if_neg (by omega)]; simp; split <;> omega
    have HF : Hid (e.wf = false) := by unfold Hid E.wf; simp [h]
    go_wp2_with fail
    go_ret
    exact ⟨by rw [HF.out]; rfl, HX.out⟩
end Go.Proofs.YtlcgbdjmlnjhcaaGreatDoor
