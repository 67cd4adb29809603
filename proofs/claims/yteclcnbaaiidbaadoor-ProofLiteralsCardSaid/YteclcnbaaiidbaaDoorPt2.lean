/-
  The iterator backward; the function renumber.
-/
import Derived.Test.YteclcnbaaiidbaaDoorPk3
import Derived.Test.YteclcnbaaiidbaaDoorPt1
import Derived.RangeFuncNested
import Derived.RangeFuncBound
import Derived.RangeFuncCalls
import Derived.RangeFuncLeaves
import Derived.RangeFuncWrites
import Derived.Shelf.Abstract
import Derived.Shelf.RegionOpen
import Derived.OwnWalkIn
import Derived.TacticsInMore
import Derived.LoopNIn
import Derived.LoopIn
import Derived.Deep.OwnRows
namespace Go.Proofs.YteclcnbaaiidbaaDoor
open Go.RowKit Go.Shelf
attribute [local go_sem] Oper.semAt_some

theorem downTo_lt {len i : Nat} (h : i ≤ len) : ∀ x ∈ downTo len i, x < len := by
  intro x hx
  unfold downTo at hx
  obtain ⟨j, hj, rfl⟩ := List.mem_map.1 hx
  have := List.mem_range.1 hj
  omega
set_option maxRecDepth 100000 in
set_option maxHeartbeats 2000000 in
theorem back1_in (n : Nat) (hn : 1 ≤ n) (l Bn n₀ : Nat) (len : Nat) (hlen : len ≤ 100000) (J Jx : List Nat → World → Prop)
    (hY : ∀ pre x W, x < len → J pre W → pre.length < len → YieldAt Fence.wide (n - 1) Tryd.prog l #[.int .i64 (x : Nat)] W fun e W' =>
      (e = .returned (.bool true) ∧ J (pre ++ [x]) W' ∧ Below n₀ W W') ∨ (e = .returned (.bool false) ∧ Jx (pre ++ [x]) W'))
    (W : World) (hBn : W.cell? ⟨Bn, 0, none⟩ = some (.int .i64 len)) (h0 : J [] W) :
    CallsIn Fence.wide n Tryd.prog 42 #[.func (.yield l) #[] #[], .pointer (some ⟨Bn, 0, none⟩)] W fun e W' => (∃ v, e = .returned v) ∧
      ((∃ ys, ys = downTo len len ∧ J ys W') ∨ (∃ pre, True ∧ Jx pre W')) := by
  have HY := Lib.hid hY; have H0 := Lib.hid h0
  clear hY h0
  have hw : IntKind.i64.wrap ((len : Int) - 1) = (len : Int) - 1 := by rw [IntKind.wrap_i64]; omega
  have hw1 : wrap64 ((len : Int) - 1) = (len : Int) - 1 := by unfold wrap64; omega
  refine callsIn_of_wp Tryd.func42 rfl trivial ?_ rfl
  simp only [Tryd.ntmps42, List.size_toArray, List.length_cons, List.length_nil, Nat.reduceAdd, Nat.reduceSub, Array.replicate_succ, Array.replicate_zero, List.push_toArray, List.append_toArray, List.nil_append, List.cons_append]
  gi_wp2
  gi_loopw [3] (fun p wr => ∃ i : Nat, i ≤ len ∧ p = .int .i64 ((len : Int) - 1 - i) ∧ J (downTo len i) wr) (fun p _ => (intOf p + 1).toNat)
  case atStart => exact ⟨0, Nat.zero_le _, by simp, H0.out⟩
  case round =>
    obtain ⟨i, hi, rfl, hJ⟩ := hrel
    have HJ := Lib.hid hJ; clear hJ
    by_cases hlt : i < len
    · have HS := Lib.hid (downTo_succ len i)
      obtain ⟨x, hx⟩ : ∃ x : Nat, x = len - 1 - i := ⟨_, rfl⟩
      have hxi : (len : Int) - 1 - (i : Int) = (x : Int) := by omega
      have hxl : x < len := by omega
      have hw2 : IntKind.i64.wrap ((x : Int) - 1) = (x : Int) - 1 := by rw [IntKind.wrap_i64]; omega
      have x0 : (0 : Int) ≤ (x : Int) := by omega
      rw [← hx] at HS
      rw [hxi]
      have hxs : (len : Int) - 1 - ((i + 1 : Nat) : Int) = (x : Int) - 1 := by omega
      have HXS := Lib.hid hxs
      obtain ⟨fn, tmps, assign, body, hy, hR⟩ := HY.out _ x _ hxl HJ.out (by rw [downTo_len]; exact hlt)
      have HR := Lib.hid hR
      clear hR hw hw1 hx hxi hxs
      gi_wp2
      refine HR.out.mono ?_
      rintro e W3 (⟨rfl, hJ3, _⟩ | ⟨rfl, hJx3⟩)
      · have HJ3 := Lib.hid hJ3
        clear hJ3 hy
        gi_wp2
        go_roundw
        case rel => exact ⟨i + 1, by omega, congrArg _ HXS.out.symm, by rw [HS.out]; exact HJ3.out⟩
        case measure => simp [intOf] <;> omega
      · have HJx3 := Lib.hid hJx3
        clear hJx3 hy
        gi_wp2
        refine bodyPost_ret (results_none rfl _ _ _) rfl ?_
        exact ⟨⟨_, rfl⟩, .inr ⟨_, trivial, HJx3.out⟩⟩
    · obtain rfl : i = len := by omega
      have hm : (i : Int) - 1 - (i : Int) = -1 := by omega
      rw [hm]
      clear hw hw1
      gi_wp2
      go_end0
      exact ⟨⟨_, rfl⟩, .inl ⟨_, rfl, HJ.out⟩⟩
/-- A number below a bound. -/
def Lt (len : Nat) : Type := { x : Nat // x < len }
def valsL {len : Nat} (l : List (Lt len)) : List Nat := l.map Subtype.val
theorem valsL_snoc {len : Nat} (l : List (Lt len)) (x : Lt len) : valsL (l ++ [x]) = valsL l ++ [x.1] := by unfold valsL; exact List.map_append
theorem valsL_len {len : Nat} (l : List (Lt len)) : (valsL l).length = l.length := by unfold valsL; exact List.length_map _
theorem back_stops (n : Nat) (hn : 1 ≤ n) (Bn n₀ : Nat) (len : Nat) (hlen : len ≤ 100000) (w : World) (hBn : Bn < w.heap.size) (hc : w.cell? ⟨Bn, 0, none⟩ = some (.int .i64 len)) :
    SeqStopsK Fence.wide n Tryd.prog 42 #[.pointer (some ⟨Bn, 0, none⟩)] (fun x : Lt len => #[Value.int .i64 (x.1 : Nat)]) (Below n₀) (fun ys => valsL ys = downTo len len) (fun _ => True) len w := fun l J Jx W hW hJ _ hY h0 => by
  have key := back1_in n hn l Bn n₀ len hlen (fun s W => ∃ s' : List (Lt len), valsL s' = s ∧ J s' W) (fun s W => ∃ s' : List (Lt len), valsL s' = s ∧ Jx s' W) ?_ W ((hW.cell (p := ⟨Bn, 0, none⟩) hBn).trans hc) ⟨[], rfl, h0⟩
  · refine key.mono ?_
    rintro e W' ⟨hv, h⟩
    refine ⟨hv, ?_⟩
    rcases h with ⟨ys, rfl, s', hs, hj⟩ | ⟨pre, _, s', hs, hj⟩
    · exact .inl ⟨s', hs, hj⟩
    · exact .inr ⟨s', trivial, hj⟩
  · rintro pre x W1 h1 ⟨s', rfl, hj⟩ hlen
    rw [valsL_len] at hlen
    obtain ⟨fn, tmps, assign, body, hy, hR⟩ := hY s' ⟨x, h1⟩ W1 hj hlen
    refine ⟨fn, tmps, assign, body, hy, hR.mono ?_⟩
    rintro e W' (⟨rfl, hj', hk⟩ | ⟨rfl, hj'⟩)
    · exact .inl ⟨rfl, ⟨_, valsL_snoc _ _, hj'⟩, hk⟩
    · exact .inr ⟨rfl, ⟨_, valsL_snoc _ _, hj'⟩⟩
set_option maxHeartbeats 1000000 in
theorem backward_in (n : Nat) (k : Int) (w : World) :
    CallsIn Fence.wide n Tryd.prog 28 #[.int .i64 k] w fun e w' => e = .returned (.func (.func 42) #[] #[.pointer (some ⟨w.heap.size, 0, none⟩)]) ∧ w' = w.alloc (.cells #[.int .i64 k] 3) := by
  refine callsIn_of_wp Tryd.func28 rfl trivial ?_ rfl
  simp only [Tryd.ntmps28, List.size_toArray, List.length_cons, List.length_nil, Nat.reduceAdd, Nat.reduceSub, Array.replicate_succ, Array.replicate_zero, List.push_toArray, List.append_toArray, List.nil_append, List.cons_append]
  gi_wp2
  go_ret
  exact ⟨rfl, rfl⟩
set_option maxHeartbeats 1000000 in
theorem renumber_any (n : Nat) (h : Int) (bn bs nb len : Nat) (f : Nat → Int) (w : World) (hl : len ≤ 100000) (c1 : w.cell? ⟨bn, 0, none⟩ = some (.int .i64 (n : Nat))) (c2 : w.cell? ⟨bs, 0, none⟩ = some (.slice (some ⟨nb, 0, none⟩) len len)) (hr : w.rowIs nb 3 len fun j => .int .i64 (f j)) (hh : h < (n : Int) + len) :
    Calls Tryd.prog 29 #[.int .i64 h, .pointer (some ⟨bn, 0, none⟩), .pointer (some ⟨bs, 0, none⟩)] w fun r w' => r = .returned (.int .i64 (if h < (n : Int) then h else f (h - n).toNat)) ∧ w' = w := by
  by_cases c : h < (n : Int)
  · rw [if_pos c]
    go_enter Tryd.func29, Tryd.ntmps29
    go_wp2_with fail
    go_ret
    exact ⟨rfl, rfl⟩
  · rw [if_neg c]
    obtain ⟨j, hj⟩ : ∃ j : Nat, j = (h - n).toNat := ⟨_, rfl⟩
    rw [← hj]
    obtain rfl : h = (n : Int) + j := by omega
    have hw : IntKind.i64.wrap ((n : Int) + (j : Int) - (n : Int)) = (j : Int) := by rw [IntKind.wrap_i64]; omega
    have c3 := hr.cell (i := j) (by omega)
    have j0 : (0 : Int) ≤ (j : Int) := by omega
    have j1 : (j : Int) < (len : Int) := by omega
    have j2 : j < len := by omega
    clear hj hh
    go_enter Tryd.func29, Tryd.ntmps29
    go_wp2_with fail
    go_ret
    exact ⟨rfl, rfl⟩
end Go.Proofs.YteclcnbaaiidbaaDoor
