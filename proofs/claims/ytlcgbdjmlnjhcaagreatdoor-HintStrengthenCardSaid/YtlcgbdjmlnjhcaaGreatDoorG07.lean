/-
  The walks of wide and shaped.
  The walk of shaped: the operators with kids.
  The walk of shaped: the comparisons, the other nodes, and all nodes together.
-/
import Derived.Test.YtlcgbdjmlnjhcaaGreatDoorG06
namespace Go.Proofs.YtlcgbdjmlnjhcaaGreatDoor
open Go.RowKit

theorem ret_bool {a b : Bool} (h : a = b) : Ending.returned (.bool a) = .returned (.bool b) := by rw [h]

/-- Kids at an index: the width's cell. -/
theorem Kids.wd {w : World} {b o : Nat} {ks : List E} (hk : ∀ (i : Nat) (h : i < ks.length), IsE w b (o + i * 4) ks[i]) (i : Nat) (h : i < ks.length) : w.cell? ⟨b, o + i * 4 + 1, none⟩ = some (.int .i64 ks[i].wd) := (hk i h).cells.2.1

theorem map_wd_eq {ks : List E} {ws : List Int} (hl : ks.length = ws.length) (h : ∀ (i : Nat) (h : i < ks.length), ks[i].wd = ws[i]) : ks.map E.wd = ws := by
  apply List.ext_getElem
  · simpa using hl
  · intro i h1 h2; simp at h1; simpa using h i h1
theorem map_wd_ne {ks : List E} {ws : List Int} (i : Nat) (h1 : i < ks.length) (h2 : i < ws.length) (h : ks[i].wd ≠ ws[i]) : ks.map E.wd ≠ ws := by
  intro e; subst e; simp at h

set_option maxHeartbeats 400000 in
theorem wide_any (kv wv : Value) (ks : List E) (ws : List Int) (w : World) (hk : Kids w kv ks) (hw : Ints w wv ws) (hw1 : 1 ≤ ws.length) (hw3 : ws.length ≤ 3) :
    Calls Tryz.prog 97 #[kv, wv] w fun r w' => r = .returned (.bool (decide (ks.map E.wd = ws))) ∧ w = w' := by
  rcases hw with ⟨_, rfl⟩ | ⟨b2, o2, cap2, rfl, hl2, hc2⟩
  · simp at hw1
  by_cases hl : ks.length = ws.length
  · rcases hk with ⟨_, rfl⟩ | ⟨b, o, cap, rfl, hl1, hk⟩
    · simp at hl; omega
    have HK := Lib.hid hk; have HC := Lib.hid hc2; have HL := Lib.hid hl
    have hne : (((ks.length : Nat) : Int) != ((ws.length : Nat) : Int)) = false := by rw [hl]; simp
    clear hk hc2 hl
    go_enter Tryz.func97, Tryz.ntmps97
    go_wp2_with fail
    go_loop [5, 6, 14] (fun _ _ i => ∃ k : Nat, k ≤ ws.length ∧ i = .int .i64 k ∧ ∀ (j : Nat) (h : j < ks.length) (h' : j < ws.length), j < k → ks[j].wd = ws[j]) (fun _ _ i => ws.length - (intOf i).toNat)
    case atStart => exact ⟨0, Nat.zero_le _, rfl, fun j _ _ h => absurd h (Nat.not_lt_zero _)⟩
    case round =>
      obtain ⟨k, hk, rfl, hr⟩ := hrel
      have HR := Lib.hid hr; clear hr
      by_cases hlt : k < ws.length
      · have hlk : k < ks.length := by rw [HL.out]; exact hlt
        have g1 := (HK.out k hlk).cells.2.1
        have g2 : w.cell? ⟨b2, o2 + k, none⟩ = some (.int .i64 ws[k]) := by have := HC.out k hlt; rw [Nat.mul_one] at this; exact this
        go_wp2_with fail
        · go_ret
          have hne : ks[k].wd ≠ ws[k] := by simpa using ‹(ks[k].wd != ws[k]) = true›
          exact ⟨ret_bool (by simp [map_wd_ne k hlk hlt hne]), rfl⟩
        · have heq : ks[k].wd = ws[k] := by simpa using ‹(ks[k].wd != ws[k]) = false›
          refine ⟨⟨k + 1, by omega, by go_num, ?_⟩, by simp [intOf]; omega⟩
          intro j h h' hj
          by_cases c : j = k
          · subst c; exact heq
          · exact HR.out j h h' (by omega)
      · go_wp2_with fail
        go_ret
        exact ⟨ret_bool (by rw [decide_eq_true (map_wd_eq HL.out (fun i h => HR.out i h (by rw [← HL.out]; exact h) (by have := HL.out; omega)))]), rfl⟩
  · obtain ⟨a, cap, rfl⟩ := SliceAt.shape hk
    have hne : (((ks.length : Nat) : Int) != ((ws.length : Nat) : Int)) = true := by rw [bne_iff_ne]; omega
    have hd : ¬ ks.map E.wd = ws := by intro e; subst e; simp at hl
    have HD := Lib.hid hd
    clear hk hl hd
    go_enter Tryz.func97, Tryz.ntmps97
    go_wp2_with fail
    go_ret
    exact ⟨ret_bool (by rw [decide_eq_false HD.out]), rfl⟩
theorem ints1' {w : World} {x : Int} {t : TypeId} : Ints (w.alloc (.cells #[.int .i64 x] t)) (.slice (some ⟨w.heap.size, 0, none⟩) 1 1) [x] := by
  refine .inr ⟨_, _, _, rfl, by simp, fun i h => ?_⟩
  obtain rfl : i = 0 := by simp at h; omega
  simp [IntAt]
theorem ints2' {w : World} {x y : Int} {t : TypeId} : Ints (w.alloc (.cells #[.int .i64 x, .int .i64 y] t)) (.slice (some ⟨w.heap.size, 0, none⟩) 2 2) [x, y] := by
  refine .inr ⟨_, _, _, rfl, by simp, fun i h => ?_⟩
  have : i = 0 ∨ i = 1 := by simp at h; omega
  rcases this with rfl | rfl <;> simp [IntAt]
theorem ints3' {w : World} {x y z : Int} {t : TypeId} : Ints (w.alloc (.cells #[.int .i64 x, .int .i64 y, .int .i64 z] t)) (.slice (some ⟨w.heap.size, 0, none⟩) 3 3) [x, y, z] := by
  refine .inr ⟨_, _, _, rfl, by simp, fun i h => ?_⟩
  have : i = 0 ∨ i = 1 ∨ i = 2 := by simp at h; omega
  rcases this with rfl | rfl | rfl <;> simp [IntAt]
theorem ints1 {w : World} {x : Int} {t : TypeId} : Ints (w.drew.alloc (.cells #[.int .i64 x] t)) (.slice (some ⟨w.heap.size, 0, none⟩) 1 1) [x] := ints1' (w := w.drew)
theorem ints2 {w : World} {x y : Int} {t : TypeId} : Ints (w.drew.alloc (.cells #[.int .i64 x, .int .i64 y] t)) (.slice (some ⟨w.heap.size, 0, none⟩) 2 2) [x, y] := ints2' (w := w.drew)
theorem ints3 {w : World} {x y z : Int} {t : TypeId} : Ints (w.drew.alloc (.cells #[.int .i64 x, .int .i64 y, .int .i64 z] t)) (.slice (some ⟨w.heap.size, 0, none⟩) 3 3) [x, y, z] := ints3' (w := w.drew)

/-- Outside the widths. -/
theorem shapedW_out {op wd n : Int} {ws : List Int} (h : wd < 1 ∨ 8 < wd) : shapedW op wd n ws = false := by
  simp only [shapedW]; rcases h with h | h <;> simp <;> omega

set_option maxRecDepth 100000 in
set_option maxHeartbeats 1000000 in
theorem shaped_const (wd n : Int) (w : World) (b o : Nat) (a : Option Addr) (cap : Nat) (ks : List E) (hM : Masks w) (hw1' : 1 ≤ wd) (hw8' : wd ≤ 8) (h1 : w.cell? ⟨b, o + 1, none⟩ = some (.int .i64 wd)) (h2 : w.cell? ⟨b, o + 2, none⟩ = some (.int .i64 n)) (h3 : w.cell? ⟨b, o + 3, none⟩ = some (.slice a ks.length cap)) (hk : Kids w (.slice a ks.length cap) ks) (h0 : w.cell? ⟨b, o, none⟩ = some (.int .i64 1)) :
    Calls Tryz.prog 72 #[.pointer (some ⟨b, o, none⟩)] w fun r w' => r = .returned (.bool (shapedW 1 wd n (ks.map E.wd))) ∧ Ext w w' := by
  have hw0 : 0 ≤ wd := by omega
  have hw9 : wd < 9 := by omega
  have HK := Lib.hid hk; clear hk
  have hm := hM wd (by omega) hw8'
  by_cases d0 : ks.length = 0
  · have hb : (((ks.length : Nat) : Int) == 0) = true := by simp [d0]
    by_cases d1 : 0 ≤ n
    · have hb1 : decide (0 ≤ n) = true := by simpa using d1
      have HF : Hid (shapedW 1 wd n (ks.map E.wd) = decide (n ≤ pw wd - 1)) := by simp [Hid, shapedW, List.length_eq_zero_iff.1 d0, d1, hw1', hw8']
      clear d0
      go_enter Tryz.func72, Tryz.ntmps72
      go_wp2_with fail
      go_quiet (fail)
      go_wp2_with fail
      go_ret
      exact ⟨by rw [HF.out]; rfl, (Ext.refl _).drewN _⟩
    · have hb1 : decide (0 ≤ n) = false := by simpa using d1
      have HF : Hid (shapedW 1 wd n (ks.map E.wd) = false) := by simp [Hid, shapedW, List.length_eq_zero_iff.1 d0, d1]
      clear d0
      go_enter Tryz.func72, Tryz.ntmps72
      go_wp2_with fail
      go_quiet (fail)
      go_wp2_with fail
      go_ret
      exact ⟨by rw [HF.out]; rfl, (Ext.refl _).drewN _⟩
  · have hb : (((ks.length : Nat) : Int) == 0) = false := by rw [beq_eq_false_iff_ne]; omega
    have HF : Hid (shapedW 1 wd n (ks.map E.wd) = false) := by
      have : ks ≠ [] := by intro e; simp [e] at d0
      simp [Hid, shapedW, this]
    clear d0
    go_enter Tryz.func72, Tryz.ntmps72
    go_wp2_with fail
    go_quiet (fail)
    go_wp2_with fail
    go_ret
    exact ⟨by rw [HF.out]; rfl, (Ext.refl _).drewN _⟩

set_option maxRecDepth 100000 in
set_option maxHeartbeats 1000000 in
theorem shaped_cell (op wd n : Int) (w : World) (b o : Nat) (a : Option Addr) (cap : Nat) (ks : List E) (hw1' : 1 ≤ wd) (hw8' : wd ≤ 8) (h1 : w.cell? ⟨b, o + 1, none⟩ = some (.int .i64 wd)) (h2 : w.cell? ⟨b, o + 2, none⟩ = some (.int .i64 n)) (h3 : w.cell? ⟨b, o + 3, none⟩ = some (.slice a ks.length cap)) (hk : Kids w (.slice a ks.length cap) ks) (h0 : w.cell? ⟨b, o, none⟩ = some (.int .i64 op)) (c23 : op = 2 ∨ op = 3) :
    Calls Tryz.prog 72 #[.pointer (some ⟨b, o, none⟩)] w fun r w' => r = .returned (.bool (shapedW op wd n (ks.map E.wd))) ∧ Ext w w' := by
  have HK := Lib.hid hk; clear hk
  have HF : Hid (shapedW op wd n (ks.map E.wd) = (decide (ks.length = 0) && decide (0 ≤ n) && decide (n < 32))) := by
    rcases c23 with rfl | rfl <;> simp [Hid, shapedW, hw1', hw8']
  by_cases d0 : ks.length = 0
  · have hb : (((ks.length : Nat) : Int) == 0) = true := by simp [d0]
    have HD := Lib.hid d0
    clear d0
    by_cases d1 : 0 ≤ n
    · have hb1 : decide (0 ≤ n) = true := by simpa using d1
      have H1 := Lib.hid d1
      rcases c23 with rfl | rfl
      all_goals
        go_enter Tryz.func72, Tryz.ntmps72
        go_wp2_with fail
        go_ret
        exact ⟨by rw [HF.out]; exact ret_bool (by simp [HD.out, H1.out]), Ext.refl _⟩
    · have hb1 : decide (0 ≤ n) = false := by simpa using d1
      have H1 := Lib.hid d1
      rcases c23 with rfl | rfl
      all_goals
        go_enter Tryz.func72, Tryz.ntmps72
        go_wp2_with fail
        go_ret
        exact ⟨by rw [HF.out]; exact ret_bool (by simp; intro _ h; have := H1.out; omega), Ext.refl _⟩
  · have hb : (((ks.length : Nat) : Int) == 0) = false := by rw [beq_eq_false_iff_ne]; omega
    have HD := Lib.hid d0
    clear d0
    rcases c23 with rfl | rfl
    all_goals
      go_enter Tryz.func72, Tryz.ntmps72
      go_wp2_with fail
      go_ret
      exact ⟨by rw [HF.out]; exact ret_bool (by simp [HD.out]), Ext.refl _⟩

end Go.Proofs.YtlcgbdjmlnjhcaaGreatDoor
namespace Go.Proofs.YtlcgbdjmlnjhcaaGreatDoor
open Go.RowKit

set_option maxRecDepth 100000 in
set_option maxHeartbeats 1000000 in
theorem shaped_not (op wd : Int) (w : World) (b o : Nat) (a : Option Addr) (cap : Nat) (ks : List E) (hw1' : 1 ≤ wd) (hw8' : wd ≤ 8) (h1 : w.cell? ⟨b, o + 1, none⟩ = some (.int .i64 wd)) (h2 : w.cell? ⟨b, o + 2, none⟩ = some (.int .i64 0)) (h3 : w.cell? ⟨b, o + 3, none⟩ = some (.slice a ks.length cap)) (hk : Kids w (.slice a ks.length cap) ks) (h0 : w.cell? ⟨b, o, none⟩ = some (.int .i64 op)) (hop : op = 4) :
    Calls Tryz.prog 72 #[.pointer (some ⟨b, o, none⟩)] w fun r w' => r = .returned (.bool (shapedW op wd 0 (ks.map E.wd))) ∧ Ext w w' := by
  have HK := Lib.hid hk; clear hk
  have hbs : b < w.heap.size := block_lt h0
  have HF : Hid (shapedW op wd 0 (ks.map E.wd) = decide (ks.map E.wd = [wd])) := by
    rcases hop with rfl <;> simp [Hid, shapedW, hw1', hw8']
  rcases hop with rfl
  all_goals
    go_enter Tryz.func72, Tryz.ntmps72
    go_wp2_with fail
    go_region_held3 (fun w' => w'.cell? ⟨b, o + 1, none⟩ = some (.int .i64 wd) ∧ w'.cell? ⟨b, o + 3, none⟩ = some (.slice a ks.length cap))
      (first | exact ⟨h1, h3⟩ | exact ⟨Ext.cell ((Ext.refl w).drew.alloc _) h1, Ext.cell ((Ext.refl w).drew.alloc _) h3⟩)
      ((go_at_call 97; refine (wide_any _ _ ks [wd] _ (HK.out.ext ((Ext.refl w).drew.alloc _)) ints1 (by simp) (by simp)).mono ?_; rintro e w' ⟨rfl, rfl⟩))
    go_wp2_with fail
    go_ret
    exact ⟨by rw [HF.out]; rfl, (Ext.refl w).drew.alloc _⟩

set_option maxRecDepth 100000 in
set_option maxHeartbeats 1000000 in
theorem shaped_two (op wd : Int) (w : World) (b o : Nat) (a : Option Addr) (cap : Nat) (ks : List E) (hw1' : 1 ≤ wd) (hw8' : wd ≤ 8) (h1 : w.cell? ⟨b, o + 1, none⟩ = some (.int .i64 wd)) (h2 : w.cell? ⟨b, o + 2, none⟩ = some (.int .i64 0)) (h3 : w.cell? ⟨b, o + 3, none⟩ = some (.slice a ks.length cap)) (hk : Kids w (.slice a ks.length cap) ks) (h0 : w.cell? ⟨b, o, none⟩ = some (.int .i64 op)) (hop : op = 5 ∨ op = 6 ∨ op = 7 ∨ op = 8 ∨ op = 9 ∨ op = 10) :
    Calls Tryz.prog 72 #[.pointer (some ⟨b, o, none⟩)] w fun r w' => r = .returned (.bool (shapedW op wd 0 (ks.map E.wd))) ∧ Ext w w' := by
  have HK := Lib.hid hk; clear hk
  have hbs : b < w.heap.size := block_lt h0
  have HF : Hid (shapedW op wd 0 (ks.map E.wd) = decide (ks.map E.wd = [wd, wd])) := by
    rcases hop with rfl | rfl | rfl | rfl | rfl | rfl <;> simp [Hid, shapedW, hw1', hw8']
  rcases hop with rfl | rfl | rfl | rfl | rfl | rfl
  all_goals
    go_enter Tryz.func72, Tryz.ntmps72
    go_wp2_with fail
    go_region_held3 (fun w' => w'.cell? ⟨b, o + 1, none⟩ = some (.int .i64 wd) ∧ w'.cell? ⟨b, o + 3, none⟩ = some (.slice a ks.length cap))
      (first | exact ⟨h1, h3⟩ | exact ⟨Ext.cell ((Ext.refl w).drew.alloc _) h1, Ext.cell ((Ext.refl w).drew.alloc _) h3⟩)
      ((go_at_call 97; refine (wide_any _ _ ks [wd, wd] _ (HK.out.ext ((Ext.refl w).drew.alloc _)) ints2 (by simp) (by simp)).mono ?_; rintro e w' ⟨rfl, rfl⟩))
    go_wp2_with fail
    go_ret
    exact ⟨by rw [HF.out]; rfl, (Ext.refl w).drew.alloc _⟩

set_option maxRecDepth 100000 in
set_option maxHeartbeats 1000000 in
theorem shaped_ite (op wd : Int) (w : World) (b o : Nat) (a : Option Addr) (cap : Nat) (ks : List E) (hw1' : 1 ≤ wd) (hw8' : wd ≤ 8) (h1 : w.cell? ⟨b, o + 1, none⟩ = some (.int .i64 wd)) (h2 : w.cell? ⟨b, o + 2, none⟩ = some (.int .i64 0)) (h3 : w.cell? ⟨b, o + 3, none⟩ = some (.slice a ks.length cap)) (hk : Kids w (.slice a ks.length cap) ks) (h0 : w.cell? ⟨b, o, none⟩ = some (.int .i64 op)) (hop : op = 14) :
    Calls Tryz.prog 72 #[.pointer (some ⟨b, o, none⟩)] w fun r w' => r = .returned (.bool (shapedW op wd 0 (ks.map E.wd))) ∧ Ext w w' := by
  have HK := Lib.hid hk; clear hk
  have hbs : b < w.heap.size := block_lt h0
  have HF : Hid (shapedW op wd 0 (ks.map E.wd) = decide (ks.map E.wd = [1, wd, wd])) := by
    rcases hop with rfl <;> simp [Hid, shapedW, hw1', hw8']
  rcases hop with rfl
  all_goals
    go_enter Tryz.func72, Tryz.ntmps72
    go_wp2_with fail
    go_region_held3 (fun w' => w'.cell? ⟨b, o + 1, none⟩ = some (.int .i64 wd) ∧ w'.cell? ⟨b, o + 3, none⟩ = some (.slice a ks.length cap))
      (first | exact ⟨h1, h3⟩ | exact ⟨Ext.cell ((Ext.refl w).drew.alloc _) h1, Ext.cell ((Ext.refl w).drew.alloc _) h3⟩)
      ((go_at_call 97; refine (wide_any _ _ ks [1, wd, wd] _ (HK.out.ext ((Ext.refl w).drew.alloc _)) ints3 (by simp) (by simp)).mono ?_; rintro e w' ⟨rfl, rfl⟩))
    go_wp2_with fail
    go_ret
    exact ⟨by rw [HF.out]; rfl, (Ext.refl w).drew.alloc _⟩

end Go.Proofs.YtlcgbdjmlnjhcaaGreatDoor
namespace Go.Proofs.YtlcgbdjmlnjhcaaGreatDoor
open Go.RowKit

set_option maxRecDepth 100000 in
set_option maxHeartbeats 1000000 in
theorem shaped_cmp (op wd : Int) (w : World) (b o : Nat) (a : Option Addr) (cap : Nat) (ks : List E) (hw1' : 1 ≤ wd) (hw8' : wd ≤ 8) (h1 : w.cell? ⟨b, o + 1, none⟩ = some (.int .i64 wd)) (h2 : w.cell? ⟨b, o + 2, none⟩ = some (.int .i64 0)) (h3 : w.cell? ⟨b, o + 3, none⟩ = some (.slice a ks.length cap)) (hk : Kids w (.slice a ks.length cap) ks) (h0 : w.cell? ⟨b, o, none⟩ = some (.int .i64 op)) (hop : op = 11 ∨ op = 12 ∨ op = 13) :
    Calls Tryz.prog 72 #[.pointer (some ⟨b, o, none⟩)] w fun r w' => r = .returned (.bool (shapedW op wd 0 (ks.map E.wd))) ∧ Ext w w' := by
  have HF : Hid (shapedW op wd 0 (ks.map E.wd) = (decide (wd = 1) && decide (ks.length = 2) && decide ((ks.map E.wd)[0]? = (ks.map E.wd)[1]?))) := by
    rcases hop with rfl | rfl | rfl <;> simp [Hid, shapedW, hw1', hw8']
  by_cases d1 : wd = 1
  · subst d1
    by_cases d2 : ks.length = 2
    · obtain ⟨k0, k1, rfl⟩ : ∃ k0 k1, ks = [k0, k1] := by
        match ks, d2 with
        | [k0, k1], _ => exact ⟨k0, k1, rfl⟩
      rcases hk with ⟨_, e⟩ | ⟨b', o', cap', e, _, hk⟩
      · cases e
      cases e
      have g0 : w.cell? ⟨b', o' + 1, none⟩ = some (.int .i64 k0.wd) := by have := (hk 0 (by simp)).cells.2.1; simpa using this
      have g1 : w.cell? ⟨b', o' + 4 + 1, none⟩ = some (.int .i64 k1.wd) := by have := (hk 1 (by simp)).cells.2.1; simpa using this
      simp only [List.length_cons, List.length_nil, Nat.zero_add, Nat.reduceAdd] at h3
      clear hk d2
      rcases hop with rfl | rfl | rfl
      all_goals
        go_enter Tryz.func72, Tryz.ntmps72
        go_wp2_with fail
        go_quiet (fail)
        go_wp2_with fail
        go_ret
        exact ⟨by rw [HF.out]; exact ret_bool (by rw [Bool.eq_iff_iff]; simp), (Ext.refl _).drewN _⟩
    · have hb2 : (((ks.length : Nat) : Int) == 2) = false := by rw [beq_eq_false_iff_ne]; omega
      have H2 := Lib.hid d2; clear d2 hk
      rcases hop with rfl | rfl | rfl
      all_goals
        go_enter Tryz.func72, Tryz.ntmps72
        go_wp2_with fail
        go_quiet (fail)
        go_wp2_with fail
        go_ret
        exact ⟨by rw [HF.out]; exact ret_bool (by simp [H2.out]), (Ext.refl _).drewN _⟩
  · have hb1 : ((wd : Int) == 1) = false := by rw [beq_eq_false_iff_ne]; exact d1
    have H1 := Lib.hid d1; clear d1 hk
    rcases hop with rfl | rfl | rfl
    all_goals
      go_enter Tryz.func72, Tryz.ntmps72
      go_wp2_with fail
      go_quiet (fail)
      go_wp2_with fail
      go_ret
      exact ⟨by rw [HF.out]; exact ret_bool (by simp [H1.out]), (Ext.refl _).drewN _⟩

set_option maxRecDepth 100000 in
set_option maxHeartbeats 1000000 in
theorem shaped_bad (op wd n : Int) (w : World) (b o : Nat) (h1 : w.cell? ⟨b, o + 1, none⟩ = some (.int .i64 wd)) (h2 : w.cell? ⟨b, o + 2, none⟩ = some (.int .i64 n)) (h0 : w.cell? ⟨b, o, none⟩ = some (.int .i64 op))
    (hbad : wd < 1 ∨ 8 < wd ∨ (op ≠ 1 ∧ op ≠ 2 ∧ op ≠ 3 ∧ (n ≠ 0 ∨ op < 4 ∨ 14 < op))) :
    Calls Tryz.prog 72 #[.pointer (some ⟨b, o, none⟩)] w fun r w' => r = .returned (.bool false) ∧ Ext w w' := by
  by_cases hw1 : wd < 1
  · clear hbad
    go_enter Tryz.func72, Tryz.ntmps72
    go_wp2_with fail
    go_ret
    exact ⟨rfl, Ext.refl _⟩
  by_cases hw8 : 8 < wd
  · clear hbad
    go_enter Tryz.func72, Tryz.ntmps72
    go_wp2_with fail
    go_ret
    exact ⟨rfl, Ext.refl _⟩
  obtain ⟨c1, c2, c3, hb⟩ : op ≠ 1 ∧ op ≠ 2 ∧ op ≠ 3 ∧ (n ≠ 0 ∨ op < 4 ∨ 14 < op) := by
    rcases hbad with h | h | h
    · exact absurd h hw1
    · exact absurd h hw8
    · exact h
  clear hbad
  have e1 : ((op : Int) == 1) = false := beq_eq_false_iff_ne.2 c1
  have e2 : ((op : Int) == 2) = false := beq_eq_false_iff_ne.2 c2
  have e3 : ((op : Int) == 3) = false := beq_eq_false_iff_ne.2 c3
  have hw1' : 1 ≤ wd := by omega
  have hw8' : wd ≤ 8 := by omega
  clear c1 c2 c3 hw1 hw8
  by_cases c0 : n = 0
  · subst c0
    have hb' : op < 4 ∨ 14 < op := by omega
    have e4 : ((op : Int) == 4) = false := by rw [beq_eq_false_iff_ne]; omega
    have e5 : ((op : Int) == 5) = false := by rw [beq_eq_false_iff_ne]; omega
    have e6 : ((op : Int) == 6) = false := by rw [beq_eq_false_iff_ne]; omega
    have e7 : ((op : Int) == 7) = false := by rw [beq_eq_false_iff_ne]; omega
    have e8 : ((op : Int) == 8) = false := by rw [beq_eq_false_iff_ne]; omega
    have e9 : ((op : Int) == 9) = false := by rw [beq_eq_false_iff_ne]; omega
    have e10 : ((op : Int) == 10) = false := by rw [beq_eq_false_iff_ne]; omega
    have e11 : ((op : Int) == 11) = false := by rw [beq_eq_false_iff_ne]; omega
    have e12 : ((op : Int) == 12) = false := by rw [beq_eq_false_iff_ne]; omega
    have e13 : ((op : Int) == 13) = false := by rw [beq_eq_false_iff_ne]; omega
    have e14 : ((op : Int) == 14) = false := by rw [beq_eq_false_iff_ne]; omega
    clear hb hb'
    go_enter Tryz.func72, Tryz.ntmps72
    go_wp2_with fail
    go_ret
    exact ⟨rfl, Ext.refl _⟩
  · have hn : ((n : Int) != 0) = true := by rw [bne_iff_ne]; exact c0
    clear hb c0
    go_enter Tryz.func72, Tryz.ntmps72
    go_wp2_with fail
    go_ret
    exact ⟨rfl, Ext.refl _⟩

/-- shaped, for every node. -/
theorem shaped_any (e : E) (w : World) (b o : Nat) (hE : IsE w b o e) (hM : Masks w) :
    Calls Tryz.prog 72 #[.pointer (some ⟨b, o, none⟩)] w fun r w' => r = .returned (.bool (shapedW e.op e.wd e.n (e.kids.map E.wd))) ∧ Ext w w' := by
  obtain ⟨h0, h1, h2, kv, h3, hk⟩ := hE.cells
  obtain ⟨op, wd, n, ks⟩ := e
  simp only [E.op_mk, E.wd_mk, E.n_mk, E.kids_mk] at h0 h1 h2 hk ⊢
  by_cases hbad : wd < 1 ∨ 8 < wd ∨ (op ≠ 1 ∧ op ≠ 2 ∧ op ≠ 3 ∧ (n ≠ 0 ∨ op < 4 ∨ 14 < op))
  · have hf : shapedW op wd n (ks.map E.wd) = false := by
      cases hs : shapedW op wd n (ks.map E.wd) with
      | false => rfl
      | true =>
        have hw := shapedW_wd hs
        rcases hbad with h | h | ⟨c1, c2, c3, h⟩
        · omega
        · omega
        · have := shapedW_inner hs c1 c2 c3; omega
    rw [hf]
    exact shaped_bad op wd n w b o h1 h2 h0 hbad
  obtain ⟨a, cap, rfl⟩ := SliceAt.shape hk
  by_cases c1 : op = 1
  · subst c1; exact shaped_const wd n w b o a cap ks hM (by omega) (by omega) h1 h2 h3 hk h0
  by_cases c2 : op = 2 ∨ op = 3
  · exact shaped_cell op wd n w b o a cap ks (by omega) (by omega) h1 h2 h3 hk h0 c2
  obtain rfl : n = 0 := by omega
  by_cases c4 : op = 4
  · exact shaped_not op wd w b o a cap ks (by omega) (by omega) h1 h2 h3 hk h0 c4
  by_cases c5 : op ≤ 10
  · exact shaped_two op wd w b o a cap ks (by omega) (by omega) h1 h2 h3 hk h0 (by omega)
  by_cases c6 : op ≤ 13
  · exact shaped_cmp op wd w b o a cap ks (by omega) (by omega) h1 h2 h3 hk h0 (by omega)
  · exact shaped_ite op wd w b o a cap ks (by omega) (by omega) h1 h2 h3 hk h0 (by omega)
end Go.Proofs.YtlcgbdjmlnjhcaaGreatDoor
