/-
  The walk of shaped: the operators with kids.
-/
import Derived.Test.YtlcgbdjmlnjhcaaGreatDoorG05
namespace Go.Proofs.YtlcgbdjmlnjhcaaGreatDoor
open Go.RowKit

set_option maxRecDepth 100000 in
set_option maxHeartbeats 1000000 in
theorem shaped_not (op wd : Int) (w : World) (b o : Nat) (a : Option Addr) (cap : Nat) (ks : List E) (hw1' : 1 ≤ wd) (hw8' : wd ≤ 8) (h1 : w.cell? ⟨b, o + 1, none⟩ = some (.int .i64 wd)) (h2 : w.cell? ⟨b, o + 2, none⟩ = some (.int .i64 0)) (h3 : w.cell? ⟨b, o + 3, none⟩ = some (.slice a ks.length cap)) (hk : Kids w (.slice a ks.length cap) ks) (h0 : w.cell? ⟨b, o, none⟩ = some (.int .i64 op)) (hop : op = 4) :
    Calls Tryz.prog 72 #[.pointer (some ⟨b, o, none⟩)] w fun r w' => r = .returned (.bool (shapedW op wd 0 (ks.map E.wd))) ∧ Ext w w' := by
  have HK := Lib.hid hk; clear hk
  have hbs : b < w.heap.size := block_lt h0
  have HF : Hid (shapedW op wd 0 (ks.map E.wd) = decide (ks.map E.wd = [wd])) := by
    rcases hop with rfl <;> simp [Hid, shapedW, hw1', hw8']
  rcases hop with rfl
  all_goals
    go_enter Tryz.func72, Tryz.ntmps72
    go_wp2_with fail
    go_region_held3 (fun w' => w'.cell? ⟨b, o + 1, none⟩ = some (.int .i64 wd) ∧ w'.cell? ⟨b, o + 3, none⟩ = some (.slice a ks.length cap))
      (first | exact ⟨h1, h3⟩ | exact ⟨Ext.cell ((Ext.refl w).drew.alloc _) h1, Ext.cell ((Ext.refl w).drew.alloc _) h3⟩)
      ((go_at_call 97; refine (wide_any _ _ ks [wd] _ (HK.out.ext ((Ext.refl w).drew.alloc _)) ints1 (by simp) (by simp)).mono ?_; rintro e w' ⟨rfl, rfl⟩))
    go_wp2_with fail
    go_ret
    exact ⟨by rw [HF.out]; rfl, (Ext.refl w).drew.alloc _⟩

set_option maxRecDepth 100000 in
set_option maxHeartbeats 1000000 in
theorem shaped_two (op wd : Int) (w : World) (b o : Nat) (a : Option Addr) (cap : Nat) (ks : List E) (hw1' : 1 ≤ wd) (hw8' : wd ≤ 8) (h1 : w.cell? ⟨b, o + 1, none⟩ = some (.int .i64 wd)) (h2 : w.cell? ⟨b, o + 2, none⟩ = some (.int .i64 0)) (h3 : w.cell? ⟨b, o + 3, none⟩ = some (.slice a ks.length cap)) (hk : Kids w (.slice a ks.length cap) ks) (h0 : w.cell? ⟨b, o, none⟩ = some (.int .i64 op)) (hop : op = 5 ∨ op = 6 ∨ op = 7 ∨ op = 8 ∨ op = 9 ∨ op = 10) :
    Calls Tryz.prog 72 #[.pointer (some ⟨b, o, none⟩)] w fun r w' => r = .returned (.bool (shapedW op wd 0 (ks.map E.wd))) ∧ Ext w w' := by
  have HK := Lib.hid hk; clear hk
  have hbs : b < w.heap.size := block_lt h0
  have HF : Hid (shapedW op wd 0 (ks.map E.wd) = decide (ks.map E.wd = [wd, wd])) := by
    rcases hop with rfl | rfl | rfl | rfl | rfl | rfl <;> simp [Hid, shapedW, hw1', hw8']
  rcases hop with rfl | rfl | rfl | rfl | rfl | rfl
  all_goals
    go_enter Tryz.func72, Tryz.ntmps72
    go_wp2_with fail
    go_region_held3 (fun w' => w'.cell? ⟨b, o + 1, none⟩ = some (.int .i64 wd) ∧ w'.cell? ⟨b, o + 3, none⟩ = some (.slice a ks.length cap))
      (first | exact ⟨h1, h3⟩ | exact ⟨Ext.cell ((Ext.refl w).drew.alloc _) h1, Ext.cell ((Ext.refl w).drew.alloc _) h3⟩)
      ((go_at_call 97; refine (wide_any _ _ ks [wd, wd] _ (HK.out.ext ((Ext.refl w).drew.alloc _)) ints2 (by simp) (by simp)).mono ?_; rintro e w' ⟨rfl, rfl⟩))
    go_wp2_with fail
    go_ret
    exact ⟨by rw [HF.out]; rfl, (Ext.refl w).drew.alloc _⟩

set_option maxRecDepth 100000 in
set_option maxHeartbeats 1000000 in
theorem shaped_ite (op wd : Int) (w : World) (b o : Nat) (a : Option Addr) (cap : Nat) (ks : List E) (hw1' : 1 ≤ wd) (hw8' : wd ≤ 8) (h1 : w.cell? ⟨b, o + 1, none⟩ = some (.int .i64 wd)) (h2 : w.cell? ⟨b, o + 2, none⟩ = some (.int .i64 0)) (h3 : w.cell? ⟨b, o + 3, none⟩ = some (.slice a ks.length cap)) (hk : Kids w (.slice a ks.length cap) ks) (h0 : w.cell? ⟨b, o, none⟩ = some (.int .i64 op)) (hop : op = 14) :
    Calls Tryz.prog 72 #[.pointer (some ⟨b, o, none⟩)] w fun r w' => r = .returned (.bool (shapedW op wd 0 (ks.map E.wd))) ∧ Ext w w' := by
  have HK := Lib.hid hk; clear hk
  have hbs : b < w.heap.size := block_lt h0
  have HF : Hid (shapedW op wd 0 (ks.map E.wd) = decide (ks.map E.wd = [1, wd, wd])) := by
    rcases hop with rfl <;> simp [Hid, shapedW, hw1', hw8']
  rcases hop with rfl
  all_goals
    go_enter Tryz.func72, Tryz.ntmps72
    go_wp2_with fail
    go_region_held3 (fun w' => w'.cell? ⟨b, o + 1, none⟩ = some (.int .i64 wd) ∧ w'.cell? ⟨b, o + 3, none⟩ = some (.slice a ks.length cap))
      (first | exact ⟨h1, h3⟩ | exact ⟨Ext.cell ((Ext.refl w).drew.alloc _) h1, Ext.cell ((Ext.refl w).drew.alloc _) h3⟩)
      ((go_at_call 97; refine (wide_any _ _ ks [1, wd, wd] _ (HK.out.ext ((Ext.refl w).drew.alloc _)) ints3 (by simp) (by simp)).mono ?_; rintro e w' ⟨rfl, rfl⟩))
    go_wp2_with fail
    go_ret
    exact ⟨by rw [HF.out]; rfl, (Ext.refl w).drew.alloc _⟩

end Go.Proofs.YtlcgbdjmlnjhcaaGreatDoor
