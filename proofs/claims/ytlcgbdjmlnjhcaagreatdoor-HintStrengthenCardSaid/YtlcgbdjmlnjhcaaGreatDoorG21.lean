/-
  The reference's marks.
  The reference's Support, before, Before.
  A condition in memory.
-/
import Derived.Test.YtlcgbdjmlnjhcaaGreatDoorG20
import Derived.Test.YtlcgbdjmlnjhcaaGreatDoorG12
import Derived.Test.YtlcgbdjmlnjhcaaGreatDoorG17
namespace Go.Proofs.YtlcgbdjmlnjhcaaGreatDoor
open Go.RowKit
attribute [local go_sem] Oper.semAt_some

abbrev RowB (w : World) (A : Nat) (f : Nat → Bool) : Prop := w.rowIs A 4 32 fun j => .bool (f j)
theorem StepX.app {X : Nat → Prop} {A B C : World} (h : StepX X A B) (hx : Ext B C) : StepX X A C :=
  ⟨hx.os.trans h.os, hx.tape.trans h.tape, hx.output.trans h.output, Nat.le_trans h.size hx.size, fun k hk hn => (hx.block k (Nat.lt_of_lt_of_le hk h.size)).trans (h.block k hk hn)⟩
theorem StepX.ext {u A B : World} {X : Nat → Prop} (h : Ext u A) (hx : StepX X A B) (hX : ∀ k, X k → u.heap.size ≤ k) : Ext u B :=
  ⟨hx.os.trans h.os, hx.tape.trans h.tape, hx.output.trans h.output, Nat.le_trans h.size hx.size, fun k hk => (hx.block k (Nat.lt_of_lt_of_le hk h.size) (fun e => absurd (hX k e) (by omega))).trans (h.block k hk)⟩
theorem RowB.lt {w : World} {A : Nat} {f : Nat → Bool} (h : RowB w A f) : A < w.heap.size := by
  obtain ⟨c, hc, _⟩ := h
  exact lt_heap hc
theorem RowB.ext {w w' : World} {A : Nat} {f : Nat → Bool} (h : RowB w A f) (hx : Ext w w') : RowB w' A f := h.of_block (hx.block _ h.lt)
theorem RowB.other {w : World} {A B n : Nat} {f : Nat → Bool} {v : Value} (h : RowB w A f) (hAB : A ≠ B) : RowB (w.setCell ⟨B, n, none⟩ v) A f := h.of_block (heap_setCell_other _ _ _ _ hAB)
theorem RowB.congr' {w : World} {A : Nat} {f f' : Nat → Bool} (h : RowB w A f) (e : ∀ j, f' j = f j) : RowB w A f' := World.rowIs.congr h fun j _ => by rw [e]
theorem occurs_app (op : Int) (l l' : List E) (j : Nat) : occurs op (l ++ l') j = (occurs op l j || occurs op l' j) := by simp [occurs]
theorem cell_same {w w' : World} {k o : Nat} (h : w'.heap[k]? = w.heap[k]?) : w'.cell? ⟨k, o, none⟩ = w.cell? ⟨k, o, none⟩ := by simp [World.cell?, h]
def pairX (A B : Nat) (k : Nat) : Prop := k = A ∨ k = B

set_option maxHeartbeats 4000000 in
theorem Rmarks_leaf (A B : Nat) (hAB : A ≠ B) (op wd : Int) (m : Nat) (hm : op ≠ 1 → m < 32) (ho : op = 1 ∨ op = 2 ∨ op = 3) (a : Option Addr) (cap : Nat) (w : World) (f g : Nat → Bool) (h1 : RowB w A f) (h2 : RowB w B g) :
    Calls Tryz.prog 50 #[.agg #[.int .i64 op, .int .i64 wd, .int .i64 m, .slice a 0 cap], .slice (some ⟨A, 0, none⟩) 32 32, .slice (some ⟨B, 0, none⟩) 32 32] w fun r w' => r = .returned (.tuple #[]) ∧ StepX (pairX A B) w w' ∧ RowB w' A (fun j => f j || occurs 3 [.mk op wd m []] j) ∧ RowB w' B (fun j => g j || occurs 2 [.mk op wd m []] j) := by
  have hlA := h1.lt; have hlB := h2.lt
  have H1 := Lib.hid h1; have H2 := Lib.hid h2; have HX0 : Hid (∀ x, Ext w (w.alloc x)) := fun x => (Ext.refl w).alloc x
  clear h1 h2
  rcases ho with rfl | rfl | rfl
  · obtain ⟨W, hW⟩ : ∃ W, W = w.alloc (.cells #[.int .i64 1, .int .i64 wd, .int .i64 m, .slice a 0 cap] 25) := ⟨_, rfl⟩
    have HF : Hid (StepX (pairX A B) w W ∧ RowB W A (fun j => f j || occurs 3 [.mk 1 wd m []] j) ∧ RowB W B (fun j => g j || occurs 2 [.mk 1 wd m []] j)) := by
      have hx : Ext w W := by rw [hW]; exact HX0.out _
      exact ⟨(StepX.refl _ _).app hx, (H1.out.ext hx).congr' fun j => by simp [occurs], (H2.out.ext hx).congr' fun j => by simp [occurs]⟩
    have y3 : W.cell? ⟨w.heap.size, 3, none⟩ = some (.slice a 0 cap) := by
      rw [hW]
      simp
    have HY := Lib.hid y3; have HW := Lib.hid hW
    clear hW y3
    go_enter Tryz.func50, Tryz.ntmps50
    go_wp2_with fail
    rw [← HW.out]
    go_loopw [6] (fun i wr => i = .int .i64 (0 : Nat) ∧ wr = W) (fun i _ => 0)
    case atStart => exact ⟨rfl, rfl⟩
    case round =>
      obtain ⟨rfl, rfl⟩ := hrel
      have y3 := HY.out
      go_wp2_with fail
      go_end0
      exact ⟨rfl, HF.out⟩
  · have hm := hm (by decide)
    have hm0 : (0 : Int) ≤ (m : Int) := by omega
    have hm1 : (m : Int) < 32 := by omega
    have q5 := (H2.out.ext (HX0.out (.cells #[.int .i64 2, .int .i64 wd, .int .i64 m, .slice a 0 cap] 25))).cell hm
    have q6 := (H2.out.ext (HX0.out (.cells #[.int .i64 2, .int .i64 wd, .int .i64 m, .slice a 0 cap] 25))).frozen m
    obtain ⟨W, hW⟩ : ∃ W, W = (w.setCell ⟨B, m, none⟩ (.bool true)).alloc (.cells #[.int .i64 2, .int .i64 wd, .int .i64 m, .slice a 0 cap] 25) := ⟨_, rfl⟩
    have HF : Hid (StepX (pairX A B) w W ∧ RowB W A (fun j => f j || occurs 3 [.mk 2 wd m []] j) ∧ RowB W B (fun j => g j || occurs 2 [.mk 2 wd m []] j)) := by
      have hx : ∀ x, Ext (w.setCell ⟨B, m, none⟩ (.bool true)) ((w.setCell ⟨B, m, none⟩ (.bool true)).alloc x) := fun x => (Ext.refl _).alloc x
      rw [hW]
      exact ⟨((StepX.refl _ _).setCell (p := ⟨B, m, none⟩) (.inr rfl) _).app (hx _), ((H1.out.other hAB).ext (hx _)).congr' fun j => by simp [occurs], (row_mark (f' := fun j => g j || occurs 2 [.mk 2 wd m []] j) H2.out fun j => by simp only [occurs, List.any_cons, List.any_nil, Bool.or_false]; exact (occ_eq _ 2 m j).symm) |> fun h => RowB.ext h (hx _)⟩
    generalize g m = ob at q5
    have y3 : W.cell? ⟨w.heap.size, 3, none⟩ = some (.slice a 0 cap) := by
      rw [hW]
      have hb := heap_new (w.setCell ⟨B, m, none⟩ (.bool true)) (.cells #[.int .i64 2, .int .i64 wd, .int .i64 m, .slice a 0 cap] 25)
      rw [show (w.setCell ⟨B, m, none⟩ (.bool true)).heap.size = w.heap.size by simp [World.setCell]] at hb
      rw [Lib.cell_of_heap hb]; rfl
    have HY := Lib.hid y3; have HW := Lib.hid hW
    clear hW y3
    go_enter Tryz.func50, Tryz.ntmps50
    go_wp2_with fail
    rw [← HW.out]
    go_loopw [6] (fun i wr => i = .int .i64 (0 : Nat) ∧ wr = W) (fun i _ => 0)
    case atStart => exact ⟨rfl, rfl⟩
    case round =>
      obtain ⟨rfl, rfl⟩ := hrel
      have y3 := HY.out
      go_wp2_with fail
      go_end0
      exact ⟨rfl, HF.out⟩
  · have hm := hm (by decide)
    have hm0 : (0 : Int) ≤ (m : Int) := by omega
    have hm1 : (m : Int) < 32 := by omega
    have q5 := (H1.out.ext (HX0.out (.cells #[.int .i64 3, .int .i64 wd, .int .i64 m, .slice a 0 cap] 25))).cell hm
    have q6 := (H1.out.ext (HX0.out (.cells #[.int .i64 3, .int .i64 wd, .int .i64 m, .slice a 0 cap] 25))).frozen m
    obtain ⟨W, hW⟩ : ∃ W, W = (w.setCell ⟨A, m, none⟩ (.bool true)).alloc (.cells #[.int .i64 3, .int .i64 wd, .int .i64 m, .slice a 0 cap] 25) := ⟨_, rfl⟩
    have HF : Hid (StepX (pairX A B) w W ∧ RowB W A (fun j => f j || occurs 3 [.mk 3 wd m []] j) ∧ RowB W B (fun j => g j || occurs 2 [.mk 3 wd m []] j)) := by
      have hx : ∀ x, Ext (w.setCell ⟨A, m, none⟩ (.bool true)) ((w.setCell ⟨A, m, none⟩ (.bool true)).alloc x) := fun x => (Ext.refl _).alloc x
      rw [hW]
      exact ⟨((StepX.refl _ _).setCell (p := ⟨A, m, none⟩) (.inl rfl) _).app (hx _), (row_mark (f' := fun j => f j || occurs 3 [.mk 3 wd m []] j) H1.out fun j => by simp only [occurs, List.any_cons, List.any_nil, Bool.or_false]; exact (occ_eq _ 3 m j).symm) |> fun h => RowB.ext h (hx _), ((H2.out.other (Ne.symm hAB)).ext (hx _)).congr' fun j => by simp [occurs]⟩
    generalize f m = ob at q5
    have y3 : W.cell? ⟨w.heap.size, 3, none⟩ = some (.slice a 0 cap) := by
      rw [hW]
      have hb := heap_new (w.setCell ⟨A, m, none⟩ (.bool true)) (.cells #[.int .i64 3, .int .i64 wd, .int .i64 m, .slice a 0 cap] 25)
      rw [show (w.setCell ⟨A, m, none⟩ (.bool true)).heap.size = w.heap.size by simp [World.setCell]] at hb
      rw [Lib.cell_of_heap hb]; rfl
    have HY := Lib.hid y3; have HW := Lib.hid hW
    clear hW y3
    go_enter Tryz.func50, Tryz.ntmps50
    go_wp2_with fail
    rw [← HW.out]
    go_loopw [6] (fun i wr => i = .int .i64 (0 : Nat) ∧ wr = W) (fun i _ => 0)
    case atStart => exact ⟨rfl, rfl⟩
    case round =>
      obtain ⟨rfl, rfl⟩ := hrel
      have y3 := HY.out
      go_wp2_with fail
      go_end0
      exact ⟨rfl, HF.out⟩

set_option maxHeartbeats 4000000 in
theorem Rmarks_any (A B : Nat) (hAB : A ≠ B) (u : World) (hA : u.heap.size ≤ A) (hB : u.heap.size ≤ B) (N : Nat) : ∀ (e : E) (d : Nat) (v : Value) (w : World) (f g : Nat → Bool), e.size ≤ N → e.deep d = true → EVal u v e → Ext u w → RowB w A f → RowB w B g →
    Calls Tryz.prog 50 #[v, .slice (some ⟨A, 0, none⟩) 32 32, .slice (some ⟨B, 0, none⟩) 32 32] w fun r w' => r = .returned (.tuple #[]) ∧ StepX (pairX A B) w w' ∧ RowB w' A (fun j => f j || occurs 3 e.leaves j) ∧ RowB w' B (fun j => g j || occurs 2 e.leaves j) := by
  induction N with
  | zero => intro e d v w f g h; have := e.size_pos; omega
  | succ N ih =>
    intro e d v w f g hN hd he hx h1 h2
    obtain ⟨kv, rfl, hk⟩ := he
    obtain ⟨op, wd, n, ks⟩ := e
    simp only [E.op_mk, E.wd_mk, E.n_mk, E.kids_mk] at hk ⊢
    obtain ⟨a, cap, rfl⟩ := SliceAt.shape hk
    by_cases hks : ks = []
    · subst hks
      obtain ⟨ho, hn0, hn⟩ := shapedW_leaf (by simpa using deep_shape hd)
      obtain ⟨m, rfl⟩ := Int.eq_ofNat_of_zero_le hn0
      rw [leaves_nil]
      exact Rmarks_leaf A B hAB op wd m (fun h => by have := hn h; omega) ho a cap w f g h1 h2
    · obtain ⟨n2, n3⟩ := deep_inner hd hks
      rw [leaves_cons hks]
      have hlen : ks.length ≤ 9223372036854775807 := SliceAt.len_le hk
      have hb2 : (op == 2) = false := by simpa using n2
      have hb3 : (op == 3) = false := by simpa using n3
      have hwA := h1.lt; have hwB := h2.lt
      have IH := Lib.hid ih; have HK := Lib.hid hk; have HD := Lib.hid hd; have HX := Lib.hid hx; have H1 := Lib.hid h1; have H2 := Lib.hid h2
      have HX0 : Hid (∀ x, Ext w (w.alloc x)) := fun x => (Ext.refl w).alloc x
      have HUA := Lib.hid hA; have HUB := Lib.hid hB
      clear ih hk hd hks n2 n3 hx h1 h2 hA hB
      go_enter Tryz.func50, Tryz.ntmps50
      go_wp2_with fail
      go_loopw [6] (fun i wr => ∃ (k : Nat), k ≤ ks.length ∧ i = .int .i64 k ∧ StepX (pairX A B) w wr ∧ w.heap.size < wr.heap.size ∧ wr.cell? ⟨w.heap.size, 3, none⟩ = some (.slice a ks.length cap) ∧ RowB wr A (fun j => f j || occurs 3 (leavesAll (ks.take k)) j) ∧ RowB wr B (fun j => g j || occurs 2 (leavesAll (ks.take k)) j)) (fun i _ => ks.length - (intOf i).toNat)
      case atStart => exact ⟨0, Nat.zero_le _, rfl, (StepX.refl _ _).app (HX0.out _), by simp, by simp, (H1.out.ext (HX0.out _)).congr' fun j => by simp [occurs, leavesAll], (H2.out.ext (HX0.out _)).congr' fun j => by simp [occurs, leavesAll]⟩
      case round =>
        obtain ⟨k, hk, rfl, hS, hz, c3, hr1, hr2⟩ := hrel
        have HS := Lib.hid hS; have HR1 := Lib.hid hr1; have HR2 := Lib.hid hr2; have HC3 := Lib.hid c3; clear hS hr1 hr2
        by_cases hlt : k < ks.length
        · have HUW : Hid (Ext u wr) := HS.out.ext HX.out fun k hk => by
            have h1 := HUA.out; have h2 := HUB.out
            rcases hk with rfl | rfl <;> omega
          have HLV : Hid (leavesAll (ks.take (k + 1)) = leavesAll (ks.take k) ++ ks[k].leaves) := leavesAll_take_succ hlt
          rcases HK.out with ⟨_, e⟩ | ⟨b', o', cap', e, _, hk'⟩
          · rw [e] at hlt; simp at hlt
          cases e
          have hE0 := hk' k hlt
          have hE := hE0.ext HUW.out
          obtain ⟨g0, g1, g2, kv, g3, hkk⟩ := hE.cells
          obtain ⟨_, _, _, kv', g3', hkk'⟩ := hE0.cells
          have hkv : kv' = kv := by
            have := HUW.out.cell g3'
            rw [g3] at this; cases this; rfl
          subst hkv
          obtain ⟨ka, kc, rfl⟩ := SliceAt.shape hkk'
          have hin : ks[k] ∈ ks := List.getElem_mem hlt
          have hsz : ks[k].size ≤ N := by have := size_kid (op := op) (wd := wd) (n := n) hin; omega
          have HE : Hid (EVal u (.agg #[.int .i64 ks[k].op, .int .i64 ks[k].wd, .int .i64 ks[k].n, .slice ka ks[k].kids.length kc]) ks[k]) := ⟨_, rfl, hkk'⟩
          clear hkk hkk' hk' hE hE0 g3'
          go_wp2_with fail
          refine (IH.out _ _ _ _ _ _ hsz (deep_kid HD.out hlt) HE.out HUW.out HR1.out HR2.out).mono ?_
          rintro r w2 ⟨rfl, hs2, hq1, hq2⟩
          have HS2 := Lib.hid (HS.out.trans hs2)
          have hz2 : w.heap.size < w2.heap.size := Nat.lt_of_lt_of_le hz hs2.size
          have HC32 := Lib.hid ((cell_same (hs2.block w.heap.size hz (fun h => by rcases h with h | h <;> omega))).trans HC3.out)
          have HQ1 : Hid (RowB w2 A (fun j => f j || occurs 3 (leavesAll (ks.take (k + 1))) j)) := hq1.congr' fun j => by rw [HLV.out, occurs_app, Bool.or_assoc]
          have HQ2 : Hid (RowB w2 B (fun j => g j || occurs 2 (leavesAll (ks.take (k + 1))) j)) := hq2.congr' fun j => by rw [HLV.out, occurs_app, Bool.or_assoc]
          clear hs2 hq1 hq2
          go_wp2_with fail
          exact ⟨⟨k + 1, by omega, by go_num, HS2.out, hz2, HC32.out, HQ1.out, HQ2.out⟩, by simp [intOf]; omega⟩
        · have hkl : k = ks.length := by omega
          subst hkl
          rw [List.take_length] at HR1 HR2
          go_wp2_with fail
          go_end0
          exact ⟨rfl, HS.out, HR1.out, HR2.out⟩
end Go.Proofs.YtlcgbdjmlnjhcaaGreatDoor
namespace Go.Proofs.YtlcgbdjmlnjhcaaGreatDoor
open Go.RowKit
attribute [local go_sem] Oper.semAt_some

set_option maxRecDepth 100000 in
set_option maxHeartbeats 4000000 in
theorem RSupport_any (e : E) (v : Value) (w : World) (he : EVal w v e) :
    Calls Tryz.prog 17 #[v] w fun r w' => (∃ v1 v2, r = .returned (.tuple #[v1, v2]) ∧ Ints w' v1 e.supOld ∧ Ints w' v2 e.supNow) ∧ Ext w w' := by
  obtain ⟨kv, rfl, hk⟩ := he
  obtain ⟨a, cap, rfl⟩ := SliceAt.shape hk
  have HE : Hid (EVal w (.agg #[.int .i64 e.op, .int .i64 e.wd, .int .i64 e.n, .slice a e.kids.length cap]) e) := ⟨_, rfl, hk⟩
  have HX0 : Hid (∀ x, Ext w (w.alloc x)) := fun x => (Ext.refl w).alloc x
  clear hk
  have hmk := makeBits32
  go_enter Tryz.func17, Tryz.ntmps17
  go_wp2_with fail
  refine (RFormed_any e _ _ (HE.out.ext (HX0.out _))).mono ?_
  rintro r w1 ⟨rfl, hx1⟩
  have c0 : w1.cell? ⟨w.heap.size, 0, none⟩ = some (.int .i64 e.op) := hx1.cell (by simp)
  have c1 : w1.cell? ⟨w.heap.size, 1, none⟩ = some (.int .i64 e.wd) := hx1.cell (by simp)
  have c2 : w1.cell? ⟨w.heap.size, 2, none⟩ = some (.int .i64 e.n) := hx1.cell (by simp)
  have c3 : w1.cell? ⟨w.heap.size, 3, none⟩ = some (.slice a e.kids.length cap) := hx1.cell (by simp)
  have hsz : w.heap.size < w1.heap.size := by have := hx1.size; simp at this; omega
  have HX := Lib.hid ((HX0.out _).trans hx1); clear hx1
  cases hf : e.wf with
  | false =>
    have HF1 : Hid (e.supOld = []) := by unfold Hid E.supOld; rw [hf]; rfl
    have HF2 : Hid (e.supNow = []) := by unfold Hid E.supNow; rw [hf]; rfl
    clear hf hmk
    go_wp2_with fail
    exact bodyPost_ret (v := .tuple #[.slice none 0 0, .slice none 0 0]) (by simp [results, Tryz.results17, go_sem]) rfl ⟨⟨_, _, rfl, by rw [HF1.out]; exact .inl ⟨⟨_, _, rfl⟩, rfl⟩, by rw [HF2.out]; exact .inl ⟨⟨_, _, rfl⟩, rfl⟩⟩, HX.out⟩
  | true =>
    have HF1 : Hid (e.supOld = upTo (occurs 3 e.leaves) 32) := by unfold Hid E.supOld; rw [hf]; rfl
    have HF2 : Hid (e.supNow = upTo (occurs 2 e.leaves) 32) := by unfold Hid E.supNow; rw [hf]; rfl
    have HD : Hid (e.deep 40 = true) := by
      unfold E.wf at hf
      simp only [Bool.and_eq_true] at hf
      exact hf.2
    clear hf
    obtain ⟨W, hW⟩ : ∃ W, Boxes w1 W (.cells (madeCells #[.bool false] 32) 4) (.cells (madeCells #[.bool false] 32) 4) := ⟨_, Boxes.mk' _ _ _⟩
    have hr1 : RowB W w1.heap.size (fun _ => false) := by
      have h := RowB.ext (f := fun _ => false) (World.rowIs_made w1 (.bool false) 32 4) ((Ext.refl _).alloc (.cells (madeCells #[.bool false] 32) 4))
      rw [hW.eq]; exact h
    have hr2 : RowB W (w1.heap.size + 1) (fun _ => false) := by
      have h := World.rowIs_made (w1.alloc (.cells (madeCells #[.bool false] 32) 4)) (.bool false) 32 4
      rw [World.size_alloc] at h
      rw [hW.eq]; exact h
    have HW := Lib.hid hW.eq
    have HMK := Lib.hid (Rmarks_any w1.heap.size (w1.heap.size + 1) (by omega) w1 (Nat.le_refl _) (Nat.le_succ _) e.size e 40 _ W (fun _ => false) (fun _ => false) (Nat.le_refl _) HD.out (HE.out.ext HX.out) hW.ext hr1 hr2)
    have HXW := Lib.hid hW.ext
    clear hr1 hr2 hW
    go_wp2_with fail
    rw [← HW.out]
    clear hmk c0 c1 c2 c3
    refine HMK.out.mono ?_
    rintro r w2 ⟨rfl, hs, q1, q2⟩
    have HX2 : Hid (Ext w1 w2) := hs.ext HXW.out fun k hk => by rcases hk with rfl | rfl <;> omega
    have HB1 := Lib.hid (row_bits (by omega) q1); have HB2 := Lib.hid (row_bits (by omega) q2)
    have HU1 : Hid (upTo (bitF ((List.range 32).map fun j => false || occurs 3 e.leaves j)) 32 = upTo (occurs 3 e.leaves) 32) := upTo_congr fun j hj => by
      unfold bitF; simp [List.getD, hj]
    have HU2 : Hid (upTo (bitF ((List.range 32).map fun j => false || occurs 2 e.leaves j)) 32 = upTo (occurs 2 e.leaves) 32) := upTo_congr fun j hj => by
      unfold bitF; simp [List.getD, hj]
    clear hs q1 q2
    generalize w1.heap.size = g at *
    go_wp2_with fail
    refine (RMarked_any _ _ w2 HB1.out (by simp)).mono ?_
    rintro r w3 ⟨⟨u1, rfl, o1⟩, x3⟩
    rw [List.length_map, List.length_range, HU1.out, ← HF1.out] at o1
    have HO1 := Lib.hid o1.ints; have HX3 := Lib.hid x3
    clear o1 x3
    go_wp2_with fail
    refine (RMarked_any _ _ w3 (SliceAt.ext bitKeeps HB2.out HX3.out) (by simp)).mono ?_
    rintro r w4 ⟨⟨u2, rfl, o2⟩, x4⟩
    rw [List.length_map, List.length_range, HU2.out, ← HF2.out] at o2
    have HO2 := Lib.hid o2.ints; have HX4 := Lib.hid x4
    clear o2 x4
    go_wp2_with fail
    exact bodyPost_ret (v := .tuple #[u1, u2]) (by simp [results, Tryz.results17, go_sem]) rfl ⟨⟨_, _, rfl, HO1.out.ext HX4.out, HO2.out⟩, HX.out.trans (HX2.out.trans (HX3.out.trans HX4.out))⟩
end Go.Proofs.YtlcgbdjmlnjhcaaGreatDoor
namespace Go.Proofs.YtlcgbdjmlnjhcaaGreatDoor
open Go.RowKit

/-- A condition; in memory, by value. -/
structure CondS where
  id : List UInt8
  k1 : Int
  k2 : Int
  k3 : Int
  k4 : Int
  k5 : Int
  hyp : E
  goal : E
def condCells (c : CondS) (ha : Option Addr) (hl hc : Nat) (ga : Option Addr) (gl gc : Nat) : Array Value :=
  #[.string ⟨c.id.toArray⟩, .int .i64 c.k1, .int .i64 c.k2, .int .i64 c.k3, .int .i64 c.k4, .int .i64 c.k5, .int .i64 c.hyp.op, .int .i64 c.hyp.wd, .int .i64 c.hyp.n, .slice ha hl hc, .int .i64 c.goal.op, .int .i64 c.goal.wd, .int .i64 c.goal.n, .slice ga gl gc]
def CondV (w : World) (v : Value) (c : CondS) : Prop := ∃ ha hl hc ga gl gc, v = .agg (condCells c ha hl hc ga gl gc) ∧
  EVal w (.agg #[.int .i64 c.hyp.op, .int .i64 c.hyp.wd, .int .i64 c.hyp.n, .slice ha hl hc]) c.hyp ∧ EVal w (.agg #[.int .i64 c.goal.op, .int .i64 c.goal.wd, .int .i64 c.goal.n, .slice ga gl gc]) c.goal
theorem CondV.ext {w w' : World} {v : Value} {c : CondS} (h : CondV w v c) (he : Ext w w') : CondV w' v c := by
  obtain ⟨ha, hl, hc, ga, gl, gc, e, h1, h2⟩ := h
  exact ⟨ha, hl, hc, ga, gl, gc, e, h1.ext he, h2.ext he⟩
/-- A condition in a block. -/
def CondAt (w : World) (b : Nat) (c : CondS) (ha : Option Addr) (hl hc : Nat) (ga : Option Addr) (gl gc : Nat) : Prop := w.heap[b]? = some (.cells (condCells c ha hl hc ga gl gc) 27 (0, 0))
theorem CondAt.ext {w w' : World} {b : Nat} {c : CondS} {ha : Option Addr} {hl hc : Nat} {ga : Option Addr} {gl gc : Nat} (h : CondAt w b c ha hl hc ga gl gc) (hx : Ext w w') : CondAt w' b c ha hl hc ga gl gc := (hx.block b (Array.getElem?_eq_some_iff.1 h).1).trans h
theorem CondAt.hyp {w : World} {b : Nat} {c : CondS} {ha : Option Addr} {hl hc : Nat} {ga : Option Addr} {gl gc : Nat} (h : CondAt w b c ha hl hc ga gl gc) : w.cell? ⟨b, 6, none⟩ = some (.int .i64 c.hyp.op) ∧ w.cell? ⟨b, 6 + 1, none⟩ = some (.int .i64 c.hyp.wd) ∧ w.cell? ⟨b, 6 + 2, none⟩ = some (.int .i64 c.hyp.n) ∧ w.cell? ⟨b, 6 + 3, none⟩ = some (.slice ha hl hc) := by
  unfold CondAt at h; simp [World.cell?, h, condCells]
theorem CondAt.goal {w : World} {b : Nat} {c : CondS} {ha : Option Addr} {hl hc : Nat} {ga : Option Addr} {gl gc : Nat} (h : CondAt w b c ha hl hc ga gl gc) : w.cell? ⟨b, 10, none⟩ = some (.int .i64 c.goal.op) ∧ w.cell? ⟨b, 10 + 1, none⟩ = some (.int .i64 c.goal.wd) ∧ w.cell? ⟨b, 10 + 2, none⟩ = some (.int .i64 c.goal.n) ∧ w.cell? ⟨b, 10 + 3, none⟩ = some (.slice ga gl gc) := by
  unfold CondAt at h; simp [World.cell?, h, condCells]
theorem CondAt.id {w : World} {b : Nat} {c : CondS} {ha : Option Addr} {hl hc : Nat} {ga : Option Addr} {gl gc : Nat} (h : CondAt w b c ha hl hc ga gl gc) : w.cell? ⟨b, 0, none⟩ = some (.string ⟨c.id.toArray⟩) := by
  unfold CondAt at h; simp [World.cell?, h, condCells]
theorem CondAt.all {w : World} {b : Nat} {c : CondS} {ha : Option Addr} {hl hc : Nat} {ga : Option Addr} {gl gc : Nat} (h : CondAt w b c ha hl hc ga gl gc) : w.cell? ⟨b, 0, none⟩ = some (.string ⟨c.id.toArray⟩) ∧ w.cell? ⟨b, 1, none⟩ = some (.int .i64 c.k1) ∧ w.cell? ⟨b, 2, none⟩ = some (.int .i64 c.k2) ∧ w.cell? ⟨b, 3, none⟩ = some (.int .i64 c.k3) ∧ w.cell? ⟨b, 4, none⟩ = some (.int .i64 c.k4) ∧ w.cell? ⟨b, 5, none⟩ = some (.int .i64 c.k5) ∧
    w.cell? ⟨b, 6, none⟩ = some (.int .i64 c.hyp.op) ∧ w.cell? ⟨b, 7, none⟩ = some (.int .i64 c.hyp.wd) ∧ w.cell? ⟨b, 8, none⟩ = some (.int .i64 c.hyp.n) ∧ w.cell? ⟨b, 9, none⟩ = some (.slice ha hl hc) ∧ w.cell? ⟨b, 10, none⟩ = some (.int .i64 c.goal.op) ∧ w.cell? ⟨b, 11, none⟩ = some (.int .i64 c.goal.wd) ∧ w.cell? ⟨b, 12, none⟩ = some (.int .i64 c.goal.n) ∧ w.cell? ⟨b, 13, none⟩ = some (.slice ga gl gc) := by
  unfold CondAt at h
  refine ⟨?_, ?_, ?_, ?_, ?_, ?_, ?_, ?_, ?_, ?_, ?_, ?_, ?_, ?_⟩ <;> simp [World.cell?, h, condCells]
theorem CondAt.new (w : World) (c : CondS) (ha : Option Addr) (hl hc : Nat) (ga : Option Addr) (gl gc : Nat) : CondAt (w.alloc (.cells (condCells c ha hl hc ga gl gc) 27)) w.heap.size c ha hl hc ga gl gc := heap_new _ _
/-- The condition that lies in a block. -/
def CondIn (w : World) (b : Nat) (c : CondS) : Prop := ∃ ha hl hc ga gl gc, CondAt w b c ha hl hc ga gl gc ∧
  EVal w (.agg #[.int .i64 c.hyp.op, .int .i64 c.hyp.wd, .int .i64 c.hyp.n, .slice ha hl hc]) c.hyp ∧ EVal w (.agg #[.int .i64 c.goal.op, .int .i64 c.goal.wd, .int .i64 c.goal.n, .slice ga gl gc]) c.goal
theorem CondIn.ext {w w' : World} {b : Nat} {c : CondS} (h : CondIn w b c) (hx : Ext w w') : CondIn w' b c := by
  obtain ⟨ha, hl, hc, ga, gl, gc, e, h1, h2⟩ := h
  exact ⟨ha, hl, hc, ga, gl, gc, e.ext hx, h1.ext hx, h2.ext hx⟩
end Go.Proofs.YtlcgbdjmlnjhcaaGreatDoor
