/-
  The walk of choice. (Written by wip/gen_choice.py.)
-/
import Derived.Test.YtdancokndklpnaaDoorMSj
namespace Go.Proofs.YtdancokndklpnaaDoor
open Go.RowKit

set_option maxRecDepth 100000 in
set_option maxHeartbeats 4000000 in
theorem choice_any (N : Nat) (wd : Int) (x a b : E) (v : Value) (w : World) (hN : N ≤ w.heap.size) (he : EValB N w v (.mk 14 wd 0 [x, a, b])) (h4x : x.op = 4 → x.kids ≠ []) :
    Calls Tryd.prog 80 #[v] w (NewN N (choS (.mk 14 wd 0 [x, a, b]) x a b) w) := by
  obtain ⟨ea, l, c, rfl, hk⟩ := he.shape
  obtain ⟨b0, o0, rfl, rfl⟩ : ∃ b o, ea = some ⟨b, o, none⟩ ∧ l = 3 := by
    rcases hk with ⟨_, h⟩ | ⟨b, o, cap, h, _⟩
    · cases h
    · cases h; exact ⟨b, o, rfl, rfl⟩
  obtain ⟨xa, xl, xc, x0, x1, x2, x3, hkx⟩ := hk.get 0 (by simp)
  obtain ⟨aa, al, ac, a0, a1, a2, a3, hka⟩ := hk.get 1 (by simp)
  obtain ⟨ba, bl, bc, p0, p1, p2, p3, hkb⟩ := hk.get 2 (by simp)
  simp only [E.kids_mk, List.getElem_cons_zero, List.getElem_cons_succ, Nat.zero_mul, Nat.add_zero, Nat.one_mul, Nat.reduceMul] at x0 x1 x2 x3 a0 a1 a2 a3 p0 p1 p2 p3 hka hkb hkx
  have HKX := Lib.hid hkx; have HKA := Lib.hid hka; have HKB := Lib.hid hkb; have HKN := Lib.hid hk
  have hbs : b0 < w.heap.size := block_lt x0
  have hbs1 : b0 < w.heap.size + 1 := by omega
  have hbs2 : b0 < w.heap.size + 1 + 1 := by omega
  have hbs3 : b0 < w.heap.size + 1 + 1 + 1 := by omega
  have hbs4 : b0 < w.heap.size + 1 + 1 + 1 + 1 := by omega
  clear hka hkb hkx hk he
  simp only [E.op_mk, E.wd_mk, E.n_mk]
  go_enter Tryd.func80, Tryd.ntmps80
  go_upto_region 1 with fail
  go_cut [3, 4, 5] (fun s3 s4 s5 W => ∃ C A B : Nat, s3 = .pointer (some ⟨C, 0, none⟩) ∧ s4 = .pointer (some ⟨A, 0, none⟩) ∧ s5 = .pointer (some ⟨B, 0, none⟩) ∧ ChVars w W C A B wd x a b (.slice (some ⟨b0, o0, none⟩) 3 c) (.slice xa xl xc) (.slice aa al ac) (.slice ba bl bc))
  case first =>
    generalize hW1 : (w.alloc (.cells #[.int .i64 14, .int .i64 wd, .int .i64 0, .slice (some ⟨b0, o0, none⟩) 3 c] 24)).alloc (.cells zero4 24) = W1
    have hx1 : Ext w W1 := by rw [← hW1]; exact ((Ext.refl w).alloc _).alloc _
    have n3 : W1.cell? ⟨w.heap.size, 3, none⟩ = some (.slice (some ⟨b0, o0, none⟩) 3 c) := by rw [← hW1]; simp
    have HX1 := Lib.hid hx1
    have HN0 : Hid (W1.heap[w.heap.size]? = some (.cells #[.int .i64 14, .int .i64 wd, .int .i64 0, .slice (some ⟨b0, o0, none⟩) 3 c] 24 (0, 0))) := by
      unfold Hid; rw [← hW1, Below.heap_alloc _ _ _ (by simp)]; exact heap_new _ _
    have HN1 : Hid (W1.heap[w.heap.size + 1]? = some (.cells zero4 24 (0, 0))) := by
      have := heap_new (w.alloc (.cells #[.int .i64 14, .int .i64 wd, .int .i64 0, .slice (some ⟨b0, o0, none⟩) 3 c] 24)) (.cells zero4 24)
      unfold Hid; rw [← hW1]; simpa using this
    have e0 := hx1.cell x0
    have e1 := hx1.cell x1
    have e2 := hx1.cell x2
    have e3 := hx1.cell x3
    have f0 := hx1.cell a0
    have f1 := hx1.cell a1
    have f2 := hx1.cell a2
    have f3 := hx1.cell a3
    have g0 := hx1.cell p0
    have g1 := hx1.cell p1
    have g2 := hx1.cell p2
    have g3 := hx1.cell p3
    clear hW1 hx1 x0 x1 x2 x3 a0 a1 a2 a3 p0 p1 p2 p3
    refine wp_region_held (S := fun w' => Ext W1 w') (by kernel_rfl) ?_
    refine wpAnyH_take (i := 0) (v := .pointer (some ⟨w.heap.size, 3, none⟩)) rfl (by kernel_rfl) (by kernel_rfl) (by kernel_rfl) (fun _ _ _ h => h) (.inl ⟨rfl, fun w' hx' => by go_simp⟩) (Ext.refl W1).drew ?_
    refine wpAnyH_take (i := 1) (v := .slice (some ⟨b0, o0, none⟩) 3 c) rfl (by kernel_rfl) (by kernel_rfl) (by kernel_rfl) (fun _ _ _ h => h) (.inl ⟨rfl, fun w' hx' => by have c0 := hx'.cell n3; go_simp⟩) (Ext.refl W1).drew ?_
    refine wpAnyH_take (i := 2) (v := .pointer (some ⟨b0, o0, none⟩)) rfl (by kernel_rfl) (by kernel_rfl) (by kernel_rfl) (fun _ _ _ h => h) (.inl ⟨rfl, fun w' hx' => by go_simp⟩) (Ext.refl W1).drew ?_
    refine wpAnyH_take (i := 3) (v := (.agg #[.int .i64 x.op, .int .i64 x.wd, .int .i64 x.n, .slice xa xl xc])) rfl (by kernel_rfl) (by kernel_rfl) (by kernel_rfl) (fun _ _ _ h => h) (.inl ⟨rfl, fun w' hx' => by have c0 := hx'.cell e0; have c1 := hx'.cell e1; have c2 := hx'.cell e2; have c3 := hx'.cell e3; go_simp⟩) (Ext.refl W1).drew ?_
    refine wpAnyH_take (i := 4) (v := .pointer (some ⟨w.heap.size, 3, none⟩)) rfl (by kernel_rfl) (by kernel_rfl) (by kernel_rfl) (fun _ _ _ h => h) (.inl ⟨rfl, fun w' hx' => by go_simp⟩) (Ext.refl W1).drew ?_
    refine wpAnyH_take (i := 5) (v := .slice (some ⟨b0, o0, none⟩) 3 c) rfl (by kernel_rfl) (by kernel_rfl) (by kernel_rfl) (fun _ _ _ h => h) (.inl ⟨rfl, fun w' hx' => by have c0 := hx'.cell n3; go_simp⟩) (Ext.refl W1).drew ?_
    refine wpAnyH_take (i := 6) (v := .pointer (some ⟨b0, o0 + 4, none⟩)) rfl (by kernel_rfl) (by kernel_rfl) (by kernel_rfl) (fun _ _ _ h => h) (.inl ⟨rfl, fun w' hx' => by go_simp⟩) (Ext.refl W1).drew ?_
    refine wpAnyH_take (i := 7) (v := (.agg #[.int .i64 a.op, .int .i64 a.wd, .int .i64 a.n, .slice aa al ac])) rfl (by kernel_rfl) (by kernel_rfl) (by kernel_rfl) (fun _ _ _ h => h) (.inl ⟨rfl, fun w' hx' => by have c0 := hx'.cell f0; have c1 := hx'.cell f1; have c2 := hx'.cell f2; have c3 := hx'.cell f3; go_simp⟩) (Ext.refl W1).drew ?_
    refine wpAnyH_take (i := 8) (v := .pointer (some ⟨w.heap.size, 3, none⟩)) rfl (by kernel_rfl) (by kernel_rfl) (by kernel_rfl) (fun _ _ _ h => h) (.inl ⟨rfl, fun w' hx' => by go_simp⟩) (Ext.refl W1).drew ?_
    refine wpAnyH_take (i := 9) (v := .slice (some ⟨b0, o0, none⟩) 3 c) rfl (by kernel_rfl) (by kernel_rfl) (by kernel_rfl) (fun _ _ _ h => h) (.inl ⟨rfl, fun w' hx' => by have c0 := hx'.cell n3; go_simp⟩) (Ext.refl W1).drew ?_
    refine wpAnyH_take (i := 10) (v := .pointer (some ⟨b0, o0 + 8, none⟩)) rfl (by kernel_rfl) (by kernel_rfl) (by kernel_rfl) (fun _ _ _ h => h) (.inl ⟨rfl, fun w' hx' => by go_simp⟩) (Ext.refl W1).drew ?_
    refine wpAnyH_take (i := 11) (v := (.agg #[.int .i64 b.op, .int .i64 b.wd, .int .i64 b.n, .slice ba bl bc])) rfl (by kernel_rfl) (by kernel_rfl) (by kernel_rfl) (fun _ _ _ h => h) (.inl ⟨rfl, fun w' hx' => by have c0 := hx'.cell g0; have c1 := hx'.cell g1; have c2 := hx'.cell g2; have c3 := hx'.cell g3; go_simp⟩) (Ext.refl W1).drew ?_
    refine wpAnyH_all (rs := [12, 13, 14]) (by kernel_rfl) (by simp) ?_
    intro i hi
    have hi' : i = 12 ∨ i = 13 ∨ i = 14 := by simpa using hi
    clear hi
    rcases hi' with rfl | rfl | rfl
    · unfold wpOp
      go_simp
      refine .inl ⟨by first | exact (((((Ext.refl W1).alloc _).alloc _).alloc _).drew) | exact ((((Ext.refl W1).alloc _).alloc _).drew) | exact (((Ext.refl W1).alloc _).drew), ?_⟩
      refine wpAnyH_all (rs := [13, 14]) (by kernel_rfl) (by simp) ?_
      intro i hi
      have hi' : i = 13 ∨ i = 14 := by simpa using hi
      clear hi
      rcases hi' with rfl | rfl
      · unfold wpOp
        go_simp
        refine .inl ⟨by first | exact (((((Ext.refl W1).alloc _).alloc _).alloc _).drew) | exact ((((Ext.refl W1).alloc _).alloc _).drew) | exact (((Ext.refl W1).alloc _).drew), ?_⟩
        refine wpAnyH_all (rs := [14]) (by kernel_rfl) (by simp) ?_
        intro i hi
        obtain rfl : i = 14 := by simpa using hi
        clear hi
        unfold wpOp
        go_simp
        refine .inl ⟨by first | exact (((((Ext.refl W1).alloc _).alloc _).alloc _).drew) | exact ((((Ext.refl W1).alloc _).alloc _).drew) | exact (((Ext.refl W1).alloc _).drew), ?_⟩
        refine wpAnyH_all (rs := [15]) (by kernel_rfl) (by simp) ?_
        intro i hi
        obtain rfl : i = 15 := by simpa using hi
        clear hi
        unfold wpOp
        go_simp
        refine .inl ⟨by first | exact (((((Ext.refl W1).alloc _).alloc _).alloc _).drew) | exact ((((Ext.refl W1).alloc _).alloc _).drew) | exact (((Ext.refl W1).alloc _).drew), ?_⟩
        refine wpAnyH_all (rs := [16]) (by kernel_rfl) (by simp) ?_
        intro i hi
        obtain rfl : i = 16 := by simpa using hi
        clear hi
        unfold wpOp
        go_simp
        refine .inl ⟨by first | exact (((((Ext.refl W1).alloc _).alloc _).alloc _).drew) | exact ((((Ext.refl W1).alloc _).alloc _).drew) | exact (((Ext.refl W1).alloc _).drew), ?_⟩
        refine wpAnyH_all (rs := [17]) (by kernel_rfl) (by simp) ?_
        intro i hi
        obtain rfl : i = 17 := by simpa using hi
        clear hi
        unfold wpOp
        go_simp
        refine .inl ⟨by first | exact (((((Ext.refl W1).alloc _).alloc _).alloc _).drew) | exact ((((Ext.refl W1).alloc _).alloc _).drew) | exact (((Ext.refl W1).alloc _).drew), ?_⟩
        refine wpAnyH_done (by kernel_rfl) ?_ _
        go_wp2_with fail
        go_meet
        obtain ⟨q2, q3, q4⟩ := heap_of3 W1 (.cells (cells4 x (.slice xa xl xc)) 24) (.cells (cells4 a (.slice aa al ac)) 24) (.cells (cells4 b (.slice ba bl bc)) 24)
        exact ⟨_, _, _, rfl, rfl, rfl, ⟨((((HX1.out.alloc _).alloc _).alloc _).drew), HKX.out.kids, HKA.out.kids, HKB.out.kids⟩, Ext.heap ((((Ext.refl W1).alloc _).alloc _).alloc _) HN0.out, Ext.heap ((((Ext.refl W1).alloc _).alloc _).alloc _) HN1.out, q2, q3, q4⟩
      · unfold wpOp
        go_simp
        refine .inl ⟨by first | exact (((((Ext.refl W1).alloc _).alloc _).alloc _).drew) | exact ((((Ext.refl W1).alloc _).alloc _).drew) | exact (((Ext.refl W1).alloc _).drew), ?_⟩
        refine wpAnyH_all (rs := [13]) (by kernel_rfl) (by simp) ?_
        intro i hi
        obtain rfl : i = 13 := by simpa using hi
        clear hi
        unfold wpOp
        go_simp
        refine .inl ⟨by first | exact (((((Ext.refl W1).alloc _).alloc _).alloc _).drew) | exact ((((Ext.refl W1).alloc _).alloc _).drew) | exact (((Ext.refl W1).alloc _).drew), ?_⟩
        refine wpAnyH_all (rs := [15]) (by kernel_rfl) (by simp) ?_
        intro i hi
        obtain rfl : i = 15 := by simpa using hi
        clear hi
        unfold wpOp
        go_simp
        refine .inl ⟨by first | exact (((((Ext.refl W1).alloc _).alloc _).alloc _).drew) | exact ((((Ext.refl W1).alloc _).alloc _).drew) | exact (((Ext.refl W1).alloc _).drew), ?_⟩
        refine wpAnyH_all (rs := [16]) (by kernel_rfl) (by simp) ?_
        intro i hi
        obtain rfl : i = 16 := by simpa using hi
        clear hi
        unfold wpOp
        go_simp
        refine .inl ⟨by first | exact (((((Ext.refl W1).alloc _).alloc _).alloc _).drew) | exact ((((Ext.refl W1).alloc _).alloc _).drew) | exact (((Ext.refl W1).alloc _).drew), ?_⟩
        refine wpAnyH_all (rs := [17]) (by kernel_rfl) (by simp) ?_
        intro i hi
        obtain rfl : i = 17 := by simpa using hi
        clear hi
        unfold wpOp
        go_simp
        refine .inl ⟨by first | exact (((((Ext.refl W1).alloc _).alloc _).alloc _).drew) | exact ((((Ext.refl W1).alloc _).alloc _).drew) | exact (((Ext.refl W1).alloc _).drew), ?_⟩
        refine wpAnyH_done (by kernel_rfl) ?_ _
        go_wp2_with fail
        go_meet
        obtain ⟨q2, q3, q4⟩ := heap_of3 W1 (.cells (cells4 x (.slice xa xl xc)) 24) (.cells (cells4 b (.slice ba bl bc)) 24) (.cells (cells4 a (.slice aa al ac)) 24)
        exact ⟨_, _, _, rfl, rfl, rfl, ⟨((((HX1.out.alloc _).alloc _).alloc _).drew), HKX.out.kids, HKA.out.kids, HKB.out.kids⟩, Ext.heap ((((Ext.refl W1).alloc _).alloc _).alloc _) HN0.out, Ext.heap ((((Ext.refl W1).alloc _).alloc _).alloc _) HN1.out, q2, q4, q3⟩
    · unfold wpOp
      go_simp
      refine .inl ⟨by first | exact (((((Ext.refl W1).alloc _).alloc _).alloc _).drew) | exact ((((Ext.refl W1).alloc _).alloc _).drew) | exact (((Ext.refl W1).alloc _).drew), ?_⟩
      refine wpAnyH_all (rs := [12, 14]) (by kernel_rfl) (by simp) ?_
      intro i hi
      have hi' : i = 12 ∨ i = 14 := by simpa using hi
      clear hi
      rcases hi' with rfl | rfl
      · unfold wpOp
        go_simp
        refine .inl ⟨by first | exact (((((Ext.refl W1).alloc _).alloc _).alloc _).drew) | exact ((((Ext.refl W1).alloc _).alloc _).drew) | exact (((Ext.refl W1).alloc _).drew), ?_⟩
        refine wpAnyH_all (rs := [14]) (by kernel_rfl) (by simp) ?_
        intro i hi
        obtain rfl : i = 14 := by simpa using hi
        clear hi
        unfold wpOp
        go_simp
        refine .inl ⟨by first | exact (((((Ext.refl W1).alloc _).alloc _).alloc _).drew) | exact ((((Ext.refl W1).alloc _).alloc _).drew) | exact (((Ext.refl W1).alloc _).drew), ?_⟩
        refine wpAnyH_all (rs := [15]) (by kernel_rfl) (by simp) ?_
        intro i hi
        obtain rfl : i = 15 := by simpa using hi
        clear hi
        unfold wpOp
        go_simp
        refine .inl ⟨by first | exact (((((Ext.refl W1).alloc _).alloc _).alloc _).drew) | exact ((((Ext.refl W1).alloc _).alloc _).drew) | exact (((Ext.refl W1).alloc _).drew), ?_⟩
        refine wpAnyH_all (rs := [16]) (by kernel_rfl) (by simp) ?_
        intro i hi
        obtain rfl : i = 16 := by simpa using hi
        clear hi
        unfold wpOp
        go_simp
        refine .inl ⟨by first | exact (((((Ext.refl W1).alloc _).alloc _).alloc _).drew) | exact ((((Ext.refl W1).alloc _).alloc _).drew) | exact (((Ext.refl W1).alloc _).drew), ?_⟩
        refine wpAnyH_all (rs := [17]) (by kernel_rfl) (by simp) ?_
        intro i hi
        obtain rfl : i = 17 := by simpa using hi
        clear hi
        unfold wpOp
        go_simp
        refine .inl ⟨by first | exact (((((Ext.refl W1).alloc _).alloc _).alloc _).drew) | exact ((((Ext.refl W1).alloc _).alloc _).drew) | exact (((Ext.refl W1).alloc _).drew), ?_⟩
        refine wpAnyH_done (by kernel_rfl) ?_ _
        go_wp2_with fail
        go_meet
        obtain ⟨q2, q3, q4⟩ := heap_of3 W1 (.cells (cells4 a (.slice aa al ac)) 24) (.cells (cells4 x (.slice xa xl xc)) 24) (.cells (cells4 b (.slice ba bl bc)) 24)
        exact ⟨_, _, _, rfl, rfl, rfl, ⟨((((HX1.out.alloc _).alloc _).alloc _).drew), HKX.out.kids, HKA.out.kids, HKB.out.kids⟩, Ext.heap ((((Ext.refl W1).alloc _).alloc _).alloc _) HN0.out, Ext.heap ((((Ext.refl W1).alloc _).alloc _).alloc _) HN1.out, q3, q2, q4⟩
      · unfold wpOp
        go_simp
        refine .inl ⟨by first | exact (((((Ext.refl W1).alloc _).alloc _).alloc _).drew) | exact ((((Ext.refl W1).alloc _).alloc _).drew) | exact (((Ext.refl W1).alloc _).drew), ?_⟩
        refine wpAnyH_all (rs := [12]) (by kernel_rfl) (by simp) ?_
        intro i hi
        obtain rfl : i = 12 := by simpa using hi
        clear hi
        unfold wpOp
        go_simp
        refine .inl ⟨by first | exact (((((Ext.refl W1).alloc _).alloc _).alloc _).drew) | exact ((((Ext.refl W1).alloc _).alloc _).drew) | exact (((Ext.refl W1).alloc _).drew), ?_⟩
        refine wpAnyH_all (rs := [15]) (by kernel_rfl) (by simp) ?_
        intro i hi
        obtain rfl : i = 15 := by simpa using hi
        clear hi
        unfold wpOp
        go_simp
        refine .inl ⟨by first | exact (((((Ext.refl W1).alloc _).alloc _).alloc _).drew) | exact ((((Ext.refl W1).alloc _).alloc _).drew) | exact (((Ext.refl W1).alloc _).drew), ?_⟩
        refine wpAnyH_all (rs := [16]) (by kernel_rfl) (by simp) ?_
        intro i hi
        obtain rfl : i = 16 := by simpa using hi
        clear hi
        unfold wpOp
        go_simp
        refine .inl ⟨by first | exact (((((Ext.refl W1).alloc _).alloc _).alloc _).drew) | exact ((((Ext.refl W1).alloc _).alloc _).drew) | exact (((Ext.refl W1).alloc _).drew), ?_⟩
        refine wpAnyH_all (rs := [17]) (by kernel_rfl) (by simp) ?_
        intro i hi
        obtain rfl : i = 17 := by simpa using hi
        clear hi
        unfold wpOp
        go_simp
        refine .inl ⟨by first | exact (((((Ext.refl W1).alloc _).alloc _).alloc _).drew) | exact ((((Ext.refl W1).alloc _).alloc _).drew) | exact (((Ext.refl W1).alloc _).drew), ?_⟩
        refine wpAnyH_done (by kernel_rfl) ?_ _
        go_wp2_with fail
        go_meet
        obtain ⟨q2, q3, q4⟩ := heap_of3 W1 (.cells (cells4 a (.slice aa al ac)) 24) (.cells (cells4 b (.slice ba bl bc)) 24) (.cells (cells4 x (.slice xa xl xc)) 24)
        exact ⟨_, _, _, rfl, rfl, rfl, ⟨((((HX1.out.alloc _).alloc _).alloc _).drew), HKX.out.kids, HKA.out.kids, HKB.out.kids⟩, Ext.heap ((((Ext.refl W1).alloc _).alloc _).alloc _) HN0.out, Ext.heap ((((Ext.refl W1).alloc _).alloc _).alloc _) HN1.out, q4, q2, q3⟩
    · unfold wpOp
      go_simp
      refine .inl ⟨by first | exact (((((Ext.refl W1).alloc _).alloc _).alloc _).drew) | exact ((((Ext.refl W1).alloc _).alloc _).drew) | exact (((Ext.refl W1).alloc _).drew), ?_⟩
      refine wpAnyH_all (rs := [12, 13]) (by kernel_rfl) (by simp) ?_
      intro i hi
      have hi' : i = 12 ∨ i = 13 := by simpa using hi
      clear hi
      rcases hi' with rfl | rfl
      · unfold wpOp
        go_simp
        refine .inl ⟨by first | exact (((((Ext.refl W1).alloc _).alloc _).alloc _).drew) | exact ((((Ext.refl W1).alloc _).alloc _).drew) | exact (((Ext.refl W1).alloc _).drew), ?_⟩
        refine wpAnyH_all (rs := [13]) (by kernel_rfl) (by simp) ?_
        intro i hi
        obtain rfl : i = 13 := by simpa using hi
        clear hi
        unfold wpOp
        go_simp
        refine .inl ⟨by first | exact (((((Ext.refl W1).alloc _).alloc _).alloc _).drew) | exact ((((Ext.refl W1).alloc _).alloc _).drew) | exact (((Ext.refl W1).alloc _).drew), ?_⟩
        refine wpAnyH_all (rs := [15]) (by kernel_rfl) (by simp) ?_
        intro i hi
        obtain rfl : i = 15 := by simpa using hi
        clear hi
        unfold wpOp
        go_simp
        refine .inl ⟨by first | exact (((((Ext.refl W1).alloc _).alloc _).alloc _).drew) | exact ((((Ext.refl W1).alloc _).alloc _).drew) | exact (((Ext.refl W1).alloc _).drew), ?_⟩
        refine wpAnyH_all (rs := [16]) (by kernel_rfl) (by simp) ?_
        intro i hi
        obtain rfl : i = 16 := by simpa using hi
        clear hi
        unfold wpOp
        go_simp
        refine .inl ⟨by first | exact (((((Ext.refl W1).alloc _).alloc _).alloc _).drew) | exact ((((Ext.refl W1).alloc _).alloc _).drew) | exact (((Ext.refl W1).alloc _).drew), ?_⟩
        refine wpAnyH_all (rs := [17]) (by kernel_rfl) (by simp) ?_
        intro i hi
        obtain rfl : i = 17 := by simpa using hi
        clear hi
        unfold wpOp
        go_simp
        refine .inl ⟨by first | exact (((((Ext.refl W1).alloc _).alloc _).alloc _).drew) | exact ((((Ext.refl W1).alloc _).alloc _).drew) | exact (((Ext.refl W1).alloc _).drew), ?_⟩
        refine wpAnyH_done (by kernel_rfl) ?_ _
        go_wp2_with fail
        go_meet
        obtain ⟨q2, q3, q4⟩ := heap_of3 W1 (.cells (cells4 b (.slice ba bl bc)) 24) (.cells (cells4 x (.slice xa xl xc)) 24) (.cells (cells4 a (.slice aa al ac)) 24)
        exact ⟨_, _, _, rfl, rfl, rfl, ⟨((((HX1.out.alloc _).alloc _).alloc _).drew), HKX.out.kids, HKA.out.kids, HKB.out.kids⟩, Ext.heap ((((Ext.refl W1).alloc _).alloc _).alloc _) HN0.out, Ext.heap ((((Ext.refl W1).alloc _).alloc _).alloc _) HN1.out, q3, q4, q2⟩
      · unfold wpOp
        go_simp
        refine .inl ⟨by first | exact (((((Ext.refl W1).alloc _).alloc _).alloc _).drew) | exact ((((Ext.refl W1).alloc _).alloc _).drew) | exact (((Ext.refl W1).alloc _).drew), ?_⟩
        refine wpAnyH_all (rs := [12]) (by kernel_rfl) (by simp) ?_
        intro i hi
        obtain rfl : i = 12 := by simpa using hi
        clear hi
        unfold wpOp
        go_simp
        refine .inl ⟨by first | exact (((((Ext.refl W1).alloc _).alloc _).alloc _).drew) | exact ((((Ext.refl W1).alloc _).alloc _).drew) | exact (((Ext.refl W1).alloc _).drew), ?_⟩
        refine wpAnyH_all (rs := [15]) (by kernel_rfl) (by simp) ?_
        intro i hi
        obtain rfl : i = 15 := by simpa using hi
        clear hi
        unfold wpOp
        go_simp
        refine .inl ⟨by first | exact (((((Ext.refl W1).alloc _).alloc _).alloc _).drew) | exact ((((Ext.refl W1).alloc _).alloc _).drew) | exact (((Ext.refl W1).alloc _).drew), ?_⟩
        refine wpAnyH_all (rs := [16]) (by kernel_rfl) (by simp) ?_
        intro i hi
        obtain rfl : i = 16 := by simpa using hi
        clear hi
        unfold wpOp
        go_simp
        refine .inl ⟨by first | exact (((((Ext.refl W1).alloc _).alloc _).alloc _).drew) | exact ((((Ext.refl W1).alloc _).alloc _).drew) | exact (((Ext.refl W1).alloc _).drew), ?_⟩
        refine wpAnyH_all (rs := [17]) (by kernel_rfl) (by simp) ?_
        intro i hi
        obtain rfl : i = 17 := by simpa using hi
        clear hi
        unfold wpOp
        go_simp
        refine .inl ⟨by first | exact (((((Ext.refl W1).alloc _).alloc _).alloc _).drew) | exact ((((Ext.refl W1).alloc _).alloc _).drew) | exact (((Ext.refl W1).alloc _).drew), ?_⟩
        refine wpAnyH_done (by kernel_rfl) ?_ _
        go_wp2_with fail
        go_meet
        obtain ⟨q2, q3, q4⟩ := heap_of3 W1 (.cells (cells4 b (.slice ba bl bc)) 24) (.cells (cells4 a (.slice aa al ac)) 24) (.cells (cells4 x (.slice xa xl xc)) 24)
        exact ⟨_, _, _, rfl, rfl, rfl, ⟨((((HX1.out.alloc _).alloc _).alloc _).drew), HKX.out.kids, HKA.out.kids, HKB.out.kids⟩, Ext.heap ((((Ext.refl W1).alloc _).alloc _).alloc _) HN0.out, Ext.heap ((((Ext.refl W1).alloc _).alloc _).alloc _) HN1.out, q4, q3, q2⟩
  case rest =>
    obtain ⟨C, A, B, rfl, rfl, rfl, hZ3⟩ := hcut
    clear x0 x1 x2 x3 a0 a1 a2 a3 p0 p1 p2 p3 hbs hbs1 hbs2 hbs3 hbs4
    obtain ⟨y1, y2, y3, y4, y5, y6, y7, y8, y9, y10, y11, y12, y13, y14, y15, y16, y17, y18, y19, y20, y21, y22, y23, y24⟩ := ChVars.cells hZ3
    revert hZ3
    generalize wc = w3 at *
    intro hZ3
    cases h_x1 : x.isC 1 with
    | true =>
      go_wp2_with (first
        | (go_at_call 66; (first | (with_reducible refine (isConst_any x (.agg #[.int .i64 x.op, .int .i64 x.wd, .int .i64 x.n, .slice xa xl xc]) _ _ (ChVars.vx (by assumption))).mono ?_) | (with_reducible refine (isConst_any a (.agg #[.int .i64 a.op, .int .i64 a.wd, .int .i64 a.n, .slice aa al ac]) _ _ (ChVars.va (by assumption))).mono ?_) | (with_reducible refine (isConst_any b (.agg #[.int .i64 b.op, .int .i64 b.wd, .int .i64 b.n, .slice ba bl bc]) _ _ (ChVars.vb (by assumption))).mono ?_)); rintro r w3 ⟨rfl, hx3⟩; have hZ4 := ChVars.ext hZ3 hx3; clear hx3 hZ3 y1 y2 y3 y4 y5 y6 y7 y8 y9 y10 y11 y12 y13 y14 y15 y16 y17 y18 y19 y20 y21 y22 y23 y24; have hZ3 := hZ4; clear hZ4; obtain ⟨y1, y2, y3, y4, y5, y6, y7, y8, y9, y10, y11, y12, y13, y14, y15, y16, y17, y18, y19, y20, y21, y22, y23, y24⟩ := ChVars.cells hZ3)
        | (go_at_call 89; (refine (equal_any a.size a b _ A 0 B 0 (Nat.le_refl _) (ChVars.ia (by assumption)) (ChVars.ib (by assumption))).mono ?_); rintro r w3 ⟨rfl, hx3⟩; have hZ4 := ChVars.ext hZ3 hx3; clear hx3 hZ3 y1 y2 y3 y4 y5 y6 y7 y8 y9 y10 y11 y12 y13 y14 y15 y16 y17 y18 y19 y20 y21 y22 y23 y24; have hZ3 := hZ4; clear hZ4; obtain ⟨y1, y2, y3, y4, y5, y6, y7, y8, y9, y10, y11, y12, y13, y14, y15, y16, y17, y18, y19, y20, y21, y22, y23, y24⟩ := ChVars.cells hZ3))
      exact cho_end (e' := a) rfl rfl (by assumption) (by simp [choS, h_x1]) HKA.out
    | false =>
      cases h_al : a.eqB b with
      | true =>
        cases h_x0 : x.isC 0 with
        | true =>
          go_wp2_with (first
            | (go_at_call 66; (first | (with_reducible refine (isConst_any x (.agg #[.int .i64 x.op, .int .i64 x.wd, .int .i64 x.n, .slice xa xl xc]) _ _ (ChVars.vx (by assumption))).mono ?_) | (with_reducible refine (isConst_any a (.agg #[.int .i64 a.op, .int .i64 a.wd, .int .i64 a.n, .slice aa al ac]) _ _ (ChVars.va (by assumption))).mono ?_) | (with_reducible refine (isConst_any b (.agg #[.int .i64 b.op, .int .i64 b.wd, .int .i64 b.n, .slice ba bl bc]) _ _ (ChVars.vb (by assumption))).mono ?_)); rintro r w3 ⟨rfl, hx3⟩; have hZ4 := ChVars.ext hZ3 hx3; clear hx3 hZ3 y1 y2 y3 y4 y5 y6 y7 y8 y9 y10 y11 y12 y13 y14 y15 y16 y17 y18 y19 y20 y21 y22 y23 y24; have hZ3 := hZ4; clear hZ4; obtain ⟨y1, y2, y3, y4, y5, y6, y7, y8, y9, y10, y11, y12, y13, y14, y15, y16, y17, y18, y19, y20, y21, y22, y23, y24⟩ := ChVars.cells hZ3)
            | (go_at_call 89; (refine (equal_any a.size a b _ A 0 B 0 (Nat.le_refl _) (ChVars.ia (by assumption)) (ChVars.ib (by assumption))).mono ?_); rintro r w3 ⟨rfl, hx3⟩; have hZ4 := ChVars.ext hZ3 hx3; clear hx3 hZ3 y1 y2 y3 y4 y5 y6 y7 y8 y9 y10 y11 y12 y13 y14 y15 y16 y17 y18 y19 y20 y21 y22 y23 y24; have hZ3 := hZ4; clear hZ4; obtain ⟨y1, y2, y3, y4, y5, y6, y7, y8, y9, y10, y11, y12, y13, y14, y15, y16, y17, y18, y19, y20, y21, y22, y23, y24⟩ := ChVars.cells hZ3))
          exact cho_end (e' := b) rfl rfl (by assumption) (by simp [choS, h_x1, h_al, h_x0]) HKB.out
        | false =>
          go_wp2_with (first
            | (go_at_call 66; (first | (with_reducible refine (isConst_any x (.agg #[.int .i64 x.op, .int .i64 x.wd, .int .i64 x.n, .slice xa xl xc]) _ _ (ChVars.vx (by assumption))).mono ?_) | (with_reducible refine (isConst_any a (.agg #[.int .i64 a.op, .int .i64 a.wd, .int .i64 a.n, .slice aa al ac]) _ _ (ChVars.va (by assumption))).mono ?_) | (with_reducible refine (isConst_any b (.agg #[.int .i64 b.op, .int .i64 b.wd, .int .i64 b.n, .slice ba bl bc]) _ _ (ChVars.vb (by assumption))).mono ?_)); rintro r w3 ⟨rfl, hx3⟩; have hZ4 := ChVars.ext hZ3 hx3; clear hx3 hZ3 y1 y2 y3 y4 y5 y6 y7 y8 y9 y10 y11 y12 y13 y14 y15 y16 y17 y18 y19 y20 y21 y22 y23 y24; have hZ3 := hZ4; clear hZ4; obtain ⟨y1, y2, y3, y4, y5, y6, y7, y8, y9, y10, y11, y12, y13, y14, y15, y16, y17, y18, y19, y20, y21, y22, y23, y24⟩ := ChVars.cells hZ3)
            | (go_at_call 89; (refine (equal_any a.size a b _ A 0 B 0 (Nat.le_refl _) (ChVars.ia (by assumption)) (ChVars.ib (by assumption))).mono ?_); rintro r w3 ⟨rfl, hx3⟩; have hZ4 := ChVars.ext hZ3 hx3; clear hx3 hZ3 y1 y2 y3 y4 y5 y6 y7 y8 y9 y10 y11 y12 y13 y14 y15 y16 y17 y18 y19 y20 y21 y22 y23 y24; have hZ3 := hZ4; clear hZ4; obtain ⟨y1, y2, y3, y4, y5, y6, y7, y8, y9, y10, y11, y12, y13, y14, y15, y16, y17, y18, y19, y20, y21, y22, y23, y24⟩ := ChVars.cells hZ3))
          exact cho_end (e' := a) rfl rfl (by assumption) (by simp [choS, h_x1, h_al, h_x0]) HKA.out
      | false =>
        cases h_x0 : x.isC 0 with
        | true =>
          go_wp2_with (first
            | (go_at_call 66; (first | (with_reducible refine (isConst_any x (.agg #[.int .i64 x.op, .int .i64 x.wd, .int .i64 x.n, .slice xa xl xc]) _ _ (ChVars.vx (by assumption))).mono ?_) | (with_reducible refine (isConst_any a (.agg #[.int .i64 a.op, .int .i64 a.wd, .int .i64 a.n, .slice aa al ac]) _ _ (ChVars.va (by assumption))).mono ?_) | (with_reducible refine (isConst_any b (.agg #[.int .i64 b.op, .int .i64 b.wd, .int .i64 b.n, .slice ba bl bc]) _ _ (ChVars.vb (by assumption))).mono ?_)); rintro r w3 ⟨rfl, hx3⟩; have hZ4 := ChVars.ext hZ3 hx3; clear hx3 hZ3 y1 y2 y3 y4 y5 y6 y7 y8 y9 y10 y11 y12 y13 y14 y15 y16 y17 y18 y19 y20 y21 y22 y23 y24; have hZ3 := hZ4; clear hZ4; obtain ⟨y1, y2, y3, y4, y5, y6, y7, y8, y9, y10, y11, y12, y13, y14, y15, y16, y17, y18, y19, y20, y21, y22, y23, y24⟩ := ChVars.cells hZ3)
            | (go_at_call 89; (refine (equal_any a.size a b _ A 0 B 0 (Nat.le_refl _) (ChVars.ia (by assumption)) (ChVars.ib (by assumption))).mono ?_); rintro r w3 ⟨rfl, hx3⟩; have hZ4 := ChVars.ext hZ3 hx3; clear hx3 hZ3 y1 y2 y3 y4 y5 y6 y7 y8 y9 y10 y11 y12 y13 y14 y15 y16 y17 y18 y19 y20 y21 y22 y23 y24; have hZ3 := hZ4; clear hZ4; obtain ⟨y1, y2, y3, y4, y5, y6, y7, y8, y9, y10, y11, y12, y13, y14, y15, y16, y17, y18, y19, y20, y21, y22, y23, y24⟩ := ChVars.cells hZ3))
          exact cho_end (e' := b) rfl rfl (by assumption) (by simp [choS, h_x1, h_al, h_x0]) HKB.out
        | false =>
          by_cases h_w : wd = 1
          · have h_wb : ((wd : Int) == 1) = true := by rw [beq_iff_eq]; exact h_w
            have h_wn := Lib.hid h_w; clear h_w
            cases h_a1 : a.isC 1 with
            | true =>
              have h_a0 : a.isC 0 = false := isC_other h_a1 (by decide)
              cases h_b0 : b.isC 0 with
              | true =>
                go_wp2_with (first
                  | (go_at_call 66; (first | (with_reducible refine (isConst_any x (.agg #[.int .i64 x.op, .int .i64 x.wd, .int .i64 x.n, .slice xa xl xc]) _ _ (ChVars.vx (by assumption))).mono ?_) | (with_reducible refine (isConst_any a (.agg #[.int .i64 a.op, .int .i64 a.wd, .int .i64 a.n, .slice aa al ac]) _ _ (ChVars.va (by assumption))).mono ?_) | (with_reducible refine (isConst_any b (.agg #[.int .i64 b.op, .int .i64 b.wd, .int .i64 b.n, .slice ba bl bc]) _ _ (ChVars.vb (by assumption))).mono ?_)); rintro r w3 ⟨rfl, hx3⟩; have hZ4 := ChVars.ext hZ3 hx3; clear hx3 hZ3 y1 y2 y3 y4 y5 y6 y7 y8 y9 y10 y11 y12 y13 y14 y15 y16 y17 y18 y19 y20 y21 y22 y23 y24; have hZ3 := hZ4; clear hZ4; obtain ⟨y1, y2, y3, y4, y5, y6, y7, y8, y9, y10, y11, y12, y13, y14, y15, y16, y17, y18, y19, y20, y21, y22, y23, y24⟩ := ChVars.cells hZ3)
                  | (go_at_call 89; (refine (equal_any a.size a b _ A 0 B 0 (Nat.le_refl _) (ChVars.ia (by assumption)) (ChVars.ib (by assumption))).mono ?_); rintro r w3 ⟨rfl, hx3⟩; have hZ4 := ChVars.ext hZ3 hx3; clear hx3 hZ3 y1 y2 y3 y4 y5 y6 y7 y8 y9 y10 y11 y12 y13 y14 y15 y16 y17 y18 y19 y20 y21 y22 y23 y24; have hZ3 := hZ4; clear hZ4; obtain ⟨y1, y2, y3, y4, y5, y6, y7, y8, y9, y10, y11, y12, y13, y14, y15, y16, y17, y18, y19, y20, y21, y22, y23, y24⟩ := ChVars.cells hZ3))
                exact cho_end (e' := x) rfl rfl (by assumption) (by simp [choS, h_x1, h_al, h_x0, h_wn.out, h_a1, h_b0]) HKX.out
              | false =>
                go_wp2_with (first
                  | (go_at_call 66; (first | (with_reducible refine (isConst_any x (.agg #[.int .i64 x.op, .int .i64 x.wd, .int .i64 x.n, .slice xa xl xc]) _ _ (ChVars.vx (by assumption))).mono ?_) | (with_reducible refine (isConst_any a (.agg #[.int .i64 a.op, .int .i64 a.wd, .int .i64 a.n, .slice aa al ac]) _ _ (ChVars.va (by assumption))).mono ?_) | (with_reducible refine (isConst_any b (.agg #[.int .i64 b.op, .int .i64 b.wd, .int .i64 b.n, .slice ba bl bc]) _ _ (ChVars.vb (by assumption))).mono ?_)); rintro r w3 ⟨rfl, hx3⟩; have hZ4 := ChVars.ext hZ3 hx3; clear hx3 hZ3 y1 y2 y3 y4 y5 y6 y7 y8 y9 y10 y11 y12 y13 y14 y15 y16 y17 y18 y19 y20 y21 y22 y23 y24; have hZ3 := hZ4; clear hZ4; obtain ⟨y1, y2, y3, y4, y5, y6, y7, y8, y9, y10, y11, y12, y13, y14, y15, y16, y17, y18, y19, y20, y21, y22, y23, y24⟩ := ChVars.cells hZ3)
                  | (go_at_call 89; (refine (equal_any a.size a b _ A 0 B 0 (Nat.le_refl _) (ChVars.ia (by assumption)) (ChVars.ib (by assumption))).mono ?_); rintro r w3 ⟨rfl, hx3⟩; have hZ4 := ChVars.ext hZ3 hx3; clear hx3 hZ3 y1 y2 y3 y4 y5 y6 y7 y8 y9 y10 y11 y12 y13 y14 y15 y16 y17 y18 y19 y20 y21 y22 y23 y24; have hZ3 := hZ4; clear hZ4; obtain ⟨y1, y2, y3, y4, y5, y6, y7, y8, y9, y10, y11, y12, y13, y14, y15, y16, y17, y18, y19, y20, y21, y22, y23, y24⟩ := ChVars.cells hZ3))
                exact cho_end (e' := .mk 14 wd 0 [x, a, b]) rfl rfl (by assumption) (by simp [choS, h_x1, h_al, h_x0, h_wn.out, h_a1, h_b0, h_a0]) HKN.out
            | false =>
              cases h_a0 : a.isC 0 with
              | true =>
                cases h_b1 : b.isC 1 with
                | true =>
                  by_cases h4 : x.op = 4
                  · have hne := h4x h4
                    have hlen : 0 < x.kids.length := List.length_pos_iff.2 hne
                    obtain ⟨zb, zo, rfl, rfl⟩ : ∃ zb zo, xa = some ⟨zb, zo, none⟩ ∧ xl = x.kids.length := by
                      rcases HKX.out with ⟨_, h⟩ | ⟨zb, zo, cap, h, _⟩
                      · exact absurd h hne
                      · cases h; exact ⟨zb, zo, rfl, rfl⟩
                    obtain ⟨ka, kl, kc, k0, k1, k2, k3, hkk⟩ := HKX.out.get 0 hlen
                    simp only [Nat.zero_mul, Nat.add_zero] at k0 k1 k2 k3
                    have HN : Hid (x.neg = x.kids[0]) := by simp [Hid, E.neg, h4, List.getD_eq_getElem?_getD, hlen]
                    have H4 := Lib.hid h4; have HKK := Lib.hid hkk
                    clear h4 hkk hne
                    generalize x.kids[0] = kid at *
                    go_wp2_with (first
                      | (go_at_call 66; (first | (with_reducible refine (isConst_any x (.agg #[.int .i64 x.op, .int .i64 x.wd, .int .i64 x.n, .slice (some ⟨zb, zo, none⟩) x.kids.length xc]) _ _ (ChVars.vx (by assumption))).mono ?_) | (with_reducible refine (isConst_any a (.agg #[.int .i64 a.op, .int .i64 a.wd, .int .i64 a.n, .slice aa al ac]) _ _ (ChVars.va (by assumption))).mono ?_) | (with_reducible refine (isConst_any b (.agg #[.int .i64 b.op, .int .i64 b.wd, .int .i64 b.n, .slice ba bl bc]) _ _ (ChVars.vb (by assumption))).mono ?_)); rintro r w3 ⟨rfl, hx3⟩; have hZ4 := ChVars.ext hZ3 hx3; clear hx3 hZ3 y1 y2 y3 y4 y5 y6 y7 y8 y9 y10 y11 y12 y13 y14 y15 y16 y17 y18 y19 y20 y21 y22 y23 y24; have hZ3 := hZ4; clear hZ4; obtain ⟨y1, y2, y3, y4, y5, y6, y7, y8, y9, y10, y11, y12, y13, y14, y15, y16, y17, y18, y19, y20, y21, y22, y23, y24⟩ := ChVars.cells hZ3)
                      | (go_at_call 89; (refine (equal_any a.size a b _ A 0 B 0 (Nat.le_refl _) (ChVars.ia (by assumption)) (ChVars.ib (by assumption))).mono ?_); rintro r w3 ⟨rfl, hx3⟩; have hZ4 := ChVars.ext hZ3 hx3; clear hx3 hZ3 y1 y2 y3 y4 y5 y6 y7 y8 y9 y10 y11 y12 y13 y14 y15 y16 y17 y18 y19 y20 y21 y22 y23 y24; have hZ3 := hZ4; clear hZ4; obtain ⟨y1, y2, y3, y4, y5, y6, y7, y8, y9, y10, y11, y12, y13, y14, y15, y16, y17, y18, y19, y20, y21, y22, y23, y24⟩ := ChVars.cells hZ3))
                    have hJ : ChVars w w3 C A B wd x a b _ _ _ _ := hZ3
                    refine (negation_kid x.op _ _ H4.out zb zo _ _ kid.op kid.wd kid.n ka kl kc _ hlen (hJ.ext0.cell k0) (hJ.ext0.cell k1) (hJ.ext0.cell k2) (hJ.ext0.cell k3)).mono ?_
                    rintro r w4 ⟨rfl, hx4⟩
                    have hZ4 := hJ.ext hx4
                    obtain ⟨x1, x2, x3, x4, x5, x6, x7, x8, x9, x10, x11, x12, x13, x14, x15, x16, x17, x18, x19, x20, x21, x22, x23, x24⟩ := ChVars.cells hZ4
                    clear hx4
                    go_wp2_with fail
                    exact cho_end (e' := kid) rfl rfl hZ4 (by simp [choS, HN.out, h_x1, h_al, h_x0, h_wn.out, h_a1, h_a0, h_b1]) HKK.out
                  · have h4' := Lib.hid h4
                    clear h4
                    go_wp2_with (first
                      | (go_at_call 66; (first | (with_reducible refine (isConst_any x (.agg #[.int .i64 x.op, .int .i64 x.wd, .int .i64 x.n, .slice xa xl xc]) _ _ (ChVars.vx (by assumption))).mono ?_) | (with_reducible refine (isConst_any a (.agg #[.int .i64 a.op, .int .i64 a.wd, .int .i64 a.n, .slice aa al ac]) _ _ (ChVars.va (by assumption))).mono ?_) | (with_reducible refine (isConst_any b (.agg #[.int .i64 b.op, .int .i64 b.wd, .int .i64 b.n, .slice ba bl bc]) _ _ (ChVars.vb (by assumption))).mono ?_)); rintro r w3 ⟨rfl, hx3⟩; have hZ4 := ChVars.ext hZ3 hx3; clear hx3 hZ3 y1 y2 y3 y4 y5 y6 y7 y8 y9 y10 y11 y12 y13 y14 y15 y16 y17 y18 y19 y20 y21 y22 y23 y24; have hZ3 := hZ4; clear hZ4; obtain ⟨y1, y2, y3, y4, y5, y6, y7, y8, y9, y10, y11, y12, y13, y14, y15, y16, y17, y18, y19, y20, y21, y22, y23, y24⟩ := ChVars.cells hZ3)
                      | (go_at_call 89; (refine (equal_any a.size a b _ A 0 B 0 (Nat.le_refl _) (ChVars.ia (by assumption)) (ChVars.ib (by assumption))).mono ?_); rintro r w3 ⟨rfl, hx3⟩; have hZ4 := ChVars.ext hZ3 hx3; clear hx3 hZ3 y1 y2 y3 y4 y5 y6 y7 y8 y9 y10 y11 y12 y13 y14 y15 y16 y17 y18 y19 y20 y21 y22 y23 y24; have hZ3 := hZ4; clear hZ4; obtain ⟨y1, y2, y3, y4, y5, y6, y7, y8, y9, y10, y11, y12, y13, y14, y15, y16, y17, y18, y19, y20, y21, y22, y23, y24⟩ := ChVars.cells hZ3))
                    refine (negation_new x xa xl xc _ h4'.out).mono ?_
                    rintro r w4 ⟨rfl, hx4, hb4⟩
                    have hJ : ChVars w w3 C A B wd x a b _ _ _ _ := hZ3
                    obtain ⟨x1, x2, x3, x4, x5, x6, x7, x8, x9, x10, x11, x12, x13, x14, x15, x16, x17, x18, x19, x20, x21, x22, x23, x24⟩ := ChVars.cells (hJ.ext hx4)
                    have HX4 := Lib.hid hx4; have HB4 := Lib.hid hb4; have hs3 : w.heap.size + 1 < w3.heap.size := heap_lt hJ.2.2.1
                    clear hx4 hb4
                    go_wp2_with fail
                    exact cho_end_new (e := x) rfl rfl hN hJ HX4.out (by omega) HB4.out (by simp [choS, E.neg, h4'.out, h_x1, h_al, h_x0, h_wn.out, h_a1, h_a0, h_b1]) HKX.out
                | false =>
                  go_wp2_with (first
                    | (go_at_call 66; (first | (with_reducible refine (isConst_any x (.agg #[.int .i64 x.op, .int .i64 x.wd, .int .i64 x.n, .slice xa xl xc]) _ _ (ChVars.vx (by assumption))).mono ?_) | (with_reducible refine (isConst_any a (.agg #[.int .i64 a.op, .int .i64 a.wd, .int .i64 a.n, .slice aa al ac]) _ _ (ChVars.va (by assumption))).mono ?_) | (with_reducible refine (isConst_any b (.agg #[.int .i64 b.op, .int .i64 b.wd, .int .i64 b.n, .slice ba bl bc]) _ _ (ChVars.vb (by assumption))).mono ?_)); rintro r w3 ⟨rfl, hx3⟩; have hZ4 := ChVars.ext hZ3 hx3; clear hx3 hZ3 y1 y2 y3 y4 y5 y6 y7 y8 y9 y10 y11 y12 y13 y14 y15 y16 y17 y18 y19 y20 y21 y22 y23 y24; have hZ3 := hZ4; clear hZ4; obtain ⟨y1, y2, y3, y4, y5, y6, y7, y8, y9, y10, y11, y12, y13, y14, y15, y16, y17, y18, y19, y20, y21, y22, y23, y24⟩ := ChVars.cells hZ3)
                    | (go_at_call 89; (refine (equal_any a.size a b _ A 0 B 0 (Nat.le_refl _) (ChVars.ia (by assumption)) (ChVars.ib (by assumption))).mono ?_); rintro r w3 ⟨rfl, hx3⟩; have hZ4 := ChVars.ext hZ3 hx3; clear hx3 hZ3 y1 y2 y3 y4 y5 y6 y7 y8 y9 y10 y11 y12 y13 y14 y15 y16 y17 y18 y19 y20 y21 y22 y23 y24; have hZ3 := hZ4; clear hZ4; obtain ⟨y1, y2, y3, y4, y5, y6, y7, y8, y9, y10, y11, y12, y13, y14, y15, y16, y17, y18, y19, y20, y21, y22, y23, y24⟩ := ChVars.cells hZ3))
                  exact cho_end (e' := .mk 14 wd 0 [x, a, b]) rfl rfl (by assumption) (by simp [choS, h_x1, h_al, h_x0, h_wn.out, h_a1, h_a0, h_b1]) HKN.out
              | false =>
                go_wp2_with (first
                  | (go_at_call 66; (first | (with_reducible refine (isConst_any x (.agg #[.int .i64 x.op, .int .i64 x.wd, .int .i64 x.n, .slice xa xl xc]) _ _ (ChVars.vx (by assumption))).mono ?_) | (with_reducible refine (isConst_any a (.agg #[.int .i64 a.op, .int .i64 a.wd, .int .i64 a.n, .slice aa al ac]) _ _ (ChVars.va (by assumption))).mono ?_) | (with_reducible refine (isConst_any b (.agg #[.int .i64 b.op, .int .i64 b.wd, .int .i64 b.n, .slice ba bl bc]) _ _ (ChVars.vb (by assumption))).mono ?_)); rintro r w3 ⟨rfl, hx3⟩; have hZ4 := ChVars.ext hZ3 hx3; clear hx3 hZ3 y1 y2 y3 y4 y5 y6 y7 y8 y9 y10 y11 y12 y13 y14 y15 y16 y17 y18 y19 y20 y21 y22 y23 y24; have hZ3 := hZ4; clear hZ4; obtain ⟨y1, y2, y3, y4, y5, y6, y7, y8, y9, y10, y11, y12, y13, y14, y15, y16, y17, y18, y19, y20, y21, y22, y23, y24⟩ := ChVars.cells hZ3)
                  | (go_at_call 89; (refine (equal_any a.size a b _ A 0 B 0 (Nat.le_refl _) (ChVars.ia (by assumption)) (ChVars.ib (by assumption))).mono ?_); rintro r w3 ⟨rfl, hx3⟩; have hZ4 := ChVars.ext hZ3 hx3; clear hx3 hZ3 y1 y2 y3 y4 y5 y6 y7 y8 y9 y10 y11 y12 y13 y14 y15 y16 y17 y18 y19 y20 y21 y22 y23 y24; have hZ3 := hZ4; clear hZ4; obtain ⟨y1, y2, y3, y4, y5, y6, y7, y8, y9, y10, y11, y12, y13, y14, y15, y16, y17, y18, y19, y20, y21, y22, y23, y24⟩ := ChVars.cells hZ3))
                exact cho_end (e' := .mk 14 wd 0 [x, a, b]) rfl rfl (by assumption) (by simp [choS, h_x1, h_al, h_x0, h_wn.out, h_a1, h_a0]) HKN.out
          · have h_wb : ((wd : Int) == 1) = false := by rw [beq_eq_false_iff_ne]; exact h_w
            have h_wn := Lib.hid h_w; clear h_w
            go_wp2_with (first
              | (go_at_call 66; (first | (with_reducible refine (isConst_any x (.agg #[.int .i64 x.op, .int .i64 x.wd, .int .i64 x.n, .slice xa xl xc]) _ _ (ChVars.vx (by assumption))).mono ?_) | (with_reducible refine (isConst_any a (.agg #[.int .i64 a.op, .int .i64 a.wd, .int .i64 a.n, .slice aa al ac]) _ _ (ChVars.va (by assumption))).mono ?_) | (with_reducible refine (isConst_any b (.agg #[.int .i64 b.op, .int .i64 b.wd, .int .i64 b.n, .slice ba bl bc]) _ _ (ChVars.vb (by assumption))).mono ?_)); rintro r w3 ⟨rfl, hx3⟩; have hZ4 := ChVars.ext hZ3 hx3; clear hx3 hZ3 y1 y2 y3 y4 y5 y6 y7 y8 y9 y10 y11 y12 y13 y14 y15 y16 y17 y18 y19 y20 y21 y22 y23 y24; have hZ3 := hZ4; clear hZ4; obtain ⟨y1, y2, y3, y4, y5, y6, y7, y8, y9, y10, y11, y12, y13, y14, y15, y16, y17, y18, y19, y20, y21, y22, y23, y24⟩ := ChVars.cells hZ3)
              | (go_at_call 89; (refine (equal_any a.size a b _ A 0 B 0 (Nat.le_refl _) (ChVars.ia (by assumption)) (ChVars.ib (by assumption))).mono ?_); rintro r w3 ⟨rfl, hx3⟩; have hZ4 := ChVars.ext hZ3 hx3; clear hx3 hZ3 y1 y2 y3 y4 y5 y6 y7 y8 y9 y10 y11 y12 y13 y14 y15 y16 y17 y18 y19 y20 y21 y22 y23 y24; have hZ3 := hZ4; clear hZ4; obtain ⟨y1, y2, y3, y4, y5, y6, y7, y8, y9, y10, y11, y12, y13, y14, y15, y16, y17, y18, y19, y20, y21, y22, y23, y24⟩ := ChVars.cells hZ3))
            exact cho_end (e' := .mk 14 wd 0 [x, a, b]) rfl rfl (by assumption) (by simp [choS, h_x1, h_al, h_x0, h_wn.out]) HKN.out
end Go.Proofs.YtdancokndklpnaaDoor
