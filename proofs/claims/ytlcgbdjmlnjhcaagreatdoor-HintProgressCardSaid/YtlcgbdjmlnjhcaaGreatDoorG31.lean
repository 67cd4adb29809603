/-
  The walk of hint.choose.
-/
import Derived.Test.YtlcgbdjmlnjhcaaGreatDoorG30
namespace Go.Proofs.YtlcgbdjmlnjhcaaGreatDoor
open Go.RowKit Go.Shelf
attribute [local go_sem] Oper.semAt_some

def chF (cells : List CellD) (a b : List Int) (j : Nat) : Bool := decide (j < cells.length) && (a.contains (j : Int) || b.contains (j : Int))
/-- The part when k cells were looked at. -/
structure PartI (w0 : World) (q : Nat) (cells : List CellD) (a b : List Int) (k : Nat) (wr : World) : Prop where
  ext : Ext w0 wr
  rows : ∃ u1 u2, Part3 wr q u1 u2 (sumI (wOf cells (upTo (chF cells a b) k))) (upTo (chF cells a b) k) (wOf cells (upTo (chF cells a b) k))
theorem upTo_len (f : Nat → Bool) (k : Nat) : (upTo f k).length ≤ k := by
  unfold upTo; rw [List.length_map]; exact Nat.le_trans (List.length_filter_le _ _) (by simp)
theorem wOf_app (cells : List CellD) (l : List Int) (c : Int) : wOf cells (l ++ [c]) = wOf cells l ++ [wAt cells c] := by simp [wOf]
theorem sumI_snoc (l : List Int) (x : Int) : sumI (l ++ [x]) = sumI l + x := by unfold sumI; rw [List.foldl_append]; rfl
theorem upTo_more {f : Nat → Bool} {k : Nat} : ∀ d, (∀ j, k ≤ j → j < k + d → f j = false) → upTo f (k + d) = upTo f k := by
  intro d
  induction d with
  | zero => intro _; rfl
  | succ d ih => intro h; rw [← Nat.add_assoc, upTo_succ_false (h _ (by omega) (by omega)), ih fun j h1 h2 => h j h1 (by omega)]
theorem choose_min (cells : List CellD) (a b : List Int) : upTo (chF cells a b) (min cells.length 32) = chooseL cells a b := by
  have h := upTo_more (f := chF cells a b) (k := min cells.length 32) (32 - min cells.length 32) fun j h1 h2 => by
    unfold chF
    rw [decide_eq_false (show ¬ j < cells.length by omega)]; rfl
  rw [show min cells.length 32 + (32 - min cells.length 32) = 32 by omega] at h
  exact h.symm

theorem sizePart : (Tryz.prog.info? 64).map (·.size) = some 3 := by kernel_rfl
set_option maxRecDepth 100000 in
set_option maxHeartbeats 8000000 in
theorem Choose_any (cells : List CellD) (a b : List Int) (cv va vb : Value) (w : World) (hC : Cells w cv cells) (ha : Ints w va a) (hb : Ints w vb b) (hw : ∀ c ∈ chooseL cells a b, 1 ≤ wAt cells c ∧ wAt cells c ≤ 8) :
    Calls Tryz.prog 64 #[cv, va, vb] w fun r w' => (∃ v1 v2, r = .returned (.agg #[v1, v2, .int .i64 (sumI (wOf cells (chooseL cells a b)))]) ∧ OwnInts w' w.heap.size v1 (chooseL cells a b) ∧ OwnInts w' w.heap.size v2 (wOf cells (chooseL cells a b))) ∧ Ext w w' := by
  obtain ⟨ca, cc, rfl⟩ := SliceAt.shape hC
  obtain ⟨aa, ac, rfl⟩ := SliceAt.shape ha
  obtain ⟨ba, bc, rfl⟩ := SliceAt.shape hb
  have hcl := SliceAt.len_le hC
  obtain ⟨W, hW⟩ : ∃ W, W = (w.alloc (.cells #[.slice none 0 0, .slice none 0 0, .int .i64 0] 64)).alloc (.cells #[.slice none 0 0, .slice none 0 0, .int .i64 0] 64) := ⟨_, rfl⟩
  have hB := Boxes.mk' w (.cells #[.slice none 0 0, .slice none 0 0, .int .i64 0] 64) (.cells #[.slice none 0 0, .slice none 0 0, .int .i64 0] 64)
  rw [← hW] at hB
  obtain ⟨w1, hw1⟩ : ∃ w1, w1 = w.alloc (.cells #[.slice none 0 0, .slice none 0 0, .int .i64 0] 64) := ⟨_, rfl⟩
  have x01 : Ext w w1 := by rw [hw1]; exact (Ext.refl w).alloc _
  have hz1 : w1.heap.size = w.heap.size + 1 := by rw [hw1]; simp
  have x1W : Ext w1 W := by rw [hW, hw1]; exact (Ext.refl _).alloc _
  have hr0 : w1.heap[w.heap.size]? = some (.cells #[.slice none 0 0, .slice none 0 0, .int .i64 0] 64 (0, 0)) := by rw [hw1]; exact heap_new _ _
  have HW := Lib.hid hW; have HC := Lib.hid (hC.ext x01); have HA := Lib.hid (ha.ext x01); have HBB := Lib.hid (hb.ext x01); have HWD := Lib.hid hw; have X01 := Lib.hid x01; have HR0 := Lib.hid hr0; have HZ1 := Lib.hid hz1
  have HI0 : Hid (PartI w1 (w.heap.size + 1) cells a b 0 W) := ⟨x1W, _, _, hB.b1, OwnInts.nil _ _, OwnInts.nil _ _, fun x e => by cases e⟩
  clear hB hW hC ha hb hw hw1 x01 hz1 x1W hr0
  go_enter Tryz.func64, Tryz.ntmps64
  go_upto_region 2 with fail
  rw [← HW.out]; clear HW
  obtain ⟨N, hN⟩ : ∃ N, N = min cells.length 32 := ⟨_, rfl⟩
  have hmin : min (cells.length : Int) 32 = (N : Int) := by omega
  have hN32 : N ≤ 32 := by omega
  have HNC : Hid (N = min cells.length 32) := hN
  clear hN
  generalize hq : w.heap.size + 1 = q at *
  have HQ := Lib.hid hq
  clear hq
  have HSUM : Hid (∀ k, k ≤ N → 0 ≤ sumI (wOf cells (upTo (chF cells a b) k)) ∧ sumI (wOf cells (upTo (chF cells a b) k)) ≤ 8 * k) := by
    intro k
    induction k with
    | zero => intro _; exact ⟨Int.le_refl _, Int.le_refl _⟩
    | succ k ih =>
      intro hk
      have h1 := ih (by omega)
      cases hf : chF cells a b k with
      | false => rw [upTo_succ_false (f := chF cells a b) hf]; omega
      | true =>
        have hm := HWD.out (k : Int) (mem_upTo' (f := chF cells a b) (by omega) hf)
        rw [upTo_succ_true (f := chF cells a b) hf, wOf_app, sumI_snoc]; omega
  go_wp2_with fail
  go_loopw [12] (fun kv wr => ∃ k : Nat, k ≤ N ∧ kv = .int .i64 k ∧ PartI w1 q cells a b k wr) (fun kv _ => N - (intOf kv).toNat)
  case atStart => exact ⟨0, Nat.zero_le _, rfl, HI0.out⟩
  case round =>
    obtain ⟨k, hk, rfl, hI⟩ := hrel
    have HI := Lib.hid hI; clear hI
    by_cases hlt : k < N
    · have hlt' : (k : Int) < (N : Int) := by omega
      have hkc : k < cells.length := by have := HNC.out; omega
      go_wp2_with fail
      refine (Contains_any a (k : Int) _ wr (HA.out.ext HI.out.ext)).mono ?_
      rintro r w8 ⟨rfl, rfl⟩
      cases hA : a.contains (k : Int) with
      | true =>
        have HOR : (a.contains (k : Int) || b.contains (k : Int)) = true := by rw [hA]; rfl
        clear hA
        have HS : Hid (upTo (chF cells a b) (k + 1) = upTo (chF cells a b) k ++ [(k : Int)]) := upTo_succ_true (f := chF cells a b) (by unfold chF; rw [decide_eq_true hkc, HOR]; rfl)
        have hwk := HWD.out (k : Int) (choose_mem.2 ⟨k, rfl, by omega, hkc, by simpa using HOR⟩)
        clear HOR
        obtain ⟨hxI, u1, u2, hp⟩ := HI.out
        have HXI := Lib.hid hxI; have HP := Lib.hid hp
        obtain ⟨p1, d1, rfl⟩ := hp.o1.ints.shape
        obtain ⟨p2, d2, rfl⟩ := hp.o2.ints.shape
        have hlen := upTo_length (chF cells a b) k
        have HSM : Hid (0 ≤ sumI (wOf cells (upTo (chF cells a b) k)) ∧ sumI (wOf cells (upTo (chF cells a b) k)) ≤ 8 * k) := HSUM.out k (by omega)
        have hsz : q + 1 ≤ w8.heap.size := lt_heap hp.blk
        have hW := wOf_app cells (upTo (chF cells a b) k) (k : Int)
        have HWS : Hid (wOf cells (upTo (chF cells a b) (k + 1)) = wOf cells (upTo (chF cells a b) k) ++ [wAt cells (k : Int)]) := by unfold Hid; rw [HS.out]; exact hW
        have HTS : Hid (sumI (wOf cells (upTo (chF cells a b) (k + 1))) = sumI (wOf cells (upTo (chF cells a b) k)) + wAt cells (k : Int)) := by unfold Hid; rw [HWS.out, sumI_snoc]
        have hl2 : (wOf cells (upTo (chF cells a b) k)).length ≤ 32 := by rw [wOf_len]; omega
        have hxc : ∃ (cb co : Nat), ca = some ⟨cb, co, none⟩ ∧ w1.cell? ⟨cb, co + k * 6 + 1, none⟩ = some (.int .i64 (wAt cells (k : Int))) := by
          rcases HC.out with ⟨_, e⟩ | ⟨cb, co, cap', e, _, hcc⟩
          · rw [e] at hkc; simp at hkc
          cases e
          refine ⟨cb, co, rfl, ?_⟩
          have h2 := (hcc k hkc).2.1
          rw [h2]
          congr 2
          unfold wAt
          simp [hkc]
        obtain ⟨cb, co, rfl, hcW⟩ := hxc
        have HCW := Lib.hid hcW
        have c0 := hp.cells.1
        clear hxI hp hW HI hcW
        generalize wAt cells (k : Int) = x at *
        generalize hl1 : upTo (chF cells a b) k = l1 at *
        have HL1 := Lib.hid hl1; clear hl1
        generalize hl2e : wOf cells l1 = l2 at *
        have HL2E := Lib.hid hl2e; clear hl2e
        generalize hse : sumI l2 = s at *
        have HSE := Lib.hid hse; clear hse
        go_wp2_with (at_builtin; refine wpList_append_intL rfl (.tmp 24) (.tmp 26) rfl (q + 1) w8 _ l1 (k : Int) rfl rfl HP.out.o1 (by omega) hsz ?_)
        intro g cap w5 ho hg hn
        have hb5 := HP.out.grown hg fun k e => HP.out.o1.base k e
        have k5 : w5.cell? ⟨q, 0, none⟩ = some (.slice p1 l1.length d1) := by rw [Lib.cell_of_heap hb5]; rfl
        have f5 := Lib.frozen_of_heap hb5 0
        have HP6 := Lib.hid (HP.out.put1 ho hg hn)
        have HX6 : Hid (Ext w1 (w5.setCell ⟨q, 0, none⟩ (.slice (some ⟨g, 0, none⟩) (l1.length + 1) cap))) :=
          (HXI.out.grown hg fun k e => by have := HP.out.o1.base k e; have := HZ1.out; omega).setCell (p := ⟨q, 0, none⟩) (by have := HZ1.out; show w1.heap.size ≤ q; omega) _
        clear ho hg hn hb5
        go_upto_region 7 with fail
        generalize hV : w5.setCell ⟨q, 0, none⟩ (.slice (some ⟨g, 0, none⟩) (l1.length + 1) cap) = V at *
        clear hV k5 f5 c0
        have HPd : Hid (Part3 V.drew q (.slice (some ⟨g, 0, none⟩) (l1.length + 1) cap) (.slice p2 l2.length d2) s (l1 ++ [(k : Int)]) l2) := HP6.out.later (Ext.refl V).drew
        have HXd : Hid (Ext w1 V.drew) := HX6.out.drew
        have HOLD : Hid (∀ w', Ext w1 w' → w'.cell? ⟨cb, co + k * 6 + 1, none⟩ = some (.int .i64 x)) := fun w' he => he.cell HCW.out
        have hk0 := HOLD.out _ HXd.out
        have c1 : V.drew.cell? ⟨q, 1, none⟩ = some (.slice p2 l2.length d2) := HPd.out.cells.2.1
        have HFIN : Hid (∀ g2 cap2 w6, OwnInts w6 (q + 1) (.slice (some ⟨g2, 0, none⟩) (l2.length + 1) cap2) (l2 ++ [x]) → V.drew.grownBy w6 (Value.slice p2 l2.length d2).ownBlock → ((Value.slice p2 l2.length d2).ownBlock = some g2 ∨ g2 = V.drew.heap.size + 1) →
            Ext w1 w6 ∧ w6.cell? ⟨q, 1, none⟩ = some (.slice p2 l2.length d2) ∧ w6.frozen? ⟨q, 1, none⟩ = false ∧ Ext w1 (w6.setCell ⟨q, 1, none⟩ (.slice (some ⟨g2, 0, none⟩) (l2.length + 1) cap2)) ∧
            Part3 (w6.setCell ⟨q, 1, none⟩ (.slice (some ⟨g2, 0, none⟩) (l2.length + 1) cap2)) q (.slice (some ⟨g, 0, none⟩) (l1.length + 1) cap) (.slice (some ⟨g2, 0, none⟩) (l2.length + 1) cap2) s (l1 ++ [(k : Int)]) (l2 ++ [x])) := by
          intro g2 cap2 w6 ho hg hn
          have hb6 := HPd.out.grown hg fun k e => HPd.out.o2.base k e
          have hx6 : Ext w1 w6 := HXd.out.grown hg fun k e => by have := HPd.out.o2.base k e; have := HZ1.out; omega
          exact ⟨hx6, by rw [Lib.cell_of_heap hb6]; rfl, Lib.frozen_of_heap hb6 1, hx6.setCell (p := ⟨q, 1, none⟩) (by have := HZ1.out; show w1.heap.size ≤ q; omega) _, HPd.out.put2 ho hg hn⟩
        have hs2 : q + 1 ≤ V.drew.heap.size := lt_heap HPd.out.blk
        have HO2 := Lib.hid HPd.out.o2
        have HK0 := Lib.hid hk0
        have HKA : Hid (∀ o, (V.drew.alloc o).cell? ⟨cb, co + k * 6 + 1, none⟩ = some (.int .i64 x)) := fun o => HOLD.out _ (HXd.out.alloc o)
        have HEA : Hid (∀ o, (V.drew.alloc o).cell? ⟨q, 1, none⟩ = some (.slice p2 l2.length d2)) := fun o => ((Ext.refl _).alloc o).cell c1
        clear hk0
        refine wp_normal2 ?_
        refine wp_region_held (S := fun w' => w'.cell? ⟨cb, co + k * 6 + 1, none⟩ = some (.int .i64 x)) (by kernel_rfl) ?_
        change wpAnyH _ _ _ _ _ _ _ _ V.drew
        generalize V.drew = v0 at *
        refine wpAnyH_take (i := 0) (v := .pointer (some ⟨q, 1, none⟩)) rfl (by kernel_rfl) (by kernel_rfl) (by kernel_rfl) (fun _ _ _ h => h) (.inl ⟨rfl, fun w' hx' => by go_simp⟩) HK0.out ?_
        refine wpAnyH_take (i := 2) (v := .slice (some ⟨cb, co, none⟩) cells.length cc) rfl (by kernel_rfl) (by kernel_rfl) (by kernel_rfl) (fun _ _ _ h => h) (.inl ⟨rfl, fun w' hx' => by go_simp⟩) HK0.out ?_
        refine wpAnyH_take (i := 3) (v := .int .i64 (k : Nat)) rfl (by kernel_rfl) (by kernel_rfl) (by kernel_rfl) (fun _ _ _ h => h) (.inl ⟨rfl, fun w' hx' => by go_simp⟩) HK0.out ?_
        refine wpAnyH_take (i := 4) (v := .pointer (some ⟨cb, co + k * 6, none⟩)) rfl (by kernel_rfl) (by kernel_rfl) (by kernel_rfl) (fun _ _ _ h => h) (.inl ⟨rfl, fun w' hx' => by go_simp⟩) HK0.out ?_
        refine wpAnyH_take (i := 5) (v := .pointer (some ⟨cb, co + k * 6 + 1, none⟩)) rfl (by kernel_rfl) (by kernel_rfl) (by kernel_rfl) (fun _ _ _ h => h) (.inl ⟨rfl, fun w' hx' => by go_simp⟩) HK0.out ?_
        refine wpAnyH_take (i := 6) (v := .int .i64 x) rfl (by kernel_rfl) (by kernel_rfl) (by kernel_rfl) (fun _ _ _ h => h) (.inl ⟨rfl, fun w' hx' => by go_simp⟩) HK0.out ?_
        refine wpAnyH_all (rs := [1, 7]) (by kernel_rfl) (by simp) ?_
        intro i hi
        have hi' : i = 1 ∨ i = 7 := by simpa using hi
        clear hi
        rcases hi' with rfl | rfl
        · unfold wpOp
          go_simp
          refine .inl ⟨HK0.out, ?_⟩
          refine wpAnyH_all (rs := [7]) (by kernel_rfl) (by simp) ?_
          intro i hi
          obtain rfl : i = 7 := by simpa using hi
          clear hi
          unfold wpOp
          go_simp
          refine .inl ⟨HKA.out _, ?_⟩
          refine wpAnyH_all (rs := [8]) (by kernel_rfl) (by simp) ?_
          intro i hi
          obtain rfl : i = 8 := by simpa using hi
          clear hi
          refine wpOp_step rfl ?_
          intro KK hKK
          refine step_append_intL rfl (.tmp 30) (.tmp 36) rfl (q + 1) v0 v0.heap.size rfl _ l2 x rfl rfl HO2.out (by omega) hs2 ?_
          intro g2 cap2 w6 ho hg hn
          obtain ⟨z0, z1, z2, z3, z4⟩ := HFIN.out g2 cap2 w6 ho hg hn
          have F0 := Lib.hid (HOLD.out _ z0); have F3 := Lib.hid (HOLD.out _ z3); have Z3 := Lib.hid z3; have Z4 := Lib.hid z4
          clear ho hg hn z0 z3 z4
          refine hKK _ _ ⟨F0.out, ?_⟩
          refine wpAnyH_take (i := 9) (v := .pointer (some ⟨q, 1, none⟩)) rfl (by kernel_rfl) (by kernel_rfl) (by kernel_rfl) (fun _ _ _ h => h) (.inl ⟨rfl, fun w' hx' => by go_simp⟩) F0.out ?_
          refine wpAnyH_all (rs := [10]) (by kernel_rfl) (by simp) ?_
          intro i hi
          obtain rfl : i = 10 := by simpa using hi
          clear hi
          unfold wpOp
          go_simp
          refine .inl ⟨F3.out, ?_⟩
          refine wpAnyH_done (by kernel_rfl) ?_ _
          unfold onlyNormal
          generalize hV6 : w6.setCell ⟨q, 1, none⟩ (.slice (some ⟨g2, 0, none⟩) (l2.length + 1) cap2) = V6 at *
          clear hV6 z1 z2
          obtain ⟨_, _, c3⟩ := Z4.out.cells
          have c4 := HOLD.out _ Z3.out
          have f3 := Lib.frozen_of_heap Z4.out.blk 2
          have hsx := HSM.out
          have hw1 : IntKind.i64.wrap (s + x) = s + x := by rw [IntKind.wrap_i64]; omega
          have HEND : Hid (Ext w1 (V6.setCell ⟨q, 2, none⟩ (.int .i64 (s + x))) ∧ Part3 (V6.setCell ⟨q, 2, none⟩ (.int .i64 (s + x))) q (.slice (some ⟨g, 0, none⟩) (l1.length + 1) cap) (.slice (some ⟨g2, 0, none⟩) (l2.length + 1) cap2) (s + x) (l1 ++ [(k : Int)]) (l2 ++ [x])) :=
            ⟨Z3.out.setCell (p := ⟨q, 2, none⟩) (by have := HZ1.out; show w1.heap.size ≤ q; omega) _, Z4.out.put3 _⟩
          go_upto_region 8 with fail
          go_still_tail 9, (by kernel_rfl)
          go_wp2_with fail
          refine ⟨⟨k + 1, by omega, by go_num, HEND.out.1.drewN 1, ?_⟩, by simp [intOf]; omega⟩
          rw [HTS.out, HWS.out, HS.out]
          exact ⟨_, _, HEND.out.2.later ((Ext.refl _).drewN 1)⟩
        · unfold wpOp
          go_simp
          refine .inl ⟨HKA.out _, ?_⟩
          have e1 := HEA.out (.cells #[.int .i64 x] 3)
          refine wpAnyH_all (rs := [1]) (by kernel_rfl) (by simp) ?_
          intro i hi
          obtain rfl : i = 1 := by simpa using hi
          clear hi
          unfold wpOp
          go_simp
          refine .inl ⟨HKA.out _, ?_⟩
          refine wpAnyH_all (rs := [8]) (by kernel_rfl) (by simp) ?_
          intro i hi
          obtain rfl : i = 8 := by simpa using hi
          clear hi
          refine wpOp_step rfl ?_
          intro KK hKK
          refine step_append_intL rfl (.tmp 30) (.tmp 36) rfl (q + 1) v0 v0.heap.size rfl _ l2 x rfl rfl HO2.out (by omega) hs2 ?_
          intro g2 cap2 w6 ho hg hn
          obtain ⟨z0, z1, z2, z3, z4⟩ := HFIN.out g2 cap2 w6 ho hg hn
          have F0 := Lib.hid (HOLD.out _ z0); have F3 := Lib.hid (HOLD.out _ z3); have Z3 := Lib.hid z3; have Z4 := Lib.hid z4
          clear ho hg hn z0 z3 z4
          refine hKK _ _ ⟨F0.out, ?_⟩
          refine wpAnyH_take (i := 9) (v := .pointer (some ⟨q, 1, none⟩)) rfl (by kernel_rfl) (by kernel_rfl) (by kernel_rfl) (fun _ _ _ h => h) (.inl ⟨rfl, fun w' hx' => by go_simp⟩) F0.out ?_
          refine wpAnyH_all (rs := [10]) (by kernel_rfl) (by simp) ?_
          intro i hi
          obtain rfl : i = 10 := by simpa using hi
          clear hi
          unfold wpOp
          go_simp
          refine .inl ⟨F3.out, ?_⟩
          refine wpAnyH_done (by kernel_rfl) ?_ _
          unfold onlyNormal
          generalize hV6 : w6.setCell ⟨q, 1, none⟩ (.slice (some ⟨g2, 0, none⟩) (l2.length + 1) cap2) = V6 at *
          clear hV6 z1 z2
          obtain ⟨_, _, c3⟩ := Z4.out.cells
          have c4 := HOLD.out _ Z3.out
          have f3 := Lib.frozen_of_heap Z4.out.blk 2
          have hsx := HSM.out
          have hw1 : IntKind.i64.wrap (s + x) = s + x := by rw [IntKind.wrap_i64]; omega
          have HEND : Hid (Ext w1 (V6.setCell ⟨q, 2, none⟩ (.int .i64 (s + x))) ∧ Part3 (V6.setCell ⟨q, 2, none⟩ (.int .i64 (s + x))) q (.slice (some ⟨g, 0, none⟩) (l1.length + 1) cap) (.slice (some ⟨g2, 0, none⟩) (l2.length + 1) cap2) (s + x) (l1 ++ [(k : Int)]) (l2 ++ [x])) :=
            ⟨Z3.out.setCell (p := ⟨q, 2, none⟩) (by have := HZ1.out; show w1.heap.size ≤ q; omega) _, Z4.out.put3 _⟩
          go_upto_region 8 with fail
          go_still_tail 9, (by kernel_rfl)
          go_wp2_with fail
          refine ⟨⟨k + 1, by omega, by go_num, HEND.out.1.drewN 1, ?_⟩, by simp [intOf]; omega⟩
          rw [HTS.out, HWS.out, HS.out]
          exact ⟨_, _, HEND.out.2.later ((Ext.refl _).drewN 1)⟩
      | false =>
        go_wp2_with fail
        refine (Contains_any b (k : Int) _ w8 (HBB.out.ext HI.out.ext)).mono ?_
        rintro r w9 ⟨rfl, rfl⟩
        cases hB : b.contains (k : Int) with
        | false =>
          have HS : Hid (upTo (chF cells a b) (k + 1) = upTo (chF cells a b) k) := upTo_succ_false (f := chF cells a b) (by unfold chF; rw [decide_eq_true hkc, hA, hB]; rfl)
          clear hA hB
          go_wp2_with fail
          exact ⟨⟨k + 1, by omega, by go_num, HI.out.ext, by rw [HS.out]; exact HI.out.rows⟩, by simp [intOf]; omega⟩
        | true =>
          have HOR : (a.contains (k : Int) || b.contains (k : Int)) = true := by rw [hA, hB]; rfl
          clear hA hB
          have HS : Hid (upTo (chF cells a b) (k + 1) = upTo (chF cells a b) k ++ [(k : Int)]) := upTo_succ_true (f := chF cells a b) (by unfold chF; rw [decide_eq_true hkc, HOR]; rfl)
          have hwk := HWD.out (k : Int) (choose_mem.2 ⟨k, rfl, by omega, hkc, by simpa using HOR⟩)
          clear HOR
          obtain ⟨hxI, u1, u2, hp⟩ := HI.out
          have HXI := Lib.hid hxI; have HP := Lib.hid hp
          obtain ⟨p1, d1, rfl⟩ := hp.o1.ints.shape
          obtain ⟨p2, d2, rfl⟩ := hp.o2.ints.shape
          have hlen := upTo_length (chF cells a b) k
          have HSM : Hid (0 ≤ sumI (wOf cells (upTo (chF cells a b) k)) ∧ sumI (wOf cells (upTo (chF cells a b) k)) ≤ 8 * k) := HSUM.out k (by omega)
          have hsz : q + 1 ≤ w9.heap.size := lt_heap hp.blk
          have hW := wOf_app cells (upTo (chF cells a b) k) (k : Int)
          have HWS : Hid (wOf cells (upTo (chF cells a b) (k + 1)) = wOf cells (upTo (chF cells a b) k) ++ [wAt cells (k : Int)]) := by unfold Hid; rw [HS.out]; exact hW
          have HTS : Hid (sumI (wOf cells (upTo (chF cells a b) (k + 1))) = sumI (wOf cells (upTo (chF cells a b) k)) + wAt cells (k : Int)) := by unfold Hid; rw [HWS.out, sumI_snoc]
          have hl2 : (wOf cells (upTo (chF cells a b) k)).length ≤ 32 := by rw [wOf_len]; omega
          have hxc : ∃ (cb co : Nat), ca = some ⟨cb, co, none⟩ ∧ w1.cell? ⟨cb, co + k * 6 + 1, none⟩ = some (.int .i64 (wAt cells (k : Int))) := by
            rcases HC.out with ⟨_, e⟩ | ⟨cb, co, cap', e, _, hcc⟩
            · rw [e] at hkc; simp at hkc
            cases e
            refine ⟨cb, co, rfl, ?_⟩
            have h2 := (hcc k hkc).2.1
            rw [h2]
            congr 2
            unfold wAt
            simp [hkc]
          obtain ⟨cb, co, rfl, hcW⟩ := hxc
          have HCW := Lib.hid hcW
          have c0 := hp.cells.1
          clear hxI hp hW HI hcW
          generalize wAt cells (k : Int) = x at *
          generalize hl1 : upTo (chF cells a b) k = l1 at *
          have HL1 := Lib.hid hl1; clear hl1
          generalize hl2e : wOf cells l1 = l2 at *
          have HL2E := Lib.hid hl2e; clear hl2e
          generalize hse : sumI l2 = s at *
          have HSE := Lib.hid hse; clear hse
          go_wp2_with (at_builtin; refine wpList_append_intL rfl (.tmp 24) (.tmp 26) rfl (q + 1) w9 _ l1 (k : Int) rfl rfl HP.out.o1 (by omega) hsz ?_)
          intro g cap w5 ho hg hn
          have hb5 := HP.out.grown hg fun k e => HP.out.o1.base k e
          have k5 : w5.cell? ⟨q, 0, none⟩ = some (.slice p1 l1.length d1) := by rw [Lib.cell_of_heap hb5]; rfl
          have f5 := Lib.frozen_of_heap hb5 0
          have HP6 := Lib.hid (HP.out.put1 ho hg hn)
          have HX6 : Hid (Ext w1 (w5.setCell ⟨q, 0, none⟩ (.slice (some ⟨g, 0, none⟩) (l1.length + 1) cap))) :=
            (HXI.out.grown hg fun k e => by have := HP.out.o1.base k e; have := HZ1.out; omega).setCell (p := ⟨q, 0, none⟩) (by have := HZ1.out; show w1.heap.size ≤ q; omega) _
          clear ho hg hn hb5
          go_upto_region 7 with fail
          generalize hV : w5.setCell ⟨q, 0, none⟩ (.slice (some ⟨g, 0, none⟩) (l1.length + 1) cap) = V at *
          clear hV k5 f5 c0
          have HPd : Hid (Part3 V.drew q (.slice (some ⟨g, 0, none⟩) (l1.length + 1) cap) (.slice p2 l2.length d2) s (l1 ++ [(k : Int)]) l2) := HP6.out.later (Ext.refl V).drew
          have HXd : Hid (Ext w1 V.drew) := HX6.out.drew
          have HOLD : Hid (∀ w', Ext w1 w' → w'.cell? ⟨cb, co + k * 6 + 1, none⟩ = some (.int .i64 x)) := fun w' he => he.cell HCW.out
          have hk0 := HOLD.out _ HXd.out
          have c1 : V.drew.cell? ⟨q, 1, none⟩ = some (.slice p2 l2.length d2) := HPd.out.cells.2.1
          have HFIN : Hid (∀ g2 cap2 w6, OwnInts w6 (q + 1) (.slice (some ⟨g2, 0, none⟩) (l2.length + 1) cap2) (l2 ++ [x]) → V.drew.grownBy w6 (Value.slice p2 l2.length d2).ownBlock → ((Value.slice p2 l2.length d2).ownBlock = some g2 ∨ g2 = V.drew.heap.size + 1) →
              Ext w1 w6 ∧ w6.cell? ⟨q, 1, none⟩ = some (.slice p2 l2.length d2) ∧ w6.frozen? ⟨q, 1, none⟩ = false ∧ Ext w1 (w6.setCell ⟨q, 1, none⟩ (.slice (some ⟨g2, 0, none⟩) (l2.length + 1) cap2)) ∧
              Part3 (w6.setCell ⟨q, 1, none⟩ (.slice (some ⟨g2, 0, none⟩) (l2.length + 1) cap2)) q (.slice (some ⟨g, 0, none⟩) (l1.length + 1) cap) (.slice (some ⟨g2, 0, none⟩) (l2.length + 1) cap2) s (l1 ++ [(k : Int)]) (l2 ++ [x])) := by
            intro g2 cap2 w6 ho hg hn
            have hb6 := HPd.out.grown hg fun k e => HPd.out.o2.base k e
            have hx6 : Ext w1 w6 := HXd.out.grown hg fun k e => by have := HPd.out.o2.base k e; have := HZ1.out; omega
            exact ⟨hx6, by rw [Lib.cell_of_heap hb6]; rfl, Lib.frozen_of_heap hb6 1, hx6.setCell (p := ⟨q, 1, none⟩) (by have := HZ1.out; show w1.heap.size ≤ q; omega) _, HPd.out.put2 ho hg hn⟩
          have hs2 : q + 1 ≤ V.drew.heap.size := lt_heap HPd.out.blk
          have HO2 := Lib.hid HPd.out.o2
          have HK0 := Lib.hid hk0
          have HKA : Hid (∀ o, (V.drew.alloc o).cell? ⟨cb, co + k * 6 + 1, none⟩ = some (.int .i64 x)) := fun o => HOLD.out _ (HXd.out.alloc o)
          have HEA : Hid (∀ o, (V.drew.alloc o).cell? ⟨q, 1, none⟩ = some (.slice p2 l2.length d2)) := fun o => ((Ext.refl _).alloc o).cell c1
          clear hk0
          refine wp_normal2 ?_
          refine wp_region_held (S := fun w' => w'.cell? ⟨cb, co + k * 6 + 1, none⟩ = some (.int .i64 x)) (by kernel_rfl) ?_
          change wpAnyH _ _ _ _ _ _ _ _ V.drew
          generalize V.drew = v0 at *
          refine wpAnyH_take (i := 0) (v := .pointer (some ⟨q, 1, none⟩)) rfl (by kernel_rfl) (by kernel_rfl) (by kernel_rfl) (fun _ _ _ h => h) (.inl ⟨rfl, fun w' hx' => by go_simp⟩) HK0.out ?_
          refine wpAnyH_take (i := 2) (v := .slice (some ⟨cb, co, none⟩) cells.length cc) rfl (by kernel_rfl) (by kernel_rfl) (by kernel_rfl) (fun _ _ _ h => h) (.inl ⟨rfl, fun w' hx' => by go_simp⟩) HK0.out ?_
          refine wpAnyH_take (i := 3) (v := .int .i64 (k : Nat)) rfl (by kernel_rfl) (by kernel_rfl) (by kernel_rfl) (fun _ _ _ h => h) (.inl ⟨rfl, fun w' hx' => by go_simp⟩) HK0.out ?_
          refine wpAnyH_take (i := 4) (v := .pointer (some ⟨cb, co + k * 6, none⟩)) rfl (by kernel_rfl) (by kernel_rfl) (by kernel_rfl) (fun _ _ _ h => h) (.inl ⟨rfl, fun w' hx' => by go_simp⟩) HK0.out ?_
          refine wpAnyH_take (i := 5) (v := .pointer (some ⟨cb, co + k * 6 + 1, none⟩)) rfl (by kernel_rfl) (by kernel_rfl) (by kernel_rfl) (fun _ _ _ h => h) (.inl ⟨rfl, fun w' hx' => by go_simp⟩) HK0.out ?_
          refine wpAnyH_take (i := 6) (v := .int .i64 x) rfl (by kernel_rfl) (by kernel_rfl) (by kernel_rfl) (fun _ _ _ h => h) (.inl ⟨rfl, fun w' hx' => by go_simp⟩) HK0.out ?_
          refine wpAnyH_all (rs := [1, 7]) (by kernel_rfl) (by simp) ?_
          intro i hi
          have hi' : i = 1 ∨ i = 7 := by simpa using hi
          clear hi
          rcases hi' with rfl | rfl
          · unfold wpOp
            go_simp
            refine .inl ⟨HK0.out, ?_⟩
            refine wpAnyH_all (rs := [7]) (by kernel_rfl) (by simp) ?_
            intro i hi
            obtain rfl : i = 7 := by simpa using hi
            clear hi
            unfold wpOp
            go_simp
            refine .inl ⟨HKA.out _, ?_⟩
            refine wpAnyH_all (rs := [8]) (by kernel_rfl) (by simp) ?_
            intro i hi
            obtain rfl : i = 8 := by simpa using hi
            clear hi
            refine wpOp_step rfl ?_
            intro KK hKK
            refine step_append_intL rfl (.tmp 30) (.tmp 36) rfl (q + 1) v0 v0.heap.size rfl _ l2 x rfl rfl HO2.out (by omega) hs2 ?_
            intro g2 cap2 w6 ho hg hn
            obtain ⟨z0, z1, z2, z3, z4⟩ := HFIN.out g2 cap2 w6 ho hg hn
            have F0 := Lib.hid (HOLD.out _ z0); have F3 := Lib.hid (HOLD.out _ z3); have Z3 := Lib.hid z3; have Z4 := Lib.hid z4
            clear ho hg hn z0 z3 z4
            refine hKK _ _ ⟨F0.out, ?_⟩
            refine wpAnyH_take (i := 9) (v := .pointer (some ⟨q, 1, none⟩)) rfl (by kernel_rfl) (by kernel_rfl) (by kernel_rfl) (fun _ _ _ h => h) (.inl ⟨rfl, fun w' hx' => by go_simp⟩) F0.out ?_
            refine wpAnyH_all (rs := [10]) (by kernel_rfl) (by simp) ?_
            intro i hi
            obtain rfl : i = 10 := by simpa using hi
            clear hi
            unfold wpOp
            go_simp
            refine .inl ⟨F3.out, ?_⟩
            refine wpAnyH_done (by kernel_rfl) ?_ _
            unfold onlyNormal
            generalize hV6 : w6.setCell ⟨q, 1, none⟩ (.slice (some ⟨g2, 0, none⟩) (l2.length + 1) cap2) = V6 at *
            clear hV6 z1 z2
            obtain ⟨_, _, c3⟩ := Z4.out.cells
            have c4 := HOLD.out _ Z3.out
            have f3 := Lib.frozen_of_heap Z4.out.blk 2
            have hsx := HSM.out
            have hw1 : IntKind.i64.wrap (s + x) = s + x := by rw [IntKind.wrap_i64]; omega
            have HEND : Hid (Ext w1 (V6.setCell ⟨q, 2, none⟩ (.int .i64 (s + x))) ∧ Part3 (V6.setCell ⟨q, 2, none⟩ (.int .i64 (s + x))) q (.slice (some ⟨g, 0, none⟩) (l1.length + 1) cap) (.slice (some ⟨g2, 0, none⟩) (l2.length + 1) cap2) (s + x) (l1 ++ [(k : Int)]) (l2 ++ [x])) :=
              ⟨Z3.out.setCell (p := ⟨q, 2, none⟩) (by have := HZ1.out; show w1.heap.size ≤ q; omega) _, Z4.out.put3 _⟩
            go_upto_region 8 with fail
            go_still_tail 9, (by kernel_rfl)
            go_wp2_with fail
            refine ⟨⟨k + 1, by omega, by go_num, HEND.out.1.drewN 1, ?_⟩, by simp [intOf]; omega⟩
            rw [HTS.out, HWS.out, HS.out]
            exact ⟨_, _, HEND.out.2.later ((Ext.refl _).drewN 1)⟩
          · unfold wpOp
            go_simp
            refine .inl ⟨HKA.out _, ?_⟩
            have e1 := HEA.out (.cells #[.int .i64 x] 3)
            refine wpAnyH_all (rs := [1]) (by kernel_rfl) (by simp) ?_
            intro i hi
            obtain rfl : i = 1 := by simpa using hi
            clear hi
            unfold wpOp
            go_simp
            refine .inl ⟨HKA.out _, ?_⟩
            refine wpAnyH_all (rs := [8]) (by kernel_rfl) (by simp) ?_
            intro i hi
            obtain rfl : i = 8 := by simpa using hi
            clear hi
            refine wpOp_step rfl ?_
            intro KK hKK
            refine step_append_intL rfl (.tmp 30) (.tmp 36) rfl (q + 1) v0 v0.heap.size rfl _ l2 x rfl rfl HO2.out (by omega) hs2 ?_
            intro g2 cap2 w6 ho hg hn
            obtain ⟨z0, z1, z2, z3, z4⟩ := HFIN.out g2 cap2 w6 ho hg hn
            have F0 := Lib.hid (HOLD.out _ z0); have F3 := Lib.hid (HOLD.out _ z3); have Z3 := Lib.hid z3; have Z4 := Lib.hid z4
            clear ho hg hn z0 z3 z4
            refine hKK _ _ ⟨F0.out, ?_⟩
            refine wpAnyH_take (i := 9) (v := .pointer (some ⟨q, 1, none⟩)) rfl (by kernel_rfl) (by kernel_rfl) (by kernel_rfl) (fun _ _ _ h => h) (.inl ⟨rfl, fun w' hx' => by go_simp⟩) F0.out ?_
            refine wpAnyH_all (rs := [10]) (by kernel_rfl) (by simp) ?_
            intro i hi
            obtain rfl : i = 10 := by simpa using hi
            clear hi
            unfold wpOp
            go_simp
            refine .inl ⟨F3.out, ?_⟩
            refine wpAnyH_done (by kernel_rfl) ?_ _
            unfold onlyNormal
            generalize hV6 : w6.setCell ⟨q, 1, none⟩ (.slice (some ⟨g2, 0, none⟩) (l2.length + 1) cap2) = V6 at *
            clear hV6 z1 z2
            obtain ⟨_, _, c3⟩ := Z4.out.cells
            have c4 := HOLD.out _ Z3.out
            have f3 := Lib.frozen_of_heap Z4.out.blk 2
            have hsx := HSM.out
            have hw1 : IntKind.i64.wrap (s + x) = s + x := by rw [IntKind.wrap_i64]; omega
            have HEND : Hid (Ext w1 (V6.setCell ⟨q, 2, none⟩ (.int .i64 (s + x))) ∧ Part3 (V6.setCell ⟨q, 2, none⟩ (.int .i64 (s + x))) q (.slice (some ⟨g, 0, none⟩) (l1.length + 1) cap) (.slice (some ⟨g2, 0, none⟩) (l2.length + 1) cap2) (s + x) (l1 ++ [(k : Int)]) (l2 ++ [x])) :=
              ⟨Z3.out.setCell (p := ⟨q, 2, none⟩) (by have := HZ1.out; show w1.heap.size ≤ q; omega) _, Z4.out.put3 _⟩
            go_upto_region 8 with fail
            go_still_tail 9, (by kernel_rfl)
            go_wp2_with fail
            refine ⟨⟨k + 1, by omega, by go_num, HEND.out.1.drewN 1, ?_⟩, by simp [intOf]; omega⟩
            rw [HTS.out, HWS.out, HS.out]
            exact ⟨_, _, HEND.out.2.later ((Ext.refl _).drewN 1)⟩
    · obtain rfl : k = N := by omega
      obtain ⟨hxI, u1, u2, hp⟩ := HI.out
      obtain ⟨p1, d1, rfl⟩ := hp.o1.ints.shape
      obtain ⟨p2, d2, rfl⟩ := hp.o2.ints.shape
      have HL : Hid (upTo (chF cells a b) k = chooseL cells a b) := by unfold Hid; rw [HNC.out]; exact choose_min cells a b
      rw [HL.out] at hp
      have hR := (hxI.block _ (by have := HZ1.out; have := HQ.out; omega)).trans HR0.out
      obtain ⟨c0, c1, c2⟩ := hp.cells
      obtain ⟨r0, r1, r2, e0, e1, e2⟩ := block3 hR
      generalize hl1 : chooseL cells a b = l1 at *
      generalize hl2 : wOf cells l1 = l2 at *
      generalize hs : sumI l2 = s at *
      have HB := Lib.hid (put3_new (x := .slice p1 l1.length d1) (y := .slice p2 l2.length d2) (z := .int .i64 s) hR)
      have HF : Hid ((∃ v1 v2, (Ending.returned (.agg #[.slice p1 l1.length d1, .slice p2 l2.length d2, .int .i64 s])) = .returned (.agg #[v1, v2, .int .i64 s]) ∧ OwnInts (put3 wr w.heap.size (.slice p1 l1.length d1) (.slice p2 l2.length d2) (.int .i64 s)) w.heap.size v1 l1 ∧ OwnInts (put3 wr w.heap.size (.slice p1 l1.length d1) (.slice p2 l2.length d2) (.int .i64 s)) w.heap.size v2 l2) ∧ Ext w (put3 wr w.heap.size (.slice p1 l1.length d1) (.slice p2 l2.length d2) (.int .i64 s))) := by
        have hq1 := HQ.out
        refine ⟨⟨_, _, rfl, ?_, ?_⟩, (X01.out.trans hxI).put3 (Nat.le_refl _) _ _ _⟩
        · exact (hp.o1.keep fun k e => put3_other _ (by have := hp.o1.base k e; omega)).mono (by omega)
        · exact (hp.o2.keep fun k e => put3_other _ (by have := hp.o2.base k e; omega)).mono (by omega)
      have HL1 := Lib.hid hl1; have HL2 := Lib.hid hl2; have HSE := Lib.hid hs
      clear hR hp hxI hl1 hl2 hs
      go_wp2_with fail
      refine bodyPost_ret (v := .agg #[.slice p1 l1.length d1, .slice p2 l2.length d2, .int .i64 s]) (results_cell_row Tryz.results64 _ _ w.heap.size 64 _ (0, 0) _ rfl HB.out Tryz.underlying64 rfl sizePart) rfl ?_
      rw [HL1.out, HL2.out, HSE.out]; exact HF.out
end Go.Proofs.YtlcgbdjmlnjhcaaGreatDoor
