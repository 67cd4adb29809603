/-
  The walk of hint.choose.
  The walk of hint.sides.
  The walk of hint.Strengthen.
-/
import Derived.Test.YtlcgbdjmlnjhcaaGreatDoorG32
import Derived.Test.YtlcgbdjmlnjhcaaGreatDoorG21
import Derived.Test.YtlcgbdjmlnjhcaaGreatDoorG29
namespace Go.Proofs.YtlcgbdjmlnjhcaaGreatDoor
open Go.RowKit Go.Shelf
attribute [local go_sem] Oper.semAt_some

def chF (cells : List CellD) (a b : List Int) (j : Nat) : Bool := decide (j < cells.length) && (a.contains (j : Int) || b.contains (j : Int))
/-- The part when k cells were looked at. -/
structure PartI (w0 : World) (q : Nat) (cells : List CellD) (a b : List Int) (k : Nat) (wr : World) : Prop where
  ext : Ext w0 wr
  rows : ∃ u1 u2, Part3 wr q u1 u2 (sumI (wOf cells (upTo (chF cells a b) k))) (upTo (chF cells a b) k) (wOf cells (upTo (chF cells a b) k))
theorem upTo_len (f : Nat → Bool) (k : Nat) : (upTo f k).length ≤ k := by
  unfold upTo; rw [List.length_map]; exact Nat.le_trans (List.length_filter_le _ _) (by simp)
theorem wOf_app (cells : List CellD) (l : List Int) (c : Int) : wOf cells (l ++ [c]) = wOf cells l ++ [wAt cells c] := by simp [wOf]
theorem sumI_snoc (l : List Int) (x : Int) : sumI (l ++ [x]) = sumI l + x := by unfold sumI; rw [List.foldl_append]; rfl
theorem upTo_more {f : Nat → Bool} {k : Nat} : ∀ d, (∀ j, k ≤ j → j < k + d → f j = false) → upTo f (k + d) = upTo f k := by
  intro d
  induction d with
  | zero => intro _; rfl
  | succ d ih => intro h; rw [← Nat.add_assoc, upTo_succ_false (h _ (by omega) (by omega)), ih fun j h1 h2 => h j h1 (by omega)]
theorem choose_min (cells : List CellD) (a b : List Int) : upTo (chF cells a b) (min cells.length 32) = chooseL cells a b := by
  have h := upTo_more (f := chF cells a b) (k := min cells.length 32) (32 - min cells.length 32) fun j h1 h2 => by
    unfold chF
    rw [decide_eq_false (show ¬ j < cells.length by omega)]; rfl
  rw [show min cells.length 32 + (32 - min cells.length 32) = 32 by omega] at h
  exact h.symm

theorem sizePart : (Tryz.prog.info? 64).map (·.size) = some 3 := by kernel_rfl
set_option maxRecDepth 100000 in
set_option maxHeartbeats 8000000 in
theorem Choose_any (cells : List CellD) (a b : List Int) (cv va vb : Value) (w : World) (hC : Cells w cv cells) (ha : Ints w va a) (hb : Ints w vb b) (hw : ∀ c ∈ chooseL cells a b, 1 ≤ wAt cells c ∧ wAt cells c ≤ 8) :
    Calls Tryz.prog 64 #[cv, va, vb] w fun r w' => (∃ v1 v2, r = .returned (.agg #[v1, v2, .int .i64 (sumI (wOf cells (chooseL cells a b)))]) ∧ OwnInts w' w.heap.size v1 (chooseL cells a b) ∧ OwnInts w' w.heap.size v2 (wOf cells (chooseL cells a b))) ∧ Ext w w' := by
  obtain ⟨ca, cc, rfl⟩ := SliceAt.shape hC
  obtain ⟨aa, ac, rfl⟩ := SliceAt.shape ha
  obtain ⟨ba, bc, rfl⟩ := SliceAt.shape hb
  have hcl := SliceAt.len_le hC
  obtain ⟨W, hW⟩ : ∃ W, W = (w.alloc (.cells #[.slice none 0 0, .slice none 0 0, .int .i64 0] 64)).alloc (.cells #[.slice none 0 0, .slice none 0 0, .int .i64 0] 64) := ⟨_, rfl⟩
  have hB := Boxes.mk' w (.cells #[.slice none 0 0, .slice none 0 0, .int .i64 0] 64) (.cells #[.slice none 0 0, .slice none 0 0, .int .i64 0] 64)
  rw [← hW] at hB
  obtain ⟨w1, hw1⟩ : ∃ w1, w1 = w.alloc (.cells #[.slice none 0 0, .slice none 0 0, .int .i64 0] 64) := ⟨_, rfl⟩
  have x01 : Ext w w1 := by rw [hw1]; exact (Ext.refl w).alloc _
  have hz1 : w1.heap.size = w.heap.size + 1 := by rw [hw1]; simp
  have x1W : Ext w1 W := by rw [hW, hw1]; exact (Ext.refl _).alloc _
  have hr0 : w1.heap[w.heap.size]? = some (.cells #[.slice none 0 0, .slice none 0 0, .int .i64 0] 64 (0, 0)) := by rw [hw1]; exact heap_new _ _
  have HW := Lib.hid hW; have HC := Lib.hid (hC.ext x01); have HA := Lib.hid (ha.ext x01); have HBB := Lib.hid (hb.ext x01); have HWD := Lib.hid hw; have X01 := Lib.hid x01; have HR0 := Lib.hid hr0; have HZ1 := Lib.hid hz1
  have HI0 : Hid (PartI w1 (w.heap.size + 1) cells a b 0 W) := ⟨x1W, _, _, hB.b1, OwnInts.nil _ _, OwnInts.nil _ _, fun x e => by cases e⟩
  clear hB hW hC ha hb hw hw1 x01 hz1 x1W hr0
  go_enter Tryz.func64, Tryz.ntmps64
  go_upto_region 2 with fail
  rw [← HW.out]; clear HW
  obtain ⟨N, hN⟩ : ∃ N, N = min cells.length 32 := ⟨_, rfl⟩
  have hmin : min (cells.length : Int) 32 = (N : Int) := by omega
  have hN32 : N ≤ 32 := by omega
  have HNC : Hid (N = min cells.length 32) := hN
  clear hN
  generalize hq : w.heap.size + 1 = q at *
  have HQ := Lib.hid hq
  clear hq
  have HSUM : Hid (∀ k, k ≤ N → 0 ≤ sumI (wOf cells (upTo (chF cells a b) k)) ∧ sumI (wOf cells (upTo (chF cells a b) k)) ≤ 8 * k) := by
    intro k
    induction k with
    | zero => intro _; exact ⟨Int.le_refl _, Int.le_refl _⟩
    | succ k ih =>
      intro hk
      have h1 := ih (by omega)
      cases hf : chF cells a b k with
      | false => rw [upTo_succ_false (f := chF cells a b) hf]; omega
      | true =>
        have hm := HWD.out (k : Int) (mem_upTo' (f := chF cells a b) (by omega) hf)
        rw [upTo_succ_true (f := chF cells a b) hf, wOf_app, sumI_snoc]; omega
  go_wp2_with fail
  go_loopw [12] (fun kv wr => ∃ k : Nat, k ≤ N ∧ kv = .int .i64 k ∧ PartI w1 q cells a b k wr) (fun kv _ => N - (intOf kv).toNat)
  case atStart => exact ⟨0, Nat.zero_le _, rfl, HI0.out⟩
  case round =>
    obtain ⟨k, hk, rfl, hI⟩ := hrel
    have HI := Lib.hid hI; clear hI
    by_cases hlt : k < N
    · have hlt' : (k : Int) < (N : Int) := by omega
      have hkc : k < cells.length := by have := HNC.out; omega
      go_wp2_with fail
      refine (Contains_any a (k : Int) _ wr (HA.out.ext HI.out.ext)).mono ?_
      rintro r w8 ⟨rfl, rfl⟩
      cases hA : a.contains (k : Int) with
      | true =>
        have HOR : (a.contains (k : Int) || b.contains (k : Int)) = true := by rw [hA]; rfl
        clear hA
        have HS : Hid (upTo (chF cells a b) (k + 1) = upTo (chF cells a b) k ++ [(k : Int)]) := upTo_succ_true (f := chF cells a b) (by unfold chF; rw [decide_eq_true hkc, HOR]; rfl)
        have hwk := HWD.out (k : Int) (choose_mem.2 ⟨k, rfl, by omega, hkc, by simpa using HOR⟩)
        clear HOR
        obtain ⟨hxI, u1, u2, hp⟩ := HI.out
        have HXI := Lib.hid hxI; have HP := Lib.hid hp
        obtain ⟨p1, d1, rfl⟩ := hp.o1.ints.shape
        obtain ⟨p2, d2, rfl⟩ := hp.o2.ints.shape
        have hlen := upTo_length (chF cells a b) k
        have HSM : Hid (0 ≤ sumI (wOf cells (upTo (chF cells a b) k)) ∧ sumI (wOf cells (upTo (chF cells a b) k)) ≤ 8 * k) := HSUM.out k (by omega)
        have hsz : q + 1 ≤ w8.heap.size := lt_heap hp.blk
        have hW := wOf_app cells (upTo (chF cells a b) k) (k : Int)
        have HWS : Hid (wOf cells (upTo (chF cells a b) (k + 1)) = wOf cells (upTo (chF cells a b) k) ++ [wAt cells (k : Int)]) := by unfold Hid; rw [HS.out]; exact hW
        have HTS : Hid (sumI (wOf cells (upTo (chF cells a b) (k + 1))) = sumI (wOf cells (upTo (chF cells a b) k)) + wAt cells (k : Int)) := by unfold Hid; rw [HWS.out, sumI_snoc]
        have hl2 : (wOf cells (upTo (chF cells a b) k)).length ≤ 32 := by rw [wOf_len]; omega
        have hxc : ∃ (cb co : Nat), ca = some ⟨cb, co, none⟩ ∧ w1.cell? ⟨cb, co + k * 6 + 1, none⟩ = some (.int .i64 (wAt cells (k : Int))) := by
          rcases HC.out with ⟨_, e⟩ | ⟨cb, co, cap', e, _, hcc⟩
          · rw [e] at hkc; simp at hkc
          cases e
          refine ⟨cb, co, rfl, ?_⟩
          have h2 := (hcc k hkc).2.1
          rw [h2]
          congr 2
          unfold wAt
          simp [hkc]
        obtain ⟨cb, co, rfl, hcW⟩ := hxc
        have HCW := Lib.hid hcW
        have c0 := hp.cells.1
        clear hxI hp hW HI hcW
        generalize wAt cells (k : Int) = x at *
        generalize hl1 : upTo (chF cells a b) k = l1 at *
        have HL1 := Lib.hid hl1; clear hl1
        generalize hl2e : wOf cells l1 = l2 at *
        have HL2E := Lib.hid hl2e; clear hl2e
        generalize hse : sumI l2 = s at *
        have HSE := Lib.hid hse; clear hse
        go_wp2_with (at_builtin; refine wpList_append_intL rfl (.tmp 24) (.tmp 26) rfl (q + 1) w8 _ l1 (k : Int) rfl rfl HP.out.o1 (by omega) hsz ?_)
        intro g cap w5 ho hg hn
        have hb5 := HP.out.grown hg fun k e => HP.out.o1.base k e
        have k5 : w5.cell? ⟨q, 0, none⟩ = some (.slice p1 l1.length d1) := by rw [Lib.cell_of_heap hb5]; rfl
        have f5 := Lib.frozen_of_heap hb5 0
        have HP6 := Lib.hid (HP.out.put1 ho hg hn)
        have HX6 : Hid (Ext w1 (w5.setCell ⟨q, 0, none⟩ (.slice (some ⟨g, 0, none⟩) (l1.length + 1) cap))) :=
          (HXI.out.grown hg fun k e => by have := HP.out.o1.base k e; have := HZ1.out; omega).setCell (p := ⟨q, 0, none⟩) (by have := HZ1.out; show w1.heap.size ≤ q; omega) _
        clear ho hg hn hb5
        go_upto_region 7 with fail
        generalize hV : w5.setCell ⟨q, 0, none⟩ (.slice (some ⟨g, 0, none⟩) (l1.length + 1) cap) = V at *
        clear hV k5 f5 c0
        have HPd : Hid (Part3 V.drew q (.slice (some ⟨g, 0, none⟩) (l1.length + 1) cap) (.slice p2 l2.length d2) s (l1 ++ [(k : Int)]) l2) := HP6.out.later (Ext.refl V).drew
        have HXd : Hid (Ext w1 V.drew) := HX6.out.drew
        have HOLD : Hid (∀ w', Ext w1 w' → w'.cell? ⟨cb, co + k * 6 + 1, none⟩ = some (.int .i64 x)) := fun w' he => he.cell HCW.out
        have hk0 := HOLD.out _ HXd.out
        have c1 : V.drew.cell? ⟨q, 1, none⟩ = some (.slice p2 l2.length d2) := HPd.out.cells.2.1
        have HFIN : Hid (∀ g2 cap2 w6, OwnInts w6 (q + 1) (.slice (some ⟨g2, 0, none⟩) (l2.length + 1) cap2) (l2 ++ [x]) → V.drew.grownBy w6 (Value.slice p2 l2.length d2).ownBlock → ((Value.slice p2 l2.length d2).ownBlock = some g2 ∨ g2 = V.drew.heap.size + 1) →
            Ext w1 w6 ∧ w6.cell? ⟨q, 1, none⟩ = some (.slice p2 l2.length d2) ∧ w6.frozen? ⟨q, 1, none⟩ = false ∧ Ext w1 (w6.setCell ⟨q, 1, none⟩ (.slice (some ⟨g2, 0, none⟩) (l2.length + 1) cap2)) ∧
            Part3 (w6.setCell ⟨q, 1, none⟩ (.slice (some ⟨g2, 0, none⟩) (l2.length + 1) cap2)) q (.slice (some ⟨g, 0, none⟩) (l1.length + 1) cap) (.slice (some ⟨g2, 0, none⟩) (l2.length + 1) cap2) s (l1 ++ [(k : Int)]) (l2 ++ [x])) := by
          intro g2 cap2 w6 ho hg hn
          have hb6 := HPd.out.grown hg fun k e => HPd.out.o2.base k e
          have hx6 : Ext w1 w6 := HXd.out.grown hg fun k e => by have := HPd.out.o2.base k e; have := HZ1.out; omega
          exact ⟨hx6, by rw [Lib.cell_of_heap hb6]; rfl, Lib.frozen_of_heap hb6 1, hx6.setCell (p := ⟨q, 1, none⟩) (by have := HZ1.out; show w1.heap.size ≤ q; omega) _, HPd.out.put2 ho hg hn⟩
        have hs2 : q + 1 ≤ V.drew.heap.size := lt_heap HPd.out.blk
        have HO2 := Lib.hid HPd.out.o2
        have HK0 := Lib.hid hk0
        have HKA : Hid (∀ o, (V.drew.alloc o).cell? ⟨cb, co + k * 6 + 1, none⟩ = some (.int .i64 x)) := fun o => HOLD.out _ (HXd.out.alloc o)
        have HEA : Hid (∀ o, (V.drew.alloc o).cell? ⟨q, 1, none⟩ = some (.slice p2 l2.length d2)) := fun o => ((Ext.refl _).alloc o).cell c1
        clear hk0
        refine wp_normal2 ?_
        refine wp_region_held (S := fun w' => w'.cell? ⟨cb, co + k * 6 + 1, none⟩ = some (.int .i64 x)) (by kernel_rfl) ?_
        change wpAnyH _ _ _ _ _ _ _ _ V.drew
        generalize V.drew = v0 at *
        refine wpAnyH_take (i := 0) (v := .pointer (some ⟨q, 1, none⟩)) rfl (by kernel_rfl) (by kernel_rfl) (by kernel_rfl) (fun _ _ _ h => h) (.inl ⟨rfl, fun w' hx' => by go_simp⟩) HK0.out ?_
        refine wpAnyH_take (i := 2) (v := .slice (some ⟨cb, co, none⟩) cells.length cc) rfl (by kernel_rfl) (by kernel_rfl) (by kernel_rfl) (fun _ _ _ h => h) (.inl ⟨rfl, fun w' hx' => by go_simp⟩) HK0.out ?_
        refine wpAnyH_take (i := 3) (v := .int .i64 (k : Nat)) rfl (by kernel_rfl) (by kernel_rfl) (by kernel_rfl) (fun _ _ _ h => h) (.inl ⟨rfl, fun w' hx' => by go_simp⟩) HK0.out ?_
        refine wpAnyH_take (i := 4) (v := .pointer (some ⟨cb, co + k * 6, none⟩)) rfl (by kernel_rfl) (by kernel_rfl) (by kernel_rfl) (fun _ _ _ h => h) (.inl ⟨rfl, fun w' hx' => by go_simp⟩) HK0.out ?_
        refine wpAnyH_take (i := 5) (v := .pointer (some ⟨cb, co + k * 6 + 1, none⟩)) rfl (by kernel_rfl) (by kernel_rfl) (by kernel_rfl) (fun _ _ _ h => h) (.inl ⟨rfl, fun w' hx' => by go_simp⟩) HK0.out ?_
        refine wpAnyH_take (i := 6) (v := .int .i64 x) rfl (by kernel_rfl) (by kernel_rfl) (by kernel_rfl) (fun _ _ _ h => h) (.inl ⟨rfl, fun w' hx' => by go_simp⟩) HK0.out ?_
        refine wpAnyH_all (rs := [1, 7]) (by kernel_rfl) (by simp) ?_
        intro i hi
        have hi' : i = 1 ∨ i = 7 := by simpa using hi
        clear hi
        rcases hi' with rfl | rfl
        · unfold wpOp
          go_simp
          refine .inl ⟨HK0.out, ?_⟩
          refine wpAnyH_all (rs := [7]) (by kernel_rfl) (by simp) ?_
          intro i hi
          obtain rfl : i = 7 := by simpa using hi
          clear hi
          unfold wpOp
          go_simp
          refine .inl ⟨HKA.out _, ?_⟩
          refine wpAnyH_all (rs := [8]) (by kernel_rfl) (by simp) ?_
          intro i hi
          obtain rfl : i = 8 := by simpa using hi
          clear hi
          refine wpOp_step rfl ?_
          intro KK hKK
          refine step_append_intL rfl (.tmp 30) (.tmp 36) rfl (q + 1) v0 v0.heap.size rfl _ l2 x rfl rfl HO2.out (by omega) hs2 ?_
          intro g2 cap2 w6 ho hg hn
          obtain ⟨z0, z1, z2, z3, z4⟩ := HFIN.out g2 cap2 w6 ho hg hn
          have F0 := Lib.hid (HOLD.out _ z0); have F3 := Lib.hid (HOLD.out _ z3); have Z3 := Lib.hid z3; have Z4 := Lib.hid z4
          clear ho hg hn z0 z3 z4
          refine hKK _ _ ⟨F0.out, ?_⟩
          refine wpAnyH_take (i := 9) (v := .pointer (some ⟨q, 1, none⟩)) rfl (by kernel_rfl) (by kernel_rfl) (by kernel_rfl) (fun _ _ _ h => h) (.inl ⟨rfl, fun w' hx' => by go_simp⟩) F0.out ?_
          refine wpAnyH_all (rs := [10]) (by kernel_rfl) (by simp) ?_
          intro i hi
          obtain rfl : i = 10 := by simpa using hi
          clear hi
          unfold wpOp
          go_simp
          refine .inl ⟨F3.out, ?_⟩
          refine wpAnyH_done (by kernel_rfl) ?_ _
          unfold onlyNormal
          generalize hV6 : w6.setCell ⟨q, 1, none⟩ (.slice (some ⟨g2, 0, none⟩) (l2.length + 1) cap2) = V6 at *
          clear hV6 z1 z2
          obtain ⟨_, _, c3⟩ := Z4.out.cells
          have c4 := HOLD.out _ Z3.out
          have f3 := Lib.frozen_of_heap Z4.out.blk 2
          have hsx := HSM.out
          have hw1 : IntKind.i64.wrap (s + x) = s + x := by rw [IntKind.wrap_i64]; omega
          have HEND : Hid (Ext w1 (V6.setCell ⟨q, 2, none⟩ (.int .i64 (s + x))) ∧ Part3 (V6.setCell ⟨q, 2, none⟩ (.int .i64 (s + x))) q (.slice (some ⟨g, 0, none⟩) (l1.length + 1) cap) (.slice (some ⟨g2, 0, none⟩) (l2.length + 1) cap2) (s + x) (l1 ++ [(k : Int)]) (l2 ++ [x])) :=
            ⟨Z3.out.setCell (p := ⟨q, 2, none⟩) (by have := HZ1.out; show w1.heap.size ≤ q; omega) _, Z4.out.put3 _⟩
          go_upto_region 8 with fail
          go_still_tail 9, (by kernel_rfl)
          go_wp2_with fail
          refine ⟨⟨k + 1, by omega, by go_num, HEND.out.1.drewN 1, ?_⟩, by simp [intOf]; omega⟩
          rw [HTS.out, HWS.out, HS.out]
          exact ⟨_, _, HEND.out.2.later ((Ext.refl _).drewN 1)⟩
        · unfold wpOp
          go_simp
          refine .inl ⟨HKA.out _, ?_⟩
          have e1 := HEA.out (.cells #[.int .i64 x] 3)
          refine wpAnyH_all (rs := [1]) (by kernel_rfl) (by simp) ?_
          intro i hi
          obtain rfl : i = 1 := by simpa using hi
          clear hi
          unfold wpOp
          go_simp
          refine .inl ⟨HKA.out _, ?_⟩
          refine wpAnyH_all (rs := [8]) (by kernel_rfl) (by simp) ?_
          intro i hi
          obtain rfl : i = 8 := by simpa using hi
          clear hi
          refine wpOp_step rfl ?_
          intro KK hKK
          refine step_append_intL rfl (.tmp 30) (.tmp 36) rfl (q + 1) v0 v0.heap.size rfl _ l2 x rfl rfl HO2.out (by omega) hs2 ?_
          intro g2 cap2 w6 ho hg hn
          obtain ⟨z0, z1, z2, z3, z4⟩ := HFIN.out g2 cap2 w6 ho hg hn
          have F0 := Lib.hid (HOLD.out _ z0); have F3 := Lib.hid (HOLD.out _ z3); have Z3 := Lib.hid z3; have Z4 := Lib.hid z4
          clear ho hg hn z0 z3 z4
          refine hKK _ _ ⟨F0.out, ?_⟩
          refine wpAnyH_take (i := 9) (v := .pointer (some ⟨q, 1, none⟩)) rfl (by kernel_rfl) (by kernel_rfl) (by kernel_rfl) (fun _ _ _ h => h) (.inl ⟨rfl, fun w' hx' => by go_simp⟩) F0.out ?_
          refine wpAnyH_all (rs := [10]) (by kernel_rfl) (by simp) ?_
          intro i hi
          obtain rfl : i = 10 := by simpa using hi
          clear hi
          unfold wpOp
          go_simp
          refine .inl ⟨F3.out, ?_⟩
          refine wpAnyH_done (by kernel_rfl) ?_ _
          unfold onlyNormal
          generalize hV6 : w6.setCell ⟨q, 1, none⟩ (.slice (some ⟨g2, 0, none⟩) (l2.length + 1) cap2) = V6 at *
          clear hV6 z1 z2
          obtain ⟨_, _, c3⟩ := Z4.out.cells
          have c4 := HOLD.out _ Z3.out
          have f3 := Lib.frozen_of_heap Z4.out.blk 2
          have hsx := HSM.out
          have hw1 : IntKind.i64.wrap (s + x) = s + x := by rw [IntKind.wrap_i64]; omega
          have HEND : Hid (Ext w1 (V6.setCell ⟨q, 2, none⟩ (.int .i64 (s + x))) ∧ Part3 (V6.setCell ⟨q, 2, none⟩ (.int .i64 (s + x))) q (.slice (some ⟨g, 0, none⟩) (l1.length + 1) cap) (.slice (some ⟨g2, 0, none⟩) (l2.length + 1) cap2) (s + x) (l1 ++ [(k : Int)]) (l2 ++ [x])) :=
            ⟨Z3.out.setCell (p := ⟨q, 2, none⟩) (by have := HZ1.out; show w1.heap.size ≤ q; omega) _, Z4.out.put3 _⟩
          go_upto_region 8 with fail
          go_still_tail 9, (by kernel_rfl)
          go_wp2_with fail
          refine ⟨⟨k + 1, by omega, by go_num, HEND.out.1.drewN 1, ?_⟩, by simp [intOf]; omega⟩
          rw [HTS.out, HWS.out, HS.out]
          exact ⟨_, _, HEND.out.2.later ((Ext.refl _).drewN 1)⟩
      | false =>
        go_wp2_with fail
        refine (Contains_any b (k : Int) _ w8 (HBB.out.ext HI.out.ext)).mono ?_
        rintro r w9 ⟨rfl, rfl⟩
        cases hB : b.contains (k : Int) with
        | false =>
          have HS : Hid (upTo (chF cells a b) (k + 1) = upTo (chF cells a b) k) := upTo_succ_false (f := chF cells a b) (by unfold chF; rw [decide_eq_true hkc, hA, hB]; rfl)
          clear hA hB
          go_wp2_with fail
          exact ⟨⟨k + 1, by omega, by go_num, HI.out.ext, by rw [HS.out]; exact HI.out.rows⟩, by simp [intOf]; omega⟩
        | true =>
          have HOR : (a.contains (k : Int) || b.contains (k : Int)) = true := by rw [hA, hB]; rfl
          clear hA hB
          have HS : Hid (upTo (chF cells a b) (k + 1) = upTo (chF cells a b) k ++ [(k : Int)]) := upTo_succ_true (f := chF cells a b) (by unfold chF; rw [decide_eq_true hkc, HOR]; rfl)
          have hwk := HWD.out (k : Int) (choose_mem.2 ⟨k, rfl, by omega, hkc, by simpa using HOR⟩)
          clear HOR
          obtain ⟨hxI, u1, u2, hp⟩ := HI.out
          have HXI := Lib.hid hxI; have HP := Lib.hid hp
          obtain ⟨p1, d1, rfl⟩ := hp.o1.ints.shape
          obtain ⟨p2, d2, rfl⟩ := hp.o2.ints.shape
          have hlen := upTo_length (chF cells a b) k
          have HSM : Hid (0 ≤ sumI (wOf cells (upTo (chF cells a b) k)) ∧ sumI (wOf cells (upTo (chF cells a b) k)) ≤ 8 * k) := HSUM.out k (by omega)
          have hsz : q + 1 ≤ w9.heap.size := lt_heap hp.blk
          have hW := wOf_app cells (upTo (chF cells a b) k) (k : Int)
          have HWS : Hid (wOf cells (upTo (chF cells a b) (k + 1)) = wOf cells (upTo (chF cells a b) k) ++ [wAt cells (k : Int)]) := by unfold Hid; rw [HS.out]; exact hW
          have HTS : Hid (sumI (wOf cells (upTo (chF cells a b) (k + 1))) = sumI (wOf cells (upTo (chF cells a b) k)) + wAt cells (k : Int)) := by unfold Hid; rw [HWS.out, sumI_snoc]
          have hl2 : (wOf cells (upTo (chF cells a b) k)).length ≤ 32 := by rw [wOf_len]; omega
          have hxc : ∃ (cb co : Nat), ca = some ⟨cb, co, none⟩ ∧ w1.cell? ⟨cb, co + k * 6 + 1, none⟩ = some (.int .i64 (wAt cells (k : Int))) := by
            rcases HC.out with ⟨_, e⟩ | ⟨cb, co, cap', e, _, hcc⟩
            · rw [e] at hkc; simp at hkc
            cases e
            refine ⟨cb, co, rfl, ?_⟩
            have h2 := (hcc k hkc).2.1
            rw [h2]
            congr 2
            unfold wAt
            simp [hkc]
          obtain ⟨cb, co, rfl, hcW⟩ := hxc
          have HCW := Lib.hid hcW
          have c0 := hp.cells.1
          clear hxI hp hW HI hcW
          generalize wAt cells (k : Int) = x at *
          generalize hl1 : upTo (chF cells a b) k = l1 at *
          have HL1 := Lib.hid hl1; clear hl1
          generalize hl2e : wOf cells l1 = l2 at *
          have HL2E := Lib.hid hl2e; clear hl2e
          generalize hse : sumI l2 = s at *
          have HSE := Lib.hid hse; clear hse
          go_wp2_with (at_builtin; refine wpList_append_intL rfl (.tmp 24) (.tmp 26) rfl (q + 1) w9 _ l1 (k : Int) rfl rfl HP.out.o1 (by omega) hsz ?_)
          intro g cap w5 ho hg hn
          have hb5 := HP.out.grown hg fun k e => HP.out.o1.base k e
          have k5 : w5.cell? ⟨q, 0, none⟩ = some (.slice p1 l1.length d1) := by rw [Lib.cell_of_heap hb5]; rfl
          have f5 := Lib.frozen_of_heap hb5 0
          have HP6 := Lib.hid (HP.out.put1 ho hg hn)
          have HX6 : Hid (Ext w1 (w5.setCell ⟨q, 0, none⟩ (.slice (some ⟨g, 0, none⟩) (l1.length + 1) cap))) :=
            (HXI.out.grown hg fun k e => by have := HP.out.o1.base k e; have := HZ1.out; omega).setCell (p := ⟨q, 0, none⟩) (by have := HZ1.out; show w1.heap.size ≤ q; omega) _
          clear ho hg hn hb5
          go_upto_region 7 with fail
          generalize hV : w5.setCell ⟨q, 0, none⟩ (.slice (some ⟨g, 0, none⟩) (l1.length + 1) cap) = V at *
          clear hV k5 f5 c0
          have HPd : Hid (Part3 V.drew q (.slice (some ⟨g, 0, none⟩) (l1.length + 1) cap) (.slice p2 l2.length d2) s (l1 ++ [(k : Int)]) l2) := HP6.out.later (Ext.refl V).drew
          have HXd : Hid (Ext w1 V.drew) := HX6.out.drew
          have HOLD : Hid (∀ w', Ext w1 w' → w'.cell? ⟨cb, co + k * 6 + 1, none⟩ = some (.int .i64 x)) := fun w' he => he.cell HCW.out
          have hk0 := HOLD.out _ HXd.out
          have c1 : V.drew.cell? ⟨q, 1, none⟩ = some (.slice p2 l2.length d2) := HPd.out.cells.2.1
          have HFIN : Hid (∀ g2 cap2 w6, OwnInts w6 (q + 1) (.slice (some ⟨g2, 0, none⟩) (l2.length + 1) cap2) (l2 ++ [x]) → V.drew.grownBy w6 (Value.slice p2 l2.length d2).ownBlock → ((Value.slice p2 l2.length d2).ownBlock = some g2 ∨ g2 = V.drew.heap.size + 1) →
              Ext w1 w6 ∧ w6.cell? ⟨q, 1, none⟩ = some (.slice p2 l2.length d2) ∧ w6.frozen? ⟨q, 1, none⟩ = false ∧ Ext w1 (w6.setCell ⟨q, 1, none⟩ (.slice (some ⟨g2, 0, none⟩) (l2.length + 1) cap2)) ∧
              Part3 (w6.setCell ⟨q, 1, none⟩ (.slice (some ⟨g2, 0, none⟩) (l2.length + 1) cap2)) q (.slice (some ⟨g, 0, none⟩) (l1.length + 1) cap) (.slice (some ⟨g2, 0, none⟩) (l2.length + 1) cap2) s (l1 ++ [(k : Int)]) (l2 ++ [x])) := by
            intro g2 cap2 w6 ho hg hn
            have hb6 := HPd.out.grown hg fun k e => HPd.out.o2.base k e
            have hx6 : Ext w1 w6 := HXd.out.grown hg fun k e => by have := HPd.out.o2.base k e; have := HZ1.out; omega
            exact ⟨hx6, by rw [Lib.cell_of_heap hb6]; rfl, Lib.frozen_of_heap hb6 1, hx6.setCell (p := ⟨q, 1, none⟩) (by have := HZ1.out; show w1.heap.size ≤ q; omega) _, HPd.out.put2 ho hg hn⟩
          have hs2 : q + 1 ≤ V.drew.heap.size := lt_heap HPd.out.blk
          have HO2 := Lib.hid HPd.out.o2
          have HK0 := Lib.hid hk0
          have HKA : Hid (∀ o, (V.drew.alloc o).cell? ⟨cb, co + k * 6 + 1, none⟩ = some (.int .i64 x)) := fun o => HOLD.out _ (HXd.out.alloc o)
          have HEA : Hid (∀ o, (V.drew.alloc o).cell? ⟨q, 1, none⟩ = some (.slice p2 l2.length d2)) := fun o => ((Ext.refl _).alloc o).cell c1
          clear hk0
          refine wp_normal2 ?_
          refine wp_region_held (S := fun w' => w'.cell? ⟨cb, co + k * 6 + 1, none⟩ = some (.int .i64 x)) (by kernel_rfl) ?_
          change wpAnyH _ _ _ _ _ _ _ _ V.drew
          generalize V.drew = v0 at *
          refine wpAnyH_take (i := 0) (v := .pointer (some ⟨q, 1, none⟩)) rfl (by kernel_rfl) (by kernel_rfl) (by kernel_rfl) (fun _ _ _ h => h) (.inl ⟨rfl, fun w' hx' => by go_simp⟩) HK0.out ?_
          refine wpAnyH_take (i := 2) (v := .slice (some ⟨cb, co, none⟩) cells.length cc) rfl (by kernel_rfl) (by kernel_rfl) (by kernel_rfl) (fun _ _ _ h => h) (.inl ⟨rfl, fun w' hx' => by go_simp⟩) HK0.out ?_
          refine wpAnyH_take (i := 3) (v := .int .i64 (k : Nat)) rfl (by kernel_rfl) (by kernel_rfl) (by kernel_rfl) (fun _ _ _ h => h) (.inl ⟨rfl, fun w' hx' => by go_simp⟩) HK0.out ?_
          refine wpAnyH_take (i := 4) (v := .pointer (some ⟨cb, co + k * 6, none⟩)) rfl (by kernel_rfl) (by kernel_rfl) (by kernel_rfl) (fun _ _ _ h => h) (.inl ⟨rfl, fun w' hx' => by go_simp⟩) HK0.out ?_
          refine wpAnyH_take (i := 5) (v := .pointer (some ⟨cb, co + k * 6 + 1, none⟩)) rfl (by kernel_rfl) (by kernel_rfl) (by kernel_rfl) (fun _ _ _ h => h) (.inl ⟨rfl, fun w' hx' => by go_simp⟩) HK0.out ?_
          refine wpAnyH_take (i := 6) (v := .int .i64 x) rfl (by kernel_rfl) (by kernel_rfl) (by kernel_rfl) (fun _ _ _ h => h) (.inl ⟨rfl, fun w' hx' => by go_simp⟩) HK0.out ?_
          refine wpAnyH_all (rs := [1, 7]) (by kernel_rfl) (by simp) ?_
          intro i hi
          have hi' : i = 1 ∨ i = 7 := by simpa using hi
          clear hi
          rcases hi' with rfl | rfl
          · unfold wpOp
            go_simp
            refine .inl ⟨HK0.out, ?_⟩
            refine wpAnyH_all (rs := [7]) (by kernel_rfl) (by simp) ?_
            intro i hi
            obtain rfl : i = 7 := by simpa using hi
            clear hi
            unfold wpOp
            go_simp
            refine .inl ⟨HKA.out _, ?_⟩
            refine wpAnyH_all (rs := [8]) (by kernel_rfl) (by simp) ?_
            intro i hi
            obtain rfl : i = 8 := by simpa using hi
            clear hi
            refine wpOp_step rfl ?_
            intro KK hKK
            refine step_append_intL rfl (.tmp 30) (.tmp 36) rfl (q + 1) v0 v0.heap.size rfl _ l2 x rfl rfl HO2.out (by omega) hs2 ?_
            intro g2 cap2 w6 ho hg hn
            obtain ⟨z0, z1, z2, z3, z4⟩ := HFIN.out g2 cap2 w6 ho hg hn
            have F0 := Lib.hid (HOLD.out _ z0); have F3 := Lib.hid (HOLD.out _ z3); have Z3 := Lib.hid z3; have Z4 := Lib.hid z4
            clear ho hg hn z0 z3 z4
            refine hKK _ _ ⟨F0.out, ?_⟩
            refine wpAnyH_take (i := 9) (v := .pointer (some ⟨q, 1, none⟩)) rfl (by kernel_rfl) (by kernel_rfl) (by kernel_rfl) (fun _ _ _ h => h) (.inl ⟨rfl, fun w' hx' => by go_simp⟩) F0.out ?_
            refine wpAnyH_all (rs := [10]) (by kernel_rfl) (by simp) ?_
            intro i hi
            obtain rfl : i = 10 := by simpa using hi
            clear hi
            unfold wpOp
            go_simp
            refine .inl ⟨F3.out, ?_⟩
            refine wpAnyH_done (by kernel_rfl) ?_ _
            unfold onlyNormal
            generalize hV6 : w6.setCell ⟨q, 1, none⟩ (.slice (some ⟨g2, 0, none⟩) (l2.length + 1) cap2) = V6 at *
            clear hV6 z1 z2
            obtain ⟨_, _, c3⟩ := Z4.out.cells
            have c4 := HOLD.out _ Z3.out
            have f3 := Lib.frozen_of_heap Z4.out.blk 2
            have hsx := HSM.out
            have hw1 : IntKind.i64.wrap (s + x) = s + x := by rw [IntKind.wrap_i64]; omega
            have HEND : Hid (Ext w1 (V6.setCell ⟨q, 2, none⟩ (.int .i64 (s + x))) ∧ Part3 (V6.setCell ⟨q, 2, none⟩ (.int .i64 (s + x))) q (.slice (some ⟨g, 0, none⟩) (l1.length + 1) cap) (.slice (some ⟨g2, 0, none⟩) (l2.length + 1) cap2) (s + x) (l1 ++ [(k : Int)]) (l2 ++ [x])) :=
              ⟨Z3.out.setCell (p := ⟨q, 2, none⟩) (by have := HZ1.out; show w1.heap.size ≤ q; omega) _, Z4.out.put3 _⟩
            go_upto_region 8 with fail
            go_still_tail 9, (by kernel_rfl)
            go_wp2_with fail
            refine ⟨⟨k + 1, by omega, by go_num, HEND.out.1.drewN 1, ?_⟩, by simp [intOf]; omega⟩
            rw [HTS.out, HWS.out, HS.out]
            exact ⟨_, _, HEND.out.2.later ((Ext.refl _).drewN 1)⟩
          · unfold wpOp
            go_simp
            refine .inl ⟨HKA.out _, ?_⟩
            have e1 := HEA.out (.cells #[.int .i64 x] 3)
            refine wpAnyH_all (rs := [1]) (by kernel_rfl) (by simp) ?_
            intro i hi
            obtain rfl : i = 1 := by simpa using hi
            clear hi
            unfold wpOp
            go_simp
            refine .inl ⟨HKA.out _, ?_⟩
            refine wpAnyH_all (rs := [8]) (by kernel_rfl) (by simp) ?_
            intro i hi
            obtain rfl : i = 8 := by simpa using hi
            clear hi
            refine wpOp_step rfl ?_
            intro KK hKK
            refine step_append_intL rfl (.tmp 30) (.tmp 36) rfl (q + 1) v0 v0.heap.size rfl _ l2 x rfl rfl HO2.out (by omega) hs2 ?_
            intro g2 cap2 w6 ho hg hn
            obtain ⟨z0, z1, z2, z3, z4⟩ := HFIN.out g2 cap2 w6 ho hg hn
            have F0 := Lib.hid (HOLD.out _ z0); have F3 := Lib.hid (HOLD.out _ z3); have Z3 := Lib.hid z3; have Z4 := Lib.hid z4
            clear ho hg hn z0 z3 z4
            refine hKK _ _ ⟨F0.out, ?_⟩
            refine wpAnyH_take (i := 9) (v := .pointer (some ⟨q, 1, none⟩)) rfl (by kernel_rfl) (by kernel_rfl) (by kernel_rfl) (fun _ _ _ h => h) (.inl ⟨rfl, fun w' hx' => by go_simp⟩) F0.out ?_
            refine wpAnyH_all (rs := [10]) (by kernel_rfl) (by simp) ?_
            intro i hi
            obtain rfl : i = 10 := by simpa using hi
            clear hi
            unfold wpOp
            go_simp
            refine .inl ⟨F3.out, ?_⟩
            refine wpAnyH_done (by kernel_rfl) ?_ _
            unfold onlyNormal
            generalize hV6 : w6.setCell ⟨q, 1, none⟩ (.slice (some ⟨g2, 0, none⟩) (l2.length + 1) cap2) = V6 at *
            clear hV6 z1 z2
            obtain ⟨_, _, c3⟩ := Z4.out.cells
            have c4 := HOLD.out _ Z3.out
            have f3 := Lib.frozen_of_heap Z4.out.blk 2
            have hsx := HSM.out
            have hw1 : IntKind.i64.wrap (s + x) = s + x := by rw [IntKind.wrap_i64]; omega
            have HEND : Hid (Ext w1 (V6.setCell ⟨q, 2, none⟩ (.int .i64 (s + x))) ∧ Part3 (V6.setCell ⟨q, 2, none⟩ (.int .i64 (s + x))) q (.slice (some ⟨g, 0, none⟩) (l1.length + 1) cap) (.slice (some ⟨g2, 0, none⟩) (l2.length + 1) cap2) (s + x) (l1 ++ [(k : Int)]) (l2 ++ [x])) :=
              ⟨Z3.out.setCell (p := ⟨q, 2, none⟩) (by have := HZ1.out; show w1.heap.size ≤ q; omega) _, Z4.out.put3 _⟩
            go_upto_region 8 with fail
            go_still_tail 9, (by kernel_rfl)
            go_wp2_with fail
            refine ⟨⟨k + 1, by omega, by go_num, HEND.out.1.drewN 1, ?_⟩, by simp [intOf]; omega⟩
            rw [HTS.out, HWS.out, HS.out]
            exact ⟨_, _, HEND.out.2.later ((Ext.refl _).drewN 1)⟩
    · obtain rfl : k = N := by omega
      obtain ⟨hxI, u1, u2, hp⟩ := HI.out
      obtain ⟨p1, d1, rfl⟩ := hp.o1.ints.shape
      obtain ⟨p2, d2, rfl⟩ := hp.o2.ints.shape
      have HL : Hid (upTo (chF cells a b) k = chooseL cells a b) := by unfold Hid; rw [HNC.out]; exact choose_min cells a b
      rw [HL.out] at hp
      have hR := (hxI.block _ (by have := HZ1.out; have := HQ.out; omega)).trans HR0.out
      obtain ⟨c0, c1, c2⟩ := hp.cells
      obtain ⟨r0, r1, r2, e0, e1, e2⟩ := block3 hR
      generalize hl1 : chooseL cells a b = l1 at *
      generalize hl2 : wOf cells l1 = l2 at *
      generalize hs : sumI l2 = s at *
      have HB := Lib.hid (put3_new (x := .slice p1 l1.length d1) (y := .slice p2 l2.length d2) (z := .int .i64 s) hR)
      have HF : Hid ((∃ v1 v2, (Ending.returned (.agg #[.slice p1 l1.length d1, .slice p2 l2.length d2, .int .i64 s])) = .returned (.agg #[v1, v2, .int .i64 s]) ∧ OwnInts (put3 wr w.heap.size (.slice p1 l1.length d1) (.slice p2 l2.length d2) (.int .i64 s)) w.heap.size v1 l1 ∧ OwnInts (put3 wr w.heap.size (.slice p1 l1.length d1) (.slice p2 l2.length d2) (.int .i64 s)) w.heap.size v2 l2) ∧ Ext w (put3 wr w.heap.size (.slice p1 l1.length d1) (.slice p2 l2.length d2) (.int .i64 s))) := by
        have hq1 := HQ.out
        refine ⟨⟨_, _, rfl, ?_, ?_⟩, (X01.out.trans hxI).put3 (Nat.le_refl _) _ _ _⟩
        · exact (hp.o1.keep fun k e => put3_other _ (by have := hp.o1.base k e; omega)).mono (by omega)
        · exact (hp.o2.keep fun k e => put3_other _ (by have := hp.o2.base k e; omega)).mono (by omega)
      have HL1 := Lib.hid hl1; have HL2 := Lib.hid hl2; have HSE := Lib.hid hs
      clear hR hp hxI hl1 hl2 hs
      go_wp2_with fail
      refine bodyPost_ret (v := .agg #[.slice p1 l1.length d1, .slice p2 l2.length d2, .int .i64 s]) (results_cell_row Tryz.results64 _ _ w.heap.size 64 _ (0, 0) _ rfl HB.out Tryz.underlying64 rfl sizePart) rfl ?_
      rw [HL1.out, HL2.out, HSE.out]; exact HF.out
end Go.Proofs.YtlcgbdjmlnjhcaaGreatDoor
namespace Go.Proofs.YtlcgbdjmlnjhcaaGreatDoor
open Go.RowKit Go.Shelf
attribute [local go_sem] Oper.semAt_some

theorem sizeSide : (Tryz.prog.info? 66).map (·.size) = some 4 := by kernel_rfl
/-- A side that a call returns. -/
def SideO (w : World) (base : Nat) (v : Value) (l ws : List Int) (s : Int) (step : Bool) : Prop := ∃ v1 v2, v = .agg #[v1, v2, .int .i64 s, .bool step] ∧ OwnInts w base v1 l ∧ OwnInts w base v2 ws

theorem results_rows2 {P : Program} {fn : Func} {p u : Tmp} {ty ty2 : TypeId} (h : fn.results = #[.cell p ty, .cell u ty2]) (tmps : Array Value) (w : World) (g g2 : Nat) (t t2 : TypeId) (cs cs2 : Array Value) (fr fr2 : Nat × Nat) (d d2 : TypeDesc)
    (hp : tmps.getD p undef = .pointer (some ⟨g, 0, none⟩)) (hg : w.heap[g]? = some (.cells cs t fr)) (hu : P.underlying ty = some d) (hd : (match d with | .struct _ | .array _ _ => true | _ => false) = true) (hi : (P.info? ty).map (·.size) = some cs.size)
    (hp2 : tmps.getD u undef = .pointer (some ⟨g2, 0, none⟩)) (hg2 : w.heap[g2]? = some (.cells cs2 t2 fr2)) (hu2 : P.underlying ty2 = some d2) (hd2 : (match d2 with | .struct _ | .array _ _ => true | _ => false) = true) (hi2 : (P.info? ty2).map (·.size) = some cs2.size) :
    (results fn tmps).run P w = .ok (.tuple #[.agg cs, .agg cs2]) w := by
  have hp' : tmps[p]?.getD undef = .pointer (some ⟨g, 0, none⟩) := by simpa using hp
  have hp2' : tmps[u]?.getD undef = .pointer (some ⟨g2, 0, none⟩) := by simpa using hp2
  simp [results, h, hp', hp2', asAddr, run_loadVar_row w g t ty cs fr d hg hu hd hi, run_loadVar_row w g2 t2 ty2 cs2 fr2 d2 hg2 hu2 hd2 hi2]
theorem far_set {w w0 : World} {k : Nat} (h : w.heap[k]? = w0.heap[k]?) (p : Addr) (v : Value) (hp : k ≠ p.block) : (w.setCell p v).heap[k]? = w0.heap[k]? := (heap_setCell_other _ _ _ _ hp).trans h
theorem two_chain {W V : World} {p q : Nat} {t : TypeId} {x0 x1 x2 x3 y0 y1 y2 y3 a b c d e f g h : Value} (hV : V = ((((((((W).setCell ⟨p, 0, none⟩ a).setCell ⟨p, 1, none⟩ b).setCell ⟨p, 2, none⟩ c).setCell ⟨p, 3, none⟩ d).setCell ⟨q, 0, none⟩ e).setCell ⟨q, 1, none⟩ f).setCell ⟨q, 2, none⟩ g).setCell ⟨q, 3, none⟩ h)
    (hne : p ≠ q) (hp : W.heap[p]? = some (.cells #[x0, x1, x2, x3] t (0, 0))) (hq : W.heap[q]? = some (.cells #[y0, y1, y2, y3] t (0, 0))) :
    V.heap[p]? = some (.cells #[a, b, c, d] t (0, 0)) ∧ V.heap[q]? = some (.cells #[e, f, g, h] t (0, 0)) ∧ (∀ k, k ≠ p → k ≠ q → V.heap[k]? = W.heap[k]?) ∧ ∀ w, Ext w W → w.heap.size ≤ p → w.heap.size ≤ q → Ext w V := by
  have hV2 : V = put4 (put4 W p 0 a b c d) q 0 e f g h := hV
  clear hV
  subst hV2
  have h1 : ∀ (V : World) (r : Nat) (z0 z1 z2 z3 : Value), V.heap[r]? = some (.cells #[z0, z1, z2, z3] t (0, 0)) → ∀ a b c d, (put4 V r 0 a b c d).heap[r]? = some (.cells #[a, b, c, d] t (0, 0)) := fun V r z0 z1 z2 z3 hv a b c d => by
    have k1 := heap_setCell_same V r 0 _ _ a hv
    have k2 := heap_setCell_same _ r (0 + 1) _ _ b k1
    have k3 := heap_setCell_same _ r (0 + 2) _ _ c k2
    have k4 := heap_setCell_same _ r (0 + 3) _ _ d k3
    simpa [put4] using k4
  exact ⟨(put4_heap p hne).trans (h1 W p _ _ _ _ hp a b c d), h1 _ q _ _ _ _ ((put4_heap q (Ne.symm hne)).trans hq) e f g h, fun k h2 h3 => (put4_heap k h3).trans (put4_heap k h2), fun w hx h2 h3 => Below.trans (Below.trans hx (below_put4 h2)) (below_put4 h3)⟩
theorem far_drew {w w0 : World} {k : Nat} (h : w.heap[k]? = w0.heap[k]?) : w.drew.heap[k]? = w0.heap[k]? := h

set_option maxRecDepth 100000 in
set_option maxHeartbeats 8000000 in
theorem Sides_any (c : CondS) (cells : List CellD) (cv kv : Value) (w : World) (hc : CondV w cv c) (hC : Cells w kv cells) (hM : Masks w) (h1 : formC cells c.hyp) (h2 : formC cells c.goal) :
    Calls Tryz.prog 35 #[kv, cv] w fun r w' => (∃ v1 v2, r = .returned (.tuple #[v1, v2]) ∧ SideO w' w.heap.size v1 (cP cells c.hyp c.goal) (wOf cells (cP cells c.hyp c.goal)) (sumI (wOf cells (cP cells c.hyp c.goal))) (stepB cells c.hyp c.goal) ∧
      SideO w' w.heap.size v2 (cQ cells c.hyp c.goal) (wOf cells (cQ cells c.hyp c.goal)) (sumI (wOf cells (cQ cells c.hyp c.goal))) (stepB cells c.hyp c.goal)) ∧ Ext w w' := by
  obtain ⟨ha, hl, hcp, ga, gl, gc, rfl, e1, e2⟩ := hc
  obtain ⟨ka, kc, rfl⟩ := SliceAt.shape hC
  have HW1 : Hid (∀ x ∈ hOld cells c.hyp c.goal, 1 ≤ wAt cells x ∧ wAt cells x ≤ 8) := fun x hx => (old_w h1 h2 hx).2.2.2
  have HW2 : Hid (∀ x ∈ hNow cells c.hyp c.goal, 1 ≤ wAt cells x ∧ wAt cells x ≤ 8) := fun x hx => (now_w h1 h2 hx).2.2.2
  have HE1 := Lib.hid e1; have HE2 := Lib.hid e2; have HC := Lib.hid hC; have HM := Lib.hid hM
  have HOE : Hid (hOld cells c.hyp c.goal = chooseL cells c.hyp.supOld c.goal.supOld) := rfl
  have HNE : Hid (hNow cells c.hyp c.goal = chooseL cells c.hyp.supNow c.goal.supNow) := rfl
  clear e1 e2 hC hM h1 h2
  obtain ⟨W, hW⟩ : ∃ W, Boxes3 w W (.cells (condCells c ha hl hcp ga gl gc) 27) (.cells #[.slice none 0 0, .slice none 0 0, .int .i64 0, .bool false] 66) (.cells #[.slice none 0 0, .slice none 0 0, .int .i64 0, .bool false] 66) := ⟨_, Boxes3.mk' _ _ _ _⟩
  have hX := hW.ext
  have hat : CondAt W w.heap.size c ha hl hcp ga gl gc := hW.b0
  have hZW := hW.size
  have HR1 := Lib.hid hW.b1; have HR2 := Lib.hid hW.b2
  have HWE := Lib.hid hW.eq
  replace HE1 := Lib.hid (HE1.out.ext hX); replace HE2 := Lib.hid (HE2.out.ext hX); replace HC := Lib.hid (HC.out.ext hX); replace HM := Lib.hid (HM.out.ext hX)
  have HX := Lib.hid hX; have HAT := Lib.hid hat; have HZW := Lib.hid hZW
  obtain ⟨⟨q0, q1, q2, q3⟩, p0, p1, p2, p3⟩ := And.intro hat.hyp hat.goal
  clear hX hat hZW hW
  unfold condCells at *
  go_enter Tryz.func35, Tryz.ntmps35
  go_upto_region 1 with fail
  rw [← HWE.out]; clear HWE
  have HN0 : Hid (w.heap.size ≤ w.heap.size) := Nat.le_refl _
  generalize hn0 : w.heap.size = n0 at *
  replace HN0 : Hid (w.heap.size = n0) := hn0
  clear hn0
  go_wp2_with fail
  refine (Support_any c.hyp _ _ HE1.out HM.out).mono ?_
  rintro r w1 ⟨v1, v2, rfl, i1, i2, x1⟩
  obtain ⟨a1, b1, rfl⟩ := i1.shape
  obtain ⟨a2, b2, rfl⟩ := i2.shape
  have I1 := Lib.hid i1; have I2 := Lib.hid i2; have X1 := Lib.hid x1
  have p01 := x1.cell p0; have p11 := x1.cell p1; have p21 := x1.cell p2; have p31 := x1.cell p3
  clear i1 i2 x1 p0 p1 p2 p3 q0 q1 q2 q3
  go_wp2_with fail
  refine (Support_any c.goal _ _ (HE2.out.ext X1.out) (HM.out.ext X1.out)).mono ?_
  rintro r w2 ⟨v3, v4, rfl, i3, i4, x2⟩
  obtain ⟨a3, b3, rfl⟩ := i3.shape
  obtain ⟨a4, b4, rfl⟩ := i4.shape
  have I3 := Lib.hid i3; have I4 := Lib.hid i4; have X2 := Lib.hid (X1.out.trans x2)
  replace I1 := Lib.hid (I1.out.ext x2); replace I2 := Lib.hid (I2.out.ext x2)
  clear i3 i4 x2 p01 p11 p21 p31 X1
  go_wp2_with fail
  refine (Choose_any cells c.hyp.supOld c.goal.supOld _ _ _ w2 (HC.out.ext X2.out) I1.out I3.out HW1.out).mono ?_
  rintro r w3 ⟨⟨v5, v6, rfl, o5, o6⟩, x3⟩
  rw [← HOE.out] at *
  obtain ⟨a5, b5, rfl⟩ := o5.ints.shape
  obtain ⟨a6, b6, rfl⟩ := o6.ints.shape
  have O5 := Lib.hid o5; have O6 := Lib.hid o6; have X3 := Lib.hid (X2.out.trans x3); have XS3 := Lib.hid x3.size
  replace I2 := Lib.hid (I2.out.ext x3); replace I4 := Lib.hid (I4.out.ext x3)
  clear o5 o6 x3 I1 I3
  go_wp2_with fail
  refine (Choose_any cells c.hyp.supNow c.goal.supNow _ _ _ w3 (HC.out.ext X3.out) I2.out I4.out HW2.out).mono ?_
  rintro r w4 ⟨⟨v7, v8, rfl, o7, o8⟩, x4⟩
  rw [← HNE.out] at *
  obtain ⟨a7, b7, rfl⟩ := o7.ints.shape
  obtain ⟨a8, b8, rfl⟩ := o8.ints.shape
  have O7 := Lib.hid o7; have O8 := Lib.hid o8; have X4 := Lib.hid (X3.out.trans x4)
  replace O5 := Lib.hid (O5.out.kept x4); replace O6 := Lib.hid (O6.out.kept x4)
  have XS4 := Lib.hid x4.size
  clear o7 o8 x4 I2 I4
  obtain ⟨W5, hW5⟩ : ∃ W5, Boxes w4 W5 (.cells #[.slice a5 (hOld cells c.hyp c.goal).length b5, .slice a6 (wOf cells (hOld cells c.hyp c.goal)).length b6, .int .i64 (sumI (wOf cells (hOld cells c.hyp c.goal)))] 64) (.cells #[.slice a7 (hNow cells c.hyp c.goal).length b7, .slice a8 (wOf cells (hNow cells c.hyp c.goal)).length b8, .int .i64 (sumI (wOf cells (hNow cells c.hyp c.goal)))] 64) := ⟨_, Boxes.mk' _ _ _⟩
  have HBX := Lib.hid hW5; have HB0 := Lib.hid hW5.b0; have HB1 := Lib.hid hW5.b1
  go_upto_region 4 with fail
  rw [← HBX.out.eq]
  have HX5 := Lib.hid (X4.out.trans hW5.ext)
  have HNM : Hid (n0 + 3 ≤ w4.heap.size) := by have h1 := X4.out.size; have h2 := HZW.out; unfold Hid; omega
  have HRA : Hid (W5.heap[n0 + 1]? = some (.cells #[.slice none 0 0, .slice none 0 0, .int .i64 0, .bool false] 66 (0, 0))) := (HX5.out.block _ (by have := HZW.out; omega)).trans HR1.out
  have HRB : Hid (W5.heap[n0 + 1 + 1]? = some (.cells #[.slice none 0 0, .slice none 0 0, .int .i64 0, .bool false] 66 (0, 0))) := (HX5.out.block _ (by have := HZW.out; omega)).trans HR2.out
  replace O5 := Lib.hid (O5.out.kept hW5.ext); replace O6 := Lib.hid (O6.out.kept hW5.ext); replace O7 := Lib.hid (O7.out.kept hW5.ext); replace O8 := Lib.hid (O8.out.kept hW5.ext)
  have HP0 : Hid ((hOld cells c.hyp c.goal).length = 0 → stepB cells c.hyp c.goal = false ∧ cP cells c.hyp c.goal = hNow cells c.hyp c.goal ∧ cQ cells c.hyp c.goal = hOld cells c.hyp c.goal) := fun h => by
    have hs : stepB cells c.hyp c.goal = false := by unfold stepB; rw [List.length_eq_zero_iff.1 h]; rfl
    exact ⟨hs, by unfold cP; rw [hs]; rfl, by unfold cQ; rw [hs]; rfl⟩
  have HP1 : Hid (¬ (hOld cells c.hyp c.goal).length = 0 → stepB cells c.hyp c.goal = true ∧ cP cells c.hyp c.goal = hOld cells c.hyp c.goal ∧ cQ cells c.hyp c.goal = hNow cells c.hyp c.goal) := fun h => by
    have hs : stepB cells c.hyp c.goal = true := by
      unfold stepB
      cases h2 : hOld cells c.hyp c.goal with
      | nil => rw [h2] at h; exact absurd rfl h
      | cons a r => rfl
    exact ⟨hs, by unfold cP; rw [hs]; rfl, by unfold cQ; rw [hs]; rfl⟩
  clear hW5 HR1 HR2 HE1 HE2 HC HM HW1 HW2 HOE HNE HAT
  generalize hOld cells c.hyp c.goal = lo at *
  generalize hNow cells c.hyp c.goal = ln at *
  generalize hwo : wOf cells lo = wo at *
  generalize hwn : wOf cells ln = wn at *
  have HWO := Lib.hid hwo; have HWN := Lib.hid hwn
  clear hwo hwn
  generalize hso : sumI wo = so at *
  generalize hsn : sumI wn = sn at *
  have HSO := Lib.hid hso; have HSN := Lib.hid hsn
  clear hso hsn
  have HB2 : Hid (n0 + 3 ≤ w2.heap.size) := by have h1 := X2.out.size; have h2 := HZW.out; unfold Hid; omega
  have HB3 : Hid (n0 + 3 ≤ w3.heap.size) := by have h1 := X3.out.size; have h2 := HZW.out; unfold Hid; omega
  generalize w4.heap.size = m at *
  obtain ⟨r10, r11, r12, r13, f10, f11, f12, f13⟩ := cells_of_block HRA.out
  obtain ⟨r20, r21, r22, r23, f20, f21, f22, f23⟩ := cells_of_block HRB.out
  by_cases hz : lo.length = 0
  · have hz' : (lo.length : Int) = 0 := by omega
    have HZ := Lib.hid hz; clear hz
    have HFIN : Hid (∀ W6 : World, Ext w W6 → (∀ k, n0 + 3 ≤ k → W6.heap[k]? = W5.heap[k]?) → (∃ v1 v2, (Ending.returned (.tuple #[.agg #[.slice a7 ln.length b7, .slice a8 wn.length b8, .int .i64 sn, .bool false], .agg #[.slice a5 lo.length b5, .slice a6 wo.length b6, .int .i64 so, .bool false]])) = .returned (.tuple #[v1, v2]) ∧ SideO W6 w.heap.size v1 (cP cells c.hyp c.goal) (wOf cells (cP cells c.hyp c.goal)) (sumI (wOf cells (cP cells c.hyp c.goal))) (stepB cells c.hyp c.goal) ∧
        SideO W6 w.heap.size v2 (cQ cells c.hyp c.goal) (wOf cells (cQ cells c.hyp c.goal)) (sumI (wOf cells (cQ cells c.hyp c.goal))) (stepB cells c.hyp c.goal)) ∧ Ext w W6) := fun W6 hx hk => by
      obtain ⟨p1, p2, p3⟩ := HP0.out HZ.out
      rw [p1, p2, p3, HWO.out, HWN.out, HSO.out, HSN.out]
      have key : ∀ {base : Nat} {v : Value} {l : List Int}, OwnInts W5 base v l → n0 + 3 ≤ base → OwnInts W6 w.heap.size v l := fun h hb => (h.keep fun k e => hk k (by have := h.base k e; omega)).mono (by have := HN0.out; omega)
      exact ⟨⟨_, _, rfl, ⟨_, _, rfl, key O7.out HB3.out, key O8.out HB3.out⟩, _, _, rfl, key O5.out HB2.out, key O6.out HB2.out⟩, hx⟩
    have HS0 : Hid ((W5.cell? ⟨m, 0, none⟩ = some (.slice a5 lo.length b5) ∧ W5.cell? ⟨m, 1, none⟩ = some (.slice a6 wo.length b6) ∧ W5.cell? ⟨m, 2, none⟩ = some (.int .i64 so)) ∧ W5.cell? ⟨m + 1, 0, none⟩ = some (.slice a7 ln.length b7) ∧ W5.cell? ⟨m + 1, 1, none⟩ = some (.slice a8 wn.length b8) ∧ W5.cell? ⟨m + 1, 2, none⟩ = some (.int .i64 sn)) := by
      refine ⟨⟨?_, ?_, ?_⟩, ?_, ?_, ?_⟩ <;> first | (rw [Lib.cell_of_heap HB0.out]; rfl) | (rw [Lib.cell_of_heap HB1.out]; rfl)
    have HK : Hid (∀ w' : World, (∀ k, m ≤ k → w'.heap[k]? = W5.heap[k]?) → ((w'.cell? ⟨m, 0, none⟩ = some (.slice a5 lo.length b5) ∧ w'.cell? ⟨m, 1, none⟩ = some (.slice a6 wo.length b6) ∧ w'.cell? ⟨m, 2, none⟩ = some (.int .i64 so)) ∧ w'.cell? ⟨m + 1, 0, none⟩ = some (.slice a7 ln.length b7) ∧ w'.cell? ⟨m + 1, 1, none⟩ = some (.slice a8 wn.length b8) ∧ w'.cell? ⟨m + 1, 2, none⟩ = some (.int .i64 sn))) := fun w' h => by
      have h0 := (h m (Nat.le_refl _)).trans HB0.out
      have h1 := (h (m + 1) (by omega)).trans HB1.out
      refine ⟨⟨?_, ?_, ?_⟩, ?_, ?_, ?_⟩ <;> first | (rw [Lib.cell_of_heap h0]; rfl) | (rw [Lib.cell_of_heap h1]; rfl)
    obtain ⟨⟨s0, s1, s2⟩, s3, s4, s5⟩ := HS0.out
    go_upto_region 5 with fail
    have hs0 := (HK.out W5.drew (fun _ _ => rfl))
    have d10 := r10; have d11 := r11
    refine wp_normal2 ?_
    go_region_held3 (fun w' => (w'.cell? ⟨m, 0, none⟩ = some (.slice a5 lo.length b5) ∧ w'.cell? ⟨m, 1, none⟩ = some (.slice a6 wo.length b6) ∧ w'.cell? ⟨m, 2, none⟩ = some (.int .i64 so)) ∧ w'.cell? ⟨m + 1, 0, none⟩ = some (.slice a7 ln.length b7) ∧ w'.cell? ⟨m + 1, 1, none⟩ = some (.slice a8 wn.length b8) ∧ w'.cell? ⟨m + 1, 2, none⟩ = some (.int .i64 sn))
      ((first
        | (with_reducible exact hs0)
        | (refine HK.out _ (fun k hk => ?_)
           repeat (first | with_reducible refine far_drew ?_ | with_reducible refine far_set ?_ _ _ (by have := HNM.out; first | (show k ≠ n0 + 1; omega) | (show k ≠ n0 + 1 + 1; omega)))
           first | rfl | done)
        | fail))
      ((first
        | fail))
    · unfold onlyNormal
      obtain ⟨V, hV⟩ : ∃ V, V = ((((((((W5).setCell ⟨n0 + 1, 0, none⟩ (.slice a7 ln.length b7)).setCell ⟨n0 + 1, 1, none⟩ (.slice a8 wn.length b8)).setCell ⟨n0 + 1, 2, none⟩ (.int .i64 sn)).setCell ⟨n0 + 1, 3, none⟩ (.bool false)).setCell ⟨n0 + 1 + 1, 0, none⟩ (.slice a5 lo.length b5)).setCell ⟨n0 + 1 + 1, 1, none⟩ (.slice a6 wo.length b6)).setCell ⟨n0 + 1 + 1, 2, none⟩ (.int .i64 so)).setCell ⟨n0 + 1 + 1, 3, none⟩ (.bool false) := ⟨_, rfl⟩
      rw [← hV]
      obtain ⟨t1, t2, t3, t4⟩ := two_chain hV (by omega) HRA.out HRB.out
      have hn0 := HN0.out
      have HQ := Lib.hid (HFIN.out V.drew (t4 _ (HX.out.trans HX5.out) (by omega) (by omega)).drew fun k hk => t3 k (by omega) (by omega))
      have T1 := Lib.hid t1; have T2 := Lib.hid t2
      clear t1 t2 t3 t4 hV hn0
      go_wp2_with fail
      exact bodyPost_ret (results_rows2 Tryz.results35 _ _ (n0 + 1) (n0 + 1 + 1) 66 66 _ _ (0, 0) (0, 0) _ _ rfl (show V.drew.heap[n0 + 1]? = _ from T1.out) Tryz.underlying66 rfl sizeSide rfl (show V.drew.heap[n0 + 1 + 1]? = _ from T2.out) Tryz.underlying66 rfl sizeSide) rfl HQ.out
  · have hz' : ¬ (lo.length : Int) = 0 := by omega
    have HZ := Lib.hid hz; clear hz
    have HFIN : Hid (∀ W6 : World, Ext w W6 → (∀ k, n0 + 3 ≤ k → W6.heap[k]? = W5.heap[k]?) → (∃ v1 v2, (Ending.returned (.tuple #[.agg #[.slice a5 lo.length b5, .slice a6 wo.length b6, .int .i64 so, .bool true], .agg #[.slice a7 ln.length b7, .slice a8 wn.length b8, .int .i64 sn, .bool true]])) = .returned (.tuple #[v1, v2]) ∧ SideO W6 w.heap.size v1 (cP cells c.hyp c.goal) (wOf cells (cP cells c.hyp c.goal)) (sumI (wOf cells (cP cells c.hyp c.goal))) (stepB cells c.hyp c.goal) ∧
        SideO W6 w.heap.size v2 (cQ cells c.hyp c.goal) (wOf cells (cQ cells c.hyp c.goal)) (sumI (wOf cells (cQ cells c.hyp c.goal))) (stepB cells c.hyp c.goal)) ∧ Ext w W6) := fun W6 hx hk => by
      obtain ⟨p1, p2, p3⟩ := HP1.out HZ.out
      rw [p1, p2, p3, HWO.out, HWN.out, HSO.out, HSN.out]
      have key : ∀ {base : Nat} {v : Value} {l : List Int}, OwnInts W5 base v l → n0 + 3 ≤ base → OwnInts W6 w.heap.size v l := fun h hb => (h.keep fun k e => hk k (by have := h.base k e; omega)).mono (by have := HN0.out; omega)
      exact ⟨⟨_, _, rfl, ⟨_, _, rfl, key O5.out HB2.out, key O6.out HB2.out⟩, _, _, rfl, key O7.out HB3.out, key O8.out HB3.out⟩, hx⟩
    have HS0 : Hid ((W5.cell? ⟨m, 0, none⟩ = some (.slice a5 lo.length b5) ∧ W5.cell? ⟨m, 1, none⟩ = some (.slice a6 wo.length b6) ∧ W5.cell? ⟨m, 2, none⟩ = some (.int .i64 so)) ∧ W5.cell? ⟨m + 1, 0, none⟩ = some (.slice a7 ln.length b7) ∧ W5.cell? ⟨m + 1, 1, none⟩ = some (.slice a8 wn.length b8) ∧ W5.cell? ⟨m + 1, 2, none⟩ = some (.int .i64 sn)) := by
      refine ⟨⟨?_, ?_, ?_⟩, ?_, ?_, ?_⟩ <;> first | (rw [Lib.cell_of_heap HB0.out]; rfl) | (rw [Lib.cell_of_heap HB1.out]; rfl)
    have HK : Hid (∀ w' : World, (∀ k, m ≤ k → w'.heap[k]? = W5.heap[k]?) → ((w'.cell? ⟨m, 0, none⟩ = some (.slice a5 lo.length b5) ∧ w'.cell? ⟨m, 1, none⟩ = some (.slice a6 wo.length b6) ∧ w'.cell? ⟨m, 2, none⟩ = some (.int .i64 so)) ∧ w'.cell? ⟨m + 1, 0, none⟩ = some (.slice a7 ln.length b7) ∧ w'.cell? ⟨m + 1, 1, none⟩ = some (.slice a8 wn.length b8) ∧ w'.cell? ⟨m + 1, 2, none⟩ = some (.int .i64 sn))) := fun w' h => by
      have h0 := (h m (Nat.le_refl _)).trans HB0.out
      have h1 := (h (m + 1) (by omega)).trans HB1.out
      refine ⟨⟨?_, ?_, ?_⟩, ?_, ?_, ?_⟩ <;> first | (rw [Lib.cell_of_heap h0]; rfl) | (rw [Lib.cell_of_heap h1]; rfl)
    obtain ⟨⟨s0, s1, s2⟩, s3, s4, s5⟩ := HS0.out
    go_upto_region 6 with fail
    have hs0 := (HK.out W5.drew (fun _ _ => rfl))
    have d10 := r10; have d11 := r11
    refine wp_normal2 ?_
    go_region_held3 (fun w' => (w'.cell? ⟨m, 0, none⟩ = some (.slice a5 lo.length b5) ∧ w'.cell? ⟨m, 1, none⟩ = some (.slice a6 wo.length b6) ∧ w'.cell? ⟨m, 2, none⟩ = some (.int .i64 so)) ∧ w'.cell? ⟨m + 1, 0, none⟩ = some (.slice a7 ln.length b7) ∧ w'.cell? ⟨m + 1, 1, none⟩ = some (.slice a8 wn.length b8) ∧ w'.cell? ⟨m + 1, 2, none⟩ = some (.int .i64 sn))
      ((first
        | (with_reducible exact hs0)
        | (refine HK.out _ (fun k hk => ?_)
           repeat (first | with_reducible refine far_drew ?_ | with_reducible refine far_set ?_ _ _ (by have := HNM.out; first | (show k ≠ n0 + 1; omega) | (show k ≠ n0 + 1 + 1; omega)))
           first | rfl | done)
        | fail))
      ((first
        | fail))
    · unfold onlyNormal
      obtain ⟨V, hV⟩ : ∃ V, V = ((((((((W5).setCell ⟨n0 + 1, 0, none⟩ (.slice a5 lo.length b5)).setCell ⟨n0 + 1, 1, none⟩ (.slice a6 wo.length b6)).setCell ⟨n0 + 1, 2, none⟩ (.int .i64 so)).setCell ⟨n0 + 1, 3, none⟩ (.bool true)).setCell ⟨n0 + 1 + 1, 0, none⟩ (.slice a7 ln.length b7)).setCell ⟨n0 + 1 + 1, 1, none⟩ (.slice a8 wn.length b8)).setCell ⟨n0 + 1 + 1, 2, none⟩ (.int .i64 sn)).setCell ⟨n0 + 1 + 1, 3, none⟩ (.bool true) := ⟨_, rfl⟩
      rw [← hV]
      obtain ⟨t1, t2, t3, t4⟩ := two_chain hV (by omega) HRA.out HRB.out
      have hn0 := HN0.out
      have HQ := Lib.hid (HFIN.out V.drew (t4 _ (HX.out.trans HX5.out) (by omega) (by omega)).drew fun k hk => t3 k (by omega) (by omega))
      have T1 := Lib.hid t1; have T2 := Lib.hid t2
      clear t1 t2 t3 t4 hV hn0
      go_wp2_with fail
      exact bodyPost_ret (results_rows2 Tryz.results35 _ _ (n0 + 1) (n0 + 1 + 1) 66 66 _ _ (0, 0) (0, 0) _ _ rfl (show V.drew.heap[n0 + 1]? = _ from T1.out) Tryz.underlying66 rfl sizeSide rfl (show V.drew.heap[n0 + 1 + 1]? = _ from T2.out) Tryz.underlying66 rfl sizeSide) rfl HQ.out
end Go.Proofs.YtlcgbdjmlnjhcaaGreatDoor
namespace Go.Proofs.YtlcgbdjmlnjhcaaGreatDoor
open Go.RowKit Go.Shelf

theorem set14 {w V : World} {g : Nat} {t : TypeId} {x0 x1 x2 x3 x4 x5 x6 x7 x8 x9 x10 x11 x12 x13 v0 v1 v2 v3 v4 v5 v6 v7 v8 v9 v10 v11 v12 v13 : Value} (hV : V = ((((((((((((((w).setCell ⟨g, 0, none⟩ (v0)).setCell ⟨g, 1, none⟩ (v1)).setCell ⟨g, 2, none⟩ (v2)).setCell ⟨g, 3, none⟩ (v3)).setCell ⟨g, 4, none⟩ (v4)).setCell ⟨g, 5, none⟩ (v5)).setCell ⟨g, 6, none⟩ (v6)).setCell ⟨g, 7, none⟩ (v7)).setCell ⟨g, 8, none⟩ (v8)).setCell ⟨g, 9, none⟩ (v9)).setCell ⟨g, 10, none⟩ (v10)).setCell ⟨g, 11, none⟩ (v11)).setCell ⟨g, 12, none⟩ (v12)).setCell ⟨g, 13, none⟩ (v13)) (h : w.heap[g]? = some (.cells #[x0, x1, x2, x3, x4, x5, x6, x7, x8, x9, x10, x11, x12, x13] t (0, 0))) :
    V.heap[g]? = some (.cells #[v0, v1, v2, v3, v4, v5, v6, v7, v8, v9, v10, v11, v12, v13] t (0, 0)) ∧ (∀ k, k ≠ g → V.heap[k]? = w.heap[k]?) ∧ ∀ u, Ext u w → u.heap.size ≤ g → Ext u V := by
  subst hV
  refine ⟨?_, ?_, fun u hu hg => ?_⟩
  · have k0 := h
    have k1 := heap_setCell_same _ g 0 _ _ v0 k0
    have k2 := heap_setCell_same _ g 1 _ _ v1 k1
    have k3 := heap_setCell_same _ g 2 _ _ v2 k2
    have k4 := heap_setCell_same _ g 3 _ _ v3 k3
    have k5 := heap_setCell_same _ g 4 _ _ v4 k4
    have k6 := heap_setCell_same _ g 5 _ _ v5 k5
    have k7 := heap_setCell_same _ g 6 _ _ v6 k6
    have k8 := heap_setCell_same _ g 7 _ _ v7 k7
    have k9 := heap_setCell_same _ g 8 _ _ v8 k8
    have k10 := heap_setCell_same _ g 9 _ _ v9 k9
    have k11 := heap_setCell_same _ g 10 _ _ v10 k10
    have k12 := heap_setCell_same _ g 11 _ _ v11 k11
    have k13 := heap_setCell_same _ g 12 _ _ v12 k12
    have k14 := heap_setCell_same _ g 13 _ _ v13 k13
    simpa using k14
  · intro k hk
    exact (heap_setCell_other _ ⟨g, _, none⟩ k _ hk).trans ((heap_setCell_other _ ⟨g, _, none⟩ k _ hk).trans ((heap_setCell_other _ ⟨g, _, none⟩ k _ hk).trans ((heap_setCell_other _ ⟨g, _, none⟩ k _ hk).trans ((heap_setCell_other _ ⟨g, _, none⟩ k _ hk).trans ((heap_setCell_other _ ⟨g, _, none⟩ k _ hk).trans ((heap_setCell_other _ ⟨g, _, none⟩ k _ hk).trans ((heap_setCell_other _ ⟨g, _, none⟩ k _ hk).trans ((heap_setCell_other _ ⟨g, _, none⟩ k _ hk).trans ((heap_setCell_other _ ⟨g, _, none⟩ k _ hk).trans ((heap_setCell_other _ ⟨g, _, none⟩ k _ hk).trans ((heap_setCell_other _ ⟨g, _, none⟩ k _ hk).trans ((heap_setCell_other _ ⟨g, _, none⟩ k _ hk).trans (heap_setCell_other _ ⟨g, _, none⟩ k _ hk)))))))))))))
  · exact Below.setCell (Below.setCell (Below.setCell (Below.setCell (Below.setCell (Below.setCell (Below.setCell (Below.setCell (Below.setCell (Below.setCell (Below.setCell (Below.setCell (Below.setCell (Below.setCell (hu) (p := ⟨g, _, none⟩) hg _) (p := ⟨g, _, none⟩) hg _) (p := ⟨g, _, none⟩) hg _) (p := ⟨g, _, none⟩) hg _) (p := ⟨g, _, none⟩) hg _) (p := ⟨g, _, none⟩) hg _) (p := ⟨g, _, none⟩) hg _) (p := ⟨g, _, none⟩) hg _) (p := ⟨g, _, none⟩) hg _) (p := ⟨g, _, none⟩) hg _) (p := ⟨g, _, none⟩) hg _) (p := ⟨g, _, none⟩) hg _) (p := ⟨g, _, none⟩) hg _) (p := ⟨g, _, none⟩) hg _
theorem set8 {w V : World} {g : Nat} {t : TypeId} {x0 x1 x2 x3 x4 x5 x6 x7 x8 x9 x10 x11 x12 x13 v6 v7 v8 v9 v10 v11 v12 v13 : Value} (hV : V = ((((((((w).setCell ⟨g, 6, none⟩ (v6)).setCell ⟨g, 7, none⟩ (v7)).setCell ⟨g, 8, none⟩ (v8)).setCell ⟨g, 9, none⟩ (v9)).setCell ⟨g, 10, none⟩ (v10)).setCell ⟨g, 11, none⟩ (v11)).setCell ⟨g, 12, none⟩ (v12)).setCell ⟨g, 13, none⟩ (v13)) (h : w.heap[g]? = some (.cells #[x0, x1, x2, x3, x4, x5, x6, x7, x8, x9, x10, x11, x12, x13] t (0, 0))) :
    V.heap[g]? = some (.cells #[x0, x1, x2, x3, x4, x5, v6, v7, v8, v9, v10, v11, v12, v13] t (0, 0)) ∧ (∀ k, k ≠ g → V.heap[k]? = w.heap[k]?) ∧ ∀ u, Ext u w → u.heap.size ≤ g → Ext u V := by
  subst hV
  refine ⟨?_, ?_, fun u hu hg => ?_⟩
  · have k6 := h
    have k7 := heap_setCell_same _ g 6 _ _ v6 k6
    have k8 := heap_setCell_same _ g 7 _ _ v7 k7
    have k9 := heap_setCell_same _ g 8 _ _ v8 k8
    have k10 := heap_setCell_same _ g 9 _ _ v9 k9
    have k11 := heap_setCell_same _ g 10 _ _ v10 k10
    have k12 := heap_setCell_same _ g 11 _ _ v11 k11
    have k13 := heap_setCell_same _ g 12 _ _ v12 k12
    have k14 := heap_setCell_same _ g 13 _ _ v13 k13
    simpa using k14
  · intro k hk
    exact (heap_setCell_other _ ⟨g, _, none⟩ k _ hk).trans ((heap_setCell_other _ ⟨g, _, none⟩ k _ hk).trans ((heap_setCell_other _ ⟨g, _, none⟩ k _ hk).trans ((heap_setCell_other _ ⟨g, _, none⟩ k _ hk).trans ((heap_setCell_other _ ⟨g, _, none⟩ k _ hk).trans ((heap_setCell_other _ ⟨g, _, none⟩ k _ hk).trans ((heap_setCell_other _ ⟨g, _, none⟩ k _ hk).trans (heap_setCell_other _ ⟨g, _, none⟩ k _ hk)))))))
  · exact Below.setCell (Below.setCell (Below.setCell (Below.setCell (Below.setCell (Below.setCell (Below.setCell (Below.setCell (hu) (p := ⟨g, _, none⟩) hg _) (p := ⟨g, _, none⟩) hg _) (p := ⟨g, _, none⟩) hg _) (p := ⟨g, _, none⟩) hg _) (p := ⟨g, _, none⟩) hg _) (p := ⟨g, _, none⟩) hg _) (p := ⟨g, _, none⟩) hg _) (p := ⟨g, _, none⟩) hg _
theorem blocks14 {w : World} {g : Nat} {t : TypeId} {x0 x1 x2 x3 x4 x5 x6 x7 x8 x9 x10 x11 x12 x13 : Value} (h : w.heap[g]? = some (.cells #[x0, x1, x2, x3, x4, x5, x6, x7, x8, x9, x10, x11, x12, x13] t (0, 0))) : (w.cell? ⟨g, 0, none⟩ = some x0 ∧ w.cell? ⟨g, 1, none⟩ = some x1 ∧ w.cell? ⟨g, 2, none⟩ = some x2 ∧ w.cell? ⟨g, 3, none⟩ = some x3 ∧ w.cell? ⟨g, 4, none⟩ = some x4 ∧ w.cell? ⟨g, 5, none⟩ = some x5 ∧ w.cell? ⟨g, 6, none⟩ = some x6 ∧ w.cell? ⟨g, 7, none⟩ = some x7 ∧ w.cell? ⟨g, 8, none⟩ = some x8 ∧ w.cell? ⟨g, 9, none⟩ = some x9 ∧ w.cell? ⟨g, 10, none⟩ = some x10 ∧ w.cell? ⟨g, 11, none⟩ = some x11 ∧ w.cell? ⟨g, 12, none⟩ = some x12 ∧ w.cell? ⟨g, 13, none⟩ = some x13) ∧ w.frozen? ⟨g, 0, none⟩ = false ∧ w.frozen? ⟨g, 1, none⟩ = false ∧ w.frozen? ⟨g, 2, none⟩ = false ∧ w.frozen? ⟨g, 3, none⟩ = false ∧ w.frozen? ⟨g, 4, none⟩ = false ∧ w.frozen? ⟨g, 5, none⟩ = false ∧ w.frozen? ⟨g, 6, none⟩ = false ∧ w.frozen? ⟨g, 7, none⟩ = false ∧ w.frozen? ⟨g, 8, none⟩ = false ∧ w.frozen? ⟨g, 9, none⟩ = false ∧ w.frozen? ⟨g, 10, none⟩ = false ∧ w.frozen? ⟨g, 11, none⟩ = false ∧ w.frozen? ⟨g, 12, none⟩ = false ∧ w.frozen? ⟨g, 13, none⟩ = false := by
  refine ⟨⟨?_, ?_, ?_, ?_, ?_, ?_, ?_, ?_, ?_, ?_, ?_, ?_, ?_, ?_⟩, ?_, ?_, ?_, ?_, ?_, ?_, ?_, ?_, ?_, ?_, ?_, ?_, ?_, ?_⟩
  all_goals first | (rw [Lib.cell_of_heap h]; rfl) | exact Lib.frozen_of_heap h _

theorem sizeCond : (Tryz.prog.info? 27).map (·.size) = some 14 := by kernel_rfl
def zeroC : CondS := ⟨[], 0, 0, 0, 0, 0, .mk 0 0 0 [], .mk 0 0 0 []⟩
/-- What Strengthen answers. -/
def strC (c : CondS) (e : E) : CondS := if (connectZ [c.hyp, e] 5 1).op = 0 then zeroC else { c with hyp := connectZ [c.hyp, e] 5 1 }
theorem connectZ_size (ks : List E) (op u : Int) : (connectZ ks op u).size ≤ 100000 := by
  have hz : ∀ x : E, (zeroIf x).size ≤ 100000 := fun x => by
    unfold zeroIf
    split
    · next h =>
      unfold E.wf at h
      simp only [Bool.and_eq_true, decide_eq_true_eq] at h
      omega
    · simp [E.size, sizeAll]
  unfold connectZ
  split
  · exact hz _
  · simp [E.size, sizeAll]
theorem two_kids {w : World} {K : Nat} {a b : E} {ka kb : Value} (h1 : Kids w ka a.kids) (h2 : Kids w kb b.kids) (hb : w.heap[K]? = some (.cells #[.int .i64 a.op, .int .i64 a.wd, .int .i64 a.n, ka, .int .i64 b.op, .int .i64 b.wd, .int .i64 b.n, kb] 25 (0, 0))) : Kids w (.slice (some ⟨K, 0, none⟩) 2 2) [a, b] := by
  have := two_valT (S := fun _ => True) (Ext.refl w) (h1.t.mono fun _ _ => trivial) (h2.t.mono fun _ _ => trivial) trivial hb
  exact this.kids

/-- A condition, the blocks of its formulas in S. -/
def CondT (S : Nat → Prop) (w : World) (v : Value) (c : CondS) : Prop := ∃ ha hl hc ga gl gc, v = .agg (condCells c ha hl hc ga gl gc) ∧
  EValT S w (.agg #[.int .i64 c.hyp.op, .int .i64 c.hyp.wd, .int .i64 c.hyp.n, .slice ha hl hc]) c.hyp ∧ EValT S w (.agg #[.int .i64 c.goal.op, .int .i64 c.goal.wd, .int .i64 c.goal.n, .slice ga gl gc]) c.goal
theorem CondT.condV {S : Nat → Prop} {w : World} {v : Value} {c : CondS} (h : CondT S w v c) : CondV w v c := by
  obtain ⟨ha, hl, hc, ga, gl, gc, e, h1, h2⟩ := h
  exact ⟨ha, hl, hc, ga, gl, gc, e, h1.eVal, h2.eVal⟩
theorem CondV.t {w : World} {v : Value} {c : CondS} (h : CondV w v c) : CondT (fun k => k < w.heap.size) w v c := by
  obtain ⟨ha, hl, hc, ga, gl, gc, e, h1, h2⟩ := h
  exact ⟨ha, hl, hc, ga, gl, gc, e, h1.t, h2.t⟩
theorem CondT.keep {S : Nat → Prop} {w w' : World} {v : Value} {c : CondS} (h : CondT S w v c) (hx : ∀ k, S k → k < w.heap.size → w'.heap[k]? = w.heap[k]?) : CondT S w' v c := by
  obtain ⟨ha, hl, hc, ga, gl, gc, e, h1, h2⟩ := h
  exact ⟨ha, hl, hc, ga, gl, gc, e, h1.keep hx, h2.keep hx⟩
theorem CondT.mono {S S' : Nat → Prop} {w : World} {v : Value} {c : CondS} (h : CondT S w v c) (hS : ∀ k, S k → S' k) : CondT S' w v c := by
  obtain ⟨ha, hl, hc, ga, gl, gc, e, h1, h2⟩ := h
  exact ⟨ha, hl, hc, ga, gl, gc, e, h1.mono hS, h2.mono hS⟩

set_option maxRecDepth 100000 in
set_option maxHeartbeats 8000000 in
theorem Strengthen_anyT (S : Nat → Prop) (c : CondS) (e : E) (cv ev : Value) (w : World) (hc : CondT S w cv c) (he : EVal w ev e) (hM : Masks w) (hg : c.goal.size ≤ 100000) (hS : ∀ k, w.heap.size ≤ k → S k) :
    Calls Tryz.prog 11 #[cv, ev] w fun r w' => (∃ v, r = .returned v ∧ CondT S w' v (strC c e)) ∧ Ext w w' := by
  obtain ⟨ha, hl, hcp, ga, gl, gc, rfl, e1, e2⟩ := hc
  obtain ⟨ea, el, ec, rfl, hek⟩ := he.t.shape
  obtain ⟨W, hW⟩ : ∃ W, Boxes3 w W (.cells (condCells c ha hl hcp ga gl gc) 27) (.cells #[.int .i64 e.op, .int .i64 e.wd, .int .i64 e.n, .slice ea el ec] 25) (.cells #[.string ⟨#[]⟩, .int .i64 0, .int .i64 0, .int .i64 0, .int .i64 0, .int .i64 0, .int .i64 0, .int .i64 0, .int .i64 0, .slice none 0 0, .int .i64 0, .int .i64 0, .int .i64 0, .slice none 0 0] 27) := ⟨_, Boxes3.mk' _ _ _ _⟩
  have hX := hW.ext
  have hat : CondAt W w.heap.size c ha hl hcp ga gl gc := hW.b0
  have HX := Lib.hid hX; have HWE := Lib.hid hW.eq; have HZW := Lib.hid hW.size; have HR := Lib.hid hW.b2; have HAT := Lib.hid hat
  have HM := Lib.hid (hM.ext hX)
  have HSS := Lib.hid hS; clear hS
  have hgT := e2.there
  obtain ⟨_, hge, hgk⟩ := id hgT
  have hge' : KidsT (fun k => S k ∧ k < w.heap.size) w (.slice ga gl gc) c.goal.kids := by cases hge; exact hgk
  obtain ⟨_, hhe, hhk⟩ := id e1.eVal.t
  have hhe' : KidsT (fun k => k < w.heap.size) w (.slice ha hl hcp) c.hyp.kids := by cases hhe; exact hhk
  have HGK := Lib.hid hge'; have HHK := Lib.hid hhe'; have HEK := Lib.hid hek
  obtain ⟨q0, q1, q2, q3⟩ := hat.hyp
  obtain ⟨u0, u1, u2, u3⟩ := blocks4 hW.b1
  have HGS := Lib.hid hg
  clear hX hat hW hM hgT hge hgk hge' hhe hhk hhe' hek e1 e2 he hg
  unfold condCells at *
  go_enter Tryz.func11, Tryz.ntmps11
  go_upto_region 1 with fail
  rw [← HWE.out]; clear HWE
  obtain ⟨V, hV⟩ : ∃ V, V = W.alloc (.cells #[.int .i64 c.hyp.op, .int .i64 c.hyp.wd, .int .i64 c.hyp.n, .slice ha hl hcp, .int .i64 e.op, .int .i64 e.wd, .int .i64 e.n, .slice ea el ec] 25) := ⟨_, rfl⟩
  have xv : Ext W V := by rw [hV]; exact (Ext.refl _).alloc _
  have hvb : V.heap[W.heap.size]? = some (.cells #[.int .i64 c.hyp.op, .int .i64 c.hyp.wd, .int .i64 c.hyp.n, .slice ha hl hcp, .int .i64 e.op, .int .i64 e.wd, .int .i64 e.n, .slice ea el ec] 25 (0, 0)) := by rw [hV]; exact heap_new _ _
  have HKS : Hid (Kids V (.slice (some ⟨W.heap.size, 0, none⟩) 2 2) [c.hyp, e]) := two_kids ((HHK.out.keep fun k _ hk => (HX.out.trans xv).block k hk).kids) ((HEK.out.keep fun k _ hk => (HX.out.trans xv).block k hk).kids) hvb
  have HXV := Lib.hid xv; have HV := Lib.hid hV
  clear xv hvb hV
  go_wp2_with (first | (rw [← HV.out]; refine (AndZ_any [c.hyp, e] _ V HKS.out (HM.out.ext HXV.out) (by simp)).mono ?_) | fail)
  rintro r w1 ⟨⟨v, rfl, hv⟩, x1⟩
  have HST : Hid (strC c e = if (connectZ [c.hyp, e] 5 1).op = 0 then zeroC else { c with hyp := connectZ [c.hyp, e] 5 1 }) := rfl
  have HYS : Hid ((connectZ [c.hyp, e] 5 1).size ≤ 100000) := connectZ_size _ _ _
  generalize connectZ [c.hyp, e] 5 1 = y at *
  obtain ⟨ya, yl, yc, rfl, hky⟩ := hv.shape
  have HKY := Lib.hid hky.there; have X1 := Lib.hid (HXV.out.trans x1); have XV1 := Lib.hid x1
  clear hv hky x1 q0 q1 q2 q3 u0 u1 u2 u3
  obtain ⟨W2, hW2⟩ : ∃ W2, W2 = w1.alloc (.cells #[.int .i64 y.op, .int .i64 y.wd, .int .i64 y.n, .slice ya yl yc] 25) := ⟨_, rfl⟩
  have x12 : Ext w1 W2 := by rw [hW2]; exact (Ext.refl _).alloc _
  have HV2 : Hid (W2.heap[w1.heap.size]? = some (.cells #[.int .i64 y.op, .int .i64 y.wd, .int .i64 y.n, .slice ya yl yc] 25 (0, 0))) := by unfold Hid; rw [hW2]; exact heap_new _ _
  go_upto_region 2 with fail
  rw [← hW2]
  have X12 := Lib.hid x12; have XW2 := Lib.hid (X1.out.trans x12)
  clear hW2 x12
  obtain ⟨q0, q1, q2, q3⟩ := blocks4 HV2.out
  have hRW := (XW2.out.block _ (lt_heap HR.out)).trans HR.out
  by_cases h0 : y.op = 0
  · have hS0 : strC c e = zeroC := by rw [HST.out, if_pos h0]
    have HS0 := Lib.hid hS0
    obtain ⟨⟨d0, d1, d2, d3, d4, d5, d6, d7, d8, d9, d10, d11, d12, d13⟩, f0, f1, f2, f3, f4, f5, f6, f7, f8, f9, f10, f11, f12, f13⟩ := blocks14 hRW
    obtain ⟨V9, hV9⟩ : ∃ V9, V9 = ((((((((((((((W2).setCell ⟨w.heap.size + 1 + 1, 0, none⟩ (.string ⟨#[]⟩)).setCell ⟨w.heap.size + 1 + 1, 1, none⟩ (.int .i64 0)).setCell ⟨w.heap.size + 1 + 1, 2, none⟩ (.int .i64 0)).setCell ⟨w.heap.size + 1 + 1, 3, none⟩ (.int .i64 0)).setCell ⟨w.heap.size + 1 + 1, 4, none⟩ (.int .i64 0)).setCell ⟨w.heap.size + 1 + 1, 5, none⟩ (.int .i64 0)).setCell ⟨w.heap.size + 1 + 1, 6, none⟩ (.int .i64 0)).setCell ⟨w.heap.size + 1 + 1, 7, none⟩ (.int .i64 0)).setCell ⟨w.heap.size + 1 + 1, 8, none⟩ (.int .i64 0)).setCell ⟨w.heap.size + 1 + 1, 9, none⟩ (.slice none 0 0)).setCell ⟨w.heap.size + 1 + 1, 10, none⟩ (.int .i64 0)).setCell ⟨w.heap.size + 1 + 1, 11, none⟩ (.int .i64 0)).setCell ⟨w.heap.size + 1 + 1, 12, none⟩ (.int .i64 0)).setCell ⟨w.heap.size + 1 + 1, 13, none⟩ (.slice none 0 0) := ⟨_, rfl⟩
    obtain ⟨k1, k2, k3⟩ := set14 hV9 hRW
    have HB := Lib.hid k1
    have HXE := Lib.hid (k3 _ (HX.out.trans XW2.out) (by omega))
    have HV9 := Lib.hid hV9
    clear hRW k1 k2 k3 hV9
    go_wp2_with fail
    rw [← HV9.out]
    refine bodyPost_ret (results_cell_row Tryz.results11 _ _ (w.heap.size + 1 + 1) 27 _ (0, 0) _ rfl HB.out Tryz.underlying27 rfl sizeCond) rfl ⟨⟨_, rfl, ?_⟩, HXE.out⟩
    rw [HS0.out]
    exact ⟨none, 0, 0, none, 0, 0, rfl, ⟨_, rfl, .inl ⟨⟨_, _, rfl⟩, rfl⟩⟩, ⟨_, rfl, .inl ⟨⟨_, _, rfl⟩, rfl⟩⟩⟩
  · have hS0 : strC c e = { c with hyp := y } := by rw [HST.out, if_neg h0]
    have HS0 := Lib.hid hS0
    have hat2 := (XW2.out.block _ (lt_heap HAT.out)).trans HAT.out
    unfold condCells at hat2
    have HAT2 := Lib.hid hat2
    have HGK2 : Hid (KidsT (fun k => S k ∧ k ≠ w.heap.size ∧ k ≠ w.heap.size + 1 + 1) W2 (.slice ga gl gc) c.goal.kids) := (HGK.out.keep fun k _ hk => (HX.out.trans XW2.out).block k hk).mono fun k hk => ⟨hk.1, by have := hk.2; omega, by have := hk.2; omega⟩
    have HKY2 : Hid (KidsT (fun k => S k ∧ k ≠ w.heap.size ∧ k ≠ w.heap.size + 1 + 1) W2 (.slice ya yl yc) y.kids) := (HKY.out.keep fun k _ hk => X12.out.block k hk).mono fun k hk => by
      have h1 := HXV.out.size; have h2 := HZW.out; have h3 := hk.1
      exact ⟨HSS.out k (by omega), by omega, by omega⟩
    have HSB : Hid (∀ k, W2.heap.size ≤ k → S k ∧ k ≠ w.heap.size ∧ k ≠ w.heap.size + 1 + 1) := fun k hk => by
      have h1 := XW2.out.size; have h2 := HZW.out
      exact ⟨HSS.out k (by omega), by omega, by omega⟩
    have HRW := Lib.hid hRW; have HB5 : Hid (w.heap.size + 3 ≤ w1.heap.size) := by have h1 := X1.out.size; have h2 := HZW.out; unfold Hid; omega
    have HXW := Lib.hid (HX.out.trans XW2.out)
    obtain ⟨⟨l0, l1, l2, l3, l4, l5, l6, l7, l8, l9, l10, l11, l12, l13⟩, _⟩ := blocks14 hat2
    clear hRW hat2 hS0
    generalize hb5 : w1.heap.size = b5 at *
    clear hb5
    generalize hn0 : w.heap.size = n0 at *
    have HN0 := Lib.hid hn0
    clear hn0
    go_upto_region 4 with fail
    have HOLD : Hid (∀ w' : World, w'.heap[b5]? = W2.heap[b5]? → (w'.cell? ⟨b5, 0, none⟩ = some (.int .i64 y.op) ∧ w'.cell? ⟨b5, 1, none⟩ = some (.int .i64 y.wd) ∧ w'.cell? ⟨b5, 2, none⟩ = some (.int .i64 y.n) ∧ w'.cell? ⟨b5, 3, none⟩ = some (.slice ya yl yc))) := fun w' h => blocks4 (h.trans HV2.out)
    have X00 : Hid (Ext W2 W2.drew) := (Ext.refl W2).drew
    have hs0 := HOLD.out W2.drew rfl
    have HEV1 : Hid (Calls Tryz.prog 40 #[.agg #[.int .i64 y.op, .int .i64 y.wd, .int .i64 y.n, .slice ya yl yc]] W2.drew (RetT (fun k => S k ∧ k ≠ n0 ∧ k ≠ n0 + 1 + 1) y W2.drew)) :=
      HClone_any (fun k => S k ∧ k ≠ n0 ∧ k ≠ n0 + 1 + 1) y _ W2.drew ⟨_, rfl, HKY2.out.keep (w' := W2.drew) fun k _ _ => rfl⟩ (fun k hk => HSB.out k hk) HYS.out
    have HEV2 : Hid (∀ y1, Ext W2 y1 → Calls Tryz.prog 40 #[.agg #[.int .i64 c.goal.op, .int .i64 c.goal.wd, .int .i64 c.goal.n, .slice ga gl gc]] y1 (RetT (fun k => S k ∧ k ≠ n0 ∧ k ≠ n0 + 1 + 1) c.goal y1)) := fun y1 hx =>
      HClone_any (fun k => S k ∧ k ≠ n0 ∧ k ≠ n0 + 1 + 1) c.goal _ y1 ⟨_, rfl, HGK2.out.keep fun k _ hk => hx.block k hk⟩ (fun k hk => HSB.out k (by have := hx.size; omega)) HGS.out
    refine wp_normal2 ?_
    refine wp_region_held (S := fun w' => w'.cell? ⟨b5, 0, none⟩ = some (.int .i64 y.op) ∧ w'.cell? ⟨b5, 1, none⟩ = some (.int .i64 y.wd) ∧ w'.cell? ⟨b5, 2, none⟩ = some (.int .i64 y.n) ∧ w'.cell? ⟨b5, 3, none⟩ = some (.slice ya yl yc)) (by kernel_rfl) ?_
    change wpAnyH _ _ _ _ _ _ _ _ W2.drew
    have HSA := Lib.hid hs0; clear hs0
    have l10d : W2.drew.cell? ⟨n0, 10, none⟩ = some (.int .i64 c.goal.op) := l10
    have l11d : W2.drew.cell? ⟨n0, 11, none⟩ = some (.int .i64 c.goal.wd) := l11
    have l12d : W2.drew.cell? ⟨n0, 12, none⟩ = some (.int .i64 c.goal.n) := l12
    have l13d : W2.drew.cell? ⟨n0, 13, none⟩ = some (.slice ga gl gc) := l13
    generalize W2.drew = v0 at *
    refine wpAnyH_take (i := 0) (v := .agg #[.int .i64 y.op, .int .i64 y.wd, .int .i64 y.n, .slice ya yl yc]) rfl (by kernel_rfl) (by kernel_rfl) (by kernel_rfl) (fun _ _ _ h => h) (.inl ⟨rfl, fun w' hx' => by obtain ⟨z0, z1, z2, z3⟩ := hx'; go_simp⟩) HSA.out ?_
    refine wpAnyH_take (i := 2) (v := .pointer (some ⟨n0, 10, none⟩)) rfl (by kernel_rfl) (by kernel_rfl) (by kernel_rfl) (fun _ _ _ h => h) (.inl ⟨rfl, fun w' hx' => by obtain ⟨z0, z1, z2, z3⟩ := hx'; go_simp⟩) HSA.out ?_
    refine wpAnyH_all (rs := [1, 3]) (by kernel_rfl) (by simp) ?_
    intro i hi
    have hi' : i = 1 ∨ i = 3 := by simpa using hi
    clear hi
    rcases hi' with rfl | rfl
    · unfold wpOp
      go_simp
      refine .inl (HEV1.out.mono ?_)
      rintro r y1 ⟨⟨v, rfl, hv1⟩, x1⟩
      obtain ⟨sa, sl, sc, rfl, hks⟩ := hv1.shape
      have Y1 : Hid (Ext W2 y1) := X00.out.trans x1
      have HKS1 := Lib.hid hks
      have p10 := Y1.out.cell l10; have p11 := Y1.out.cell l11; have p12 := Y1.out.cell l12; have p13 := Y1.out.cell l13
      clear x1 hv1 hks
      have HS1 := Lib.hid (HOLD.out y1 (Y1.out.block _ (lt_heap HV2.out)))
      refine ⟨HS1.out, ?_⟩
      refine wpAnyH_all (rs := [3]) (by kernel_rfl) (by simp) ?_
      intro i hi
      obtain rfl : i = 3 := by simpa using hi
      clear hi
      unfold wpOp
      go_simp
      refine .inl ⟨HS1.out, ?_⟩
      refine wpAnyH_take (i := 5) (v := .pointer (some ⟨n0, 6, none⟩)) rfl (by kernel_rfl) (by kernel_rfl) (by kernel_rfl) (fun _ _ _ h => h) (.inl ⟨rfl, fun w' hx' => by obtain ⟨z0, z1, z2, z3⟩ := hx'; go_simp⟩) HS1.out ?_
      refine wpAnyH_all (rs := [4]) (by kernel_rfl) (by simp) ?_
      intro i hi
      obtain rfl : i = 4 := by simpa using hi
      clear hi
      unfold wpOp
      go_simp
      refine .inl ((HEV2.out _ Y1.out).mono ?_)
      rintro r y2 ⟨⟨v, rfl, hv2⟩, x2⟩
      obtain ⟨za, zl, zc, rfl, hkz⟩ := hv2.shape
      have Y2 : Hid (Ext W2 y2) := Y1.out.trans x2
      have HKS2 := Lib.hid (HKS1.out.keep (w' := y2) fun k _ hk => x2.block k hk)
      have HKZ := Lib.hid hkz
      have ha2 := (Y2.out.block _ (lt_heap HAT2.out)).trans HAT2.out
      have HA2 := Lib.hid ha2
      obtain ⟨⟨d0, d1, d2, d3, d4, d5, d6, d7, d8, d9, d10, d11, d12, d13⟩, f0, f1, f2, f3, f4, f5, f6, f7, f8, f9, f10, f11, f12, f13⟩ := blocks14 ha2
      clear x2 hv2 hkz ha2
      have HS2 := Lib.hid (HOLD.out y2 (Y2.out.block _ (lt_heap HV2.out)))
      refine ⟨HS2.out, ?_⟩
      refine wpAnyH_all (rs := [6]) (by kernel_rfl) (by simp) ?_
      intro i hi
      obtain rfl : i = 6 := by simpa using hi
      clear hi
      unfold wpOp
      go_simp
      refine .inl ⟨HOLD.out _ ?_, ?_⟩
      · repeat (with_reducible refine far_set ?_ _ _ (by have := HB5.out; show b5 ≠ n0; omega))
        exact (Y2.out.block _ (lt_heap HV2.out))
      have HS3 : Hid (((((y2.setCell ⟨n0, 6, none⟩ (.int .i64 y.op)).setCell ⟨n0, 7, none⟩ (.int .i64 y.wd)).setCell ⟨n0, 8, none⟩ (.int .i64 y.n)).setCell ⟨n0, 9, none⟩ (.slice sa sl sc)).cell? ⟨b5, 0, none⟩ = some (.int .i64 y.op) ∧ ((((y2.setCell ⟨n0, 6, none⟩ (.int .i64 y.op)).setCell ⟨n0, 7, none⟩ (.int .i64 y.wd)).setCell ⟨n0, 8, none⟩ (.int .i64 y.n)).setCell ⟨n0, 9, none⟩ (.slice sa sl sc)).cell? ⟨b5, 1, none⟩ = some (.int .i64 y.wd) ∧ ((((y2.setCell ⟨n0, 6, none⟩ (.int .i64 y.op)).setCell ⟨n0, 7, none⟩ (.int .i64 y.wd)).setCell ⟨n0, 8, none⟩ (.int .i64 y.n)).setCell ⟨n0, 9, none⟩ (.slice sa sl sc)).cell? ⟨b5, 2, none⟩ = some (.int .i64 y.n) ∧ ((((y2.setCell ⟨n0, 6, none⟩ (.int .i64 y.op)).setCell ⟨n0, 7, none⟩ (.int .i64 y.wd)).setCell ⟨n0, 8, none⟩ (.int .i64 y.n)).setCell ⟨n0, 9, none⟩ (.slice sa sl sc)).cell? ⟨b5, 3, none⟩ = some (.slice ya yl yc)) := HOLD.out _ (by
        repeat (with_reducible refine far_set ?_ _ _ (by have := HB5.out; show b5 ≠ n0; omega))
        exact (Y2.out.block _ (lt_heap HV2.out)))
      refine wpAnyH_take (i := 7) (v := .pointer (some ⟨n0, 10, none⟩)) rfl (by kernel_rfl) (by kernel_rfl) (by kernel_rfl) (fun _ _ _ h => h) (.inl ⟨rfl, fun w' hx' => by obtain ⟨z0, z1, z2, z3⟩ := hx'; go_simp⟩) HS3.out ?_
      refine wpAnyH_all (rs := [8]) (by kernel_rfl) (by simp) ?_
      intro i hi
      obtain rfl : i = 8 := by simpa using hi
      clear hi
      unfold wpOp
      go_simp
      refine .inl ⟨HOLD.out _ ?_, ?_⟩
      · repeat (with_reducible refine far_set ?_ _ _ (by have := HB5.out; show b5 ≠ n0; omega))
        exact (Y2.out.block _ (lt_heap HV2.out))
      refine wpAnyH_done (by kernel_rfl) ?_ _
      unfold onlyNormal
      obtain ⟨V8, hV8⟩ : ∃ V8, V8 = ((((((((y2).setCell ⟨n0, 6, none⟩ (.int .i64 y.op)).setCell ⟨n0, 7, none⟩ (.int .i64 y.wd)).setCell ⟨n0, 8, none⟩ (.int .i64 y.n)).setCell ⟨n0, 9, none⟩ (.slice sa sl sc)).setCell ⟨n0, 10, none⟩ (.int .i64 c.goal.op)).setCell ⟨n0, 11, none⟩ (.int .i64 c.goal.wd)).setCell ⟨n0, 12, none⟩ (.int .i64 c.goal.n)).setCell ⟨n0, 13, none⟩ (.slice za zl zc) := ⟨_, rfl⟩
      rw [← hV8]
      obtain ⟨k1, k2, k3⟩ := set8 hV8 HA2.out
      have hx8 := k3 w (HXW.out.trans Y2.out) (by have := HN0.out; omega)
      have hR8 := (k2 (n0 + 1 + 1) (by omega)).trans ((Y2.out.block _ (lt_heap HRW.out)).trans HRW.out)
      have HK8 : Hid (KidsT (fun k => S k ∧ k ≠ n0 ∧ k ≠ n0 + 1 + 1) V8 (.slice sa sl sc) y.kids) := HKS2.out.keep fun k hk _ => k2 k hk.2.1
      have HZ8 : Hid (KidsT (fun k => S k ∧ k ≠ n0 ∧ k ≠ n0 + 1 + 1) V8 (.slice za zl zc) c.goal.kids) := HKZ.out.keep fun k hk _ => k2 k hk.2.1
      have H8 := Lib.hid k1; have HX8 := Lib.hid hx8; have HR8 := Lib.hid hR8
      obtain ⟨V9, hV9⟩ : ∃ V9, V9 = ((((((((((((((V8).setCell ⟨n0 + 1 + 1, 0, none⟩ (.string ⟨c.id.toArray⟩)).setCell ⟨n0 + 1 + 1, 1, none⟩ (.int .i64 c.k1)).setCell ⟨n0 + 1 + 1, 2, none⟩ (.int .i64 c.k2)).setCell ⟨n0 + 1 + 1, 3, none⟩ (.int .i64 c.k3)).setCell ⟨n0 + 1 + 1, 4, none⟩ (.int .i64 c.k4)).setCell ⟨n0 + 1 + 1, 5, none⟩ (.int .i64 c.k5)).setCell ⟨n0 + 1 + 1, 6, none⟩ (.int .i64 y.op)).setCell ⟨n0 + 1 + 1, 7, none⟩ (.int .i64 y.wd)).setCell ⟨n0 + 1 + 1, 8, none⟩ (.int .i64 y.n)).setCell ⟨n0 + 1 + 1, 9, none⟩ (.slice sa sl sc)).setCell ⟨n0 + 1 + 1, 10, none⟩ (.int .i64 c.goal.op)).setCell ⟨n0 + 1 + 1, 11, none⟩ (.int .i64 c.goal.wd)).setCell ⟨n0 + 1 + 1, 12, none⟩ (.int .i64 c.goal.n)).setCell ⟨n0 + 1 + 1, 13, none⟩ (.slice za zl zc) := ⟨_, rfl⟩
      obtain ⟨j1, j2, j3⟩ := set14 hV9 hR8
      have HB := Lib.hid j1
      have HXE := Lib.hid (j3 w hx8 (by have := HN0.out; omega))
      have HK9 := Lib.hid (HK8.out.keep (w' := V9) fun k hk _ => j2 k hk.2.2)
      have HZ9 := Lib.hid (HZ8.out.keep (w' := V9) fun k hk _ => j2 k hk.2.2)
      have HV9 := Lib.hid hV9
      clear hV8 k1 k2 k3 hx8 hR8 j1 j2 j3 hV9 d0 d1 d2 d3 d4 d5 d6 d7 d8 d9 d10 d11 d12 d13 f0 f1 f2 f3 f4 f5 f6 f7 f8 f9 f10 f11 f12 f13
      obtain ⟨⟨g0, g1, g2, g3, g4, g5, g6, g7, g8, g9, g10, g11, g12, g13⟩, _⟩ := blocks14 H8.out
      obtain ⟨⟨d0, d1, d2, d3, d4, d5, d6, d7, d8, d9, d10, d11, d12, d13⟩, f0, f1, f2, f3, f4, f5, f6, f7, f8, f9, f10, f11, f12, f13⟩ := blocks14 HR8.out
      go_wp2_with fail
      rw [← HV9.out]
      refine bodyPost_ret (results_cell_row Tryz.results11 _ _ (n0 + 1 + 1) 27 _ (0, 0) _ rfl HB.out Tryz.underlying27 rfl sizeCond) rfl ⟨⟨_, rfl, ?_⟩, HXE.out⟩
      rw [HS0.out]
      exact ⟨_, _, _, _, _, _, rfl, ⟨_, rfl, HK9.out.mono fun k hk => hk.1⟩, ⟨_, rfl, HZ9.out.mono fun k hk => hk.1⟩⟩
    · unfold wpOp
      go_simp
      refine .inl ⟨HSA.out, ?_⟩
      refine wpAnyH_all (rs := [1]) (by kernel_rfl) (by simp) ?_
      intro i hi
      obtain rfl : i = 1 := by simpa using hi
      clear hi
      unfold wpOp
      go_simp
      refine .inl (HEV1.out.mono ?_)
      rintro r y1 ⟨⟨v, rfl, hv1⟩, x1⟩
      obtain ⟨sa, sl, sc, rfl, hks⟩ := hv1.shape
      have Y1 : Hid (Ext W2 y1) := X00.out.trans x1
      have HKS1 := Lib.hid hks
      have p10 := Y1.out.cell l10; have p11 := Y1.out.cell l11; have p12 := Y1.out.cell l12; have p13 := Y1.out.cell l13
      clear x1 hv1 hks
      have HS1 := Lib.hid (HOLD.out y1 (Y1.out.block _ (lt_heap HV2.out)))
      refine ⟨HS1.out, ?_⟩
      refine wpAnyH_take (i := 5) (v := .pointer (some ⟨n0, 6, none⟩)) rfl (by kernel_rfl) (by kernel_rfl) (by kernel_rfl) (fun _ _ _ h => h) (.inl ⟨rfl, fun w' hx' => by obtain ⟨z0, z1, z2, z3⟩ := hx'; go_simp⟩) HS1.out ?_
      refine wpAnyH_all (rs := [4]) (by kernel_rfl) (by simp) ?_
      intro i hi
      obtain rfl : i = 4 := by simpa using hi
      clear hi
      unfold wpOp
      go_simp
      refine .inl ((HEV2.out _ Y1.out).mono ?_)
      rintro r y2 ⟨⟨v, rfl, hv2⟩, x2⟩
      obtain ⟨za, zl, zc, rfl, hkz⟩ := hv2.shape
      have Y2 : Hid (Ext W2 y2) := Y1.out.trans x2
      have HKS2 := Lib.hid (HKS1.out.keep (w' := y2) fun k _ hk => x2.block k hk)
      have HKZ := Lib.hid hkz
      have ha2 := (Y2.out.block _ (lt_heap HAT2.out)).trans HAT2.out
      have HA2 := Lib.hid ha2
      obtain ⟨⟨d0, d1, d2, d3, d4, d5, d6, d7, d8, d9, d10, d11, d12, d13⟩, f0, f1, f2, f3, f4, f5, f6, f7, f8, f9, f10, f11, f12, f13⟩ := blocks14 ha2
      clear x2 hv2 hkz ha2
      have HS2 := Lib.hid (HOLD.out y2 (Y2.out.block _ (lt_heap HV2.out)))
      refine ⟨HS2.out, ?_⟩
      refine wpAnyH_all (rs := [6]) (by kernel_rfl) (by simp) ?_
      intro i hi
      obtain rfl : i = 6 := by simpa using hi
      clear hi
      unfold wpOp
      go_simp
      refine .inl ⟨HOLD.out _ ?_, ?_⟩
      · repeat (with_reducible refine far_set ?_ _ _ (by have := HB5.out; show b5 ≠ n0; omega))
        exact (Y2.out.block _ (lt_heap HV2.out))
      have HS3 : Hid (((((y2.setCell ⟨n0, 6, none⟩ (.int .i64 y.op)).setCell ⟨n0, 7, none⟩ (.int .i64 y.wd)).setCell ⟨n0, 8, none⟩ (.int .i64 y.n)).setCell ⟨n0, 9, none⟩ (.slice sa sl sc)).cell? ⟨b5, 0, none⟩ = some (.int .i64 y.op) ∧ ((((y2.setCell ⟨n0, 6, none⟩ (.int .i64 y.op)).setCell ⟨n0, 7, none⟩ (.int .i64 y.wd)).setCell ⟨n0, 8, none⟩ (.int .i64 y.n)).setCell ⟨n0, 9, none⟩ (.slice sa sl sc)).cell? ⟨b5, 1, none⟩ = some (.int .i64 y.wd) ∧ ((((y2.setCell ⟨n0, 6, none⟩ (.int .i64 y.op)).setCell ⟨n0, 7, none⟩ (.int .i64 y.wd)).setCell ⟨n0, 8, none⟩ (.int .i64 y.n)).setCell ⟨n0, 9, none⟩ (.slice sa sl sc)).cell? ⟨b5, 2, none⟩ = some (.int .i64 y.n) ∧ ((((y2.setCell ⟨n0, 6, none⟩ (.int .i64 y.op)).setCell ⟨n0, 7, none⟩ (.int .i64 y.wd)).setCell ⟨n0, 8, none⟩ (.int .i64 y.n)).setCell ⟨n0, 9, none⟩ (.slice sa sl sc)).cell? ⟨b5, 3, none⟩ = some (.slice ya yl yc)) := HOLD.out _ (by
        repeat (with_reducible refine far_set ?_ _ _ (by have := HB5.out; show b5 ≠ n0; omega))
        exact (Y2.out.block _ (lt_heap HV2.out)))
      refine wpAnyH_take (i := 7) (v := .pointer (some ⟨n0, 10, none⟩)) rfl (by kernel_rfl) (by kernel_rfl) (by kernel_rfl) (fun _ _ _ h => h) (.inl ⟨rfl, fun w' hx' => by obtain ⟨z0, z1, z2, z3⟩ := hx'; go_simp⟩) HS3.out ?_
      refine wpAnyH_all (rs := [8]) (by kernel_rfl) (by simp) ?_
      intro i hi
      obtain rfl : i = 8 := by simpa using hi
      clear hi
      unfold wpOp
      go_simp
      refine .inl ⟨HOLD.out _ ?_, ?_⟩
      · repeat (with_reducible refine far_set ?_ _ _ (by have := HB5.out; show b5 ≠ n0; omega))
        exact (Y2.out.block _ (lt_heap HV2.out))
      refine wpAnyH_done (by kernel_rfl) ?_ _
      unfold onlyNormal
      obtain ⟨V8, hV8⟩ : ∃ V8, V8 = ((((((((y2).setCell ⟨n0, 6, none⟩ (.int .i64 y.op)).setCell ⟨n0, 7, none⟩ (.int .i64 y.wd)).setCell ⟨n0, 8, none⟩ (.int .i64 y.n)).setCell ⟨n0, 9, none⟩ (.slice sa sl sc)).setCell ⟨n0, 10, none⟩ (.int .i64 c.goal.op)).setCell ⟨n0, 11, none⟩ (.int .i64 c.goal.wd)).setCell ⟨n0, 12, none⟩ (.int .i64 c.goal.n)).setCell ⟨n0, 13, none⟩ (.slice za zl zc) := ⟨_, rfl⟩
      rw [← hV8]
      obtain ⟨k1, k2, k3⟩ := set8 hV8 HA2.out
      have hx8 := k3 w (HXW.out.trans Y2.out) (by have := HN0.out; omega)
      have hR8 := (k2 (n0 + 1 + 1) (by omega)).trans ((Y2.out.block _ (lt_heap HRW.out)).trans HRW.out)
      have HK8 : Hid (KidsT (fun k => S k ∧ k ≠ n0 ∧ k ≠ n0 + 1 + 1) V8 (.slice sa sl sc) y.kids) := HKS2.out.keep fun k hk _ => k2 k hk.2.1
      have HZ8 : Hid (KidsT (fun k => S k ∧ k ≠ n0 ∧ k ≠ n0 + 1 + 1) V8 (.slice za zl zc) c.goal.kids) := HKZ.out.keep fun k hk _ => k2 k hk.2.1
      have H8 := Lib.hid k1; have HX8 := Lib.hid hx8; have HR8 := Lib.hid hR8
      obtain ⟨V9, hV9⟩ : ∃ V9, V9 = ((((((((((((((V8).setCell ⟨n0 + 1 + 1, 0, none⟩ (.string ⟨c.id.toArray⟩)).setCell ⟨n0 + 1 + 1, 1, none⟩ (.int .i64 c.k1)).setCell ⟨n0 + 1 + 1, 2, none⟩ (.int .i64 c.k2)).setCell ⟨n0 + 1 + 1, 3, none⟩ (.int .i64 c.k3)).setCell ⟨n0 + 1 + 1, 4, none⟩ (.int .i64 c.k4)).setCell ⟨n0 + 1 + 1, 5, none⟩ (.int .i64 c.k5)).setCell ⟨n0 + 1 + 1, 6, none⟩ (.int .i64 y.op)).setCell ⟨n0 + 1 + 1, 7, none⟩ (.int .i64 y.wd)).setCell ⟨n0 + 1 + 1, 8, none⟩ (.int .i64 y.n)).setCell ⟨n0 + 1 + 1, 9, none⟩ (.slice sa sl sc)).setCell ⟨n0 + 1 + 1, 10, none⟩ (.int .i64 c.goal.op)).setCell ⟨n0 + 1 + 1, 11, none⟩ (.int .i64 c.goal.wd)).setCell ⟨n0 + 1 + 1, 12, none⟩ (.int .i64 c.goal.n)).setCell ⟨n0 + 1 + 1, 13, none⟩ (.slice za zl zc) := ⟨_, rfl⟩
      obtain ⟨j1, j2, j3⟩ := set14 hV9 hR8
      have HB := Lib.hid j1
      have HXE := Lib.hid (j3 w hx8 (by have := HN0.out; omega))
      have HK9 := Lib.hid (HK8.out.keep (w' := V9) fun k hk _ => j2 k hk.2.2)
      have HZ9 := Lib.hid (HZ8.out.keep (w' := V9) fun k hk _ => j2 k hk.2.2)
      have HV9 := Lib.hid hV9
      clear hV8 k1 k2 k3 hx8 hR8 j1 j2 j3 hV9 d0 d1 d2 d3 d4 d5 d6 d7 d8 d9 d10 d11 d12 d13 f0 f1 f2 f3 f4 f5 f6 f7 f8 f9 f10 f11 f12 f13
      obtain ⟨⟨g0, g1, g2, g3, g4, g5, g6, g7, g8, g9, g10, g11, g12, g13⟩, _⟩ := blocks14 H8.out
      obtain ⟨⟨d0, d1, d2, d3, d4, d5, d6, d7, d8, d9, d10, d11, d12, d13⟩, f0, f1, f2, f3, f4, f5, f6, f7, f8, f9, f10, f11, f12, f13⟩ := blocks14 HR8.out
      go_wp2_with fail
      rw [← HV9.out]
      refine bodyPost_ret (results_cell_row Tryz.results11 _ _ (n0 + 1 + 1) 27 _ (0, 0) _ rfl HB.out Tryz.underlying27 rfl sizeCond) rfl ⟨⟨_, rfl, ?_⟩, HXE.out⟩
      rw [HS0.out]
      exact ⟨_, _, _, _, _, _, rfl, ⟨_, rfl, HK9.out.mono fun k hk => hk.1⟩, ⟨_, rfl, HZ9.out.mono fun k hk => hk.1⟩⟩
theorem Strengthen_any (c : CondS) (e : E) (cv ev : Value) (w : World) (hc : CondV w cv c) (he : EVal w ev e) (hM : Masks w) (hg : c.goal.size ≤ 100000) :
    Calls Tryz.prog 11 #[cv, ev] w fun r w' => (∃ v, r = .returned v ∧ CondV w' v (strC c e)) ∧ Ext w w' :=
  (Strengthen_anyT (fun _ => True) c e cv ev w (hc.t.mono fun _ _ => trivial) he hM hg (fun _ _ => trivial)).mono fun _ _ ⟨⟨v, h1, h2⟩, h3⟩ => ⟨⟨v, h1, h2.condV⟩, h3⟩
end Go.Proofs.YtlcgbdjmlnjhcaaGreatDoor
