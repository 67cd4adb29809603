/-
  The walk of relation.set. Printed by gen_rset.py out of XRl3.src.
  The walks of relation.applies, checked (of sets).
  The walks of the builders of Image and Inside.
-/
import Derived.Test.YtlnahhlddekhoaaGreatDoorG16
import Derived.Test.YtlnahhlddekhoaaGreatDoorG11
namespace Go.Proofs.YtlnahhlddekhoaaGreatDoor
open Go.RowKit

theorem OwnInts.put3' {w : World} {base : Nat} {v : Value} {l : List Int} (h : OwnInts w base v l) {b : Nat} (hb : ∀ k, v.ownBlock = some k → k ≠ b) (x y z : Value) : OwnInts (Proofs.YtlnahhlddekhoaaGreatDoor.put3 w b x y z) base v l := by
  obtain ⟨h1, h2⟩ := h
  refine ⟨h1, ?_⟩
  rcases h2 with h2 | ⟨g, cap, cur, hv, hg, hh, r⟩
  · exact .inl h2
  · exact .inr ⟨g, cap, cur, hv, hg, by rw [put3_other g (hb g (by rw [hv]; rfl))]; exact hh, r⟩
/-- A variable with a set whose list is to be filled. -/
structure SetVar (w1 : World) (b : Nat) (vc vw : Value) (cs ws : List Int) (V : World) : Prop where
  heap : V.heap[b]? = some (.cells #[vc, vw, .slice none 0 0] 31 (0, 0))
  lb : w1.heap.size ≤ b
  ext : Ext w1 V
  oc : OwnInts V w1.heap.size vc cs
  ow : OwnInts V w1.heap.size vw ws
  nc : ∀ k, vc.ownBlock = some k → k ≠ b
  nw : ∀ k, vw.ownBlock = some k → k ≠ b
theorem SetVar.mk3 {w1 V : World} {b : Nat} {vc vw x y z : Value} {cs ws : List Int} (hR : V.heap[b]? = some (.cells #[x, y, z] 31 (0, 0))) (lb : w1.heap.size ≤ b) (hx : Ext w1 V) (oc : OwnInts V w1.heap.size vc cs) (ow : OwnInts V w1.heap.size vw ws)
    (nc : ∀ k, vc.ownBlock = some k → k ≠ b) (nw : ∀ k, vw.ownBlock = some k → k ≠ b) : SetVar w1 b vc vw cs ws (put3 V b vc vw (.slice none 0 0)) :=
  ⟨put3_new hR, lb, hx.put3 lb _ _ _, oc.put3' nc _ _ _, ow.put3' nw _ _ _, nc, nw⟩
/-- The numbers below k in a word. -/
def inTo (x k : Nat) : List Nat := (List.range k).filter fun n => x.testBit n
theorem inTo_succ (x k : Nat) : inTo x (k + 1) = if x.testBit k then inTo x k ++ [k] else inTo x k := by
  unfold inTo
  rw [List.range_succ, List.filter_append]
  by_cases h : x.testBit k <;> simp [h]
theorem inTo_len (x k : Nat) : (inTo x k).length ≤ k := by unfold inTo; exact Nat.le_trans (List.length_filter_le _ _) (by simp)
/-- All blocks but b are as they were. -/
def Outside (b : Nat) (V w : World) : Prop := V.heap.size ≤ w.heap.size ∧ ∀ q, q < V.heap.size → q ≠ b → w.heap[q]? = V.heap[q]?
theorem OwnInts.outside {V w : World} {base : Nat} {v : Value} {l : List Int} (h : OwnInts V base v l) {b : Nat} (hb : ∀ k, v.ownBlock = some k → k ≠ b) (hO : Outside b V w) : OwnInts w base v l := by
  obtain ⟨h1, h2⟩ := h
  refine ⟨h1, ?_⟩
  rcases h2 with h2 | ⟨g, cap, cur, hv, hg, hh, r⟩
  · exact .inl h2
  · exact .inr ⟨g, cap, cur, hv, hg, by rw [hO.2 g (lt_heap hh) (hb g (by rw [hv]; rfl))]; exact hh, r⟩

/-- 'word>>n&1 == 1'. -/
theorem bit_test {x : Nat} (hx : x < 18446744073709551616) (k : Nat) : (bits .and .u64 ((x : Int) / 2 ^ k) 1 == 1) = x.testBit k := by
  have e1 : (x : Int) / 2 ^ k = ((x / 2 ^ k : Nat) : Int) := by push_cast; rfl
  have hle : x / 2 ^ k ≤ x := Nat.div_le_self _ _
  have e2 : bits .and .u64 ((x / 2 ^ k : Nat) : Int) ((1 : Nat) : Int) = ((x / 2 ^ k &&& 1 : Nat) : Int) := u64_and (by omega) (by omega)
  have e3 : x.testBit k = (x / 2 ^ k &&& 1 == 1) := by
    rw [Nat.testBit, Nat.shiftRight_eq_div_pow, Nat.and_comm]
    have : x / 2 ^ k &&& 1 = 0 ∨ x / 2 ^ k &&& 1 = 1 := by rw [Nat.and_one_is_mod]; omega
    rcases this with h | h <;> rw [h] <;> rfl
  rw [e1, show (1 : Int) = ((1 : Nat) : Int) from rfl, e2, e3]
  generalize x / 2 ^ k &&& 1 = z
  cases h : (z == 1) with
  | true => have : z = 1 := by simpa using h
            subst this; rfl
  | false => have : ¬ z = 1 := by simpa using h
             rw [beq_eq_false_iff_ne]; omega

set_option maxRecDepth 100000 in
set_option maxHeartbeats 2000000 in
theorem rset_any (cs ws is : List Int) (x : Nat) (v : Value) (w : World) (hv : SetV w v cs ws is) (hx64 : x < 18446744073709551616) (lc : cs.length ≤ 1000000000) (lw : ws.length ≤ 1000000000) :
    Calls Tryz.prog 63 #[v, .int .u64 x] w fun r w' => ∃ v', r = .returned v' ∧ SetO w' w.heap.size v' cs ws (castL (inWord x)) ∧ Ext w w' := by
  obtain ⟨ca, cc, wa, wcp, ia, ic, rfl, a1, a2, a3⟩ := hv.shape
  obtain ⟨w1, hW⟩ : ∃ W, W = (w.alloc (.cells #[.slice ca cs.length cc, .slice wa ws.length wcp, .slice ia is.length ic] 31)).alloc (.cells #[.slice none 0 0, .slice none 0 0, .slice none 0 0] 31) := ⟨_, rfl⟩
  have hx : Ext w w1 := by rw [hW]; exact ((Ext.refl w).alloc _).alloc _
  have hz : w1.heap.size = w.heap.size + 2 := by rw [hW]; simp
  have hB1 : w1.heap[w.heap.size]? = some (.cells #[.slice ca cs.length cc, .slice wa ws.length wcp, .slice ia is.length ic] 31 (0, 0)) := by
    rw [hW, heap_alloc_old _ _ (by simp)]; exact heap_new _ _
  have hB2 : w1.heap[w.heap.size + 1]? = some (.cells #[.slice none 0 0, .slice none 0 0, .slice none 0 0] 31 (0, 0)) := by
    rw [hW]
    have := heap_new (w.alloc (.cells #[.slice ca cs.length cc, .slice wa ws.length wcp, .slice ia is.length ic] 31)) (.cells #[.slice none 0 0, .slice none 0 0, .slice none 0 0] 31)
    rw [World.size_alloc] at this; exact this
  obtain ⟨p0, p1, p2⟩ := cells3 hB1
  have A1 := Lib.hid (a1.ext hx); have A2 := Lib.hid (a2.ext hx); have HX := Lib.hid hx; have HW := Lib.hid hW; have HZ := Lib.hid hz; have B2 := Lib.hid hB2; have LC := Lib.hid lc; have LW := Lib.hid lw; have H64 := Lib.hid hx64
  clear hv a1 a2 a3 hx hz hB1 hB2 hW lc lw hx64
  go_enter Tryz.func63, Tryz.ntmps63
  go_upto_region 1 with fail
  rw [← HW.out]
  go_cut [5] (fun s5 V => ∃ (b5 : Nat) (ua ub : Option Addr) (uc ud : Nat), s5 = .pointer (some ⟨b5, 0, none⟩) ∧ SetVar w1 b5 (.slice ua cs.length uc) (.slice ub ws.length ud) cs ws V)
  case first =>
    refine wp_region_held (S := fun w' => Ext w1 w') (by kernel_rfl) ?_
    refine wpAnyH_take (i := 0) (v := .pointer (some ⟨w.heap.size, 0, none⟩)) rfl (by kernel_rfl) (by kernel_rfl) (by kernel_rfl) (fun _ _ _ h => h) (.inl ⟨rfl, fun w' hx' => by go_simp⟩) (Ext.refl w1).drew ?_
    refine wpAnyH_take (i := 1) (v := .slice ca cs.length cc) rfl (by kernel_rfl) (by kernel_rfl) (by kernel_rfl) (fun _ _ _ h => h) (.inl ⟨rfl, fun w' hx' => by have c0 := hx'.cell p0; go_simp⟩) (Ext.refl w1).drew ?_
    refine wpAnyH_take (i := 3) (v := .pointer (some ⟨w.heap.size, 1, none⟩)) rfl (by kernel_rfl) (by kernel_rfl) (by kernel_rfl) (fun _ _ _ h => h) (.inl ⟨rfl, fun w' hx' => by go_simp⟩) (Ext.refl w1).drew ?_
    refine wpAnyH_take (i := 4) (v := .slice wa ws.length wcp) rfl (by kernel_rfl) (by kernel_rfl) (by kernel_rfl) (fun _ _ _ h => h) (.inl ⟨rfl, fun w' hx' => by have c0 := hx'.cell p1; go_simp⟩) (Ext.refl w1).drew ?_
    generalize hv0 : ({ w1 with drawn := w1.drawn + 1 } : World) = v0
    have E0 : Ext w1 v0 := by rw [← hv0]; exact (Ext.refl w1).drew
    clear hv0
    refine wpAnyH_all (rs := [2, 7]) (by kernel_rfl) (by simp) ?_
    intro i hi
    have hi' : i = 2 ∨ i = 7 := by simpa using hi
    clear hi
    rcases hi' with rfl | rfl
    · unfold wpOp
      go_simp
      refine .inl ((Clone_any cs _ _ (A1.out.ext (E0)) LC.out).mono ?_)
      rintro r v1 ⟨u2, rfl, o2, y2⟩
      obtain ⟨a2, c2, rfl⟩ := o2.ints.shape
      have E1 : Ext w1 v1 := (E0).trans y2
      have s2 : v0.heap.size ≤ v1.heap.size := y2.size
      have lo2 : ∀ k, (Value.slice a2 cs.length c2).ownBlock = some k → v0.heap.size ≤ k := o2.base
      have hi2 : ∀ k, (Value.slice a2 cs.length c2).ownBlock = some k → k < v1.heap.size := own_lt o2
      have LO2 := Lib.hid lo2; have HI2 := Lib.hid hi2
      clear lo2 hi2
      refine ⟨E1, ?_⟩
      refine wpAnyH_all (rs := [5, 7]) (by kernel_rfl) (by simp) ?_
      intro i hi
      have hi' : i = 5 ∨ i = 7 := by simpa using hi
      clear hi
      rcases hi' with rfl | rfl
      · unfold wpOp
        go_simp
        refine .inl ((Clone_any ws _ _ (A2.out.ext (E1)) LW.out).mono ?_)
        rintro r v2 ⟨u5, rfl, o5, y5⟩
        obtain ⟨a5, c5, rfl⟩ := o5.ints.shape
        have E2 : Ext w1 v2 := (E1).trans y5
        have s5 : v1.heap.size ≤ v2.heap.size := y5.size
        have lo5 : ∀ k, (Value.slice a5 ws.length c5).ownBlock = some k → v1.heap.size ≤ k := o5.base
        have hi5 : ∀ k, (Value.slice a5 ws.length c5).ownBlock = some k → k < v2.heap.size := own_lt o5
        have LO5 := Lib.hid lo5; have HI5 := Lib.hid hi5
        clear lo5 hi5
        refine ⟨E2, ?_⟩
        refine wpAnyH_all (rs := [6, 7]) (by kernel_rfl) (by simp) ?_
        intro i hi
        have hi' : i = 6 ∨ i = 7 := by simpa using hi
        clear hi
        rcases hi' with rfl | rfl
        · unfold wpOp
          go_simp
          first | refine .inl ⟨E2, ?_⟩ | refine .inl ?_
          refine wpAnyH_all (rs := [7]) (by kernel_rfl) (by simp) ?_
          intro i hi
          obtain rfl : i = 7 := by simpa using hi
          unfold wpOp
          go_simp
          refine .inl ⟨(E2).alloc _, ?_⟩
          have R4 := heap_new v2 (.cells #[.slice none 0 0, .slice none 0 0, .slice none 0 0] 31)
          have L4 : w1.heap.size ≤ v2.heap.size := Ext.size (E2)
          obtain ⟨v4, hv4⟩ : ∃ v, v = v2.alloc (.cells #[.slice none 0 0, .slice none 0 0, .slice none 0 0] 31) := ⟨_, rfl⟩
          have y7 : Ext v2 v4 := by rw [hv4]; exact (Ext.refl _).alloc _
          have s7 : v2.heap.size + 1 ≤ v4.heap.size := by rw [hv4]; simp
          rw [← hv4] at R4 ⊢
          have HV4 := Lib.hid hv4; clear hv4
          have HR4 := Lib.hid R4; clear R4
          refine wpAnyH_all (rs := [8]) (by kernel_rfl) (by simp) ?_
          intro i hi
          obtain rfl : i = 8 := by simpa using hi
          have NE2 : ∀ k, (Value.slice a2 cs.length c2).ownBlock = some k → k ≠ v2.heap.size := fun k hk => by have := LO2.out k hk; have := HI2.out k hk; omega
          have NE5 : ∀ k, (Value.slice a5 ws.length c5).ownBlock = some k → k ≠ v2.heap.size := fun k hk => by have := LO5.out k hk; have := HI5.out k hk; omega
          obtain ⟨z0, z1, z2, f0, f1, f2⟩ := block3 HR4.out
          unfold wpOp
          go_simp
          refine .inl ⟨(((E2).trans y7)).put3 L4 _ _ _, ?_⟩
          have HFIN := Lib.hid (SetVar.mk3 HR4.out L4 ((E2).trans y7) (((((o2.mono (Ext.size (E0)))).kept y5)).kept y7) (((o5.mono (Ext.size (E1)))).kept y7) NE2 NE5)
          clear z0 z1 z2 f0 f1 f2 NE2 NE5
          refine wpAnyH_done (by kernel_rfl) ?_ _
          go_wp2_with fail
          go_meet
          exact ⟨_, _, _, _, _, rfl, HFIN.out⟩
        · unfold wpOp
          go_simp
          refine .inl ⟨(E2).alloc _, ?_⟩
          have R3 := heap_new v2 (.cells #[.slice none 0 0, .slice none 0 0, .slice none 0 0] 31)
          have L3 : w1.heap.size ≤ v2.heap.size := Ext.size (E2)
          obtain ⟨v3, hv3⟩ : ∃ v, v = v2.alloc (.cells #[.slice none 0 0, .slice none 0 0, .slice none 0 0] 31) := ⟨_, rfl⟩
          have y7 : Ext v2 v3 := by rw [hv3]; exact (Ext.refl _).alloc _
          have s7 : v2.heap.size + 1 ≤ v3.heap.size := by rw [hv3]; simp
          rw [← hv3] at R3 ⊢
          have HV3 := Lib.hid hv3; clear hv3
          have HR3 := Lib.hid R3; clear R3
          refine wpAnyH_all (rs := [6]) (by kernel_rfl) (by simp) ?_
          intro i hi
          obtain rfl : i = 6 := by simpa using hi
          unfold wpOp
          go_simp
          first | refine .inl ⟨((E2).trans y7), ?_⟩ | refine .inl ?_
          refine wpAnyH_all (rs := [8]) (by kernel_rfl) (by simp) ?_
          intro i hi
          obtain rfl : i = 8 := by simpa using hi
          have NE2 : ∀ k, (Value.slice a2 cs.length c2).ownBlock = some k → k ≠ v2.heap.size := fun k hk => by have := LO2.out k hk; have := HI2.out k hk; omega
          have NE5 : ∀ k, (Value.slice a5 ws.length c5).ownBlock = some k → k ≠ v2.heap.size := fun k hk => by have := LO5.out k hk; have := HI5.out k hk; omega
          obtain ⟨z0, z1, z2, f0, f1, f2⟩ := block3 HR3.out
          unfold wpOp
          go_simp
          refine .inl ⟨(((E2).trans y7)).put3 L3 _ _ _, ?_⟩
          have HFIN := Lib.hid (SetVar.mk3 HR3.out L3 ((E2).trans y7) (((((o2.mono (Ext.size (E0)))).kept y5)).kept y7) (((o5.mono (Ext.size (E1)))).kept y7) NE2 NE5)
          clear z0 z1 z2 f0 f1 f2 NE2 NE5
          refine wpAnyH_done (by kernel_rfl) ?_ _
          go_wp2_with fail
          go_meet
          exact ⟨_, _, _, _, _, rfl, HFIN.out⟩
      · unfold wpOp
        go_simp
        refine .inl ⟨(E1).alloc _, ?_⟩
        have R2 := heap_new v1 (.cells #[.slice none 0 0, .slice none 0 0, .slice none 0 0] 31)
        have L2 : w1.heap.size ≤ v1.heap.size := Ext.size (E1)
        obtain ⟨v2, hv2⟩ : ∃ v, v = v1.alloc (.cells #[.slice none 0 0, .slice none 0 0, .slice none 0 0] 31) := ⟨_, rfl⟩
        have y7 : Ext v1 v2 := by rw [hv2]; exact (Ext.refl _).alloc _
        have s7 : v1.heap.size + 1 ≤ v2.heap.size := by rw [hv2]; simp
        rw [← hv2] at R2 ⊢
        have HV2 := Lib.hid hv2; clear hv2
        have HR2 := Lib.hid R2; clear R2
        refine wpAnyH_all (rs := [5]) (by kernel_rfl) (by simp) ?_
        intro i hi
        obtain rfl : i = 5 := by simpa using hi
        unfold wpOp
        go_simp
        refine .inl ((Clone_any ws _ _ (A2.out.ext (((E1).trans y7))) LW.out).mono ?_)
        rintro r v3 ⟨u5, rfl, o5, y5⟩
        obtain ⟨a5, c5, rfl⟩ := o5.ints.shape
        have E3 : Ext w1 v3 := (((E1).trans y7)).trans y5
        have s5 : v2.heap.size ≤ v3.heap.size := y5.size
        have lo5 : ∀ k, (Value.slice a5 ws.length c5).ownBlock = some k → v2.heap.size ≤ k := o5.base
        have hi5 : ∀ k, (Value.slice a5 ws.length c5).ownBlock = some k → k < v3.heap.size := own_lt o5
        have LO5 := Lib.hid lo5; have HI5 := Lib.hid hi5
        clear lo5 hi5
        refine ⟨E3, ?_⟩
        refine wpAnyH_all (rs := [6]) (by kernel_rfl) (by simp) ?_
        intro i hi
        obtain rfl : i = 6 := by simpa using hi
        unfold wpOp
        go_simp
        first | refine .inl ⟨E3, ?_⟩ | refine .inl ?_
        refine wpAnyH_all (rs := [8]) (by kernel_rfl) (by simp) ?_
        intro i hi
        obtain rfl : i = 8 := by simpa using hi
        have NE2 : ∀ k, (Value.slice a2 cs.length c2).ownBlock = some k → k ≠ v1.heap.size := fun k hk => by have := LO2.out k hk; have := HI2.out k hk; omega
        have NE5 : ∀ k, (Value.slice a5 ws.length c5).ownBlock = some k → k ≠ v1.heap.size := fun k hk => by have := LO5.out k hk; have := HI5.out k hk; omega
        obtain ⟨z0, z1, z2, f0, f1, f2⟩ := block3 ((y5.block _ (lt_heap HR2.out)).trans HR2.out)
        unfold wpOp
        go_simp
        refine .inl ⟨(E3).put3 L2 _ _ _, ?_⟩
        have HFIN := Lib.hid (SetVar.mk3 ((y5.block _ (lt_heap HR2.out)).trans HR2.out) L2 E3 (((((o2.mono (Ext.size (E0)))).kept y7)).kept y5) (o5.mono (Ext.size (((E1).trans y7)))) NE2 NE5)
        clear z0 z1 z2 f0 f1 f2 NE2 NE5
        refine wpAnyH_done (by kernel_rfl) ?_ _
        go_wp2_with fail
        go_meet
        exact ⟨_, _, _, _, _, rfl, HFIN.out⟩
    · unfold wpOp
      go_simp
      refine .inl ⟨(E0).alloc _, ?_⟩
      have R1 := heap_new v0 (.cells #[.slice none 0 0, .slice none 0 0, .slice none 0 0] 31)
      have L1 : w1.heap.size ≤ v0.heap.size := Ext.size (E0)
      obtain ⟨v1, hv1⟩ : ∃ v, v = v0.alloc (.cells #[.slice none 0 0, .slice none 0 0, .slice none 0 0] 31) := ⟨_, rfl⟩
      have y7 : Ext v0 v1 := by rw [hv1]; exact (Ext.refl _).alloc _
      have s7 : v0.heap.size + 1 ≤ v1.heap.size := by rw [hv1]; simp
      rw [← hv1] at R1 ⊢
      have HV1 := Lib.hid hv1; clear hv1
      have HR1 := Lib.hid R1; clear R1
      refine wpAnyH_all (rs := [2]) (by kernel_rfl) (by simp) ?_
      intro i hi
      obtain rfl : i = 2 := by simpa using hi
      unfold wpOp
      go_simp
      refine .inl ((Clone_any cs _ _ (A1.out.ext (((E0).trans y7))) LC.out).mono ?_)
      rintro r v2 ⟨u2, rfl, o2, y2⟩
      obtain ⟨a2, c2, rfl⟩ := o2.ints.shape
      have E2 : Ext w1 v2 := (((E0).trans y7)).trans y2
      have s2 : v1.heap.size ≤ v2.heap.size := y2.size
      have lo2 : ∀ k, (Value.slice a2 cs.length c2).ownBlock = some k → v1.heap.size ≤ k := o2.base
      have hi2 : ∀ k, (Value.slice a2 cs.length c2).ownBlock = some k → k < v2.heap.size := own_lt o2
      have LO2 := Lib.hid lo2; have HI2 := Lib.hid hi2
      clear lo2 hi2
      refine ⟨E2, ?_⟩
      refine wpAnyH_all (rs := [5]) (by kernel_rfl) (by simp) ?_
      intro i hi
      obtain rfl : i = 5 := by simpa using hi
      unfold wpOp
      go_simp
      refine .inl ((Clone_any ws _ _ (A2.out.ext (E2)) LW.out).mono ?_)
      rintro r v3 ⟨u5, rfl, o5, y5⟩
      obtain ⟨a5, c5, rfl⟩ := o5.ints.shape
      have E3 : Ext w1 v3 := (E2).trans y5
      have s5 : v2.heap.size ≤ v3.heap.size := y5.size
      have lo5 : ∀ k, (Value.slice a5 ws.length c5).ownBlock = some k → v2.heap.size ≤ k := o5.base
      have hi5 : ∀ k, (Value.slice a5 ws.length c5).ownBlock = some k → k < v3.heap.size := own_lt o5
      have LO5 := Lib.hid lo5; have HI5 := Lib.hid hi5
      clear lo5 hi5
      refine ⟨E3, ?_⟩
      refine wpAnyH_all (rs := [6]) (by kernel_rfl) (by simp) ?_
      intro i hi
      obtain rfl : i = 6 := by simpa using hi
      unfold wpOp
      go_simp
      first | refine .inl ⟨E3, ?_⟩ | refine .inl ?_
      refine wpAnyH_all (rs := [8]) (by kernel_rfl) (by simp) ?_
      intro i hi
      obtain rfl : i = 8 := by simpa using hi
      have NE2 : ∀ k, (Value.slice a2 cs.length c2).ownBlock = some k → k ≠ v0.heap.size := fun k hk => by have := LO2.out k hk; have := HI2.out k hk; omega
      have NE5 : ∀ k, (Value.slice a5 ws.length c5).ownBlock = some k → k ≠ v0.heap.size := fun k hk => by have := LO5.out k hk; have := HI5.out k hk; omega
      obtain ⟨z0, z1, z2, f0, f1, f2⟩ := block3 ((y5.block _ (lt_heap ((y2.block _ (lt_heap HR1.out)).trans HR1.out))).trans ((y2.block _ (lt_heap HR1.out)).trans HR1.out))
      unfold wpOp
      go_simp
      refine .inl ⟨(E3).put3 L1 _ _ _, ?_⟩
      have HFIN := Lib.hid (SetVar.mk3 ((y5.block _ (lt_heap ((y2.block _ (lt_heap HR1.out)).trans HR1.out))).trans ((y2.block _ (lt_heap HR1.out)).trans HR1.out)) L1 E3 (((o2.mono (Ext.size (((E0).trans y7))))).kept y5) (o5.mono (Ext.size (E2))) NE2 NE5)
      clear z0 z1 z2 f0 f1 f2 NE2 NE5
      refine wpAnyH_done (by kernel_rfl) ?_ _
      go_wp2_with fail
      go_meet
      exact ⟨_, _, _, _, _, rfl, HFIN.out⟩
  case rest =>
    obtain ⟨b5, ua, ub, uc, ud, rfl, hS⟩ := hcut
    have HS := Lib.hid hS; clear hS
    generalize wc = V at *
    go_wp2_with fail
    go_loopw [14] (fun i wr => ∃ (k : Nat) (ta : Option Addr) (tc : Nat), k ≤ 64 ∧ i = .int .i64 k ∧ Outside b5 V wr ∧ Ext w wr ∧ wr.heap[b5]? = some (.cells #[.slice ua cs.length uc, .slice ub ws.length ud, .slice ta (inTo x k).length tc] 31 (0, 0)) ∧ OwnInts wr V.heap.size (.slice ta (inTo x k).length tc) (castL (inTo x k))) (fun i _ => 64 - (intOf i).toNat)
    case atStart => exact ⟨0, none, 0, Nat.zero_le _, rfl, ⟨Nat.le_refl _, fun _ _ _ => rfl⟩, HX.out.trans HS.out.ext, HS.out.heap, OwnInts.nil _ _⟩
    case round =>
      obtain ⟨k, ta, tc, hk, rfl, hO, hX, hR, hI⟩ := hrel
      have HO := Lib.hid hO; have HXr := Lib.hid hX; have HR := Lib.hid hR; have HI := Lib.hid hI
      clear hO hX hR hI
      obtain ⟨c0, c1, c2, f0, f1, f2⟩ := block3 HR.out
      by_cases hlt : k < 64
      · have hbt := bit_test H64.out k
        have HSU := Lib.hid (inTo_succ x k)
        have HLN := Lib.hid (inTo_len x k)
        have i0 : (0 : Int) ≤ (k : Int) := by omega
        have i1 : (k : Int) < 64 := by omega
        have hb5 : b5 < V.heap.size := lt_heap HS.out.heap
        cases hc : x.testBit k with
        | true =>
          rw [hc] at hbt HSU
          go_wp2_with (at_builtin; refine wpList_append_int rfl (.tmp 23) (.tmp 25) rfl V.heap.size wr _ _ (k : Int) rfl rfl HI.out (by have := HLN.out; rw [castL_len]; omega) HO.out.1 ?_)
          intro v' w' hown' hg
          rw [show castL (inTo x k) ++ [(k : Int)] = castL (inTo x (k + 1)) by rw [HSU.out, if_pos (by first | rfl | trivial), castL_snoc]] at hown'
          obtain ⟨ta', tc', rfl⟩ := hown'.ints.shape
          have hnb : ∀ q, q < V.heap.size → w'.heap[q]? = wr.heap[q]? := fun q hq => hg.block q (by have := HO.out.1; omega) (fun e => by have := HI.out.base q e.symm; omega)
          have hR' := (hnb b5 hb5).trans HR.out
          obtain ⟨d0, d1, d2, e0, e1, e2⟩ := block3 hR'
          rw [castL_len] at hown' ⊢
          have hR2 := heap_setCell_same w' b5 2 _ _ (.slice ta' (inTo x (k + 1)).length tc') hR'
          have hoth : ∀ q, q ≠ b5 → (w'.setCell ⟨b5, 2, none⟩ (.slice ta' (inTo x (k + 1)).length tc')).heap[q]? = w'.heap[q]? := fun q hq => heap_setCell_other _ _ _ _ hq
          have HFIN : Hid (Outside b5 V (w'.setCell ⟨b5, 2, none⟩ (.slice ta' (inTo x (k + 1)).length tc')) ∧ Ext w (w'.setCell ⟨b5, 2, none⟩ (.slice ta' (inTo x (k + 1)).length tc')) ∧ (w'.setCell ⟨b5, 2, none⟩ (.slice ta' (inTo x (k + 1)).length tc')).heap[b5]? = some (.cells #[.slice ua cs.length uc, .slice ub ws.length ud, .slice ta' (inTo x (k + 1)).length tc'] 31 (0, 0)) ∧ OwnInts (w'.setCell ⟨b5, 2, none⟩ (.slice ta' (inTo x (k + 1)).length tc')) V.heap.size (.slice ta' (inTo x (k + 1)).length tc') (castL (inTo x (k + 1)))) := by
            refine ⟨⟨?_, fun q hq hne => ?_⟩, ?_, hR2, ?_⟩
            · have h1 := hg.size; have h2 := HO.out.1
              rw [show (w'.setCell ⟨b5, 2, none⟩ (.slice ta' (inTo x (k + 1)).length tc')).heap.size = w'.heap.size by simp [World.setCell]]; omega
            · rw [hoth q hne, hnb q hq]; exact HO.out.2 q hq hne
            · exact (HXr.out.grown hg (fun q hq => by have := HI.out.base q hq; have := HX.out.size; have := HS.out.ext.size; omega)).setCell (p := ⟨b5, 2, none⟩) (by have := HS.out.lb; have := HX.out.size; simp; omega) _
            · obtain ⟨h1, h2⟩ := hown'
              refine ⟨h1, ?_⟩
              rcases h2 with h2 | ⟨g, cap, cur, hv, hg2, hh, r⟩
              · exact .inl h2
              · exact .inr ⟨g, cap, cur, hv, hg2, by rw [hoth g (by omega)]; exact hh, r⟩
          clear hR2 hoth hnb hR' hown' hg
          go_wp2_with fail
          exact ⟨⟨k + 1, _, _, by omega, by go_num, HFIN.out⟩, by simp [intOf]; omega⟩
        | false =>
          rw [hc] at hbt HSU
          have HSE : Hid (inTo x (k + 1) = inTo x k) := by unfold Hid; rw [HSU.out]; rfl
          go_wp2_with fail
          exact ⟨⟨k + 1, ta, tc, by omega, by go_num, HO.out, HXr.out, by rw [HSE.out]; exact HR.out, by rw [HSE.out]; exact HI.out⟩, by simp [intOf]; omega⟩
      · obtain rfl : k = 64 := by omega
        have HE : Hid (inTo x 64 = inWord x) := rfl
        rw [HE.out] at HR HI c2
        have hR4 : wr.heap[w.heap.size + 1]? = some (.cells #[.slice none 0 0, .slice none 0 0, .slice none 0 0] 31 (0, 0)) := by
          have h1 := HZ.out; have h2 := HS.out.lb; have h3 := HS.out.ext.size
          rw [HO.out.2 _ (by omega) (by omega), HS.out.ext.block _ (by omega)]; exact B2.out
        obtain ⟨z0, z1, z2, e0, e1, e2⟩ := block3 hR4
        have HR5 := Lib.hid (put3_new (x := .slice ua cs.length uc) (y := .slice ub ws.length ud) (z := .slice ta (inWord x).length tc) hR4)
        have HFIN : Hid (SetO (put3 wr (w.heap.size + 1) (.slice ua cs.length uc) (.slice ub ws.length ud) (.slice ta (inWord x).length tc)) w.heap.size (.agg #[.slice ua cs.length uc, .slice ub ws.length ud, .slice ta (inWord x).length tc]) cs ws (castL (inWord x)) ∧ Ext w (put3 wr (w.heap.size + 1) (.slice ua cs.length uc) (.slice ub ws.length ud) (.slice ta (inWord x).length tc))) := by
          have h1 := HZ.out; have h2 := HS.out.lb; have h3 := HS.out.ext.size
          have g1 := HS.out.oc.outside HS.out.nc HO.out
          have g2 := HS.out.ow.outside HS.out.nw HO.out
          exact ⟨⟨_, _, _, rfl, (g1.put3 (by omega) _ _ _).mono (by omega), (g2.put3 (by omega) _ _ _).mono (by omega), (HI.out.put3 (by omega) _ _ _).mono (by omega)⟩, HXr.out.put3 (by omega) _ _ _⟩
        clear hR4
        go_wp2_with fail
        exact bodyPost_ret (v := .agg #[.slice ua cs.length uc, .slice ub ws.length ud, .slice ta (inWord x).length tc]) (results_cell_row Tryz.results63 _ _ (w.heap.size + 1) 31 _ (0, 0) _ rfl HR5.out Tryz.underlying31 rfl sizeSet) rfl ⟨_, rfl, HFIN.out.1, HFIN.out.2⟩
end Go.Proofs.YtlnahhlddekhoaaGreatDoor
namespace Go.Proofs.YtlnahhlddekhoaaGreatDoor
open Go.RowKit

theorem comb_self' (cs ws is : List Int) : combB cs ws is cs ws is = validB cs ws is := by simp [combB]
noncomputable def appliesB (cs ws : List Int) (P : List (Int × Int)) (cs2 ws2 is : List Int) : Bool := validB cs2 ws2 is && rvalidB cs ws P && decide (cs = cs2) && decide (ws = ws2)
set_option maxRecDepth 100000 in
set_option maxHeartbeats 2000000 in
theorem applies_any (cs ws : List Int) (P : List (Int × Int)) (cs2 ws2 is : List Int) (va vs : Value) (w : World) (ha : RelV w va cs ws P) (hs : SetV w vs cs2 ws2 is) (hT : DeB w) : Calls Tryz.prog 61 #[va, vs] w fun r w' => r = .returned (.bool (appliesB cs ws P cs2 ws2 is)) ∧ Ext w w' := by
  obtain ⟨ca, cc, wa, wcp, ia, ic, rfl, a1, a2, a3⟩ := ha.shape
  obtain ⟨ca2, cc2, wa2, wc2, ia2, ic2, rfl, b1, b2, b3⟩ := hs.shape
  obtain ⟨W, hW⟩ : ∃ W, Boxes w W (.cells #[.slice ca cs.length cc, .slice wa ws.length wcp, .slice ia P.length ic] 29) (.cells #[.slice ca2 cs2.length cc2, .slice wa2 ws2.length wc2, .slice ia2 is.length ic2] 31) := ⟨_, Boxes.mk' _ _ _⟩
  obtain ⟨p0, p1, p2⟩ := cells3 hW.b0
  obtain ⟨q0, q1, q2⟩ := cells3 hW.b1
  have HA := Lib.hid (ha.ext hW.ext); have HS := Lib.hid (hs.ext hW.ext); have HT := Lib.hid (hT.ext hW.ext)
  have A1 := Lib.hid (a1.ext hW.ext); have A2 := Lib.hid (a2.ext hW.ext); have C1 := Lib.hid (b1.ext hW.ext); have C2 := Lib.hid (b2.ext hW.ext)
  have HW := Lib.hid hW
  have HF : Hid (appliesB cs ws P cs2 ws2 is = (validB cs2 ws2 is && rvalidB cs ws P && decide (cs = cs2) && decide (ws = ws2))) := rfl
  clear ha hs hT a1 a2 a3 b1 b2 b3 hW
  go_enter Tryz.func61, Tryz.ntmps61
  go_upto_region 1 with fail
  rw [← HW.out.eq]
  go_wp2_with fail
  refine (Meet_any cs2 ws2 is cs2 ws2 is _ _ _ HS.out HS.out HT.out).mono ?_
  intro r w1 h1
  unfold CombPost at h1
  rw [comb_self'] at h1
  cases hsm : validB cs2 ws2 is with
  | false =>
    rw [hsm] at h1
    obtain ⟨v, rfl, hv, x1⟩ := h1
    obtain ⟨sa, sb, sc, sd, se, sf, rfl⟩ := hv.shape
    have HN : Hid (appliesB cs ws P cs2 ws2 is = false) := by unfold Hid; rw [HF.out, hsm]; rfl
    have X1 := Lib.hid (HW.out.ext.trans x1)
    clear hv x1 hsm
    go_wp2_with fail
    go_ret
    exact ⟨by rw [HN.out]; rfl, X1.out.alloc _⟩
  | true =>
    rw [hsm] at h1
    obtain ⟨v, rfl, hv, x1⟩ := h1
    obtain ⟨sa, sb, sc, sd, se, sf, rfl⟩ := hv.shape
    have HSM := Lib.hid hsm
    obtain ⟨w2, hw2⟩ : ∃ w2, w2 = w1.alloc (.cells #[.slice sa cs2.length sb, .slice sc ws2.length sd, .slice se (combL (· &&& ·) is is).length sf] 31) := ⟨_, rfl⟩
    have x2 : Ext W w2 := by rw [hw2]; exact x1.alloc _
    have X2 := Lib.hid x2; have HW2 := Lib.hid hw2
    have p02 := x2.cell p0; have p12 := x2.cell p1; have p22 := x2.cell p2
    have q02 := x2.cell q0; have q12 := x2.cell q1
    clear hv x1 hsm x2 hw2 p0 p1 p2 q0 q1 q2
    go_upto_region 2 with fail
    rw [← HW2.out]
    go_wp2_with fail
    refine (rvalid_any cs ws P _ _ (HA.out.ext X2.out) (HT.out.ext X2.out)).mono ?_
    rintro r w3 ⟨rfl, x3⟩
    cases hrv : rvalidB cs ws P with
    | false =>
      have HN : Hid (appliesB cs ws P cs2 ws2 is = false) := by unfold Hid; rw [HF.out, HSM.out, hrv]; rfl
      have X3 := Lib.hid (HW.out.ext.trans (X2.out.trans x3))
      clear hrv x3
      go_wp2_with fail
      go_ret
      exact ⟨by rw [HN.out]; rfl, X3.out⟩
    | true =>
      have HRV := Lib.hid hrv
      have p03 := x3.cell p02; have p13 := x3.cell p12; have q03 := x3.cell q02; have q13 := x3.cell q12
      have X3 := Lib.hid (X2.out.trans x3)
      clear hrv x3 p02 p12 p22 q02 q12
      go_wp2_with fail
      refine (Equal_any cs cs2 _ _ _ (A1.out.ext X3.out) (C1.out.ext X3.out)).mono ?_
      rintro r w4 ⟨rfl, x4⟩
      cases hce : decide (cs = cs2) with
      | false =>
        have HN : Hid (appliesB cs ws P cs2 ws2 is = false) := by unfold Hid; rw [HF.out, HSM.out, HRV.out, hce]; rfl
        have X4 := Lib.hid (HW.out.ext.trans (X3.out.trans x4))
        clear hce x4
        go_wp2_with fail
        go_ret
        exact ⟨by rw [HN.out]; rfl, X4.out⟩
      | true =>
        have HCE := Lib.hid hce
        have p14 := x4.cell p13; have q14 := x4.cell q13
        have X4 := Lib.hid (X3.out.trans x4)
        clear hce x4 p03 p13 q03 q13
        go_wp2_with fail
        refine (Equal_any ws ws2 _ _ _ (A2.out.ext X4.out) (C2.out.ext X4.out)).mono ?_
        rintro r w5 ⟨rfl, x5⟩
        have HN : Hid (appliesB cs ws P cs2 ws2 is = decide (ws = ws2)) := by unfold Hid; rw [HF.out, HSM.out, HRV.out, HCE.out]; rfl
        have X5 := Lib.hid (HW.out.ext.trans (X4.out.trans x5))
        clear x5
        generalize decide (ws = ws2) = bb at *
        go_wp2_with fail
        go_ret
        exact ⟨by rw [HN.out]; rfl, X5.out⟩

/-- What the builder of a set promises. -/
def BuildsS (K : Nat) (caps : Array Value) (C D I : List Int) (w : World) : Prop := (∀ (args : Array Value) (w : World), (callFunc K args).run Tryz.prog w = .ok (.enter K args) w) ∧
  ∀ w', Ext w w' → Calls Tryz.prog K caps w' fun r w2 => ∃ v', r = .returned v' ∧ SetO w2 w'.heap.size v' C D I ∧ Ext w' w2
set_option maxHeartbeats 1000000 in
theorem checkedS_no (f : Value) (w : World) : Calls Tryz.prog 60 #[.bool false, f] w (SetRes 1 [] [] [] w) := by
  have HF : Hid (SetRes 1 [] [] [] w (.returned (.tuple #[.agg #[.slice none 0 0, .slice none 0 0, .slice none 0 0], .int .i64 1])) ((w.alloc (.cells #[.slice none 0 0, .slice none 0 0, .slice none 0 0] 31)).alloc (.cells #[.slice none 0 0, .slice none 0 0, .slice none 0 0] 31))) :=
    ⟨_, rfl, SetO.nil _ _, ((Ext.refl w).alloc _).alloc _⟩
  have HR : Hid (((w.alloc (.cells #[.slice none 0 0, .slice none 0 0, .slice none 0 0] 31)).alloc (.cells #[.slice none 0 0, .slice none 0 0, .slice none 0 0] 31)).heap[w.heap.size]? = some (.cells #[.slice none 0 0, .slice none 0 0, .slice none 0 0] 31 (0, 0))) := (Boxes.mk' w _ _).b0
  go_enter Tryz.func60, Tryz.ntmps60
  go_wp2_with fail
  exact bodyPost_ret (v := .tuple #[.agg #[.slice none 0 0, .slice none 0 0, .slice none 0 0], .int .i64 1]) (results_row_tmp Tryz.results60 _ _ w.heap.size 31 _ (0, 0) _ rfl HR.out Tryz.underlying31 rfl sizeSet) rfl HF.out
set_option maxHeartbeats 1000000 in
theorem checkedS_yes (K : Nat) (caps : Array Value) (C D I : List Int) (w : World) (h : BuildsS K caps C D I w) : Calls Tryz.prog 60 #[.bool true, .func (.func K) #[] caps] w (SetRes 0 C D I w) := by
  have HB := Lib.hid h; clear h
  have cf := HB.out.1 caps
  go_enter Tryz.func60, Tryz.ntmps60
  go_wp2_with fail
  clear cf
  refine (HB.out.2 _ ((Ext.refl w).alloc _)).mono ?_
  rintro r w1 ⟨v, rfl, hv, x1⟩
  obtain ⟨sa, sb, sc, sd, se, sf, rfl⟩ := hv.shape
  have hR := x1.block w.heap.size (by simp)
  rw [heap_new] at hR
  obtain ⟨z0, z1, z2, f0, f1, f2⟩ := block3 hR
  have HR := Lib.hid (put3_new (x := .slice sa C.length sb) (y := .slice sc D.length sd) (z := .slice se I.length sf) hR)
  have HF : Hid (SetRes 0 C D I w (.returned (.tuple #[.agg #[.slice sa C.length sb, .slice sc D.length sd, .slice se I.length sf], .int .i64 0])) (put3 w1 w.heap.size (.slice sa C.length sb) (.slice sc D.length sd) (.slice se I.length sf))) := by
    rw [World.size_alloc] at hv
    exact ⟨_, rfl, (hv.put3 (by omega) _ _ _).mono (by omega), (((Ext.refl w).alloc _).trans x1).put3 (Nat.le_refl _) _ _ _⟩
  clear hR hv x1
  go_wp2_with fail
  exact bodyPost_ret (v := .tuple #[.agg #[.slice sa C.length sb, .slice sc D.length sd, .slice se I.length sf], .int .i64 0]) (results_row_tmp Tryz.results60 _ _ w.heap.size 31 _ (0, 0) _ rfl HR.out Tryz.underlying31 rfl sizeSet) rfl HF.out
end Go.Proofs.YtlnahhlddekhoaaGreatDoor
namespace Go.Proofs.YtlnahhlddekhoaaGreatDoor
open Go.RowKit

theorem image_snoc (M l : List Nat) {k : Nat} (h : k < l.length) : imageW M (l.take (k + 1)) = imageW M (l.take k) ||| rowM M l[k] := by
  unfold imageW
  rw [List.take_succ_eq_append_getElem h, List.foldl_append]; rfl
theorem image_lt {M : List Nat} (hM : ∀ i, rowM M i < 18446744073709551616) (l : List Nat) : imageW M l < 18446744073709551616 := by
  have key : ∀ (l : List Nat) (w : Nat), w < 2 ^ 64 → l.foldl (fun w x => w ||| rowM M x) w < 2 ^ 64 := by
    intro l
    induction l with
    | nil => intro w h; exact h
    | cons a r ih => intro w h; exact ih _ (Nat.or_lt_two_pow h (hM a))
  exact key l 0 (by omega)
/-- A relation and a set in their variables. -/
structure Vars (w : World) (A B : Nat) (cs ws : List Int) (P : List (Nat × Nat)) (cs2 ws2 : List Int) (l : List Nat) (ca wa ia : Option Addr) (cc wcp ic : Nat) (ca2 wa2 ia2 : Option Addr) (cc2 wc2 ic2 : Nat) : Prop where
  ba : w.heap[A]? = some (.cells #[.slice ca cs.length cc, .slice wa ws.length wcp, .slice ia P.length ic] 29 (0, 0))
  bb : w.heap[B]? = some (.cells #[.slice ca2 cs2.length cc2, .slice wa2 ws2.length wc2, .slice ia2 l.length ic2] 31 (0, 0))
  va : RelV w (.agg #[.slice ca cs.length cc, .slice wa ws.length wcp, .slice ia P.length ic]) cs ws (castP P)
  vb : SetV w (.agg #[.slice ca2 cs2.length cc2, .slice wa2 ws2.length wc2, .slice ia2 l.length ic2]) cs2 ws2 (castL l)
  vl : Ints w (.slice ia2 l.length ic2) (castL l)
  p64 : ∀ p ∈ P, p.1 < 64 ∧ p.2 < 64
  l64 : ∀ x ∈ l, x < 64
  lc : cs2.length ≤ 1000000000
  lw : ws2.length ≤ 1000000000
theorem Vars.ext {w w' : World} {A B : Nat} {cs ws : List Int} {P : List (Nat × Nat)} {cs2 ws2 : List Int} {l : List Nat} {ca wa ia : Option Addr} {cc wcp ic : Nat} {ca2 wa2 ia2 : Option Addr} {cc2 wc2 ic2 : Nat}
    (h : Vars w A B cs ws P cs2 ws2 l ca wa ia cc wcp ic ca2 wa2 ia2 cc2 wc2 ic2) (hx : Ext w w') : Vars w' A B cs ws P cs2 ws2 l ca wa ia cc wcp ic ca2 wa2 ia2 cc2 wc2 ic2 :=
  ⟨by rw [hx.block _ (lt_heap h.ba)]; exact h.ba, by rw [hx.block _ (lt_heap h.bb)]; exact h.bb, h.va.ext hx, h.vb.ext hx, h.vl.ext hx, h.p64, h.l64, h.lc, h.lw⟩

set_option maxRecDepth 100000 in
set_option maxHeartbeats 2000000 in
theorem Image1_any (w : World) (A B : Nat) (cs ws : List Int) (P : List (Nat × Nat)) (cs2 ws2 : List Int) (l : List Nat) (ca wa ia : Option Addr) (cc wcp ic : Nat) (ca2 wa2 ia2 : Option Addr) (cc2 wc2 ic2 : Nat)
    (hV : Vars w A B cs ws P cs2 ws2 l ca wa ia cc wcp ic ca2 wa2 ia2 cc2 wc2 ic2) :
    Calls Tryz.prog 62 #[.pointer (some ⟨A, 0, none⟩), .pointer (some ⟨B, 0, none⟩)] w fun r w' => ∃ v', r = .returned v' ∧ SetO w' w.heap.size v' cs2 ws2 (castL (inWord (imageW (rowsL P) l))) ∧ Ext w w' := by
  obtain ⟨W, hW⟩ : ∃ W, W = w.alloc (.cells #[.slice none 0 0, .slice none 0 0, .slice none 0 0] 31) := ⟨_, rfl⟩
  have hx : Ext w W := by rw [hW]; exact (Ext.refl w).alloc _
  have hz : W.heap.size = w.heap.size + 1 := by rw [hW]; simp
  have hB1 : W.heap[w.heap.size]? = some (.cells #[.slice none 0 0, .slice none 0 0, .slice none 0 0] 31 (0, 0)) := by rw [hW]; exact heap_new _ _
  have hV1 := hV.ext hx
  have hlen : l.length ≤ 9223372036854775807 := by have := SliceAt.len_le hV.vl; rw [castL_len] at this; exact this
  obtain ⟨p0, p1, p2⟩ := cells3 hV1.ba
  have HV := Lib.hid hV1; have HX := Lib.hid hx; have HZ := Lib.hid hz; have HW := Lib.hid hW; have B1 := Lib.hid hB1
  clear hV hV1 hx hz hW hB1
  go_enter Tryz.func62, Tryz.ntmps62
  go_upto_region 1 with fail
  rw [← HW.out]
  go_wp2_with fail
  refine (rows_any cs ws P _ _ HV.out.va HV.out.p64).mono ?_
  rintro r w1 ⟨b, rfl, hb, hM, x1⟩
  have HM := Lib.hid hM; have X1 := Lib.hid x1; have V1 := Lib.hid (HV.out.ext x1)
  clear hM x1 p0 p1 p2
  generalize hMM : rowsL P = M at *
  have HMM := Lib.hid hMM; clear hMM
  obtain ⟨q0, q1, q2⟩ := cells3 V1.out.bb
  go_wp2_with fail
  go_loop [4, 12] (fun x i => ∃ k : Nat, k ≤ l.length ∧ i = .int .i64 k ∧ x = .int .u64 (imageW M (l.take k))) (fun _ i => l.length - (intOf i).toNat)
  case atStart => exact ⟨0, Nat.zero_le _, rfl, rfl⟩
  case round =>
    obtain ⟨k, hk, rfl, rfl⟩ := hrel
    by_cases hlt : k < l.length
    · rcases V1.out.vl with ⟨_, e⟩ | ⟨g, o, cap', e, _, hc⟩
      · have := castL_len l; rw [e] at this; simp at this; omega
      rw [castL_len] at e
      cases e
      have g0 : w1.cell? ⟨g, o + k, none⟩ = some (.int .i64 l[k]) := by
        have := hc k (by rw [castL_len]; exact hlt); rw [Nat.mul_one, castL_get l hlt] at this; exact this
      clear hc
      have h64 : l[k] < 64 := V1.out.l64 _ (List.getElem_mem hlt)
      have HS := Lib.hid (image_snoc M l hlt)
      have HL := Lib.hid (image_lt HM.out.lt (l.take k))
      generalize l[k] = n at *
      have c1 := HM.out.cell h64
      have HB64 := Lib.hid (u64_or HL.out (HM.out.lt n))
      generalize rowM M n = y at *
      generalize imageW M (l.take k) = z at *
      have i0 : (0 : Int) ≤ (n : Int) := by omega
      have i1 : (n : Int) < 64 := by omega
      go_wp2_with fail
      exact ⟨⟨k + 1, by omega, by go_num, by rw [HS.out, HB64.out]⟩, by simp [intOf]; omega⟩
    · have HT : Hid (l.take k = l) := List.take_of_length_le (by omega)
      rw [HT.out]
      have HL := Lib.hid (image_lt HM.out.lt l)
      generalize hzi : imageW M l = z at *
      have HZI := Lib.hid hzi; clear hzi
      go_wp2_with fail
      refine (rset_any cs2 ws2 (castL l) z _ _ V1.out.vb HL.out V1.out.lc V1.out.lw).mono ?_
      rintro r w2 ⟨v, rfl, hv, x2⟩
      obtain ⟨sa, sb, sc, sd, se, sf, rfl⟩ := hv.shape
      have hR := (X1.out.trans x2).block w.heap.size (by have := HZ.out; omega)
      rw [B1.out] at hR
      obtain ⟨z0, z1, z2, f0, f1, f2⟩ := block3 hR
      have HR := Lib.hid (put3_new (x := .slice sa cs2.length sb) (y := .slice sc ws2.length sd) (z := .slice se (castL (inWord z)).length sf) hR)
      have HF : Hid (SetO (put3 w2 w.heap.size (.slice sa cs2.length sb) (.slice sc ws2.length sd) (.slice se (castL (inWord z)).length sf)) w.heap.size (.agg #[.slice sa cs2.length sb, .slice sc ws2.length sd, .slice se (castL (inWord z)).length sf]) cs2 ws2 (castL (inWord z)) ∧ Ext w (put3 w2 w.heap.size (.slice sa cs2.length sb) (.slice sc ws2.length sd) (.slice se (castL (inWord z)).length sf))) := by
        have h1 := HZ.out; have h2 := X1.out.size
        exact ⟨(hv.put3 (by omega) _ _ _).mono (by omega), (HX.out.trans (X1.out.trans x2)).put3 (Nat.le_refl _) _ _ _⟩
      clear hR hv x2
      go_wp2_with fail
      exact bodyPost_ret (v := .agg #[.slice sa cs2.length sb, .slice sc ws2.length sd, .slice se (castL (inWord z)).length sf]) (results_cell_row Tryz.results62 _ _ w.heap.size 31 _ (0, 0) _ rfl HR.out Tryz.underlying31 rfl sizeSet) rfl ⟨_, rfl, by rw [HMM.out, HZI.out]; exact HF.out.1, HF.out.2⟩

theorem u64_andNot {x y : Nat} (hx : x < 18446744073709551616) (hy : y < 18446744073709551616) : (bits .andNot .u64 x y == 0) = (x &&& y == x) := by
  have h1 : (BitVec.ofInt 64 (x : Int)).toNat = x := by rw [BitVec.ofInt_natCast, BitVec.toNat_ofNat]; exact Nat.mod_eq_of_lt hx
  have h2 : (BitVec.ofInt 64 (y : Int)).toNat = y := by rw [BitVec.ofInt_natCast, BitVec.toNat_ofNat]; exact Nat.mod_eq_of_lt hy
  have e : bits .andNot .u64 x y = IntKind.u64.wrap ((BitVec.ofInt 64 (x : Int) &&& ~~~ BitVec.ofInt 64 (y : Int)).toNat : Nat) := rfl
  rw [e, u64_id _ (Int.natCast_nonneg _) (by exact_mod_cast (BitVec.ofInt 64 (x : Int) &&& ~~~ BitVec.ofInt 64 (y : Int)).isLt)]
  generalize hA : BitVec.ofInt 64 (x : Int) = A at *
  generalize hB : BitVec.ofInt 64 (y : Int) = B at *
  subst h1 h2
  rw [Bool.eq_iff_iff, beq_iff_eq, beq_iff_eq, sub_word]
  constructor
  · intro h i hi
    have h0 : (A &&& ~~~B) = 0 := BitVec.eq_of_toNat_eq (by simpa using (Int.natCast_eq_zero.1 h))
    have := congrArg (fun v : BitVec 64 => v.getLsbD i) h0
    simp only [BitVec.getLsbD_and, BitVec.getLsbD_not] at this
    have hi' : A.getLsbD i = true := hi
    have hlt : i < 64 := BitVec.lt_of_getLsbD hi'
    show B.getLsbD i = true
    rw [hi'] at this
    simpa [hlt] using this
  · intro h
    have h0 : (A &&& ~~~B) = 0 := by
      apply BitVec.eq_of_getLsbD_eq
      intro i hi
      simp only [BitVec.getLsbD_and, BitVec.getLsbD_not]
      cases c : A.getLsbD i with
      | false => simp
      | true => have := h i c; have h' : B.getLsbD i = true := this; simp [h']
    rw [h0]; rfl
/-- What is found when k numbers are done. -/
def insideTo (M : List Nat) (x : Nat) (l : List Nat) : Nat := wordL (l.filter fun n => rowM M n &&& x == rowM M n)
theorem insideTo_snoc (M : List Nat) (x : Nat) (l : List Nat) {k : Nat} (h : k < l.length) : insideTo M x (l.take (k + 1)) = if rowM M l[k] &&& x == rowM M l[k] then insideTo M x (l.take k) ||| 1 <<< l[k] else insideTo M x (l.take k) := by
  unfold insideTo
  rw [List.take_succ_eq_append_getElem h, List.filter_append]
  by_cases c : (rowM M l[k] &&& x == rowM M l[k]) = true
  · rw [if_pos c]
    simp only [List.filter_cons, c, if_true, List.filter_nil]
    unfold wordL; rw [List.foldl_append]; rfl
  · rw [if_neg c]
    simp only [List.filter_cons, c, List.filter_nil]
    simp
theorem insideTo_lt (M : List Nat) (x : Nat) {l : List Nat} (h : ∀ n ∈ l, n < 64) : insideTo M x l < 18446744073709551616 := wordL_lt fun n hn => h n (List.mem_filter.1 hn).1

set_option maxRecDepth 100000 in
set_option maxHeartbeats 2000000 in
theorem Inside1_any (w : World) (A B : Nat) (cs ws : List Int) (P : List (Nat × Nat)) (cs2 ws2 : List Int) (l : List Nat) (ca wa ia : Option Addr) (cc wcp ic : Nat) (ca2 wa2 ia2 : Option Addr) (cc2 wc2 ic2 : Nat)
    (hV : Vars w A B cs ws P cs2 ws2 l ca wa ia cc wcp ic ca2 wa2 ia2 cc2 wc2 ic2) :
    Calls Tryz.prog 67 #[.pointer (some ⟨A, 0, none⟩), .pointer (some ⟨B, 0, none⟩)] w fun r w' => ∃ v', r = .returned v' ∧ SetO w' w.heap.size v' cs2 ws2 (castL (inWord (insideW (rowsL P) l))) ∧ Ext w w' := by
  obtain ⟨W, hW⟩ : ∃ W, W = w.alloc (.cells #[.slice none 0 0, .slice none 0 0, .slice none 0 0] 31) := ⟨_, rfl⟩
  have hx : Ext w W := by rw [hW]; exact (Ext.refl w).alloc _
  have hz : W.heap.size = w.heap.size + 1 := by rw [hW]; simp
  have hB1 : W.heap[w.heap.size]? = some (.cells #[.slice none 0 0, .slice none 0 0, .slice none 0 0] 31 (0, 0)) := by rw [hW]; exact heap_new _ _
  have hV1 := hV.ext hx
  have hlen : l.length ≤ 9223372036854775807 := by have := SliceAt.len_le hV.vl; rw [castL_len] at this; exact this
  obtain ⟨p0, p1, p2⟩ := cells3 hV1.ba
  obtain ⟨r0, r1, r2⟩ := cells3 hV1.bb
  have HV := Lib.hid hV1; have HX := Lib.hid hx; have HZ := Lib.hid hz; have HW := Lib.hid hW; have B1 := Lib.hid hB1
  clear hV hV1 hx hz hW hB1
  go_enter Tryz.func67, Tryz.ntmps67
  go_upto_region 1 with fail
  rw [← HW.out]
  refine wp_region_held (S := fun w' => Ext W w') (by kernel_rfl) ?_
  refine wpAnyH_take (i := 0) (v := .agg #[.slice ca cs.length cc, .slice wa ws.length wcp, .slice ia P.length ic]) rfl (by kernel_rfl) (by kernel_rfl) (by kernel_rfl) (fun _ _ _ h => h) (.inl ⟨rfl, fun w' hx' => by have c0 := hx'.cell p0; have c1 := hx'.cell p1; have c2 := hx'.cell p2; go_simp⟩) (Ext.refl W).drew ?_
  refine wpAnyH_take (i := 2) (v := .agg #[.slice ca2 cs2.length cc2, .slice wa2 ws2.length wc2, .slice ia2 l.length ic2]) rfl (by kernel_rfl) (by kernel_rfl) (by kernel_rfl) (fun _ _ _ h => h) (.inl ⟨rfl, fun w' hx' => by have c0 := hx'.cell r0; have c1 := hx'.cell r1; have c2 := hx'.cell r2; go_simp⟩) (Ext.refl W).drew ?_
  refine wpAnyH_all (rs := [1]) (by kernel_rfl) (by simp) ?_
  intro i hi
  obtain rfl : i = 1 := by simpa using hi
  unfold wpOp
  go_simp
  refine .inl ((rows_any cs ws P _ _ (HV.out.va.ext (Ext.refl W).drew) HV.out.p64).mono ?_)
  rintro r v1 ⟨b, rfl, hb, hM, y1⟩
  have E1 : Ext W v1 := (Ext.refl W).drew.trans y1
  refine ⟨E1, ?_⟩
  refine wpAnyH_all (rs := [3]) (by kernel_rfl) (by simp) ?_
  intro i hi
  obtain rfl : i = 3 := by simpa using hi
  unfold wpOp
  go_simp
  refine .inl ((wordOf_any cs2 ws2 l _ _ (HV.out.vb.ext E1) HV.out.l64).mono ?_)
  rintro r w1 ⟨rfl, y2⟩
  have E2 : Ext W w1 := E1.trans y2
  refine ⟨E2, ?_⟩
  refine wpAnyH_take (i := 4) (v := .pointer (some ⟨b, 0, none⟩)) rfl (by kernel_rfl) (by kernel_rfl) (by kernel_rfl) (fun _ _ _ h => h) (.inl ⟨rfl, fun _ _ => rfl⟩) E2 ?_
  refine wpAnyH_take (i := 5) (v := .int .u64 (wordL l)) rfl (by kernel_rfl) (by kernel_rfl) (by kernel_rfl) (fun _ _ _ h => h) (.inl ⟨rfl, fun _ _ => rfl⟩) E2 ?_
  refine wpAnyH_done (by kernel_rfl) ?_ _
  have HM := Lib.hid (hM.ext y2); have X1 := Lib.hid E2; have V1 := Lib.hid (HV.out.ext E2)
  have LW0 := Lib.hid (wordL_lt HV.out.l64)
  have HIW : Hid (insideW (rowsL P) l = insideTo (rowsL P) (wordL l) l) := rfl
  clear hM y1 y2 E1 E2 p0 p1 p2 r0 r1 r2 hb
  generalize hMM : rowsL P = M at *
  generalize hLL : wordL l = X at *
  have HMM := Lib.hid hMM; have HLL := Lib.hid hLL; clear hMM hLL
  obtain ⟨q0, q1, q2⟩ := cells3 V1.out.bb
  go_wp2_with fail
  go_loop [5, 15] (fun x i => ∃ k : Nat, k ≤ l.length ∧ i = .int .i64 k ∧ x = .int .u64 (insideTo M X (l.take k))) (fun _ i => l.length - (intOf i).toNat)
  case atStart => exact ⟨0, Nat.zero_le _, rfl, rfl⟩
  case round =>
    obtain ⟨k, hk, rfl, rfl⟩ := hrel
    by_cases hlt : k < l.length
    · rcases V1.out.vl with ⟨_, e⟩ | ⟨g, o, cap', e, _, hc⟩
      · have := castL_len l; rw [e] at this; simp at this; omega
      rw [castL_len] at e
      cases e
      have g0 : w1.cell? ⟨g, o + k, none⟩ = some (.int .i64 l[k]) := by
        have := hc k (by rw [castL_len]; exact hlt); rw [Nat.mul_one, castL_get l hlt] at this; exact this
      clear hc
      have h64 : l[k] < 64 := V1.out.l64 _ (List.getElem_mem hlt)
      have hsn := insideTo_snoc M X l hlt
      have HL := Lib.hid (insideTo_lt M X (l := l.take k) fun x hx => V1.out.l64 x (List.mem_of_mem_take hx))
      generalize l[k] = n at *
      have c1 := HM.out.cell h64
      have han := u64_andNot (HM.out.lt n) LW0.out
      generalize rowM M n = y at *
      generalize insideTo M X (l.take k) = z at *
      have i0 : (0 : Int) ≤ (n : Int) := by omega
      have i1 : (n : Int) < 64 := by omega
      have HB64 : Hid (bits .or .u64 z (IntKind.u64.wrap (2 ^ n)) = ((z ||| 1 <<< n : Nat) : Int)) := by unfold Hid; rw [u64_pow h64, u64_or HL.out (shl_lt h64)]
      cases ht : (y &&& X == y) with
      | true =>
        rw [ht] at han hsn
        have HS : Hid (insideTo M X (l.take (k + 1)) = z ||| 1 <<< n) := by unfold Hid; rw [hsn]; rfl
        clear hsn ht
        go_wp2_with fail
        exact ⟨⟨k + 1, by omega, by go_num, by rw [HS.out, HB64.out]⟩, by simp [intOf]; omega⟩
      | false =>
        rw [ht] at han hsn
        have HS : Hid (insideTo M X (l.take (k + 1)) = z) := by unfold Hid; rw [hsn]; rfl
        clear hsn ht
        go_wp2_with fail
        exact ⟨⟨k + 1, by omega, by go_num, by rw [HS.out]⟩, by simp [intOf]; omega⟩
    · have HT : Hid (l.take k = l) := List.take_of_length_le (by omega)
      rw [HT.out, ← HIW.out]
      have HL : Hid (insideW M l < 18446744073709551616) := by unfold Hid; rw [HIW.out]; exact insideTo_lt M X V1.out.l64
      clear HIW
      generalize hzi : insideW M l = z at *
      have HZI := Lib.hid hzi; clear hzi
      go_wp2_with fail
      refine (rset_any cs2 ws2 (castL l) z _ _ V1.out.vb HL.out V1.out.lc V1.out.lw).mono ?_
      rintro r w2 ⟨v, rfl, hv, x2⟩
      obtain ⟨sa, sb, sc, sd, se, sf, rfl⟩ := hv.shape
      have hR := (X1.out.trans x2).block w.heap.size (by have := HZ.out; omega)
      rw [B1.out] at hR
      obtain ⟨z0, z1, z2, f0, f1, f2⟩ := block3 hR
      have HR := Lib.hid (put3_new (x := .slice sa cs2.length sb) (y := .slice sc ws2.length sd) (z := .slice se (castL (inWord z)).length sf) hR)
      have HF : Hid (SetO (put3 w2 w.heap.size (.slice sa cs2.length sb) (.slice sc ws2.length sd) (.slice se (castL (inWord z)).length sf)) w.heap.size (.agg #[.slice sa cs2.length sb, .slice sc ws2.length sd, .slice se (castL (inWord z)).length sf]) cs2 ws2 (castL (inWord z)) ∧ Ext w (put3 w2 w.heap.size (.slice sa cs2.length sb) (.slice sc ws2.length sd) (.slice se (castL (inWord z)).length sf))) := by
        have h1 := HZ.out; have h2 := X1.out.size
        exact ⟨(hv.put3 (by omega) _ _ _).mono (by omega), (HX.out.trans (X1.out.trans x2)).put3 (Nat.le_refl _) _ _ _⟩
      clear hR hv x2
      go_wp2_with fail
      exact bodyPost_ret (v := .agg #[.slice sa cs2.length sb, .slice sc ws2.length sd, .slice se (castL (inWord z)).length sf]) (results_cell_row Tryz.results67 _ _ w.heap.size 31 _ (0, 0) _ rfl HR.out Tryz.underlying31 rfl sizeSet) rfl ⟨_, rfl, by rw [HMM.out, HZI.out]; exact HF.out.1, HF.out.2⟩
end Go.Proofs.YtlnahhlddekhoaaGreatDoor
