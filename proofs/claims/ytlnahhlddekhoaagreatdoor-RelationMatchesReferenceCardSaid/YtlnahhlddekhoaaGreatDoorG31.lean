/-
  An append of a whole slice in a drawn region; what the last regions of the reference's Image and Inside keep.
  The walk of the reference's Image, where it answers. Printed by gen_vimg.py.
  The walk of the reference's Inside, where it answers. Printed by gen_vimg.py.
-/
import Derived.Test.YtlnahhlddekhoaaGreatDoorG30
import Derived.BigRegion
import Derived.Deep.AppendLies
namespace Go.Proofs.YtlnahhlddekhoaaGreatDoor
open Go.RowKit

theorem BitR.congr {w : World} {base g n : Nat} {f f' : Nat → Bool} (h : BitR w base g n f) (e : ∀ j, j < n → f j = f' j) : BitR w base g n f' := ⟨h.le, h.row.congr fun j hj => by rw [e j hj]⟩
theorem BitR.other {w : World} {base g g' n : Nat} {f : Nat → Bool} (h : BitR w base g n f) (hne : g ≠ g') (i : Nat) (x : Value) : BitR (w.setCell ⟨g', i, none⟩ x) base g n f := ⟨h.le, h.row.setOther hne _⟩
theorem OwnInts.past {w w' : World} {base : Nat} {v : Value} {l : List Int} {row : Option Nat} (h : OwnInts w base v l) (hg : w.grownBy w' row) (hne : ∀ k, v.ownBlock = some k → row ≠ some k) : OwnInts w' base v l :=
  h.keep fun k hk => hg.block k (own_lt h k hk) fun c => hne k hk c.symm

/-- Nothing appended, from anywhere. -/
theorem append_zero {w : World} {base : Nat} {v : Value} {l : List Int} (h : OwnInts w base v l) (ty : TypeId) (ad : Addr) (c : Nat) : (Builtin.append_ #[23, 23] ty #[v, .slice (some ad) 0 c]).run Tryz.prog w = .ok v w := by
  obtain ⟨i0, hi, hz0, hz1, hz2⟩ := info_parts infoInt
  have hu : Tryz.prog.underlying 23 = some (.slice 3) := Tryz.underlying23
  rcases h.2 with ⟨rfl, _⟩ | ⟨g, cap, cur, rfl, _, _, hn, _⟩
  · simp [Builtin.append_, run_underlying hu, sizeOf, typeInfo, hi, Builtin.lenOf, Builtin.firstCells, loadCells, loadCellsFrom]
  · simp [Builtin.append_, run_underlying hu, sizeOf, typeInfo, hi, Builtin.lenOf, Builtin.firstCells, hn, loadCells, loadCellsFrom, storeCells]
/-- A slice of ints appended whole, in a region that draws its order. -/
theorem wpOp_append_list {ops : Array Oper} {i : Nat} {o : Oper} {a : Act} {w : World} {K : Act → World → Prop} {Q : Exit → Act → World → Prop} (hi : ops[i]? = some o) (hgd : o.guard = none) (s x : Operand)
    (ho : o.op = .call { callee := .builtin .append, args := #[s, x], argTypes := #[23, 23] }) (base : Nat) (v src : Value) (l l2 : List Int)
    (hs : a.eval s = v) (hx : a.eval x = src) (hown : OwnInts w base v l) (hsrc : Ints w src l2) (hl : l.length + l2.length ≤ 1000000000) (hb : base ≤ w.heap.size)
    (h : ∀ v' w', OwnInts w' base v' (l ++ l2) → w.grownBy w' v.ownBlock → (∀ k, v'.ownBlock = some k → v.ownBlock = some k ∨ k = w.heap.size) → K (a.put o.dst v') w') : wpOp Tryz.prog ops Q i K a w := by
  obtain ⟨i0, hi0, hz0, hz1, hz2⟩ := info_parts infoInt
  unfold wpOp
  rw [hi]
  simp only [Region.wanted, hgd, if_true]
  refine .inl ?_
  have none_ : ∀ c, src = .slice none 0 c → l2 = [] → o.wp Tryz.prog a w K Q := fun c hc hl2 => by
    subst hc hl2
    unfold Oper.wp execOp
    simp only [ho, resolve, invoke, builtin, Sem.run_bind, Sem.run_pure, Result.andThen_ok, List.map_toArray, List.map_cons, List.map_nil, hs, hx, append_nothing hown]
    exact h v w (by simpa using hown) (World.grownBy.refl w _) fun k hk => .inl hk
  have some_ : ∀ (ad : Addr) (c : Nat), 0 < l2.length → src = .slice (some ad) l2.length c → (∀ j u, (l2.map (Value.int .i64))[j]? = some u → w.cell? (ad.add j) = some u) → o.wp Tryz.prog a w K Q := fun ad c h0 he hn =>
    wp_append_lies w s x 23 ho base 3 i0 (.int .i64 0) 1 8 Tryz.underlying23 hi0 hz0 hz1 hz2 rfl (by decide) v l.length (l.map (Value.int .i64)) hs hown ad l2.length c (l2.map (Value.int .i64)) (hx.trans he) (by simp) hn
      (fun u hu => by obtain ⟨y, _, rfl⟩ := List.mem_map.1 hu; rfl) h0 (by unfold maxLen; omega) (by omega) hb w.heap.size rfl fun g cap w' h1 h2 h3 _ => h _ w' (by simpa [OwnInts] using h1) h2 fun k hk => by
        simp only [Value.ownBlock, Option.some.injEq] at hk
        subst hk
        exact h3
  have zero_ : ∀ (ad : Addr) (c : Nat), src = .slice (some ad) 0 c → l2 = [] → o.wp Tryz.prog a w K Q := fun ad c hc hl2 => by
    subst hc hl2
    unfold Oper.wp execOp
    simp only [ho, resolve, invoke, builtin, Sem.run_bind, Sem.run_pure, Result.andThen_ok, List.map_toArray, List.map_cons, List.map_nil, hs, hx, append_zero hown]
    exact h v w (by simpa using hown) (World.grownBy.refl w _) fun k hk => .inl hk
  rcases hsrc with ⟨⟨A, c, rfl⟩, rfl⟩ | ⟨b, of, cap, rfl, hm, hc⟩
  · cases A with
    | some ad => exact zero_ ad c rfl rfl
    | none => exact none_ c rfl rfl
  · by_cases h0 : l2 = []
    · exact zero_ _ cap (by rw [h0]; rfl) h0
    · refine some_ ⟨b, of, none⟩ cap (by cases l2; exact absurd rfl h0; simp) rfl fun j u hu => ?_
      have hj : j < l2.length := by
        have := (List.getElem?_eq_some_iff.1 hu).1; simpa using this
      have hadd : (⟨b, of, none⟩ : Addr).add j = ⟨b, of + j, none⟩ := by unfold Addr.add; split <;> simp_all
      have := hc j hj
      rw [Nat.mul_one] at this
      rw [hadd]
      have e : u = .int .i64 l2[j] := by simpa [hj] using hu.symm
      rw [e]; exact this

def BoxS1 (b : Nat) (x0 x1 : Value) (w' : World) : Prop := w'.cell? ⟨b, 0, none⟩ = some x0 ∧ w'.cell? ⟨b, 1, none⟩ = some x1
end Go.Proofs.YtlnahhlddekhoaaGreatDoor
namespace Go.Proofs.YtlnahhlddekhoaaGreatDoor
open Go.RowKit

set_option maxRecDepth 100000 in
set_option maxHeartbeats 16000000 in
theorem RImage_yes (cs ws : List Int) (p : List (Nat × Nat)) (s : List Nat) (va vs : Value) (w : World) (ha : RelV w va cs ws (castP p)) (hs : SetV w vs cs ws (castL s)) (hyes : fitsR cs ws (castP p) cs ws (castL s) = true) (hp : ValidR cs ws p) (hs2 : ∀ x ∈ s, x < nn ws) :
    Calls Tryz.prog 20 #[va, vs] w (SetRes 0 cs ws (upTo (imgT p (memL s s.length) p.length) (nn ws)) w) := by
  obtain ⟨hw, h0, h20, hn, h64, hM, lc, lw⟩ := hp.nums
  obtain ⟨ca, cc, wa, wcp, ia, ic, rfl, a1, a2, a3⟩ := ha.shape
  obtain ⟨ca2, cc2, wa2, wc2, ia2, ic2, rfl, b1, b2, b3⟩ := hs.shape
  obtain ⟨W, hW⟩ : ∃ W, Boxes3 w W (.cells #[.slice ca cs.length cc, .slice wa ws.length wcp, .slice ia (castP p).length ic] 29) (.cells #[.slice ca2 cs.length cc2, .slice wa2 ws.length wc2, .slice ia2 (castL s).length ic2] 31) (.cells #[.slice none 0 0, .slice none 0 0, .slice none 0 0] 31) := ⟨_, Boxes3.mk' _ _ _ _⟩
  have hlen := SliceAt.len_le a3
  obtain ⟨p0, p1, p2⟩ := cells3 hW.b0
  obtain ⟨q0, q1, q2⟩ := cells3 hW.b1
  have HA := Lib.hid (ha.ext hW.ext); have HS := Lib.hid (hs.ext hW.ext)
  have B1 := Lib.hid (b1.ext hW.ext); have B2 := Lib.hid (b2.ext hW.ext); have A3 := Lib.hid (a3.ext hW.ext)
  have HW := Lib.hid hW; have HYES := Lib.hid hyes
  have HTB := Lib.hid (fun v w' hv => RTableS_any cs ws s v w' (nn ws) hv hw hn h20 (by omega) hs2)
  have HMP := Lib.hid hM
  have LC := Lib.hid lc; have LW := Lib.hid lw
  have HQ : Hid (∀ w', Ext W w' → BoxS1 (w.heap.size + 1) (.slice ca2 cs.length cc2) (.slice wa2 ws.length wc2) w') := fun w' h => ⟨h.cell q0, h.cell q1⟩
  clear ha hs a1 a2 a3 b1 b2 b3 hW hyes hp hs2 hw h0 h20 hn hM lc lw
  generalize nn ws = n at *
  generalize memL s s.length = f at *
  have hmk := run_make_row' (P := Tryz.prog) 74 4 (.bool false) 1 Tryz.underlying74 infoBit rfl .i64 .i64 n (by omega) (by omega)
  go_enter Tryz.func20, Tryz.ntmps20
  go_upto_region 1 with fail
  rw [← HW.out.eq]
  go_wp2_with fail
  refine (RFits_any cs ws _ cs ws _ _ _ _ HA.out HS.out).mono ?_
  rintro r w1 ⟨rfl, x1⟩
  rw [HYES.out]
  have q0' := x1.cell q0; have q1' := x1.cell q1; have q2' := x1.cell q2
  have X1 := Lib.hid x1; clear x1 p0 p1
  go_wp2_with fail
  refine (HTB.out _ _ (HS.out.ext X1.out)).mono ?_
  rintro r w2 ⟨g1, rfl, hB, x2⟩
  have HB := Lib.hid hB; have X2 := Lib.hid x2
  clear hB x2 q0' q1' q2'
  go_wp2_with fail
  go_loopw [8] (fun i wr => ∃ k : Nat, k ≤ p.length ∧ i = .int .i64 k ∧ BitR wr w2.heap.size w2.heap.size n (imgT p f k) ∧ Ext w2 wr) (fun i _ => p.length - (intOf i).toNat)
  case atStart => exact ⟨0, Nat.zero_le _, rfl, ⟨Nat.le_refl _, (World.rowIs_made w2 _ n _).congr fun j _ => by rw [imgT_zero]⟩, (Ext.refl _).alloc _⟩
  case round =>
    obtain ⟨k, hk, rfl, hT, hX⟩ := hrel
    have HT := Lib.hid hT; have HXr := Lib.hid hX
    have HXX := Lib.hid (X1.out.trans (X2.out.trans hX))
    clear hT hX
    have p2r := HXX.out.cell p2
    rw [castP_len] at p2r hlen
    by_cases hlt : k < p.length
    · obtain ⟨b, o, c, e, g0, g1'⟩ := pairAt_of (A3.out.ext HXX.out) (k := k) (by rw [castP_len]; exact hlt)
      rw [castP_get p hlt] at g0 g1'
      have hin := HMP.out _ (List.getElem_mem hlt)
      have c1 := HT.out.at hin.2
      have f1 := HT.out.row.frozen p[k].2
      have d1 := (HB.out.ext HXr.out).at hin.1
      rw [castP_len] at e
      cases e
      have HSt : Hid (BitR (wr.setCell ⟨w2.heap.size, p[k].2, none⟩ (.bool (imgT p f k p[k].2 || f p[k].1))) w2.heap.size w2.heap.size n (imgT p f (k + 1))) :=
        (HT.out.set _ _).congr fun j _ => imgT_step hlt j
      obtain ⟨hi1, hi2⟩ := hin
      generalize imgT p f k p[k].2 = u at *
      generalize f p[k].1 = v at *
      generalize p[k].1 = x at *
      generalize p[k].2 = y at *
      clear p2 q0 q1 q2
      cases u with
      | true =>
        go_wp2_with fail
        go_region
        go_wp2_with fail
        exact ⟨⟨k + 1, by omega, by go_num, HSt.out.ext (Ext.refl _).drew, (HXr.out.setCell (Nat.le_refl _) _).trans (Ext.refl _).drew⟩, by simp [intOf]; omega⟩
      | false =>
        go_wp2_with fail
        go_region
        go_wp2_with fail
        exact ⟨⟨k + 1, by omega, by go_num, HSt.out.ext (Ext.refl _).drew, (HXr.out.setCell (Nat.le_refl _) _).trans (Ext.refl _).drew⟩, by simp [intOf]; omega⟩
    · have hkn : k = p.length := by omega
      subst hkn
      go_upto_region 9 with fail
      have hR := HXX.out.block (w.heap.size + 2) (by have := HW.out.size; omega)
      rw [HW.out.b2] at hR
      have HRR := Lib.hid hR
      have K1 : Hid (∀ w', Ext wr w' → BoxS1 (w.heap.size + 1) (.slice ca2 cs.length cc2) (.slice wa2 ws.length wc2) w') := fun w' h => HQ.out w' (HXX.out.trans h)
      have I1 := Lib.hid (B1.out.ext HXX.out); have I2 := Lib.hid (B2.out.ext HXX.out)
      have hxw := HXX.out.size
      have hws := HW.out.size
      clear hR p2 p2r q0 q1 q2 hlt
      obtain ⟨y0, hy0⟩ : ∃ y, y = wr.drew := ⟨_, rfl⟩
      have Yy0 : Hid (Ext wr y0) := by rw [hy0]; exact (Ext.refl _).drew
      refine wp_region_held (S := (BoxS1 (w.heap.size + 1) (.slice ca2 cs.length cc2) (.slice wa2 ws.length wc2))) (by kernel_rfl) ?_
      change wpAnyH _ _ _ _ _ _ _ _ wr.drew
      rw [← hy0]; clear hy0
      have Sy0 := Lib.hid (K1.out _ Yy0.out)
      refine wpAnyH_take (i := 1) (v := .pointer (some ⟨w.heap.size + 1, 0, none⟩)) rfl (by kernel_rfl) (by kernel_rfl) (by kernel_rfl) (fun _ _ _ h => h) (.inl ⟨rfl, fun w' hx' => by obtain ⟨q0, q1⟩ := hx'; go_simp⟩) Sy0.out ?_
      refine wpAnyH_take (i := 2) (v := .slice ca2 cs.length cc2) rfl (by kernel_rfl) (by kernel_rfl) (by kernel_rfl) (fun _ _ _ h => h) (.inl ⟨rfl, fun w' hx' => by obtain ⟨q0, q1⟩ := hx'; go_simp⟩) Sy0.out ?_
      refine wpAnyH_take (i := 5) (v := .pointer (some ⟨w.heap.size + 1, 1, none⟩)) rfl (by kernel_rfl) (by kernel_rfl) (by kernel_rfl) (fun _ _ _ h => h) (.inl ⟨rfl, fun w' hx' => by obtain ⟨q0, q1⟩ := hx'; go_simp⟩) Sy0.out ?_
      refine wpAnyH_take (i := 6) (v := .slice wa2 ws.length wc2) rfl (by kernel_rfl) (by kernel_rfl) (by kernel_rfl) (fun _ _ _ h => h) (.inl ⟨rfl, fun w' hx' => by obtain ⟨q0, q1⟩ := hx'; go_simp⟩) Sy0.out ?_
      refine wpAnyH_take (i := 8) (v := .slice (some ⟨w2.heap.size, 0, none⟩) n n) rfl (by kernel_rfl) (by kernel_rfl) (by kernel_rfl) (fun _ _ _ h => h) (.inl ⟨rfl, fun w' hx' => by obtain ⟨q0, q1⟩ := hx'; go_simp⟩) Sy0.out ?_
      refine wpAnyH_all (rs := [0, 4]) (by kernel_rfl) (by simp) ?_
      intro i hi
      have hii : i = 0 ∨ i = 4 := by simpa using hi
      clear hi
      rcases hii with rfl | rfl
      · skip
        unfold wpOp
        go_simp
        obtain ⟨y1, hyy⟩ : ∃ y', y' = y0.alloc (.cells #[] 3) := ⟨_, rfl⟩
        rw [← hyy]
        have OE0 : Hid (OwnInts y1 wr.heap.size (.slice (some ⟨y0.heap.size, 0, none⟩) 0 0) []) := by rw [hyy]; exact OwnInts.empty _ _ Yy0.out.size
        have hzy1 : Hid (y1.heap.size = y0.heap.size + 1) := by unfold Hid; rw [hyy]; simp
        have x : Ext y0 y1 := by rw [hyy]; exact (Ext.refl _).alloc _
        have Yy1 := Lib.hid (Yy0.out.trans x); have Sy1 := Lib.hid (K1.out _ Yy1.out)
        clear x hyy
        refine .inl ⟨Sy1.out, ?_⟩
        refine wpAnyH_all (rs := [3, 4]) (by kernel_rfl) (by simp) ?_
        intro i hi
        have hii : i = 3 ∨ i = 4 := by simpa using hi
        clear hi
        rcases hii with rfl | rfl
        · skip
          refine wpOp_append_list rfl rfl (.tmp 54) (.tmp 56) rfl wr.heap.size (.slice (some ⟨y0.heap.size, 0, none⟩) 0 0) (.slice ca2 cs.length cc2) [] cs rfl rfl OE0.out (I1.out.ext Yy1.out) (by have := LC.out; simp; omega) Yy1.out.size ?_
          intro v1 y2 ho hg hl
          replace ho : OwnInts y2 wr.heap.size v1 cs := ho
          obtain ⟨v1a, v1c, rfl⟩ := ho.ints.shape
          have Yy2 := Lib.hid (Yy1.out.grown hg (fun q hq => OE0.out.base q hq)); have Sy2 := Lib.hid (K1.out _ Yy2.out)
          have hzy2 := Lib.hid hg.size
          have O1 := Lib.hid ho; have HL3 := Lib.hid hl
          clear ho hg hl
          refine ⟨Sy2.out, ?_⟩
          refine wpAnyH_all (rs := [4]) (by kernel_rfl) (by simp) ?_
          intro i hi
          replace hi : i = 4 := by simpa using hi
          subst hi
          have HB1 : Hid (∀ k, (Value.slice v1a cs.length v1c).ownBlock = some k → k < y2.heap.size) := fun k hk => own_lt O1.out k hk
          unfold wpOp
          go_simp
          obtain ⟨y3, hyy⟩ : ∃ y', y' = y2.alloc (.cells #[] 3) := ⟨_, rfl⟩
          rw [← hyy]
          have OE4 : Hid (OwnInts y3 wr.heap.size (.slice (some ⟨y2.heap.size, 0, none⟩) 0 0) []) := by rw [hyy]; exact OwnInts.empty _ _ Yy2.out.size
          have hzy3 : Hid (y3.heap.size = y2.heap.size + 1) := by unfold Hid; rw [hyy]; simp
          have x : Ext y2 y3 := by rw [hyy]; exact (Ext.refl _).alloc _
          have Yy3 := Lib.hid (Yy2.out.trans x); have Sy3 := Lib.hid (K1.out _ Yy3.out)
          replace O1 := Lib.hid (O1.out.kept x)
          clear x hyy
          refine .inl ⟨Sy3.out, ?_⟩
          have HNE : Hid (∀ k, (Value.slice v1a cs.length v1c).ownBlock = some k → (Value.slice (some ⟨y2.heap.size, 0, none⟩) 0 0).ownBlock ≠ some k) := by
            intro k hk e
            have := HB1.out k hk
            simp only [Value.ownBlock, Option.some.injEq] at e
            omega
          refine wpAnyH_all (rs := [7]) (by kernel_rfl) (by simp) ?_
          intro i hi
          replace hi : i = 7 := by simpa using hi
          subst hi
          refine wpOp_append_list rfl rfl (.tmp 58) (.tmp 60) rfl wr.heap.size (.slice (some ⟨y2.heap.size, 0, none⟩) 0 0) (.slice wa2 ws.length wc2) [] ws rfl rfl OE4.out (I2.out.ext Yy3.out) (by have := LW.out; simp; omega) Yy3.out.size ?_
          intro v2 y4 ho hg hl
          replace ho : OwnInts y4 wr.heap.size v2 ws := ho
          obtain ⟨v2a, v2c, rfl⟩ := ho.ints.shape
          have Yy4 := Lib.hid (Yy3.out.grown hg (fun q hq => OE4.out.base q hq)); have Sy4 := Lib.hid (K1.out _ Yy4.out)
          have hzy4 := Lib.hid hg.size
          replace O1 := Lib.hid (O1.out.past hg HNE.out)
          have O2 := Lib.hid ho; have HL7 := Lib.hid hl
          clear ho hg hl
          refine ⟨Sy4.out, ?_⟩
          refine wpAnyH_all (rs := [9]) (by kernel_rfl) (by simp) ?_
          intro i hi
          replace hi : i = 9 := by simpa using hi
          subst hi
          unfold wpOp
          go_simp
          refine .inl ((RList_any w2.heap.size n _ y4 w2.heap.size (HT.out.ext Yy4.out) (by omega)).mono ?_)
          rintro r y5 ⟨u, rfl, hu, x⟩
          obtain ⟨ua, uc, rfl⟩ := hu.ints.shape
          have hzz := Yy4.out.size
          have Yy5 := Lib.hid (Yy4.out.trans x); have Sy5 := Lib.hid (K1.out _ Yy5.out)
          replace O1 := Lib.hid (O1.out.kept x); replace O2 := Lib.hid (O2.out.kept x)
          have O3 := Lib.hid hu
          clear hu x
          refine ⟨Sy5.out, ?_⟩
          have hR := Yy5.out.block (w.heap.size + 2) (lt_heap HRR.out)
          rw [HRR.out] at hR
          obtain ⟨z0, z1, z2, f0, f1, f2⟩ := block3 hR
          generalize upTo (imgT p f p.length) n = I at *
          have HR := Lib.hid (put3_new (x := .slice v1a cs.length v1c) (y := .slice v2a ws.length v2c) (z := .slice ua I.length uc) hR)
          have HF : Hid (SetRes 0 cs ws I w (.returned (.tuple #[.agg #[.slice v1a cs.length v1c, .slice v2a ws.length v2c, .slice ua I.length uc], .int .i64 0])) (put3 y5 (w.heap.size + 2) (.slice v1a cs.length v1c) (.slice v2a ws.length v2c) (.slice ua I.length uc))) :=
            ⟨_, rfl, ⟨_, _, _, rfl, (O1.out.put3 (by omega) _ _ _).mono (by omega), (O2.out.put3 (by omega) _ _ _).mono (by omega), (O3.out.put3 (by omega) _ _ _).mono (by omega)⟩, (HW.out.ext.trans (HXX.out.trans Yy5.out)).put3 (by omega) _ _ _⟩
          have HS2 : Hid ((BoxS1 (w.heap.size + 1) (.slice ca2 cs.length cc2) (.slice wa2 ws.length wc2)) (put3 y5 (w.heap.size + 2) (.slice v1a cs.length v1c) (.slice v2a ws.length v2c) (.slice ua I.length uc))) := by
            obtain ⟨u0, u1⟩ := Sy5.out
            have o0 : ∀ k (x y z : Value), k ≠ w.heap.size + 2 → (put3 y5 (w.heap.size + 2) x y z).heap[k]? = y5.heap[k]? := fun k x y z hk => put3_other k hk
            exact ⟨(World.cell?_of_block (o0 _ _ _ _ (by simp))).trans u0, (World.cell?_of_block (o0 _ _ _ _ (by simp))).trans u1⟩
          clear hR
          refine wpAnyH_all (rs := [10]) (by kernel_rfl) (by simp) ?_
          intro i hi
          replace hi : i = 10 := by simpa using hi
          subst hi
          unfold wpOp
          go_simp
          refine .inl ⟨Sy5.out, ?_⟩
          refine wpAnyH_all (rs := [11]) (by kernel_rfl) (by simp) ?_
          intro i hi
          replace hi : i = 11 := by simpa using hi
          subst hi
          unfold wpOp
          go_simp
          refine .inl ⟨HS2.out, ?_⟩
          refine wpAnyH_all (rs := [12]) (by kernel_rfl) (by simp) ?_
          intro i hi
          replace hi : i = 12 := by simpa using hi
          subst hi
          unfold wpOp
          go_simp
          refine .inl ⟨HS2.out, ?_⟩
          refine wpAnyH_done (by kernel_rfl) ?_ _
          go_wp2_with fail
          exact bodyPost_ret (v := .tuple #[.agg #[.slice v1a cs.length v1c, .slice v2a ws.length v2c, .slice ua I.length uc], .int .i64 0]) (results_row_tmp Tryz.results20 _ _ (w.heap.size + 2) 31 _ (0, 0) _ rfl HR.out Tryz.underlying31 rfl sizeSet) rfl HF.out
        · skip
          unfold wpOp
          go_simp
          obtain ⟨y2, hyy⟩ : ∃ y', y' = y1.alloc (.cells #[] 3) := ⟨_, rfl⟩
          rw [← hyy]
          have OE4 : Hid (OwnInts y2 wr.heap.size (.slice (some ⟨y1.heap.size, 0, none⟩) 0 0) []) := by rw [hyy]; exact OwnInts.empty _ _ Yy1.out.size
          have hzy2 : Hid (y2.heap.size = y1.heap.size + 1) := by unfold Hid; rw [hyy]; simp
          have x : Ext y1 y2 := by rw [hyy]; exact (Ext.refl _).alloc _
          have Yy2 := Lib.hid (Yy1.out.trans x); have Sy2 := Lib.hid (K1.out _ Yy2.out)
          replace OE0 := Lib.hid (OE0.out.kept x)
          clear x hyy
          refine .inl ⟨Sy2.out, ?_⟩
          refine wpAnyH_all (rs := [3]) (by kernel_rfl) (by simp) ?_
          intro i hi
          replace hi : i = 3 := by simpa using hi
          subst hi
          refine wpOp_append_list rfl rfl (.tmp 54) (.tmp 56) rfl wr.heap.size (.slice (some ⟨y0.heap.size, 0, none⟩) 0 0) (.slice ca2 cs.length cc2) [] cs rfl rfl OE0.out (I1.out.ext Yy2.out) (by have := LC.out; simp; omega) Yy2.out.size ?_
          intro v1 y3 ho hg hl
          replace ho : OwnInts y3 wr.heap.size v1 cs := ho
          obtain ⟨v1a, v1c, rfl⟩ := ho.ints.shape
          have Yy3 := Lib.hid (Yy2.out.grown hg (fun q hq => OE0.out.base q hq)); have Sy3 := Lib.hid (K1.out _ Yy3.out)
          have hzy3 := Lib.hid hg.size
          replace OE4 := Lib.hid (OE4.out.past hg (fun k hk e => by have z1 := hzy1.out; have z2 := hzy2.out; simp only [Value.ownBlock, Option.some.injEq] at hk e; omega))
          have O1 := Lib.hid ho; have HL3 := Lib.hid hl
          clear ho hg hl
          refine ⟨Sy3.out, ?_⟩
          have HNE : Hid (∀ k, (Value.slice v1a cs.length v1c).ownBlock = some k → (Value.slice (some ⟨y1.heap.size, 0, none⟩) 0 0).ownBlock ≠ some k) := by
            intro k hk e
            have := HL3.out k hk
            have z1 := hzy1.out; have z2 := hzy2.out
            simp only [Value.ownBlock, Option.some.injEq] at e this
            omega
          refine wpAnyH_all (rs := [7]) (by kernel_rfl) (by simp) ?_
          intro i hi
          replace hi : i = 7 := by simpa using hi
          subst hi
          refine wpOp_append_list rfl rfl (.tmp 58) (.tmp 60) rfl wr.heap.size (.slice (some ⟨y1.heap.size, 0, none⟩) 0 0) (.slice wa2 ws.length wc2) [] ws rfl rfl OE4.out (I2.out.ext Yy3.out) (by have := LW.out; simp; omega) Yy3.out.size ?_
          intro v2 y4 ho hg hl
          replace ho : OwnInts y4 wr.heap.size v2 ws := ho
          obtain ⟨v2a, v2c, rfl⟩ := ho.ints.shape
          have Yy4 := Lib.hid (Yy3.out.grown hg (fun q hq => OE4.out.base q hq)); have Sy4 := Lib.hid (K1.out _ Yy4.out)
          have hzy4 := Lib.hid hg.size
          replace O1 := Lib.hid (O1.out.past hg HNE.out)
          have O2 := Lib.hid ho; have HL7 := Lib.hid hl
          clear ho hg hl
          refine ⟨Sy4.out, ?_⟩
          refine wpAnyH_all (rs := [9]) (by kernel_rfl) (by simp) ?_
          intro i hi
          replace hi : i = 9 := by simpa using hi
          subst hi
          unfold wpOp
          go_simp
          refine .inl ((RList_any w2.heap.size n _ y4 w2.heap.size (HT.out.ext Yy4.out) (by omega)).mono ?_)
          rintro r y5 ⟨u, rfl, hu, x⟩
          obtain ⟨ua, uc, rfl⟩ := hu.ints.shape
          have hzz := Yy4.out.size
          have Yy5 := Lib.hid (Yy4.out.trans x); have Sy5 := Lib.hid (K1.out _ Yy5.out)
          replace O1 := Lib.hid (O1.out.kept x); replace O2 := Lib.hid (O2.out.kept x)
          have O3 := Lib.hid hu
          clear hu x
          refine ⟨Sy5.out, ?_⟩
          have hR := Yy5.out.block (w.heap.size + 2) (lt_heap HRR.out)
          rw [HRR.out] at hR
          obtain ⟨z0, z1, z2, f0, f1, f2⟩ := block3 hR
          generalize upTo (imgT p f p.length) n = I at *
          have HR := Lib.hid (put3_new (x := .slice v1a cs.length v1c) (y := .slice v2a ws.length v2c) (z := .slice ua I.length uc) hR)
          have HF : Hid (SetRes 0 cs ws I w (.returned (.tuple #[.agg #[.slice v1a cs.length v1c, .slice v2a ws.length v2c, .slice ua I.length uc], .int .i64 0])) (put3 y5 (w.heap.size + 2) (.slice v1a cs.length v1c) (.slice v2a ws.length v2c) (.slice ua I.length uc))) :=
            ⟨_, rfl, ⟨_, _, _, rfl, (O1.out.put3 (by omega) _ _ _).mono (by omega), (O2.out.put3 (by omega) _ _ _).mono (by omega), (O3.out.put3 (by omega) _ _ _).mono (by omega)⟩, (HW.out.ext.trans (HXX.out.trans Yy5.out)).put3 (by omega) _ _ _⟩
          have HS2 : Hid ((BoxS1 (w.heap.size + 1) (.slice ca2 cs.length cc2) (.slice wa2 ws.length wc2)) (put3 y5 (w.heap.size + 2) (.slice v1a cs.length v1c) (.slice v2a ws.length v2c) (.slice ua I.length uc))) := by
            obtain ⟨u0, u1⟩ := Sy5.out
            have o0 : ∀ k (x y z : Value), k ≠ w.heap.size + 2 → (put3 y5 (w.heap.size + 2) x y z).heap[k]? = y5.heap[k]? := fun k x y z hk => put3_other k hk
            exact ⟨(World.cell?_of_block (o0 _ _ _ _ (by simp))).trans u0, (World.cell?_of_block (o0 _ _ _ _ (by simp))).trans u1⟩
          clear hR
          refine wpAnyH_all (rs := [10]) (by kernel_rfl) (by simp) ?_
          intro i hi
          replace hi : i = 10 := by simpa using hi
          subst hi
          unfold wpOp
          go_simp
          refine .inl ⟨Sy5.out, ?_⟩
          refine wpAnyH_all (rs := [11]) (by kernel_rfl) (by simp) ?_
          intro i hi
          replace hi : i = 11 := by simpa using hi
          subst hi
          unfold wpOp
          go_simp
          refine .inl ⟨HS2.out, ?_⟩
          refine wpAnyH_all (rs := [12]) (by kernel_rfl) (by simp) ?_
          intro i hi
          replace hi : i = 12 := by simpa using hi
          subst hi
          unfold wpOp
          go_simp
          refine .inl ⟨HS2.out, ?_⟩
          refine wpAnyH_done (by kernel_rfl) ?_ _
          go_wp2_with fail
          exact bodyPost_ret (v := .tuple #[.agg #[.slice v1a cs.length v1c, .slice v2a ws.length v2c, .slice ua I.length uc], .int .i64 0]) (results_row_tmp Tryz.results20 _ _ (w.heap.size + 2) 31 _ (0, 0) _ rfl HR.out Tryz.underlying31 rfl sizeSet) rfl HF.out
      · skip
        unfold wpOp
        go_simp
        obtain ⟨y1, hyy⟩ : ∃ y', y' = y0.alloc (.cells #[] 3) := ⟨_, rfl⟩
        rw [← hyy]
        have OE4 : Hid (OwnInts y1 wr.heap.size (.slice (some ⟨y0.heap.size, 0, none⟩) 0 0) []) := by rw [hyy]; exact OwnInts.empty _ _ Yy0.out.size
        have hzy1 : Hid (y1.heap.size = y0.heap.size + 1) := by unfold Hid; rw [hyy]; simp
        have x : Ext y0 y1 := by rw [hyy]; exact (Ext.refl _).alloc _
        have Yy1 := Lib.hid (Yy0.out.trans x); have Sy1 := Lib.hid (K1.out _ Yy1.out)
        clear x hyy
        refine .inl ⟨Sy1.out, ?_⟩
        refine wpAnyH_all (rs := [0]) (by kernel_rfl) (by simp) ?_
        intro i hi
        replace hi : i = 0 := by simpa using hi
        subst hi
        unfold wpOp
        go_simp
        obtain ⟨y2, hyy⟩ : ∃ y', y' = y1.alloc (.cells #[] 3) := ⟨_, rfl⟩
        rw [← hyy]
        have OE0 : Hid (OwnInts y2 wr.heap.size (.slice (some ⟨y1.heap.size, 0, none⟩) 0 0) []) := by rw [hyy]; exact OwnInts.empty _ _ Yy1.out.size
        have hzy2 : Hid (y2.heap.size = y1.heap.size + 1) := by unfold Hid; rw [hyy]; simp
        have x : Ext y1 y2 := by rw [hyy]; exact (Ext.refl _).alloc _
        have Yy2 := Lib.hid (Yy1.out.trans x); have Sy2 := Lib.hid (K1.out _ Yy2.out)
        replace OE4 := Lib.hid (OE4.out.kept x)
        clear x hyy
        refine .inl ⟨Sy2.out, ?_⟩
        refine wpAnyH_all (rs := [3]) (by kernel_rfl) (by simp) ?_
        intro i hi
        replace hi : i = 3 := by simpa using hi
        subst hi
        refine wpOp_append_list rfl rfl (.tmp 54) (.tmp 56) rfl wr.heap.size (.slice (some ⟨y1.heap.size, 0, none⟩) 0 0) (.slice ca2 cs.length cc2) [] cs rfl rfl OE0.out (I1.out.ext Yy2.out) (by have := LC.out; simp; omega) Yy2.out.size ?_
        intro v1 y3 ho hg hl
        replace ho : OwnInts y3 wr.heap.size v1 cs := ho
        obtain ⟨v1a, v1c, rfl⟩ := ho.ints.shape
        have Yy3 := Lib.hid (Yy2.out.grown hg (fun q hq => OE0.out.base q hq)); have Sy3 := Lib.hid (K1.out _ Yy3.out)
        have hzy3 := Lib.hid hg.size
        replace OE4 := Lib.hid (OE4.out.past hg (fun k hk e => by have z1 := hzy1.out; have z2 := hzy2.out; simp only [Value.ownBlock, Option.some.injEq] at hk e; omega))
        have O1 := Lib.hid ho; have HL3 := Lib.hid hl
        clear ho hg hl
        refine ⟨Sy3.out, ?_⟩
        have HNE : Hid (∀ k, (Value.slice v1a cs.length v1c).ownBlock = some k → (Value.slice (some ⟨y0.heap.size, 0, none⟩) 0 0).ownBlock ≠ some k) := by
          intro k hk e
          have := HL3.out k hk
          have z1 := hzy1.out; have z2 := hzy2.out
          simp only [Value.ownBlock, Option.some.injEq] at e this
          omega
        refine wpAnyH_all (rs := [7]) (by kernel_rfl) (by simp) ?_
        intro i hi
        replace hi : i = 7 := by simpa using hi
        subst hi
        refine wpOp_append_list rfl rfl (.tmp 58) (.tmp 60) rfl wr.heap.size (.slice (some ⟨y0.heap.size, 0, none⟩) 0 0) (.slice wa2 ws.length wc2) [] ws rfl rfl OE4.out (I2.out.ext Yy3.out) (by have := LW.out; simp; omega) Yy3.out.size ?_
        intro v2 y4 ho hg hl
        replace ho : OwnInts y4 wr.heap.size v2 ws := ho
        obtain ⟨v2a, v2c, rfl⟩ := ho.ints.shape
        have Yy4 := Lib.hid (Yy3.out.grown hg (fun q hq => OE4.out.base q hq)); have Sy4 := Lib.hid (K1.out _ Yy4.out)
        have hzy4 := Lib.hid hg.size
        replace O1 := Lib.hid (O1.out.past hg HNE.out)
        have O2 := Lib.hid ho; have HL7 := Lib.hid hl
        clear ho hg hl
        refine ⟨Sy4.out, ?_⟩
        refine wpAnyH_all (rs := [9]) (by kernel_rfl) (by simp) ?_
        intro i hi
        replace hi : i = 9 := by simpa using hi
        subst hi
        unfold wpOp
        go_simp
        refine .inl ((RList_any w2.heap.size n _ y4 w2.heap.size (HT.out.ext Yy4.out) (by omega)).mono ?_)
        rintro r y5 ⟨u, rfl, hu, x⟩
        obtain ⟨ua, uc, rfl⟩ := hu.ints.shape
        have hzz := Yy4.out.size
        have Yy5 := Lib.hid (Yy4.out.trans x); have Sy5 := Lib.hid (K1.out _ Yy5.out)
        replace O1 := Lib.hid (O1.out.kept x); replace O2 := Lib.hid (O2.out.kept x)
        have O3 := Lib.hid hu
        clear hu x
        refine ⟨Sy5.out, ?_⟩
        have hR := Yy5.out.block (w.heap.size + 2) (lt_heap HRR.out)
        rw [HRR.out] at hR
        obtain ⟨z0, z1, z2, f0, f1, f2⟩ := block3 hR
        generalize upTo (imgT p f p.length) n = I at *
        have HR := Lib.hid (put3_new (x := .slice v1a cs.length v1c) (y := .slice v2a ws.length v2c) (z := .slice ua I.length uc) hR)
        have HF : Hid (SetRes 0 cs ws I w (.returned (.tuple #[.agg #[.slice v1a cs.length v1c, .slice v2a ws.length v2c, .slice ua I.length uc], .int .i64 0])) (put3 y5 (w.heap.size + 2) (.slice v1a cs.length v1c) (.slice v2a ws.length v2c) (.slice ua I.length uc))) :=
          ⟨_, rfl, ⟨_, _, _, rfl, (O1.out.put3 (by omega) _ _ _).mono (by omega), (O2.out.put3 (by omega) _ _ _).mono (by omega), (O3.out.put3 (by omega) _ _ _).mono (by omega)⟩, (HW.out.ext.trans (HXX.out.trans Yy5.out)).put3 (by omega) _ _ _⟩
        have HS2 : Hid ((BoxS1 (w.heap.size + 1) (.slice ca2 cs.length cc2) (.slice wa2 ws.length wc2)) (put3 y5 (w.heap.size + 2) (.slice v1a cs.length v1c) (.slice v2a ws.length v2c) (.slice ua I.length uc))) := by
          obtain ⟨u0, u1⟩ := Sy5.out
          have o0 : ∀ k (x y z : Value), k ≠ w.heap.size + 2 → (put3 y5 (w.heap.size + 2) x y z).heap[k]? = y5.heap[k]? := fun k x y z hk => put3_other k hk
          exact ⟨(World.cell?_of_block (o0 _ _ _ _ (by simp))).trans u0, (World.cell?_of_block (o0 _ _ _ _ (by simp))).trans u1⟩
        clear hR
        refine wpAnyH_all (rs := [10]) (by kernel_rfl) (by simp) ?_
        intro i hi
        replace hi : i = 10 := by simpa using hi
        subst hi
        unfold wpOp
        go_simp
        refine .inl ⟨Sy5.out, ?_⟩
        refine wpAnyH_all (rs := [11]) (by kernel_rfl) (by simp) ?_
        intro i hi
        replace hi : i = 11 := by simpa using hi
        subst hi
        unfold wpOp
        go_simp
        refine .inl ⟨HS2.out, ?_⟩
        refine wpAnyH_all (rs := [12]) (by kernel_rfl) (by simp) ?_
        intro i hi
        replace hi : i = 12 := by simpa using hi
        subst hi
        unfold wpOp
        go_simp
        refine .inl ⟨HS2.out, ?_⟩
        refine wpAnyH_done (by kernel_rfl) ?_ _
        go_wp2_with fail
        exact bodyPost_ret (v := .tuple #[.agg #[.slice v1a cs.length v1c, .slice v2a ws.length v2c, .slice ua I.length uc], .int .i64 0]) (results_row_tmp Tryz.results20 _ _ (w.heap.size + 2) 31 _ (0, 0) _ rfl HR.out Tryz.underlying31 rfl sizeSet) rfl HF.out
end Go.Proofs.YtlnahhlddekhoaaGreatDoor
namespace Go.Proofs.YtlnahhlddekhoaaGreatDoor
open Go.RowKit

set_option maxRecDepth 100000 in
set_option maxHeartbeats 16000000 in
theorem RInside_yes (cs ws : List Int) (p : List (Nat × Nat)) (s : List Nat) (va vs : Value) (w : World) (ha : RelV w va cs ws (castP p)) (hs : SetV w vs cs ws (castL s)) (hyes : fitsR cs ws (castP p) cs ws (castL s) = true) (hp : ValidR cs ws p) (hs2 : ∀ x ∈ s, x < nn ws) :
    Calls Tryz.prog 22 #[va, vs] w (SetRes 0 cs ws (upTo (insT p (memL s s.length) p.length) (nn ws)) w) := by
  obtain ⟨hw, h0, h20, hn, h64, hM, lc, lw⟩ := hp.nums
  obtain ⟨ca, cc, wa, wcp, ia, ic, rfl, a1, a2, a3⟩ := ha.shape
  obtain ⟨ca2, cc2, wa2, wc2, ia2, ic2, rfl, b1, b2, b3⟩ := hs.shape
  obtain ⟨W, hW⟩ : ∃ W, Boxes3 w W (.cells #[.slice ca cs.length cc, .slice wa ws.length wcp, .slice ia (castP p).length ic] 29) (.cells #[.slice ca2 cs.length cc2, .slice wa2 ws.length wc2, .slice ia2 (castL s).length ic2] 31) (.cells #[.slice none 0 0, .slice none 0 0, .slice none 0 0] 31) := ⟨_, Boxes3.mk' _ _ _ _⟩
  have hlen := SliceAt.len_le a3
  obtain ⟨p0, p1, p2⟩ := cells3 hW.b0
  obtain ⟨q0, q1, q2⟩ := cells3 hW.b1
  have HA := Lib.hid (ha.ext hW.ext); have HS := Lib.hid (hs.ext hW.ext)
  have B1 := Lib.hid (b1.ext hW.ext); have B2 := Lib.hid (b2.ext hW.ext); have A3 := Lib.hid (a3.ext hW.ext)
  have HW := Lib.hid hW; have HYES := Lib.hid hyes
  have HTB := Lib.hid (fun v w' hv => RTableS_any cs ws s v w' (nn ws) hv hw hn h20 (by omega) hs2)
  have HMP := Lib.hid hM
  have LC := Lib.hid lc; have LW := Lib.hid lw
  have HQ : Hid (∀ w', Ext W w' → BoxS1 (w.heap.size + 1) (.slice ca2 cs.length cc2) (.slice wa2 ws.length wc2) w') := fun w' h => ⟨h.cell q0, h.cell q1⟩
  clear ha hs a1 a2 a3 b1 b2 b3 hW hyes hp hs2 hw h0 h20 hn hM lc lw
  generalize nn ws = n at *
  generalize memL s s.length = f at *
  go_enter Tryz.func22, Tryz.ntmps22
  go_upto_region 1 with fail
  rw [← HW.out.eq]
  go_wp2_with fail
  refine (RFits_any cs ws _ cs ws _ _ _ _ HA.out HS.out).mono ?_
  rintro r w1 ⟨rfl, x1⟩
  rw [HYES.out]
  have q0' := x1.cell q0; have q1' := x1.cell q1; have q2' := x1.cell q2
  have X1 := Lib.hid x1; clear x1 p0 p1
  go_wp2_with fail
  refine (HTB.out _ _ (HS.out.ext X1.out)).mono ?_
  rintro r w2 ⟨g1, rfl, hB, x2⟩
  have HB := Lib.hid hB; have X2 := Lib.hid x2
  replace q0' := x2.cell q0'; replace q1' := x2.cell q1'; replace q2' := x2.cell q2'
  clear hB x2
  go_wp2_with fail
  refine (HTB.out _ _ (HS.out.ext (X1.out.trans X2.out))).mono ?_
  rintro r w3 ⟨g2, rfl, hD, x3⟩
  have hg12 : g1 < g2 := Nat.lt_of_lt_of_le HB.out.lt hD.le
  have HGE : Hid (w1.heap.size ≤ g2) := Nat.le_trans X2.out.size hD.le
  replace HB := Lib.hid (HB.out.ext x3); replace X2 := Lib.hid (X2.out.trans x3)
  have HD := Lib.hid hD; have X3 := Lib.hid x3
  clear hD x3 q0' q1' q2'
  go_wp2_with fail
  go_loopw [8] (fun i wr => ∃ k : Nat, k ≤ p.length ∧ i = .int .i64 k ∧ BitR wr w2.heap.size g2 n (insT p f k) ∧ BitR wr w1.heap.size g1 n f ∧ Ext w1 wr) (fun i _ => p.length - (intOf i).toNat)
  case atStart => exact ⟨0, Nat.zero_le _, rfl, HD.out.congr fun j _ => by rw [insT_zero], HB.out, X2.out⟩
  case round =>
    obtain ⟨k, hk, rfl, hT, hF, hX⟩ := hrel
    have HT := Lib.hid hT; have HXr := Lib.hid hX; have HF := Lib.hid hF
    have HXX := Lib.hid (X1.out.trans hX)
    clear hT hX hF
    have p2r := HXX.out.cell p2
    rw [castP_len] at p2r hlen
    by_cases hlt : k < p.length
    · obtain ⟨b, o, c, e, g0, g1'⟩ := pairAt_of (A3.out.ext HXX.out) (k := k) (by rw [castP_len]; exact hlt)
      rw [castP_get p hlt] at g0 g1'
      have hin := HMP.out _ (List.getElem_mem hlt)
      have c1 := HT.out.at hin.1
      have f1 := HT.out.row.frozen p[k].1
      have d1 := HF.out.at hin.2
      rw [castP_len] at e
      cases e
      have HSt : Hid (BitR (wr.setCell ⟨g2, p[k].1, none⟩ (.bool (insT p f k p[k].1 && f p[k].2))) w2.heap.size g2 n (insT p f (k + 1))) :=
        (HT.out.set _ _).congr fun j _ => insT_step hlt j
      have HFt : Hid (BitR (wr.setCell ⟨g2, p[k].1, none⟩ (.bool (insT p f k p[k].1 && f p[k].2))) w1.heap.size g1 n f) := HF.out.other (Nat.ne_of_lt hg12) _ _
      obtain ⟨hi1, hi2⟩ := hin
      generalize insT p f k p[k].1 = u at *
      generalize f p[k].2 = v at *
      generalize p[k].1 = x at *
      generalize p[k].2 = y at *
      clear p2 q0 q1 q2
      cases u with
      | true =>
        go_wp2_with fail
        go_region
        go_wp2_with fail
        exact ⟨⟨k + 1, by omega, by go_num, HSt.out.ext (Ext.refl _).drew, HFt.out.ext (Ext.refl _).drew, (HXr.out.setCell HGE.out _).trans (Ext.refl _).drew⟩, by simp [intOf]; omega⟩
      | false =>
        go_wp2_with fail
        go_region
        go_wp2_with fail
        exact ⟨⟨k + 1, by omega, by go_num, HSt.out.ext (Ext.refl _).drew, HFt.out.ext (Ext.refl _).drew, (HXr.out.setCell HGE.out _).trans (Ext.refl _).drew⟩, by simp [intOf]; omega⟩
    · have hkn : k = p.length := by omega
      subst hkn
      go_upto_region 9 with fail
      have hR := HXX.out.block (w.heap.size + 2) (by have := HW.out.size; omega)
      rw [HW.out.b2] at hR
      have HRR := Lib.hid hR
      have K1 : Hid (∀ w', Ext wr w' → BoxS1 (w.heap.size + 1) (.slice ca2 cs.length cc2) (.slice wa2 ws.length wc2) w') := fun w' h => HQ.out w' (HXX.out.trans h)
      have I1 := Lib.hid (B1.out.ext HXX.out); have I2 := Lib.hid (B2.out.ext HXX.out)
      have hxw := HXX.out.size
      have hws := HW.out.size
      clear hR p2 p2r q0 q1 q2 hlt
      obtain ⟨y0, hy0⟩ : ∃ y, y = wr.drew := ⟨_, rfl⟩
      have Yy0 : Hid (Ext wr y0) := by rw [hy0]; exact (Ext.refl _).drew
      refine wp_region_held (S := (BoxS1 (w.heap.size + 1) (.slice ca2 cs.length cc2) (.slice wa2 ws.length wc2))) (by kernel_rfl) ?_
      change wpAnyH _ _ _ _ _ _ _ _ wr.drew
      rw [← hy0]; clear hy0
      have Sy0 := Lib.hid (K1.out _ Yy0.out)
      refine wpAnyH_take (i := 1) (v := .pointer (some ⟨w.heap.size + 1, 0, none⟩)) rfl (by kernel_rfl) (by kernel_rfl) (by kernel_rfl) (fun _ _ _ h => h) (.inl ⟨rfl, fun w' hx' => by obtain ⟨q0, q1⟩ := hx'; go_simp⟩) Sy0.out ?_
      refine wpAnyH_take (i := 2) (v := .slice ca2 cs.length cc2) rfl (by kernel_rfl) (by kernel_rfl) (by kernel_rfl) (fun _ _ _ h => h) (.inl ⟨rfl, fun w' hx' => by obtain ⟨q0, q1⟩ := hx'; go_simp⟩) Sy0.out ?_
      refine wpAnyH_take (i := 5) (v := .pointer (some ⟨w.heap.size + 1, 1, none⟩)) rfl (by kernel_rfl) (by kernel_rfl) (by kernel_rfl) (fun _ _ _ h => h) (.inl ⟨rfl, fun w' hx' => by obtain ⟨q0, q1⟩ := hx'; go_simp⟩) Sy0.out ?_
      refine wpAnyH_take (i := 6) (v := .slice wa2 ws.length wc2) rfl (by kernel_rfl) (by kernel_rfl) (by kernel_rfl) (fun _ _ _ h => h) (.inl ⟨rfl, fun w' hx' => by obtain ⟨q0, q1⟩ := hx'; go_simp⟩) Sy0.out ?_
      refine wpAnyH_take (i := 8) (v := .slice (some ⟨g2, 0, none⟩) n n) rfl (by kernel_rfl) (by kernel_rfl) (by kernel_rfl) (fun _ _ _ h => h) (.inl ⟨rfl, fun w' hx' => by obtain ⟨q0, q1⟩ := hx'; go_simp⟩) Sy0.out ?_
      refine wpAnyH_all (rs := [0, 4]) (by kernel_rfl) (by simp) ?_
      intro i hi
      have hii : i = 0 ∨ i = 4 := by simpa using hi
      clear hi
      rcases hii with rfl | rfl
      · skip
        unfold wpOp
        go_simp
        obtain ⟨y1, hyy⟩ : ∃ y', y' = y0.alloc (.cells #[] 3) := ⟨_, rfl⟩
        rw [← hyy]
        have OE0 : Hid (OwnInts y1 wr.heap.size (.slice (some ⟨y0.heap.size, 0, none⟩) 0 0) []) := by rw [hyy]; exact OwnInts.empty _ _ Yy0.out.size
        have hzy1 : Hid (y1.heap.size = y0.heap.size + 1) := by unfold Hid; rw [hyy]; simp
        have x : Ext y0 y1 := by rw [hyy]; exact (Ext.refl _).alloc _
        have Yy1 := Lib.hid (Yy0.out.trans x); have Sy1 := Lib.hid (K1.out _ Yy1.out)
        clear x hyy
        refine .inl ⟨Sy1.out, ?_⟩
        refine wpAnyH_all (rs := [3, 4]) (by kernel_rfl) (by simp) ?_
        intro i hi
        have hii : i = 3 ∨ i = 4 := by simpa using hi
        clear hi
        rcases hii with rfl | rfl
        · skip
          refine wpOp_append_list rfl rfl (.tmp 53) (.tmp 55) rfl wr.heap.size (.slice (some ⟨y0.heap.size, 0, none⟩) 0 0) (.slice ca2 cs.length cc2) [] cs rfl rfl OE0.out (I1.out.ext Yy1.out) (by have := LC.out; simp; omega) Yy1.out.size ?_
          intro v1 y2 ho hg hl
          replace ho : OwnInts y2 wr.heap.size v1 cs := ho
          obtain ⟨v1a, v1c, rfl⟩ := ho.ints.shape
          have Yy2 := Lib.hid (Yy1.out.grown hg (fun q hq => OE0.out.base q hq)); have Sy2 := Lib.hid (K1.out _ Yy2.out)
          have hzy2 := Lib.hid hg.size
          have O1 := Lib.hid ho; have HL3 := Lib.hid hl
          clear ho hg hl
          refine ⟨Sy2.out, ?_⟩
          refine wpAnyH_all (rs := [4]) (by kernel_rfl) (by simp) ?_
          intro i hi
          replace hi : i = 4 := by simpa using hi
          subst hi
          have HB1 : Hid (∀ k, (Value.slice v1a cs.length v1c).ownBlock = some k → k < y2.heap.size) := fun k hk => own_lt O1.out k hk
          unfold wpOp
          go_simp
          obtain ⟨y3, hyy⟩ : ∃ y', y' = y2.alloc (.cells #[] 3) := ⟨_, rfl⟩
          rw [← hyy]
          have OE4 : Hid (OwnInts y3 wr.heap.size (.slice (some ⟨y2.heap.size, 0, none⟩) 0 0) []) := by rw [hyy]; exact OwnInts.empty _ _ Yy2.out.size
          have hzy3 : Hid (y3.heap.size = y2.heap.size + 1) := by unfold Hid; rw [hyy]; simp
          have x : Ext y2 y3 := by rw [hyy]; exact (Ext.refl _).alloc _
          have Yy3 := Lib.hid (Yy2.out.trans x); have Sy3 := Lib.hid (K1.out _ Yy3.out)
          replace O1 := Lib.hid (O1.out.kept x)
          clear x hyy
          refine .inl ⟨Sy3.out, ?_⟩
          have HNE : Hid (∀ k, (Value.slice v1a cs.length v1c).ownBlock = some k → (Value.slice (some ⟨y2.heap.size, 0, none⟩) 0 0).ownBlock ≠ some k) := by
            intro k hk e
            have := HB1.out k hk
            simp only [Value.ownBlock, Option.some.injEq] at e
            omega
          refine wpAnyH_all (rs := [7]) (by kernel_rfl) (by simp) ?_
          intro i hi
          replace hi : i = 7 := by simpa using hi
          subst hi
          refine wpOp_append_list rfl rfl (.tmp 57) (.tmp 59) rfl wr.heap.size (.slice (some ⟨y2.heap.size, 0, none⟩) 0 0) (.slice wa2 ws.length wc2) [] ws rfl rfl OE4.out (I2.out.ext Yy3.out) (by have := LW.out; simp; omega) Yy3.out.size ?_
          intro v2 y4 ho hg hl
          replace ho : OwnInts y4 wr.heap.size v2 ws := ho
          obtain ⟨v2a, v2c, rfl⟩ := ho.ints.shape
          have Yy4 := Lib.hid (Yy3.out.grown hg (fun q hq => OE4.out.base q hq)); have Sy4 := Lib.hid (K1.out _ Yy4.out)
          have hzy4 := Lib.hid hg.size
          replace O1 := Lib.hid (O1.out.past hg HNE.out)
          have O2 := Lib.hid ho; have HL7 := Lib.hid hl
          clear ho hg hl
          refine ⟨Sy4.out, ?_⟩
          refine wpAnyH_all (rs := [9]) (by kernel_rfl) (by simp) ?_
          intro i hi
          replace hi : i = 9 := by simpa using hi
          subst hi
          unfold wpOp
          go_simp
          refine .inl ((RList_any g2 n _ y4 w2.heap.size (HT.out.ext Yy4.out) (by omega)).mono ?_)
          rintro r y5 ⟨u, rfl, hu, x⟩
          obtain ⟨ua, uc, rfl⟩ := hu.ints.shape
          have hzz := Yy4.out.size
          have Yy5 := Lib.hid (Yy4.out.trans x); have Sy5 := Lib.hid (K1.out _ Yy5.out)
          replace O1 := Lib.hid (O1.out.kept x); replace O2 := Lib.hid (O2.out.kept x)
          have O3 := Lib.hid hu
          clear hu x
          refine ⟨Sy5.out, ?_⟩
          have hR := Yy5.out.block (w.heap.size + 2) (lt_heap HRR.out)
          rw [HRR.out] at hR
          obtain ⟨z0, z1, z2, f0, f1, f2⟩ := block3 hR
          generalize upTo (insT p f p.length) n = I at *
          have HR := Lib.hid (put3_new (x := .slice v1a cs.length v1c) (y := .slice v2a ws.length v2c) (z := .slice ua I.length uc) hR)
          have HF : Hid (SetRes 0 cs ws I w (.returned (.tuple #[.agg #[.slice v1a cs.length v1c, .slice v2a ws.length v2c, .slice ua I.length uc], .int .i64 0])) (put3 y5 (w.heap.size + 2) (.slice v1a cs.length v1c) (.slice v2a ws.length v2c) (.slice ua I.length uc))) :=
            ⟨_, rfl, ⟨_, _, _, rfl, (O1.out.put3 (by omega) _ _ _).mono (by omega), (O2.out.put3 (by omega) _ _ _).mono (by omega), (O3.out.put3 (by omega) _ _ _).mono (by omega)⟩, (HW.out.ext.trans (HXX.out.trans Yy5.out)).put3 (by omega) _ _ _⟩
          have HS2 : Hid ((BoxS1 (w.heap.size + 1) (.slice ca2 cs.length cc2) (.slice wa2 ws.length wc2)) (put3 y5 (w.heap.size + 2) (.slice v1a cs.length v1c) (.slice v2a ws.length v2c) (.slice ua I.length uc))) := by
            obtain ⟨u0, u1⟩ := Sy5.out
            have o0 : ∀ k (x y z : Value), k ≠ w.heap.size + 2 → (put3 y5 (w.heap.size + 2) x y z).heap[k]? = y5.heap[k]? := fun k x y z hk => put3_other k hk
            exact ⟨(World.cell?_of_block (o0 _ _ _ _ (by simp))).trans u0, (World.cell?_of_block (o0 _ _ _ _ (by simp))).trans u1⟩
          clear hR
          refine wpAnyH_all (rs := [10]) (by kernel_rfl) (by simp) ?_
          intro i hi
          replace hi : i = 10 := by simpa using hi
          subst hi
          unfold wpOp
          go_simp
          refine .inl ⟨Sy5.out, ?_⟩
          refine wpAnyH_all (rs := [11]) (by kernel_rfl) (by simp) ?_
          intro i hi
          replace hi : i = 11 := by simpa using hi
          subst hi
          unfold wpOp
          go_simp
          refine .inl ⟨HS2.out, ?_⟩
          refine wpAnyH_all (rs := [12]) (by kernel_rfl) (by simp) ?_
          intro i hi
          replace hi : i = 12 := by simpa using hi
          subst hi
          unfold wpOp
          go_simp
          refine .inl ⟨HS2.out, ?_⟩
          refine wpAnyH_done (by kernel_rfl) ?_ _
          go_wp2_with fail
          exact bodyPost_ret (v := .tuple #[.agg #[.slice v1a cs.length v1c, .slice v2a ws.length v2c, .slice ua I.length uc], .int .i64 0]) (results_row_tmp Tryz.results22 _ _ (w.heap.size + 2) 31 _ (0, 0) _ rfl HR.out Tryz.underlying31 rfl sizeSet) rfl HF.out
        · skip
          unfold wpOp
          go_simp
          obtain ⟨y2, hyy⟩ : ∃ y', y' = y1.alloc (.cells #[] 3) := ⟨_, rfl⟩
          rw [← hyy]
          have OE4 : Hid (OwnInts y2 wr.heap.size (.slice (some ⟨y1.heap.size, 0, none⟩) 0 0) []) := by rw [hyy]; exact OwnInts.empty _ _ Yy1.out.size
          have hzy2 : Hid (y2.heap.size = y1.heap.size + 1) := by unfold Hid; rw [hyy]; simp
          have x : Ext y1 y2 := by rw [hyy]; exact (Ext.refl _).alloc _
          have Yy2 := Lib.hid (Yy1.out.trans x); have Sy2 := Lib.hid (K1.out _ Yy2.out)
          replace OE0 := Lib.hid (OE0.out.kept x)
          clear x hyy
          refine .inl ⟨Sy2.out, ?_⟩
          refine wpAnyH_all (rs := [3]) (by kernel_rfl) (by simp) ?_
          intro i hi
          replace hi : i = 3 := by simpa using hi
          subst hi
          refine wpOp_append_list rfl rfl (.tmp 53) (.tmp 55) rfl wr.heap.size (.slice (some ⟨y0.heap.size, 0, none⟩) 0 0) (.slice ca2 cs.length cc2) [] cs rfl rfl OE0.out (I1.out.ext Yy2.out) (by have := LC.out; simp; omega) Yy2.out.size ?_
          intro v1 y3 ho hg hl
          replace ho : OwnInts y3 wr.heap.size v1 cs := ho
          obtain ⟨v1a, v1c, rfl⟩ := ho.ints.shape
          have Yy3 := Lib.hid (Yy2.out.grown hg (fun q hq => OE0.out.base q hq)); have Sy3 := Lib.hid (K1.out _ Yy3.out)
          have hzy3 := Lib.hid hg.size
          replace OE4 := Lib.hid (OE4.out.past hg (fun k hk e => by have z1 := hzy1.out; have z2 := hzy2.out; simp only [Value.ownBlock, Option.some.injEq] at hk e; omega))
          have O1 := Lib.hid ho; have HL3 := Lib.hid hl
          clear ho hg hl
          refine ⟨Sy3.out, ?_⟩
          have HNE : Hid (∀ k, (Value.slice v1a cs.length v1c).ownBlock = some k → (Value.slice (some ⟨y1.heap.size, 0, none⟩) 0 0).ownBlock ≠ some k) := by
            intro k hk e
            have := HL3.out k hk
            have z1 := hzy1.out; have z2 := hzy2.out
            simp only [Value.ownBlock, Option.some.injEq] at e this
            omega
          refine wpAnyH_all (rs := [7]) (by kernel_rfl) (by simp) ?_
          intro i hi
          replace hi : i = 7 := by simpa using hi
          subst hi
          refine wpOp_append_list rfl rfl (.tmp 57) (.tmp 59) rfl wr.heap.size (.slice (some ⟨y1.heap.size, 0, none⟩) 0 0) (.slice wa2 ws.length wc2) [] ws rfl rfl OE4.out (I2.out.ext Yy3.out) (by have := LW.out; simp; omega) Yy3.out.size ?_
          intro v2 y4 ho hg hl
          replace ho : OwnInts y4 wr.heap.size v2 ws := ho
          obtain ⟨v2a, v2c, rfl⟩ := ho.ints.shape
          have Yy4 := Lib.hid (Yy3.out.grown hg (fun q hq => OE4.out.base q hq)); have Sy4 := Lib.hid (K1.out _ Yy4.out)
          have hzy4 := Lib.hid hg.size
          replace O1 := Lib.hid (O1.out.past hg HNE.out)
          have O2 := Lib.hid ho; have HL7 := Lib.hid hl
          clear ho hg hl
          refine ⟨Sy4.out, ?_⟩
          refine wpAnyH_all (rs := [9]) (by kernel_rfl) (by simp) ?_
          intro i hi
          replace hi : i = 9 := by simpa using hi
          subst hi
          unfold wpOp
          go_simp
          refine .inl ((RList_any g2 n _ y4 w2.heap.size (HT.out.ext Yy4.out) (by omega)).mono ?_)
          rintro r y5 ⟨u, rfl, hu, x⟩
          obtain ⟨ua, uc, rfl⟩ := hu.ints.shape
          have hzz := Yy4.out.size
          have Yy5 := Lib.hid (Yy4.out.trans x); have Sy5 := Lib.hid (K1.out _ Yy5.out)
          replace O1 := Lib.hid (O1.out.kept x); replace O2 := Lib.hid (O2.out.kept x)
          have O3 := Lib.hid hu
          clear hu x
          refine ⟨Sy5.out, ?_⟩
          have hR := Yy5.out.block (w.heap.size + 2) (lt_heap HRR.out)
          rw [HRR.out] at hR
          obtain ⟨z0, z1, z2, f0, f1, f2⟩ := block3 hR
          generalize upTo (insT p f p.length) n = I at *
          have HR := Lib.hid (put3_new (x := .slice v1a cs.length v1c) (y := .slice v2a ws.length v2c) (z := .slice ua I.length uc) hR)
          have HF : Hid (SetRes 0 cs ws I w (.returned (.tuple #[.agg #[.slice v1a cs.length v1c, .slice v2a ws.length v2c, .slice ua I.length uc], .int .i64 0])) (put3 y5 (w.heap.size + 2) (.slice v1a cs.length v1c) (.slice v2a ws.length v2c) (.slice ua I.length uc))) :=
            ⟨_, rfl, ⟨_, _, _, rfl, (O1.out.put3 (by omega) _ _ _).mono (by omega), (O2.out.put3 (by omega) _ _ _).mono (by omega), (O3.out.put3 (by omega) _ _ _).mono (by omega)⟩, (HW.out.ext.trans (HXX.out.trans Yy5.out)).put3 (by omega) _ _ _⟩
          have HS2 : Hid ((BoxS1 (w.heap.size + 1) (.slice ca2 cs.length cc2) (.slice wa2 ws.length wc2)) (put3 y5 (w.heap.size + 2) (.slice v1a cs.length v1c) (.slice v2a ws.length v2c) (.slice ua I.length uc))) := by
            obtain ⟨u0, u1⟩ := Sy5.out
            have o0 : ∀ k (x y z : Value), k ≠ w.heap.size + 2 → (put3 y5 (w.heap.size + 2) x y z).heap[k]? = y5.heap[k]? := fun k x y z hk => put3_other k hk
            exact ⟨(World.cell?_of_block (o0 _ _ _ _ (by simp))).trans u0, (World.cell?_of_block (o0 _ _ _ _ (by simp))).trans u1⟩
          clear hR
          refine wpAnyH_all (rs := [10]) (by kernel_rfl) (by simp) ?_
          intro i hi
          replace hi : i = 10 := by simpa using hi
          subst hi
          unfold wpOp
          go_simp
          refine .inl ⟨Sy5.out, ?_⟩
          refine wpAnyH_all (rs := [11]) (by kernel_rfl) (by simp) ?_
          intro i hi
          replace hi : i = 11 := by simpa using hi
          subst hi
          unfold wpOp
          go_simp
          refine .inl ⟨HS2.out, ?_⟩
          refine wpAnyH_all (rs := [12]) (by kernel_rfl) (by simp) ?_
          intro i hi
          replace hi : i = 12 := by simpa using hi
          subst hi
          unfold wpOp
          go_simp
          refine .inl ⟨HS2.out, ?_⟩
          refine wpAnyH_done (by kernel_rfl) ?_ _
          go_wp2_with fail
          exact bodyPost_ret (v := .tuple #[.agg #[.slice v1a cs.length v1c, .slice v2a ws.length v2c, .slice ua I.length uc], .int .i64 0]) (results_row_tmp Tryz.results22 _ _ (w.heap.size + 2) 31 _ (0, 0) _ rfl HR.out Tryz.underlying31 rfl sizeSet) rfl HF.out
      · skip
        unfold wpOp
        go_simp
        obtain ⟨y1, hyy⟩ : ∃ y', y' = y0.alloc (.cells #[] 3) := ⟨_, rfl⟩
        rw [← hyy]
        have OE4 : Hid (OwnInts y1 wr.heap.size (.slice (some ⟨y0.heap.size, 0, none⟩) 0 0) []) := by rw [hyy]; exact OwnInts.empty _ _ Yy0.out.size
        have hzy1 : Hid (y1.heap.size = y0.heap.size + 1) := by unfold Hid; rw [hyy]; simp
        have x : Ext y0 y1 := by rw [hyy]; exact (Ext.refl _).alloc _
        have Yy1 := Lib.hid (Yy0.out.trans x); have Sy1 := Lib.hid (K1.out _ Yy1.out)
        clear x hyy
        refine .inl ⟨Sy1.out, ?_⟩
        refine wpAnyH_all (rs := [0]) (by kernel_rfl) (by simp) ?_
        intro i hi
        replace hi : i = 0 := by simpa using hi
        subst hi
        unfold wpOp
        go_simp
        obtain ⟨y2, hyy⟩ : ∃ y', y' = y1.alloc (.cells #[] 3) := ⟨_, rfl⟩
        rw [← hyy]
        have OE0 : Hid (OwnInts y2 wr.heap.size (.slice (some ⟨y1.heap.size, 0, none⟩) 0 0) []) := by rw [hyy]; exact OwnInts.empty _ _ Yy1.out.size
        have hzy2 : Hid (y2.heap.size = y1.heap.size + 1) := by unfold Hid; rw [hyy]; simp
        have x : Ext y1 y2 := by rw [hyy]; exact (Ext.refl _).alloc _
        have Yy2 := Lib.hid (Yy1.out.trans x); have Sy2 := Lib.hid (K1.out _ Yy2.out)
        replace OE4 := Lib.hid (OE4.out.kept x)
        clear x hyy
        refine .inl ⟨Sy2.out, ?_⟩
        refine wpAnyH_all (rs := [3]) (by kernel_rfl) (by simp) ?_
        intro i hi
        replace hi : i = 3 := by simpa using hi
        subst hi
        refine wpOp_append_list rfl rfl (.tmp 53) (.tmp 55) rfl wr.heap.size (.slice (some ⟨y1.heap.size, 0, none⟩) 0 0) (.slice ca2 cs.length cc2) [] cs rfl rfl OE0.out (I1.out.ext Yy2.out) (by have := LC.out; simp; omega) Yy2.out.size ?_
        intro v1 y3 ho hg hl
        replace ho : OwnInts y3 wr.heap.size v1 cs := ho
        obtain ⟨v1a, v1c, rfl⟩ := ho.ints.shape
        have Yy3 := Lib.hid (Yy2.out.grown hg (fun q hq => OE0.out.base q hq)); have Sy3 := Lib.hid (K1.out _ Yy3.out)
        have hzy3 := Lib.hid hg.size
        replace OE4 := Lib.hid (OE4.out.past hg (fun k hk e => by have z1 := hzy1.out; have z2 := hzy2.out; simp only [Value.ownBlock, Option.some.injEq] at hk e; omega))
        have O1 := Lib.hid ho; have HL3 := Lib.hid hl
        clear ho hg hl
        refine ⟨Sy3.out, ?_⟩
        have HNE : Hid (∀ k, (Value.slice v1a cs.length v1c).ownBlock = some k → (Value.slice (some ⟨y0.heap.size, 0, none⟩) 0 0).ownBlock ≠ some k) := by
          intro k hk e
          have := HL3.out k hk
          have z1 := hzy1.out; have z2 := hzy2.out
          simp only [Value.ownBlock, Option.some.injEq] at e this
          omega
        refine wpAnyH_all (rs := [7]) (by kernel_rfl) (by simp) ?_
        intro i hi
        replace hi : i = 7 := by simpa using hi
        subst hi
        refine wpOp_append_list rfl rfl (.tmp 57) (.tmp 59) rfl wr.heap.size (.slice (some ⟨y0.heap.size, 0, none⟩) 0 0) (.slice wa2 ws.length wc2) [] ws rfl rfl OE4.out (I2.out.ext Yy3.out) (by have := LW.out; simp; omega) Yy3.out.size ?_
        intro v2 y4 ho hg hl
        replace ho : OwnInts y4 wr.heap.size v2 ws := ho
        obtain ⟨v2a, v2c, rfl⟩ := ho.ints.shape
        have Yy4 := Lib.hid (Yy3.out.grown hg (fun q hq => OE4.out.base q hq)); have Sy4 := Lib.hid (K1.out _ Yy4.out)
        have hzy4 := Lib.hid hg.size
        replace O1 := Lib.hid (O1.out.past hg HNE.out)
        have O2 := Lib.hid ho; have HL7 := Lib.hid hl
        clear ho hg hl
        refine ⟨Sy4.out, ?_⟩
        refine wpAnyH_all (rs := [9]) (by kernel_rfl) (by simp) ?_
        intro i hi
        replace hi : i = 9 := by simpa using hi
        subst hi
        unfold wpOp
        go_simp
        refine .inl ((RList_any g2 n _ y4 w2.heap.size (HT.out.ext Yy4.out) (by omega)).mono ?_)
        rintro r y5 ⟨u, rfl, hu, x⟩
        obtain ⟨ua, uc, rfl⟩ := hu.ints.shape
        have hzz := Yy4.out.size
        have Yy5 := Lib.hid (Yy4.out.trans x); have Sy5 := Lib.hid (K1.out _ Yy5.out)
        replace O1 := Lib.hid (O1.out.kept x); replace O2 := Lib.hid (O2.out.kept x)
        have O3 := Lib.hid hu
        clear hu x
        refine ⟨Sy5.out, ?_⟩
        have hR := Yy5.out.block (w.heap.size + 2) (lt_heap HRR.out)
        rw [HRR.out] at hR
        obtain ⟨z0, z1, z2, f0, f1, f2⟩ := block3 hR
        generalize upTo (insT p f p.length) n = I at *
        have HR := Lib.hid (put3_new (x := .slice v1a cs.length v1c) (y := .slice v2a ws.length v2c) (z := .slice ua I.length uc) hR)
        have HF : Hid (SetRes 0 cs ws I w (.returned (.tuple #[.agg #[.slice v1a cs.length v1c, .slice v2a ws.length v2c, .slice ua I.length uc], .int .i64 0])) (put3 y5 (w.heap.size + 2) (.slice v1a cs.length v1c) (.slice v2a ws.length v2c) (.slice ua I.length uc))) :=
          ⟨_, rfl, ⟨_, _, _, rfl, (O1.out.put3 (by omega) _ _ _).mono (by omega), (O2.out.put3 (by omega) _ _ _).mono (by omega), (O3.out.put3 (by omega) _ _ _).mono (by omega)⟩, (HW.out.ext.trans (HXX.out.trans Yy5.out)).put3 (by omega) _ _ _⟩
        have HS2 : Hid ((BoxS1 (w.heap.size + 1) (.slice ca2 cs.length cc2) (.slice wa2 ws.length wc2)) (put3 y5 (w.heap.size + 2) (.slice v1a cs.length v1c) (.slice v2a ws.length v2c) (.slice ua I.length uc))) := by
          obtain ⟨u0, u1⟩ := Sy5.out
          have o0 : ∀ k (x y z : Value), k ≠ w.heap.size + 2 → (put3 y5 (w.heap.size + 2) x y z).heap[k]? = y5.heap[k]? := fun k x y z hk => put3_other k hk
          exact ⟨(World.cell?_of_block (o0 _ _ _ _ (by simp))).trans u0, (World.cell?_of_block (o0 _ _ _ _ (by simp))).trans u1⟩
        clear hR
        refine wpAnyH_all (rs := [10]) (by kernel_rfl) (by simp) ?_
        intro i hi
        replace hi : i = 10 := by simpa using hi
        subst hi
        unfold wpOp
        go_simp
        refine .inl ⟨Sy5.out, ?_⟩
        refine wpAnyH_all (rs := [11]) (by kernel_rfl) (by simp) ?_
        intro i hi
        replace hi : i = 11 := by simpa using hi
        subst hi
        unfold wpOp
        go_simp
        refine .inl ⟨HS2.out, ?_⟩
        refine wpAnyH_all (rs := [12]) (by kernel_rfl) (by simp) ?_
        intro i hi
        replace hi : i = 12 := by simpa using hi
        subst hi
        unfold wpOp
        go_simp
        refine .inl ⟨HS2.out, ?_⟩
        refine wpAnyH_done (by kernel_rfl) ?_ _
        go_wp2_with fail
        exact bodyPost_ret (v := .tuple #[.agg #[.slice v1a cs.length v1c, .slice v2a ws.length v2c, .slice ua I.length uc], .int .i64 0]) (results_row_tmp Tryz.results22 _ _ (w.heap.size + 2) 31 _ (0, 0) _ rfl HR.out Tryz.underlying31 rfl sizeSet) rfl HF.out
end Go.Proofs.YtlnahhlddekhoaaGreatDoor
