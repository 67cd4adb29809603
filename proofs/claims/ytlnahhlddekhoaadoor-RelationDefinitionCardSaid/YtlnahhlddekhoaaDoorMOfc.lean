/-
  The walks of slices.Grow at nil, slices.Concat of two lists.
  A slice of ints appended whole; slices.Concat of two lists.
-/
import Derived.Test.YtlnahhlddekhoaaDoorMOfb
import Derived.Lib.AppendZerosOnto
import Derived.Lib.Walk
namespace Go.Proofs.YtlnahhlddekhoaaDoor
open Go.RowKit

set_option maxRecDepth 100000 in
set_option maxHeartbeats 1000000 in
theorem Grow_any (n : Nat) (hn : n ≤ 1000000) (w : World) : Calls Tryd.prog 87 #[.slice none 0 0, .int .i64 n] w fun r w' => ∃ v, r = .returned v ∧ OwnInts w' w.heap.size v [] ∧ Ext w w' := by
  rcases Nat.eq_zero_or_pos n with h0 | h0
  · subst h0
    go_enter Tryd.func87, Tryd.ntmps87
    go_wp2_with fail
    go_ret
    exact ⟨_, rfl, OwnInts.nil _ _, Ext.refl _⟩
  · obtain ⟨i0, hi, hz0, hz1, hz2⟩ := info_parts infoInt
    have hrz : ∀ ty, (Builtin.append_ #[22, 3] ty #[.slice none 0 0, .int .i64 n]).run Tryd.prog w = .ok (.slice (some ⟨w.heap.size, 0, none⟩) n (grownCap w n 0 3)) (w.drew.alloc (.cells (([] : List Value).toArray ++ Builtin.zeroCells (Value.int .i64 0).cells n ++ Builtin.zeroCells (Value.int .i64 0).cells (grownCap w n 0 3 - n)) 3)) := fun ty => by
      have h := Lib.run_append_grow_zeros w 22 3 ty 3 i0 (.int .i64 0) .i64 .i64 Tryd.underlying22 Tryd.underlying3 hi hz0 none 0 0 [] (run_firstCells_none _ _ _ _ _) n h0 (by omega) (by omega) (by omega) (by rw [hz2]; omega) (by rw [hz2]; exact growslice_fits (by omega) (by omega))
      simpa using h
    have hG := grownCap_ge w n 0 3
    have hG2 := grownCap_le_maxLen w n 0 3 (by unfold maxLen; omega)
    generalize grownCap w n 0 3 = G at *
    have hsz : (([] : List Value).toArray ++ Builtin.zeroCells (Value.int .i64 0).cells n ++ Builtin.zeroCells (Value.int .i64 0).cells (G - n)).size = G := by
      simp [Builtin.zeroCells, Value.cells]; omega
    have HZ := Lib.hid hsz; have HRZ := Lib.hid hrz
    generalize (([] : List Value).toArray ++ Builtin.zeroCells (Value.int .i64 0).cells n ++ Builtin.zeroCells (Value.int .i64 0).cells (G - n)) = Z at *
    clear hsz hrz
    have hgm : G ≤ 9223372036854775807 := by unfold maxLen at hG2; omega
    have HG2 := Lib.hid hG2
    clear hG2
    go_enter Tryd.func87, Tryd.ntmps87
    go_wp2_with (at_builtin; refine Lib.wpList_append_run _ rfl _ _ _ _ rfl _ _ rfl rfl _ _ (HRZ.out _) ?_)
    go_ret
    exact ⟨_, rfl, ⟨rfl, .inr ⟨w.heap.size, G, Z, rfl, Nat.le_refl _, heap_new _ _, Nat.zero_le _, HG2.out, by rw [HZ.out]; omega, rfl⟩⟩, (Ext.refl w).drew.alloc _⟩
end Go.Proofs.YtlnahhlddekhoaaDoor
namespace Go.Proofs.YtlnahhlddekhoaaDoor
open Go.RowKit

/-- Nothing appended. -/
theorem append_nothing {w : World} {base : Nat} {v : Value} {l : List Int} (h : OwnInts w base v l) (ty : TypeId) (c : Nat) : (Builtin.append_ #[22, 22] ty #[v, .slice none 0 c]).run Tryd.prog w = .ok v w := by
  obtain ⟨i0, hi, hz0, hz1, hz2⟩ := info_parts infoInt
  have hu : Tryd.prog.underlying 22 = some (.slice 3) := Tryd.underlying22
  rcases h.2 with ⟨rfl, _⟩ | ⟨g, cap, cur, rfl, _, _, hn, _⟩
  · simp [Builtin.append_, run_underlying hu, sizeOf, typeInfo, hi, Builtin.lenOf, Builtin.firstCells]
  · simp [Builtin.append_, run_underlying hu, sizeOf, typeInfo, hi, Builtin.lenOf, Builtin.firstCells, hn, storeCells]
theorem wpList_append_list {ops : Array Oper} {rest : List Oper} {o : Oper} {a : Act} {w : World} {Q : Exit → Act → World → Prop} (hgd : o.guard = none) (s x : Operand)
    (ho : o.op = .call { callee := .builtin .append, args := #[s, x], argTypes := #[22, 22] }) (base : Nat) (v src : Value) (l l2 : List Int)
    (hs : a.eval s = v) (hx : a.eval x = src) (hown : OwnInts w base v l) (hsrc : Ints w src l2) (hl : l.length + l2.length ≤ 1000000000) (hb : base ≤ w.heap.size)
    (h : ∀ v' w', OwnInts w' base v' (l ++ l2) → w.grownBy w' v.ownBlock → wpList Tryd.prog ops Q rest (a.put o.dst v') w') : wpList Tryd.prog ops Q (o :: rest) a w := by
  obtain ⟨i0, hi, hz0, hz1, hz2⟩ := info_parts infoInt
  have key : ∀ (ad : Addr) (c : Nat), src = .slice (some ad) l2.length c → (∀ j u, (l2.map (Value.int .i64))[j]? = some u → w.cell? (ad.add j) = some u) → wpList Tryd.prog ops Q (o :: rest) a w := fun ad c he hn =>
    wpList_append_own _ hgd s x 22 ho base 3 i0 (.int .i64 0) 1 8 Tryd.underlying22 hi hz0 hz1 hz2 rfl (by decide) v l.length (l.map (Value.int .i64)) hs hown ad l2.length c (l2.map (Value.int .i64)) (hx.trans he) (by simp) hn
      (fun u hu => by obtain ⟨y, _, rfl⟩ := List.mem_map.1 hu; rfl) (by unfold maxLen; omega) (by omega) hb fun v' w' h1 h2 _ => h v' w' (by simpa [OwnInts] using h1) h2
  rcases hsrc with ⟨⟨A, c, rfl⟩, rfl⟩ | ⟨b, of, cap, rfl, hm, hc⟩
  · cases A with
    | some ad => exact key ad c rfl (fun j u hu => by simp at hu)
    | none =>
      refine wpList_plain hgd fun K hK => ?_
      unfold Oper.wp execOp
      simp only [ho, resolve, invoke, builtin, Sem.run_bind, Sem.run_pure, Result.andThen_ok, List.map_toArray, List.map_cons, List.map_nil, hs, hx, append_nothing hown]
      exact hK _ _ (h v w (by simpa using hown) (World.grownBy.refl w _))
  · refine key ⟨b, of, none⟩ cap rfl fun j u hu => ?_
    have hj : j < l2.length := by
      have := (List.getElem?_eq_some_iff.1 hu).1; simpa using this
    have hadd : (⟨b, of, none⟩ : Addr).add j = ⟨b, of + j, none⟩ := by unfold Addr.add; split <;> simp_all
    have := hc j hj
    rw [Nat.mul_one] at this
    rw [hadd]
    have e : u = .int .i64 l2[j] := by simpa [hj] using hu.symm
    rw [e]; exact this

/-- What has come of two lists. -/
def twoTo (l1 l2 : List Int) (k : Nat) : List Int := if k = 0 then [] else if k = 1 then l1 else l1 ++ l2
set_option maxRecDepth 100000 in
set_option maxHeartbeats 2000000 in
theorem Concat_any (l1 l2 : List Int) (b : Nat) (a1 a2 : Option Addr) (c1 c2 : Nat) (w : World) (g0 : w.cell? ⟨b, 0, none⟩ = some (.slice a1 l1.length c1)) (g1 : w.cell? ⟨b, 1, none⟩ = some (.slice a2 l2.length c2)) (h1 : Ints w (.slice a1 l1.length c1) l1) (h2 : Ints w (.slice a2 l2.length c2) l2) (k1 : l1.length ≤ 1000) (k2 : l2.length ≤ 1000) :
    Calls Tryd.prog 66 #[.slice (some ⟨b, 0, none⟩) 2 2] w fun r w' => ∃ v, r = .returned v ∧ OwnInts w' w.heap.size v (l1 ++ l2) ∧ Ext w w' := by
  have H1 := Lib.hid h1; have H2 := Lib.hid h2
  clear h1 h2
  go_enter Tryd.func66, Tryd.ntmps66
  go_wp2_with fail
  go_loop [3, 11] (fun z i => ∃ k : Nat, k ≤ 2 ∧ i = .int .i64 k ∧ z = .int .i64 ((twoTo l1 l2 k).length : Nat)) (fun _ i => 2 - (intOf i).toNat)
  case atStart => exact ⟨0, by omega, rfl, rfl⟩
  case round =>
    obtain ⟨k, hk, rfl, rfl⟩ := hrel
    have hcase : k = 0 ∨ k = 1 ∨ k = 2 := by omega
    rcases hcase with rfl | rfl | rfl
    · have e0 : (twoTo l1 l2 0).length = 0 := rfl
      have E1 : Hid ((twoTo l1 l2 1).length = l1.length) := rfl
      rw [e0]
      go_wp2_with fail
      exact ⟨⟨1, by omega, rfl, by rw [E1.out]⟩, by simp [intOf]⟩
    · have e0 : (twoTo l1 l2 1).length = l1.length := rfl
      have E1 : Hid ((twoTo l1 l2 2).length = l1.length + l2.length) := by unfold Hid; simp [twoTo]
      rw [e0]
      go_wp2_with fail
      exact ⟨⟨2, by omega, rfl, by rw [E1.out]; go_num⟩, by simp [intOf]⟩
    · have E1 : (twoTo l1 l2 2).length = l1.length + l2.length := by simp [twoTo]
      rw [E1]
      clear E1
      go_wp2_with fail
      have hgr := Grow_any (l1.length + l2.length) (by omega) w
      rw [show ((l1.length + l2.length : Nat) : Int) = (l1.length : Int) + (l2.length : Int) by omega] at hgr
      refine hgr.mono ?_
      clear hgr
      rintro r w1 ⟨v, rfl, hv, x1⟩
      obtain ⟨va, vcp, rfl⟩ := hv.ints.shape
      have HV := Lib.hid hv; have X1 := Lib.hid x1
      clear hv x1
      go_wp2_with fail
      go_loopw [6, 27] (fun v i wr => ∃ k : Nat, k ≤ 2 ∧ i = .int .i64 k ∧ Ext w wr ∧ OwnInts wr w.heap.size v (twoTo l1 l2 k)) (fun _ i _ => 2 - (intOf i).toNat)
      case atStart => exact ⟨0, by omega, rfl, X1.out, HV.out⟩
      case round =>
        obtain ⟨k, hk, rfl, hX, hO⟩ := hrel
        have HX := Lib.hid hX; have HO := Lib.hid hO
        clear hX hO
        have d0 := HX.out.cell g0; have d1 := HX.out.cell g1
        have hz : w.heap.size ≤ wr.heap.size := HX.out.size
        have hcase : k = 0 ∨ k = 1 ∨ k = 2 := by omega
        rcases hcase with rfl | rfl | rfl
        · have E0 : Hid (twoTo l1 l2 0 = []) := rfl
          have E1 : Hid (twoTo l1 l2 1 = [] ++ l1) := rfl
          rw [E0.out] at HO
          have I1 := Lib.hid (H1.out.ext HX.out)
          go_wp2_with (at_builtin; refine wpList_append_list rfl (.tmp 31) (.tmp 32) rfl w.heap.size _ _ _ l1 rfl rfl HO.out I1.out (by simp; omega) hz ?_)
          intro v' w' hown' hg
          have hx' : Ext w w' := HX.out.grown hg (fun q hq => HO.out.base q hq)
          have HO' := Lib.hid hown'; have HX' := Lib.hid hx'
          clear hown' hx' hg
          go_wp2_with fail
          exact ⟨⟨1, by omega, rfl, HX'.out, by rw [E1.out]; exact HO'.out⟩, by simp [intOf]⟩
        · have E0 : Hid (twoTo l1 l2 1 = l1) := rfl
          have E1 : Hid (twoTo l1 l2 2 = l1 ++ l2) := rfl
          rw [E0.out] at HO
          have I1 := Lib.hid (H2.out.ext HX.out)
          go_wp2_with (at_builtin; refine wpList_append_list rfl (.tmp 31) (.tmp 32) rfl w.heap.size _ _ _ l2 rfl rfl HO.out I1.out (by omega) hz ?_)
          intro v' w' hown' hg
          have hx' : Ext w w' := HX.out.grown hg (fun q hq => HO.out.base q hq)
          have HO' := Lib.hid hown'; have HX' := Lib.hid hx'
          clear hown' hx' hg
          go_wp2_with fail
          exact ⟨⟨2, by omega, rfl, HX'.out, by rw [E1.out]; exact HO'.out⟩, by simp [intOf]⟩
        · have E0 : Hid (twoTo l1 l2 2 = l1 ++ l2) := rfl
          rw [E0.out] at HO
          go_wp2_with fail
          go_ret
          exact ⟨_, rfl, HO.out, HX.out⟩
end Go.Proofs.YtlnahhlddekhoaaDoor
