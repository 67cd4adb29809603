/-
  Ints appended to slices of the call's own: where the row lies; in a region that draws its order.
  The walks of slices.Grow at nil, slices.Concat of two lists; a slice of ints appended whole (the same as Of6, Of7, without the relations).
  Plain laws of compaction: a row in order, compacted, holds every element once.
  The walks of decide.union and decide.support.
  The references' Occur, Small, Formed, Parts of conditions.
  Reading: the runes of a text in memory; the walks of peek and accept.
-/
import Derived.Test.YtlcgbdjmlnjhcaaGreatDoorG10
import Derived.Test.YtlcgbdjmlnjhcaaGreatDoorG02
import Derived.Laws.Rows
import Derived.Deep.AppendLies
import Derived.Deep.RegionHeld3
import Derived.Deep.OwnRows
import Derived.Lib.Walk
import Derived.Lib.AppendZerosOnto
import Derived.Lib.RowBridge
import Derived.Test.YtlcgbdjmlnjhcaaGreatDoorProg
import Derived.Test.YtlcgbdjmlnjhcaaGreatDoorG23
import Derived.Test.YtlcgbdjmlnjhcaaGreatDoorG01
import Derived.Test.YtlcgbdjmlnjhcaaGreatDoorG09
import Derived.Lib.OwnBridge
import Derived.Sort.OwnSortedInts
import Derived.Test.YtlcgbdjmlnjhcaaGreatDoorG08
import Derived.Laws.AppendOwn
namespace Go.Proofs.YtlcgbdjmlnjhcaaGreatDoor
open Go.RowKit Go.Shelf
attribute [local go_sem] Oper.semAt_some

theorem OwnInts.keep {w w' : World} {base : Nat} {v : Value} {l : List Int} (h : OwnInts w base v l) (hk : ∀ k, v.ownBlock = some k → w'.heap[k]? = w.heap[k]?) : OwnInts w' base v l := by
  obtain ⟨h1, h2⟩ := h
  refine ⟨h1, ?_⟩
  rcases h2 with h2 | ⟨g, cap, cur, hv, hg, hh, r⟩
  · exact .inl h2
  · exact .inr ⟨g, cap, cur, hv, hg, by rw [hk g (by rw [hv]; rfl)]; exact hh, r⟩
theorem OwnInts.typedB {w : World} {base : Nat} {v : Value} {l : List Int} (h : OwnInts w base v l) (k : Nat) (hk : v.ownBlock = some k) : ∃ cs, w.heap[k]? = some (.cells cs 3 (0, 0)) := by
  rcases h.2 with ⟨rfl, _⟩ | ⟨g, cap, cur, rfl, hg, hh, _⟩
  · cases hk
  · cases hk; exact ⟨_, hh⟩
theorem grown_alloc {W W' : World} {o : Obj} {row : Option Nat} (h : (W.alloc o).grownBy W' row) : W.grownBy W' row :=
  ⟨h.os, h.tape, h.output, by have := h.size; simp at this; omega, fun k hk hne => (h.block k (by simp; omega) hne).trans (Below.heap_alloc W _ k hk)⟩
/-- An int appended: where the row lies is said too. -/
theorem wpList_append_intL {ops : Array Oper} {rest : List Oper} {o : Oper} {a : Act} {Q : Exit → Act → World → Prop} (hgd : o.guard = none) (s x : Operand)
    (ho : o.op = .call { callee := .builtin .append, args := #[s, x], argTypes := #[35, 35] }) (base : Nat) (wr : World) (v : Value) (l : List Int) (n : Int)
    (hs : a.eval s = v) (hx : a.eval x = .slice (some ⟨wr.heap.size, 0, none⟩) 1 1) (hown : OwnInts wr base v l) (hl : l.length ≤ 1000000000) (hb : base ≤ wr.heap.size)
    (h : ∀ g cap w', OwnInts w' base (.slice (some ⟨g, 0, none⟩) (l.length + 1) cap) (l ++ [n]) → wr.grownBy w' v.ownBlock → (v.ownBlock = some g ∨ g = wr.heap.size + 1) → wpList Tryz.prog ops Q rest (a.put o.dst (.slice (some ⟨g, 0, none⟩) (l.length + 1) cap)) w') : wpList Tryz.prog ops Q (o :: rest) a (wr.alloc (.cells #[.int .i64 n] 3)) := by
  obtain ⟨i0, hi, hz0, hz1, hz2⟩ := info_parts infoInt
  refine wpList_plain hgd fun K hK => ?_
  refine wp_append_lies _ s x 35 ho base 3 i0 (.int .i64 0) 1 8 Tryz.underlying35 hi hz0 hz1 hz2 rfl (by decide) v l.length (l.map (Value.int .i64)) hs (hown.kept ((Ext.refl wr).alloc _)) ⟨wr.heap.size, 0, none⟩ 1 1 [.int .i64 n] hx rfl (cell_one_new _ _ _) (fun u hu => by simp at hu; subst hu; rfl) (by decide) ?_ ?_ ?_ (wr.heap.size + 1) (by simp) ?_
  · unfold maxLen; omega
  · omega
  · simp; omega
  · intro g cap w' h1 h2 h3 _
    exact hK _ _ (h g cap w' (by simpa [OwnInts] using h1) (grown_alloc h2) h3)

/-- The same, and where the row lies. -/
theorem step_append_intL {ops : Array Oper} {o : Oper} {a : Act} {K : Act → World → Prop} {Q : Exit → Act → World → Prop} {E' : Prop} (hgd : o.guard = none) (s x : Operand)
    (ho : o.op = .call { callee := .builtin .append, args := #[s, x], argTypes := #[35, 35] }) (base : Nat) (wr : World) (H : Nat) (hH : wr.heap.size = H) (v : Value) (l : List Int) (n : Int)
    (hs : a.eval s = v) (hx' : a.eval x = .slice (some ⟨H, 0, none⟩) 1 1) (hown : OwnInts wr base v l) (hl : l.length ≤ 1000000000) (hb : base ≤ wr.heap.size)
    (h : ∀ g cap w', OwnInts w' base (.slice (some ⟨g, 0, none⟩) (l.length + 1) cap) (l ++ [n]) → wr.grownBy w' v.ownBlock → (v.ownBlock = some g ∨ g = wr.heap.size + 1) → K (a.put o.dst (.slice (some ⟨g, 0, none⟩) (l.length + 1) cap)) w') :
    if Region.wanted o (yielded ops a.tmps) = true then Oper.wp Tryz.prog o a (wr.alloc (.cells #[.int .i64 n] 3)) K Q else E' := by
  obtain ⟨i0, hi, hz0, hz1, hz2⟩ := info_parts infoInt
  have hx : a.eval x = .slice (some ⟨wr.heap.size, 0, none⟩) 1 1 := by rw [hH]; exact hx'
  refine step_append_lies _ hgd s x 35 ho base 3 i0 (.int .i64 0) 1 8 Tryz.underlying35 hi hz0 hz1 hz2 rfl (by decide) v l.length (l.map (Value.int .i64)) hs (hown.kept ((Ext.refl wr).alloc _)) ⟨wr.heap.size, 0, none⟩ 1 1 [.int .i64 n] hx rfl (cell_one_new _ _ _) (fun u hu => by simp at hu; subst hu; rfl) (by decide) ?_ ?_ ?_ (wr.heap.size + 1) (by simp) ?_
  · unfold maxLen; omega
  · omega
  · simp; omega
  · intro g cap w' h1 h2 h3 _
    refine h g cap w' (by simpa [OwnInts] using h1) ⟨h2.os, h2.tape, h2.output, by have := h2.size; simp at this; omega, fun k hk hne => by rw [h2.block k (by simp; omega) hne]; exact Below.heap_alloc wr _ k hk⟩ h3
/-- Only the normal end is wanted: a post that no panic meets, by reduction alone. -/
def onlyNormal (Q : Exit → Act → World → Prop) : Exit → Act → World → Prop
  | .normal => Q .normal
  | _ => fun _ _ => False
theorem wp_normal2 {P : Program} {c : Code} {Q : Exit → Act → World → Prop} {a : Act} {w : World} (h : c.wp P (onlyNormal Q) a w) : c.wp P Q a w := by
  refine wp_mono h ?_
  intro e a' w' hq
  cases e <;> first | exact hq | exact hq.elim
end Go.Proofs.YtlcgbdjmlnjhcaaGreatDoor
namespace Go.Proofs.YtlcgbdjmlnjhcaaGreatDoor
open Go.RowKit

set_option maxRecDepth 100000 in
set_option maxHeartbeats 1000000 in
theorem Grow_any (n : Nat) (hn : n ≤ 1000000) (w : World) : Calls Tryz.prog 111 #[.slice none 0 0, .int .i64 n] w fun r w' => ∃ v, r = .returned v ∧ OwnInts w' w.heap.size v [] ∧ Ext w w' := by
  rcases Nat.eq_zero_or_pos n with h0 | h0
  · subst h0
    go_enter Tryz.func111, Tryz.ntmps111
    go_wp2_with fail
    go_ret
    exact ⟨_, rfl, OwnInts.nil _ _, Ext.refl _⟩
  · obtain ⟨i0, hi, hz0, hz1, hz2⟩ := info_parts infoInt
    have hrz : ∀ ty, (Builtin.append_ #[35, 3] ty #[.slice none 0 0, .int .i64 n]).run Tryz.prog w = .ok (.slice (some ⟨w.heap.size, 0, none⟩) n (grownCap w n 0 3)) (w.drew.alloc (.cells (([] : List Value).toArray ++ Builtin.zeroCells (Value.int .i64 0).cells n ++ Builtin.zeroCells (Value.int .i64 0).cells (grownCap w n 0 3 - n)) 3)) := fun ty => by
      have h := Lib.run_append_grow_zeros w 35 3 ty 3 i0 (.int .i64 0) .i64 .i64 Tryz.underlying35 Tryz.underlying3 hi hz0 none 0 0 [] (run_firstCells_none _ _ _ _ _) n h0 (by omega) (by omega) (by omega) (by rw [hz2]; omega) (by rw [hz2]; exact growslice_fits (by omega) (by omega))
      simpa using h
    have hG := grownCap_ge w n 0 3
    have hG2 := grownCap_le_maxLen w n 0 3 (by unfold maxLen; omega)
    generalize grownCap w n 0 3 = G at *
    have hsz : (([] : List Value).toArray ++ Builtin.zeroCells (Value.int .i64 0).cells n ++ Builtin.zeroCells (Value.int .i64 0).cells (G - n)).size = G := by
      simp [Builtin.zeroCells, Value.cells]; omega
    have HZ := Lib.hid hsz; have HRZ := Lib.hid hrz
    generalize (([] : List Value).toArray ++ Builtin.zeroCells (Value.int .i64 0).cells n ++ Builtin.zeroCells (Value.int .i64 0).cells (G - n)) = Z at *
    clear hsz hrz
    have hgm : G ≤ 9223372036854775807 := by unfold maxLen at hG2; omega
    have HG2 := Lib.hid hG2
    clear hG2
    go_enter Tryz.func111, Tryz.ntmps111
    go_wp2_with (at_builtin; refine Lib.wpList_append_run _ rfl _ _ _ _ rfl _ _ rfl rfl _ _ (HRZ.out _) ?_)
    go_ret
    exact ⟨_, rfl, ⟨rfl, .inr ⟨w.heap.size, G, Z, rfl, Nat.le_refl _, heap_new _ _, Nat.zero_le _, HG2.out, by rw [HZ.out]; omega, rfl⟩⟩, (Ext.refl w).drew.alloc _⟩

/-- Nothing appended. -/
theorem append_nothing {w : World} {base : Nat} {v : Value} {l : List Int} (h : OwnInts w base v l) (ty : TypeId) (c : Nat) : (Builtin.append_ #[35, 35] ty #[v, .slice none 0 c]).run Tryz.prog w = .ok v w := by
  obtain ⟨i0, hi, hz0, hz1, hz2⟩ := info_parts infoInt
  have hu : Tryz.prog.underlying 35 = some (.slice 3) := Tryz.underlying35
  rcases h.2 with ⟨rfl, _⟩ | ⟨g, cap, cur, rfl, _, _, hn, _⟩
  · simp [Builtin.append_, run_underlying hu, sizeOf, typeInfo, hi, Builtin.lenOf, Builtin.firstCells]
  · simp [Builtin.append_, run_underlying hu, sizeOf, typeInfo, hi, Builtin.lenOf, Builtin.firstCells, hn, storeCells]
theorem wpList_append_list {ops : Array Oper} {rest : List Oper} {o : Oper} {a : Act} {w : World} {Q : Exit → Act → World → Prop} (hgd : o.guard = none) (s x : Operand)
    (ho : o.op = .call { callee := .builtin .append, args := #[s, x], argTypes := #[35, 35] }) (base : Nat) (v src : Value) (l l2 : List Int)
    (hs : a.eval s = v) (hx : a.eval x = src) (hown : OwnInts w base v l) (hsrc : Ints w src l2) (hl : l.length + l2.length ≤ 1000000000) (hb : base ≤ w.heap.size)
    (h : ∀ v' w', OwnInts w' base v' (l ++ l2) → w.grownBy w' v.ownBlock → wpList Tryz.prog ops Q rest (a.put o.dst v') w') : wpList Tryz.prog ops Q (o :: rest) a w := by
  obtain ⟨i0, hi, hz0, hz1, hz2⟩ := info_parts infoInt
  have key : ∀ (ad : Addr) (c : Nat), src = .slice (some ad) l2.length c → (∀ j u, (l2.map (Value.int .i64))[j]? = some u → w.cell? (ad.add j) = some u) → wpList Tryz.prog ops Q (o :: rest) a w := fun ad c he hn =>
    wpList_append_own _ hgd s x 35 ho base 3 i0 (.int .i64 0) 1 8 Tryz.underlying35 hi hz0 hz1 hz2 rfl (by decide) v l.length (l.map (Value.int .i64)) hs hown ad l2.length c (l2.map (Value.int .i64)) (hx.trans he) (by simp) hn
      (fun u hu => by obtain ⟨y, _, rfl⟩ := List.mem_map.1 hu; rfl) (by unfold maxLen; omega) (by omega) hb fun v' w' h1 h2 _ => h v' w' (by simpa [OwnInts] using h1) h2
  rcases hsrc with ⟨⟨A, c, rfl⟩, rfl⟩ | ⟨b, of, cap, rfl, hm, hc⟩
  · cases A with
    | some ad => exact key ad c rfl (fun j u hu => by simp at hu)
    | none =>
      refine wpList_plain hgd fun K hK => ?_
      unfold Oper.wp execOp
      simp only [ho, resolve, invoke, builtin, Sem.run_bind, Sem.run_pure, Result.andThen_ok, List.map_toArray, List.map_cons, List.map_nil, hs, hx, append_nothing hown]
      exact hK _ _ (h v w (by simpa using hown) (World.grownBy.refl w _))
  · refine key ⟨b, of, none⟩ cap rfl fun j u hu => ?_
    have hj : j < l2.length := by
      have := (List.getElem?_eq_some_iff.1 hu).1; simpa using this
    have hadd : (⟨b, of, none⟩ : Addr).add j = ⟨b, of + j, none⟩ := by unfold Addr.add; split <;> simp_all
    have := hc j hj
    rw [Nat.mul_one] at this
    rw [hadd]
    have e : u = .int .i64 l2[j] := by simpa [hj] using hu.symm
    rw [e]; exact this

/-- What has come of two lists. -/
def twoTo (l1 l2 : List Int) (k : Nat) : List Int := if k = 0 then [] else if k = 1 then l1 else l1 ++ l2
set_option maxRecDepth 100000 in
set_option maxHeartbeats 2000000 in
theorem Concat_any (l1 l2 : List Int) (b : Nat) (a1 a2 : Option Addr) (c1 c2 : Nat) (w : World) (g0 : w.cell? ⟨b, 0, none⟩ = some (.slice a1 l1.length c1)) (g1 : w.cell? ⟨b, 1, none⟩ = some (.slice a2 l2.length c2)) (h1 : Ints w (.slice a1 l1.length c1) l1) (h2 : Ints w (.slice a2 l2.length c2) l2) (k1 : l1.length ≤ 1000) (k2 : l2.length ≤ 1000) :
    Calls Tryz.prog 98 #[.slice (some ⟨b, 0, none⟩) 2 2] w fun r w' => ∃ v, r = .returned v ∧ OwnInts w' w.heap.size v (l1 ++ l2) ∧ Ext w w' := by
  have H1 := Lib.hid h1; have H2 := Lib.hid h2
  clear h1 h2
  go_enter Tryz.func98, Tryz.ntmps98
  go_wp2_with fail
  go_loop [3, 11] (fun z i => ∃ k : Nat, k ≤ 2 ∧ i = .int .i64 k ∧ z = .int .i64 ((twoTo l1 l2 k).length : Nat)) (fun _ i => 2 - (intOf i).toNat)
  case atStart => exact ⟨0, by omega, rfl, rfl⟩
  case round =>
    obtain ⟨k, hk, rfl, rfl⟩ := hrel
    have hcase : k = 0 ∨ k = 1 ∨ k = 2 := by omega
    rcases hcase with rfl | rfl | rfl
    · have e0 : (twoTo l1 l2 0).length = 0 := rfl
      have E1 : Hid ((twoTo l1 l2 1).length = l1.length) := rfl
      rw [e0]
      go_wp2_with fail
      exact ⟨⟨1, by omega, rfl, by rw [E1.out]⟩, by simp [intOf]⟩
    · have e0 : (twoTo l1 l2 1).length = l1.length := rfl
      have E1 : Hid ((twoTo l1 l2 2).length = l1.length + l2.length) := by unfold Hid; simp [twoTo]
      rw [e0]
      go_wp2_with fail
      exact ⟨⟨2, by omega, rfl, by rw [E1.out]; go_num⟩, by simp [intOf]⟩
    · have E1 : (twoTo l1 l2 2).length = l1.length + l2.length := by simp [twoTo]
      rw [E1]
      clear E1
      go_wp2_with fail
      have hgr := Grow_any (l1.length + l2.length) (by omega) w
      rw [show ((l1.length + l2.length : Nat) : Int) = (l1.length : Int) + (l2.length : Int) by omega] at hgr
      refine hgr.mono ?_
      clear hgr
      rintro r w1 ⟨v, rfl, hv, x1⟩
      obtain ⟨va, vcp, rfl⟩ := hv.ints.shape
      have HV := Lib.hid hv; have X1 := Lib.hid x1
      clear hv x1
      go_wp2_with fail
      go_loopw [6, 27] (fun v i wr => ∃ k : Nat, k ≤ 2 ∧ i = .int .i64 k ∧ Ext w wr ∧ OwnInts wr w.heap.size v (twoTo l1 l2 k)) (fun _ i _ => 2 - (intOf i).toNat)
      case atStart => exact ⟨0, by omega, rfl, X1.out, HV.out⟩
      case round =>
        obtain ⟨k, hk, rfl, hX, hO⟩ := hrel
        have HX := Lib.hid hX; have HO := Lib.hid hO
        clear hX hO
        have d0 := HX.out.cell g0; have d1 := HX.out.cell g1
        have hz : w.heap.size ≤ wr.heap.size := HX.out.size
        have hcase : k = 0 ∨ k = 1 ∨ k = 2 := by omega
        rcases hcase with rfl | rfl | rfl
        · have E0 : Hid (twoTo l1 l2 0 = []) := rfl
          have E1 : Hid (twoTo l1 l2 1 = [] ++ l1) := rfl
          rw [E0.out] at HO
          have I1 := Lib.hid (H1.out.ext HX.out)
          go_wp2_with (at_builtin; refine wpList_append_list rfl (.tmp 31) (.tmp 32) rfl w.heap.size _ _ _ l1 rfl rfl HO.out I1.out (by simp; omega) hz ?_)
          intro v' w' hown' hg
          have hx' : Ext w w' := HX.out.grown hg (fun q hq => HO.out.base q hq)
          have HO' := Lib.hid hown'; have HX' := Lib.hid hx'
          clear hown' hx' hg
          go_wp2_with fail
          exact ⟨⟨1, by omega, rfl, HX'.out, by rw [E1.out]; exact HO'.out⟩, by simp [intOf]⟩
        · have E0 : Hid (twoTo l1 l2 1 = l1) := rfl
          have E1 : Hid (twoTo l1 l2 2 = l1 ++ l2) := rfl
          rw [E0.out] at HO
          have I1 := Lib.hid (H2.out.ext HX.out)
          go_wp2_with (at_builtin; refine wpList_append_list rfl (.tmp 31) (.tmp 32) rfl w.heap.size _ _ _ l2 rfl rfl HO.out I1.out (by omega) hz ?_)
          intro v' w' hown' hg
          have hx' : Ext w w' := HX.out.grown hg (fun q hq => HO.out.base q hq)
          have HO' := Lib.hid hown'; have HX' := Lib.hid hx'
          clear hown' hx' hg
          go_wp2_with fail
          exact ⟨⟨2, by omega, rfl, HX'.out, by rw [E1.out]; exact HO'.out⟩, by simp [intOf]⟩
        · have E0 : Hid (twoTo l1 l2 2 = l1 ++ l2) := rfl
          rw [E0.out] at HO
          go_wp2_with fail
          go_ret
          exact ⟨_, rfl, HO.out, HX.out⟩
end Go.Proofs.YtlcgbdjmlnjhcaaGreatDoor
namespace Go.Proofs.YtlcgbdjmlnjhcaaGreatDoor

theorem compact_strict {α : Type} [Inhabited α] [DecidableEq α] {R : α → α → Prop} (htot : ∀ x y, ¬ R x y → ¬ R y x → x = y) (d : Array α)
    (hs : ∀ i j, i < j → j < d.size → ¬ R d[j]! d[i]!) : ∀ m, m ≤ d.size → (Lib.compactUpTo d m).Pairwise R ∧ (∀ x, x ∈ Lib.compactUpTo d m ↔ ∃ j, j < m ∧ d[j]! = x) := by
  intro m
  induction m with
  | zero => intro _; simp [Lib.compactUpTo]
  | succ m ih =>
    intro hm
    obtain ⟨h1, h2⟩ := ih (by omega)
    rw [Lib.compactUpTo_succ]
    by_cases hk : Lib.keeps d m = true
    · rw [if_pos hk]
      have hk' : m = 0 ∨ d[m]! ≠ d[m - 1]! := by unfold Lib.keeps at hk; exact of_decide_eq_true hk
      refine ⟨?_, fun x => ?_⟩
      · rw [List.pairwise_append]
        refine ⟨h1, List.pairwise_singleton _ _, fun x hx y hy => ?_⟩
        rw [List.mem_singleton] at hy
        subst hy
        obtain ⟨j, hj, rfl⟩ := (h2 x).1 hx
        have g1 := hs j m hj (by omega)
        by_cases g2 : R d[j]! d[m]!
        · exact g2
        · exfalso
          have e := htot _ _ g2 g1
          rcases hk' with c | c
          · omega
          · apply c
            rcases Nat.lt_or_ge j (m - 1) with c1 | c1
            · have k1 := hs j (m - 1) c1 (by omega)
              have k2 := hs (m - 1) m (by omega) (by omega)
              rw [e] at k1
              exact (htot _ _ k1 k2).symm
            · have : j = m - 1 := by omega
              rw [← this]; exact e.symm
      · rw [List.mem_append, List.mem_singleton, h2 x]
        constructor
        · rintro (⟨j, hj, e⟩ | e)
          · exact ⟨j, by omega, e⟩
          · exact ⟨m, by omega, e.symm⟩
        · rintro ⟨j, hj, e⟩
          by_cases c : j = m
          · subst c; exact .inr e.symm
          · exact .inl ⟨j, by omega, e⟩
    · have hk' : ¬ (m = 0 ∨ d[m]! ≠ d[m - 1]!) := by unfold Lib.keeps at hk; simpa using hk
      rw [if_neg hk, List.append_nil]
      refine ⟨h1, fun x => ?_⟩
      rw [h2 x]
      constructor
      · rintro ⟨j, hj, e⟩; exact ⟨j, by omega, e⟩
      · rintro ⟨j, hj, e⟩
        by_cases c : j = m
        · subst c
          rw [not_or] at hk'
          exact ⟨j - 1, by omega, by rw [← e]; exact (Decidable.not_not.1 hk'.2).symm⟩
        · exact ⟨j, by omega, e⟩
/-- A row in order, compacted, holds every element once. -/
theorem compact_sorted {α : Type} [Inhabited α] [DecidableEq α] {R : α → α → Prop} (htot : ∀ x y, ¬ R x y → ¬ R y x → x = y) {l : List α}
    (hs : l.Pairwise fun x y => ¬ R y x) : (Lib.compact l).Pairwise R ∧ ∀ x, x ∈ Lib.compact l ↔ x ∈ l := by
  have hp := List.pairwise_iff_getElem.1 hs
  have hg : ∀ j, (h : j < l.length) → l.toArray[j]! = l[j] := fun j h => by simp [h]
  obtain ⟨h1, h2⟩ := compact_strict htot l.toArray (fun i j hij hj => by
    have hj' : j < l.length := by simpa using hj
    rw [hg j hj', hg i (by omega)]; exact hp i j (by omega) hj' hij) l.length (by simp)
  refine ⟨h1, fun x => (h2 x).trans ?_⟩
  rw [List.mem_iff_getElem]
  constructor
  · rintro ⟨j, hj, e⟩; exact ⟨j, hj, by rw [← hg j hj]; exact e⟩
  · rintro ⟨j, hj, e⟩; exact ⟨j, hj, by rw [hg j hj]; exact e⟩
theorem sorted_mergeI (l : List Int) : (l.mergeSort fun x y => decide (x ≤ y)).Pairwise (· ≤ ·) := by
  have := List.pairwise_mergeSort (le := fun x y : Int => decide (x ≤ y)) (fun a b c => by simp; omega) (fun a b => by simp; omega) l
  exact this.imp fun h => by simpa using h
/-- The elements of two lists in order, each once. -/
def unionL (a b : List Int) : List Int := Lib.compact ((a ++ b).mergeSort fun x y => decide (x ≤ y))
theorem unionL_law (a b : List Int) : (unionL a b).Pairwise (· < ·) ∧ ∀ x, x ∈ unionL a b ↔ x ∈ a ∨ x ∈ b := by
  obtain ⟨h1, h2⟩ := compact_sorted (R := fun x y : Int => x < y) (fun x y h1 h2 => by omega) ((sorted_mergeI (a ++ b)).imp fun h => by omega)
  refine ⟨h1, fun x => ?_⟩
  unfold unionL
  rw [h2, (List.mergeSort_perm (a ++ b) _).mem_iff, List.mem_append]
theorem unionL_len (a b : List Int) : (unionL a b).length ≤ a.length + b.length := by
  unfold unionL
  have h1 := Lib.compact_length_le ((a ++ b).mergeSort fun x y => decide (x ≤ y))
  rw [List.length_mergeSort, List.length_append] at h1
  exact h1
end Go.Proofs.YtlcgbdjmlnjhcaaGreatDoor
namespace Go.Proofs.YtlcgbdjmlnjhcaaGreatDoor
open Go.RowKit

theorem supOld_len (e : E) : e.supOld.length ≤ 32 := by
  unfold E.supOld
  split
  · unfold upTo; rw [List.length_map]; exact Nat.le_trans (List.length_filter_le _ _) (by simp)
  · simp
theorem supNow_len (e : E) : e.supNow.length ≤ 32 := by
  unfold E.supNow
  split
  · unfold upTo; rw [List.length_map]; exact Nat.le_trans (List.length_filter_le _ _) (by simp)
  · simp
set_option maxRecDepth 100000 in
set_option maxHeartbeats 4000000 in
theorem Union_any (a b : List Int) (va vb : Value) (w : World) (ha : Ints w va a) (hb : Ints w vb b) (hla : a.length ≤ 1000) (hlb : b.length ≤ 1000) :
    Calls Tryz.prog 73 #[va, vb] w fun r w' => (∃ v, r = .returned v ∧ Ints w' v (unionL a b)) ∧ Ext w w' := by
  obtain ⟨aa, ac, rfl⟩ := SliceAt.shape ha
  obtain ⟨ba, bc, rfl⟩ := SliceAt.shape hb
  obtain ⟨W, hW⟩ : ∃ W, W = w.alloc (.cells #[.slice aa a.length ac, .slice ba b.length bc] 35) := ⟨_, rfl⟩
  have hx : Ext w W := by rw [hW]; exact (Ext.refl w).alloc _
  have hb0 : W.heap[w.heap.size]? = some (.cells #[.slice aa a.length ac, .slice ba b.length bc] 35 (0, 0)) := by rw [hW]; exact heap_new _ _
  have HCC := Lib.hid (Concat_any a b w.heap.size aa ba ac bc W (by rw [Lib.cell_of_heap hb0]; rfl) (by rw [Lib.cell_of_heap hb0]; rfl) (ha.ext hx) (hb.ext hx) hla hlb)
  have HX := Lib.hid hx; have HW := Lib.hid hW
  have HUL : Hid (unionL a b = Lib.compact ((a ++ b).mergeSort fun x y => decide (x ≤ y))) := rfl
  have hlen : (a ++ b).length ≤ 2000 := by rw [List.length_append]; omega
  clear hx hb0 hW ha hb
  go_enter Tryz.func73, Tryz.ntmps73
  go_wp2_with (first | (rw [← HW.out]; refine HCC.out.mono ?_) | fail)
  rintro r wr ⟨v, rfl, hO, x1⟩
  generalize a ++ b = m at *
  obtain ⟨fa, fc, rfl⟩ := hO.ints.shape
  have HO := Lib.hid hO; have HXr := Lib.hid (HX.out.trans x1); have HXS := Lib.hid (Nat.le_trans HX.out.size (Nat.le_refl W.heap.size))
  clear hO x1
  cases m with
  | nil =>
    have HE : Hid (unionL a b = []) := by
      unfold Hid; rw [HUL.out, show ([] : List Int).mergeSort (fun x y => decide (x ≤ y)) = [] by simp]; rfl
    go_wp2_with fail
    refine (Tryz.slices_Sort_int_none fa fc wr).mono ?_
    rintro r w1 ⟨rfl, rfl⟩
    go_wp2_with fail
    refine (Tryz.slices_Compact_int_empty fa fc w1).mono ?_
    rintro r w2 ⟨rfl, rfl⟩
    go_wp2_with fail
    go_ret
    refine ⟨⟨_, rfl, ?_⟩, HXr.out⟩
    rw [HE.out]; exact .inl ⟨⟨_, _, rfl⟩, rfl⟩
  | cons m0 mr =>
    have hne : (Value.slice fa (m0 :: mr).length fc) ≠ .slice none 0 0 := by intro e; simp at e
    obtain ⟨g, cap, hv, hbg, hgl, hncap, hcm, _, hH⟩ := Lib.holds_of_ownsRow HO.out hne
    cases hv
    have HGB := Lib.hid (Nat.le_trans HXS.out hbg)
    generalize hmm : m0 :: mr = m at *
    clear hne hmm
    obtain ⟨t, ht⟩ : ∃ t, t = m.mergeSort fun x y => decide (x ≤ y) := ⟨_, rfl⟩
    have htl : t.length = m.length := by rw [ht, List.length_mergeSort]
    have HTL := Lib.hid htl
    rw [← ht] at HUL
    have hsort := Tryz.slices_Sort_int g 0 fc m wr hH hgl (by omega)
    rw [← ht] at hsort
    have HSo := Lib.hid hsort
    have HH := Lib.hid hH
    have HGL := Lib.hid hgl
    clear htl hsort ht hH hbg
    go_wp2_with fail
    refine HSo.out.mono ?_
    rintro r w1 ⟨rfl, nn, os, hw1⟩
    have hH2 : Go.Sort.Holds (Value.int .i64) w1 g 0 t.toArray := by
      rw [hw1]
      exact Go.Sort.holds_grow _ _ os g 0 _ (by simpa [Go.Sort.putRow, Go.Sort.mapBlock, Go.Sort.ahead] using hgl) (Go.Sort.holds_putRow _ _ g 0 _ _ (Go.Sort.holds_ahead _ wr nn g 0 _ HH.out) (by simpa using HTL.out))
    have hcomp := Tryz.slices_Compact_int g 0 fc t w1 hH2 (by have := HTL.out; omega) (by have := HTL.out; omega)
    rw [HTL.out] at hcomp
    have HCo := Lib.hid hcomp
    have HX1 : Hid (Below w.heap.size w w1) := by
      unfold Hid
      rw [hw1]
      exact Below.grown HXr.out (grownBy_sortedI _) HXr.out.size (fun j hj => by cases hj; exact HGB.out)
    have HH2 := Lib.hid hH2
    have hg1 : g < w1.heap.size := by rw [hw1]; simp [Go.Sort.putRow, Go.Sort.mapBlock, Go.Sort.ahead, Go.Sort.grow]; omega
    have HG1 := Lib.hid hg1
    clear hcomp hH2 hw1 hcm hg1
    go_wp2_with fail
    refine HCo.out.mono ?_
    rintro r w2 ⟨rfl, q, hw2⟩
    have HX2 : Hid (Ext w w2) := by
      unfold Hid
      rw [hw2]
      exact Lib.below_putRow HX1.out HGB.out
    have hcl := Lib.compact_length_le t
    have HI2 : Hid (Ints w2 (.slice (some ⟨g, 0, none⟩) (Lib.compact t).length fc) (Lib.compact t)) := by
      have hl := HTL.out
      have hsz : (Lib.compact t ++ List.replicate (m.length - (Lib.compact t).length) 0).toArray.size = t.toArray.size := by
        simp; omega
      have hH3 := Go.Sort.holds_putRow (Value.int .i64) (Go.Sort.ahead w1 q) g 0 t.toArray (Lib.compact t ++ List.replicate (m.length - (Lib.compact t).length) 0).toArray (Go.Sort.holds_ahead _ w1 q g 0 _ HH2.out) hsz
      rw [← hw2] at hH3
      refine .inr ⟨g, 0, fc, rfl, by omega, fun i hi => ?_⟩
      have h1 := (hH3 i (by rw [hsz]; simp; omega)).1
      rw [Nat.mul_one]
      show w2.cell? ⟨g, 0 + i, none⟩ = some (.int .i64 (Lib.compact t)[i])
      rw [h1]
      congr 2
      simp only [getElem!_def]
      rw [List.getElem?_toArray, List.getElem?_append_left hi, List.getElem?_eq_getElem hi]
    clear hw2
    rw [← HUL.out] at HI2 ⊢
    go_wp2_with fail
    go_ret
    exact ⟨⟨_, rfl, HI2.out⟩, HX2.out⟩

set_option maxRecDepth 100000 in
set_option maxHeartbeats 4000000 in
theorem DSupport_any (c : CondS) (cv : Value) (w : World) (hc : CondV w cv c) (hM : Masks w) :
    Calls Tryz.prog 44 #[cv] w fun r w' => (∃ v1 v2, r = .returned (.tuple #[v1, v2]) ∧ Ints w' v1 (unionL c.hyp.supOld c.goal.supOld) ∧ Ints w' v2 (unionL c.hyp.supNow c.goal.supNow)) ∧ Ext w w' := by
  obtain ⟨ha, hl, hcp, ga, gl, gc, rfl, e1, e2⟩ := hc
  obtain ⟨W, hW⟩ : ∃ W, W = w.alloc (.cells (condCells c ha hl hcp ga gl gc) 27) := ⟨_, rfl⟩
  have hX : Ext w W := by rw [hW]; exact (Ext.refl _).alloc _
  have hat : CondAt W w.heap.size c ha hl hcp ga gl gc := by rw [hW]; exact heap_new _ _
  have HE1 := Lib.hid (e1.ext hX); have HE2 := Lib.hid (e2.ext hX); have HM := Lib.hid (hM.ext hX); have HX := Lib.hid hX; have HWE := Lib.hid hW
  obtain ⟨⟨q0, q1, q2, q3⟩, p0, p1, p2, p3⟩ := And.intro hat.hyp hat.goal
  clear hX hat hW e1 e2 hM
  unfold condCells at *
  go_enter Tryz.func44, Tryz.ntmps44
  go_upto_region 1 with fail
  rw [← HWE.out]; clear HWE
  generalize w.heap.size = n0 at *
  go_wp2_with fail
  refine (Support_any c.hyp _ _ HE1.out HM.out).mono ?_
  rintro r w1 ⟨v1, v2, rfl, i1, i2, x1⟩
  obtain ⟨a1, b1, rfl⟩ := i1.shape
  obtain ⟨a2, b2, rfl⟩ := i2.shape
  have I1 := Lib.hid i1; have I2 := Lib.hid i2; have X1 := Lib.hid x1
  have p01 := x1.cell p0; have p11 := x1.cell p1; have p21 := x1.cell p2; have p31 := x1.cell p3
  clear i1 i2 x1 p0 p1 p2 p3 q0 q1 q2 q3
  go_wp2_with fail
  refine (Support_any c.goal _ _ (HE2.out.ext X1.out) (HM.out.ext X1.out)).mono ?_
  rintro r w2 ⟨v3, v4, rfl, i3, i4, x2⟩
  obtain ⟨a3, b3, rfl⟩ := i3.shape
  obtain ⟨a4, b4, rfl⟩ := i4.shape
  have I3 := Lib.hid i3; have I4 := Lib.hid i4; have X2 := Lib.hid (X1.out.trans x2)
  replace I1 := Lib.hid (I1.out.ext x2); replace I2 := Lib.hid (I2.out.ext x2)
  clear i3 i4 x2 p01 p11 p21 p31 X1
  have s1 : Hid (c.hyp.supOld.length ≤ 32 ∧ c.hyp.supNow.length ≤ 32 ∧ c.goal.supOld.length ≤ 32 ∧ c.goal.supNow.length ≤ 32) := ⟨supOld_len _, supNow_len _, supOld_len _, supNow_len _⟩
  go_wp2_with fail
  refine (Union_any c.hyp.supOld c.goal.supOld _ _ w2 I1.out I3.out (by have := s1.out; omega) (by have := s1.out; omega)).mono ?_
  rintro r w3 ⟨⟨v, rfl, i5⟩, x3⟩
  obtain ⟨a5, b5, rfl⟩ := i5.shape
  have I5 := Lib.hid i5; have X3 := Lib.hid (X2.out.trans x3)
  replace I2 := Lib.hid (I2.out.ext x3); replace I4 := Lib.hid (I4.out.ext x3)
  clear i5 x3 I1 I3
  go_wp2_with fail
  refine (Union_any c.hyp.supNow c.goal.supNow _ _ w3 I2.out I4.out (by have := s1.out; omega) (by have := s1.out; omega)).mono ?_
  rintro r w4 ⟨⟨v, rfl, i6⟩, x4⟩
  obtain ⟨a6, b6, rfl⟩ := i6.shape
  have I5' := Lib.hid (I5.out.ext x4); have I6 := Lib.hid i6; have X4 := Lib.hid (X3.out.trans x4)
  clear i6 x4 I5
  go_wp2_with fail
  go_ret2
  exact ⟨⟨_, _, rfl, I5'.out, I6.out⟩, HX.out.trans X4.out⟩
end Go.Proofs.YtlcgbdjmlnjhcaaGreatDoor
namespace Go.Proofs.YtlcgbdjmlnjhcaaGreatDoor
open Go.RowKit
attribute [local go_sem] Oper.semAt_some

/-- The cells of two lists, in order. -/
def occL (a b : List Int) : List Int := upTo (fun j => a.contains (j : Int) || b.contains (j : Int)) 32
theorem upTo_in {f : Nat → Bool} {k : Nat} {c : Int} (h : c ∈ upTo f k) : 0 ≤ c ∧ c < (k : Int) := by
  unfold upTo at h
  obtain ⟨j, hj, rfl⟩ := List.mem_map.1 h
  have := List.mem_range.1 (List.mem_filter.1 hj).1
  exact ⟨Int.natCast_nonneg j, Int.ofNat_lt.2 this⟩
theorem supOld_in {e : E} : ∀ c ∈ e.supOld, 0 ≤ c ∧ c < 32 := fun c h => by
  unfold E.supOld at h
  split at h
  · exact upTo_in h
  · cases h
theorem supNow_in {e : E} : ∀ c ∈ e.supNow, 0 ≤ c ∧ c < 32 := fun c h => by
  unfold E.supNow at h
  split at h
  · exact upTo_in h
  · cases h
theorem occL_len (a b : List Int) : (occL a b).length ≤ 32 := by
  unfold occL upTo; rw [List.length_map]; exact Nat.le_trans (List.length_filter_le _ _) (by simp)

set_option maxRecDepth 100000 in
set_option maxHeartbeats 4000000 in
theorem ROccur_any (c : CondS) (cv : Value) (w : World) (hc : CondV w cv c) :
    Calls Tryz.prog 49 #[cv] w fun r w' => (∃ v1 v2, r = .returned (.tuple #[v1, v2]) ∧ Ints w' v1 (occL c.hyp.supOld c.goal.supOld) ∧ Ints w' v2 (occL c.hyp.supNow c.goal.supNow)) ∧ Ext w w' := by
  obtain ⟨ha, hl, hcp, ga, gl, gc, rfl, e1, e2⟩ := hc
  obtain ⟨W, hW⟩ : ∃ W, W = w.alloc (.cells (condCells c ha hl hcp ga gl gc) 27) := ⟨_, rfl⟩
  have hX : Ext w W := by rw [hW]; exact (Ext.refl _).alloc _
  have hat : CondAt W w.heap.size c ha hl hcp ga gl gc := by rw [hW]; exact heap_new _ _
  have HE1 := Lib.hid (e1.ext hX); have HE2 := Lib.hid (e2.ext hX); have HX := Lib.hid hX; have HWE := Lib.hid hW
  obtain ⟨⟨q0, q1, q2, q3⟩, p0, p1, p2, p3⟩ := And.intro hat.hyp hat.goal
  clear hX hat hW e1 e2
  unfold condCells at *
  go_enter Tryz.func49, Tryz.ntmps49
  go_upto_region 1 with fail
  rw [← HWE.out]; clear HWE
  generalize w.heap.size = n0 at *
  go_wp2_with fail
  refine (RSupport_any c.hyp _ _ HE1.out).mono ?_
  rintro r w1 ⟨⟨v1, v2, rfl, i1, i2⟩, x1⟩
  obtain ⟨a1, b1, rfl⟩ := i1.shape
  obtain ⟨a2, b2, rfl⟩ := i2.shape
  have I1 := Lib.hid i1; have I2 := Lib.hid i2; have X1 := Lib.hid x1
  have p01 := x1.cell p0; have p11 := x1.cell p1; have p21 := x1.cell p2; have p31 := x1.cell p3
  clear i1 i2 x1 p0 p1 p2 p3 q0 q1 q2 q3
  go_wp2_with fail
  refine (RSupport_any c.goal _ _ (HE2.out.ext X1.out)).mono ?_
  rintro r w2 ⟨⟨v3, v4, rfl, i3, i4⟩, x2⟩
  obtain ⟨a3, b3, rfl⟩ := i3.shape
  obtain ⟨a4, b4, rfl⟩ := i4.shape
  have I3 := Lib.hid i3; have I4 := Lib.hid i4; have X2 := Lib.hid (X1.out.trans x2)
  replace I1 := Lib.hid (I1.out.ext x2); replace I2 := Lib.hid (I2.out.ext x2)
  clear i3 i4 x2 p01 p11 p21 p31 X1
  have s1 : Hid (c.hyp.supOld.length ≤ 32 ∧ c.hyp.supNow.length ≤ 32 ∧ c.goal.supOld.length ≤ 32 ∧ c.goal.supNow.length ≤ 32) := ⟨supOld_len _, supNow_len _, supOld_len _, supNow_len _⟩
  go_wp2_with fail
  refine (RMerge_any c.hyp.supOld c.goal.supOld _ _ w2 I1.out I3.out supOld_in supOld_in (by have := s1.out; omega) (by have := s1.out; omega)).mono ?_
  rintro r w3 ⟨⟨v, rfl, i5⟩, x3⟩
  have i5 : Ints w3 v (occL c.hyp.supOld c.goal.supOld) := i5
  obtain ⟨a5, b5, rfl⟩ := i5.shape
  have I5 := Lib.hid i5; have X3 := Lib.hid (X2.out.trans x3)
  replace I2 := Lib.hid (I2.out.ext x3); replace I4 := Lib.hid (I4.out.ext x3)
  clear i5 x3 I1 I3
  go_wp2_with fail
  refine (RMerge_any c.hyp.supNow c.goal.supNow _ _ w3 I2.out I4.out supNow_in supNow_in (by have := s1.out; omega) (by have := s1.out; omega)).mono ?_
  rintro r w4 ⟨⟨v, rfl, i6⟩, x4⟩
  have i6 : Ints w4 v (occL c.hyp.supNow c.goal.supNow) := i6
  obtain ⟨a6, b6, rfl⟩ := i6.shape
  have I5' := Lib.hid (I5.out.ext x4); have I6 := Lib.hid i6; have X4 := Lib.hid (X3.out.trans x4)
  clear i6 x4 I5
  go_wp2_with fail
  go_ret2
  exact ⟨⟨_, _, rfl, I5'.out, I6.out⟩, HX.out.trans X4.out⟩
end Go.Proofs.YtlcgbdjmlnjhcaaGreatDoor
namespace Go.Proofs.YtlcgbdjmlnjhcaaGreatDoor
open Go.RowKit

/-- The runes l lie in w, in a block other than RB, as the slice lv. -/
def RunesIn (w : World) (RB : Nat) (lv : Value) (l : List Int) : Prop :=
  RB < w.heap.size ∧ ((lv = .slice none 0 0 ∧ l = []) ∨ ∃ b o c : Nat, lv = .slice (some ⟨b, o, none⟩) l.length c ∧ l.length ≤ 1000000000 ∧ b ≠ RB ∧ b < w.heap.size ∧ l.length ≤ c ∧ ∀ (i : Nat) (h : i < l.length), w.cell? ⟨b, o + i, none⟩ = some (.int .i32 l[i]))
theorem grownBy_refl (w : World) (g : Option Nat) : w.grownBy w g := ⟨rfl, rfl, rfl, Nat.le_refl _, fun _ _ _ => rfl⟩
theorem grownBy_tr {a b c : World} {g : Option Nat} (h : a.grownBy b g) (k : b.grownBy c g) : a.grownBy c g :=
  ⟨k.os.trans h.os, k.tape.trans h.tape, k.output.trans h.output, Nat.le_trans h.size k.size, fun i hi hne => (k.block i (Nat.lt_of_lt_of_le hi h.size) hne).trans (h.block i hi hne)⟩
theorem grownBy_drewN {a b : World} {g : Option Nat} (h : a.grownBy b g) (n : Nat) : a.grownBy (b.drewN n) g := ⟨h.os, h.tape, h.output, h.size, h.block⟩
theorem grownBy_cell {a b : World} {g : Nat} (h : a.grownBy b (some g)) {p : Addr} {v : Value} (hp : p.block ≠ g) (hc : a.cell? p = some v) : b.cell? p = some v := by
  rw [World.cell?_of_block (h.block p.block (block_lt hc) (by simpa using hp))]; exact hc
theorem grownBy_set {a b : World} {g : Nat} (h : a.grownBy b (some g)) (o : Nat) (v : Value) : a.grownBy (b.setCell ⟨g, o, none⟩ v) (some g) :=
  ⟨h.os, h.tape, h.output, by simpa [World.setCell] using h.size, fun i hi hne => by rw [Below.heap_setCell _ _ _ _ (by simpa using hne)]; exact h.block i hi hne⟩

/-- The next rune, -1 at the end. -/
def peekS (l : List Int) (k : Nat) : Int := (l[k]?).getD (-1)
theorem peekS_lt {l : List Int} {k : Nat} (h : k < l.length) : peekS l k = l[k] := by simp [peekS, h]
theorem peekS_ge {l : List Int} {k : Nat} (h : ¬ k < l.length) : peekS l k = -1 := by simp [peekS, List.getElem?_eq_none (Nat.le_of_not_lt h)]

theorem RunesIn.len {w0 : World} {RB : Nat} {lv : Value} {l : List Int} (h : RunesIn w0 RB lv l) : l.length ≤ 1000000000 := by
  rcases h.2 with ⟨_, rfl⟩ | ⟨_, _, _, _, h, _⟩
  · simp
  · exact h
theorem peekS_in {l : List Int} {k : Nat} (h : peekS l k ≠ -1) : k < l.length := by
  rcases Nat.lt_or_ge k l.length with h1 | h1
  · exact h1
  · exact absurd (peekS_ge (by omega)) h

end Go.Proofs.YtlcgbdjmlnjhcaaGreatDoor
