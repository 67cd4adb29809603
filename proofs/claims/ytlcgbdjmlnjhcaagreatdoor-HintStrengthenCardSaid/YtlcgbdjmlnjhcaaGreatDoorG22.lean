/-
  Ints appended to slices of the call's own: where the row lies; in a region that draws its order.
  The walks of slices.Grow at nil, slices.Concat of two lists; a slice of ints appended whole (the same as Of6, Of7, without the relations).
  Plain laws of compaction: a row in order, compacted, holds every element once.
-/
import Derived.Test.YtlcgbdjmlnjhcaaGreatDoorG12
import Derived.Test.YtlcgbdjmlnjhcaaGreatDoorG06
import Derived.Laws.Rows
import Derived.Deep.AppendLies
import Derived.Deep.RegionHeld3
import Derived.Deep.OwnRows
import Derived.Lib.Walk
import Derived.Lib.AppendZerosOnto
import Derived.Lib.RowBridge
import Derived.Test.YtlcgbdjmlnjhcaaGreatDoorProg
namespace Go.Proofs.YtlcgbdjmlnjhcaaGreatDoor
open Go.RowKit Go.Shelf
attribute [local go_sem] Oper.semAt_some

theorem OwnInts.keep {w w' : World} {base : Nat} {v : Value} {l : List Int} (h : OwnInts w base v l) (hk : ∀ k, v.ownBlock = some k → w'.heap[k]? = w.heap[k]?) : OwnInts w' base v l := by
  obtain ⟨h1, h2⟩ := h
  refine ⟨h1, ?_⟩
  rcases h2 with h2 | ⟨g, cap, cur, hv, hg, hh, r⟩
  · exact .inl h2
  · exact .inr ⟨g, cap, cur, hv, hg, by rw [hk g (by rw [hv]; rfl)]; exact hh, r⟩
theorem OwnInts.typedB {w : World} {base : Nat} {v : Value} {l : List Int} (h : OwnInts w base v l) (k : Nat) (hk : v.ownBlock = some k) : ∃ cs, w.heap[k]? = some (.cells cs 3 (0, 0)) := by
  rcases h.2 with ⟨rfl, _⟩ | ⟨g, cap, cur, rfl, hg, hh, _⟩
  · cases hk
  · cases hk; exact ⟨_, hh⟩
theorem grown_alloc {W W' : World} {o : Obj} {row : Option Nat} (h : (W.alloc o).grownBy W' row) : W.grownBy W' row :=
  ⟨h.os, h.tape, h.output, by have := h.size; simp at this; omega, fun k hk hne => (h.block k (by simp; omega) hne).trans (Below.heap_alloc W _ k hk)⟩
/-- An int appended: where the row lies is said too. -/
theorem wpList_append_intL {ops : Array Oper} {rest : List Oper} {o : Oper} {a : Act} {Q : Exit → Act → World → Prop} (hgd : o.guard = none) (s x : Operand)
    (ho : o.op = .call { callee := .builtin .append, args := #[s, x], argTypes := #[35, 35] }) (base : Nat) (wr : World) (v : Value) (l : List Int) (n : Int)
    (hs : a.eval s = v) (hx : a.eval x = .slice (some ⟨wr.heap.size, 0, none⟩) 1 1) (hown : OwnInts wr base v l) (hl : l.length ≤ 1000000000) (hb : base ≤ wr.heap.size)
    (h : ∀ g cap w', OwnInts w' base (.slice (some ⟨g, 0, none⟩) (l.length + 1) cap) (l ++ [n]) → wr.grownBy w' v.ownBlock → (v.ownBlock = some g ∨ g = wr.heap.size + 1) → wpList Tryz.prog ops Q rest (a.put o.dst (.slice (some ⟨g, 0, none⟩) (l.length + 1) cap)) w') : wpList Tryz.prog ops Q (o :: rest) a (wr.alloc (.cells #[.int .i64 n] 3)) := by
  obtain ⟨i0, hi, hz0, hz1, hz2⟩ := info_parts infoInt
  refine wpList_plain hgd fun K hK => ?_
  refine wp_append_lies _ s x 35 ho base 3 i0 (.int .i64 0) 1 8 Tryz.underlying35 hi hz0 hz1 hz2 rfl (by decide) v l.length (l.map (Value.int .i64)) hs (hown.kept ((Ext.refl wr).alloc _)) ⟨wr.heap.size, 0, none⟩ 1 1 [.int .i64 n] hx rfl (cell_one_new _ _ _) (fun u hu => by simp at hu; subst hu; rfl) (by decide) ?_ ?_ ?_ (wr.heap.size + 1) (by simp) ?_
  · unfold maxLen; omega
  · omega
  · simp; omega
  · intro g cap w' h1 h2 h3 _
    exact hK _ _ (h g cap w' (by simpa [OwnInts] using h1) (grown_alloc h2) h3)

/-- The same, and where the row lies. -/
theorem step_append_intL {ops : Array Oper} {o : Oper} {a : Act} {K : Act → World → Prop} {Q : Exit → Act → World → Prop} {E' : Prop} (hgd : o.guard = none) (s x : Operand)
    (ho : o.op = .call { callee := .builtin .append, args := #[s, x], argTypes := #[35, 35] }) (base : Nat) (wr : World) (H : Nat) (hH : wr.heap.size = H) (v : Value) (l : List Int) (n : Int)
    (hs : a.eval s = v) (hx' : a.eval x = .slice (some ⟨H, 0, none⟩) 1 1) (hown : OwnInts wr base v l) (hl : l.length ≤ 1000000000) (hb : base ≤ wr.heap.size)
    (h : ∀ g cap w', OwnInts w' base (.slice (some ⟨g, 0, none⟩) (l.length + 1) cap) (l ++ [n]) → wr.grownBy w' v.ownBlock → (v.ownBlock = some g ∨ g = wr.heap.size + 1) → K (a.put o.dst (.slice (some ⟨g, 0, none⟩) (l.length + 1) cap)) w') :
    if Region.wanted o (yielded ops a.tmps) = true then Oper.wp Tryz.prog o a (wr.alloc (.cells #[.int .i64 n] 3)) K Q else E' := by
  obtain ⟨i0, hi, hz0, hz1, hz2⟩ := info_parts infoInt
  have hx : a.eval x = .slice (some ⟨wr.heap.size, 0, none⟩) 1 1 := by rw [hH]; exact hx'
  refine step_append_lies _ hgd s x 35 ho base 3 i0 (.int .i64 0) 1 8 Tryz.underlying35 hi hz0 hz1 hz2 rfl (by decide) v l.length (l.map (Value.int .i64)) hs (hown.kept ((Ext.refl wr).alloc _)) ⟨wr.heap.size, 0, none⟩ 1 1 [.int .i64 n] hx rfl (cell_one_new _ _ _) (fun u hu => by simp at hu; subst hu; rfl) (by decide) ?_ ?_ ?_ (wr.heap.size + 1) (by simp) ?_
  · unfold maxLen; omega
  · omega
  · simp; omega
  · intro g cap w' h1 h2 h3 _
    refine h g cap w' (by simpa [OwnInts] using h1) ⟨h2.os, h2.tape, h2.output, by have := h2.size; simp at this; omega, fun k hk hne => by rw [h2.block k (by simp; omega) hne]; exact Below.heap_alloc wr _ k hk⟩ h3
/-- Only the normal end is wanted: a post that no panic meets, by reduction alone. -/
def onlyNormal (Q : Exit → Act → World → Prop) : Exit → Act → World → Prop
  | .normal => Q .normal
  | _ => fun _ _ => False
theorem wp_normal2 {P : Program} {c : Code} {Q : Exit → Act → World → Prop} {a : Act} {w : World} (h : c.wp P (onlyNormal Q) a w) : c.wp P Q a w := by
  refine wp_mono h ?_
  intro e a' w' hq
  cases e <;> first | exact hq | exact hq.elim
end Go.Proofs.YtlcgbdjmlnjhcaaGreatDoor
namespace Go.Proofs.YtlcgbdjmlnjhcaaGreatDoor
open Go.RowKit

set_option maxRecDepth 100000 in
set_option maxHeartbeats 1000000 in
theorem Grow_any (n : Nat) (hn : n ≤ 1000000) (w : World) : Calls Tryz.prog 111 #[.slice none 0 0, .int .i64 n] w fun r w' => ∃ v, r = .returned v ∧ OwnInts w' w.heap.size v [] ∧ Ext w w' := by
  rcases Nat.eq_zero_or_pos n with h0 | h0
  · subst h0
    go_enter Tryz.func111, Tryz.ntmps111
    go_wp2_with fail
    go_ret
    exact ⟨_, rfl, OwnInts.nil _ _, Ext.refl _⟩
  · obtain ⟨i0, hi, hz0, hz1, hz2⟩ := info_parts infoInt
    have hrz : ∀ ty, (Builtin.append_ #[35, 3] ty #[.slice none 0 0, .int .i64 n]).run Tryz.prog w = .ok (.slice (some ⟨w.heap.size, 0, none⟩) n (grownCap w n 0 3)) (w.drew.alloc (.cells (([] : List Value).toArray ++ Builtin.zeroCells (Value.int .i64 0).cells n ++ Builtin.zeroCells (Value.int .i64 0).cells (grownCap w n 0 3 - n)) 3)) := fun ty => by
      have h := Lib.run_append_grow_zeros w 35 3 ty 3 i0 (.int .i64 0) .i64 .i64 Tryz.underlying35 Tryz.underlying3 hi hz0 none 0 0 [] (run_firstCells_none _ _ _ _ _) n h0 (by omega) (by omega) (by omega) (by rw [hz2]; omega) (by rw [hz2]; exact growslice_fits (by omega) (by omega))
      simpa using h
    have hG := grownCap_ge w n 0 3
    have hG2 := grownCap_le_maxLen w n 0 3 (by unfold maxLen; omega)
    generalize grownCap w n 0 3 = G at *
    have hsz : (([] : List Value).toArray ++ Builtin.zeroCells (Value.int .i64 0).cells n ++ Builtin.zeroCells (Value.int .i64 0).cells (G - n)).size = G := by
      simp [Builtin.zeroCells, Value.cells]; omega
    have HZ := Lib.hid hsz; have HRZ := Lib.hid hrz
    generalize (([] : List Value).toArray ++ Builtin.zeroCells (Value.int .i64 0).cells n ++ Builtin.zeroCells (Value.int .i64 0).cells (G - n)) = Z at *
    clear hsz hrz
    have hgm : G ≤ 9223372036854775807 := by unfold maxLen at hG2; omega
    have HG2 := Lib.hid hG2
    clear hG2
    go_enter Tryz.func111, Tryz.ntmps111
    go_wp2_with (at_builtin; refine Lib.wpList_append_run _ rfl _ _ _ _ rfl _ _ rfl rfl _ _ (HRZ.out _) ?_)
    go_ret
    exact ⟨_, rfl, ⟨rfl, .inr ⟨w.heap.size, G, Z, rfl, Nat.le_refl _, heap_new _ _, Nat.zero_le _, HG2.out, by rw [HZ.out]; omega, rfl⟩⟩, (Ext.refl w).drew.alloc _⟩

/-- Nothing appended. -/
theorem append_nothing {w : World} {base : Nat} {v : Value} {l : List Int} (h : OwnInts w base v l) (ty : TypeId) (c : Nat) : (Builtin.append_ #[35, 35] ty #[v, .slice none 0 c]).run Tryz.prog w = .ok v w := by
  obtain ⟨i0, hi, hz0, hz1, hz2⟩ := info_parts infoInt
  have hu : Tryz.prog.underlying 35 = some (.slice 3) := Tryz.underlying35
  rcases h.2 with ⟨rfl, _⟩ | ⟨g, cap, cur, rfl, _, _, hn, _⟩
  · simp [Builtin.append_, run_underlying hu, sizeOf, typeInfo, hi, Builtin.lenOf, Builtin.firstCells]
  · simp [Builtin.append_, run_underlying hu, sizeOf, typeInfo, hi, Builtin.lenOf, Builtin.firstCells, hn, storeCells]
theorem wpList_append_list {ops : Array Oper} {rest : List Oper} {o : Oper} {a : Act} {w : World} {Q : Exit → Act → World → Prop} (hgd : o.guard = none) (s x : Operand)
    (ho : o.op = .call { callee := .builtin .append, args := #[s, x], argTypes := #[35, 35] }) (base : Nat) (v src : Value) (l l2 : List Int)
    (hs : a.eval s = v) (hx : a.eval x = src) (hown : OwnInts w base v l) (hsrc : Ints w src l2) (hl : l.length + l2.length ≤ 1000000000) (hb : base ≤ w.heap.size)
    (h : ∀ v' w', OwnInts w' base v' (l ++ l2) → w.grownBy w' v.ownBlock → wpList Tryz.prog ops Q rest (a.put o.dst v') w') : wpList Tryz.prog ops Q (o :: rest) a w := by
  obtain ⟨i0, hi, hz0, hz1, hz2⟩ := info_parts infoInt
  have key : ∀ (ad : Addr) (c : Nat), src = .slice (some ad) l2.length c → (∀ j u, (l2.map (Value.int .i64))[j]? = some u → w.cell? (ad.add j) = some u) → wpList Tryz.prog ops Q (o :: rest) a w := fun ad c he hn =>
    wpList_append_own _ hgd s x 35 ho base 3 i0 (.int .i64 0) 1 8 Tryz.underlying35 hi hz0 hz1 hz2 rfl (by decide) v l.length (l.map (Value.int .i64)) hs hown ad l2.length c (l2.map (Value.int .i64)) (hx.trans he) (by simp) hn
      (fun u hu => by obtain ⟨y, _, rfl⟩ := List.mem_map.1 hu; rfl) (by unfold maxLen; omega) (by omega) hb fun v' w' h1 h2 _ => h v' w' (by simpa [OwnInts] using h1) h2
  rcases hsrc with ⟨⟨A, c, rfl⟩, rfl⟩ | ⟨b, of, cap, rfl, hm, hc⟩
  · cases A with
    | some ad => exact key ad c rfl (fun j u hu => by simp at hu)
    | none =>
      refine wpList_plain hgd fun K hK => ?_
      unfold Oper.wp execOp
      simp only [ho, resolve, invoke, builtin, Sem.run_bind, Sem.run_pure, Result.andThen_ok, List.map_toArray, List.map_cons, List.map_nil, hs, hx, append_nothing hown]
      exact hK _ _ (h v w (by simpa using hown) (World.grownBy.refl w _))
  · refine key ⟨b, of, none⟩ cap rfl fun j u hu => ?_
    have hj : j < l2.length := by
      have := (List.getElem?_eq_some_iff.1 hu).1; simpa using this
    have hadd : (⟨b, of, none⟩ : Addr).add j = ⟨b, of + j, none⟩ := by unfold Addr.add; split <;> simp_all
    have := hc j hj
    rw [Nat.mul_one] at this
    rw [hadd]
    have e : u = .int .i64 l2[j] := by simpa [hj] using hu.symm
    rw [e]; exact this

/-- What has come of two lists. -/
def twoTo (l1 l2 : List Int) (k : Nat) : List Int := if k = 0 then [] else if k = 1 then l1 else l1 ++ l2
set_option maxRecDepth 100000 in
set_option maxHeartbeats 2000000 in
theorem Concat_any (l1 l2 : List Int) (b : Nat) (a1 a2 : Option Addr) (c1 c2 : Nat) (w : World) (g0 : w.cell? ⟨b, 0, none⟩ = some (.slice a1 l1.length c1)) (g1 : w.cell? ⟨b, 1, none⟩ = some (.slice a2 l2.length c2)) (h1 : Ints w (.slice a1 l1.length c1) l1) (h2 : Ints w (.slice a2 l2.length c2) l2) (k1 : l1.length ≤ 1000) (k2 : l2.length ≤ 1000) :
    Calls Tryz.prog 98 #[.slice (some ⟨b, 0, none⟩) 2 2] w fun r w' => ∃ v, r = .returned v ∧ OwnInts w' w.heap.size v (l1 ++ l2) ∧ Ext w w' := by
  have H1 := Lib.hid h1; have H2 := Lib.hid h2
  clear h1 h2
  go_enter Tryz.func98, Tryz.ntmps98
  go_wp2_with fail
  go_loop [3, 11] (fun z i => ∃ k : Nat, k ≤ 2 ∧ i = .int .i64 k ∧ z = .int .i64 ((twoTo l1 l2 k).length : Nat)) (fun _ i => 2 - (intOf i).toNat)
  case atStart => exact ⟨0, by omega, rfl, rfl⟩
  case round =>
    obtain ⟨k, hk, rfl, rfl⟩ := hrel
    have hcase : k = 0 ∨ k = 1 ∨ k = 2 := by omega
    rcases hcase with rfl | rfl | rfl
    · have e0 : (twoTo l1 l2 0).length = 0 := rfl
      have E1 : Hid ((twoTo l1 l2 1).length = l1.length) := rfl
      rw [e0]
      go_wp2_with fail
      exact ⟨⟨1, by omega, rfl, by rw [E1.out]⟩, by simp [intOf]⟩
    · have e0 : (twoTo l1 l2 1).length = l1.length := rfl
      have E1 : Hid ((twoTo l1 l2 2).length = l1.length + l2.length) := by unfold Hid; simp [twoTo]
      rw [e0]
      go_wp2_with fail
      exact ⟨⟨2, by omega, rfl, by rw [E1.out]; go_num⟩, by simp [intOf]⟩
    · have E1 : (twoTo l1 l2 2).length = l1.length + l2.length := by simp [twoTo]
      rw [E1]
      clear E1
      go_wp2_with fail
      have hgr := Grow_any (l1.length + l2.length) (by omega) w
      rw [show ((l1.length + l2.length : Nat) : Int) = (l1.length : Int) + (l2.length : Int) by omega] at hgr
      refine hgr.mono ?_
      clear hgr
      rintro r w1 ⟨v, rfl, hv, x1⟩
      obtain ⟨va, vcp, rfl⟩ := hv.ints.shape
      have HV := Lib.hid hv; have X1 := Lib.hid x1
      clear hv x1
      go_wp2_with fail
      go_loopw [6, 27] (fun v i wr => ∃ k : Nat, k ≤ 2 ∧ i = .int .i64 k ∧ Ext w wr ∧ OwnInts wr w.heap.size v (twoTo l1 l2 k)) (fun _ i _ => 2 - (intOf i).toNat)
      case atStart => exact ⟨0, by omega, rfl, X1.out, HV.out⟩
      case round =>
        obtain ⟨k, hk, rfl, hX, hO⟩ := hrel
        have HX := Lib.hid hX; have HO := Lib.hid hO
        clear hX hO
        have d0 := HX.out.cell g0; have d1 := HX.out.cell g1
        have hz : w.heap.size ≤ wr.heap.size := HX.out.size
        have hcase : k = 0 ∨ k = 1 ∨ k = 2 := by omega
        rcases hcase with rfl | rfl | rfl
        · have E0 : Hid (twoTo l1 l2 0 = []) := rfl
          have E1 : Hid (twoTo l1 l2 1 = [] ++ l1) := rfl
          rw [E0.out] at HO
          have I1 := Lib.hid (H1.out.ext HX.out)
          go_wp2_with (at_builtin; refine wpList_append_list rfl (.tmp 31) (.tmp 32) rfl w.heap.size _ _ _ l1 rfl rfl HO.out I1.out (by simp; omega) hz ?_)
          intro v' w' hown' hg
          have hx' : Ext w w' := HX.out.grown hg (fun q hq => HO.out.base q hq)
          have HO' := Lib.hid hown'; have HX' := Lib.hid hx'
          clear hown' hx' hg
          go_wp2_with fail
          exact ⟨⟨1, by omega, rfl, HX'.out, by rw [E1.out]; exact HO'.out⟩, by simp [intOf]⟩
        · have E0 : Hid (twoTo l1 l2 1 = l1) := rfl
          have E1 : Hid (twoTo l1 l2 2 = l1 ++ l2) := rfl
          rw [E0.out] at HO
          have I1 := Lib.hid (H2.out.ext HX.out)
          go_wp2_with (at_builtin; refine wpList_append_list rfl (.tmp 31) (.tmp 32) rfl w.heap.size _ _ _ l2 rfl rfl HO.out I1.out (by omega) hz ?_)
          intro v' w' hown' hg
          have hx' : Ext w w' := HX.out.grown hg (fun q hq => HO.out.base q hq)
          have HO' := Lib.hid hown'; have HX' := Lib.hid hx'
          clear hown' hx' hg
          go_wp2_with fail
          exact ⟨⟨2, by omega, rfl, HX'.out, by rw [E1.out]; exact HO'.out⟩, by simp [intOf]⟩
        · have E0 : Hid (twoTo l1 l2 2 = l1 ++ l2) := rfl
          rw [E0.out] at HO
          go_wp2_with fail
          go_ret
          exact ⟨_, rfl, HO.out, HX.out⟩
end Go.Proofs.YtlcgbdjmlnjhcaaGreatDoor
namespace Go.Proofs.YtlcgbdjmlnjhcaaGreatDoor

theorem compact_strict {α : Type} [Inhabited α] [DecidableEq α] {R : α → α → Prop} (htot : ∀ x y, ¬ R x y → ¬ R y x → x = y) (d : Array α)
    (hs : ∀ i j, i < j → j < d.size → ¬ R d[j]! d[i]!) : ∀ m, m ≤ d.size → (Lib.compactUpTo d m).Pairwise R ∧ (∀ x, x ∈ Lib.compactUpTo d m ↔ ∃ j, j < m ∧ d[j]! = x) := by
  intro m
  induction m with
  | zero => intro _; simp [Lib.compactUpTo]
  | succ m ih =>
    intro hm
    obtain ⟨h1, h2⟩ := ih (by omega)
    rw [Lib.compactUpTo_succ]
    by_cases hk : Lib.keeps d m = true
    · rw [if_pos hk]
      have hk' : m = 0 ∨ d[m]! ≠ d[m - 1]! := by unfold Lib.keeps at hk; exact of_decide_eq_true hk
      refine ⟨?_, fun x => ?_⟩
      · rw [List.pairwise_append]
        refine ⟨h1, List.pairwise_singleton _ _, fun x hx y hy => ?_⟩
        rw [List.mem_singleton] at hy
        subst hy
        obtain ⟨j, hj, rfl⟩ := (h2 x).1 hx
        have g1 := hs j m hj (by omega)
        by_cases g2 : R d[j]! d[m]!
        · exact g2
        · exfalso
          have e := htot _ _ g2 g1
          rcases hk' with c | c
          · omega
          · apply c
            rcases Nat.lt_or_ge j (m - 1) with c1 | c1
            · have k1 := hs j (m - 1) c1 (by omega)
              have k2 := hs (m - 1) m (by omega) (by omega)
              rw [e] at k1
              exact (htot _ _ k1 k2).symm
            · have : j = m - 1 := by omega
              rw [← this]; exact e.symm
      · rw [List.mem_append, List.mem_singleton, h2 x]
        constructor
        · rintro (⟨j, hj, e⟩ | e)
          · exact ⟨j, by omega, e⟩
          · exact ⟨m, by omega, e.symm⟩
        · rintro ⟨j, hj, e⟩
          by_cases c : j = m
          · subst c; exact .inr e.symm
          · exact .inl ⟨j, by omega, e⟩
    · have hk' : ¬ (m = 0 ∨ d[m]! ≠ d[m - 1]!) := by unfold Lib.keeps at hk; simpa using hk
      rw [if_neg hk, List.append_nil]
      refine ⟨h1, fun x => ?_⟩
      rw [h2 x]
      constructor
      · rintro ⟨j, hj, e⟩; exact ⟨j, by omega, e⟩
      · rintro ⟨j, hj, e⟩
        by_cases c : j = m
        · subst c
          rw [not_or] at hk'
          exact ⟨j - 1, by omega, by rw [← e]; exact (Decidable.not_not.1 hk'.2).symm⟩
        · exact ⟨j, by omega, e⟩
/-- A row in order, compacted, holds every element once. -/
theorem compact_sorted {α : Type} [Inhabited α] [DecidableEq α] {R : α → α → Prop} (htot : ∀ x y, ¬ R x y → ¬ R y x → x = y) {l : List α}
    (hs : l.Pairwise fun x y => ¬ R y x) : (Lib.compact l).Pairwise R ∧ ∀ x, x ∈ Lib.compact l ↔ x ∈ l := by
  have hp := List.pairwise_iff_getElem.1 hs
  have hg : ∀ j, (h : j < l.length) → l.toArray[j]! = l[j] := fun j h => by simp [h]
  obtain ⟨h1, h2⟩ := compact_strict htot l.toArray (fun i j hij hj => by
    have hj' : j < l.length := by simpa using hj
    rw [hg j hj', hg i (by omega)]; exact hp i j (by omega) hj' hij) l.length (by simp)
  refine ⟨h1, fun x => (h2 x).trans ?_⟩
  rw [List.mem_iff_getElem]
  constructor
  · rintro ⟨j, hj, e⟩; exact ⟨j, hj, by rw [← hg j hj]; exact e⟩
  · rintro ⟨j, hj, e⟩; exact ⟨j, hj, by rw [hg j hj]; exact e⟩
theorem sorted_mergeI (l : List Int) : (l.mergeSort fun x y => decide (x ≤ y)).Pairwise (· ≤ ·) := by
  have := List.pairwise_mergeSort (le := fun x y : Int => decide (x ≤ y)) (fun a b c => by simp; omega) (fun a b => by simp; omega) l
  exact this.imp fun h => by simpa using h
/-- The elements of two lists in order, each once. -/
def unionL (a b : List Int) : List Int := Lib.compact ((a ++ b).mergeSort fun x y => decide (x ≤ y))
theorem unionL_law (a b : List Int) : (unionL a b).Pairwise (· < ·) ∧ ∀ x, x ∈ unionL a b ↔ x ∈ a ∨ x ∈ b := by
  obtain ⟨h1, h2⟩ := compact_sorted (R := fun x y : Int => x < y) (fun x y h1 h2 => by omega) ((sorted_mergeI (a ++ b)).imp fun h => by omega)
  refine ⟨h1, fun x => ?_⟩
  unfold unionL
  rw [h2, (List.mergeSort_perm (a ++ b) _).mem_iff, List.mem_append]
theorem unionL_len (a b : List Int) : (unionL a b).length ≤ a.length + b.length := by
  unfold unionL
  have h1 := Lib.compact_length_le ((a ++ b).mergeSort fun x y => decide (x ≤ y))
  rw [List.length_mergeSort, List.length_append] at h1
  exact h1
end Go.Proofs.YtlcgbdjmlnjhcaaGreatDoor
