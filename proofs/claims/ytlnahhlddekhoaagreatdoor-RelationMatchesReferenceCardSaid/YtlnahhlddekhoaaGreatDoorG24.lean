/-
  The walks of slices.Grow at nil, slices.Concat of two lists.
  A slice of ints appended whole; slices.Concat of two lists.
  What relation.Of computes; a slice of slices of the call's own.
-/
import Derived.Test.YtlnahhlddekhoaaGreatDoorG23
import Derived.Lib.AppendZerosOnto
import Derived.Lib.Walk
import Derived.Deep.AppendLies
namespace Go.Proofs.YtlnahhlddekhoaaGreatDoor
open Go.RowKit

set_option maxRecDepth 100000 in
set_option maxHeartbeats 1000000 in
theorem Grow_any (n : Nat) (hn : n ≤ 1000000) (w : World) : Calls Tryz.prog 75 #[.slice none 0 0, .int .i64 n] w fun r w' => ∃ v, r = .returned v ∧ OwnInts w' w.heap.size v [] ∧ Ext w w' := by
  rcases Nat.eq_zero_or_pos n with h0 | h0
  · subst h0
    go_enter Tryz.func75, Tryz.ntmps75
    go_wp2_with fail
    go_ret
    exact ⟨_, rfl, OwnInts.nil _ _, Ext.refl _⟩
  · obtain ⟨i0, hi, hz0, hz1, hz2⟩ := info_parts infoInt
    have hrz : ∀ ty, (Builtin.append_ #[23, 3] ty #[.slice none 0 0, .int .i64 n]).run Tryz.prog w = .ok (.slice (some ⟨w.heap.size, 0, none⟩) n (grownCap w n 0 3)) (w.drew.alloc (.cells (([] : List Value).toArray ++ Builtin.zeroCells (Value.int .i64 0).cells n ++ Builtin.zeroCells (Value.int .i64 0).cells (grownCap w n 0 3 - n)) 3)) := fun ty => by
      have h := Lib.run_append_grow_zeros w 23 3 ty 3 i0 (.int .i64 0) .i64 .i64 Tryz.underlying23 Tryz.underlying3 hi hz0 none 0 0 [] (run_firstCells_none _ _ _ _ _) n h0 (by omega) (by omega) (by omega) (by rw [hz2]; omega) (by rw [hz2]; exact growslice_fits (by omega) (by omega))
      simpa using h
    have hG := grownCap_ge w n 0 3
    have hG2 := grownCap_le_maxLen w n 0 3 (by unfold maxLen; omega)
    generalize grownCap w n 0 3 = G at *
    have hsz : (([] : List Value).toArray ++ Builtin.zeroCells (Value.int .i64 0).cells n ++ Builtin.zeroCells (Value.int .i64 0).cells (G - n)).size = G := by
      simp [Builtin.zeroCells, Value.cells]; omega
    have HZ := Lib.hid hsz; have HRZ := Lib.hid hrz
    generalize (([] : List Value).toArray ++ Builtin.zeroCells (Value.int .i64 0).cells n ++ Builtin.zeroCells (Value.int .i64 0).cells (G - n)) = Z at *
    clear hsz hrz
    have hgm : G ≤ 9223372036854775807 := by unfold maxLen at hG2; omega
    have HG2 := Lib.hid hG2
    clear hG2
    go_enter Tryz.func75, Tryz.ntmps75
    go_wp2_with (at_builtin; refine Lib.wpList_append_run _ rfl _ _ _ _ rfl _ _ rfl rfl _ _ (HRZ.out _) ?_)
    go_ret
    exact ⟨_, rfl, ⟨rfl, .inr ⟨w.heap.size, G, Z, rfl, Nat.le_refl _, heap_new _ _, Nat.zero_le _, HG2.out, by rw [HZ.out]; omega, rfl⟩⟩, (Ext.refl w).drew.alloc _⟩
end Go.Proofs.YtlnahhlddekhoaaGreatDoor
namespace Go.Proofs.YtlnahhlddekhoaaGreatDoor
open Go.RowKit

/-- Nothing appended. -/
theorem append_nothing {w : World} {base : Nat} {v : Value} {l : List Int} (h : OwnInts w base v l) (ty : TypeId) (c : Nat) : (Builtin.append_ #[23, 23] ty #[v, .slice none 0 c]).run Tryz.prog w = .ok v w := by
  obtain ⟨i0, hi, hz0, hz1, hz2⟩ := info_parts infoInt
  have hu : Tryz.prog.underlying 23 = some (.slice 3) := Tryz.underlying23
  rcases h.2 with ⟨rfl, _⟩ | ⟨g, cap, cur, rfl, _, _, hn, _⟩
  · simp [Builtin.append_, run_underlying hu, sizeOf, typeInfo, hi, Builtin.lenOf, Builtin.firstCells]
  · simp [Builtin.append_, run_underlying hu, sizeOf, typeInfo, hi, Builtin.lenOf, Builtin.firstCells, hn, storeCells]
theorem wpList_append_list {ops : Array Oper} {rest : List Oper} {o : Oper} {a : Act} {w : World} {Q : Exit → Act → World → Prop} (hgd : o.guard = none) (s x : Operand)
    (ho : o.op = .call { callee := .builtin .append, args := #[s, x], argTypes := #[23, 23] }) (base : Nat) (v src : Value) (l l2 : List Int)
    (hs : a.eval s = v) (hx : a.eval x = src) (hown : OwnInts w base v l) (hsrc : Ints w src l2) (hl : l.length + l2.length ≤ 1000000000) (hb : base ≤ w.heap.size)
    (h : ∀ v' w', OwnInts w' base v' (l ++ l2) → w.grownBy w' v.ownBlock → wpList Tryz.prog ops Q rest (a.put o.dst v') w') : wpList Tryz.prog ops Q (o :: rest) a w := by
  obtain ⟨i0, hi, hz0, hz1, hz2⟩ := info_parts infoInt
  have key : ∀ (ad : Addr) (c : Nat), src = .slice (some ad) l2.length c → (∀ j u, (l2.map (Value.int .i64))[j]? = some u → w.cell? (ad.add j) = some u) → wpList Tryz.prog ops Q (o :: rest) a w := fun ad c he hn =>
    wpList_append_own _ hgd s x 23 ho base 3 i0 (.int .i64 0) 1 8 Tryz.underlying23 hi hz0 hz1 hz2 rfl (by decide) v l.length (l.map (Value.int .i64)) hs hown ad l2.length c (l2.map (Value.int .i64)) (hx.trans he) (by simp) hn
      (fun u hu => by obtain ⟨y, _, rfl⟩ := List.mem_map.1 hu; rfl) (by unfold maxLen; omega) (by omega) hb fun v' w' h1 h2 _ => h v' w' (by simpa [OwnInts] using h1) h2
  rcases hsrc with ⟨⟨A, c, rfl⟩, rfl⟩ | ⟨b, of, cap, rfl, hm, hc⟩
  · cases A with
    | some ad => exact key ad c rfl (fun j u hu => by simp at hu)
    | none =>
      refine wpList_plain hgd fun K hK => ?_
      unfold Oper.wp execOp
      simp only [ho, resolve, invoke, builtin, Sem.run_bind, Sem.run_pure, Result.andThen_ok, List.map_toArray, List.map_cons, List.map_nil, hs, hx, append_nothing hown]
      exact hK _ _ (h v w (by simpa using hown) (World.grownBy.refl w _))
  · refine key ⟨b, of, none⟩ cap rfl fun j u hu => ?_
    have hj : j < l2.length := by
      have := (List.getElem?_eq_some_iff.1 hu).1; simpa using this
    have hadd : (⟨b, of, none⟩ : Addr).add j = ⟨b, of + j, none⟩ := by unfold Addr.add; split <;> simp_all
    have := hc j hj
    rw [Nat.mul_one] at this
    rw [hadd]
    have e : u = .int .i64 l2[j] := by simpa [hj] using hu.symm
    rw [e]; exact this

/-- What has come of two lists. -/
def twoTo (l1 l2 : List Int) (k : Nat) : List Int := if k = 0 then [] else if k = 1 then l1 else l1 ++ l2
set_option maxRecDepth 100000 in
set_option maxHeartbeats 2000000 in
theorem Concat_any (l1 l2 : List Int) (b : Nat) (a1 a2 : Option Addr) (c1 c2 : Nat) (w : World) (g0 : w.cell? ⟨b, 0, none⟩ = some (.slice a1 l1.length c1)) (g1 : w.cell? ⟨b, 1, none⟩ = some (.slice a2 l2.length c2)) (h1 : Ints w (.slice a1 l1.length c1) l1) (h2 : Ints w (.slice a2 l2.length c2) l2) (k1 : l1.length ≤ 1000) (k2 : l2.length ≤ 1000) :
    Calls Tryz.prog 34 #[.slice (some ⟨b, 0, none⟩) 2 2] w fun r w' => ∃ v, r = .returned v ∧ OwnInts w' w.heap.size v (l1 ++ l2) ∧ Ext w w' := by
  have H1 := Lib.hid h1; have H2 := Lib.hid h2
  clear h1 h2
  go_enter Tryz.func34, Tryz.ntmps34
  go_wp2_with fail
  go_loop [3, 11] (fun z i => ∃ k : Nat, k ≤ 2 ∧ i = .int .i64 k ∧ z = .int .i64 ((twoTo l1 l2 k).length : Nat)) (fun _ i => 2 - (intOf i).toNat)
  case atStart => exact ⟨0, by omega, rfl, rfl⟩
  case round =>
    obtain ⟨k, hk, rfl, rfl⟩ := hrel
    have hcase : k = 0 ∨ k = 1 ∨ k = 2 := by omega
    rcases hcase with rfl | rfl | rfl
    · have e0 : (twoTo l1 l2 0).length = 0 := rfl
      have E1 : Hid ((twoTo l1 l2 1).length = l1.length) := rfl
      rw [e0]
      go_wp2_with fail
      exact ⟨⟨1, by omega, rfl, by rw [E1.out]⟩, by simp [intOf]⟩
    · have e0 : (twoTo l1 l2 1).length = l1.length := rfl
      have E1 : Hid ((twoTo l1 l2 2).length = l1.length + l2.length) := by unfold Hid; simp [twoTo]
      rw [e0]
      go_wp2_with fail
      exact ⟨⟨2, by omega, rfl, by rw [E1.out]; go_num⟩, by simp [intOf]⟩
    · have E1 : (twoTo l1 l2 2).length = l1.length + l2.length := by simp [twoTo]
      rw [E1]
      clear E1
      go_wp2_with fail
      have hgr := Grow_any (l1.length + l2.length) (by omega) w
      rw [show ((l1.length + l2.length : Nat) : Int) = (l1.length : Int) + (l2.length : Int) by omega] at hgr
      refine hgr.mono ?_
      clear hgr
      rintro r w1 ⟨v, rfl, hv, x1⟩
      obtain ⟨va, vcp, rfl⟩ := hv.ints.shape
      have HV := Lib.hid hv; have X1 := Lib.hid x1
      clear hv x1
      go_wp2_with fail
      go_loopw [6, 27] (fun v i wr => ∃ k : Nat, k ≤ 2 ∧ i = .int .i64 k ∧ Ext w wr ∧ OwnInts wr w.heap.size v (twoTo l1 l2 k)) (fun _ i _ => 2 - (intOf i).toNat)
      case atStart => exact ⟨0, by omega, rfl, X1.out, HV.out⟩
      case round =>
        obtain ⟨k, hk, rfl, hX, hO⟩ := hrel
        have HX := Lib.hid hX; have HO := Lib.hid hO
        clear hX hO
        have d0 := HX.out.cell g0; have d1 := HX.out.cell g1
        have hz : w.heap.size ≤ wr.heap.size := HX.out.size
        have hcase : k = 0 ∨ k = 1 ∨ k = 2 := by omega
        rcases hcase with rfl | rfl | rfl
        · have E0 : Hid (twoTo l1 l2 0 = []) := rfl
          have E1 : Hid (twoTo l1 l2 1 = [] ++ l1) := rfl
          rw [E0.out] at HO
          have I1 := Lib.hid (H1.out.ext HX.out)
          go_wp2_with (at_builtin; refine wpList_append_list rfl (.tmp 31) (.tmp 32) rfl w.heap.size _ _ _ l1 rfl rfl HO.out I1.out (by simp; omega) hz ?_)
          intro v' w' hown' hg
          have hx' : Ext w w' := HX.out.grown hg (fun q hq => HO.out.base q hq)
          have HO' := Lib.hid hown'; have HX' := Lib.hid hx'
          clear hown' hx' hg
          go_wp2_with fail
          exact ⟨⟨1, by omega, rfl, HX'.out, by rw [E1.out]; exact HO'.out⟩, by simp [intOf]⟩
        · have E0 : Hid (twoTo l1 l2 1 = l1) := rfl
          have E1 : Hid (twoTo l1 l2 2 = l1 ++ l2) := rfl
          rw [E0.out] at HO
          have I1 := Lib.hid (H2.out.ext HX.out)
          go_wp2_with (at_builtin; refine wpList_append_list rfl (.tmp 31) (.tmp 32) rfl w.heap.size _ _ _ l2 rfl rfl HO.out I1.out (by omega) hz ?_)
          intro v' w' hown' hg
          have hx' : Ext w w' := HX.out.grown hg (fun q hq => HO.out.base q hq)
          have HO' := Lib.hid hown'; have HX' := Lib.hid hx'
          clear hown' hx' hg
          go_wp2_with fail
          exact ⟨⟨2, by omega, rfl, HX'.out, by rw [E1.out]; exact HO'.out⟩, by simp [intOf]⟩
        · have E0 : Hid (twoTo l1 l2 2 = l1 ++ l2) := rfl
          rw [E0.out] at HO
          go_wp2_with fail
          go_ret
          exact ⟨_, rfl, HO.out, HX.out⟩
end Go.Proofs.YtlnahhlddekhoaaGreatDoor
namespace Go.Proofs.YtlnahhlddekhoaaGreatDoor
open Go.RowKit

/-- The pairs found when row x has been seen up to column y. -/
def relTo (n : Nat) (P : Nat → Nat → Bool) (x y : Nat) : List (Nat × Nat) := ((List.range x).flatMap fun i => ((List.range n).filter (P i)).map fun j => (i, j)) ++ ((List.range y).filter (P x)).map fun j => (x, j)
theorem relTo_yes {n : Nat} {P : Nat → Nat → Bool} {x y : Nat} (h : P x y = true) : relTo n P x (y + 1) = relTo n P x y ++ [(x, y)] := by
  unfold relTo
  rw [List.range_succ, List.filter_append, List.map_append, ← List.append_assoc]
  simp [h]
theorem relTo_no {n : Nat} {P : Nat → Nat → Bool} {x y : Nat} (h : P x y = false) : relTo n P x (y + 1) = relTo n P x y := by
  unfold relTo
  rw [List.range_succ, List.filter_append, List.map_append]
  simp [h]
theorem relTo_row (n : Nat) (P : Nat → Nat → Bool) (x : Nat) : relTo n P x n = relTo n P (x + 1) 0 := by
  unfold relTo
  rw [List.range_succ, List.flatMap_append]
  simp
theorem mem_relTo {n : Nat} {P : Nat → Nat → Bool} {x y i j : Nat} : (i, j) ∈ relTo n P x y ↔ P i j = true ∧ ((i < x ∧ j < n) ∨ (i = x ∧ j < y)) := by
  unfold relTo
  rw [List.mem_append]
  simp only [List.mem_flatMap, List.mem_map, List.mem_filter, List.mem_range, Prod.mk.injEq]
  constructor
  · rintro (⟨a, ha, b, ⟨hb, hp⟩, rfl, rfl⟩ | ⟨b, ⟨hb, hp⟩, rfl, rfl⟩)
    · exact ⟨hp, .inl ⟨ha, hb⟩⟩
    · exact ⟨hp, .inr ⟨rfl, hb⟩⟩
  · rintro ⟨hp, ⟨h1, h2⟩ | ⟨rfl, h2⟩⟩
    · exact .inl ⟨i, h1, j, ⟨h2, hp⟩, rfl, rfl⟩
    · exact .inr ⟨j, ⟨h2, hp⟩, rfl, rfl⟩
theorem relTo_sorted (n : Nat) (P : Nat → Nat → Bool) (x : Nat) : (relTo n P x 0).Pairwise ltP := by
  have e : relTo n P x 0 = (List.range x).flatMap fun i => ((List.range n).filter (P i)).map fun j => (i, j) := by simp [relTo]
  rw [e]
  induction x with
  | zero => simp
  | succ x ih =>
    rw [List.range_succ, List.flatMap_append, List.pairwise_append]
    refine ⟨ih (by simp [relTo]), ?_, ?_⟩
    · simp only [List.flatMap_cons, List.flatMap_nil, List.append_nil, List.pairwise_map]
      exact (List.Pairwise.filter _ List.pairwise_lt_range).imp fun h => .inr ⟨rfl, h⟩
    · intro p hp q hq
      simp only [List.mem_flatMap, List.mem_map, List.mem_range, List.mem_cons, List.not_mem_nil, or_false] at hp hq
      obtain ⟨a, ha, b, _, rfl⟩ := hp
      obtain ⟨a', rfl, b', _, rfl⟩ := hq
      exact .inl ha
theorem pairs_relTo {n : Nat} {P : Nat → Nat → Bool} (hn : n ≤ 64) : pairsM (rowsL (relTo n P n 0)) = relTo n P n 0 := by
  refine pairs_rows (relTo_sorted n P n) fun p hp => ?_
  obtain ⟨i, j⟩ := p
  have := (mem_relTo.1 hp).2
  simp only
  omega

def supR (list : List Int) (e : E) : Bool := (e.supOld ++ e.supNow).all fun c => list.contains c
def relErr (cells : List CellD) (list : List Int) (e : E) : Int :=
  if shapeErr cells list = 0 then if e.valid cells true && decide (e.wd = 1) then if supR list e then 0 else 1 else 60 else shapeErr cells list
def relB (cells : List CellD) (list : List Int) (e : E) (x y : Nat) : Bool := decide (e.eval (stN list (wOf cells list) x) (stN list (wOf cells list) y) = 1)
def relP (cells : List CellD) (list : List Int) (e : E) : List (Nat × Nat) := relTo (pw (sumI (wOf cells list))).toNat (relB cells list e) (pw (sumI (wOf cells list))).toNat 0
def RelPost (cells : List CellD) (list : List Int) (e : E) (w : World) (r : Ending) (w' : World) : Prop :=
  if relErr cells list e = 0 then RelRes 0 list (wOf cells list) (castP (relP cells list e)) w r w' else RelRes (relErr cells list e) [] [] [] w r w'
theorem RelPost.bad {cells : List CellD} {list : List Int} {e : E} {w w' : World} {k : Int} (h : relErr cells list e = k) (hk : k ≠ 0) (hx : Ext w w') : RelPost cells list e w (.returned (.tuple #[.agg #[.slice none 0 0, .slice none 0 0, .slice none 0 0], .int .i64 k])) w' := by
  unfold RelPost; rw [h, if_neg hk]; exact ⟨_, rfl, RelO.nil _ _, hx⟩

theorem infoSlI : (Tryz.prog.info? 23).map (fun i => (i.zero, i.size, i.bytes)) = some (some (.slice none 0 0), 1, 24) := by kernel_rfl
/-- A row of the call's own that holds slices of the call's own. -/
structure OwnL (w : World) (base : Nat) (v : Value) (vs : List Value) (f : Nat → List Int) : Prop where
  row : w.ownsRow base 23 1 v vs.length vs
  el : ∀ (i : Nat) (h : i < vs.length), OwnInts w 0 vs[i] (f i) ∧ ∀ k, vs[i].ownBlock = some k → v.ownBlock ≠ some k
theorem OwnL.nil (w : World) (base : Nat) (f : Nat → List Int) : OwnL w base (.slice none 0 0) [] f := ⟨⟨rfl, .inl ⟨rfl, rfl⟩⟩, fun i h => absurd h (by simp)⟩
theorem ownRow_kept {w w' : World} {base e n : Nat} {v : Value} {sz : Nat} {xs : List Value} (h : w.ownsRow base e sz v n xs) (hx : Ext w w') : w'.ownsRow base e sz v n xs := by
  refine ⟨h.1, ?_⟩
  rcases h.2 with h2 | ⟨g, cap, cur, hv, hg, hh, r⟩
  · exact .inl h2
  · exact .inr ⟨g, cap, cur, hv, hg, by rw [hx.block g (Array.getElem?_eq_some_iff.1 hh).1]; exact hh, r⟩
theorem OwnL.kept {w w' : World} {base : Nat} {v : Value} {vs : List Value} {f : Nat → List Int} (h : OwnL w base v vs f) (hx : Ext w w') : OwnL w' base v vs f := ⟨ownRow_kept h.row hx, fun i hi => ⟨(h.el i hi).1.kept hx, (h.el i hi).2⟩⟩
theorem OwnL.shape {w : World} {base : Nat} {v : Value} {vs : List Value} {f : Nat → List Int} (h : OwnL w base v vs f) : ∃ a c, v = .slice a vs.length c := by
  rcases h.row.2 with ⟨rfl, hl⟩ | ⟨g, cap, cur, rfl, _⟩
  · exact ⟨none, 0, by rw [hl]⟩
  · exact ⟨_, _, rfl⟩
theorem OwnL.base {w : World} {base : Nat} {v : Value} {vs : List Value} {f : Nat → List Int} (h : OwnL w base v vs f) (k : Nat) (hk : v.ownBlock = some k) : base ≤ k ∧ k < w.heap.size := by
  rcases h.row.2 with ⟨rfl, _⟩ | ⟨g, cap, cur, rfl, hg, hh, _⟩
  · cases hk
  · simp [Value.ownBlock] at hk
    subst hk
    exact ⟨hg, (Array.getElem?_eq_some_iff.1 hh).1⟩
theorem OwnInts.one {w : World} {base : Nat} {v : Value} {l : List Int} (h : OwnInts w base v l) : v.oneCell' = true := by
  rcases h.2 with ⟨rfl, _⟩ | ⟨g, cap, cur, rfl, _⟩ <;> rfl
theorem OwnInts.mono0 {w : World} {base : Nat} {v : Value} {l : List Int} (h : OwnInts w base v l) : OwnInts w 0 v l := by
  refine ⟨h.1, ?_⟩
  rcases h.2 with h2 | ⟨g, cap, cur, hv, hg, r⟩
  · exact .inl h2
  · exact .inr ⟨g, cap, cur, hv, Nat.zero_le _, r⟩
theorem wpList_append_lists {ops : Array Oper} {rest : List Oper} {o : Oper} {a : Act} {Q : Exit → Act → World → Prop} (hgd : o.guard = none) (s x : Operand)
    (ho : o.op = .call { callee := .builtin .append, args := #[s, x], argTypes := #[61, 61] }) (base : Nat) (wr : World) (v kv : Value) (vs : List Value) (f : Nat → List Int) (B : Nat)
    (hs : a.eval s = v) (hx : a.eval x = .slice (some ⟨wr.heap.size, 0, none⟩) 1 1) (hown : OwnL wr base v vs f) (hk : OwnInts wr B kv (f vs.length)) (hkv : ∀ k, kv.ownBlock = some k → v.ownBlock ≠ some k) (hl : vs.length ≤ 1000000) (hb : base ≤ wr.heap.size)
    (h : ∀ g cap w', OwnL w' base (.slice (some ⟨g, 0, none⟩) (vs.length + 1) cap) (vs ++ [kv]) f → wr.grownBy w' v.ownBlock → wpList Tryz.prog ops Q rest (a.put o.dst (.slice (some ⟨g, 0, none⟩) (vs.length + 1) cap)) w') :
    wpList Tryz.prog ops Q (o :: rest) a (wr.alloc (.cells #[kv] 23)) := by
  obtain ⟨i0, hi, hz0, hz1, hz2⟩ := info_parts infoSlI
  have hx0 : Ext wr (wr.alloc (.cells #[kv] 23)) := (Ext.refl wr).alloc _
  refine wpList_append_lies _ hgd s x 61 ho base 23 i0 _ 1 24 Tryz.underlying61 hi hz0 hz1 hz2 rfl (by decide) v vs.length vs hs (ownRow_kept hown.row hx0) ⟨wr.heap.size, 0, none⟩ 1 1 [kv] hx rfl ?_ ?_ (by decide) ?_ ?_ ?_ (wr.heap.size + 1) (by simp) ?_
  · intro j u hj
    obtain ⟨rfl, rfl⟩ : j = 0 ∧ u = kv := by
      cases j with
      | zero => simp at hj; exact ⟨rfl, hj.symm⟩
      | succ j => simp at hj
    simp [Addr.add]
  · intro u hu; simp at hu; subst hu; exact hk.one
  · unfold maxLen; omega
  · omega
  · simp; omega
  · intro g cap w' h1 h2 h3 h4
    have hgr : wr.grownBy w' v.ownBlock := ⟨h2.os, h2.tape, h2.output, by have := h2.size; simp at this; omega, fun k hk hne => by rw [h2.block k (by simp; omega) hne]; exact Below.heap_alloc wr _ k hk⟩
    have key : ∀ (u : Value) (l : List Int), OwnInts wr 0 u l → (∀ k, u.ownBlock = some k → v.ownBlock ≠ some k) → OwnInts w' 0 u l ∧ ∀ k, u.ownBlock = some k → (Value.slice (some ⟨g, 0, none⟩) (vs.length + 1) cap).ownBlock ≠ some k := by
      intro u l hu hne
      refine ⟨hu.keep fun k hk => hgr.block k (own_lt hu k hk) fun c => hne k hk c.symm, fun k hk hc => ?_⟩
      simp only [Value.ownBlock, Option.some.injEq] at hc
      have := own_lt hu k hk
      rcases h3 with h3 | h3
      · exact hne k hk (by rw [h3, hc])
      · omega
    refine h g cap w' ⟨by simpa using h1, fun i hi => ?_⟩ hgr
    rw [List.length_append, List.length_singleton] at hi
    by_cases c : i < vs.length
    · rw [List.getElem_append_left c]
      exact key _ _ (hown.el i c).1 (hown.el i c).2
    · obtain rfl : i = vs.length := by omega
      rw [List.getElem_append_right (Nat.le_refl _)]
      simp only [Nat.sub_self, List.getElem_cons_zero]
      exact key _ _ hk.mono0 hkv
/-- The slices of a slice. -/
def AllAt (w : World) (v : Value) (n : Nat) (f : Nat → List Int) : Prop := ∃ g cap, v = .slice (some ⟨g, 0, none⟩) n cap ∧ n ≤ 1000000 ∧ ∀ i, i < n → ∃ a c, w.cell? ⟨g, i, none⟩ = some (.slice a (f i).length c) ∧ Ints w (.slice a (f i).length c) (f i)
theorem AllAt.ext {w w' : World} {v : Value} {n : Nat} {f : Nat → List Int} (h : AllAt w v n f) (hx : Ext w w') : AllAt w' v n f := by
  obtain ⟨g, cap, h1, h2, h3⟩ := h
  refine ⟨g, cap, h1, h2, fun i hi => ?_⟩
  obtain ⟨a, c, h4, h5⟩ := h3 i hi
  exact ⟨a, c, hx.cell h4, h5.ext hx⟩
theorem OwnL.all {w : World} {base : Nat} {v : Value} {vs : List Value} {f : Nat → List Int} (h : OwnL w base v vs f) (h0 : 0 < vs.length) (h1 : vs.length ≤ 1000000) : AllAt w v vs.length f := by
  rcases h.row.2 with ⟨rfl, hl⟩ | ⟨g, cap, cur, rfl, _, hh, hn, hc, hs, ht⟩
  · omega
  · refine ⟨g, cap, rfl, h1, fun i hi => ?_⟩
    have hO := (h.el i hi).1
    obtain ⟨a, c, e⟩ := hO.ints.shape
    refine ⟨a, c, ?_, by rw [← e]; exact hO.ints⟩
    rw [← e]
    have e1 := congrArg (fun x => x[i]?) ht
    rw [List.getElem?_take_of_lt (by omega)] at e1
    simp only [World.cell?, hh]
    rw [List.getElem?_eq_getElem hi] at e1
    simpa using e1
end Go.Proofs.YtlnahhlddekhoaaGreatDoor
