/-
  What relation.Of computes; a slice of slices of the call's own.
  The walk of relation.Of. Printed by gen_rof.py.
-/
import Derived.Test.YtlnahhlddekhoaaDoorMOfb
import Derived.Test.YtlnahhlddekhoaaDoorMOfc
import Derived.Deep.AppendLies
namespace Go.Proofs.YtlnahhlddekhoaaDoor
open Go.RowKit

/-- The pairs found when row x has been seen up to column y. -/
def relTo (n : Nat) (P : Nat → Nat → Bool) (x y : Nat) : List (Nat × Nat) := ((List.range x).flatMap fun i => ((List.range n).filter (P i)).map fun j => (i, j)) ++ ((List.range y).filter (P x)).map fun j => (x, j)
theorem relTo_yes {n : Nat} {P : Nat → Nat → Bool} {x y : Nat} (h : P x y = true) : relTo n P x (y + 1) = relTo n P x y ++ [(x, y)] := by
  unfold relTo
  rw [List.range_succ, List.filter_append, List.map_append, ← List.append_assoc]
  simp [h]
theorem relTo_no {n : Nat} {P : Nat → Nat → Bool} {x y : Nat} (h : P x y = false) : relTo n P x (y + 1) = relTo n P x y := by
  unfold relTo
  rw [List.range_succ, List.filter_append, List.map_append]
  simp [h]
theorem relTo_row (n : Nat) (P : Nat → Nat → Bool) (x : Nat) : relTo n P x n = relTo n P (x + 1) 0 := by
  unfold relTo
  rw [List.range_succ, List.flatMap_append]
  simp
theorem mem_relTo {n : Nat} {P : Nat → Nat → Bool} {x y i j : Nat} : (i, j) ∈ relTo n P x y ↔ P i j = true ∧ ((i < x ∧ j < n) ∨ (i = x ∧ j < y)) := by
  unfold relTo
  rw [List.mem_append]
  simp only [List.mem_flatMap, List.mem_map, List.mem_filter, List.mem_range, Prod.mk.injEq]
  constructor
  · rintro (⟨a, ha, b, ⟨hb, hp⟩, rfl, rfl⟩ | ⟨b, ⟨hb, hp⟩, rfl, rfl⟩)
    · exact ⟨hp, .inl ⟨ha, hb⟩⟩
    · exact ⟨hp, .inr ⟨rfl, hb⟩⟩
  · rintro ⟨hp, ⟨h1, h2⟩ | ⟨rfl, h2⟩⟩
    · exact .inl ⟨i, h1, j, ⟨h2, hp⟩, rfl, rfl⟩
    · exact .inr ⟨j, ⟨h2, hp⟩, rfl, rfl⟩
theorem relTo_sorted (n : Nat) (P : Nat → Nat → Bool) (x : Nat) : (relTo n P x 0).Pairwise ltP := by
  have e : relTo n P x 0 = (List.range x).flatMap fun i => ((List.range n).filter (P i)).map fun j => (i, j) := by simp [relTo]
  rw [e]
  induction x with
  | zero => simp
  | succ x ih =>
    rw [List.range_succ, List.flatMap_append, List.pairwise_append]
    refine ⟨ih (by simp [relTo]), ?_, ?_⟩
    · simp only [List.flatMap_cons, List.flatMap_nil, List.append_nil, List.pairwise_map]
      exact (List.Pairwise.filter _ List.pairwise_lt_range).imp fun h => .inr ⟨rfl, h⟩
    · intro p hp q hq
      simp only [List.mem_flatMap, List.mem_map, List.mem_range, List.mem_cons, List.not_mem_nil, or_false] at hp hq
      obtain ⟨a, ha, b, _, rfl⟩ := hp
      obtain ⟨a', rfl, b', _, rfl⟩ := hq
      exact .inl ha
theorem pairs_relTo {n : Nat} {P : Nat → Nat → Bool} (hn : n ≤ 64) : pairsM (rowsL (relTo n P n 0)) = relTo n P n 0 := by
  refine pairs_rows (relTo_sorted n P n) fun p hp => ?_
  obtain ⟨i, j⟩ := p
  have := (mem_relTo.1 hp).2
  simp only
  omega

def supR (list : List Int) (e : E) : Bool := (e.supOld ++ e.supNow).all fun c => list.contains c
def relErr (cells : List CellD) (list : List Int) (e : E) : Int :=
  if shapeErr cells list = 0 then if e.valid cells true && decide (e.wd = 1) then if supR list e then 0 else 1 else 60 else shapeErr cells list
def relB (cells : List CellD) (list : List Int) (e : E) (x y : Nat) : Bool := decide (e.eval (stN list (wOf cells list) x) (stN list (wOf cells list) y) = 1)
def relP (cells : List CellD) (list : List Int) (e : E) : List (Nat × Nat) := relTo (pw (sumI (wOf cells list))).toNat (relB cells list e) (pw (sumI (wOf cells list))).toNat 0
def RelPost (cells : List CellD) (list : List Int) (e : E) (w : World) (r : Ending) (w' : World) : Prop :=
  if relErr cells list e = 0 then RelRes 0 list (wOf cells list) (castP (relP cells list e)) w r w' else RelRes (relErr cells list e) [] [] [] w r w'
theorem RelPost.bad {cells : List CellD} {list : List Int} {e : E} {w w' : World} {k : Int} (h : relErr cells list e = k) (hk : k ≠ 0) (hx : Ext w w') : RelPost cells list e w (.returned (.tuple #[.agg #[.slice none 0 0, .slice none 0 0, .slice none 0 0], .int .i64 k])) w' := by
  unfold RelPost; rw [h, if_neg hk]; exact ⟨_, rfl, RelO.nil _ _, hx⟩

theorem infoSlI : (Tryd.prog.info? 22).map (fun i => (i.zero, i.size, i.bytes)) = some (some (.slice none 0 0), 1, 24) := by kernel_rfl
/-- A row of the call's own that holds slices of the call's own. -/
structure OwnL (w : World) (base : Nat) (v : Value) (vs : List Value) (f : Nat → List Int) : Prop where
  row : w.ownsRow base 22 1 v vs.length vs
  el : ∀ (i : Nat) (h : i < vs.length), OwnInts w 0 vs[i] (f i) ∧ ∀ k, vs[i].ownBlock = some k → v.ownBlock ≠ some k
theorem OwnL.nil (w : World) (base : Nat) (f : Nat → List Int) : OwnL w base (.slice none 0 0) [] f := ⟨⟨rfl, .inl ⟨rfl, rfl⟩⟩, fun i h => absurd h (by simp)⟩
theorem ownRow_kept {w w' : World} {base e n : Nat} {v : Value} {sz : Nat} {xs : List Value} (h : w.ownsRow base e sz v n xs) (hx : Ext w w') : w'.ownsRow base e sz v n xs := by
  refine ⟨h.1, ?_⟩
  rcases h.2 with h2 | ⟨g, cap, cur, hv, hg, hh, r⟩
  · exact .inl h2
  · exact .inr ⟨g, cap, cur, hv, hg, by rw [hx.block g (Array.getElem?_eq_some_iff.1 hh).1]; exact hh, r⟩
theorem OwnL.kept {w w' : World} {base : Nat} {v : Value} {vs : List Value} {f : Nat → List Int} (h : OwnL w base v vs f) (hx : Ext w w') : OwnL w' base v vs f := ⟨ownRow_kept h.row hx, fun i hi => ⟨(h.el i hi).1.kept hx, (h.el i hi).2⟩⟩
theorem OwnL.shape {w : World} {base : Nat} {v : Value} {vs : List Value} {f : Nat → List Int} (h : OwnL w base v vs f) : ∃ a c, v = .slice a vs.length c := by
  rcases h.row.2 with ⟨rfl, hl⟩ | ⟨g, cap, cur, rfl, _⟩
  · exact ⟨none, 0, by rw [hl]⟩
  · exact ⟨_, _, rfl⟩
theorem OwnL.base {w : World} {base : Nat} {v : Value} {vs : List Value} {f : Nat → List Int} (h : OwnL w base v vs f) (k : Nat) (hk : v.ownBlock = some k) : base ≤ k ∧ k < w.heap.size := by
  rcases h.row.2 with ⟨rfl, _⟩ | ⟨g, cap, cur, rfl, hg, hh, _⟩
  · cases hk
  · simp [Value.ownBlock] at hk
    subst hk
    exact ⟨hg, (Array.getElem?_eq_some_iff.1 hh).1⟩
theorem OwnInts.one {w : World} {base : Nat} {v : Value} {l : List Int} (h : OwnInts w base v l) : v.oneCell' = true := by
  rcases h.2 with ⟨rfl, _⟩ | ⟨g, cap, cur, rfl, _⟩ <;> rfl
theorem OwnInts.mono0 {w : World} {base : Nat} {v : Value} {l : List Int} (h : OwnInts w base v l) : OwnInts w 0 v l := by
  refine ⟨h.1, ?_⟩
  rcases h.2 with h2 | ⟨g, cap, cur, hv, hg, r⟩
  · exact .inl h2
  · exact .inr ⟨g, cap, cur, hv, Nat.zero_le _, r⟩
theorem wpList_append_lists {ops : Array Oper} {rest : List Oper} {o : Oper} {a : Act} {Q : Exit → Act → World → Prop} (hgd : o.guard = none) (s x : Operand)
    (ho : o.op = .call { callee := .builtin .append, args := #[s, x], argTypes := #[88, 88] }) (base : Nat) (wr : World) (v kv : Value) (vs : List Value) (f : Nat → List Int) (B : Nat)
    (hs : a.eval s = v) (hx : a.eval x = .slice (some ⟨wr.heap.size, 0, none⟩) 1 1) (hown : OwnL wr base v vs f) (hk : OwnInts wr B kv (f vs.length)) (hkv : ∀ k, kv.ownBlock = some k → v.ownBlock ≠ some k) (hl : vs.length ≤ 1000000) (hb : base ≤ wr.heap.size)
    (h : ∀ g cap w', OwnL w' base (.slice (some ⟨g, 0, none⟩) (vs.length + 1) cap) (vs ++ [kv]) f → wr.grownBy w' v.ownBlock → wpList Tryd.prog ops Q rest (a.put o.dst (.slice (some ⟨g, 0, none⟩) (vs.length + 1) cap)) w') :
    wpList Tryd.prog ops Q (o :: rest) a (wr.alloc (.cells #[kv] 22)) := by
  obtain ⟨i0, hi, hz0, hz1, hz2⟩ := info_parts infoSlI
  have hx0 : Ext wr (wr.alloc (.cells #[kv] 22)) := (Ext.refl wr).alloc _
  refine wpList_append_lies _ hgd s x 88 ho base 22 i0 _ 1 24 Tryd.underlying88 hi hz0 hz1 hz2 rfl (by decide) v vs.length vs hs (ownRow_kept hown.row hx0) ⟨wr.heap.size, 0, none⟩ 1 1 [kv] hx rfl ?_ ?_ (by decide) ?_ ?_ ?_ (wr.heap.size + 1) (by simp) ?_
  · intro j u hj
    obtain ⟨rfl, rfl⟩ : j = 0 ∧ u = kv := by
      cases j with
      | zero => simp at hj; exact ⟨rfl, hj.symm⟩
      | succ j => simp at hj
    simp [Addr.add]
  · intro u hu; simp at hu; subst hu; exact hk.one
  · unfold maxLen; omega
  · omega
  · simp; omega
  · intro g cap w' h1 h2 h3 h4
    have hgr : wr.grownBy w' v.ownBlock := ⟨h2.os, h2.tape, h2.output, by have := h2.size; simp at this; omega, fun k hk hne => by rw [h2.block k (by simp; omega) hne]; exact Below.heap_alloc wr _ k hk⟩
    have key : ∀ (u : Value) (l : List Int), OwnInts wr 0 u l → (∀ k, u.ownBlock = some k → v.ownBlock ≠ some k) → OwnInts w' 0 u l ∧ ∀ k, u.ownBlock = some k → (Value.slice (some ⟨g, 0, none⟩) (vs.length + 1) cap).ownBlock ≠ some k := by
      intro u l hu hne
      refine ⟨hu.keep fun k hk => hgr.block k (own_lt hu k hk) fun c => hne k hk c.symm, fun k hk hc => ?_⟩
      simp only [Value.ownBlock, Option.some.injEq] at hc
      have := own_lt hu k hk
      rcases h3 with h3 | h3
      · exact hne k hk (by rw [h3, hc])
      · omega
    refine h g cap w' ⟨by simpa using h1, fun i hi => ?_⟩ hgr
    rw [List.length_append, List.length_singleton] at hi
    by_cases c : i < vs.length
    · rw [List.getElem_append_left c]
      exact key _ _ (hown.el i c).1 (hown.el i c).2
    · obtain rfl : i = vs.length := by omega
      rw [List.getElem_append_right (Nat.le_refl _)]
      simp only [Nat.sub_self, List.getElem_cons_zero]
      exact key _ _ hk.mono0 hkv
/-- The slices of a slice. -/
def AllAt (w : World) (v : Value) (n : Nat) (f : Nat → List Int) : Prop := ∃ g cap, v = .slice (some ⟨g, 0, none⟩) n cap ∧ n ≤ 1000000 ∧ ∀ i, i < n → ∃ a c, w.cell? ⟨g, i, none⟩ = some (.slice a (f i).length c) ∧ Ints w (.slice a (f i).length c) (f i)
theorem AllAt.ext {w w' : World} {v : Value} {n : Nat} {f : Nat → List Int} (h : AllAt w v n f) (hx : Ext w w') : AllAt w' v n f := by
  obtain ⟨g, cap, h1, h2, h3⟩ := h
  refine ⟨g, cap, h1, h2, fun i hi => ?_⟩
  obtain ⟨a, c, h4, h5⟩ := h3 i hi
  exact ⟨a, c, hx.cell h4, h5.ext hx⟩
theorem OwnL.all {w : World} {base : Nat} {v : Value} {vs : List Value} {f : Nat → List Int} (h : OwnL w base v vs f) (h0 : 0 < vs.length) (h1 : vs.length ≤ 1000000) : AllAt w v vs.length f := by
  rcases h.row.2 with ⟨rfl, hl⟩ | ⟨g, cap, cur, rfl, _, hh, hn, hc, hs, ht⟩
  · omega
  · refine ⟨g, cap, rfl, h1, fun i hi => ?_⟩
    have hO := (h.el i hi).1
    obtain ⟨a, c, e⟩ := hO.ints.shape
    refine ⟨a, c, ?_, by rw [← e]; exact hO.ints⟩
    rw [← e]
    have e1 := congrArg (fun x => x[i]?) ht
    rw [List.getElem?_take_of_lt (by omega)] at e1
    simp only [World.cell?, hh]
    rw [List.getElem?_eq_getElem hi] at e1
    simpa using e1
end Go.Proofs.YtlnahhlddekhoaaDoor
namespace Go.Proofs.YtlnahhlddekhoaaDoor
open Go.RowKit

theorem rowsL_app (l : List (Nat × Nat)) (p : Nat × Nat) : rowsL (l ++ [p]) = orAt (rowsL l) p.1 (1 <<< p.2) := by unfold rowsL; rw [List.foldl_append]; rfl
theorem sup_len (e : E) : e.supOld.length ≤ 32 := by
  unfold E.supOld; split
  · exact upTo_length _ _
  · simp
theorem sup_len2 (e : E) : e.supNow.length ≤ 32 := by
  unfold E.supNow; split
  · exact upTo_length _ _
  · simp

set_option maxRecDepth 100000 in
set_option maxHeartbeats 4000000 in
theorem ROf_any (cells : List CellD) (list : List Int) (e : E) (vc vl ve : Value) (w : World) (hc : Cells w vc cells) (hl : Ints w vl list) (he : EVal w ve e) (hb : list.length ≤ 1000000) (hM : Masks w) (hT : DeB w) : Calls Tryd.prog 30 #[vc, vl, ve] w (RelPost cells list e w) := by
  obtain ⟨ca, cc, rfl⟩ := hc.shape
  obtain ⟨la, lc, rfl⟩ := hl.shape
  obtain ⟨ek, rfl, hek⟩ := he
  obtain ⟨ka, kc, rfl⟩ := SliceAt.shape hek
  obtain ⟨W, hW⟩ : ∃ W, Boxes w W (.cells #[.int .i64 e.op, .int .i64 e.wd, .int .i64 e.n, .slice ka e.kids.length kc] 53) (.cells #[.slice none 0 0, .slice none 0 0, .slice none 0 0] 25) := ⟨_, Boxes.mk' _ _ _⟩
  have hx := hW.ext
  have hE : EVal W (.agg #[.int .i64 e.op, .int .i64 e.wd, .int .i64 e.n, .slice ka e.kids.length kc]) e := ⟨_, rfl, hek.ext hx⟩
  obtain ⟨p0, p1, p2, p3⟩ : W.cell? ⟨w.heap.size, 0, none⟩ = some (.int .i64 e.op) ∧ W.cell? ⟨w.heap.size, 1, none⟩ = some (.int .i64 e.wd) ∧ W.cell? ⟨w.heap.size, 2, none⟩ = some (.int .i64 e.n) ∧ W.cell? ⟨w.heap.size, 3, none⟩ = some (.slice ka e.kids.length kc) := by
    simp [World.cell?, hW.b0]
  have HC := Lib.hid (hc.ext hx); have HL := Lib.hid (hl.ext hx); have HE0 := Lib.hid hE; have HM := Lib.hid (hM.ext hx); have HT := Lib.hid (hT.ext hx); have HW := Lib.hid hW
  have P0 := Lib.hid p0; have P1 := Lib.hid p1; have P2 := Lib.hid p2; have P3 := Lib.hid p3
  clear hc hl hek hE hM hT hW hx p0 p1 p2 p3
  go_enter Tryd.func30, Tryd.ntmps30
  go_upto_region 1 with fail
  rw [← HW.out.eq]
  go_wp2_with fail
  refine (rshape_any cells list _ _ _ HC.out HL.out hb HM.out HT.out).mono ?_
  intro r w1 h1
  unfold ShapePost at h1
  by_cases h0 : shapeErr cells list = 0
  · rw [if_pos h0] at h1
    obtain ⟨v, rfl, hv, x1⟩ := h1
    have hwb : widthsB cells list = true := by
      cases h : widthsB cells list with
      | true => rfl
      | false => unfold shapeErr at h0; rw [h] at h0; simp at h0
    have h6 : sumI (wOf cells list) ≤ 6 := by
      unfold shapeErr at h0; rw [hwb, if_pos rfl] at h0
      by_cases c : sumI (wOf cells list) ≤ 6
      · exact c
      · rw [if_neg c] at h0; simp at h0
    have hsh : shapeB list (wOf cells list) = true := by
      unfold widthsB at hwb
      rw [Bool.and_eq_true] at hwb
      exact hwb.2
    have hs0 : 0 ≤ sumI (wOf cells list) := by
      have := (sum_bound (shape_widths hsh).2 (wOf cells list).length (Nat.le_refl _)).1
      rw [List.take_length] at this; exact this
    obtain ⟨sa, sb, sc, sd, se, sf, rfl⟩ := hv.shape
    have H0 := Lib.hid h0; have HSH := Lib.hid hsh
    have hvw : Ints w1 (.slice sc (wOf cells list).length sd) (wOf cells list) := by obtain ⟨_, _, _, e, _, h2, _⟩ := hv.setV; cases e; exact h2
    have hvc : Ints w1 (.slice sa list.length sb) list := by obtain ⟨_, _, _, e, h2, _, _⟩ := hv.setV; cases e; exact h2
    obtain ⟨W2, hW2⟩ : ∃ W2, W2 = w1.alloc (.cells #[.slice sa list.length sb, .slice sc (wOf cells list).length sd, .slice se 0 sf] 27) := ⟨_, rfl⟩
    have x2 : Ext w1 W2 := by rw [hW2]; exact (Ext.refl _).alloc _
    have hb2 : W2.heap[w1.heap.size]? = some (.cells #[.slice sa list.length sb, .slice sc (wOf cells list).length sd, .slice se 0 sf] 27 (0, 0)) := by rw [hW2]; exact heap_new _ _
    have HB2 := Lib.hid hb2
    have HVW := Lib.hid (hvw.ext x2); have HVC := Lib.hid (hvc.ext x2); have X2 := Lib.hid (x1.trans x2); have HW2 := Lib.hid hW2
    have lc1 : list.length ≤ 1000000000 := by omega
    have lw1 : (wOf cells list).length ≤ 1000000000 := by rw [wOf_len]; omega
    have hz1 : w.heap.size + 2 ≤ w1.heap.size := by have := x1.size; have := HW.out.size; omega
    clear hv x1 h0 hwb hsh hvw hvc hW2 x2 hb2
    have r0 := X2.out.cell P0.out; have r1 := X2.out.cell P1.out; have r2 := X2.out.cell P2.out; have r3 := X2.out.cell P3.out
    go_upto_region 4 with fail
    rw [← HW2.out]
    go_wp2_with fail
    refine (Valid_any e _ _ cells true _ (HE0.out.ext X2.out) (HC.out.ext X2.out) (HM.out.ext X2.out)).mono ?_
    rintro r w3 ⟨rfl, x3⟩
    have X3 := Lib.hid (X2.out.trans x3); have Y3 := Lib.hid x3
    have q0 := x3.cell r0; have q1 := x3.cell r1; have q2 := x3.cell r2; have q3 := x3.cell r3
    clear x3 r0 r1 r2 r3
    cases hva : e.valid cells true with
    | false =>
      have HVA := Lib.hid hva
      clear hva
      have HN : Hid (relErr cells list e = 60) := by unfold Hid relErr; rw [if_pos H0.out, HVA.out]; rfl
      have hR := ((X3).out).block (w.heap.size + 1) (by have := HW.out.size; omega)
      rw [HW.out.b1] at hR
      obtain ⟨z0, z1, z2, f0, f1, f2⟩ := block3 hR
      have HR := Lib.hid (put3_new (x := .slice none 0 0) (y := .slice none 0 0) (z := .slice none 0 0) hR)
      have HE := Lib.hid ((HW.out.ext.trans ((X3).out)).put3 (b := w.heap.size + 1) (by omega) (.slice none 0 0) (.slice none 0 0) (.slice none 0 0))
      clear hR
      go_wp2_with fail
      exact bodyPost_ret (v := .tuple #[.agg #[.slice none 0 0, .slice none 0 0, .slice none 0 0], .int .i64 60]) (results_row_tmp Tryd.results30 _ _ (w.heap.size + 1) 25 _ (0, 0) _ rfl HR.out Tryd.underlying25 rfl sizeRel) rfl (RelPost.bad HN.out (by decide) HE.out)
    | true =>
      have HVA := Lib.hid hva
      clear hva
      by_cases hw1 : e.wd = 1
      · have hwt : (e.wd != 1) = false := by simp [hw1]
        have HW1 := Lib.hid hw1
        clear hw1
        go_wp2_with fail
        refine (Support_any e _ _ (HE0.out.ext X3.out) (HM.out.ext X3.out)).mono ?_
        rintro r w4 ⟨u1, u2, rfl, i1, i2, x4⟩
        obtain ⟨sa1, sc1, rfl⟩ := i1.shape
        obtain ⟨ta, tc, rfl⟩ := i2.shape
        have X4 := Lib.hid (X3.out.trans x4); have Y4 := Lib.hid (Y3.out.trans x4); have I1 := Lib.hid i1; have I2 := Lib.hid i2
        have k1 : e.supOld.length ≤ 32 := sup_len _
        have k2 : e.supNow.length ≤ 32 := sup_len2 _
        clear x4 i1 i2 q0 q1 q2 q3 hwt
        obtain ⟨W5, hW5⟩ : ∃ W5, W5 = w4.alloc (.cells #[.slice sa1 e.supOld.length sc1, .slice ta e.supNow.length tc] 22) := ⟨_, rfl⟩
        have x5 : Ext w4 W5 := by rw [hW5]; exact (Ext.refl _).alloc _
        have hb5 : W5.heap[w4.heap.size]? = some (.cells #[.slice sa1 e.supOld.length sc1, .slice ta e.supNow.length tc] 22 (0, 0)) := by rw [hW5]; exact heap_new _ _
        have c50 : W5.cell? ⟨w4.heap.size, 0, none⟩ = some (.slice sa1 e.supOld.length sc1) := by simp [World.cell?, hb5]
        have c51 : W5.cell? ⟨w4.heap.size, 1, none⟩ = some (.slice ta e.supNow.length tc) := by simp [World.cell?, hb5]
        have HW5 := Lib.hid hW5
        have HCC := Lib.hid (Concat_any e.supOld e.supNow w4.heap.size sa1 ta sc1 tc W5 c50 c51 (I1.out.ext x5) (I2.out.ext x5) (by omega) (by omega))
        have X5 := Lib.hid (X4.out.trans x5); have Y5 := Lib.hid (Y4.out.trans x5)
        clear hW5 hb5 c50 c51 x5
        generalize hso : e.supOld = so at *
        generalize hsn : e.supNow = sn at *
        have HSUP : Hid (e.supOld ++ e.supNow = so ++ sn) := by unfold Hid; rw [hso, hsn]
        clear hso hsn
        go_wp2_with fail
        first | rw [← HW5.out] | skip
        refine HCC.out.mono ?_
        rintro r w6 ⟨v6, rfl, o6, x6⟩
        have hln : (so ++ sn).length ≤ 64 := by rw [List.length_append]; omega
        generalize hsup : so ++ sn = sup at *
        obtain ⟨a6, c6, rfl⟩ := o6.ints.shape
        have X6 := Lib.hid (X5.out.trans x6); have Y6 := Lib.hid (Y5.out.trans x6); have I6 := Lib.hid o6.ints
        clear o6 x6 HCC k1 k2 hsup HW5
        go_wp2_with fail
        go_loop [50] (fun i => ∃ k : Nat, k ≤ sup.length ∧ i = .int .i64 k ∧ ∀ (j : Nat) (h : j < sup.length), j < k → list.contains sup[j] = true) (fun i => sup.length - (intOf i).toNat)
        case atStart => exact ⟨0, Nat.zero_le _, rfl, fun j _ h => absurd h (by omega)⟩
        case round =>
          obtain ⟨k, hk, rfl, hr⟩ := hrel
          have HRR := Lib.hid hr; clear hr
          by_cases hlt : k < sup.length
          · rcases I6.out with ⟨_, e⟩ | ⟨b, o, cap', e, _, hc⟩
            · rw [e] at hlt; simp at hlt
            cases e
            have g : w6.cell? ⟨b, o + k, none⟩ = some (.int .i64 sup[k]) := by have := hc k hlt; rw [Nat.mul_one] at this; exact this
            clear hc
            go_wp2_with fail
            refine (Contains_any list sup[k] _ _ (HL.out.ext X6.out)).mono ?_
            rintro r w7 ⟨rfl, hw7⟩
            rw [hw7]; clear hw7 w7
            cases hcn : list.contains sup[k] with
            | false =>
              have HALL : Hid ((sup.all fun c => list.contains c) = false) := by
                unfold Hid
                rw [Bool.eq_false_iff]
                intro h
                rw [List.all_eq_true] at h
                have := h _ (List.getElem_mem hlt)
                rw [hcn] at this; cases this
              have HALL2 : Hid (supR list e = false) := by unfold Hid supR; rw [HSUP.out]; exact HALL.out
              clear hcn
              have HN : Hid (relErr cells list e = 1) := by unfold Hid relErr; rw [if_pos H0.out, HVA.out, HW1.out, HALL2.out]; rfl
              have hR := ((X6).out).block (w.heap.size + 1) (by have := HW.out.size; omega)
              rw [HW.out.b1] at hR
              obtain ⟨z0, z1, z2, f0, f1, f2⟩ := block3 hR
              have HR := Lib.hid (put3_new (x := .slice none 0 0) (y := .slice none 0 0) (z := .slice none 0 0) hR)
              have HE := Lib.hid ((HW.out.ext.trans ((X6).out)).put3 (b := w.heap.size + 1) (by omega) (.slice none 0 0) (.slice none 0 0) (.slice none 0 0))
              clear hR
              go_wp2_with fail
              exact bodyPost_ret (v := .tuple #[.agg #[.slice none 0 0, .slice none 0 0, .slice none 0 0], .int .i64 1]) (results_row_tmp Tryd.results30 _ _ (w.heap.size + 1) 25 _ (0, 0) _ rfl HR.out Tryd.underlying25 rfl sizeRel) rfl (RelPost.bad HN.out (by decide) HE.out)
            | true =>
              have HCN := Lib.hid hcn
              clear hcn
              go_wp2_with fail
              refine ⟨⟨k + 1, by omega, by go_num, fun j h hj => ?_⟩, by simp [intOf]; omega⟩
              by_cases c : j = k
              · subst c; exact HCN.out
              · exact HRR.out j h (by omega)
          · have HALL : Hid (supR list e = true) := by
              unfold Hid supR
              rw [HSUP.out, List.all_eq_true]
              intro x hx
              obtain ⟨j, hj, rfl⟩ := List.getElem_of_mem hx
              exact HRR.out j hj (by omega)
            have HN : Hid (relErr cells list e = 0) := by unfold Hid relErr; rw [if_pos H0.out, HVA.out, HW1.out, HALL.out]; rfl
            clear HRR HALL I6
            have HS6 := Lib.hid ((Y6.out.block w1.heap.size (lt_heap HB2.out)).trans HB2.out)
            have VW6 := Lib.hid (HVW.out.ext Y6.out); have VC6 := Lib.hid (HVC.out.ext Y6.out)
            obtain ⟨W7, hW7⟩ : ∃ W7, W7 = w6.alloc (.cells ints32 3) := ⟨_, rfl⟩
            have x7 : Ext w6 W7 := by rw [hW7]; exact (Ext.refl _).alloc _
            have hb7 : W7.heap[w6.heap.size]? = some (.cells ints32 3 (0, 0)) := by rw [hW7]; exact heap_new _ _
            have HB32 := Lib.hid (ints32_at hb7)
            have HW7 := Lib.hid hW7
            have X7 := Lib.hid (X6.out.trans x7); have Z7 := Lib.hid x7
            have HS7 := Lib.hid ((x7.block w1.heap.size (lt_heap HS6.out)).trans HS6.out)
            have VW7 := Lib.hid (VW6.out.ext x7); have VC7 := Lib.hid (VC6.out.ext x7)
            obtain ⟨y0, y1, y2⟩ := cells3 HS7.out
            clear x7 hb7 hW7
            have hmk := makeState32
            have HPW := Lib.hid (pow_wrap hs0 (show sumI (wOf cells list) ≤ 12 by omega))
            obtain ⟨n, hn, hn64⟩ := pw_nat hs0 h6
            have hn0 : 0 < n := by
              have := @pw_pos (sumI (wOf cells list))
              omega
            have HN2 := Lib.hid hn
            have HNN : Hid ((pw (sumI (wOf cells list))).toNat = n) := by unfold Hid; rw [hn]; simp
            clear hn
            go_upto_region 14 with fail
            rw [← HW7.out]
            clear hmk
            go_wp2_with fail
            refine (rsum_any (wOf cells list) _ _ VW7.out (shape_widths HSH.out)).mono ?_
            rintro r w8 ⟨rfl, hw8⟩
            rw [hw8]; clear hw8 w8
            go_upto_region 16 with fail
            rw [HPW.out, HN2.out]
            clear HPW
            go_loopw [15, 65] (fun v i wr => ∃ vs : List Value, vs.length ≤ n ∧ i = .int .i64 vs.length ∧ Ext W7 wr ∧ OwnL wr W7.heap.size v vs (stN list (wOf cells list))) (fun _ i _ => n - (intOf i).toNat)
            case atStart => exact ⟨[], Nat.zero_le _, rfl, Ext.refl _, OwnL.nil _ _ _⟩
            case round =>
              obtain ⟨vs, hk, rfl, hX, hO⟩ := hrel
              obtain ⟨va, vcap, rfl⟩ := hO.shape
              have HX := Lib.hid hX; have HO := Lib.hid hO
              have d0 := hX.cell y0; have d1 := hX.cell y1; have d2 := hX.cell y2
              clear hX hO y0 y1 y2
              by_cases hlt : vs.length < n
              · have HSV : Hid (SetV wr (.agg #[.slice sa list.length sb, .slice sc (wOf cells list).length sd, .slice se 0 sf]) list (wOf cells list) []) := ⟨_, _, _, rfl, VC7.out.ext HX.out, VW7.out.ext HX.out, .inl ⟨⟨_, _, rfl⟩, rfl⟩⟩
                have HBB := Lib.hid (HB32.out.ext HX.out)
                go_wp2_with fail
                refine (State_any list (wOf cells list) [] (vs.length : Int) zeros32 _ _ _ HSV.out HBB.out (by simp [zeros32])).mono ?_
                rintro r w9 ⟨v9, rfl, o9, x9⟩
                obtain ⟨s9a, s9c, rfl⟩ := o9.ints.shape
                have O9 := Lib.hid (HO.out.kept x9); have X9 := Lib.hid (HX.out.trans x9)
                have hkv : ∀ k, (Value.slice s9a (stateS list (wOf cells list) (vs.length : Int) zeros32).length s9c).ownBlock = some k → (Value.slice va vs.length vcap).ownBlock ≠ some k := fun k h1 h2 => by
                  have := o9.base k h1; have := (HO.out.base k h2).2; omega
                have HKV := Lib.hid hkv; have OI9 := Lib.hid o9
                have hz9 : W7.heap.size ≤ w9.heap.size := X9.out.size
                clear hkv o9 x9 d0 d1 d2
                go_wp2_with (at_builtin; refine wpList_append_lists rfl (.tmp 68) (.tmp 73) rfl W7.heap.size w9 _ _ vs (stN list (wOf cells list)) _ rfl rfl O9.out OI9.out HKV.out (by omega) hz9 ?_)
                intro g cap w' hown' hg
                have hx' : Ext W7 w' := X9.out.grown hg (fun q hq => (O9.out.base q hq).1)
                have HO' := Lib.hid hown'; have HX' := Lib.hid hx'
                clear hown' hx' hg
                go_wp2_with fail
                refine ⟨⟨_, ?_, ?_, HX'.out, HO'.out⟩, ?_⟩
                · rw [List.length_append, List.length_singleton]; omega
                · rw [List.length_append, List.length_singleton]; go_num
                · simp [intOf]; omega
              · obtain rfl : vs.length = n := by omega
                have HAL := Lib.hid (HO.out.all hn0 (by omega)); have XA := Lib.hid (X7.out.trans HX.out)
                generalize vs.length = n at *
                generalize wr = wA at *
                obtain ⟨W8, hW8⟩ : ∃ W8, W8 = wA.alloc (.cells (wordsV zeroM) 77) := ⟨_, rfl⟩
                have x8 : Ext wA W8 := by rw [hW8]; exact (Ext.refl _).alloc _
                have HM8 : Hid (WordsAt 77 W8 wA.heap.size (rowsL (relTo n (relB cells list e) 0 0))) := ⟨by rw [hW8]; exact heap_new _ _, len_zeroM, zero_lt⟩
                have HW8 := Lib.hid hW8; have X8 := Lib.hid x8
                have Z8 := Lib.hid (HX.out.trans x8)
                have A8 := Lib.hid HAL.out
                clear x8 hW8 HO
                go_upto_region 21 with fail
                rw [← words_zero]
                first | rw [← HW8.out] | skip
                clear HW8 d0 d1 d2
                obtain ⟨g, gcap, hge, hgl, hgc⟩ := A8.out
                cases hge
                have HGC := Lib.hid hgc
                clear hgc A8 HAL
                go_wp2_with fail
                go_loopw [80] (fun i wx => ∃ x : Nat, x ≤ n ∧ i = .int .i64 x ∧ Ext wA wx ∧ WordsAt 77 wx wA.heap.size (rowsL (relTo n (relB cells list e) x 0))) (fun i _ => n - (intOf i).toNat)
                case atStart => exact ⟨0, Nat.zero_le _, rfl, X8.out, HM8.out⟩
                case round =>
                  obtain ⟨x, hx, rfl, hX, hP⟩ := hrel
                  have HX9 := Lib.hid hX; have HP9 := Lib.hid hP; clear hX hP
                  by_cases hlx : x < n
                  · have hx64 : x < 64 := by omega
                    have i0 : (0 : Int) ≤ (x : Int) := by omega
                    have i1 : (x : Int) < 64 := by omega
                    have i2 : (x : Int) < (n : Int) := by omega
                    obtain ⟨ax, cx, gx, ix⟩ := HGC.out x hlx
                    have HIX := Lib.hid ix; have HGX := Lib.hid gx
                    clear ix gx
                    generalize hlx' : (stN list (wOf cells list) x).length = lx at *
                    clear hlx'
                    generalize wr = wx at *
                    go_wp2_with fail
                    go_loopw [85] (fun j wr => ∃ y : Nat, y ≤ n ∧ j = .int .i64 y ∧ Ext wA wr ∧ WordsAt 77 wr wA.heap.size (rowsL (relTo n (relB cells list e) x y))) (fun j _ => n - (intOf j).toNat)
                    case atStart => exact ⟨0, Nat.zero_le _, rfl, HX9.out, HP9.out⟩
                    case round =>
                      obtain ⟨y, hy, rfl, hX, hP⟩ := hrel
                      have HXY := Lib.hid hX; have HP := Lib.hid hP; clear hX hP
                      by_cases hly : y < n
                      · have hy64 : y < 64 := by omega
                        have j0 : (0 : Int) ≤ (y : Int) := by omega
                        have j1 : (y : Int) < 64 := by omega
                        have j2 : (y : Int) < (n : Int) := by omega
                        obtain ⟨ay, cy, gy, iy⟩ := HGC.out y hly
                        generalize hly' : (stN list (wOf cells list) y).length = ly at *
                        have XY := Lib.hid (XA.out.trans HXY.out)
                        have q0 := XY.out.cell P0.out; have q1 := XY.out.cell P1.out; have q2 := XY.out.cell P2.out; have q3 := XY.out.cell P3.out
                        have q4 := HXY.out.cell HGX.out; have q5 := HXY.out.cell gy
                        have IX := Lib.hid (HIX.out.ext HXY.out); have IY := Lib.hid (iy.ext HXY.out)
                        have HEV := Lib.hid (HE0.out.ext XY.out); have HMY := Lib.hid (HM.out.ext XY.out)
                        clear iy gy hly'
                        by_cases hev : e.eval (stN list (wOf cells list) x) (stN list (wOf cells list) y) = 1
                        · have HEE := Lib.hid hev
                          have HRT : Hid (relTo n (relB cells list e) x (y + 1) = relTo n (relB cells list e) x y ++ [(x, y)]) := relTo_yes (by unfold relB; rw [hev]; rfl)
                          clear hev
                          go_upto_region 27 with fail
                          have HX0 := Lib.hid ((Ext.refl wr).drew)
                          go_region_held3 (fun w' => (w'.cell? ⟨w.heap.size, 0, none⟩ = some (.int .i64 e.op) ∧ w'.cell? ⟨w.heap.size, 1, none⟩ = some (.int .i64 e.wd) ∧ w'.cell? ⟨w.heap.size, 2, none⟩ = some (.int .i64 e.n) ∧ w'.cell? ⟨w.heap.size, 3, none⟩ = some (.slice ka e.kids.length kc)) ∧ w'.cell? ⟨g, x, none⟩ = some (.slice ax lx cx) ∧ w'.cell? ⟨g, y, none⟩ = some (.slice ay ly cy))
                            (first | exact ⟨⟨q0, q1, q2, q3⟩, q4, q5⟩ | (with_reducible exact hk1) | fail)
                            ((go_at_call 32; refine (Eval_any e _ _ _ _ _ _ (HEV.out.ext HX0.out) (IX.out.ext HX0.out) (IY.out.ext HX0.out) (HMY.out.ext HX0.out)).mono ?_; rintro r w1 ⟨rfl, x1⟩; rw [HEE.out]; have HX1 := Lib.hid (HX0.out.trans x1); have hk1 := And.intro (And.intro (HX1.out.cell q0) (And.intro (HX1.out.cell q1) (And.intro (HX1.out.cell q2) (HX1.out.cell q3)))) (And.intro (HX1.out.cell q4) (HX1.out.cell q5)); clear x1))
                          clear q0 q1 q2 q3 q4 q5 hk1
                          have PZ := Lib.hid (HP.out.ext HX1.out); have XZ := Lib.hid (HXY.out.trans HX1.out)
                          have c8 := PZ.out.cell hx64
                          have f8 := PZ.out.frozen x
                          have HSO := Lib.hid (rowsL_app (relTo n (relB cells list e) x y) (x, y))
                          have HSO2 := Lib.hid (row_or (rowsL (relTo n (relB cells list e) x y)) x (1 <<< y))
                          have LA := Lib.hid (PZ.out.lt x)
                          generalize rowM (rowsL (relTo n (relB cells list e) x y)) x = z at *
                          have HOR : Hid (bits .or .u64 z (IntKind.u64.wrap (2 ^ y)) = ((z ||| 1 <<< y : Nat) : Int)) := by unfold Hid; rw [u64_pow hy64, u64_or LA.out (shl_lt hy64)]
                          have P1' := Lib.hid (PZ.out.set hx64 (v := z ||| 1 <<< y) (Nat.or_lt_two_pow (n := 64) LA.out (shl_lt hy64)))
                          have Y1 := Lib.hid (XZ.out.setCell (p := ⟨wA.heap.size, x, none⟩) (by simp) (.int .u64 (z ||| 1 <<< y : Nat)))
                          rw [← HOR.out] at P1' Y1
                          go_upto_region 28 with fail
                          go_still_tail 10, (by kernel_rfl)
                          go_wp2_with fail
                          exact ⟨⟨y + 1, by omega, by go_num, Y1.out.drew, by rw [HRT.out, HSO.out, HSO2.out]; exact P1'.out.drewN 1⟩, by simp [intOf]; omega⟩
                        · have HRT : Hid (relTo n (relB cells list e) x (y + 1) = relTo n (relB cells list e) x y) := relTo_no (by unfold relB; exact decide_eq_false hev)
                          generalize hyv : e.eval (stN list (wOf cells list) x) (stN list (wOf cells list) y) = yv at *
                          have HEE := Lib.hid hyv
                          have hyf : (yv == 1) = false := by simp [hev]
                          clear hyv hev
                          go_upto_region 27 with fail
                          have HX0 := Lib.hid ((Ext.refl wr).drew)
                          go_region_held3 (fun w' => (w'.cell? ⟨w.heap.size, 0, none⟩ = some (.int .i64 e.op) ∧ w'.cell? ⟨w.heap.size, 1, none⟩ = some (.int .i64 e.wd) ∧ w'.cell? ⟨w.heap.size, 2, none⟩ = some (.int .i64 e.n) ∧ w'.cell? ⟨w.heap.size, 3, none⟩ = some (.slice ka e.kids.length kc)) ∧ w'.cell? ⟨g, x, none⟩ = some (.slice ax lx cx) ∧ w'.cell? ⟨g, y, none⟩ = some (.slice ay ly cy))
                            (first | exact ⟨⟨q0, q1, q2, q3⟩, q4, q5⟩ | (with_reducible exact hk1) | fail)
                            ((go_at_call 32; refine (Eval_any e _ _ _ _ _ _ (HEV.out.ext HX0.out) (IX.out.ext HX0.out) (IY.out.ext HX0.out) (HMY.out.ext HX0.out)).mono ?_; rintro r w1 ⟨rfl, x1⟩; rw [HEE.out]; have HX1 := Lib.hid (HX0.out.trans x1); have hk1 := And.intro (And.intro (HX1.out.cell q0) (And.intro (HX1.out.cell q1) (And.intro (HX1.out.cell q2) (HX1.out.cell q3)))) (And.intro (HX1.out.cell q4) (HX1.out.cell q5)); clear x1))
                          clear q0 q1 q2 q3 q4 q5 hk1
                          go_wp2_with fail
                          exact ⟨⟨y + 1, by omega, by go_num, HXY.out.trans HX1.out, by rw [HRT.out]; exact HP.out.ext HX1.out⟩, by simp [intOf]; omega⟩
                      · obtain rfl : y = n := by omega
                        have HRT := Lib.hid (relTo_row y (relB cells list e) x)
                        go_wp2_with fail
                        exact ⟨⟨x + 1, by omega, by go_num, HXY.out, by rw [← HRT.out]; exact HP.out⟩, by simp [intOf]; omega⟩
                  · obtain rfl : x = n := by omega
                    have XX := Lib.hid (HX.out.trans HX9.out)
                    have HS9 := Lib.hid ((XX.out.block w1.heap.size (lt_heap HS7.out)).trans HS7.out)
                    obtain ⟨p0, p1, p2⟩ := cells3 HS9.out
                    have HVC9 := Lib.hid (VC7.out.ext XX.out); have HVW9 := Lib.hid (VW7.out.ext XX.out)
                    have HPP : Hid (pairsM (rowsL (relTo x (relB cells list e) x 0)) = relP cells list e) := by
                      unfold Hid relP
                      rw [HNN.out]
                      exact pairs_relTo hn64
                    go_wp2_with fail
                    refine (relation_any list (wOf cells list) _ _ _ _ _ HVC9.out HVW9.out HP9.out lc1 lw1).mono ?_
                    rintro r w10 ⟨v, rfl, hv, x10⟩
                    rw [HPP.out] at hv
                    obtain ⟨ta', tb, tc', td, te, tf, rfl⟩ := hv.shape
                    have hR := ((X7.out.trans XX.out).trans x10).block (w.heap.size + 1) (by have := HW.out.size; omega)
                    rw [HW.out.b1] at hR
                    obtain ⟨z0, z1, z2, f0, f1, f2⟩ := block3 hR
                    have HR := Lib.hid (put3_new (x := .slice ta' list.length tb) (y := .slice tc' (wOf cells list).length td) (z := .slice te (castP (relP cells list e)).length tf) hR)
                    have hz : w.heap.size + 1 < wr.heap.size := by have h1 := (X7.out.trans XX.out).size; have h2 := HW.out.size; omega
                    have HF0 := Lib.hid (And.intro ((hv.put3 hz (.slice ta' list.length tb) (.slice tc' (wOf cells list).length td) (.slice te (castP (relP cells list e)).length tf)).mono (by omega : w.heap.size ≤ wr.heap.size)) ((HW.out.ext.trans ((X7.out.trans XX.out).trans x10)).put3 (b := w.heap.size + 1) (by omega) (.slice ta' list.length tb) (.slice tc' (wOf cells list).length td) (.slice te (castP (relP cells list e)).length tf)))
                    have HF : Hid (RelPost cells list e w (.returned (.tuple #[.agg #[.slice ta' list.length tb, .slice tc' (wOf cells list).length td, .slice te (castP (relP cells list e)).length tf], .int .i64 0])) (put3 w10 (w.heap.size + 1) (.slice ta' list.length tb) (.slice tc' (wOf cells list).length td) (.slice te (castP (relP cells list e)).length tf))) := by
                      unfold Hid RelPost
                      rw [if_pos HN.out]
                      exact ⟨_, rfl, HF0.out.1, HF0.out.2⟩
                    clear hR hv x10
                    generalize castP (relP cells list e) = PP at *
                    go_wp2_with fail
                    exact bodyPost_ret (v := .tuple #[.agg #[.slice ta' list.length tb, .slice tc' (wOf cells list).length td, .slice te PP.length tf], .int .i64 0]) (results_row_tmp Tryd.results30 _ _ (w.heap.size + 1) 25 _ (0, 0) _ rfl HR.out Tryd.underlying25 rfl sizeRel) rfl HF.out
      · have hwt : (e.wd != 1) = true := by simp [hw1]
        have HW1 := Lib.hid hw1
        clear hw1
        have HN : Hid (relErr cells list e = 60) := by unfold Hid relErr; rw [if_pos H0.out, HVA.out, decide_eq_false HW1.out]; rfl
        have hR := ((X3).out).block (w.heap.size + 1) (by have := HW.out.size; omega)
        rw [HW.out.b1] at hR
        obtain ⟨z0, z1, z2, f0, f1, f2⟩ := block3 hR
        have HR := Lib.hid (put3_new (x := .slice none 0 0) (y := .slice none 0 0) (z := .slice none 0 0) hR)
        have HE := Lib.hid ((HW.out.ext.trans ((X3).out)).put3 (b := w.heap.size + 1) (by omega) (.slice none 0 0) (.slice none 0 0) (.slice none 0 0))
        clear hR
        go_wp2_with fail
        exact bodyPost_ret (v := .tuple #[.agg #[.slice none 0 0, .slice none 0 0, .slice none 0 0], .int .i64 60]) (results_row_tmp Tryd.results30 _ _ (w.heap.size + 1) 25 _ (0, 0) _ rfl HR.out Tryd.underlying25 rfl sizeRel) rfl (RelPost.bad HN.out (by decide) HE.out)
  · rw [if_neg h0] at h1
    obtain ⟨v, rfl, hv, x1⟩ := h1
    obtain ⟨sa, sb, sc, sd, se, sf, rfl⟩ := hv.shape
    have het : (shapeErr cells list != 0) = true := by simpa using h0
    have H0 := Lib.hid h0
    have HN : Hid (relErr cells list e = shapeErr cells list) := by unfold Hid relErr; rw [if_neg h0]
    have X2 := Lib.hid (x1.alloc (.cells #[.slice sa 0 sb, .slice sc 0 sd, .slice se 0 sf] 27))
    clear hv x1 h0
    generalize shapeErr cells list = er at *
    have hR := ((X2).out).block (w.heap.size + 1) (by have := HW.out.size; omega)
    rw [HW.out.b1] at hR
    obtain ⟨z0, z1, z2, f0, f1, f2⟩ := block3 hR
    have HR := Lib.hid (put3_new (x := .slice none 0 0) (y := .slice none 0 0) (z := .slice none 0 0) hR)
    have HE := Lib.hid ((HW.out.ext.trans ((X2).out)).put3 (b := w.heap.size + 1) (by omega) (.slice none 0 0) (.slice none 0 0) (.slice none 0 0))
    clear hR
    go_wp2_with fail
    exact bodyPost_ret (v := .tuple #[.agg #[.slice none 0 0, .slice none 0 0, .slice none 0 0], .int .i64 er]) (results_row_tmp Tryd.results30 _ _ (w.heap.size + 1) 25 _ (0, 0) _ rfl HR.out Tryd.underlying25 rfl sizeRel) rfl (RelPost.bad HN.out H0.out HE.out)
end Go.Proofs.YtlnahhlddekhoaaDoor
