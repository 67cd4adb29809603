/-
  The walk of fold.
  The walk of connect, for conditions.
  The walk of connect, for conditions (second part).
-/
import Derived.Test.YtlcgbdjmlnjhcaaGreatDoorG26
namespace Go.Proofs.YtlcgbdjmlnjhcaaGreatDoor
open Go.RowKit

/-- The elements of a list that is not empty, joined from the left. -/
def foldE (op : Int) : List E → E
  | [] => .mk 0 0 0 []
  | e :: r => r.foldl (fun a b => .mk op 1 0 [a, b]) e
theorem foldE_take {op : Int} {e : E} {r : List E} {k : Nat} (h : k < r.length) : foldE op ((e :: r).take (k + 1 + 1)) = .mk op 1 0 [foldE op ((e :: r).take (k + 1)), r[k]] := by
  simp only [List.take_succ_cons, foldE]
  rw [List.take_succ_eq_append_getElem h, List.foldl_append]; rfl
theorem IsT.cells {S : Nat → Prop} {w : World} {b o : Nat} {e : E} (h : IsT S w b o e) : w.cell? ⟨b, o, none⟩ = some (.int .i64 e.op) ∧ w.cell? ⟨b, o + 1, none⟩ = some (.int .i64 e.wd) ∧ w.cell? ⟨b, o + 2, none⟩ = some (.int .i64 e.n) ∧ ∃ a l c, w.cell? ⟨b, o + 3, none⟩ = some (.slice a l c) ∧ KidsT S w (.slice a l c) e.kids := by
  cases h with
  | leaf h0 h1 h2 h3 => exact ⟨h0, h1, h2, _, _, _, h3, .inl ⟨⟨_, _, rfl⟩, rfl⟩⟩
  | node h0 h1 h2 h3 hl hs hk => exact ⟨h0, h1, h2, _, _, _, h3, .inr ⟨_, _, _, rfl, hl, hs, hk⟩⟩

/-- What holds while the elements are joined. -/
def FoldRel (S : Nat → Prop) (op : Int) (e : E) (r : List E) (w : World) (R0 R1 : Nat) (i : Value) (wr : World) : Prop :=
  ∃ (k : Nat) (a : Option Addr) (l c : Nat), k ≤ r.length ∧ i = .int .i64 k ∧ Ext w wr ∧ VarE wr R0 0 0 0 (.slice none 0 0) ∧
    VarE wr R1 (foldE op ((e :: r).take (k + 1))).op (foldE op ((e :: r).take (k + 1))).wd (foldE op ((e :: r).take (k + 1))).n (.slice a l c) ∧ KidsT (fun b => S b ∧ b ≠ R0 ∧ b ≠ R1) wr (.slice a l c) (foldE op ((e :: r).take (k + 1))).kids

set_option maxHeartbeats 4000000 in
theorem fold_any (S : Nat → Prop) (op : Int) (O : Nat) (e : E) (r : List E) (g o cap : Nat) (w : World) (hrow : ∀ (i : Nat) (h : i < (e :: r).length), IsT S w g (o + i * 4) (e :: r)[i]) (hlen : r.length + 1 ≤ cap) (hcap : cap ≤ 9223372036854775807) (hS : ∀ k, w.heap.size ≤ k → S k) (ho : w.cell? ⟨O, 0, none⟩ = some (.int .i64 op)) :
    Calls Tryz.prog 95 #[.slice (some ⟨g, o, none⟩) (r.length + 1) cap, .func (.func 96) #[] #[.pointer (some ⟨O, 0, none⟩)]] w (RetT S (foldE op (e :: r)) w) := by
  have h0 := hrow 0 (by simp)
  rw [Nat.zero_mul, Nat.add_zero] at h0
  obtain ⟨c0, c1, c2, ea, el, ec, c3, hk0⟩ := h0.cells
  simp only [List.getElem_cons_zero] at c0 c1 c2 hk0
  have hg : g < w.heap.size := block_lt c0
  have hg1 : g < w.heap.size + 1 := by omega
  have hR1 : 1 ≤ cap := by omega
  have i0 : (0 : Int) < ((r.length + 1 : Nat) : Int) := by omega
  have HROW := Lib.hid hrow; have HS := Lib.hid hS; have HO := Lib.hid ho
  obtain ⟨W, hW⟩ : ∃ W, W = (w.alloc (.cells zeroA 25)).alloc (.cells #[.int .i64 e.op, .int .i64 e.wd, .int .i64 e.n, .slice ea el ec] 25) := ⟨_, rfl⟩
  have hx : Ext w W := by rw [hW]; exact ((Ext.refl w).alloc _).alloc _
  obtain ⟨hv1, hv2⟩ := heap_of2 w (.cells zeroA 25) (.cells #[.int .i64 e.op, .int .i64 e.wd, .int .i64 e.n, .slice ea el ec] 25)
  rw [← hW] at hv1 hv2
  have HST : Hid (FoldRel S op e r w w.heap.size (w.heap.size + 1) (.int .i64 0) W) :=
    ⟨0, ea, el, ec, Nat.zero_le _, rfl, hx, hv1, hv2, (hk0.there.keep fun k _ hk => hx.block k hk).mono fun k hk => ⟨hk.1, by omega, by omega⟩⟩
  have HW := Lib.hid hW
  clear hrow hS ho h0 hk0 hx hv1 hv2 hW
  go_enter Tryz.func95, Tryz.ntmps95
  go_upto_region 2 with fail
  rw [← HW.out]; clear HW c0 c1 c2 c3
  have hd1 : (1 : Int) ≤ ((r.length + 1 : Nat) : Int) := by omega
  have hd2 : ((r.length + 1 : Nat) : Int) ≤ (cap : Int) := by omega
  by_cases hc1 : cap = 1
  · have hr0 : r = [] := List.length_eq_zero_iff.1 (by omega)
    subst hr0
    subst hc1
    go_wp2_with fail
    go_loopw [14] (fun i wr => FoldRel S op e [] w w.heap.size (w.heap.size + 1) i wr) (fun i _ => 0 - (intOf i).toNat)
    case atStart => exact HST.out
    case round =>
      obtain ⟨k, a, l, c, hk, rfl, hX, hV0, hV1, hK⟩ := hrel
      have hk0 : k = 0 := by simpa using hk
      subst hk0
      have HX := Lib.hid hX; have HV0 := Lib.hid hV0; have HV1 := Lib.hid hV1; have HK := Lib.hid hK
      clear hX hV0 hV1 hK hk HST
      have hk : ¬ 0 < ([] : List E).length := by simp
      go_upto_region 7 with fail
      have HF : Hid (foldE op ((e :: []).take (0 + 1)) = foldE op (e :: [])) := by rw [Hid, List.take_of_length_le (by simp)]
      rw [HF.out] at HV1 HK
      obtain ⟨q0, q1, q2, q3⟩ := HV1.out.cells
      obtain ⟨c0, c1, c2, c3, f0, f1, f2, f3⟩ := cells_of_block HV0.out
      generalize foldE op (e :: []) = y at *
      have HB := Lib.hid (put4_new (x := .int .i64 y.op) (y := .int .i64 y.wd) (z := .int .i64 y.n) (u := .slice a l c) HV0.out)
      have HXE : Hid (Ext w (put4 wr w.heap.size 0 (.int .i64 y.op) (.int .i64 y.wd) (.int .i64 y.n) (.slice a l c))) := Below.trans HX.out (below_put4 (Nat.le_refl _))
      have HKE : Hid (KidsT S (put4 wr w.heap.size 0 (.int .i64 y.op) (.int .i64 y.wd) (.int .i64 y.n) (.slice a l c)) (.slice a l c) y.kids) := (HK.out.keep fun q hq _ => put4_heap q hq.2.1).mono fun q hq => hq.1
      go_wp2_with fail
      exact bodyPost_ret (v := .agg #[.int .i64 y.op, .int .i64 y.wd, .int .i64 y.n, .slice a l c]) (results_cell_row Tryz.results95 _ _ w.heap.size 25 _ (0, 0) _ rfl HB.out Tryz.underlying25 rfl sizeExpr) rfl ⟨⟨_, rfl, _, rfl, HKE.out⟩, HXE.out⟩
  · go_wp2_with fail
    go_loopw [14] (fun i wr => FoldRel S op e r w w.heap.size (w.heap.size + 1) i wr) (fun i _ => r.length - (intOf i).toNat)
    case atStart => exact HST.out
    case round =>
      obtain ⟨k, a, l, c, hk, rfl, hX, hV0, hV1, hK⟩ := hrel
      have HX := Lib.hid hX; have HV0 := Lib.hid hV0; have HV1 := Lib.hid hV1; have HK := Lib.hid hK
      clear hX hV0 hV1 hK HST
      by_cases hlt : k < r.length
      · have hE := HROW.out (k + 1) (by simpa using hlt)
        rw [List.getElem_cons_succ, show o + (k + 1) * 4 = o + 4 + k * 4 by omega] at hE
        obtain ⟨e0, e1, e2, xa, xl, xc, e3, hkx⟩ := hE.cells
        have g0 := HX.out.cell e0; have g1 := HX.out.cell e1; have g2 := HX.out.cell e2; have g3 := HX.out.cell e3
        have HKX : Hid (KidsT (fun b => S b ∧ b ≠ w.heap.size ∧ b ≠ w.heap.size + 1) wr (.slice xa xl xc) r[k].kids) := (hkx.there.keep fun q _ hq => HX.out.block q hq).mono fun q hq => ⟨hq.1, by omega, by omega⟩
        clear hE e0 e1 e2 e3 hkx
        have HFT := Lib.hid (foldE_take (op := op) (e := e) hlt)
        generalize foldE op ((e :: r).take (k + 1)) = y at *
        go_upto_region 5 with fail
        obtain ⟨W2, hW2⟩ : ∃ W2, W2 = wr.alloc (.cells #[.int .i64 r[k].op, .int .i64 r[k].wd, .int .i64 r[k].n, .slice xa xl xc] 25) := ⟨_, rfl⟩
        have hxw : Ext wr W2 := by rw [hW2]; exact (Ext.refl _).alloc _
        have HV2 : Hid (VarE W2 wr.heap.size r[k].op r[k].wd r[k].n (.slice xa xl xc)) := by rw [hW2]; exact VarE.new _ _ _ _ _
        rw [← hW2]
        replace HV0 := Lib.hid (HV0.out.ext hxw); replace HV1 := Lib.hid (HV1.out.ext hxw); replace HX := Lib.hid (HX.out.trans hxw)
        replace HK := Lib.hid (HK.out.keep fun q _ hq => hxw.block q hq); replace HKX := Lib.hid (HKX.out.keep fun q _ hq => hxw.block q hq)
        have hsz : w.heap.size + 1 < W2.heap.size := HV1.out.lt
        have HOO := Lib.hid (HX.out.cell HO.out)
        clear hxw hW2 g0 g1 g2 g3
        generalize wr.heap.size = B2 at *
        obtain ⟨q0, q1, q2, q3⟩ := HV1.out.cells
        obtain ⟨p0, p1, p2, p3⟩ := HV2.out.cells
        go_wp2_with fail
        refine (connect1_any (fun b => S b ∧ b ≠ w.heap.size ∧ b ≠ w.heap.size + 1) op O y r[k] _ _ _ ⟨_, rfl, HK.out⟩ ⟨_, rfl, HKX.out⟩ (fun q hq => ⟨HS.out q (by omega), by omega, by omega⟩) HOO.out).mono ?_
        rintro r1 w3 ⟨⟨v, rfl, hv⟩, x1⟩
        obtain ⟨ya, yl, yc, rfl, hky⟩ := hv.shape
        have hR := HV1.out.ext x1
        obtain ⟨c0, c1, c2, c3, f0, f1, f2, f3⟩ := cells_of_block hR
        have HREL : Hid (FoldRel S op e r w w.heap.size (w.heap.size + 1) (.int .i64 ((k : Int) + 1)) (put4 w3 (w.heap.size + 1) 0 (.int .i64 op) (.int .i64 1) (.int .i64 0) (.slice ya yl yc))) := by
          refine ⟨k + 1, ya, yl, yc, by omega, by go_num, Below.trans (HX.out.trans x1) (below_put4 (by omega)), ?_, ?_, ?_⟩
          · have := HV0.out.ext x1
            unfold VarE at this ⊢
            rw [put4_heap _ (by omega)]; exact this
          · rw [HFT.out]; exact put4_new hR
          · rw [HFT.out]; exact hky.keep fun q hq _ => put4_heap q hq.2.2
        clear x1 hv hky hR q0 q1 q2 q3 p0 p1 p2 p3
        simp only [E.op_mk, E.wd_mk, E.n_mk]
        go_wp2_with fail
        exact ⟨HREL.out, by simp [intOf]; omega⟩
      · go_upto_region 7 with fail
        have HF : Hid (foldE op ((e :: r).take (k + 1)) = foldE op (e :: r)) := by rw [Hid, List.take_of_length_le (by simp; omega)]
        rw [HF.out] at HV1 HK
        obtain ⟨q0, q1, q2, q3⟩ := HV1.out.cells
        obtain ⟨c0, c1, c2, c3, f0, f1, f2, f3⟩ := cells_of_block HV0.out
        generalize foldE op (e :: r) = y at *
        have HB := Lib.hid (put4_new (x := .int .i64 y.op) (y := .int .i64 y.wd) (z := .int .i64 y.n) (u := .slice a l c) HV0.out)
        have HXE : Hid (Ext w (put4 wr w.heap.size 0 (.int .i64 y.op) (.int .i64 y.wd) (.int .i64 y.n) (.slice a l c))) := Below.trans HX.out (below_put4 (Nat.le_refl _))
        have HKE : Hid (KidsT S (put4 wr w.heap.size 0 (.int .i64 y.op) (.int .i64 y.wd) (.int .i64 y.n) (.slice a l c)) (.slice a l c) y.kids) := (HK.out.keep fun q hq _ => put4_heap q hq.2.1).mono fun q hq => hq.1
        go_wp2_with fail
        exact bodyPost_ret (v := .agg #[.int .i64 y.op, .int .i64 y.wd, .int .i64 y.n, .slice a l c]) (results_cell_row Tryz.results95 _ _ w.heap.size 25 _ (0, 0) _ rfl HB.out Tryz.underlying25 rfl sizeExpr) rfl ⟨⟨_, rfl, _, rfl, HKE.out⟩, HXE.out⟩
end Go.Proofs.YtlcgbdjmlnjhcaaGreatDoor
namespace Go.Proofs.YtlcgbdjmlnjhcaaGreatDoor
open Go.RowKit

/-- A row of expressions of the call's own. -/
def OwnK (w : World) (base : Nat) (v : Value) (ps : List (E × Value)) : Prop :=
  w.ownsRow base 25 4 v ps.length (flat4 ps) ∧ ∀ p ∈ ps, KidsT (fun b => some b ≠ v.ownBlock) w p.2 p.1.kids
theorem OwnK.nil (w : World) (base : Nat) : OwnK w base (.slice none 0 0) [] := ⟨⟨rfl, .inl ⟨rfl, rfl⟩⟩, fun _ h => by cases h⟩
theorem OwnK.ext {w w' : World} {base : Nat} {v : Value} {ps : List (E × Value)} (h : OwnK w base v ps) (hx : Ext w w') : OwnK w' base v ps :=
  ⟨ownRow_keep h.1 hx, fun p hp => (h.2 p hp).keep fun k _ hk => hx.block k hk⟩
theorem OwnK.shape {w : World} {base : Nat} {v : Value} {ps : List (E × Value)} (h : OwnK w base v ps) : ∃ a c, v = .slice a ps.length c := by
  rcases h.1.2 with ⟨rfl, hl⟩ | ⟨g, cap, cur, rfl, _⟩
  · exact ⟨none, 0, by rw [hl]⟩
  · exact ⟨_, _, rfl⟩
theorem wpList_append_kid {ops : Array Oper} {rest : List Oper} {o : Oper} {a : Act} {Q : Exit → Act → World → Prop} (hgd : o.guard = none) (s x : Operand)
    (ho : o.op = .call { callee := .builtin .append, args := #[s, x], argTypes := #[23, 23] }) (base : Nat) (wr : World) (v : Value) (ps : List (E × Value)) (e : E) (kv : Value)
    (hs : a.eval s = v) (hx : a.eval x = .slice (some ⟨wr.heap.size, 0, none⟩) 1 1) (hown : OwnK wr base v ps) (hk : KidsT (fun b => some b ≠ v.ownBlock ∧ b < wr.heap.size) wr kv e.kids) (hl : ps.length ≤ 1000000) (hb : base ≤ wr.heap.size)
    (h : ∀ g cap w', OwnK w' base (.slice (some ⟨g, 0, none⟩) (ps.length + 1) cap) (ps ++ [(e, kv)]) → wr.grownBy w' v.ownBlock → base ≤ g → wpList Tryz.prog ops Q rest (a.put o.dst (.slice (some ⟨g, 0, none⟩) (ps.length + 1) cap)) w') :
    wpList Tryz.prog ops Q (o :: rest) a (wr.alloc (.cells #[.int .i64 e.op, .int .i64 e.wd, .int .i64 e.n, kv] 25)) := by
  obtain ⟨i0, hi, hz0, hz1, hz2⟩ := info_parts infoExpr
  have hx0 : Ext wr (wr.alloc (.cells #[.int .i64 e.op, .int .i64 e.wd, .int .i64 e.n, kv] 25)) := (Ext.refl wr).alloc _
  have hown0 := hown.ext hx0
  refine wpList_append_lies _ hgd s x 23 ho base 25 i0 _ 4 48 Tryz.underlying23 hi hz0 hz1 hz2 rfl (by decide) v ps.length (flat4 ps) hs hown0.1 ⟨wr.heap.size, 0, none⟩ 1 1 (cells4' (e, kv)) hx rfl ?_ ?_ (by decide) ?_ ?_ ?_ (wr.heap.size + 1) (by simp) ?_
  · intro j u hj
    have hj4 : j < 4 := by have := (List.getElem?_eq_some_iff.1 hj).1; simpa [cells4'] using this
    have : j = 0 ∨ j = 1 ∨ j = 2 ∨ j = 3 := by omega
    rw [addr_add]
    rcases this with rfl | rfl | rfl | rfl <;> simp [cells4'] at hj <;> subst hj <;> simp
  · intro u hu
    simp [cells4'] at hu
    rcases hu with rfl | rfl | rfl | rfl
    · rfl
    · rfl
    · rfl
    · exact hk.one
  · unfold maxLen; omega
  · omega
  · simp; omega
  · intro g cap w' h1 h2 h3 h4
    have hgr : wr.grownBy w' v.ownBlock := ⟨h2.os, h2.tape, h2.output, by have := h2.size; simp at this; omega, fun k hk hne => by rw [h2.block k (by simp; omega) hne]; exact Below.heap_alloc wr _ k hk⟩
    have hbg : base ≤ g := by
      rcases h1.2 with ⟨e, _⟩ | ⟨g', _, _, e, hg', _⟩
      · cases e
      · cases e; exact hg'
    have keep : ∀ (u : Value) (ks : List E), KidsT (fun b => some b ≠ v.ownBlock ∧ b < wr.heap.size) wr u ks → KidsT (fun b => some b ≠ (Value.slice (some ⟨g, 0, none⟩) (ps.length + 1) cap).ownBlock) w' u ks := by
      intro u ks hu
      refine (hu.keep (w' := w') fun k hs hk => hgr.block k hk hs.1).mono fun k hs => ?_
      simp only [Value.ownBlock, ne_eq, Option.some.injEq]
      rintro rfl
      rcases h3 with h3 | h3
      · exact hs.1 h3.symm
      · omega
    refine h g cap w' ⟨?_, ?_⟩ hgr hbg
    · have : flat4 (ps ++ [(e, kv)]) = flat4 ps ++ cells4' (e, kv) := by simp [flat4]
      rw [this, List.length_append]; exact h1
    · intro p hp
      rcases List.mem_append.1 hp with hp | hp
      · exact keep _ _ (KidsT.there (hown.2 p hp))
      · simp at hp; subst hp; exact keep _ _ hk
/-- The row, element by element. -/
def RowK (S : Nat → Prop) (w : World) (g : Nat) (ks : List E) : Prop := (∀ (i : Nat) (h : i < ks.length), IsT S w g (i * 4) ks[i]) ∧ ∃ cur : Array Value, w.heap[g]? = some (.cells cur 25 (0, 0)) ∧ ks.length * 4 ≤ cur.size
theorem OwnK.row {w : World} {base g n cap : Nat} {ps : List (E × Value)} (h : OwnK w base (.slice (some ⟨g, 0, none⟩) n cap) ps) : RowK (fun b => b ≠ g) w g (ps.map (·.1)) ∧ n = ps.length ∧ ps.length ≤ cap ∧ cap ≤ 9223372036854775807 ∧ base ≤ g := by
  rcases h.1.2 with ⟨e, _⟩ | ⟨g', cap', cur, e, hg, hh, hn, hc, hs, ht⟩
  · cases e
  cases e
  refine ⟨⟨fun i hi => ?_, cur, hh, by rw [List.length_map]; omega⟩, rfl, by omega, by unfold maxLen at hc; omega, hg⟩
  rw [List.length_map] at hi
  have cell : ∀ j, j < 4 → w.cell? ⟨g, i * 4 + j, none⟩ = (cells4' ps[i])[j]? := by
    intro j hj
    have e1 := congrArg (fun x => x[i * 4 + j]?) ht
    rw [List.getElem?_take_of_lt (by omega), flat4_get ps i j hi hj] at e1
    rw [← e1]
    simp [World.cell?, hh]
  have k := (h.2 ps[i] (List.getElem_mem hi)).mono (S' := fun b => b ≠ g) (fun k hk e => hk (by rw [e]; rfl))
  rw [List.getElem_map]
  have c0 := cell 0 (by omega); have c1 := cell 1 (by omega); have c2 := cell 2 (by omega); have c3 := cell 3 (by omega)
  simp only [cells4', Nat.add_zero, List.getElem?_cons_zero, List.getElem?_cons_succ] at c0 c1 c2 c3
  generalize ps[i] = p at *
  obtain ⟨⟨op, wd, n, ks⟩, kv⟩ := p
  simp only [E.op_mk, E.wd_mk, E.n_mk, E.kids_mk] at *
  rcases k with ⟨⟨_, _, rfl⟩, rfl⟩ | ⟨b, o, c, rfl, hl, hsb, hk⟩
  · exact .leaf c0 c1 c2 c3
  · exact .node c0 c1 c2 c3 hl hsb hk
/-- An element is stored anew: the row stays what it was. -/
theorem IsT.mk' {S : Nat → Prop} {w : World} {b o : Nat} {x : E} {kv : Value} (c0 : w.cell? ⟨b, o, none⟩ = some (.int .i64 x.op)) (c1 : w.cell? ⟨b, o + 1, none⟩ = some (.int .i64 x.wd)) (c2 : w.cell? ⟨b, o + 2, none⟩ = some (.int .i64 x.n)) (c3 : w.cell? ⟨b, o + 3, none⟩ = some kv) (hk : KidsT S w kv x.kids) : IsT S w b o x := by
  obtain ⟨op, wd, n, ks⟩ := x
  rcases hk with ⟨⟨_, _, rfl⟩, e⟩ | ⟨b', o', cap, rfl, hl, hs, hi⟩
  · simp only [E.kids_mk] at e; subst e; exact .leaf c0 c1 c2 c3
  · exact .node c0 c1 c2 c3 hl hs hi
theorem IsT.keepAt {S : Nat → Prop} {w w' : World} {b o : Nat} {e : E} (h : IsT S w b o e) (hc : ∀ j, j < 4 → w'.cell? ⟨b, o + j, none⟩ = w.cell? ⟨b, o + j, none⟩) (hx : ∀ k, S k → k < w.heap.size → w'.heap[k]? = w.heap[k]?) : IsT S w' b o e := by
  obtain ⟨c0, c1, c2, a, l, c, c3, hk⟩ := h.cells
  exact .mk' (by have := hc 0 (by omega); rw [Nat.add_zero] at this; rw [this]; exact c0) (by rw [hc 1 (by omega)]; exact c1) (by rw [hc 2 (by omega)]; exact c2) (by rw [hc 3 (by omega)]; exact c3) (hk.keep hx)
theorem RowK.ext {S : Nat → Prop} {w w' : World} {g : Nat} {ks : List E} (h : RowK S w g ks) (hx : Ext w w') : RowK S w' g ks := by
  obtain ⟨h1, cur, h2, h3⟩ := h
  exact ⟨fun i hi => (h1 i hi).keepAt (fun j _ => World.cell?_of_block (hx.block g (heap_lt' h2))) fun k _ hk => hx.block k hk, cur, by rw [hx.block g (heap_lt' h2)]; exact h2, h3⟩
theorem RowK.cell {S : Nat → Prop} {w : World} {g : Nat} {ks : List E} (h : RowK S w g ks) (i j : Nat) (hi : i < ks.length) (hj : j < 4) : (∃ v, w.cell? ⟨g, i * 4 + j, none⟩ = some v) ∧ w.frozen? ⟨g, i * 4 + j, none⟩ = false := by
  obtain ⟨_, cur, hc, hs⟩ := h
  refine ⟨⟨cur[i * 4 + j]'(by omega), ?_⟩, ?_⟩
  · simp [World.cell?, hc, Array.getElem?_eq_getElem (show i * 4 + j < cur.size by omega)]
  · simp [World.frozen?, hc]
theorem RowK.put {w : World} {g k : Nat} {ks : List E} (h : RowK (fun b => b ≠ g) w g ks) (hk : k < ks.length) {kv : Value} (hv : KidsT (fun b => b ≠ g) w kv ks[k].kids) :
    RowK (fun b => b ≠ g) (put4 w g (k * 4) (.int .i64 ks[k].op) (.int .i64 ks[k].wd) (.int .i64 ks[k].n) kv) g ks := by
  have hcell := h.cell
  obtain ⟨h1, cur, hc, hs⟩ := h
  have hx : ∀ q, q ≠ g → q < w.heap.size → (put4 w g (k * 4) (.int .i64 ks[k].op) (.int .i64 ks[k].wd) (.int .i64 ks[k].n) kv).heap[q]? = w.heap[q]? := fun q hq _ => put4_heap q hq
  refine ⟨fun i hi => ?_, ?_⟩
  · by_cases c : i = k
    · subst c
      obtain ⟨g0, g1, g2, g3⟩ := put4_here (w := w) (KB := g) (o := i * 4) (a := .int .i64 ks[i].op) (b := .int .i64 ks[i].wd) (c := .int .i64 ks[i].n) (d := kv) (fun j hj => (hcell i j hi hj).1)
      exact .mk' g0 g1 g2 g3 (hv.keep hx)
    · exact (h1 i hi).keepAt (fun j hj => put4_other _ (.inr (by simp; omega))) hx
  · obtain ⟨cur', hc', hs'⟩ := put4_block (o := k * 4) (a := .int .i64 ks[k].op) (b := .int .i64 ks[k].wd) (c := .int .i64 ks[k].n) (d := kv) hc
    exact ⟨cur', hc', by omega⟩
end Go.Proofs.YtlcgbdjmlnjhcaaGreatDoor
namespace Go.Proofs.YtlcgbdjmlnjhcaaGreatDoor
open Go.RowKit

def keptOf (ks : List E) (u : Int) : List E := ks.filter fun e => !e.isC (1 - u) && !e.isC u
def decOf (ks : List E) (u : Int) : Bool := ks.any fun e => e.isC (1 - u)
def connectS (ks : List E) (op u : Int) : E := if decOf ks u then constE (1 - u) 1 else if keptOf ks u = [] then constE u 1 else foldE op (keptOf ks u)
theorem dec_succ {ks : List E} {u : Int} {k : Nat} (h : k < ks.length) : decOf (ks.take (k + 1)) u = (decOf (ks.take k) u || ks[k].isC (1 - u)) := by
  unfold decOf
  rw [List.take_succ_eq_append_getElem h, List.any_append]; simp
theorem kept_succ {ks : List E} {u : Int} {k : Nat} (h : k < ks.length) : keptOf (ks.take (k + 1)) u = keptOf (ks.take k) u ++ if ks[k].isC (1 - u) = false ∧ ks[k].isC u = false then [ks[k]] else [] := by
  unfold keptOf
  rw [List.take_succ_eq_append_getElem h, List.filter_append]
  congr 1
  generalize ks[k] = e
  cases hA : e.isC (1 - u) <;> cases hB : e.isC u <;> simp [hA, hB]
theorem kept_len (ks : List E) (u : Int) : (keptOf ks u).length ≤ ks.length := List.length_filter_le _ _

theorem IsT.ext {S : Nat → Prop} {w w' : World} {b o : Nat} {e : E} (h : IsT S w b o e) (hx : Ext w w') : IsT S w' b o e :=
  h.keepAt (fun _ _ => World.cell?_of_block (hx.block b (block_lt h.cells.1))) fun k _ hk => hx.block k hk
def CRel (ks : List E) (u : Int) (W : World) (kept dec i : Value) (wr : World) : Prop :=
  ∃ (k : Nat) (ps : List (E × Value)), k ≤ ks.length ∧ i = .int .i64 k ∧ dec = .bool (decOf (ks.take k) u) ∧ Ext W wr ∧ OwnK wr W.heap.size kept ps ∧ ps.map (·.1) = keptOf (ks.take k) u
def CRel2 (ls : List E) (W : World) (g N : Nat) (i : Value) (wr : World) : Prop :=
  ∃ k : Nat, k ≤ ls.length ∧ i = .int .i64 k ∧ Ext W wr ∧ N ≤ wr.heap.size ∧ RowK (fun b => b ≠ g) wr g ls ∧ ∀ (j : Nat) (h : j < ls.length), j < k → IsT (fun b => N ≤ b) wr g (j * 4) ls[j]

set_option maxHeartbeats 16000000 in
theorem connect_any (ks : List E) (v : Value) (op u : Int) (w : World) (hk : Kids w v ks) (hM : Masks w) (hu0 : 0 ≤ u) (hu1 : u ≤ 1) (hl : ks.length ≤ 6) (hc : ∀ k ∈ ks, k.wd = 1 ∧ k.wf = true ∧ k.size ≤ 100000) (hwf : (foldE op (keptOf ks u)).wf = true ∨ keptOf ks u = []) :
    Calls Tryz.prog 69 #[v, .int .i64 op, .int .i64 u] w (RetT (fun b => w.heap.size ≤ b) (connectS ks op u) w) := by
  obtain ⟨sa, scap, rfl⟩ := SliceAt.shape hk
  obtain ⟨W, hW⟩ : ∃ W, W = (w.alloc (.cells #[.int .i64 op] 3)).alloc (.cells zeroA 25) := ⟨_, rfl⟩
  have hx : Ext w W := by rw [hW]; exact ((Ext.refl w).alloc _).alloc _
  obtain ⟨hv1, hv2⟩ := heap_of2 w (.cells #[.int .i64 op] 3) (.cells zeroA 25)
  rw [← hW] at hv1 hv2
  have HO : Hid (W.cell? ⟨w.heap.size, 0, none⟩ = some (.int .i64 op)) := by simp [Hid, World.cell?, hv1]
  have HVR : Hid (VarE W (w.heap.size + 1) 0 0 0 (.slice none 0 0)) := hv2
  have HX := Lib.hid hx; have HK := Lib.hid (hk.ext hx); have HM := Lib.hid (hM.ext hx); have HC := Lib.hid hc; have HWF := Lib.hid hwf; have HW := Lib.hid hW
  clear hx hv1 hv2 hk hM hc hwf hW
  go_enter Tryz.func69, Tryz.ntmps69
  go_upto_region 1 with fail
  rw [← HW.out]; clear HW
  have hwsz : w.heap.size + 1 < W.heap.size := HVR.out.lt
  go_wp2_with fail
  go_loopw [7, 8, 14] (fun kept dec i wr => CRel ks u W kept dec i wr) (fun _ _ i _ => ks.length - (intOf i).toNat)
  case atStart => exact ⟨0, [], Nat.zero_le _, rfl, rfl, Ext.refl _, OwnK.nil _ _, rfl⟩
  case round =>
    obtain ⟨k, ps, hkl, rfl, rfl, hX, hO, hps⟩ := hrel
    obtain ⟨pa, pc, rfl⟩ := hO.shape
    have hpl : ps.length ≤ 6 := by
      have := kept_len (ks.take k) u
      rw [← hps, List.length_map] at this
      have := List.length_take_le k ks
      omega
    have HXr := Lib.hid hX; have HOW := Lib.hid hO; have HPS := Lib.hid hps
    clear hX hO hps
    by_cases hlt : k < ks.length
    · rcases HK.out with ⟨_, e⟩ | ⟨b', o', cap', e, _, hk'⟩
      · rw [e] at hlt; simp at hlt
      cases e
      have hE := (hk' k hlt).ext HXr.out
      obtain ⟨g0, g1, g2, kv, g3, hkk⟩ := hE.cells
      obtain ⟨ka, kc, rfl⟩ := SliceAt.shape hkk
      have hin : ks[k] ∈ ks := List.getElem_mem hlt
      have HKA : Hid (KidsT (fun b => b < W.heap.size) wr (.slice ka ks[k].kids.length kc) ks[k].kids) := by
        obtain ⟨_, _, _, kw, e3, hkw⟩ := (hk' k hlt).cells
        have : kw = .slice ka ks[k].kids.length kc := by have h3 := HXr.out.cell e3; rw [g3] at h3; exact (Option.some.inj h3).symm
        subst this
        exact hkw.t.keep fun q hq _ => HXr.out.block q hq
      have HCK := Lib.hid (HC.out ks[k] hin)
      have HDS := Lib.hid (dec_succ (u := u) hlt); have HKS := Lib.hid (kept_succ (u := u) hlt)
      clear hk' hE hin
      go_upto_region 6 with fail
      obtain ⟨W2, hW2⟩ : ∃ W2, W2 = wr.alloc (.cells #[.int .i64 ks[k].op, .int .i64 ks[k].wd, .int .i64 ks[k].n, .slice ka ks[k].kids.length kc] 25) := ⟨_, rfl⟩
      have hxw : Ext wr W2 := by rw [hW2]; exact (Ext.refl _).alloc _
      have HV2 : Hid (VarE W2 wr.heap.size ks[k].op ks[k].wd ks[k].n (.slice ka ks[k].kids.length kc)) := by rw [hW2]; exact VarE.new _ _ _ _ _
      have HEV : Hid (EVal W2 (.agg #[.int .i64 ks[k].op, .int .i64 ks[k].wd, .int .i64 ks[k].n, .slice ka ks[k].kids.length kc]) ks[k]) := ⟨_, rfl, hkk.ext hxw⟩
      rw [← hW2]
      have HX2 := Lib.hid (HXr.out.trans hxw)
      have HO2 := Lib.hid (HOW.out.ext hxw); have HKA2 := Lib.hid (HKA.out.keep fun q hq hs => hxw.block q hs)
      clear hxw hW2 g0 g1 g2 g3 hkk
      generalize wr.heap.size = B2 at *
      generalize hee : ks[k] = e at *
      clear hee
      obtain ⟨q0, q1, q2, q3⟩ := HV2.out.cells
      go_wp2_with fail
      refine (condition_any e _ _ HEV.out (HM.out.ext HX2.out)).mono ?_
      rintro r w3 ⟨rfl, x1⟩
      rw [HCK.out.1, HCK.out.2.1]
      replace HX2 := Lib.hid (HX2.out.trans x1); replace HV2 := Lib.hid (HV2.out.ext x1); replace HEV := Lib.hid (HEV.out.ext x1); replace HO2 := Lib.hid (HO2.out.ext x1); replace HKA2 := Lib.hid (HKA2.out.keep fun q _ hs => x1.block q hs)
      clear x1 q0 q1 q2 q3
      obtain ⟨q0, q1, q2, q3⟩ := HV2.out.cells
      go_wp2_with fail
      refine (isConst_any e _ _ _ HEV.out).mono ?_
      rintro r w4 ⟨rfl, x1⟩
      replace HX2 := Lib.hid (HX2.out.trans x1); replace HV2 := Lib.hid (HV2.out.ext x1); replace HEV := Lib.hid (HEV.out.ext x1); replace HO2 := Lib.hid (HO2.out.ext x1); replace HKA2 := Lib.hid (HKA2.out.keep fun q _ hs => x1.block q hs)
      clear x1 q0 q1 q2 q3
      cases hA : e.isC (1 - u) with
      | true =>
        have HA := Lib.hid hA; clear hA
        go_wp2_with fail
        refine ⟨⟨k + 1, ps, by omega, by go_num, ?_, HX2.out, HO2.out, ?_⟩, by simp [intOf]; omega⟩
        · rw [HDS.out, HA.out]; simp
        · rw [HKS.out, HA.out, HPS.out]; simp
      | false =>
      have HA := Lib.hid hA; clear hA
      obtain ⟨q0, q1, q2, q3⟩ := HV2.out.cells
      go_wp2_with fail
      refine (isConst_any e _ _ _ HEV.out).mono ?_
      rintro r w5 ⟨rfl, x1⟩
      replace HX2 := Lib.hid (HX2.out.trans x1); replace HV2 := Lib.hid (HV2.out.ext x1); replace HEV := Lib.hid (HEV.out.ext x1); replace HO2 := Lib.hid (HO2.out.ext x1); replace HKA2 := Lib.hid (HKA2.out.keep fun q _ hs => x1.block q hs)
      clear x1 q0 q1 q2 q3
      cases hB : e.isC u with
      | true =>
        have HB := Lib.hid hB; clear hB
        go_wp2_with fail
        refine ⟨⟨k + 1, ps, by omega, by go_num, ?_, HX2.out, HO2.out, ?_⟩, by simp [intOf]; omega⟩
        · rw [HDS.out, HA.out]; simp
        · rw [HKS.out, HA.out, HB.out, HPS.out]; simp
      | false =>
      have HB := Lib.hid hB; clear hB
      have hp40 : ps.length ≤ 40 := by omega
      have hp40d : decide (ps.length ≤ 40) = true := decide_eq_true hp40
      obtain ⟨q0, q1, q2, q3⟩ := HV2.out.cells
      have HKA3 : Hid (KidsT (fun b => some b ≠ (Value.slice pa ps.length pc).ownBlock ∧ b < w5.heap.size) w5 (.slice ka e.kids.length kc) e.kids) := HKA2.out.mono fun q hq => ⟨fun e => by
          have := (ownA_block HO2.out.1 q e.symm).1; omega, by have := HX2.out.size; omega⟩
      go_wp2_with (at_builtin; refine wpList_append_kid rfl (.tmp 38) (.tmp 40) rfl W.heap.size w5 _ ps e _ rfl rfl HO2.out HKA3.out (by omega) HX2.out.size ?_)
      intro g cap w6 hO6 hgr hg
      have HO6 := Lib.hid hO6; have HX6 := Lib.hid (HX2.out.grown hgr fun q hq => (ownA_block HO2.out.1 q hq).1)
      clear hO6 hgr hg
      go_wp2_with fail
      refine ⟨⟨k + 1, _, by omega, by go_num, ?_, HX6.out, HO6.out, ?_⟩, by simp [intOf]; omega⟩
      · rw [HDS.out, HA.out]; simp
      · rw [HKS.out, HA.out, HB.out, List.map_append, HPS.out]; simp
    · have HT : Hid (ks.take k = ks) := List.take_of_length_le (by omega)
      rw [HT.out] at HPS ⊢
      clear hkl
      cases hD : decOf ks u with
      | true =>
        have HF : Hid (connectS ks op u = constE (1 - u) 1) := by rw [Hid, connectS, hD]; rfl
        clear hD
        have HVr := Lib.hid (HVR.out.ext HXr.out)
        go_wp2_with fail
        refine (constant_any (1 - u) 1 _).mono ?_
        rintro r w3 ⟨rfl, x1⟩
        have hR := HVr.out.ext x1
        obtain ⟨c0, c1, c2, c3, f0, f1, f2, f3⟩ := cells_of_block hR
        have HB := Lib.hid (put4_new (x := .int .i64 1) (y := .int .i64 1) (z := .int .i64 (1 - u)) (u := .slice none 0 0) hR)
        have HXE : Hid (Ext w (put4 w3 (w.heap.size + 1) 0 (.int .i64 1) (.int .i64 1) (.int .i64 (1 - u)) (.slice none 0 0))) := Below.trans (HX.out.trans (HXr.out.trans x1)) (below_put4 (by omega))
        clear x1 hR
        go_wp2_with fail
        refine bodyPost_ret (v := .agg #[.int .i64 1, .int .i64 1, .int .i64 (1 - u), .slice none 0 0]) (results_cell_row Tryz.results69 _ _ (w.heap.size + 1) 25 _ (0, 0) _ rfl HB.out Tryz.underlying25 rfl sizeExpr) rfl ⟨⟨_, rfl, ?_⟩, HXE.out⟩
        rw [HF.out]; exact ⟨_, rfl, .inl ⟨⟨_, _, rfl⟩, rfl⟩⟩
      | false =>
        have HF : Hid (connectS ks op u = if keptOf ks u = [] then constE u 1 else foldE op (keptOf ks u)) := by rw [Hid, connectS, hD]; rfl
        clear hD
        have HVr := Lib.hid (HVR.out.ext HXr.out)
        rcases Nat.eq_zero_or_pos ps.length with hp | hp
        · have hps0 := List.length_eq_zero_iff.1 hp
          subst hps0
          have HF2 : Hid (connectS ks op u = constE u 1) := by rw [Hid, HF.out, ← HPS.out]; rfl
          clear HF hp
          go_wp2_with fail
          refine (constant_any u 1 _).mono ?_
          rintro r w3 ⟨rfl, x1⟩
          have hR := HVr.out.ext x1
          obtain ⟨c0, c1, c2, c3, f0, f1, f2, f3⟩ := cells_of_block hR
          have HB := Lib.hid (put4_new (x := .int .i64 1) (y := .int .i64 1) (z := .int .i64 u) (u := .slice none 0 0) hR)
          have HXE : Hid (Ext w (put4 w3 (w.heap.size + 1) 0 (.int .i64 1) (.int .i64 1) (.int .i64 u) (.slice none 0 0))) := Below.trans (HX.out.trans (HXr.out.trans x1)) (below_put4 (by omega))
          clear x1 hR
          go_wp2_with fail
          refine bodyPost_ret (v := .agg #[.int .i64 1, .int .i64 1, .int .i64 u, .slice none 0 0]) (results_cell_row Tryz.results69 _ _ (w.heap.size + 1) 25 _ (0, 0) _ rfl HB.out Tryz.underlying25 rfl sizeExpr) rfl ⟨⟨_, rfl, ?_⟩, HXE.out⟩
          rw [HF2.out]; exact ⟨_, rfl, .inl ⟨⟨_, _, rfl⟩, rfl⟩⟩
        · rcases HOW.out.1.2 with ⟨_, e⟩ | ⟨g, cap0, cur, e, _⟩
          · rw [e] at hp; simp at hp
          cases e
          obtain ⟨hrow, _, hpc, hpm, hgW⟩ := HOW.out.row
          rw [HPS.out] at hrow
          have hln : ps.length = (keptOf ks u).length := by rw [← HPS.out, List.length_map]
          have HNE : Hid (connectS ks op u = foldE op (keptOf ks u)) := by 
            rw [Hid, HF.out, if_neg]
            intro h
            have : ps.length = 0 := by rw [hln, h]; rfl
            omega
          have HLM : Hid (∀ x ∈ keptOf ks u, x ∈ ks) := fun x hx => (List.mem_filter.1 hx).1
          clear HF HOW HPS HVr HT
          generalize keptOf ks u = ls at *
          rw [hln] at hpl hp hpc ⊢
          clear hln
          have hp0 : ¬ ls.length = 0 := by omega
          have h40 : ¬ 40 < ls.length := by omega
          have hNW : W.heap.size ≤ wr.heap.size := HXr.out.size
          have HST : Hid (CRel2 ls W g wr.heap.size (.int .i64 0) wr) := ⟨0, Nat.zero_le _, rfl, HXr.out, Nat.le_refl _, hrow, fun j _ h => absurd h (by omega)⟩
          have hgN : g < wr.heap.size := by obtain ⟨_, c, h, _⟩ := hrow; exact heap_lt' h
          clear hrow HXr
          go_wp2_with fail
          generalize wr.heap.size = N at *
          go_loopw [61] (fun i wx => CRel2 ls W g N i wx) (fun i _ => ls.length - (intOf i).toNat)
          case atStart => exact HST.out
          case round =>
            obtain ⟨k2, hk2, rfl, hX2, hN2, hRow2, hT2⟩ := hrel
            have HX2 := Lib.hid hX2; have HR2 := Lib.hid hRow2; have HT2 := Lib.hid hT2
            clear hX2 hRow2 hT2 HST
            by_cases hlt2 : k2 < ls.length
            · obtain ⟨g0, g1, g2, xa, xl, xc, g3, hkx⟩ := (HR2.out.1 k2 hlt2).cells
              have HEV : Hid (EVal wr (.agg #[.int .i64 ls[k2].op, .int .i64 ls[k2].wd, .int .i64 ls[k2].n, .slice xa xl xc]) ls[k2]) := ⟨_, rfl, hkx.kids⟩
              have HSZ := Lib.hid (HC.out _ (HLM.out ls[k2] (List.getElem_mem hlt2))).2.2
              clear hkx
              go_wp2_with fail
              refine (clone_any ls[k2] _ _ HEV.out HSZ.out).mono ?_
              rintro r w3 ⟨⟨v, rfl, hv⟩, x1⟩
              obtain ⟨ya, yl, yc, rfl, hky⟩ := hv.t.shape
              have hR3 := HR2.out.ext x1
              obtain ⟨⟨v0, c0⟩, f0⟩ := hR3.cell k2 0 hlt2 (by omega)
              obtain ⟨⟨v1, c1⟩, f1⟩ := hR3.cell k2 1 hlt2 (by omega)
              obtain ⟨⟨v2, c2⟩, f2⟩ := hR3.cell k2 2 hlt2 (by omega)
              obtain ⟨⟨v3, c3⟩, f3⟩ := hR3.cell k2 3 hlt2 (by omega)
              rw [Nat.add_zero] at c0 f0
              have HREL : Hid (CRel2 ls W g N (.int .i64 ((k2 : Int) + 1)) (put4 w3 g (k2 * 4) (.int .i64 ls[k2].op) (.int .i64 ls[k2].wd) (.int .i64 ls[k2].n) (.slice ya yl yc))) := by
                have hsz := x1.size
                refine ⟨k2 + 1, by omega, by go_num, Below.trans (HX2.out.trans x1) (below_put4 hgW), by rw [put4_size]; omega, hR3.put hlt2 (hky.mono fun q hq => by omega), fun j hj hjk => ?_⟩
                by_cases c : j = k2
                · subst c
                  obtain ⟨d0, d1, d2, d3⟩ := put4_here (w := w3) (KB := g) (o := j * 4) (a := .int .i64 ls[j].op) (b := .int .i64 ls[j].wd) (c := .int .i64 ls[j].n) (d := .slice ya yl yc) (fun i hi => (hR3.cell j i hlt2 hi).1)
                  exact .mk' d0 d1 d2 d3 ((hky.keep fun q hq _ => put4_heap q (by omega)).mono fun q hq => by omega)
                · exact ((HT2.out j hj (by omega)).ext x1).keepAt (fun i hi => put4_other _ (.inr (by simp; omega))) fun q hq _ => put4_heap q (by omega)
              clear x1 hv hky hR3 g0 g1 g2 g3
              go_wp2_with fail
              exact ⟨HREL.out, by simp [intOf]; omega⟩
            · obtain ⟨e0, r0, rfl⟩ : ∃ e0 r0, ls = e0 :: r0 := by cases ls with
                | nil => exact absurd rfl hp0
                | cons a b => exact ⟨a, b, rfl⟩
              have HOx := Lib.hid (HX2.out.cell HO.out)
              have HVx := Lib.hid (HVR.out.ext HX2.out); have HMx := Lib.hid (HM.out.ext HX2.out)
              have hszx := HX2.out.size
              have HROW : Hid (∀ (i : Nat) (h : i < (e0 :: r0).length), IsT (fun b => w.heap.size ≤ b ∧ b ≠ w.heap.size + 1) wr g (0 + i * 4) (e0 :: r0)[i]) := fun i h => by
                rw [Nat.zero_add]; exact (HT2.out i h (by omega)).mono fun q hq => by omega
              clear HT2
              simp only [List.length_cons] at *
              go_wp2_with fail
              refine (fold_any (fun b => w.heap.size ≤ b ∧ b ≠ w.heap.size + 1) op w.heap.size e0 r0 g 0 pc _ HROW.out (by omega) hpm (fun q hq => by omega) HOx.out).mono ?_
              rintro r w3 ⟨⟨v, rfl, hv⟩, x1⟩
              generalize foldE op (e0 :: r0) = y at *
              obtain ⟨ya, yl, yc, rfl, hky⟩ := hv.shape
              have HEV := Lib.hid hv.eVal; have HKY := Lib.hid hky
              replace HX2 := Lib.hid (HX2.out.trans x1); replace HVx := Lib.hid (HVx.out.ext x1); replace HMx := Lib.hid (HMx.out.ext x1)
              clear x1 hv hky HROW HOx
              go_wp2_with fail
              refine (formed_yes y _ _ HEV.out HMx.out (HWF.out.resolve_right (by simp))).mono ?_
              rintro r w4 ⟨rfl, x1⟩
              have hR := HVx.out.ext x1
              obtain ⟨c0, c1, c2, c3, f0, f1, f2, f3⟩ := cells_of_block hR
              have HB := Lib.hid (put4_new (x := .int .i64 y.op) (y := .int .i64 y.wd) (z := .int .i64 y.n) (u := .slice ya yl yc) hR)
              have HXE : Hid (Ext w (put4 w4 (w.heap.size + 1) 0 (.int .i64 y.op) (.int .i64 y.wd) (.int .i64 y.n) (.slice ya yl yc))) := Below.trans (HX.out.trans (HX2.out.trans x1)) (below_put4 (by omega))
              have HKE : Hid (KidsT (fun b => w.heap.size ≤ b) (put4 w4 (w.heap.size + 1) 0 (.int .i64 y.op) (.int .i64 y.wd) (.int .i64 y.n) (.slice ya yl yc)) (.slice ya yl yc) y.kids) := ((HKY.out.keep fun q _ hq => x1.block q hq).keep fun q hq _ => put4_heap q hq.2).mono fun q hq => hq.1
              clear x1 hR
              go_wp2_with fail
              refine bodyPost_ret (v := .agg #[.int .i64 y.op, .int .i64 y.wd, .int .i64 y.n, .slice ya yl yc]) (results_cell_row Tryz.results69 _ _ (w.heap.size + 1) 25 _ (0, 0) _ rfl HB.out Tryz.underlying25 rfl sizeExpr) rfl ⟨⟨_, rfl, ?_⟩, HXE.out⟩
              rw [HNE.out]; exact ⟨_, rfl, HKE.out⟩
end Go.Proofs.YtlcgbdjmlnjhcaaGreatDoor
