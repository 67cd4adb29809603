/-
  A slice of assignments that a call makes by appending; plain facts on memory.
-/
import Derived.Test.YtdancokndklpnaaDoorMLs
import Derived.Deep.AppendLies
import Derived.Maps.AppendAt
import Derived.Deep.Slices
namespace Go.Proofs.YtdancokndklpnaaDoor
open Go.RowKit

/-- The expression lies at block b, offset o; the blocks of its kids are in S. -/
inductive IsT (S : Nat → Prop) (w : World) : Nat → Nat → E → Prop
  | leaf {b o : Nat} {op wd n : Int} {ea : Option Addr} {ec : Nat} : w.cell? ⟨b, o, .none⟩ = some (.int .i64 op) → w.cell? ⟨b, o + 1, .none⟩ = some (.int .i64 wd) → w.cell? ⟨b, o + 2, .none⟩ = some (.int .i64 n) →
      w.cell? ⟨b, o + 3, .none⟩ = some (.slice ea 0 ec) → IsT S w b o (.mk op wd n [])
  | node {b o : Nat} {op wd n : Int} {ks : List E} {b' o' cap : Nat} : w.cell? ⟨b, o, .none⟩ = some (.int .i64 op) → w.cell? ⟨b, o + 1, .none⟩ = some (.int .i64 wd) → w.cell? ⟨b, o + 2, .none⟩ = some (.int .i64 n) →
      w.cell? ⟨b, o + 3, .none⟩ = some (.slice (.some ⟨b', o', .none⟩) ks.length cap) → ks.length ≤ 9223372036854775807 → S b' → (∀ (i : Nat) (h : i < ks.length), IsT S w b' (o' + i * 4) ks[i]) → IsT S w b o (.mk op wd n ks)
def KidsT (S : Nat → Prop) (w : World) (v : Value) (ks : List E) : Prop :=
  ((∃ (a : Option Addr) (c : Nat), v = .slice a 0 c) ∧ ks = []) ∨ ∃ b o cap : Nat, v = .slice (.some ⟨b, o, .none⟩) ks.length cap ∧ ks.length ≤ 9223372036854775807 ∧ S b ∧ ∀ (i : Nat) (h : i < ks.length), IsT S w b (o + i * 4) ks[i]
theorem IsT.isE {S : Nat → Prop} {w : World} {b o : Nat} {e : E} (h : IsT S w b o e) : IsE w b o e := by
  induction h with
  | leaf h0 h1 h2 h3 => exact .leaf h0 h1 h2 h3
  | node h0 h1 h2 h3 hl _ _ ih => exact .node h0 h1 h2 h3 hl ih
theorem KidsT.kids {S : Nat → Prop} {w : World} {v : Value} {ks : List E} (h : KidsT S w v ks) : Kids w v ks := by
  rcases h with h | ⟨b, o, cap, h1, hl, _, h2⟩
  · exact .inl h
  · exact .inr ⟨b, o, cap, h1, hl, fun i hi => (h2 i hi).isE⟩
theorem IsT.mono {S S' : Nat → Prop} {w : World} {b o : Nat} {e : E} (h : IsT S w b o e) (hS : ∀ k, S k → S' k) : IsT S' w b o e := by
  induction h with
  | leaf h0 h1 h2 h3 => exact .leaf h0 h1 h2 h3
  | node h0 h1 h2 h3 hl hs _ ih => exact .node h0 h1 h2 h3 hl (hS _ hs) ih
theorem KidsT.mono {S S' : Nat → Prop} {w : World} {v : Value} {ks : List E} (h : KidsT S w v ks) (hS : ∀ k, S k → S' k) : KidsT S' w v ks := by
  rcases h with h | ⟨b, o, cap, h1, hl, hs, h2⟩
  · exact .inl h
  · exact .inr ⟨b, o, cap, h1, hl, hS _ hs, fun i hi => (h2 i hi).mono hS⟩
/-- Kept where the blocks in S are as they were. -/
theorem keptCell {S : Nat → Prop} {w w' : World} (hx : ∀ k, S k → k < w.heap.size → w'.heap[k]? = w.heap[k]?) {p : Addr} {v : Value} (hp : S p.block) (hc : w.cell? p = some v) : w'.cell? p = some v := by
  rw [World.cell?_of_block (hx p.block hp (block_lt hc))]; exact hc
theorem IsT.keep {S : Nat → Prop} {w w' : World} {b o : Nat} {e : E} (h : IsT S w b o e) (hb : S b) (hx : ∀ k, S k → k < w.heap.size → w'.heap[k]? = w.heap[k]?) : IsT S w' b o e := by
  induction h with
  | leaf h0 h1 h2 h3 => exact .leaf (keptCell hx hb h0) (keptCell hx hb h1) (keptCell hx hb h2) (keptCell hx hb h3)
  | node h0 h1 h2 h3 hl hs _ ih => exact .node (keptCell hx hb h0) (keptCell hx hb h1) (keptCell hx hb h2) (keptCell hx hb h3) hl hs (fun i hi => ih i hi hs)
theorem KidsT.keep {S : Nat → Prop} {w w' : World} {v : Value} {ks : List E} (h : KidsT S w v ks) (hx : ∀ k, S k → k < w.heap.size → w'.heap[k]? = w.heap[k]?) : KidsT S w' v ks := by
  rcases h with h | ⟨b, o, cap, h1, hl, hs, h2⟩
  · exact .inl h
  · exact .inr ⟨b, o, cap, h1, hl, hs, fun i hi => (h2 i hi).keep hs hx⟩
/-- The blocks are there. -/
theorem IsB.t {N : Nat} {w : World} {b o : Nat} {e : E} (h : IsB N w b o e) : IsT (fun k => N ≤ k ∧ k < w.heap.size) w b o e := by
  induction h with
  | leaf h0 h1 h2 h3 => exact .leaf h0 h1 h2 h3
  | @node b o op wd n ks b' o' cap h0 h1 h2 h3 hl hb hk ih =>
    rcases Nat.eq_zero_or_pos ks.length with h | h
    · have := List.length_eq_zero_iff.1 h; subst this; exact .leaf h0 h1 h2 h3
    · exact .node h0 h1 h2 h3 hl ⟨hb, block_lt (hk 0 h).isE.cells.1⟩ ih
theorem KidsB.t {N : Nat} {w : World} {v : Value} {ks : List E} (h : KidsB N w v ks) : KidsT (fun k => N ≤ k ∧ k < w.heap.size) w v ks := by
  rcases h with h | ⟨b, o, cap, h1, hl, hb, h2⟩
  · exact .inl ⟨⟨_, _, h.1⟩, h.2⟩
  · rcases Nat.eq_zero_or_pos ks.length with h | h
    · have := List.length_eq_zero_iff.1 h; subst this; exact .inl ⟨⟨_, _, h1⟩, rfl⟩
    · exact .inr ⟨b, o, cap, h1, hl, ⟨hb, block_lt (h2 0 h).isE.cells.1⟩, fun i hi => (h2 i hi).t⟩

theorem IsT.there {S : Nat → Prop} {w : World} {b o : Nat} {e : E} (h : IsT S w b o e) : IsT (fun k => S k ∧ k < w.heap.size) w b o e := by
  induction h with
  | leaf h0 h1 h2 h3 => exact .leaf h0 h1 h2 h3
  | @node b o op wd n ks b' o' cap h0 h1 h2 h3 hl hb hk ih =>
    rcases Nat.eq_zero_or_pos ks.length with h | h
    · have := List.length_eq_zero_iff.1 h; subst this; exact .leaf h0 h1 h2 h3
    · exact .node h0 h1 h2 h3 hl ⟨hb, block_lt (hk 0 h).isE.cells.1⟩ ih
theorem KidsT.there {S : Nat → Prop} {w : World} {v : Value} {ks : List E} (h : KidsT S w v ks) : KidsT (fun k => S k ∧ k < w.heap.size) w v ks := by
  rcases h with h | ⟨b, o, cap, h1, hl, hb, h2⟩
  · exact .inl h
  · rcases Nat.eq_zero_or_pos ks.length with h | h
    · have := List.length_eq_zero_iff.1 h; subst this; exact .inl ⟨⟨_, _, h1⟩, rfl⟩
    · exact .inr ⟨b, o, cap, h1, hl, ⟨hb, block_lt (h2 0 h).isE.cells.1⟩, fun i hi => (h2 i hi).there⟩

def cells5 (p : Int × E × Value) : List Value := [.int .i64 p.1, .int .i64 p.2.1.op, .int .i64 p.2.1.wd, .int .i64 p.2.1.n, p.2.2]
def flat5 (ps : List (Int × E × Value)) : List Value := ps.flatMap cells5
theorem flat5_len (ps : List (Int × E × Value)) : (flat5 ps).length = ps.length * 5 := by
  induction ps with
  | nil => rfl
  | cons p r ih => simp only [flat5, List.flatMap_cons, List.length_append, List.length_cons, cells5, List.length_nil] at *; omega
theorem flat5_get (ps : List (Int × E × Value)) (i j : Nat) (hi : i < ps.length) (hj : j < 5) : (flat5 ps)[i * 5 + j]? = (cells5 ps[i])[j]? := by
  induction ps generalizing i with
  | nil => simp at hi
  | cons p r ih =>
    simp only [flat5, List.flatMap_cons]
    cases i with
    | zero => rw [List.getElem?_append_left (by simp [cells5]; omega)]; simp
    | succ i =>
      rw [List.getElem?_append_right (by simp [cells5]; omega)]
      have := ih i (by simpa using hi)
      simp only [flat5] at this
      simp only [cells5, List.length_cons, List.length_nil, List.getElem_cons_succ] at *
      rw [show (i + 1) * 5 + j - (0 + 1 + 1 + 1 + 1 + 1) = i * 5 + j by omega]
      exact this
def OwnA (w : World) (base : Nat) (v : Value) (ps : List (Int × E × Value)) : Prop :=
  w.ownsRow base 33 5 v ps.length (flat5 ps) ∧ ∀ p ∈ ps, KidsT (fun b => some b ≠ v.ownBlock) w p.2.2 p.2.1.kids
theorem OwnA.nil (w : World) (base : Nat) : OwnA w base (.slice none 0 0) [] := ⟨⟨rfl, .inl ⟨rfl, rfl⟩⟩, fun _ h => by cases h⟩
theorem ownA_block {w : World} {base e n : Nat} {v : Value} {sz : Nat} {xs : List Value} (h : w.ownsRow base e sz v n xs) (k : Nat) (hk : v.ownBlock = some k) : base ≤ k ∧ k < w.heap.size := by
  rcases h.2 with ⟨rfl, _⟩ | ⟨g, cap, cur, rfl, hg, hh, _⟩
  · cases hk
  · simp [Value.ownBlock] at hk
    subst hk
    exact ⟨hg, heap_lt' hh⟩
theorem ownRow_keep {w w' : World} {base e n : Nat} {v : Value} {sz : Nat} {xs : List Value} (h : w.ownsRow base e sz v n xs) (hx : Ext w w') : w'.ownsRow base e sz v n xs := by
  refine ⟨h.1, ?_⟩
  rcases h.2 with h2 | ⟨g, cap, cur, hv, hg, hh, r⟩
  · exact .inl h2
  · exact .inr ⟨g, cap, cur, hv, hg, by rw [hx.block g (heap_lt' hh)]; exact hh, r⟩
theorem OwnA.ext {w w' : World} {base : Nat} {v : Value} {ps : List (Int × E × Value)} (h : OwnA w base v ps) (hx : Ext w w') : OwnA w' base v ps :=
  ⟨ownRow_keep h.1 hx, fun p hp => (h.2 p hp).keep fun k _ hk => hx.block k hk⟩
theorem OwnA.shape {w : World} {base : Nat} {v : Value} {ps : List (Int × E × Value)} (h : OwnA w base v ps) : ∃ a c, v = .slice a ps.length c := by
  rcases h.1.2 with ⟨rfl, hl⟩ | ⟨g, cap, cur, rfl, _⟩
  · exact ⟨none, 0, by rw [hl]⟩
  · exact ⟨_, _, rfl⟩
/-- A row of assignments, its kids known, is a slice of assignments. -/
theorem assigns_row {w : World} {base : Nat} {v : Value} {ps : List (Int × E × Value)} (h : w.ownsRow base 33 5 v ps.length (flat5 ps)) (hk : ∀ p ∈ ps, Kids w p.2.2 p.2.1.kids) : Assigns w v (ps.map fun p => (p.1, p.2.1)) := by
  rcases h.2 with ⟨rfl, hl⟩ | ⟨g, cap, cur, rfl, hg, hh, hn, hc, hs, ht⟩
  · have := List.length_eq_zero_iff.1 hl; subst this; exact .inl ⟨⟨_, _, rfl⟩, rfl⟩
  · refine .inr ⟨g, 0, cap, by rw [List.length_map], by rw [List.length_map]; unfold maxLen at hc; omega, fun i hi => ?_⟩
    rw [List.length_map] at hi
    have cell : ∀ j, j < 5 → w.cell? ⟨g, i * 5 + j, none⟩ = (cells5 ps[i])[j]? := by
      intro j hj
      have e1 := congrArg (fun x => x[i * 5 + j]?) ht
      rw [List.getElem?_take_of_lt (by omega), flat5_get ps i j hi hj] at e1
      rw [← e1]
      simp [World.cell?, hh]
    have k := hk ps[i] (List.getElem_mem hi)
    rw [List.getElem_map, Nat.zero_add]
    have c0 := cell 0 (by omega); have c1 := cell 1 (by omega); have c2 := cell 2 (by omega); have c3 := cell 3 (by omega); have c4 := cell 4 (by omega)
    simp only [cells5, Nat.add_zero, List.getElem?_cons_zero, List.getElem?_cons_succ] at c0 c1 c2 c3 c4
    exact ⟨c0, IsE.of_cells c1 c2 c3 c4 k⟩
theorem infoAssign : (Tryd.prog.info? 33).map (fun i => (i.zero, i.size, i.bytes)) = some (some (.agg #[.int .i64 0, .int .i64 0, .int .i64 0, .int .i64 0, .slice none 0 0]), 5, 56) := by kernel_rfl
theorem KidsT.one {S : Nat → Prop} {w : World} {v : Value} {ks : List E} (h : KidsT S w v ks) : v.oneCell' = true := by
  rcases h with ⟨⟨_, _, rfl⟩, _⟩ | ⟨b, o, cap, rfl, _⟩ <;> rfl
theorem Kids.one {w : World} {v : Value} {ks : List E} (h : Kids w v ks) : v.oneCell' = true := by
  rcases h with ⟨⟨_, _, rfl⟩, _⟩ | ⟨b, o, cap, rfl, _⟩ <;> rfl
theorem cells5_one {p : Int × E × Value} (h : p.2.2.oneCell' = true) : ∀ u ∈ cells5 p, u.oneCell' = true := by
  intro u hu
  simp [cells5] at hu
  rcases hu with rfl | rfl | rfl | rfl | rfl
  · rfl
  · rfl
  · rfl
  · rfl
  · exact h

theorem step_append_assign {ops : Array Oper} {o : Oper} {a : Act} {K : Act → World → Prop} {Q : Exit → Act → World → Prop} {E' : Prop} (hgd : o.guard = none) (s x : Operand)
    (ho : o.op = .call { callee := .builtin .append, args := #[s, x], argTypes := #[25, 25] }) (base : Nat) (wr : World) (H : Nat) (hH : wr.heap.size = H) (v : Value) (ps : List (Int × E × Value)) (c : Int) (e : E) (kv : Value)
    (hs : a.eval s = v) (hx' : a.eval x = .slice (some ⟨H, 0, none⟩) 1 1) (hown : OwnA wr base v ps) (hk : KidsT (fun b => some b ≠ v.ownBlock ∧ b < wr.heap.size) wr kv e.kids) (hl : ps.length ≤ 1000000) (hb : base ≤ wr.heap.size)
    (h : ∀ g cap w', OwnA w' base (.slice (some ⟨g, 0, none⟩) (ps.length + 1) cap) (ps ++ [(c, e, kv)]) → wr.grownBy w' v.ownBlock → base ≤ g → K (a.put o.dst (.slice (some ⟨g, 0, none⟩) (ps.length + 1) cap)) w') :
    if Region.wanted o (yielded ops a.tmps) = true then Oper.wp Tryd.prog o a (wr.alloc (.cells #[.int .i64 c, .int .i64 e.op, .int .i64 e.wd, .int .i64 e.n, kv] 33)) K Q else E' := by
  obtain ⟨i0, hi, hz0, hz1, hz2⟩ := info_parts infoAssign
  have hx : a.eval x = .slice (some ⟨wr.heap.size, 0, none⟩) 1 1 := by rw [hH]; exact hx'
  have hx0 : Ext wr (wr.alloc (.cells #[.int .i64 c, .int .i64 e.op, .int .i64 e.wd, .int .i64 e.n, kv] 33)) := (Ext.refl wr).alloc _
  have hown0 := hown.ext hx0
  refine step_append_lies _ hgd s x 25 ho base 33 i0 _ 5 56 Tryd.underlying25 hi hz0 hz1 hz2 rfl (by decide) v ps.length (flat5 ps) hs hown0.1 ⟨wr.heap.size, 0, none⟩ 1 1 (cells5 (c, e, kv)) hx rfl ?_ (cells5_one hk.one) (by decide) ?_ ?_ ?_ (wr.heap.size + 1) (by simp) ?_
  · intro j u hj
    have hj5 : j < 5 := by have := (List.getElem?_eq_some_iff.1 hj).1; simpa [cells5] using this
    have : j = 0 ∨ j = 1 ∨ j = 2 ∨ j = 3 ∨ j = 4 := by omega
    rw [addr_add]
    rcases this with rfl | rfl | rfl | rfl | rfl <;> simp [cells5] at hj <;> subst hj <;> simp
  · unfold maxLen; omega
  · omega
  · simp; omega
  · intro g cap w' h1 h2 h3 h4
    have hgr : wr.grownBy w' v.ownBlock := ⟨h2.os, h2.tape, h2.output, by have := h2.size; simp at this; omega, fun k hk hne => by rw [h2.block k (by simp; omega) hne]; exact Below.heap_alloc wr _ k hk⟩
    have hbg : base ≤ g := by
      rcases h1.2 with ⟨e, _⟩ | ⟨g', _, _, e, hg', _⟩
      · cases e
      · cases e; exact hg'
    have keep : ∀ (u : Value) (ks : List E), KidsT (fun b => some b ≠ v.ownBlock ∧ b < wr.heap.size) wr u ks → KidsT (fun b => some b ≠ (Value.slice (some ⟨g, 0, none⟩) (ps.length + 1) cap).ownBlock) w' u ks := by
      intro u ks hu
      refine (hu.keep (w' := w') fun k hs hk => hgr.block k hk hs.1).mono fun k hs => ?_
      simp only [Value.ownBlock, ne_eq, Option.some.injEq]
      rintro rfl
      rcases h3 with h3 | h3
      · exact hs.1 h3.symm
      · omega
    refine h g cap w' ⟨?_, ?_⟩ hgr hbg
    · have : flat5 (ps ++ [(c, e, kv)]) = flat5 ps ++ cells5 (c, e, kv) := by simp [flat5]
      rw [this, List.length_append]; exact h1
    · intro p hp
      rcases List.mem_append.1 hp with hp | hp
      · exact keep _ _ (KidsT.there (hown.2 p hp))
      · simp at hp; subst hp; exact keep _ _ hk

/-- What lies behind a slice of assignments, with the values of the kids. -/
theorem assigns_rows {W : World} {b' o' : Nat} {l : List (Int × E)} (h : ∀ (i : Nat) (hi : i < l.length), AssignAt W b' (o' + i * 5) l[i]) :
    ∃ qs : List (Int × E × Value), qs.length = l.length ∧ (qs.map fun p => (p.1, p.2.1)) = l ∧ (∀ p ∈ qs, Kids W p.2.2 p.2.1.kids) ∧ ∀ j u, (flat5 qs)[j]? = some u → W.cell? ((⟨b', o', none⟩ : Addr).add j) = some u := by
  obtain ⟨f, hf⟩ := Deep.choose_lt (α := Value) (n := l.length) (p := fun i v => ∀ hi : i < l.length, W.cell? ⟨b', o' + i * 5 + 1 + 3, none⟩ = some v ∧ Kids W v l[i].2.kids) (fun i hi => by
    obtain ⟨_, _, _, v, h3, hk⟩ := (h i hi).2.cells
    exact ⟨v, fun _ => ⟨h3, hk⟩⟩)
  refine ⟨List.ofFn fun i : Fin l.length => (l[i].1, l[i].2, f i), by simp, ?_, ?_, ?_⟩
  · apply List.ext_getElem
    · simp
    · intro i h1 h2; simp
  · intro p hp
    obtain ⟨i, rfl⟩ := List.mem_ofFn.1 hp
    exact (hf i i.2 i.2).2
  · intro j u hu
    have hj := (List.getElem?_eq_some_iff.1 hu).1
    rw [flat5_len, List.length_ofFn] at hj
    have hi : j / 5 < l.length := by omega
    have e := flat5_get (List.ofFn fun i : Fin l.length => (l[i].1, l[i].2, f i)) (j / 5) (j % 5) (by simpa using hi) (by omega)
    rw [show j / 5 * 5 + j % 5 = j by omega, hu] at e
    rw [addr_add]
    obtain ⟨c0, hE⟩ := h (j / 5) hi
    obtain ⟨c1, c2, c3, _⟩ := hE.cells
    have c4 := (hf (j / 5) hi hi).1
    have hr : j % 5 = 0 ∨ j % 5 = 1 ∨ j % 5 = 2 ∨ j % 5 = 3 ∨ j % 5 = 4 := by omega
    rcases hr with hr | hr | hr | hr | hr <;> rw [hr] at e <;> simp [cells5] at e <;> subst e
    · rw [show o' + j = o' + j / 5 * 5 by omega]; exact c0
    · rw [show o' + j = o' + j / 5 * 5 + 1 by omega]; exact c1
    · rw [show o' + j = o' + j / 5 * 5 + 1 + 1 by omega]; exact c2
    · rw [show o' + j = o' + j / 5 * 5 + 1 + 2 by omega]; exact c3
    · rw [show o' + j = o' + j / 5 * 5 + 1 + 3 by omega]; exact c4
theorem append_nil_run {P : Program} {w : World} (base : Nat) (t ty e : TypeId) (i : TypeInfo) (size : Nat) (ht : P.underlying t = some (.slice e)) (hi : P.info? e = some i) (v : Value) (n : Nat) (xs : List Value) (h : w.ownsRow base e size v n xs) (c : Nat) :
    (Builtin.append_ #[t, t] ty #[v, .slice none 0 c]).run P w = .ok v w := by
  rcases h.2 with ⟨rfl, rfl⟩ | ⟨g, cap, cur, rfl, _, _, hle, _⟩
  all_goals simp [Builtin.append_, run_underlying ht, sizeOf, typeInfo, Builtin.lenOf, Builtin.firstCells, storeCells, *]

theorem wpList_append_all {ops : Array Oper} {rest : List Oper} {o : Oper} {a : Act} {Q : Exit → Act → World → Prop} {w W0 : World} (hgd : o.guard = none) (s x : Operand)
    (ho : o.op = .call { callee := .builtin .append, args := #[s, x], argTypes := #[25, 25] }) (v bv : Value) (ps : List (Int × E × Value)) (b : List (Int × E)) (hs : a.eval s = v) (hx : a.eval x = bv)
    (hown : OwnA w W0.heap.size v ps) (hB : Assigns W0 bv b) (hX : Ext W0 w) (hl : ps.length ≤ 1000) (hl2 : b.length ≤ 1000)
    (h : ∀ v' w', Assigns w' v' ((ps.map fun p => (p.1, p.2.1)) ++ b) → Ext W0 w' → wpList Tryd.prog ops Q rest (a.put o.dst v') w') : wpList Tryd.prog ops Q (o :: rest) a w := by
  obtain ⟨i0, hi, hz0, hz1, hz2⟩ := info_parts infoAssign
  have main : ∀ (ad : Addr) (c : Nat) (qs : List (Int × E × Value)), bv = .slice (some ad) qs.length c → (qs.map fun p => (p.1, p.2.1)) = b → (∀ p ∈ qs, Kids W0 p.2.2 p.2.1.kids) → (∀ j u, (flat5 qs)[j]? = some u → W0.cell? (ad.add j) = some u) → wpList Tryd.prog ops Q (o :: rest) a w := by
    intro ad c qs hbv hqb hqk hqc
    have hql : qs.length = b.length := by rw [← hqb]; simp
    refine wpList_append_own_at _ hgd s x 25 ho W0.heap.size 33 i0 _ 5 56 Tryd.underlying25 hi hz0 hz1 hz2 rfl (by decide) v ps.length (flat5 ps) hs hown.1 ad qs.length c (flat5 qs) (hx.trans hbv) (flat5_len qs) (fun j u hu => hX.cell (hqc j u hu)) ?_ ?_ ?_ hX.size ?_
    · intro u hu
      obtain ⟨p, hp, hu⟩ := List.mem_flatMap.1 hu
      exact cells5_one (hqk p hp).one u hu
    · unfold maxLen; omega
    · omega
    · intro v' w' h1 h2 _ _
      have hX' : Ext W0 w' := hX.grown h2 fun k hk => (ownA_block hown.1 k hk).1
      have e : (ps.map fun p => (p.1, p.2.1)) ++ b = (ps ++ qs).map fun p => (p.1, p.2.1) := by rw [List.map_append, hqb]
      refine h v' w' ?_ hX'
      rw [e]
      refine assigns_row (base := W0.heap.size) (by rw [List.length_append]; simpa [flat5] using h1) fun p hp => ?_
      rcases List.mem_append.1 hp with hp | hp
      · exact ((hown.2 p hp).keep fun k hs hk => h2.block k hk hs).kids
      · exact (hqk p hp).ext hX'
  rcases hB with ⟨⟨ad, c, rfl⟩, rfl⟩ | ⟨b', o', cap, rfl, _, hat⟩
  · cases ad with
    | none =>
      refine wpList_plain hgd fun K hK => ?_
      have hrun := append_nil_run (P := Tryd.prog) (w := w) W0.heap.size 25 o.type 33 i0 5 Tryd.underlying25 hi v ps.length (flat5 ps) hown.1 c
      unfold Oper.wp execOp
      simp only [ho, resolve, invoke, builtin, Sem.run_bind, Sem.run_pure, Result.andThen_ok, List.map_toArray, List.map_cons, List.map_nil, hs, hx, hrun]
      exact hK _ _ (h v w (by rw [List.append_nil]; exact assigns_row hown.1 fun p hp => (hown.2 p hp).kids) hX)
    | some ad => exact main ad c [] rfl rfl (fun _ h => by cases h) (fun j u hu => by simp [flat5] at hu)
  · obtain ⟨qs, hql, hqb, hqk, hqc⟩ := assigns_rows hat
    exact main _ cap qs (by rw [hql]) hqb hqk hqc
end Go.Proofs.YtdancokndklpnaaDoor
