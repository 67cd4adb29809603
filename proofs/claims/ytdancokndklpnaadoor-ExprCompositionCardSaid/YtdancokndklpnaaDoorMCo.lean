/-
  The plain law of the composition of two substitutions. No program in sight.
  A slice of assignments that a call makes by appending; plain facts on memory.
  The walk of ExprComposition. Printed by gen_comp.py.
-/
import Derived.Test.YtdancokndklpnaaDoorMSb
import Derived.Test.YtdancokndklpnaaDoorMLs
import Derived.Deep.AppendLies
import Derived.Maps.AppendAt
import Derived.Deep.Slices
namespace Go.Proofs.YtdancokndklpnaaDoor
open Go.RowKit

mutual
theorem rebuild_rebuild (f g : E → E) : (e : E) → (e.rebuild f).rebuild g = e.rebuild (fun x => (f x).rebuild g)
  | .mk op wd n ks => by
    by_cases hk : ks = []
    · subst hk; rw [rebuild_nil, rebuild_nil]
    · rw [rebuild_cons _ hk, rebuild_cons _ hk, rebuild_cons _ (by simpa using hk), rebuild_rebuildAll f g ks]
theorem rebuild_rebuildAll (f g : E → E) : (ks : List E) → (ks.map (E.rebuild f)).map (E.rebuild g) = ks.map (E.rebuild fun x => (f x).rebuild g)
  | [] => rfl
  | e :: r => by rw [List.map_cons, List.map_cons, List.map_cons, rebuild_rebuild f g e, rebuild_rebuildAll f g r]
end
mutual
theorem rebuild_congr (f g : E → E) : (e : E) → (∀ x ∈ e.leaves, f x = g x) → e.rebuild f = e.rebuild g
  | .mk op wd n ks, h => by
    by_cases hk : ks = []
    · subst hk; rw [rebuild_nil, rebuild_nil]; exact h _ (by rw [leaves_nil]; simp)
    · rw [rebuild_cons _ hk, rebuild_cons _ hk, rebuild_congrAll f g ks (by rw [leaves_cons hk] at h; exact h)]
theorem rebuild_congrAll (f g : E → E) : (ks : List E) → (∀ x ∈ leavesAll ks, f x = g x) → ks.map (E.rebuild f) = ks.map (E.rebuild g)
  | [], _ => rfl
  | e :: r, h => by
    rw [List.map_cons, List.map_cons, rebuild_congr f g e (fun x hx => h x (by simp [leavesAll, hx])), rebuild_congrAll f g r (fun x hx => h x (by simp [leavesAll, hx]))]
end
mutual
theorem leaves_rebuildAll (f : E → E) : (ks : List E) → leavesAll (ks.map (E.rebuild f)) = (leavesAll ks).flatMap fun x => (f x).leaves
  | [] => rfl
  | e :: r => by rw [List.map_cons, leavesAll, leavesAll, leaves_rebuild' f e, leaves_rebuildAll f r, List.flatMap_append]
theorem leaves_rebuild' (f : E → E) : (e : E) → (e.rebuild f).leaves = e.leaves.flatMap fun x => (f x).leaves
  | .mk op wd n ks => by
    by_cases hk : ks = []
    · subst hk; rw [rebuild_nil, leaves_nil]; simp
    · rw [rebuild_cons _ hk, leaves_cons (by simpa using hk), leaves_cons hk, leaves_rebuildAll f ks]
end

theorem subst_eq' {e : E} {set : List (Int × E)} {m d : Nat} (he : e.wf = true) (hde : e.deep d = true) (hm : 1 ≤ m) (hf : Fit (toS set) m e) (hs : m * e.size ≤ 600) (hd : d + m ≤ 40) :
    e.subst set = e.rebuild (substLeaf (toS set)) ∧ (e.rebuild (substLeaf (toS set))).wf = true := by
  obtain ⟨_, h2, h3, _⟩ := subst_all (toS set) m hm e d hde hf
  have hw : (e.rebuild (substLeaf (toS set))).wf = true := by
    simp only [E.wf, Bool.and_eq_true, decide_eq_true_eq]
    exact ⟨by omega, deep_up _ _ _ hd h2⟩
  exact ⟨by rw [E.subst, if_pos ⟨he, hf.ok, hw⟩], hw⟩

/-- The composed assignments. -/
def bothOf (a b : List (Int × E)) : List (Int × E) := a.map (fun x => (x.1, x.2.subst b)) ++ b
theorem toS_both (a b : List (Int × E)) (j : Nat) : toS (bothOf a b) j = match toS a j with | some t => some (t.subst b) | none => toS b j := by
  unfold toS bothOf
  rw [List.find?_append, List.find?_map]
  have e : ((fun x : Int × E => decide (x.1 = (j : Int))) ∘ fun x : Int × E => (x.1, x.2.subst b)) = fun x => decide (x.1 = (j : Int)) := rfl
  rw [e]
  cases a.find? (fun x => decide (x.1 = (j : Int))) with
  | none => simp
  | some x => simp
theorem wf_op {e : E} (h : e.wf = true) : e.op ≠ 0 := by
  obtain ⟨op, wd, n, ks⟩ := e
  have hd := wf_deep h
  obtain ⟨_, h2, _⟩ := deepParts hd
  intro ho
  simp only [E.op_mk] at ho
  subst ho
  simp [shapedW] at h2
theorem fits_wf {set : List (Int × E)} {e : E} (h : fitsB set e = true) : ∀ a ∈ set, a.2.wf = true := by
  obtain ⟨op, wd, n, ks⟩ := e
  rw [fitsB, Bool.and_eq_true] at h
  exact fun a ha => List.all_eq_true.1 h.1 a ha
theorem few_size {set : List (Int × E)} {m l : Nat} (h : fewB set m l = true) : set.length ≤ m ∧ ∀ a ∈ set, a.2.size ≤ l := by
  simp only [fewB, Bool.and_eq_true, List.all_eq_true, decide_eq_true_eq] at h
  exact ⟨by omega, fun a ha => by have := h.2 a ha; omega⟩

theorem compose_law {e : E} {a b : List (Int × E)} (he : (e.size : Int) ≤ 10 ∧ e.wf = true) (hfa : fewB a 4 6 = true) (hfb : fewB b 4 6 = true) (hea : fitsB a e = true) (heb : fitsB b e = true) (hab : ∀ x ∈ a, fitsB b x.2 = true) :
    ((e.subst a).subst b).op ≠ 0 ∧ e.subst (bothOf a b) = (e.subst a).subst b := by
  have hsa := (few_size (m := 4) (l := 6) hfa).2
  have hsb := (few_size (m := 4) (l := 6) hfb).2
  have hwa := fits_wf hea
  have hwb := fits_wf heb
  have hse : e.size ≤ 10 := by have := he.1; omega
  have hde := deep_in_size _ _ (wf_deep he.2)
  have hFa := fits_fit a 6 hsa e 40 (wf_deep he.2) hea
  have hFb := fits_fit b 6 hsb e 40 (wf_deep he.2) heb
  obtain ⟨e1, w1⟩ := subst_eq' he.2 hde (by omega) hFa (by omega) (by omega)
  obtain ⟨_, d1, s1, _⟩ := subst_all (toS a) 6 (by omega) e e.size hde hFa
  have hlv : ∀ x ∈ e.leaves, x = .mk x.op x.wd x.n [] ∧ 0 ≤ x.n := fun x hx => by
    have h := leaves_shaped e 40 (wf_deep he.2) x hx
    obtain ⟨op, wd, n, ks⟩ := x
    simp only [E.kids_mk] at h
    exact ⟨by rw [h.1]; rfl, (shapedW_leaf h.2).2.1⟩
  have hta : ∀ j t, toS a j = some t → ∃ x ∈ a, x.2 = t := fun j t h => by
    unfold toS at h
    obtain ⟨x, hx, rfl⟩ := Option.map_eq_some_iff.1 h
    exact ⟨x, List.mem_of_find?_eq_some hx, rfl⟩
  have htb : ∀ t, (∃ x ∈ a, x.2 = t) → t.subst b = t.rebuild (substLeaf (toS b)) ∧ (t.rebuild (substLeaf (toS b))).wf = true ∧ (t.rebuild (substLeaf (toS b))).wd = t.wd ∧ (t.rebuild (substLeaf (toS b))).size ≤ 600 := by
    rintro t ⟨x, hx, rfl⟩
    have ht := hwa x hx
    have hF := fits_fit b 6 hsb x.2 40 (wf_deep ht) (hab x hx)
    have hsz := hsa x hx
    have h1 := subst_eq' ht (deep_in_size _ _ (wf_deep ht)) (by omega) hF (by omega) (by omega)
    obtain ⟨k1, _, k3, _⟩ := subst_all (toS b) 6 (by omega) x.2 40 (wf_deep ht) hF
    exact ⟨h1.1, h1.2, k1, by omega⟩
  have hF2 : Fit (toS b) 6 (e.rebuild (substLeaf (toS a))) := by
    intro y hy ho t ht
    rw [leaves_rebuild'] at hy
    obtain ⟨x, hx, hy⟩ := List.mem_flatMap.1 hy
    obtain ⟨hxe, _⟩ := hlv x hx
    by_cases hxo : x.op = 2
    · cases hta' : toS a x.n.toNat with
      | none =>
        rw [hxe, hxo, substLeaf_none hta', leaves_nil, List.mem_singleton] at hy
        subst hy
        exact hFb x hx hxo t ht
      | some u =>
        obtain ⟨f1, f2, _⟩ := hFa x hx hxo u hta'
        rw [hxe, hxo, substLeaf_cell hta' f1 f2] at hy
        obtain ⟨z, hz, rfl⟩ := hta _ _ hta'
        exact fits_fit b 6 hsb z.2 40 (wf_deep f2) (hab z hz) y hy ho t ht
    · rw [hxe, substLeaf_other hxo, leaves_nil, List.mem_singleton] at hy
      subst hy
      exact absurd ho hxo
  obtain ⟨e2, w2⟩ := subst_eq' (set := b) w1 d1 (by omega) hF2 (by omega) (by omega)
  have hE : e.rebuild (substLeaf (toS (bothOf a b))) = (e.rebuild (substLeaf (toS a))).rebuild (substLeaf (toS b)) := by
    rw [rebuild_rebuild]
    refine rebuild_congr _ _ e fun x hx => ?_
    obtain ⟨hxe, _⟩ := hlv x hx
    by_cases hxo : x.op = 2
    · cases hta' : toS a x.n.toNat with
      | none =>
        have hb : toS (bothOf a b) x.n.toNat = toS b x.n.toNat := by rw [toS_both, hta']
        rw [hxe, hxo, substLeaf_none hta', rebuild_nil]
        simp [substLeaf, hb]
      | some u =>
        obtain ⟨f1, f2, _⟩ := hFa x hx hxo u hta'
        obtain ⟨t1, t2, t3, _⟩ := htb u (hta _ _ hta')
        have hb : toS (bothOf a b) x.n.toNat = some (u.rebuild (substLeaf (toS b))) := by rw [toS_both, hta']; exact congrArg some t1
        rw [hxe, hxo, substLeaf_cell hta' f1 f2, substLeaf_cell hb (t3.trans f1) t2]
    · rw [hxe, substLeaf_other hxo, substLeaf_other hxo, rebuild_nil, substLeaf_other hxo]
  have hF3 : Fit (toS (bothOf a b)) 600 e := by
    intro x hx ho t ht
    rw [toS_both] at ht
    cases hta' : toS a x.n.toNat with
    | none =>
      rw [hta'] at ht
      obtain ⟨f1, f2, f3⟩ := hFb x hx ho t ht
      exact ⟨f1, f2, by omega⟩
    | some u =>
      rw [hta'] at ht
      obtain ⟨f1, f2, _⟩ := hFa x hx ho u hta'
      obtain ⟨t1, t2, t3, t4⟩ := htb u (hta _ _ hta')
      simp only [Option.some.injEq] at ht
      rw [← ht, t1]
      exact ⟨t3.trans f1, t2, t4⟩
  rw [e1, e2]
  refine ⟨wf_op w2, ?_⟩
  rw [E.subst, hE, if_pos ⟨he.2, hF3.ok, w2⟩]
end Go.Proofs.YtdancokndklpnaaDoor
namespace Go.Proofs.YtdancokndklpnaaDoor
open Go.RowKit

/-- The expression lies at block b, offset o; the blocks of its kids are in S. -/
inductive IsT (S : Nat → Prop) (w : World) : Nat → Nat → E → Prop
  | leaf {b o : Nat} {op wd n : Int} {ea : Option Addr} {ec : Nat} : w.cell? ⟨b, o, .none⟩ = some (.int .i64 op) → w.cell? ⟨b, o + 1, .none⟩ = some (.int .i64 wd) → w.cell? ⟨b, o + 2, .none⟩ = some (.int .i64 n) →
      w.cell? ⟨b, o + 3, .none⟩ = some (.slice ea 0 ec) → IsT S w b o (.mk op wd n [])
  | node {b o : Nat} {op wd n : Int} {ks : List E} {b' o' cap : Nat} : w.cell? ⟨b, o, .none⟩ = some (.int .i64 op) → w.cell? ⟨b, o + 1, .none⟩ = some (.int .i64 wd) → w.cell? ⟨b, o + 2, .none⟩ = some (.int .i64 n) →
      w.cell? ⟨b, o + 3, .none⟩ = some (.slice (.some ⟨b', o', .none⟩) ks.length cap) → ks.length ≤ 9223372036854775807 → S b' → (∀ (i : Nat) (h : i < ks.length), IsT S w b' (o' + i * 4) ks[i]) → IsT S w b o (.mk op wd n ks)
def KidsT (S : Nat → Prop) (w : World) (v : Value) (ks : List E) : Prop :=
  ((∃ (a : Option Addr) (c : Nat), v = .slice a 0 c) ∧ ks = []) ∨ ∃ b o cap : Nat, v = .slice (.some ⟨b, o, .none⟩) ks.length cap ∧ ks.length ≤ 9223372036854775807 ∧ S b ∧ ∀ (i : Nat) (h : i < ks.length), IsT S w b (o + i * 4) ks[i]
theorem IsT.isE {S : Nat → Prop} {w : World} {b o : Nat} {e : E} (h : IsT S w b o e) : IsE w b o e := by
  induction h with
  | leaf h0 h1 h2 h3 => exact .leaf h0 h1 h2 h3
  | node h0 h1 h2 h3 hl _ _ ih => exact .node h0 h1 h2 h3 hl ih
theorem KidsT.kids {S : Nat → Prop} {w : World} {v : Value} {ks : List E} (h : KidsT S w v ks) : Kids w v ks := by
  rcases h with h | ⟨b, o, cap, h1, hl, _, h2⟩
  · exact .inl h
  · exact .inr ⟨b, o, cap, h1, hl, fun i hi => (h2 i hi).isE⟩
theorem IsT.mono {S S' : Nat → Prop} {w : World} {b o : Nat} {e : E} (h : IsT S w b o e) (hS : ∀ k, S k → S' k) : IsT S' w b o e := by
  induction h with
  | leaf h0 h1 h2 h3 => exact .leaf h0 h1 h2 h3
  | node h0 h1 h2 h3 hl hs _ ih => exact .node h0 h1 h2 h3 hl (hS _ hs) ih
theorem KidsT.mono {S S' : Nat → Prop} {w : World} {v : Value} {ks : List E} (h : KidsT S w v ks) (hS : ∀ k, S k → S' k) : KidsT S' w v ks := by
  rcases h with h | ⟨b, o, cap, h1, hl, hs, h2⟩
  · exact .inl h
  · exact .inr ⟨b, o, cap, h1, hl, hS _ hs, fun i hi => (h2 i hi).mono hS⟩
/-- Kept where the blocks in S are as they were. -/
theorem keptCell {S : Nat → Prop} {w w' : World} (hx : ∀ k, S k → k < w.heap.size → w'.heap[k]? = w.heap[k]?) {p : Addr} {v : Value} (hp : S p.block) (hc : w.cell? p = some v) : w'.cell? p = some v := by
  rw [World.cell?_of_block (hx p.block hp (block_lt hc))]; exact hc
theorem IsT.keep {S : Nat → Prop} {w w' : World} {b o : Nat} {e : E} (h : IsT S w b o e) (hb : S b) (hx : ∀ k, S k → k < w.heap.size → w'.heap[k]? = w.heap[k]?) : IsT S w' b o e := by
  induction h with
  | leaf h0 h1 h2 h3 => exact .leaf (keptCell hx hb h0) (keptCell hx hb h1) (keptCell hx hb h2) (keptCell hx hb h3)
  | node h0 h1 h2 h3 hl hs _ ih => exact .node (keptCell hx hb h0) (keptCell hx hb h1) (keptCell hx hb h2) (keptCell hx hb h3) hl hs (fun i hi => ih i hi hs)
theorem KidsT.keep {S : Nat → Prop} {w w' : World} {v : Value} {ks : List E} (h : KidsT S w v ks) (hx : ∀ k, S k → k < w.heap.size → w'.heap[k]? = w.heap[k]?) : KidsT S w' v ks := by
  rcases h with h | ⟨b, o, cap, h1, hl, hs, h2⟩
  · exact .inl h
  · exact .inr ⟨b, o, cap, h1, hl, hs, fun i hi => (h2 i hi).keep hs hx⟩
/-- The blocks are there. -/
theorem IsB.t {N : Nat} {w : World} {b o : Nat} {e : E} (h : IsB N w b o e) : IsT (fun k => N ≤ k ∧ k < w.heap.size) w b o e := by
  induction h with
  | leaf h0 h1 h2 h3 => exact .leaf h0 h1 h2 h3
  | @node b o op wd n ks b' o' cap h0 h1 h2 h3 hl hb hk ih =>
    rcases Nat.eq_zero_or_pos ks.length with h | h
    · have := List.length_eq_zero_iff.1 h; subst this; exact .leaf h0 h1 h2 h3
    · exact .node h0 h1 h2 h3 hl ⟨hb, block_lt (hk 0 h).isE.cells.1⟩ ih
theorem KidsB.t {N : Nat} {w : World} {v : Value} {ks : List E} (h : KidsB N w v ks) : KidsT (fun k => N ≤ k ∧ k < w.heap.size) w v ks := by
  rcases h with h | ⟨b, o, cap, h1, hl, hb, h2⟩
  · exact .inl ⟨⟨_, _, h.1⟩, h.2⟩
  · rcases Nat.eq_zero_or_pos ks.length with h | h
    · have := List.length_eq_zero_iff.1 h; subst this; exact .inl ⟨⟨_, _, h1⟩, rfl⟩
    · exact .inr ⟨b, o, cap, h1, hl, ⟨hb, block_lt (h2 0 h).isE.cells.1⟩, fun i hi => (h2 i hi).t⟩

theorem IsT.there {S : Nat → Prop} {w : World} {b o : Nat} {e : E} (h : IsT S w b o e) : IsT (fun k => S k ∧ k < w.heap.size) w b o e := by
  induction h with
  | leaf h0 h1 h2 h3 => exact .leaf h0 h1 h2 h3
  | @node b o op wd n ks b' o' cap h0 h1 h2 h3 hl hb hk ih =>
    rcases Nat.eq_zero_or_pos ks.length with h | h
    · have := List.length_eq_zero_iff.1 h; subst this; exact .leaf h0 h1 h2 h3
    · exact .node h0 h1 h2 h3 hl ⟨hb, block_lt (hk 0 h).isE.cells.1⟩ ih
theorem KidsT.there {S : Nat → Prop} {w : World} {v : Value} {ks : List E} (h : KidsT S w v ks) : KidsT (fun k => S k ∧ k < w.heap.size) w v ks := by
  rcases h with h | ⟨b, o, cap, h1, hl, hb, h2⟩
  · exact .inl h
  · rcases Nat.eq_zero_or_pos ks.length with h | h
    · have := List.length_eq_zero_iff.1 h; subst this; exact .inl ⟨⟨_, _, h1⟩, rfl⟩
    · exact .inr ⟨b, o, cap, h1, hl, ⟨hb, block_lt (h2 0 h).isE.cells.1⟩, fun i hi => (h2 i hi).there⟩

def cells5 (p : Int × E × Value) : List Value := [.int .i64 p.1, .int .i64 p.2.1.op, .int .i64 p.2.1.wd, .int .i64 p.2.1.n, p.2.2]
def flat5 (ps : List (Int × E × Value)) : List Value := ps.flatMap cells5
theorem flat5_len (ps : List (Int × E × Value)) : (flat5 ps).length = ps.length * 5 := by
  induction ps with
  | nil => rfl
  | cons p r ih => simp only [flat5, List.flatMap_cons, List.length_append, List.length_cons, cells5, List.length_nil] at *; omega
theorem flat5_get (ps : List (Int × E × Value)) (i j : Nat) (hi : i < ps.length) (hj : j < 5) : (flat5 ps)[i * 5 + j]? = (cells5 ps[i])[j]? := by
  induction ps generalizing i with
  | nil => simp at hi
  | cons p r ih =>
    simp only [flat5, List.flatMap_cons]
    cases i with
    | zero => rw [List.getElem?_append_left (by simp [cells5]; omega)]; simp
    | succ i =>
      rw [List.getElem?_append_right (by simp [cells5]; omega)]
      have := ih i (by simpa using hi)
      simp only [flat5] at this
      simp only [cells5, List.length_cons, List.length_nil, List.getElem_cons_succ] at *
      rw [show (i + 1) * 5 + j - (0 + 1 + 1 + 1 + 1 + 1) = i * 5 + j by omega]
      exact this
def OwnA (w : World) (base : Nat) (v : Value) (ps : List (Int × E × Value)) : Prop :=
  w.ownsRow base 33 5 v ps.length (flat5 ps) ∧ ∀ p ∈ ps, KidsT (fun b => some b ≠ v.ownBlock) w p.2.2 p.2.1.kids
theorem OwnA.nil (w : World) (base : Nat) : OwnA w base (.slice none 0 0) [] := ⟨⟨rfl, .inl ⟨rfl, rfl⟩⟩, fun _ h => by cases h⟩
theorem ownA_block {w : World} {base e n : Nat} {v : Value} {sz : Nat} {xs : List Value} (h : w.ownsRow base e sz v n xs) (k : Nat) (hk : v.ownBlock = some k) : base ≤ k ∧ k < w.heap.size := by
  rcases h.2 with ⟨rfl, _⟩ | ⟨g, cap, cur, rfl, hg, hh, _⟩
  · cases hk
  · simp [Value.ownBlock] at hk
    subst hk
    exact ⟨hg, heap_lt' hh⟩
theorem ownRow_keep {w w' : World} {base e n : Nat} {v : Value} {sz : Nat} {xs : List Value} (h : w.ownsRow base e sz v n xs) (hx : Ext w w') : w'.ownsRow base e sz v n xs := by
  refine ⟨h.1, ?_⟩
  rcases h.2 with h2 | ⟨g, cap, cur, hv, hg, hh, r⟩
  · exact .inl h2
  · exact .inr ⟨g, cap, cur, hv, hg, by rw [hx.block g (heap_lt' hh)]; exact hh, r⟩
theorem OwnA.ext {w w' : World} {base : Nat} {v : Value} {ps : List (Int × E × Value)} (h : OwnA w base v ps) (hx : Ext w w') : OwnA w' base v ps :=
  ⟨ownRow_keep h.1 hx, fun p hp => (h.2 p hp).keep fun k _ hk => hx.block k hk⟩
theorem OwnA.shape {w : World} {base : Nat} {v : Value} {ps : List (Int × E × Value)} (h : OwnA w base v ps) : ∃ a c, v = .slice a ps.length c := by
  rcases h.1.2 with ⟨rfl, hl⟩ | ⟨g, cap, cur, rfl, _⟩
  · exact ⟨none, 0, by rw [hl]⟩
  · exact ⟨_, _, rfl⟩
/-- A row of assignments, its kids known, is a slice of assignments. -/
theorem assigns_row {w : World} {base : Nat} {v : Value} {ps : List (Int × E × Value)} (h : w.ownsRow base 33 5 v ps.length (flat5 ps)) (hk : ∀ p ∈ ps, Kids w p.2.2 p.2.1.kids) : Assigns w v (ps.map fun p => (p.1, p.2.1)) := by
  rcases h.2 with ⟨rfl, hl⟩ | ⟨g, cap, cur, rfl, hg, hh, hn, hc, hs, ht⟩
  · have := List.length_eq_zero_iff.1 hl; subst this; exact .inl ⟨⟨_, _, rfl⟩, rfl⟩
  · refine .inr ⟨g, 0, cap, by rw [List.length_map], by rw [List.length_map]; unfold maxLen at hc; omega, fun i hi => ?_⟩
    rw [List.length_map] at hi
    have cell : ∀ j, j < 5 → w.cell? ⟨g, i * 5 + j, none⟩ = (cells5 ps[i])[j]? := by
      intro j hj
      have e1 := congrArg (fun x => x[i * 5 + j]?) ht
      rw [List.getElem?_take_of_lt (by omega), flat5_get ps i j hi hj] at e1
      rw [← e1]
      simp [World.cell?, hh]
    have k := hk ps[i] (List.getElem_mem hi)
    rw [List.getElem_map, Nat.zero_add]
    have c0 := cell 0 (by omega); have c1 := cell 1 (by omega); have c2 := cell 2 (by omega); have c3 := cell 3 (by omega); have c4 := cell 4 (by omega)
    simp only [cells5, Nat.add_zero, List.getElem?_cons_zero, List.getElem?_cons_succ] at c0 c1 c2 c3 c4
    exact ⟨c0, IsE.of_cells c1 c2 c3 c4 k⟩
theorem infoAssign : (Tryd.prog.info? 33).map (fun i => (i.zero, i.size, i.bytes)) = some (some (.agg #[.int .i64 0, .int .i64 0, .int .i64 0, .int .i64 0, .slice none 0 0]), 5, 56) := by kernel_rfl
theorem KidsT.one {S : Nat → Prop} {w : World} {v : Value} {ks : List E} (h : KidsT S w v ks) : v.oneCell' = true := by
  rcases h with ⟨⟨_, _, rfl⟩, _⟩ | ⟨b, o, cap, rfl, _⟩ <;> rfl
theorem Kids.one {w : World} {v : Value} {ks : List E} (h : Kids w v ks) : v.oneCell' = true := by
  rcases h with ⟨⟨_, _, rfl⟩, _⟩ | ⟨b, o, cap, rfl, _⟩ <;> rfl
theorem cells5_one {p : Int × E × Value} (h : p.2.2.oneCell' = true) : ∀ u ∈ cells5 p, u.oneCell' = true := by
  intro u hu
  simp [cells5] at hu
  rcases hu with rfl | rfl | rfl | rfl | rfl
  · rfl
  · rfl
  · rfl
  · rfl
  · exact h

theorem step_append_assign {ops : Array Oper} {o : Oper} {a : Act} {K : Act → World → Prop} {Q : Exit → Act → World → Prop} {E' : Prop} (hgd : o.guard = none) (s x : Operand)
    (ho : o.op = .call { callee := .builtin .append, args := #[s, x], argTypes := #[25, 25] }) (base : Nat) (wr : World) (H : Nat) (hH : wr.heap.size = H) (v : Value) (ps : List (Int × E × Value)) (c : Int) (e : E) (kv : Value)
    (hs : a.eval s = v) (hx' : a.eval x = .slice (some ⟨H, 0, none⟩) 1 1) (hown : OwnA wr base v ps) (hk : KidsT (fun b => some b ≠ v.ownBlock ∧ b < wr.heap.size) wr kv e.kids) (hl : ps.length ≤ 1000000) (hb : base ≤ wr.heap.size)
    (h : ∀ g cap w', OwnA w' base (.slice (some ⟨g, 0, none⟩) (ps.length + 1) cap) (ps ++ [(c, e, kv)]) → wr.grownBy w' v.ownBlock → base ≤ g → K (a.put o.dst (.slice (some ⟨g, 0, none⟩) (ps.length + 1) cap)) w') :
    if Region.wanted o (yielded ops a.tmps) = true then Oper.wp Tryd.prog o a (wr.alloc (.cells #[.int .i64 c, .int .i64 e.op, .int .i64 e.wd, .int .i64 e.n, kv] 33)) K Q else E' := by
  obtain ⟨i0, hi, hz0, hz1, hz2⟩ := info_parts infoAssign
  have hx : a.eval x = .slice (some ⟨wr.heap.size, 0, none⟩) 1 1 := by rw [hH]; exact hx'
  have hx0 : Ext wr (wr.alloc (.cells #[.int .i64 c, .int .i64 e.op, .int .i64 e.wd, .int .i64 e.n, kv] 33)) := (Ext.refl wr).alloc _
  have hown0 := hown.ext hx0
  refine step_append_lies _ hgd s x 25 ho base 33 i0 _ 5 56 Tryd.underlying25 hi hz0 hz1 hz2 rfl (by decide) v ps.length (flat5 ps) hs hown0.1 ⟨wr.heap.size, 0, none⟩ 1 1 (cells5 (c, e, kv)) hx rfl ?_ (cells5_one hk.one) (by decide) ?_ ?_ ?_ (wr.heap.size + 1) (by simp) ?_
  · intro j u hj
    have hj5 : j < 5 := by have := (List.getElem?_eq_some_iff.1 hj).1; simpa [cells5] using this
    have : j = 0 ∨ j = 1 ∨ j = 2 ∨ j = 3 ∨ j = 4 := by omega
    rw [addr_add]
    rcases this with rfl | rfl | rfl | rfl | rfl <;> simp [cells5] at hj <;> subst hj <;> simp
  · unfold maxLen; omega
  · omega
  · simp; omega
  · intro g cap w' h1 h2 h3 h4
    have hgr : wr.grownBy w' v.ownBlock := ⟨h2.os, h2.tape, h2.output, by have := h2.size; simp at this; omega, fun k hk hne => by rw [h2.block k (by simp; omega) hne]; exact Below.heap_alloc wr _ k hk⟩
    have hbg : base ≤ g := by
      rcases h1.2 with ⟨e, _⟩ | ⟨g', _, _, e, hg', _⟩
      · cases e
      · cases e; exact hg'
    have keep : ∀ (u : Value) (ks : List E), KidsT (fun b => some b ≠ v.ownBlock ∧ b < wr.heap.size) wr u ks → KidsT (fun b => some b ≠ (Value.slice (some ⟨g, 0, none⟩) (ps.length + 1) cap).ownBlock) w' u ks := by
      intro u ks hu
      refine (hu.keep (w' := w') fun k hs hk => hgr.block k hk hs.1).mono fun k hs => ?_
      simp only [Value.ownBlock, ne_eq, Option.some.injEq]
      rintro rfl
      rcases h3 with h3 | h3
      · exact hs.1 h3.symm
      · omega
    refine h g cap w' ⟨?_, ?_⟩ hgr hbg
    · have : flat5 (ps ++ [(c, e, kv)]) = flat5 ps ++ cells5 (c, e, kv) := by simp [flat5]
      rw [this, List.length_append]; exact h1
    · intro p hp
      rcases List.mem_append.1 hp with hp | hp
      · exact keep _ _ (KidsT.there (hown.2 p hp))
      · simp at hp; subst hp; exact keep _ _ hk

/-- What lies behind a slice of assignments, with the values of the kids. -/
theorem assigns_rows {W : World} {b' o' : Nat} {l : List (Int × E)} (h : ∀ (i : Nat) (hi : i < l.length), AssignAt W b' (o' + i * 5) l[i]) :
    ∃ qs : List (Int × E × Value), qs.length = l.length ∧ (qs.map fun p => (p.1, p.2.1)) = l ∧ (∀ p ∈ qs, Kids W p.2.2 p.2.1.kids) ∧ ∀ j u, (flat5 qs)[j]? = some u → W.cell? ((⟨b', o', none⟩ : Addr).add j) = some u := by
  obtain ⟨f, hf⟩ := Deep.choose_lt (α := Value) (n := l.length) (p := fun i v => ∀ hi : i < l.length, W.cell? ⟨b', o' + i * 5 + 1 + 3, none⟩ = some v ∧ Kids W v l[i].2.kids) (fun i hi => by
    obtain ⟨_, _, _, v, h3, hk⟩ := (h i hi).2.cells
    exact ⟨v, fun _ => ⟨h3, hk⟩⟩)
  refine ⟨List.ofFn fun i : Fin l.length => (l[i].1, l[i].2, f i), by simp, ?_, ?_, ?_⟩
  · apply List.ext_getElem
    · simp
    · intro i h1 h2; simp
  · intro p hp
    obtain ⟨i, rfl⟩ := List.mem_ofFn.1 hp
    exact (hf i i.2 i.2).2
  · intro j u hu
    have hj := (List.getElem?_eq_some_iff.1 hu).1
    rw [flat5_len, List.length_ofFn] at hj
    have hi : j / 5 < l.length := by omega
    have e := flat5_get (List.ofFn fun i : Fin l.length => (l[i].1, l[i].2, f i)) (j / 5) (j % 5) (by simpa using hi) (by omega)
    rw [show j / 5 * 5 + j % 5 = j by omega, hu] at e
    rw [addr_add]
    obtain ⟨c0, hE⟩ := h (j / 5) hi
    obtain ⟨c1, c2, c3, _⟩ := hE.cells
    have c4 := (hf (j / 5) hi hi).1
    have hr : j % 5 = 0 ∨ j % 5 = 1 ∨ j % 5 = 2 ∨ j % 5 = 3 ∨ j % 5 = 4 := by omega
    rcases hr with hr | hr | hr | hr | hr <;> rw [hr] at e <;> simp [cells5] at e <;> subst e
    · rw [show o' + j = o' + j / 5 * 5 by omega]; exact c0
    · rw [show o' + j = o' + j / 5 * 5 + 1 by omega]; exact c1
    · rw [show o' + j = o' + j / 5 * 5 + 1 + 1 by omega]; exact c2
    · rw [show o' + j = o' + j / 5 * 5 + 1 + 2 by omega]; exact c3
    · rw [show o' + j = o' + j / 5 * 5 + 1 + 3 by omega]; exact c4
theorem append_nil_run {P : Program} {w : World} (base : Nat) (t ty e : TypeId) (i : TypeInfo) (size : Nat) (ht : P.underlying t = some (.slice e)) (hi : P.info? e = some i) (v : Value) (n : Nat) (xs : List Value) (h : w.ownsRow base e size v n xs) (c : Nat) :
    (Builtin.append_ #[t, t] ty #[v, .slice none 0 c]).run P w = .ok v w := by
  rcases h.2 with ⟨rfl, rfl⟩ | ⟨g, cap, cur, rfl, _, _, hle, _⟩
  all_goals simp [Builtin.append_, run_underlying ht, sizeOf, typeInfo, Builtin.lenOf, Builtin.firstCells, storeCells, *]

theorem wpList_append_all {ops : Array Oper} {rest : List Oper} {o : Oper} {a : Act} {Q : Exit → Act → World → Prop} {w W0 : World} (hgd : o.guard = none) (s x : Operand)
    (ho : o.op = .call { callee := .builtin .append, args := #[s, x], argTypes := #[25, 25] }) (v bv : Value) (ps : List (Int × E × Value)) (b : List (Int × E)) (hs : a.eval s = v) (hx : a.eval x = bv)
    (hown : OwnA w W0.heap.size v ps) (hB : Assigns W0 bv b) (hX : Ext W0 w) (hl : ps.length ≤ 1000) (hl2 : b.length ≤ 1000)
    (h : ∀ v' w', Assigns w' v' ((ps.map fun p => (p.1, p.2.1)) ++ b) → Ext W0 w' → wpList Tryd.prog ops Q rest (a.put o.dst v') w') : wpList Tryd.prog ops Q (o :: rest) a w := by
  obtain ⟨i0, hi, hz0, hz1, hz2⟩ := info_parts infoAssign
  have main : ∀ (ad : Addr) (c : Nat) (qs : List (Int × E × Value)), bv = .slice (some ad) qs.length c → (qs.map fun p => (p.1, p.2.1)) = b → (∀ p ∈ qs, Kids W0 p.2.2 p.2.1.kids) → (∀ j u, (flat5 qs)[j]? = some u → W0.cell? (ad.add j) = some u) → wpList Tryd.prog ops Q (o :: rest) a w := by
    intro ad c qs hbv hqb hqk hqc
    have hql : qs.length = b.length := by rw [← hqb]; simp
    refine wpList_append_own_at _ hgd s x 25 ho W0.heap.size 33 i0 _ 5 56 Tryd.underlying25 hi hz0 hz1 hz2 rfl (by decide) v ps.length (flat5 ps) hs hown.1 ad qs.length c (flat5 qs) (hx.trans hbv) (flat5_len qs) (fun j u hu => hX.cell (hqc j u hu)) ?_ ?_ ?_ hX.size ?_
    · intro u hu
      obtain ⟨p, hp, hu⟩ := List.mem_flatMap.1 hu
      exact cells5_one (hqk p hp).one u hu
    · unfold maxLen; omega
    · omega
    · intro v' w' h1 h2 _ _
      have hX' : Ext W0 w' := hX.grown h2 fun k hk => (ownA_block hown.1 k hk).1
      have e : (ps.map fun p => (p.1, p.2.1)) ++ b = (ps ++ qs).map fun p => (p.1, p.2.1) := by rw [List.map_append, hqb]
      refine h v' w' ?_ hX'
      rw [e]
      refine assigns_row (base := W0.heap.size) (by rw [List.length_append]; simpa [flat5] using h1) fun p hp => ?_
      rcases List.mem_append.1 hp with hp | hp
      · exact ((hown.2 p hp).keep fun k hs hk => h2.block k hk hs).kids
      · exact (hqk p hp).ext hX'
  rcases hB with ⟨⟨ad, c, rfl⟩, rfl⟩ | ⟨b', o', cap, rfl, _, hat⟩
  · cases ad with
    | none =>
      refine wpList_plain hgd fun K hK => ?_
      have hrun := append_nil_run (P := Tryd.prog) (w := w) W0.heap.size 25 o.type 33 i0 5 Tryd.underlying25 hi v ps.length (flat5 ps) hown.1 c
      unfold Oper.wp execOp
      simp only [ho, resolve, invoke, builtin, Sem.run_bind, Sem.run_pure, Result.andThen_ok, List.map_toArray, List.map_cons, List.map_nil, hs, hx, hrun]
      exact hK _ _ (h v w (by rw [List.append_nil]; exact assigns_row hown.1 fun p hp => (hown.2 p hp).kids) hX)
    | some ad => exact main ad c [] rfl rfl (fun _ h => by cases h) (fun j u hu => by simp [flat5] at hu)
  · obtain ⟨qs, hql, hqb, hqk, hqc⟩ := assigns_rows hat
    exact main _ cap qs (by rw [hql]) hqb hqk hqc
end Go.Proofs.YtdancokndklpnaaDoor
namespace Go.Proofs.YtdancokndklpnaaDoor
open Go.RowKit

/-- What holds while the composed assignments are made. -/
def CompRel (a b : List (Int × E)) (W0 : World) (v i : Value) (wr : World) : Prop :=
  ∃ (k : Nat) (ps : List (Int × E × Value)), k ≤ a.length ∧ i = .int .i64 k ∧ Ext W0 wr ∧ OwnA wr W0.heap.size v ps ∧ ps.length = k ∧ (ps.map fun p => (p.1, p.2.1)) = ((a.take k).map fun x => (x.1, x.2.subst b)) ∧ ∀ (j : Nat) (h : j < a.length), j < k → fitsB b a[j].2 = true
theorem CompRel.shape {a b : List (Int × E)} {W0 : World} {v i : Value} {wr : World} (h : CompRel a b W0 v i wr) : ∃ ad l c, v = .slice ad l c := by
  obtain ⟨k, ps, _, _, _, ho, _⟩ := h
  obtain ⟨x, c, hv⟩ := ho.shape
  exact ⟨x, _, c, hv⟩
theorem both_end {a b : List (Int × E)} {ps : List (Int × E × Value)} {k : Nat} (hk : ¬ k < a.length) (hp : (ps.map fun p => (p.1, p.2.1)) = ((a.take k).map fun x => (x.1, x.2.subst b))) : (ps.map fun p => (p.1, p.2.1)) ++ b = bothOf a b := by
  rw [hp, List.take_of_length_le (by omega)]; rfl

theorem own_apart {w W w' : World} {base : Nat} {v kv : Value} {ps : List (Int × E × Value)} {ks : List E} (ho : OwnA w base v ps) (hx : Ext w W) (hk : KidsB W.heap.size w' kv ks) : KidsT (fun b => some b ≠ v.ownBlock ∧ b < w'.heap.size) w' kv ks :=
  hk.t.mono fun q hq => ⟨fun e => by
    have := (ownA_block ho.1 q e.symm).2
    have := hx.size
    omega, hq.2⟩

set_option maxRecDepth 100000 in
set_option maxHeartbeats 16000000 in
theorem ExprComposition_any (e : E) (a b : List (Int × E)) (ve va vb : Value) (w : World) (he : EVal w ve e) (hA : Assigns w va a) (hB : Assigns w vb b) (hM : Masks w) (hNm : Names w) (hP : Pow10 w) :
    Calls Tryd.prog 4 #[ve, va, vb] w fun r w' => r = .returned (.bool true) ∧ Ext w w' := by
  obtain ⟨ea, el, ec, rfl, _⟩ := he.shape
  obtain ⟨sa, scap, rfl⟩ := hA.shape
  obtain ⟨sb, scbp, rfl⟩ := hB.shape
  obtain ⟨W, hW⟩ : ∃ W, W = w.alloc (.cells #[.int .i64 e.op, .int .i64 e.wd, .int .i64 e.n, .slice ea el ec] 24) := ⟨_, rfl⟩
  have hx : Ext w W := by rw [hW]; exact (Ext.refl w).alloc _
  have HV1 : Hid (VarE W w.heap.size e.op e.wd e.n (.slice ea el ec)) := by rw [hW]; exact VarE.new _ _ _ _ _
  have HW := Lib.hid hW; have HX := Lib.hid hx; have HA := Lib.hid (he.ext hx); have HS := Lib.hid (hA.ext hx); have HT := Lib.hid (hB.ext hx); have HM := Lib.hid (hM.ext hx); have HNm := Lib.hid (hNm.ext hx); have HP := Lib.hid (hP.ext hx)
  clear hW hx he hA hB hM hNm hP
  go_enter Tryd.func4, Tryd.ntmps4
  go_wp2_with fail
  rw [← HW.out]
  clear HW
  generalize w.heap.size = b1 at *
  refine (head_any W HM.out HNm.out HP.out).mono ?_
  rintro r wk1 ⟨rfl, x1⟩
  replace HX := Lib.hid (HX.out.trans x1); replace HV1 := Lib.hid (HV1.out.ext x1); replace HA := Lib.hid (HA.out.ext x1); replace HS := Lib.hid (HS.out.ext x1); replace HT := Lib.hid (HT.out.ext x1); replace HM := Lib.hid (HM.out.ext x1)
  clear x1
  clear HNm HP
  obtain ⟨cHV10, cHV11, cHV12, cHV13⟩ := HV1.out.cells
  go_wp2_with fail
  refine (sound_any e _ _ 10 HA.out (by omega) (by omega)).mono ?_
  rintro r wk2 ⟨rfl, x1⟩
  replace HX := Lib.hid (HX.out.trans x1); replace HV1 := Lib.hid (HV1.out.ext x1); replace HA := Lib.hid (HA.out.ext x1); replace HS := Lib.hid (HS.out.ext x1); replace HT := Lib.hid (HT.out.ext x1); replace HM := Lib.hid (HM.out.ext x1)
  clear x1 cHV10 cHV11 cHV12 cHV13
  cases h1 : (decide ((e.size : Int) ≤ 10) && e.wf) with
  | false =>
    clear h1
    go_wp2_with fail
    exact bodyPost_ret (v := .bool true) (by simp [results, Tryd.results4, go_sem]) rfl ⟨rfl, HX.out⟩
  | true =>
  simp only [Bool.and_eq_true, decide_eq_true_eq] at h1
  have HSd := Lib.hid h1; clear h1
  go_wp2_with fail
  refine (few_any a _ _ 4 6 HS.out (by omega) (by omega) (by omega) (by omega)).mono ?_
  rintro r wk3 ⟨rfl, x1⟩
  replace HX := Lib.hid (HX.out.trans x1); replace HV1 := Lib.hid (HV1.out.ext x1); replace HA := Lib.hid (HA.out.ext x1); replace HS := Lib.hid (HS.out.ext x1); replace HT := Lib.hid (HT.out.ext x1); replace HM := Lib.hid (HM.out.ext x1)
  clear x1
  cases h1 : fewB a 4 6 with
  | false =>
    clear h1
    go_wp2_with fail
    exact bodyPost_ret (v := .bool true) (by simp [results, Tryd.results4, go_sem]) rfl ⟨rfl, HX.out⟩
  | true =>
  have HFa := Lib.hid h1; clear h1
  go_wp2_with fail
  refine (few_any b _ _ 4 6 HT.out (by omega) (by omega) (by omega) (by omega)).mono ?_
  rintro r wk4 ⟨rfl, x1⟩
  replace HX := Lib.hid (HX.out.trans x1); replace HV1 := Lib.hid (HV1.out.ext x1); replace HA := Lib.hid (HA.out.ext x1); replace HS := Lib.hid (HS.out.ext x1); replace HT := Lib.hid (HT.out.ext x1); replace HM := Lib.hid (HM.out.ext x1)
  clear x1
  cases h1 : fewB b 4 6 with
  | false =>
    clear h1
    go_wp2_with fail
    exact bodyPost_ret (v := .bool true) (by simp [results, Tryd.results4, go_sem]) rfl ⟨rfl, HX.out⟩
  | true =>
  have HFb := Lib.hid h1; clear h1
  obtain ⟨cHV10, cHV11, cHV12, cHV13⟩ := HV1.out.cells
  go_wp2_with fail
  refine (fits_any a _ e.size e _ _ (Nat.le_refl _) HA.out HS.out).mono ?_
  rintro r wk5 ⟨rfl, x1⟩
  replace HX := Lib.hid (HX.out.trans x1); replace HV1 := Lib.hid (HV1.out.ext x1); replace HA := Lib.hid (HA.out.ext x1); replace HS := Lib.hid (HS.out.ext x1); replace HT := Lib.hid (HT.out.ext x1); replace HM := Lib.hid (HM.out.ext x1)
  clear x1 cHV10 cHV11 cHV12 cHV13
  cases h1 : fitsB a e with
  | false =>
    clear h1
    go_wp2_with fail
    exact bodyPost_ret (v := .bool true) (by simp [results, Tryd.results4, go_sem]) rfl ⟨rfl, HX.out⟩
  | true =>
  have HEa := Lib.hid h1; clear h1
  obtain ⟨cHV10, cHV11, cHV12, cHV13⟩ := HV1.out.cells
  go_wp2_with fail
  refine (fits_any b _ e.size e _ _ (Nat.le_refl _) HA.out HT.out).mono ?_
  rintro r wk6 ⟨rfl, x1⟩
  replace HX := Lib.hid (HX.out.trans x1); replace HV1 := Lib.hid (HV1.out.ext x1); replace HA := Lib.hid (HA.out.ext x1); replace HS := Lib.hid (HS.out.ext x1); replace HT := Lib.hid (HT.out.ext x1); replace HM := Lib.hid (HM.out.ext x1)
  clear x1 cHV10 cHV11 cHV12 cHV13
  cases h1 : fitsB b e with
  | false =>
    clear h1
    go_wp2_with fail
    exact bodyPost_ret (v := .bool true) (by simp [results, Tryd.results4, go_sem]) rfl ⟨rfl, HX.out⟩
  | true =>
  have HEb := Lib.hid h1; clear h1
  have hal : a.length ≤ 4 := (few_size (m := 4) (l := 6) HFa.out).1
  have hbl : b.length ≤ 4 := (few_size (m := 4) (l := 6) HFb.out).1
  go_wp2_with fail
  go_loopw [8, 9] (fun v i wr => CompRel a b wk6 v i wr) (fun _ i _ => a.length - (intOf i).toNat)
  case atStart => exact ⟨0, [], Nat.zero_le _, rfl, Ext.refl _, OwnA.nil _ _, rfl, rfl, fun j _ h => absurd h (Nat.not_lt_zero _)⟩
  case round =>
    obtain ⟨ad, al, acap, rfl⟩ := hrel.shape
    obtain ⟨k, ps, hk, rfl, hX, hO, hpl, hps, hR⟩ := hrel
    have HXr := Lib.hid hX; have HOWN := Lib.hid hO; have HPL := Lib.hid hpl; have HPS := Lib.hid hps; have HR := Lib.hid hR
    have hpl4 : ps.length ≤ 4 := by omega
    clear hX hO hpl hps hR
    by_cases hlt : k < a.length
    · rcases HS.out with ⟨_, e⟩ | ⟨b', o', cap', e, _, hk'⟩
      · rw [e] at hlt; simp at hlt
      cases e
      have hE := (hk' k hlt).2.ext HXr.out
      obtain ⟨g0, g1, g2, kv, g3, hkk⟩ := hE.cells
      obtain ⟨ka, kc, rfl⟩ := SliceAt.shape hkk
      have gc := HXr.out.cell (hk' k hlt).1
      have HTo : Hid (EVal wr (.agg #[.int .i64 a[k].2.op, .int .i64 a[k].2.wd, .int .i64 a[k].2.n, .slice ka a[k].2.kids.length kc]) a[k].2) := ⟨_, rfl, hkk⟩
      have HVB : Hid (∀ w', Ext wk6 w' → w'.cell? ⟨b', o' + k * 5, none⟩ = some (.int .i64 a[k].1) ∧ w'.cell? ⟨b', o' + k * 5 + 1, none⟩ = some (.int .i64 a[k].2.op) ∧ w'.cell? ⟨b', o' + k * 5 + 1 + 1, none⟩ = some (.int .i64 a[k].2.wd) ∧ w'.cell? ⟨b', o' + k * 5 + 1 + 2, none⟩ = some (.int .i64 a[k].2.n) ∧ w'.cell? ⟨b', o' + k * 5 + 1 + 3, none⟩ = some (.slice ka a[k].2.kids.length kc)) := by
        obtain ⟨e0, e1, e2, kw, e3, _⟩ := (hk' k hlt).2.cells
        have : kw = .slice ka a[k].2.kids.length kc := by have h3 := HXr.out.cell e3; rw [g3] at h3; exact (Option.some.inj h3).symm
        subst this
        exact fun w' hx => ⟨hx.cell (hk' k hlt).1, hx.cell e0, hx.cell e1, hx.cell e2, hx.cell e3⟩
      clear hkk hk' hE
      go_wp2_with fail
      refine (fits_any b _ a[k].2.size a[k].2 _ _ (Nat.le_refl _) HTo.out (HT.out.ext HXr.out)).mono ?_
      rintro r wf ⟨rfl, x1⟩
      have HXf := Lib.hid x1
      clear x1 g0 g1 g2 g3 gc
      cases hq : fitsB b a[k].2 with
      | false =>
        clear hq
        go_wp2_with fail
        exact bodyPost_ret (v := .bool true) (by simp [results, Tryd.results4, go_sem]) rfl ⟨rfl, HX.out.trans (HXr.out.trans HXf.out)⟩
      | true =>
      have HQ := Lib.hid hq; clear hq
      obtain ⟨gc, g0, g1, g2, g3⟩ := HVB.out _ (HXr.out.trans HXf.out)
      go_upto_region 10 with fail
      have HR0 := Lib.hid ((Ext.refl wf).drew)
      obtain ⟨t, ht⟩ : ∃ t, t = a[k].2.subst b := ⟨_, rfl⟩
      have ET := Lib.hid ht
      clear ht
      go_region_held3 (fun w' => w'.cell? ⟨b', o' + k * 5, none⟩ = some (.int .i64 a[k].1) ∧ w'.cell? ⟨b', o' + k * 5 + 1, none⟩ = some (.int .i64 a[k].2.op) ∧ w'.cell? ⟨b', o' + k * 5 + 1 + 1, none⟩ = some (.int .i64 a[k].2.wd) ∧ w'.cell? ⟨b', o' + k * 5 + 1 + 2, none⟩ = some (.int .i64 a[k].2.n) ∧ w'.cell? ⟨b', o' + k * 5 + 1 + 3, none⟩ = some (.slice ka a[k].2.kids.length kc))
        (first | (with_reducible exact hk3) | (with_reducible exact hk2) | (with_reducible exact hk1) | exact ⟨gc, g0, g1, g2, g3⟩ | fail)
        ((first
          | (have hgo := HR1.out; clear hgo; refine step_append_assign rfl (.tmp 53) (.tmp 67) rfl wk6.heap.size wh1 wh1.heap.size rfl _ ps a[k].1 t _ rfl rfl (HOWN.out.ext (HXf.out.trans HR1.out)) HKT.out (by omega) (HXr.out.trans (HXf.out.trans HR1.out)).size ?_; intro g cap w' ho hgr hg; have HO3 := Lib.hid ho; have HX3 := Lib.hid ((HXr.out.trans (HXf.out.trans HR1.out)).grown hgr fun q hq => (ownA_block HOWN.out.1 q hq).1); have hk3 := HVB.out _ HX3.out; clear ho hgr hg)
          | (go_at_call 16; refine (Subst_any a[k].2 _ _ b _ (HTo.out.ext (HXf.out.trans HR0.out)) (HT.out.ext (HXr.out.trans (HXf.out.trans HR0.out))) (HM.out.ext (HXr.out.trans (HXf.out.trans HR0.out)))).mono ?_; rintro r wh1 ⟨⟨v, rfl, e9⟩, x1⟩; rw [← ET.out] at e9; obtain ⟨ya, yl, yc, rfl, hkb⟩ := e9.shape; have HKT := Lib.hid (own_apart HOWN.out (HXf.out.trans HR0.out) hkb); have HR1 := Lib.hid (HR0.out.trans x1); have hk1 := HVB.out _ (HXr.out.trans (HXf.out.trans HR1.out)); have hk2 := HVB.out _ ((HXr.out.trans (HXf.out.trans HR1.out)).alloc (.cells #[.int .i64 a[k].1, .int .i64 t.op, .int .i64 t.wd, .int .i64 t.n, .slice ya yl yc] 33)); clear x1 e9 hkb)))
      go_wp2_with fail
      have HPS' : Hid (((ps ++ [(a[k].1, t, Value.slice ya yl yc)]).map fun p => (p.1, p.2.1)) = ((a.take (k + 1)).map fun x => (x.1, x.2.subst b))) := by
        unfold Hid
        rw [List.take_succ_eq_append_getElem hlt, List.map_append, List.map_append, HPS.out, ET.out]; rfl
      refine ⟨⟨k + 1, _, by omega, by go_num, HX3.out, HO3.out, by simp [HPL.out], HPS'.out, fun j h hj => ?_⟩, by simp [intOf]; omega⟩
      by_cases c : j = k
      · subst c; exact HQ.out
      · exact HR.out j h (by omega)
    · clear hk
      have HLA : Hid (∀ x ∈ a, fitsB b x.2 = true) := fun x hx => by
        obtain ⟨i, hi, rfl⟩ := List.mem_iff_getElem.1 hx
        exact HR.out i hi (by omega)
      have HL := Lib.hid (compose_law HSd.out HFa.out HFb.out HEa.out HEb.out HLA.out)
      have HBE := Lib.hid (both_end hlt HPS.out)
      go_upto_region 11 with fail
      go_wp2_with (at_builtin; refine wpList_append_all (W0 := wk6) rfl (.tmp 69) (.tmp 70) rfl _ _ ps b rfl rfl HOWN.out HT.out HXr.out (by omega) (by omega) ?_)
      intro v' w7 has x1
      rw [HBE.out] at has
      obtain ⟨xa, xc, rfl⟩ := SliceAt.shape has
      have HBO := Lib.hid has
      clear has
      replace HX := Lib.hid (HX.out.trans x1); replace HV1 := Lib.hid (HV1.out.ext x1); replace HA := Lib.hid (HA.out.ext x1); replace HS := Lib.hid (HS.out.ext x1); replace HT := Lib.hid (HT.out.ext x1); replace HM := Lib.hid (HM.out.ext x1)
      clear x1
      obtain ⟨x, hx⟩ : ∃ x, x = (e.subst a).subst b := ⟨_, rfl⟩
      obtain ⟨u, hu⟩ : ∃ u, u = e.subst a := ⟨_, rfl⟩
      rw [← hx] at HL
      rw [← hu] at hx
      have EX := Lib.hid hx; have EU := Lib.hid hu
      clear hx hu
      have hop : (x.op != 0) = true := by simpa using HL.out.1
      have HQE : Hid (x.eqB x = true) := (eqB_iff x x).2 rfl
      obtain ⟨cHV10, cHV11, cHV12, cHV13⟩ := HV1.out.cells
      go_wp2_with fail
      refine (Subst_ret e _ _ a _ HA.out HS.out HM.out).mono ?_
      rintro r wk7 ⟨⟨v, rfl, e⟩, x1⟩
      rw [← EU.out] at e
      obtain ⟨va7, vl7, vc7, rfl, _⟩ := e.shape
      have HU := Lib.hid e
      replace HX := Lib.hid (HX.out.trans x1); replace HV1 := Lib.hid (HV1.out.ext x1); replace HA := Lib.hid (HA.out.ext x1); replace HS := Lib.hid (HS.out.ext x1); replace HT := Lib.hid (HT.out.ext x1); replace HM := Lib.hid (HM.out.ext x1); replace HBO := Lib.hid (HBO.out.ext x1)
      clear x1 e cHV10 cHV11 cHV12 cHV13
      go_wp2_with fail
      refine (Subst_ret u _ _ b _ HU.out HT.out HM.out).mono ?_
      rintro r wk8 ⟨⟨v, rfl, e⟩, x1⟩
      rw [← EX.out] at e
      obtain ⟨va8, vl8, vc8, rfl, _⟩ := e.shape
      have HQQ := Lib.hid e
      replace HX := Lib.hid (HX.out.trans x1); replace HV1 := Lib.hid (HV1.out.ext x1); replace HA := Lib.hid (HA.out.ext x1); replace HS := Lib.hid (HS.out.ext x1); replace HT := Lib.hid (HT.out.ext x1); replace HM := Lib.hid (HM.out.ext x1); replace HBO := Lib.hid (HBO.out.ext x1); replace HU := Lib.hid (HU.out.ext x1)
      clear x1 e
      go_upto_region 13 with fail
      obtain ⟨Wk8, hWk⟩ : ∃ Wk, Wk = wk8.alloc (.cells #[.int .i64 x.op, .int .i64 x.wd, .int .i64 x.n, .slice va8 vl8 vc8] 24) := ⟨_, rfl⟩
      have x1 : Ext wk8 Wk8 := by rw [hWk]; exact (Ext.refl _).alloc _
      have HV2 : Hid (VarE Wk8 wk8.heap.size x.op x.wd x.n (.slice va8 vl8 vc8)) := by rw [hWk]; exact VarE.new _ _ _ _ _
      rw [← hWk]
      replace HX := Lib.hid (HX.out.trans x1); replace HV1 := Lib.hid (HV1.out.ext x1); replace HA := Lib.hid (HA.out.ext x1); replace HS := Lib.hid (HS.out.ext x1); replace HT := Lib.hid (HT.out.ext x1); replace HM := Lib.hid (HM.out.ext x1); replace HBO := Lib.hid (HBO.out.ext x1); replace HU := Lib.hid (HU.out.ext x1); replace HQQ := Lib.hid (HQQ.out.ext x1)
      clear x1 hWk
      generalize wk8.heap.size = b2 at *
      have HR0 := Lib.hid ((Ext.refl Wk8).drew)
      obtain ⟨z00, z01, z02, z03⟩ := HV1.out.cells
      obtain ⟨z10, z11, z12, z13⟩ := HV2.out.cells
      go_region_held3 (fun w' => (w'.cell? ⟨b1, 0, none⟩ = some (.int .i64 e.op) ∧ w'.cell? ⟨b1, 1, none⟩ = some (.int .i64 e.wd) ∧ w'.cell? ⟨b1, 2, none⟩ = some (.int .i64 e.n) ∧ w'.cell? ⟨b1, 3, none⟩ = some (.slice ea el ec)) ∧ (w'.cell? ⟨b2, 0, none⟩ = some (.int .i64 x.op) ∧ w'.cell? ⟨b2, 1, none⟩ = some (.int .i64 x.wd) ∧ w'.cell? ⟨b2, 2, none⟩ = some (.int .i64 x.n) ∧ w'.cell? ⟨b2, 3, none⟩ = some (.slice va8 vl8 vc8)))
        (first | (with_reducible exact hk2) | (with_reducible exact hk1) | exact ⟨⟨z00, z01, z02, z03⟩, ⟨z10, z11, z12, z13⟩⟩ | fail)
        ((first
          | (have hgo := HR1.out; clear hgo; go_at_call 17; refine (RSame_any x.size x x _ _ _ (Nat.le_refl _) (HQQ.out.ext HR1.out) HY.out).mono ?_; rintro r wh2 ⟨rfl, x1⟩; rw [HQE.out]; have HR2 := Lib.hid (HR1.out.trans x1); have hk2 := And.intro (HV1.out.ext HR2.out).cells ((HV2.out.ext HR2.out).cells); clear x1)
          | (have hgo := HR0.out; clear hgo; go_at_call 16; refine (Subst_ret e _ _ (bothOf a b) _ (HA.out.ext HR0.out) (HBO.out.ext HR0.out) (HM.out.ext HR0.out)).mono ?_; rintro r wh1 ⟨⟨v, rfl, e9⟩, x1⟩; rw [HL.out.2] at e9; obtain ⟨ya, yl, yc, rfl, _⟩ := e9.shape; have HY := Lib.hid e9; clear e9; have HR1 := Lib.hid (HR0.out.trans x1); have hk1 := And.intro (HV1.out.ext HR1.out).cells ((HV2.out.ext HR1.out).cells); clear x1)))
      replace HX := Lib.hid (HX.out.trans HR2.out)
      go_wp2_with fail
      exact bodyPost_ret (v := .bool true) (by simp [results, Tryd.results4, go_sem]) rfl ⟨rfl, HX.out⟩
end Go.Proofs.YtdancokndklpnaaDoor
