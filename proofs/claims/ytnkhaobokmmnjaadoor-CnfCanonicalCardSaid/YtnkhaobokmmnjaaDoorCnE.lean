/-
  The walk of cnf.Normal$1 and of slices.CompactFunc with it.
-/
import Derived.Test.YtnkhaobokmmnjaaDoorCnD
import Derived.Test.YtnkhaobokmmnjaaDoorCn7
import Derived.Lib.SliceRun
import Derived.Lib.SlicesCompact
namespace Go.Proofs.YtnkhaobokmmnjaaDoor
open Go.RowKit Go.Shelf

theorem rowIs_setCells {b : Nat} {t : TypeId} {n : Nat} {z : Value} : ∀ (m o : Nat) {w : World} {f : Nat → Value}, w.rowIs b t n f → (w.setCells b o (List.replicate m z)).rowIs b t n (fun j => if o ≤ j ∧ j < o + m then z else f j) := by
  intro m
  induction m with
  | zero => intro o w f h; exact h.congr fun i _ => by rw [if_neg (by omega)]
  | succ m ih =>
    intro o w f h
    refine (ih (o + 1) (h.set o z)).congr fun i _ => ?_
    by_cases e : i = o
    · subst e; rw [if_neg (by omega), if_pos rfl, if_pos (by omega)]
    · by_cases c : o + 1 ≤ i ∧ i < o + 1 + m
      · rw [if_pos c, if_pos (by omega)]
      · rw [if_neg c, if_neg e, if_neg (by omega)]
theorem setCells_other {b : Nat} {z : Value} : ∀ (m o : Nat) (w : World) (k : Nat), k ≠ b → (w.setCells b o (List.replicate m z)).heap[k]? = w.heap[k]? := by
  intro m
  induction m with
  | zero => intro o w k _; rfl
  | succ m ih =>
    intro o w k hk
    exact (ih (o + 1) (w.setCell ⟨b, o, none⟩ z) k hk).trans (heap_setCell_other _ _ _ _ hk)
theorem setCells_grown {b : Nat} {z : Value} (m o : Nat) (w : World) : w.grownBy (w.setCells b o (List.replicate m z)) (some b) := by
  have key : ∀ (m o : Nat) (w : World), (w.setCells b o (List.replicate m z)).os = w.os ∧ (w.setCells b o (List.replicate m z)).tape = w.tape ∧ (w.setCells b o (List.replicate m z)).output = w.output ∧ (w.setCells b o (List.replicate m z)).heap.size = w.heap.size := by
    intro m
    induction m with
    | zero => intro o w; exact ⟨rfl, rfl, rfl, rfl⟩
    | succ m ih =>
      intro o w
      obtain ⟨h1, h2, h3, h4⟩ := ih (o + 1) (w.setCell ⟨b, o, none⟩ z)
      exact ⟨h1, h2, h3, h4.trans (by simp [World.setCell])⟩
  obtain ⟨h1, h2, h3, h4⟩ := key m o w
  exact ⟨h1, h2, h3, by omega, fun k hk hne => setCells_other m o w k fun e => hne (by rw [e])⟩
set_option maxHeartbeats 1000000 in
theorem eqC_any (a b : List Int) (va vb : Value) (w : World) (ha : Ints w va a) (hb : Ints w vb b) (la : a.length ≤ 1000000) : Calls Tryd.prog 26 #[va, vb] w fun r w' => r = .returned (.bool (ordC a b == 0)) ∧ ∃ u, w' = w.drewN u := by
  have HC := Lib.hid (compare_any a b va vb w ha hb la)
  obtain ⟨aa, ac, rfl⟩ := ha.shape
  obtain ⟨ba, bc, rfl⟩ := hb.shape
  clear ha hb
  generalize ordC a b = z at *
  go_enter Tryd.func26, Tryd.ntmps26
  go_wp2_with (go_at_call 24; refine HC.out.mono ?_; rintro r w2 ⟨rfl, q, rfl⟩)
  go_ret
  exact ⟨rfl, q, rfl⟩
theorem keeps_lists {ls : List (List Int)} {j : Nat} (h : j + 1 < ls.length) : Lib.keeps ls.toArray (j + 1) = !(ordC ls[j + 1] ls[j] == 0) := by
  unfold Lib.keeps
  have e1 : ls.toArray[j + 1]! = ls[j + 1] := by simp [h]
  have e2 : ls.toArray[j + 1 - 1]! = ls[j]'(by omega) := by simp [show j < ls.length by omega]
  rw [e1, e2]
  cases hq : (ordC ls[j + 1] ls[j] == 0) with
  | true =>
    have : ls[j + 1] = ls[j] := ordC_eq.1 (by simpa using hq)
    simp [this]
  | false =>
    have : ls[j + 1] ≠ ls[j] := fun e => by
      have h0 : ordC ls[j + 1] ls[j] ≠ 0 := by simpa using hq
      exact h0 (ordC_eq.2 e)
    simp [this]
/-- The row of CompactFunc: cells f, the first n of them slices of the lists L, of the call's own. -/
structure CRow (w : World) (base g cap n : Nat) (f : Nat → Value) (L : Nat → List Int) : Prop where
  row : w.rowIs g 30 cap f
  el : ∀ j, j < n → OwnInts w base (f j) (L j)
theorem CRow.later {w w' : World} {base g cap n : Nat} {f : Nat → Value} {L : Nat → List Int} (h : CRow w base g cap n f L) (hx : Ext w w') : CRow w' base g cap n f L :=
  ⟨h.row.of_block (hx.block _ h.row.lt), fun j hj => (h.el j hj).kept hx⟩
theorem CRow.grown {w w' : World} {base g cap n : Nat} {f : Nat → Value} {L : Nat → List Int} (h : CRow w base g cap n f L) (hg : w.grownBy w' (some g)) {v : Value} {l : List Int} (hv : OwnInts w base v l) : OwnInts w' base v l := by
  refine hv.keep fun k e => ?_
  obtain ⟨cs, hc⟩ := hv.typed k e
  refine hg.block k (lt_heap hc) fun e2 => ?_
  cases e2
  obtain ⟨c, hb, _⟩ := h.row
  rw [hb] at hc; cases hc
/-- An element is stored anew. -/
theorem CRow.put {w : World} {base g cap n : Nat} {f : Nat → Value} {L : Nat → List Int} (h : CRow w base g cap n f L) {k : Nat} {v : Value} {l : List Int} (hv : OwnInts w base v l) :
    CRow (w.setCell ⟨g, k, none⟩ v) base g cap n (fun j => if j = k then v else f j) (fun j => if j = k then l else L j) ∧ w.grownBy (w.setCell ⟨g, k, none⟩ v) (some g) := by
  have hg : w.grownBy (w.setCell ⟨g, k, none⟩ v) (some g) := ⟨rfl, rfl, rfl, by simp [World.setCell], fun i _ hne => heap_setCell_other _ _ _ _ fun e => hne (by rw [e])⟩
  refine ⟨⟨h.row.set k v, fun j hj => ?_⟩, hg⟩
  by_cases e : j = k
  · rw [if_pos e, if_pos e]; exact h.grown hg hv
  · rw [if_neg e, if_neg e]; exact h.grown hg (h.el j hj)
theorem CRow.of_own {w : World} {base g cap : Nat} {vs : List Value} {ls : List (List Int)} (ho : OwnL w base (.slice (some ⟨g, 0, none⟩) vs.length cap) vs) (hl : vs.length = ls.length) (he : ∀ i (h1 : i < vs.length) (h2 : i < ls.length), OwnInts w base vs[i] ls[i]) :
    vs.length ≤ cap ∧ cap ≤ maxLen ∧ base ≤ g ∧ ∃ f, CRow w base g cap ls.length f (fun j => ls.getD j []) := by
  rcases ho.1.2 with ⟨e, _⟩ | ⟨g', cap', cur, e, hg, hh, hn, hc, hs, ht⟩
  · cases e
  · cases e
    have hsz : cur.size = cap := by omega
    refine ⟨hn, hc, hg, fun j => cur.getD j undef, ⟨⟨cur, hh, hsz, fun i hi => by simp [Array.getD, show i < cur.size by omega]⟩, fun j hj => ?_⟩⟩
    have hj1 : j < vs.length := by omega
    have := congrArg (fun x => x[j]?) ht
    simp only [List.getElem?_take] at this
    rw [if_pos (by omega)] at this
    have e1 : cur.getD j undef = vs[j] := by
      have : cur[j]? = some vs[j] := by simpa [hj1] using this
      simp [Array.getD_eq_getD_getElem?, this]
    have e2 : ls.getD j [] = ls[j] := by simp [List.getD, hj]
    rw [e1, e2]
    exact he j hj1 hj
/-- Its first k cells are a slice of the call's own. -/
theorem CRow.own {w : World} {base g cap n : Nat} {f : Nat → Value} {L : Nat → List Int} (h : CRow w base g cap n f L) (hg : base ≤ g) (hm : cap ≤ maxLen) {k : Nat} (hk : k ≤ n) (hkc : k ≤ cap) : OwnL w base (.slice (some ⟨g, 0, none⟩) k cap) ((List.range k).map f) ∧ ∀ i (h1 : i < ((List.range k).map f).length), OwnInts w base ((List.range k).map f)[i] (L i) := by
  obtain ⟨c, hb, hs, hc⟩ := h.row
  refine ⟨⟨⟨by simp, .inr ⟨g, cap, c, by simp, hg, hb, by simpa using hkc, hm, by omega, ?_⟩⟩, fun u hu => ?_⟩, fun i h1 => ?_⟩
  · apply List.ext_getElem?
    intro j
    rw [List.getElem?_take]
    simp only [List.length_map, List.length_range, Nat.mul_one]
    by_cases hj : j < k
    · rw [if_pos hj, Array.getElem?_toList, hc j (by omega)]
      simp [hj]
    · rw [if_neg hj]; simp [hj]
  · obtain ⟨j, hj, rfl⟩ := List.mem_map.1 hu
    rw [List.mem_range] at hj
    exact (h.el j (by omega)).isSl
  · have hi : i < k := by simpa using h1
    simpa using h.el i (by omega)
end Go.Proofs.YtnkhaobokmmnjaaDoor
