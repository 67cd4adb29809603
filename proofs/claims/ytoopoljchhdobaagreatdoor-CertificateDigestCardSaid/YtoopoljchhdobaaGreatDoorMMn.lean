/-
  What certificate.Parse keeps; its range's laws.
-/
import Derived.Test.YtoopoljchhdobaaGreatDoorMMl
import Derived.Test.YtoopoljchhdobaaGreatDoorMMm
import Derived.StillTailTactics
namespace Go.Proofs.YtoopoljchhdobaaGreatDoor
open Go.RowKit Go.Shelf
attribute [local go_sem] Oper.semAt_some

theorem OwnSteps.keepC {w w' : World} {base : Nat} {v : Value} {l : List St} (h : OwnSteps w base v l) (hk : ∀ k (cs : Array Value) t, base ≤ k → w.heap[k]? = some (.cells cs t (0, 0)) → w'.heap[k]? = w.heap[k]?) : OwnSteps w' base v l := by
  have hT := h.typed
  obtain ⟨vs, ⟨h1, h2⟩, he⟩ := h
  refine ⟨vs, ⟨h1, ?_⟩, he.keep fun k cs hb hc => hk k cs _ hb hc⟩
  rcases h2 with h2 | ⟨g, cap, cur, hv, hg, hh, r⟩
  · exact .inl h2
  · obtain ⟨hb, cs, hc⟩ := hT g (by rw [hv]; rfl)
    exact .inr ⟨g, cap, cur, hv, hg, by rw [hk g _ _ hb hc]; exact hh, r⟩
/-- A certificate in block b that has been read. -/
def CertR (w : World) (b : Nat) (x : CertS) : Prop := ∃ pa pc oa oc na nc, CertAt w b x pa pc oa oc na nc ∧ OwnSteps w (b + 1) (.slice pa x.prf.length pc) x.prf ∧ OwnInts w (b + 1) (.slice oa x.old.length oc) x.old ∧ OwnInts w (b + 1) (.slice na x.now.length nc) x.now
theorem CertB.read {w : World} {b n : Nat} {x : CertS} (h : CertB w b n x) : CertR w b x := by
  obtain ⟨⟨hb, e⟩, oa, oc, na, nc, h1, h2, h3⟩ := h
  have e0 : x.prf.length = 0 := by rw [e]; rfl
  refine ⟨none, 0, oa, oc, na, nc, h1, ?_, h2.mono hb, h3.mono hb⟩
  rw [e]; exact OwnSteps.nil _ _
theorem CertR.keep {w w' : World} {b : Nat} {x : CertS} (h : CertR w b x) (hk : ∀ k (cs : Array Value) t, b ≤ k → w.heap[k]? = some (.cells cs t (0, 0)) → w'.heap[k]? = w.heap[k]?) : CertR w' b x := by
  obtain ⟨pa, pc, oa, oc, na, nc, h1, h2, h3, h4⟩ := h
  refine ⟨pa, pc, oa, oc, na, nc, (hk b _ _ (Nat.le_refl _) h1).trans h1, h2.keepC fun k cs t hb hc => hk k cs t (by omega) hc, h3.keep fun k e => ?_, h4.keep fun k e => ?_⟩
  · obtain ⟨cs, hc⟩ := h3.typed k e
    exact hk k cs _ (by have := h3.base k e; omega) hc
  · obtain ⟨cs, hc⟩ := h4.typed k e
    exact hk k cs _ (by have := h4.base k e; omega) hc
theorem CertR.val {w : World} {b : Nat} {x : CertS} (h : CertR w b x) : ∃ pa pc oa oc na nc, CertAt w b x pa pc oa oc na nc ∧ CertIn w x pa pc oa oc na nc := by
  obtain ⟨pa, pc, oa, oc, na, nc, h1, h2, h3, h4⟩ := h
  exact ⟨pa, pc, oa, oc, na, nc, h1, h2.steps, h3.ints, h4.ints⟩
/-- The proof is set. -/
theorem CertB.putPrf {w : World} {b n : Nat} {x : CertS} (h : CertB w b n x) {l : List St} {a : Option Addr} {c : Nat} (ho : OwnSteps w (b + 1) (.slice a l.length c) l) : CertR (w.setCell ⟨b, 3, none⟩ (.slice a l.length c)) b { x with prf := l } := by
  obtain ⟨⟨hb, e⟩, oa, oc, na, nc, k1, k2, k3⟩ := h
  have hne : ∀ k, b + 1 ≤ k → (w.setCell ⟨b, 3, none⟩ (.slice a l.length c)).heap[k]? = w.heap[k]? := fun k hk => heap_setCell_other _ _ _ _ (by show k ≠ b; omega)
  refine ⟨a, c, oa, oc, na, nc, ?_, ho.keepC fun k _ _ hk _ => hne k hk, (k2.mono (base' := b + 1) hb).keep fun k hk => hne k (by have := k2.base k hk; omega), (k3.mono (base' := b + 1) hb).keep fun k hk => hne k (by have := k3.base k hk; omega)⟩
  have := heap_setCell_same w b 3 _ _ (.slice a l.length c) k1
  exact this

theorem ElemsO.mono {w : World} {base base' : Nat} (hb : base' ≤ base) : ∀ {vs : List (Value × Value)} {l : List St}, ElemsO w base vs l → ElemsO w base' vs l
  | [], [], _ => trivial
  | _ :: _, _ :: _, h => ⟨⟨h.1.1.mono hb, h.1.2.mono hb⟩, h.2.mono hb⟩
  | [], _ :: _, h => h.elim
  | _ :: _, [], h => h.elim
theorem OwnSteps.monoC {w : World} {base base' : Nat} {v : Value} {l : List St} (h : OwnSteps w base v l) (hb : base' ≤ base) : OwnSteps w base' v l := by
  obtain ⟨vs, ⟨h1, h2⟩, he⟩ := h
  refine ⟨vs, ⟨h1, ?_⟩, he.mono hb⟩
  rcases h2 with h2 | ⟨g, cap, cur, hv, hg, r⟩
  · exact .inl h2
  · exact .inr ⟨g, cap, cur, hv, by omega, r⟩
theorem But.others {b : Nat} {w w' : World} (h : But b w w') (hb : ∃ o : Obj, w.heap[b]? = some o ∧ o.isCells = true) : KeepsOthers w w' :=
  ⟨h.size, fun k o hk ho => (h.block k (Array.getElem?_eq_some_iff.1 hk).1 fun e => by obtain ⟨o', h1, h2⟩ := hb; subst e; rw [hk] at h1; cases h1; rw [ho] at h2; cases h2).trans hk⟩
theorem Ext.others {w w' : World} (h : Ext w w') : KeepsOthers w w' := ⟨h.size, fun k _ hk _ => (h.block k (Array.getElem?_eq_some_iff.1 hk).1).trans hk⟩
def put6 (w : World) (b : Nat) (x0 x1 x2 x3 x4 x5 : Value) : World := (((((w.setCell ⟨b, 0, none⟩ x0).setCell ⟨b, 1, none⟩ x1).setCell ⟨b, 2, none⟩ x2).setCell ⟨b, 3, none⟩ x3).setCell ⟨b, 4, none⟩ x4).setCell ⟨b, 5, none⟩ x5
theorem put6_new {w : World} {b : Nat} {y0 y1 y2 y3 y4 y5 : Value} {t : TypeId} (h : w.heap[b]? = some (.cells #[y0, y1, y2, y3, y4, y5] t (0, 0))) (x0 x1 x2 x3 x4 x5 : Value) : (put6 w b x0 x1 x2 x3 x4 x5).heap[b]? = some (.cells #[x0, x1, x2, x3, x4, x5] t (0, 0)) := by
  have h0 := heap_setCell_same w b 0 _ _ x0 h
  have h1 := heap_setCell_same _ b 1 _ _ x1 h0
  have h2 := heap_setCell_same _ b 2 _ _ x2 h1
  have h3 := heap_setCell_same _ b 3 _ _ x3 h2
  have h4 := heap_setCell_same _ b 4 _ _ x4 h3
  have h5 := heap_setCell_same _ b 5 _ _ x5 h4
  exact h5
theorem row6 {w : World} {b : Nat} {y0 y1 y2 y3 y4 y5 : Value} {t : TypeId} (h : w.heap[b]? = some (.cells #[y0, y1, y2, y3, y4, y5] t (0, 0))) : w.cell? ⟨b, 0, none⟩ = some y0 ∧ w.cell? ⟨b, 1, none⟩ = some y1 ∧ w.cell? ⟨b, 2, none⟩ = some y2 ∧ w.cell? ⟨b, 3, none⟩ = some y3 ∧ w.cell? ⟨b, 4, none⟩ = some y4 ∧ w.cell? ⟨b, 5, none⟩ = some y5 := by
  simp [World.cell?, h]
theorem put6_other {w : World} {b k : Nat} {x0 x1 x2 x3 x4 x5 : Value} (h : k ≠ b) : (put6 w b x0 x1 x2 x3 x4 x5).heap[k]? = w.heap[k]? := by
  unfold put6
  rw [heap_setCell_other _ _ _ _ h, heap_setCell_other _ _ _ _ h, heap_setCell_other _ _ _ _ h, heap_setCell_other _ _ _ _ h, heap_setCell_other _ _ _ _ h, heap_setCell_other _ _ _ _ h]
theorem put6_ext {a w : World} (h : Ext a w) {b : Nat} (hb : a.heap.size ≤ b) {x0 x1 x2 x3 x4 x5 : Value} : Ext a (put6 w b x0 x1 x2 x3 x4 x5) :=
  (((((h.setCell (p := ⟨b, 0, none⟩) hb _).setCell (p := ⟨b, 1, none⟩) hb _).setCell (p := ⟨b, 2, none⟩) hb _).setCell (p := ⟨b, 3, none⟩) hb _).setCell (p := ⟨b, 4, none⟩) hb _).setCell (p := ⟨b, 5, none⟩) hb _
/-- What Parse's range keeps: q the block of the text, q + 1 that of the result, q + 2 that of the certificate, q + 3 that of the place, q + 4 the iterator's. -/
structure ParseI (w : World) (q : Nat) (t : List UInt8) (pre : List (List UInt8)) (W : World) : Prop where
  txt : W.heap[q]? = some (.cells #[.string ⟨t.toArray⟩] 9 (0, 0))
  res : W.heap[q + 1]? = some (.cells (certCells cert0 none 0 none 0 none 0) 41 (0, 0))
  cert : ∃ x rest, CertB W (q + 2) (q + 6) x ∧ splitB 10 t = pre ++ rest ∧ readC t = linesW x pre.isEmpty rest
  place : W.heap[q + 3]? = some (.cells #[.int .i64 ((gone 10 pre).length : Nat)] 3 (0, 0))
  box : ∃ v, W.heap[q + 4]? = some (.cells #[v] 9 (0, 0))
  ext : Ext w W
  sz : q + 6 ≤ W.heap.size
theorem ParseI.own {w : World} {q B : Nat} {t : List UInt8} (hB : w.heap.size ≤ B) : OwnFrom B (ParseI w q t) := by
  intro xs W W' row h hg hr
  have hr' : ∀ r, row = some r → ∃ o : Obj, W.heap[r]? = some o ∧ o.isCells = false := fun r e => (hr r e).2
  obtain ⟨x, rest, h1, h2, h3⟩ := h.cert
  obtain ⟨v, hv⟩ := h.box
  exact ⟨(grown_oth hg hr' _ _ h.txt rfl).trans h.txt, (grown_oth hg hr' _ _ h.res rfl).trans h.res, ⟨x, rest, h1.keep fun k cs ty _ hk _ => grown_oth hg hr' k _ hk rfl, h2, h3⟩, (grown_oth hg hr' _ _ h.place rfl).trans h.place, ⟨v, (grown_oth hg hr' _ _ hv rfl).trans hv⟩, h.ext.grown hg fun k e => Nat.le_trans hB (hr k e).1, Nat.le_trans h.sz hg.size⟩
theorem ParseI.deaf {w : World} {q : Nat} {t : List UInt8} (hq : w.heap.size ≤ q) : Deaf (q + 4) (ParseI w q t) := by
  intro xs W v h
  obtain ⟨x, rest, h1, h2, h3⟩ := h.cert
  obtain ⟨v0, hv⟩ := h.box
  have ho : ∀ k, k ≠ q + 4 → (W.setCell ⟨q + 4, 0, none⟩ v).heap[k]? = W.heap[k]? := fun k hk => heap_setCell_other _ _ _ _ hk
  refine ⟨(ho _ (by omega)).trans h.txt, (ho _ (by omega)).trans h.res, ⟨x, rest, h1.keep fun k cs ty _ hk ht => ho k fun e => ?_, h2, h3⟩, (ho _ (by omega)).trans h.place, ⟨v, ?_⟩, h.ext.setCell (p := ⟨q + 4, 0, none⟩) (by show w.heap.size ≤ q + 4; omega) _, by have := h.sz; simpa [World.setCell] using this⟩
  · subst e
    rw [hv] at hk; cases hk
    rcases ht with e | e
    · omega
    · exact absurd e.2 (by decide)
  · have := heap_setCell_same W (q + 4) 0 _ _ v hv
    simpa using this
/-- What is said where the reading has ended. -/
structure ParseZ (w : World) (q : Nat) (t : List UInt8) (W : World) : Prop where
  txt : W.heap[q]? = some (.cells #[.string ⟨t.toArray⟩] 9 (0, 0))
  res : W.heap[q + 1]? = some (.cells (certCells cert0 none 0 none 0 none 0) 41 (0, 0))
  cert : CertR W (q + 2) (readC t)
  ext : Ext w W
theorem ParseZ.own {w : World} {q B : Nat} {t : List UInt8} (hB : w.heap.size ≤ B) {W W' : World} {row : Option Nat} (h : ParseZ w q t W) (hg : W.grownBy W' row) (hr : ∀ r, row = some r → B ≤ r ∧ ∃ o : Obj, W.heap[r]? = some o ∧ o.isCells = false) : ParseZ w q t W' := by
  have hr' : ∀ r, row = some r → ∃ o : Obj, W.heap[r]? = some o ∧ o.isCells = false := fun r e => (hr r e).2
  exact ⟨(grown_oth hg hr' _ _ h.txt rfl).trans h.txt, (grown_oth hg hr' _ _ h.res rfl).trans h.res, h.cert.keep fun k cs ty _ hk => grown_oth hg hr' k _ hk rfl, h.ext.grown hg fun k e => Nat.le_trans hB (hr k e).1⟩
theorem ParseI.done {w : World} {q : Nat} {t : List UInt8} {W : World} {xs : List (List UInt8)} (h : ParseI w q t xs W) (hx : xs = splitB 10 t) : ParseZ w q t W := by
  obtain ⟨x, rest, h1, h2, h3⟩ := h.cert
  have : rest = [] := by rw [hx] at h2; simpa using h2
  subst this
  rw [linesW] at h3
  exact ⟨h.txt, h.res, by rw [h3]; exact h1.read, h.ext⟩
/-- The place is set. -/
theorem ParseI.place_set {w : World} {q : Nat} {t : List UInt8} {pre : List (List UInt8)} {W : World} (hq : w.heap.size ≤ q) (h : ParseI w q t pre W) (v : Value) :
    (W.setCell ⟨q + 3, 0, none⟩ v).heap[q]? = some (.cells #[.string ⟨t.toArray⟩] 9 (0, 0)) ∧ (W.setCell ⟨q + 3, 0, none⟩ v).heap[q + 1]? = some (.cells (certCells cert0 none 0 none 0 none 0) 41 (0, 0)) ∧ (∀ x, CertB W (q + 2) (q + 6) x → CertB (W.setCell ⟨q + 3, 0, none⟩ v) (q + 2) (q + 6) x) ∧
    (W.setCell ⟨q + 3, 0, none⟩ v).heap[q + 3]? = some (.cells #[v] 3 (0, 0)) ∧ (∃ u, (W.setCell ⟨q + 3, 0, none⟩ v).heap[q + 4]? = some (.cells #[u] 9 (0, 0))) ∧ Ext w (W.setCell ⟨q + 3, 0, none⟩ v) ∧ (W.setCell ⟨q + 3, 0, none⟩ v).heap.size = W.heap.size := by
  have ho : ∀ k, k ≠ q + 3 → (W.setCell ⟨q + 3, 0, none⟩ v).heap[k]? = W.heap[k]? := fun k hk => heap_setCell_other _ _ _ _ hk
  obtain ⟨u, hu⟩ := h.box
  refine ⟨(ho _ (by omega)).trans h.txt, (ho _ (by omega)).trans h.res, fun x hx => ?_, ?_, ⟨u, (ho _ (by omega)).trans hu⟩, h.ext.setCell (p := ⟨q + 3, 0, none⟩) (by show w.heap.size ≤ q + 3; omega) _, by simp [World.setCell]⟩
  · exact hx.keep fun k cs ty _ hk ht => ho k fun e => by rcases ht with e1 | e1 <;> omega
  · have := heap_setCell_same W (q + 3) 0 _ _ v h.place
    simpa using this
end Go.Proofs.YtoopoljchhdobaaGreatDoor
