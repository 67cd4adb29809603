/-
  What Parse keeps.
-/
import Derived.Test.YtnkhaobokmmnjaaDoorCq6
import Derived.Test.YtnkhaobokmmnjaaDoorCp3
import Derived.WalkMore
namespace Go.Proofs.YtnkhaobokmmnjaaDoor
open Go.RowKit Go.Shelf
attribute [local go_sem] Oper.semAt_some

theorem keepB_trans {b1 b2 : Nat} {A B C : World} (h : KeepB b1 b2 A B) (k : KeepB b1 b2 B C) : KeepB b1 b2 A C := fun i hi => (k i hi).trans (h i hi)
theorem keepB_put {b1 b2 : Nat} {w : World} (h1 : b1 < w.heap.size) (h2 : b2 < w.heap.size) (W : World) (l : Nat) (o o' : Obj) (hl : w.heap.size ≤ l) (_ : W.heap[l]? = some o) (_ : o.isCells = false) : KeepB b1 b2 W (W.putObj l o') := fun i hi => World.putObj_heap_other (by rcases hi with rfl | rfl <;> omega)
theorem results_row_cell {P : Program} {fn : Func} {p u : Tmp} {ty ty2 : TypeId} (h : fn.results = #[.cell p ty, .cell u ty2]) (tmps : Array Value) (w : World) (g : Nat) (t : TypeId) (cs : Array Value) (fr : Nat × Nat) (d : TypeDesc)
    (hp : tmps.getD p undef = .pointer (some ⟨g, 0, none⟩)) (hg : w.heap[g]? = some (.cells cs t fr)) (hu : P.underlying ty = some d) (hd : (match d with | .struct _ | .array _ _ => true | _ => false) = true) (hi : (P.info? ty).map (·.size) = some cs.size)
    (a2 : Addr) (v2 : Value) (hp2 : tmps.getD u undef = .pointer (some a2)) (h2 : (loadVar ty2 a2).run P w = .ok v2 w) :
    (results fn tmps).run P w = .ok (.tuple #[.agg cs, v2]) w := by
  have hp' : tmps[p]?.getD undef = .pointer (some ⟨g, 0, none⟩) := by simpa using hp
  have hp2' : tmps[u]?.getD undef = .pointer (some a2) := by simpa using hp2
  simp [results, h, hp', hp2', asAddr, run_loadVar_row w g t ty cs fr d hg hu hd hi, h2]

/-- What Parse's range keeps: q the block of the result, q + 1 that of the error, q + 2 the reader's, q + 3 the iterator's. -/
structure ParI (w : World) (q : Nat) (t : List UInt8) (pre : List (List UInt8)) (W : World) : Prop where
  res : W.heap[q]? = some (.cells #[.int .i64 0, .slice none 0 0] 24 (0, 0))
  err : W.heap[q + 1]? = some (.cells #[.int .i64 0] 39 (0, 0))
  rd : ∃ s, RdE W (q + 2) s ∧ linesR rd0 pre = .ok s ∧ RdB s pre.flatten.length
  box : ∃ v, W.heap[q + 3]? = some (.cells #[v] 9 (0, 0))
  ext : Ext w W
  sz : q + 4 ≤ W.heap.size
/-- What is said where the reading has failed. -/
structure ParP (w : World) (q : Nat) (t : List UInt8) (ch : List PanicEntry) (W : World) : Prop where
  res : W.heap[q]? = some (.cells #[.int .i64 0, .slice none 0 0] 24 (0, 0))
  err : W.heap[q + 1]? = some (.cells #[.int .i64 0] 39 (0, 0))
  ext : Ext w W
  fail : ∃ c, ch = panicE c ∧ parseF t = .error c
theorem RdE.keep {w w' : World} {b : Nat} {s : RdC} (h : RdE w b s) (hk : ∀ k cs t, b ≤ k → w.heap[k]? = some (.cells cs t (0, 0)) → (k = b ∨ t = 3 ∨ t = 30) → w'.heap[k]? = w.heap[k]?) : RdE w' b s := by
  obtain ⟨vcl, vcs, vs, hm⟩ := h; exact ⟨vcl, vcs, vs, hm.keep hk⟩
theorem RdE.later {w w' : World} {b : Nat} {s : RdC} (h : RdE w b s) (hx : Ext w w') : RdE w' b s := by
  obtain ⟨vcl, vcs, vs, hm⟩ := h; exact ⟨vcl, vcs, vs, hm.later hx⟩
theorem ParI.own {w : World} {q B : Nat} {t : List UInt8} (hB : w.heap.size ≤ B) : OwnFrom B (ParI w q t) := by
  intro xs W W' row h hg hr
  have hr' : ∀ r, row = some r → ∃ o : Obj, W.heap[r]? = some o ∧ o.isCells = false := fun r e => (hr r e).2
  obtain ⟨s, h1, h2⟩ := h.rd
  obtain ⟨v, hv⟩ := h.box
  exact ⟨(grown_other hg hr' _ _ h.res rfl).trans h.res, (grown_other hg hr' _ _ h.err rfl).trans h.err, ⟨s, h1.keep fun k cs ty _ hk _ => grown_other hg hr' k _ hk rfl, h2⟩, ⟨v, (grown_other hg hr' _ _ hv rfl).trans hv⟩, h.ext.grown hg fun k e => Nat.le_trans hB (hr k e).1, Nat.le_trans h.sz hg.size⟩
theorem ParI.deaf {w : World} {q : Nat} {t : List UInt8} (hq : w.heap.size ≤ q) : Deaf (q + 3) (ParI w q t) := by
  intro xs W v h
  obtain ⟨s, h1, h2⟩ := h.rd
  obtain ⟨v0, hv⟩ := h.box
  have ho : ∀ k, k ≠ q + 3 → (W.setCell ⟨q + 3, 0, none⟩ v).heap[k]? = W.heap[k]? := fun k hk => heap_setCell_other _ _ _ _ hk
  refine ⟨(ho _ (by omega)).trans h.res, (ho _ (by omega)).trans h.err, ⟨s, h1.keep fun k cs ty _ hk ht => ho k fun e => ?_, h2⟩, ⟨v, ?_⟩, h.ext.setCell (p := ⟨q + 3, 0, none⟩) (by show w.heap.size ≤ q + 3; omega) _, by have := h.sz; simpa [World.setCell] using this⟩
  · subst e
    rw [hv] at hk; cases hk
    rcases ht with e | e | e
    · omega
    · exact absurd e (by decide)
    · exact absurd e (by decide)
  · have := heap_setCell_same W (q + 3) 0 _ _ v hv
    simpa using this
/-- A step of the reader keeps what is around it. -/
theorem Rdf.ext {w W W' : World} {b : Nat} (h : Rdf b W W') (hx : Ext w W) (hb : w.heap.size ≤ b) : Ext w W' :=
  ⟨h.os.trans hx.os, h.tape.trans hx.tape, h.output.trans hx.output, Nat.le_trans hx.size h.size, fun k hk => by
    have hkW : k < W.heap.size := Nat.lt_of_lt_of_le hk hx.size
    obtain ⟨o, ho⟩ : ∃ o, W.heap[k]? = some o := ⟨_, Array.getElem?_eq_getElem hkW⟩
    rw [h.same k o ho (by omega) (by omega), ← hx.block k hk, ho]⟩
theorem Rdf.others {W W' : World} {b : Nat} (h : Rdf b W W') (hb : ∃ cs t f, W.heap[b]? = some (.cells cs t f)) : KeepsOthers W W' :=
  ⟨h.size, fun k o hk ho => h.same k o hk (fun e => by obtain ⟨cs, t, f, hc⟩ := hb; subst e; rw [hk] at hc; cases hc; cases ho) fun _ cs => ⟨fun e => (by rw [e] at ho; cases ho), fun e => (by rw [e] at ho; cases ho)⟩⟩
end Go.Proofs.YtnkhaobokmmnjaaDoor
