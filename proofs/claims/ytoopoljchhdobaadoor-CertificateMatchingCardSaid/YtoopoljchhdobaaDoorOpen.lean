/-
  The arguments of a law, opened: what reads as an expression is one, and so on. Behind the call they read as before.
-/
import Derived.Test.YtoopoljchhdobaaDoorRows
import Derived.Test.YtoopoljchhdobaaDoorValue
import Derived.Lib.SmallJoins
import Derived.Deep.Slices
import Derived.Carry
import Derived.ChangeSame
namespace Go.Proofs.YtoopoljchhdobaaDoor
open Go.RowKit Go.WideShapes Go.ChangeShapes
set_option maxRecDepth 100000

section
variable {H : Type} {enc : TypeId × Value → H} {w : World} {base : Nat} {spare : Nat → Bool} {held : Bool}

theorem cellsInt : Tryd.prog.cellsOf 3 = 1 := by kernel_rfl
theorem cellsExpr : Tryd.prog.cellsOf 43 = 4 := by kernel_rfl
theorem cellsKids : Tryd.prog.cellsOf 41 = 1 := by kernel_rfl

/-- An address that reads has no spot. -/
theorem spot_none {a : Addr} {n : Nat} {cs : List Value} (h : w.cells? base a n = some cs) (hn : 0 < n) : a.spot = none := by
  obtain ⟨_, hl, hc⟩ := World.cells?_some h
  have h0 := hc 0 hn
  rw [show a.add 0 = a from rfl] at h0
  cases hs : a.spot with
  | none => rfl
  | some k =>
    have : cs[0]? ≠ none := by rw [List.getElem?_eq_getElem (by omega)]; simp
    rw [← h0] at this
    exfalso; apply this
    unfold World.cell?
    split <;> simp [hs]
theorem add_at (b o k : Nat) : (Addr.mk b o none).add k = ⟨b, o + k, none⟩ := by
  unfold Addr.add; split
  · next h => subst h; rfl
  · rfl

/-- A slice that reads, its elements of sz cells. -/
theorem slice_at {α : Type} [Inhabited α] {t e : TypeId} {sz fuel : Nat} {cs : List Value} {x : DataW H × List MemPlace} {Q : World → Nat → Nat → α → Prop} (ht : Tryd.prog.underlying t = some (.slice e)) (hz : Tryd.prog.cellsOf e = sz) (hz0 : 0 < sz)
    (hQ : ∀ (n : Nat), n < fuel → ∀ (cs' : List Value) (y : DataW H × List MemPlace) (b o : Nat), DataW.trod enc Tryd.prog w base spare held n e cs' = some y → cs'.length = sz → (∀ i, i < sz → w.cell? ⟨b, o + i, none⟩ = cs'[i]?) → ∃ a, Q w b o a)
    (h : DataW.trod enc Tryd.prog w base spare held fuel t cs = some x) : ∃ (v : Value) (l : List α), cs = [v] ∧ SliceAt sz Q w v l := by
  rcases DataW.trod_slice ht h with ⟨rfl, _⟩ | ⟨a, len, cap, elems, rest, n, rfl, rfl, rfl, hb, hl, hm, hlen, hel, _, _⟩
  · exact ⟨_, [], rfl, .inl ⟨⟨_, _, rfl⟩, rfl⟩⟩
  · rw [hz] at hel
    rcases Nat.eq_zero_or_pos len with h0 | h0
    · subst h0; exact ⟨_, [], rfl, .inl ⟨⟨_, _, rfl⟩, rfl⟩⟩
    have one : ∀ i, i < len → ∃ cs', w.cells? base (a.add (i * sz)) sz = some cs' ∧ ∃ y, DataW.trod enc Tryd.prog w base spare held n e cs' = some y := fun i hi => by
      have := hel i hi
      rw [List.getElem?_eq_getElem (by omega)] at this
      obtain ⟨cs', h1, h2⟩ := Option.bind_eq_some_iff.1 this
      exact ⟨cs', h1, _, h2⟩
    obtain ⟨cs0, h00, _⟩ := one 0 h0
    rw [Nat.zero_mul] at h00
    have hs := spot_none h00 hz0
    obtain ⟨b, o, sp⟩ := a
    have hs : sp = none := hs
    subst hs
    have key : ∀ i, i < len → ∃ q, Q w b (o + i * sz) q := fun i hi => by
      obtain ⟨cs', h1, y, h2⟩ := one i hi
      obtain ⟨_, hcl, hc⟩ := World.cells?_some h1
      refine hQ n (by omega) cs' y b (o + i * sz) h2 hcl fun j hj => ?_
      rw [← hc j hj, Deep.add_add, add_at, Nat.add_assoc]
    obtain ⟨f, hf⟩ := Deep.choose_lt key
    refine ⟨_, (List.range len).map f, rfl, .inr ⟨b, o, cap, by simp, ?_, fun i hi => ?_⟩⟩
    · have : maxLen ≤ 9223372036854775807 := by decide
      simp; omega
    · simp at hi; simpa using hf i hi

instance : Inhabited E := ⟨.mk 0 0 0 []⟩
instance : Inhabited CellD := ⟨⟨⟨#[]⟩, 0, 0, 0, false, 0⟩⟩

theorem len4 {cs : List Value} (h : cs.length = 4) : ∃ a b c d, cs = [a, b, c, d] := by
  match cs, h with
  | [a, b, c, d], _ => exact ⟨a, b, c, d, rfl⟩
theorem len5 {cs : List Value} (h : cs.length = 5) : ∃ a b c d e, cs = [a, b, c, d, e] := by
  match cs, h with
  | [a, b, c, d, e], _ => exact ⟨a, b, c, d, e, rfl⟩
theorem len6 {cs : List Value} (h : cs.length = 6) : ∃ a b c d e f, cs = [a, b, c, d, e, f] := by
  match cs, h with
  | [a, b, c, d, e, f], _ => exact ⟨a, b, c, d, e, f, rfl⟩

/-- The cells of what reads as an expression. -/
theorem open_e : ∀ (fuel : Nat) (cs : List Value) (x : DataW H × List MemPlace), DataW.trod enc Tryd.prog w base spare held fuel 43 cs = some x →
    ∃ (e : E) (kv : Value), cs = [.int .i64 e.op, .int .i64 e.wd, .int .i64 e.n, kv] ∧ Kids w kv e.kids := by
  intro fuel
  induction fuel using Nat.strongRecOn with
  | ind fuel ih =>
    intro cs x h
    obtain ⟨xs, n, rfl, rfl, hl, hlen, hf⟩ := DataW.trod_struct Tryd.underlying43 h
    rw [cellsExpr] at hl
    obtain ⟨v0, v1, v2, v3, rfl⟩ := len4 hl
    have h0 : DataW.trod enc Tryd.prog w base spare held n 3 (List.take (Tryd.prog.cellsOf 3) (List.drop 0 [v0, v1, v2, v3])) = xs[0]? := hf 0 _ rfl
    have h1 : DataW.trod enc Tryd.prog w base spare held n 3 (List.take (Tryd.prog.cellsOf 3) (List.drop 1 [v0, v1, v2, v3])) = xs[1]? := hf 1 _ rfl
    have h2 : DataW.trod enc Tryd.prog w base spare held n 3 (List.take (Tryd.prog.cellsOf 3) (List.drop 2 [v0, v1, v2, v3])) = xs[2]? := hf 2 _ rfl
    have h3 : DataW.trod enc Tryd.prog w base spare held n 41 (List.take (Tryd.prog.cellsOf 41) (List.drop 3 [v0, v1, v2, v3])) = xs[3]? := hf 3 _ rfl
    simp only [cellsInt, cellsKids, List.drop, List.take] at h0 h1 h2 h3
    match xs, (show xs.length = 4 from hlen) with
    | [y0, y1, y2, y3], _ =>
    simp only [List.getElem?_cons_zero, List.getElem?_cons_succ] at h0 h1 h2 h3
    obtain ⟨op, e0, _, _⟩ := DataW.trod_int Tryd.underlying3 h0
    obtain ⟨wd, e1, _, _⟩ := DataW.trod_int Tryd.underlying3 h1
    obtain ⟨nn, e2, _, _⟩ := DataW.trod_int Tryd.underlying3 h2
    obtain ⟨kv, ks, e3, hk⟩ := slice_at (Q := IsE) Tryd.underlying41 cellsExpr (by omega) (fun m hm cs' y b o ht hcl hc => by
      obtain ⟨e, kv, rfl, hk⟩ := ih m (by omega) cs' y ht
      exact ⟨e, IsE.of_cells (hc 0 (by omega)) (hc 1 (by omega)) (hc 2 (by omega)) (hc 3 (by omega)) hk⟩) h3
    simp only [List.cons.injEq, and_true] at e0 e1 e2 e3
    subst e0 e1 e2 e3
    exact ⟨.mk op wd nn ks, _, rfl, hk⟩

theorem open_E {r : Reach} {b0 : Nat} {v : Value} {d : DataW H} {p : List MemPlace} (hv : Value.okWide Tryd.prog w r b0 43 v) (h : DataW.Trod enc Tryd.prog w base spare held 43 v d p) : ∃ e, EVal w v e := by
  obtain ⟨cs, rfl, _⟩ := okWide_struct Tryd.underlying43 hv
  obtain ⟨fuel, hf⟩ := h
  obtain ⟨e, kv, hc, hk⟩ := open_e fuel _ _ hf
  refine ⟨e, kv, ?_, hk⟩
  obtain ⟨l⟩ := cs
  simp only [Value.cells] at hc
  rw [show l = _ from hc]

/-- A value of a type of one cell. -/
theorem one_cell {v u : Value} {r : Reach} {b0 : Nat} {t : TypeId} {e : TypeId} (ht : Tryd.prog.underlying t = some (.slice e)) (hv : Value.okWide Tryd.prog w r b0 t v) (h : v.cells.toList = [u]) : v = u := by
  simp only [Value.okWide, ht, Cell.okWide, Cell.ok] at hv
  split at hv
  all_goals first | (simp [Value.cells] at h; exact h) | exact hv.elim | skip
theorem open_Ints {r : Reach} {b0 : Nat} {v : Value} {d : DataW H} {p : List MemPlace} (hv : Value.okWide Tryd.prog w r b0 23 v) (h : DataW.Trod enc Tryd.prog w base spare held 23 v d p) : ∃ l, Ints w v l := by
  obtain ⟨fuel, hf⟩ := h
  obtain ⟨u, l, hc, hl⟩ := slice_at (Q := IntAt) Tryd.underlying23 cellsInt (by omega) (fun m hm cs' y b o ht hcl hc => by
    obtain ⟨z, rfl, _, _⟩ := DataW.trod_int Tryd.underlying3 ht
    exact ⟨z, hc 0 (by omega)⟩) hf
  rw [one_cell Tryd.underlying23 hv hc]; exact ⟨l, hl⟩
theorem open_Kids {r : Reach} {b0 : Nat} {v : Value} {d : DataW H} {p : List MemPlace} (hv : Value.okWide Tryd.prog w r b0 41 v) (h : DataW.Trod enc Tryd.prog w base spare held 41 v d p) : ∃ l, Kids w v l := by
  obtain ⟨fuel, hf⟩ := h
  obtain ⟨u, l, hc, hl⟩ := slice_at (Q := IsE) Tryd.underlying41 cellsExpr (by omega) (fun m hm cs' y b o ht hcl hc => by
    obtain ⟨e, kv, rfl, hk⟩ := open_e m cs' y ht
    exact ⟨e, IsE.of_cells (hc 0 (by omega)) (hc 1 (by omega)) (hc 2 (by omega)) (hc 3 (by omega)) hk⟩) hf
  rw [one_cell Tryd.underlying41 hv hc]; exact ⟨l, hl⟩
theorem cellsStr : Tryd.prog.cellsOf 9 = 1 := by kernel_rfl
theorem cellsBool : Tryd.prog.cellsOf 4 = 1 := by kernel_rfl
end
end Go.Proofs.YtoopoljchhdobaaDoor
