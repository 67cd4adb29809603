/-
  The arguments of a law, opened: what reads as an expression is one, and so on. Behind the call they read as before.
  The tables of law27; small certificates.
  Certificates and conditions among the arguments, opened.
-/
import Derived.Test.YtoopoljchhdobaaGreatDoorRows
import Derived.Test.YtoopoljchhdobaaGreatDoorMMc
import Derived.Lib.SmallJoins
import Derived.Deep.Slices
import Derived.Carry
import Derived.ChangeSame
import Derived.Test.YtoopoljchhdobaaGreatDoorMMp
import Derived.OpenShut
namespace Go.Proofs.YtoopoljchhdobaaGreatDoor
open Go.RowKit Go.WideShapes Go.ChangeShapes
set_option maxRecDepth 100000

section
variable {H : Type} {enc : TypeId × Value → H} {w : World} {base : Nat} {spare : Nat → Bool} {held : Bool}

theorem cellsInt : Tryz.prog.cellsOf 3 = 1 := by kernel_rfl
theorem cellsExpr : Tryz.prog.cellsOf 24 = 4 := by kernel_rfl
theorem cellsKids : Tryz.prog.cellsOf 22 = 1 := by kernel_rfl

/-- An address that reads has no spot. -/
theorem spot_none {a : Addr} {n : Nat} {cs : List Value} (h : w.cells? base a n = some cs) (hn : 0 < n) : a.spot = none := by
  obtain ⟨_, hl, hc⟩ := World.cells?_some h
  have h0 := hc 0 hn
  rw [show a.add 0 = a from rfl] at h0
  cases hs : a.spot with
  | none => rfl
  | some k =>
    have : cs[0]? ≠ none := by rw [List.getElem?_eq_getElem (by omega)]; simp
    rw [← h0] at this
    exfalso; apply this
    unfold World.cell?
    split <;> simp [hs]
theorem add_at (b o k : Nat) : (Addr.mk b o none).add k = ⟨b, o + k, none⟩ := by
  unfold Addr.add; split
  · next h => subst h; rfl
  · rfl

/-- A slice that reads, its elements of sz cells. -/
theorem slice_at {α : Type} [Inhabited α] {t e : TypeId} {sz fuel : Nat} {cs : List Value} {x : DataW H × List MemPlace} {Q : World → Nat → Nat → α → Prop} (ht : Tryz.prog.underlying t = some (.slice e)) (hz : Tryz.prog.cellsOf e = sz) (hz0 : 0 < sz)
    (hQ : ∀ (n : Nat), n < fuel → ∀ (cs' : List Value) (y : DataW H × List MemPlace) (b o : Nat), DataW.trod enc Tryz.prog w base spare held n e cs' = some y → cs'.length = sz → (∀ i, i < sz → w.cell? ⟨b, o + i, none⟩ = cs'[i]?) → ∃ a, Q w b o a)
    (h : DataW.trod enc Tryz.prog w base spare held fuel t cs = some x) : ∃ (v : Value) (l : List α), cs = [v] ∧ SliceAt sz Q w v l := by
  rcases DataW.trod_slice ht h with ⟨rfl, _⟩ | ⟨a, len, cap, elems, rest, n, rfl, rfl, rfl, hb, hl, hm, hlen, hel, _, _⟩
  · exact ⟨_, [], rfl, .inl ⟨⟨_, _, rfl⟩, rfl⟩⟩
  · rw [hz] at hel
    rcases Nat.eq_zero_or_pos len with h0 | h0
    · subst h0; exact ⟨_, [], rfl, .inl ⟨⟨_, _, rfl⟩, rfl⟩⟩
    have one : ∀ i, i < len → ∃ cs', w.cells? base (a.add (i * sz)) sz = some cs' ∧ ∃ y, DataW.trod enc Tryz.prog w base spare held n e cs' = some y := fun i hi => by
      have := hel i hi
      rw [List.getElem?_eq_getElem (by omega)] at this
      obtain ⟨cs', h1, h2⟩ := Option.bind_eq_some_iff.1 this
      exact ⟨cs', h1, _, h2⟩
    obtain ⟨cs0, h00, _⟩ := one 0 h0
    rw [Nat.zero_mul] at h00
    have hs := spot_none h00 hz0
    obtain ⟨b, o, sp⟩ := a
    have hs : sp = none := hs
    subst hs
    have key : ∀ i, i < len → ∃ q, Q w b (o + i * sz) q := fun i hi => by
      obtain ⟨cs', h1, y, h2⟩ := one i hi
      obtain ⟨_, hcl, hc⟩ := World.cells?_some h1
      refine hQ n (by omega) cs' y b (o + i * sz) h2 hcl fun j hj => ?_
      rw [← hc j hj, Deep.add_add, add_at, Nat.add_assoc]
    obtain ⟨f, hf⟩ := Deep.choose_lt key
    refine ⟨_, (List.range len).map f, rfl, .inr ⟨b, o, cap, by simp, ?_, fun i hi => ?_⟩⟩
    · have : maxLen ≤ 9223372036854775807 := by decide
      simp; omega
    · simp at hi; simpa using hf i hi

instance : Inhabited E := ⟨.mk 0 0 0 []⟩
instance : Inhabited CellD := ⟨⟨⟨#[]⟩, 0, 0, 0, false, 0⟩⟩

theorem len4 {cs : List Value} (h : cs.length = 4) : ∃ a b c d, cs = [a, b, c, d] := by
  match cs, h with
  | [a, b, c, d], _ => exact ⟨a, b, c, d, rfl⟩
theorem len5 {cs : List Value} (h : cs.length = 5) : ∃ a b c d e, cs = [a, b, c, d, e] := by
  match cs, h with
  | [a, b, c, d, e], _ => exact ⟨a, b, c, d, e, rfl⟩
theorem len6 {cs : List Value} (h : cs.length = 6) : ∃ a b c d e f, cs = [a, b, c, d, e, f] := by
  match cs, h with
  | [a, b, c, d, e, f], _ => exact ⟨a, b, c, d, e, f, rfl⟩

/-- The cells of what reads as an expression. -/
theorem open_e : ∀ (fuel : Nat) (cs : List Value) (x : DataW H × List MemPlace), DataW.trod enc Tryz.prog w base spare held fuel 24 cs = some x →
    ∃ (e : E) (kv : Value), cs = [.int .i64 e.op, .int .i64 e.wd, .int .i64 e.n, kv] ∧ Kids w kv e.kids := by
  intro fuel
  induction fuel using Nat.strongRecOn with
  | ind fuel ih =>
    intro cs x h
    obtain ⟨xs, n, rfl, rfl, hl, hlen, hf⟩ := DataW.trod_struct Tryz.underlying24 h
    rw [cellsExpr] at hl
    obtain ⟨v0, v1, v2, v3, rfl⟩ := len4 hl
    have h0 : DataW.trod enc Tryz.prog w base spare held n 3 (List.take (Tryz.prog.cellsOf 3) (List.drop 0 [v0, v1, v2, v3])) = xs[0]? := hf 0 _ rfl
    have h1 : DataW.trod enc Tryz.prog w base spare held n 3 (List.take (Tryz.prog.cellsOf 3) (List.drop 1 [v0, v1, v2, v3])) = xs[1]? := hf 1 _ rfl
    have h2 : DataW.trod enc Tryz.prog w base spare held n 3 (List.take (Tryz.prog.cellsOf 3) (List.drop 2 [v0, v1, v2, v3])) = xs[2]? := hf 2 _ rfl
    have h3 : DataW.trod enc Tryz.prog w base spare held n 22 (List.take (Tryz.prog.cellsOf 22) (List.drop 3 [v0, v1, v2, v3])) = xs[3]? := hf 3 _ rfl
    simp only [cellsInt, cellsKids, List.drop, List.take] at h0 h1 h2 h3
    match xs, (show xs.length = 4 from hlen) with
    | [y0, y1, y2, y3], _ =>
    simp only [List.getElem?_cons_zero, List.getElem?_cons_succ] at h0 h1 h2 h3
    obtain ⟨op, e0, _, _⟩ := DataW.trod_int Tryz.underlying3 h0
    obtain ⟨wd, e1, _, _⟩ := DataW.trod_int Tryz.underlying3 h1
    obtain ⟨nn, e2, _, _⟩ := DataW.trod_int Tryz.underlying3 h2
    obtain ⟨kv, ks, e3, hk⟩ := slice_at (Q := IsE) Tryz.underlying22 cellsExpr (by omega) (fun m hm cs' y b o ht hcl hc => by
      obtain ⟨e, kv, rfl, hk⟩ := ih m (by omega) cs' y ht
      exact ⟨e, IsE.of_cells (hc 0 (by omega)) (hc 1 (by omega)) (hc 2 (by omega)) (hc 3 (by omega)) hk⟩) h3
    simp only [List.cons.injEq, and_true] at e0 e1 e2 e3
    subst e0 e1 e2 e3
    exact ⟨.mk op wd nn ks, _, rfl, hk⟩

theorem open_E {r : Reach} {b0 : Nat} {v : Value} {d : DataW H} {p : List MemPlace} (hv : Value.okWide Tryz.prog w r b0 24 v) (h : DataW.Trod enc Tryz.prog w base spare held 24 v d p) : ∃ e, EVal w v e := by
  obtain ⟨cs, rfl, _⟩ := okWide_struct Tryz.underlying24 hv
  obtain ⟨fuel, hf⟩ := h
  obtain ⟨e, kv, hc, hk⟩ := open_e fuel _ _ hf
  refine ⟨e, kv, ?_, hk⟩
  obtain ⟨l⟩ := cs
  simp only [Value.cells] at hc
  rw [show l = _ from hc]

/-- A value of a type of one cell. -/
theorem one_cell {v u : Value} {r : Reach} {b0 : Nat} {t : TypeId} {e : TypeId} (ht : Tryz.prog.underlying t = some (.slice e)) (hv : Value.okWide Tryz.prog w r b0 t v) (h : v.cells.toList = [u]) : v = u := by
  simp only [Value.okWide, ht, Cell.okWide, Cell.ok] at hv
  split at hv
  all_goals first | (simp [Value.cells] at h; exact h) | exact hv.elim | skip
theorem open_Ints {r : Reach} {b0 : Nat} {v : Value} {d : DataW H} {p : List MemPlace} (hv : Value.okWide Tryz.prog w r b0 38 v) (h : DataW.Trod enc Tryz.prog w base spare held 38 v d p) : ∃ l, Ints w v l := by
  obtain ⟨fuel, hf⟩ := h
  obtain ⟨u, l, hc, hl⟩ := slice_at (Q := IntAt) Tryz.underlying38 cellsInt (by omega) (fun m hm cs' y b o ht hcl hc => by
    obtain ⟨z, rfl, _, _⟩ := DataW.trod_int Tryz.underlying3 ht
    exact ⟨z, hc 0 (by omega)⟩) hf
  rw [one_cell Tryz.underlying38 hv hc]; exact ⟨l, hl⟩
theorem open_Kids {r : Reach} {b0 : Nat} {v : Value} {d : DataW H} {p : List MemPlace} (hv : Value.okWide Tryz.prog w r b0 22 v) (h : DataW.Trod enc Tryz.prog w base spare held 22 v d p) : ∃ l, Kids w v l := by
  obtain ⟨fuel, hf⟩ := h
  obtain ⟨u, l, hc, hl⟩ := slice_at (Q := IsE) Tryz.underlying22 cellsExpr (by omega) (fun m hm cs' y b o ht hcl hc => by
    obtain ⟨e, kv, rfl, hk⟩ := open_e m cs' y ht
    exact ⟨e, IsE.of_cells (hc 0 (by omega)) (hc 1 (by omega)) (hc 2 (by omega)) (hc 3 (by omega)) hk⟩) hf
  rw [one_cell Tryz.underlying22 hv hc]; exact ⟨l, hl⟩
theorem cellsStr : Tryz.prog.cellsOf 9 = 1 := by kernel_rfl
theorem cellsBool : Tryz.prog.cellsOf 4 = 1 := by kernel_rfl
end
end Go.Proofs.YtoopoljchhdobaaGreatDoor
namespace Go.Proofs.YtoopoljchhdobaaGreatDoor
open Go.RowKit

structure LTab (w : World) : Prop where
  c : CTab w
  ws : Words w
  p : PTab w
theorem LTab.ext {w w' : World} (h : LTab w) (he : Ext w w') : LTab w' := ⟨h.c.ext he, h.ws.ext he, h.p.ext he⟩
theorem headL (w : World) (hL : LTab w) : Calls Tryz.prog 4 #[] w fun r w' => r = .returned (.bool true) ∧ Ext w w' := head_any w hL.c hL.ws hL.p
/-- The text of a small certificate. -/
theorem textL27 (x : CertS) (hs : SmallI x) (vx : Value) (w : World) (hx : CertV w vx x) (hL : LTab w) : Calls Tryz.prog 13 #[vx] w fun r w' => r = .returned (.string ⟨(textC x).toArray⟩) ∧ Ext w w' :=
  CText_any x vx w hx hs.few (by have := certText_small hs.len hs.prf; omega) hL.c.pow hL.ws
theorem small_count {x : CertS} (hs : SmallI x) : (textC x).count 10 ≤ 301 := nl_le (by omega) hs.len
theorem made_few {t : List UInt8} (h : t.length ≤ 900000) : Few (readC t) := by
  have hm := read_made t
  exact ⟨by have := hm.id; omega, by have := hm.dig; omega, fun s hs => by have h1 := step_ge _ s hs; have h2 := hm.prf; omega, by have := hm.old; omega, by have := hm.now; omega⟩
/-- The text of a certificate that was read. -/
theorem textR27 (t : List UInt8) (z : CertS) (hz : parseC t = some z) (ht : t.length ≤ 900000) (v : Value) (w : World) (hv : CertV w v z) (hL : LTab w) : Calls Tryz.prog 13 #[v] w fun r w' => r = .returned (.string ⟨t.toArray⟩) ∧ Ext w w' := by
  obtain ⟨h1, h2, h3⟩ := parse_some hz
  have := CText_any z v w hv (by rw [h3]; exact made_few ht) (by rw [h1]; omega) hL.c.pow hL.ws
  rw [h1] at this; exact this
theorem cert0_val (w : World) : CertV w (.agg #[.string ⟨#[]⟩, .string ⟨#[]⟩, .int .i64 0, .slice none 0 0, .slice none 0 0, .slice none 0 0]) cert0 := ⟨none, 0, none, 0, none, 0, rfl, nil_steps _, nil_ints _, nil_ints _⟩
open Go.RowKit Go.WideShapes Go.ChangeShapes
set_option maxRecDepth 100000

section
variable {H : Type} {enc : TypeId × Value → H} {w : World} {base : Nat} {spare : Nat → Bool} {held : Bool}

theorem cellsInts : Tryz.prog.cellsOf 38 = 1 := by kernel_rfl
theorem cellsLearn : Tryz.prog.cellsOf 47 = 2 := by kernel_rfl
theorem cellsLearns : Tryz.prog.cellsOf 39 = 1 := by kernel_rfl
theorem cellsCert : Tryz.prog.cellsOf 41 = 6 := by kernel_rfl
theorem cellsCond : Tryz.prog.cellsOf 26 = 14 := by kernel_rfl
theorem len2 {cs : List Value} (h : cs.length = 2) : ∃ a b, cs = [a, b] := by
  match cs, h with
  | [a, b], _ => exact ⟨a, b, rfl⟩
theorem len14 {cs : List Value} (h : cs.length = 14) : ∃ a b c d e f g h i j k l m n, cs = [a, b, c, d, e, f, g, h, i, j, k, l, m, n] := by
  match cs, h with
  | [a, b, c, d, e, f, g, h, i, j, k, l, m, n], _ => exact ⟨a, b, c, d, e, f, g, h, i, j, k, l, m, n, rfl⟩
theorem bytes_list (s : ByteArray) : s = ⟨s.data.toList.toArray⟩ := by cases s with | mk d => rw [Array.toArray_toList]
theorem open_ints0 {n : Nat} {v : Value} {y : DataW H × List MemPlace} (h : DataW.trod enc Tryz.prog w base spare held n 38 [v] = some y) : ∃ l, Ints w v l := by
  obtain ⟨u, l, hc, hl⟩ := slice_at (Q := fun w b o z => IntAt w b o z) Tryz.underlying38 cellsInt (by omega) (fun m hm cs' y b o ht hcl hc => by
    obtain ⟨z, rfl, _, hw⟩ := DataW.trod_int Tryz.underlying3 ht
    exact ⟨z, hc 0 (by omega)⟩) h
  cases hc; exact ⟨l, hl⟩
instance : Inhabited St := ⟨⟨[], []⟩⟩
theorem open_steps0 {n : Nat} {v : Value} {y : DataW H × List MemPlace} (h : DataW.trod enc Tryz.prog w base spare held n 39 [v] = some y) : ∃ l, Steps w v l := by
  obtain ⟨u, l, hc, hl⟩ := slice_at (Q := fun w b o s => StAt w b o s) Tryz.underlying39 cellsLearn (by omega) (fun m hm cs' y b o ht hcl hc => by
    obtain ⟨xs, n, rfl, rfl, hl, hlen, hg⟩ := DataW.trod_struct Tryz.underlying47 ht
    obtain ⟨v0, v1, rfl⟩ := len2 hcl
    have h0 : DataW.trod enc Tryz.prog w base spare held n 38 (List.take (Tryz.prog.cellsOf 38) (List.drop 0 [v0, v1])) = xs[0]? := hg 0 _ rfl
    have h1 : DataW.trod enc Tryz.prog w base spare held n 38 (List.take (Tryz.prog.cellsOf 38) (List.drop 1 [v0, v1])) = xs[1]? := hg 1 _ rfl
    simp only [cellsInts, List.drop, List.take] at h0 h1
    match xs, (show xs.length = 2 from hlen) with
    | [y0, y1], _ =>
    simp only [List.getElem?_cons_zero, List.getElem?_cons_succ] at h0 h1
    obtain ⟨l0, g0⟩ := open_ints0 h0
    obtain ⟨l1, g1⟩ := open_ints0 h1
    exact ⟨⟨l0, l1⟩, v0, v1, hc 0 (by omega), hc 1 (by omega), g0, g1⟩) h
  cases hc; exact ⟨l, hl⟩
theorem open_Cert {r : Reach} {b0 : Nat} {v : Value} {d : DataW H} {p : List MemPlace} (hv : Value.okWide Tryz.prog w r b0 41 v) (h : DataW.Trod enc Tryz.prog w base spare held 41 v d p) : ∃ x, CertV w v x := by
  obtain ⟨cs, rfl, _⟩ := okWide_struct Tryz.underlying41 hv
  obtain ⟨fuel, hf⟩ := h
  obtain ⟨xs, n, rfl, _, hl, hlen, hg⟩ := DataW.trod_struct Tryz.underlying41 hf
  rw [cellsCert] at hl
  obtain ⟨l⟩ := cs
  obtain ⟨v0, v1, v2, v3, v4, v5, hl3⟩ := len6 (show l.length = 6 from hl)
  subst hl3
  have h0 : DataW.trod enc Tryz.prog w base spare held n 9 (List.take (Tryz.prog.cellsOf 9) (List.drop 0 [v0, v1, v2, v3, v4, v5])) = xs[0]? := hg 0 _ rfl
  have h1 : DataW.trod enc Tryz.prog w base spare held n 9 (List.take (Tryz.prog.cellsOf 9) (List.drop 1 [v0, v1, v2, v3, v4, v5])) = xs[1]? := hg 1 _ rfl
  have h2 : DataW.trod enc Tryz.prog w base spare held n 3 (List.take (Tryz.prog.cellsOf 3) (List.drop 2 [v0, v1, v2, v3, v4, v5])) = xs[2]? := hg 2 _ rfl
  have h3 : DataW.trod enc Tryz.prog w base spare held n 39 (List.take (Tryz.prog.cellsOf 39) (List.drop 3 [v0, v1, v2, v3, v4, v5])) = xs[3]? := hg 3 _ rfl
  have h4 : DataW.trod enc Tryz.prog w base spare held n 38 (List.take (Tryz.prog.cellsOf 38) (List.drop 4 [v0, v1, v2, v3, v4, v5])) = xs[4]? := hg 4 _ rfl
  have h5 : DataW.trod enc Tryz.prog w base spare held n 38 (List.take (Tryz.prog.cellsOf 38) (List.drop 5 [v0, v1, v2, v3, v4, v5])) = xs[5]? := hg 5 _ rfl
  simp only [cellsStr, cellsInt, cellsInts, cellsLearns, List.drop, List.take] at h0 h1 h2 h3 h4 h5
  match xs, (show xs.length = 6 from hlen) with
  | [y0, y1, y2, y3, y4, y5], _ =>
  simp only [List.getElem?_cons_zero, List.getElem?_cons_succ] at h0 h1 h2 h3 h4 h5
  obtain ⟨z0, e0, _⟩ := DataW.trod_string Tryz.underlying9 h0
  obtain ⟨z1, e1, _⟩ := DataW.trod_string Tryz.underlying9 h1
  obtain ⟨z2, e2, _⟩ := DataW.trod_int Tryz.underlying3 h2
  simp only [List.cons.injEq, and_true] at e0 e1 e2
  subst e0 e1 e2
  obtain ⟨l3, g3⟩ := open_steps0 h3
  obtain ⟨l4, g4⟩ := open_ints0 h4
  obtain ⟨l5, g5⟩ := open_ints0 h5
  obtain ⟨pa, pc, rfl⟩ := SliceAt.shape g3
  obtain ⟨oa, oc, rfl⟩ := g4.shape
  obtain ⟨na, nc, rfl⟩ := g5.shape
  refine ⟨⟨z0.data.toList, z1.data.toList, z2, l3, l4, l5⟩, pa, pc, oa, oc, na, nc, ?_, g3, g4, g5⟩
  simp only [certCells, ← bytes_list]
theorem open_Cond {r : Reach} {b0 : Nat} {v : Value} {d : DataW H} {p : List MemPlace} (hv : Value.okWide Tryz.prog w r b0 26 v) (h : DataW.Trod enc Tryz.prog w base spare held 26 v d p) : ∃ c, CondV w v c := by
  obtain ⟨cs, rfl, _⟩ := okWide_struct Tryz.underlying26 hv
  obtain ⟨fuel, hf⟩ := h
  obtain ⟨xs, n, rfl, _, hl, hlen, hg⟩ := DataW.trod_struct Tryz.underlying26 hf
  rw [cellsCond] at hl
  obtain ⟨l⟩ := cs
  obtain ⟨v0, v1, v2, v3, v4, v5, v6, v7, v8, v9, va, vb, vc, vd, hl3⟩ := len14 (show l.length = 14 from hl)
  subst hl3
  have h0 : DataW.trod enc Tryz.prog w base spare held n 9 (List.take (Tryz.prog.cellsOf 9) (List.drop 0 [v0, v1, v2, v3, v4, v5, v6, v7, v8, v9, va, vb, vc, vd])) = xs[0]? := hg 0 _ rfl
  have h1 : DataW.trod enc Tryz.prog w base spare held n 3 (List.take (Tryz.prog.cellsOf 3) (List.drop 1 [v0, v1, v2, v3, v4, v5, v6, v7, v8, v9, va, vb, vc, vd])) = xs[1]? := hg 1 _ rfl
  have h2 : DataW.trod enc Tryz.prog w base spare held n 3 (List.take (Tryz.prog.cellsOf 3) (List.drop 2 [v0, v1, v2, v3, v4, v5, v6, v7, v8, v9, va, vb, vc, vd])) = xs[2]? := hg 2 _ rfl
  have h3 : DataW.trod enc Tryz.prog w base spare held n 3 (List.take (Tryz.prog.cellsOf 3) (List.drop 3 [v0, v1, v2, v3, v4, v5, v6, v7, v8, v9, va, vb, vc, vd])) = xs[3]? := hg 3 _ rfl
  have h4 : DataW.trod enc Tryz.prog w base spare held n 3 (List.take (Tryz.prog.cellsOf 3) (List.drop 4 [v0, v1, v2, v3, v4, v5, v6, v7, v8, v9, va, vb, vc, vd])) = xs[4]? := hg 4 _ rfl
  have h5 : DataW.trod enc Tryz.prog w base spare held n 3 (List.take (Tryz.prog.cellsOf 3) (List.drop 5 [v0, v1, v2, v3, v4, v5, v6, v7, v8, v9, va, vb, vc, vd])) = xs[5]? := hg 5 _ rfl
  have h6 : DataW.trod enc Tryz.prog w base spare held n 24 (List.take (Tryz.prog.cellsOf 24) (List.drop 6 [v0, v1, v2, v3, v4, v5, v6, v7, v8, v9, va, vb, vc, vd])) = xs[6]? := hg 6 _ rfl
  have h7 : DataW.trod enc Tryz.prog w base spare held n 24 (List.take (Tryz.prog.cellsOf 24) (List.drop 10 [v0, v1, v2, v3, v4, v5, v6, v7, v8, v9, va, vb, vc, vd])) = xs[7]? := hg 7 _ rfl
  simp only [cellsStr, cellsInt, cellsExpr, List.drop, List.take] at h0 h1 h2 h3 h4 h5 h6 h7
  match xs, (show xs.length = 8 from hlen) with
  | [y0, y1, y2, y3, y4, y5, y6, y7], _ =>
  simp only [List.getElem?_cons_zero, List.getElem?_cons_succ] at h0 h1 h2 h3 h4 h5 h6 h7
  obtain ⟨z0, e0, _⟩ := DataW.trod_string Tryz.underlying9 h0
  obtain ⟨z1, e1, _⟩ := DataW.trod_int Tryz.underlying3 h1
  obtain ⟨z2, e2, _⟩ := DataW.trod_int Tryz.underlying3 h2
  obtain ⟨z3, e3, _⟩ := DataW.trod_int Tryz.underlying3 h3
  obtain ⟨z4, e4, _⟩ := DataW.trod_int Tryz.underlying3 h4
  obtain ⟨z5, e5, _⟩ := DataW.trod_int Tryz.underlying3 h5
  simp only [List.cons.injEq, and_true] at e0 e1 e2 e3 e4 e5
  subst e0 e1 e2 e3 e4 e5
  obtain ⟨f, kf, e6, g6⟩ := open_e _ _ _ h6
  obtain ⟨g, kg, e7, g7⟩ := open_e _ _ _ h7
  simp only [List.cons.injEq, and_true] at e6 e7
  obtain ⟨rfl, rfl, rfl, rfl⟩ := e6
  obtain ⟨rfl, rfl, rfl, rfl⟩ := e7
  obtain ⟨ha, hc, rfl⟩ := SliceAt.shape g6
  obtain ⟨ga, gc, rfl⟩ := SliceAt.shape g7
  refine ⟨⟨z0.data.toList, z1, z2, z3, z4, z5, f, g⟩, ha, _, hc, ga, _, gc, ?_, ⟨_, rfl, g6⟩, ⟨_, rfl, g7⟩⟩
  simp only [condCells, ← bytes_list]
end
end Go.Proofs.YtoopoljchhdobaaGreatDoor
