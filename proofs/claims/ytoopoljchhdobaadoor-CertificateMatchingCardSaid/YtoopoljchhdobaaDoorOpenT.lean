/-
  The tables of law27; small certificates.
  Certificates and conditions among the arguments, opened.
-/
import Derived.Test.YtoopoljchhdobaaDoorHc
import Derived.Test.YtoopoljchhdobaaDoorOpen
import Derived.OpenShut
namespace Go.Proofs.YtoopoljchhdobaaDoor
open Go.RowKit

structure LTab (w : World) : Prop where
  c : CTab w
  ws : Words w
  p : PTab w
theorem LTab.ext {w w' : World} (h : LTab w) (he : Ext w w') : LTab w' := ⟨h.c.ext he, h.ws.ext he, h.p.ext he⟩
theorem headL (w : World) (hL : LTab w) : Calls Tryd.prog 7 #[] w fun r w' => r = .returned (.bool true) ∧ Ext w w' := head_any w hL.c hL.ws hL.p
/-- The text of a small certificate. -/
theorem textL27 (x : CertS) (hs : SmallI x) (vx : Value) (w : World) (hx : CertV w vx x) (hL : LTab w) : Calls Tryd.prog 9 #[vx] w fun r w' => r = .returned (.string ⟨(textC x).toArray⟩) ∧ Ext w w' :=
  CText_any x vx w hx hs.few (by have := certText_small hs.len hs.prf; omega) hL.c.pow hL.ws
theorem small_count {x : CertS} (hs : SmallI x) : (textC x).count 10 ≤ 301 := nl_le (by omega) hs.len
theorem made_few {t : List UInt8} (h : t.length ≤ 900000) : Few (readC t) := by
  have hm := read_made t
  exact ⟨by have := hm.id; omega, by have := hm.dig; omega, fun s hs => by have h1 := step_ge _ s hs; have h2 := hm.prf; omega, by have := hm.old; omega, by have := hm.now; omega⟩
/-- The text of a certificate that was read. -/
theorem textR27 (t : List UInt8) (z : CertS) (hz : parseC t = some z) (ht : t.length ≤ 900000) (v : Value) (w : World) (hv : CertV w v z) (hL : LTab w) : Calls Tryd.prog 9 #[v] w fun r w' => r = .returned (.string ⟨t.toArray⟩) ∧ Ext w w' := by
  obtain ⟨h1, h2, h3⟩ := parse_some hz
  have := CText_any z v w hv (by rw [h3]; exact made_few ht) (by rw [h1]; omega) hL.c.pow hL.ws
  rw [h1] at this; exact this
theorem cert0_val (w : World) : CertV w (.agg #[.string ⟨#[]⟩, .string ⟨#[]⟩, .int .i64 0, .slice none 0 0, .slice none 0 0, .slice none 0 0]) cert0 := ⟨none, 0, none, 0, none, 0, rfl, nil_steps _, nil_ints _, nil_ints _⟩
open Go.RowKit Go.WideShapes Go.ChangeShapes
set_option maxRecDepth 100000

section
variable {H : Type} {enc : TypeId × Value → H} {w : World} {base : Nat} {spare : Nat → Bool} {held : Bool}

theorem cellsInts : Tryd.prog.cellsOf 23 = 1 := by kernel_rfl
theorem cellsLearn : Tryd.prog.cellsOf 54 = 2 := by kernel_rfl
theorem cellsLearns : Tryd.prog.cellsOf 22 = 1 := by kernel_rfl
theorem cellsCert : Tryd.prog.cellsOf 25 = 6 := by kernel_rfl
theorem cellsCond : Tryd.prog.cellsOf 45 = 14 := by kernel_rfl
theorem len2 {cs : List Value} (h : cs.length = 2) : ∃ a b, cs = [a, b] := by
  match cs, h with
  | [a, b], _ => exact ⟨a, b, rfl⟩
theorem len14 {cs : List Value} (h : cs.length = 14) : ∃ a b c d e f g h i j k l m n, cs = [a, b, c, d, e, f, g, h, i, j, k, l, m, n] := by
  match cs, h with
  | [a, b, c, d, e, f, g, h, i, j, k, l, m, n], _ => exact ⟨a, b, c, d, e, f, g, h, i, j, k, l, m, n, rfl⟩
theorem bytes_list (s : ByteArray) : s = ⟨s.data.toList.toArray⟩ := by cases s with | mk d => rw [Array.toArray_toList]
theorem open_ints0 {n : Nat} {v : Value} {y : DataW H × List MemPlace} (h : DataW.trod enc Tryd.prog w base spare held n 23 [v] = some y) : ∃ l, Ints w v l := by
  obtain ⟨u, l, hc, hl⟩ := slice_at (Q := fun w b o z => IntAt w b o z) Tryd.underlying23 cellsInt (by omega) (fun m hm cs' y b o ht hcl hc => by
    obtain ⟨z, rfl, _, hw⟩ := DataW.trod_int Tryd.underlying3 ht
    exact ⟨z, hc 0 (by omega)⟩) h
  cases hc; exact ⟨l, hl⟩
instance : Inhabited St := ⟨⟨[], []⟩⟩
theorem open_steps0 {n : Nat} {v : Value} {y : DataW H × List MemPlace} (h : DataW.trod enc Tryd.prog w base spare held n 22 [v] = some y) : ∃ l, Steps w v l := by
  obtain ⟨u, l, hc, hl⟩ := slice_at (Q := fun w b o s => StAt w b o s) Tryd.underlying22 cellsLearn (by omega) (fun m hm cs' y b o ht hcl hc => by
    obtain ⟨xs, n, rfl, rfl, hl, hlen, hg⟩ := DataW.trod_struct Tryd.underlying54 ht
    obtain ⟨v0, v1, rfl⟩ := len2 hcl
    have h0 : DataW.trod enc Tryd.prog w base spare held n 23 (List.take (Tryd.prog.cellsOf 23) (List.drop 0 [v0, v1])) = xs[0]? := hg 0 _ rfl
    have h1 : DataW.trod enc Tryd.prog w base spare held n 23 (List.take (Tryd.prog.cellsOf 23) (List.drop 1 [v0, v1])) = xs[1]? := hg 1 _ rfl
    simp only [cellsInts, List.drop, List.take] at h0 h1
    match xs, (show xs.length = 2 from hlen) with
    | [y0, y1], _ =>
    simp only [List.getElem?_cons_zero, List.getElem?_cons_succ] at h0 h1
    obtain ⟨l0, g0⟩ := open_ints0 h0
    obtain ⟨l1, g1⟩ := open_ints0 h1
    exact ⟨⟨l0, l1⟩, v0, v1, hc 0 (by omega), hc 1 (by omega), g0, g1⟩) h
  cases hc; exact ⟨l, hl⟩
theorem open_Cert {r : Reach} {b0 : Nat} {v : Value} {d : DataW H} {p : List MemPlace} (hv : Value.okWide Tryd.prog w r b0 25 v) (h : DataW.Trod enc Tryd.prog w base spare held 25 v d p) : ∃ x, CertV w v x := by
  obtain ⟨cs, rfl, _⟩ := okWide_struct Tryd.underlying25 hv
  obtain ⟨fuel, hf⟩ := h
  obtain ⟨xs, n, rfl, _, hl, hlen, hg⟩ := DataW.trod_struct Tryd.underlying25 hf
  rw [cellsCert] at hl
  obtain ⟨l⟩ := cs
  obtain ⟨v0, v1, v2, v3, v4, v5, hl3⟩ := len6 (show l.length = 6 from hl)
  subst hl3
  have h0 : DataW.trod enc Tryd.prog w base spare held n 9 (List.take (Tryd.prog.cellsOf 9) (List.drop 0 [v0, v1, v2, v3, v4, v5])) = xs[0]? := hg 0 _ rfl
  have h1 : DataW.trod enc Tryd.prog w base spare held n 9 (List.take (Tryd.prog.cellsOf 9) (List.drop 1 [v0, v1, v2, v3, v4, v5])) = xs[1]? := hg 1 _ rfl
  have h2 : DataW.trod enc Tryd.prog w base spare held n 3 (List.take (Tryd.prog.cellsOf 3) (List.drop 2 [v0, v1, v2, v3, v4, v5])) = xs[2]? := hg 2 _ rfl
  have h3 : DataW.trod enc Tryd.prog w base spare held n 22 (List.take (Tryd.prog.cellsOf 22) (List.drop 3 [v0, v1, v2, v3, v4, v5])) = xs[3]? := hg 3 _ rfl
  have h4 : DataW.trod enc Tryd.prog w base spare held n 23 (List.take (Tryd.prog.cellsOf 23) (List.drop 4 [v0, v1, v2, v3, v4, v5])) = xs[4]? := hg 4 _ rfl
  have h5 : DataW.trod enc Tryd.prog w base spare held n 23 (List.take (Tryd.prog.cellsOf 23) (List.drop 5 [v0, v1, v2, v3, v4, v5])) = xs[5]? := hg 5 _ rfl
  simp only [cellsStr, cellsInt, cellsInts, cellsLearns, List.drop, List.take] at h0 h1 h2 h3 h4 h5
  match xs, (show xs.length = 6 from hlen) with
  | [y0, y1, y2, y3, y4, y5], _ =>
  simp only [List.getElem?_cons_zero, List.getElem?_cons_succ] at h0 h1 h2 h3 h4 h5
  obtain ⟨z0, e0, _⟩ := DataW.trod_string Tryd.underlying9 h0
  obtain ⟨z1, e1, _⟩ := DataW.trod_string Tryd.underlying9 h1
  obtain ⟨z2, e2, _⟩ := DataW.trod_int Tryd.underlying3 h2
  simp only [List.cons.injEq, and_true] at e0 e1 e2
  subst e0 e1 e2
  obtain ⟨l3, g3⟩ := open_steps0 h3
  obtain ⟨l4, g4⟩ := open_ints0 h4
  obtain ⟨l5, g5⟩ := open_ints0 h5
  obtain ⟨pa, pc, rfl⟩ := SliceAt.shape g3
  obtain ⟨oa, oc, rfl⟩ := g4.shape
  obtain ⟨na, nc, rfl⟩ := g5.shape
  refine ⟨⟨z0.data.toList, z1.data.toList, z2, l3, l4, l5⟩, pa, pc, oa, oc, na, nc, ?_, g3, g4, g5⟩
  simp only [certCells, ← bytes_list]
theorem open_Cond {r : Reach} {b0 : Nat} {v : Value} {d : DataW H} {p : List MemPlace} (hv : Value.okWide Tryd.prog w r b0 45 v) (h : DataW.Trod enc Tryd.prog w base spare held 45 v d p) : ∃ c, CondV w v c := by
  obtain ⟨cs, rfl, _⟩ := okWide_struct Tryd.underlying45 hv
  obtain ⟨fuel, hf⟩ := h
  obtain ⟨xs, n, rfl, _, hl, hlen, hg⟩ := DataW.trod_struct Tryd.underlying45 hf
  rw [cellsCond] at hl
  obtain ⟨l⟩ := cs
  obtain ⟨v0, v1, v2, v3, v4, v5, v6, v7, v8, v9, va, vb, vc, vd, hl3⟩ := len14 (show l.length = 14 from hl)
  subst hl3
  have h0 : DataW.trod enc Tryd.prog w base spare held n 9 (List.take (Tryd.prog.cellsOf 9) (List.drop 0 [v0, v1, v2, v3, v4, v5, v6, v7, v8, v9, va, vb, vc, vd])) = xs[0]? := hg 0 _ rfl
  have h1 : DataW.trod enc Tryd.prog w base spare held n 3 (List.take (Tryd.prog.cellsOf 3) (List.drop 1 [v0, v1, v2, v3, v4, v5, v6, v7, v8, v9, va, vb, vc, vd])) = xs[1]? := hg 1 _ rfl
  have h2 : DataW.trod enc Tryd.prog w base spare held n 3 (List.take (Tryd.prog.cellsOf 3) (List.drop 2 [v0, v1, v2, v3, v4, v5, v6, v7, v8, v9, va, vb, vc, vd])) = xs[2]? := hg 2 _ rfl
  have h3 : DataW.trod enc Tryd.prog w base spare held n 3 (List.take (Tryd.prog.cellsOf 3) (List.drop 3 [v0, v1, v2, v3, v4, v5, v6, v7, v8, v9, va, vb, vc, vd])) = xs[3]? := hg 3 _ rfl
  have h4 : DataW.trod enc Tryd.prog w base spare held n 3 (List.take (Tryd.prog.cellsOf 3) (List.drop 4 [v0, v1, v2, v3, v4, v5, v6, v7, v8, v9, va, vb, vc, vd])) = xs[4]? := hg 4 _ rfl
  have h5 : DataW.trod enc Tryd.prog w base spare held n 3 (List.take (Tryd.prog.cellsOf 3) (List.drop 5 [v0, v1, v2, v3, v4, v5, v6, v7, v8, v9, va, vb, vc, vd])) = xs[5]? := hg 5 _ rfl
  have h6 : DataW.trod enc Tryd.prog w base spare held n 43 (List.take (Tryd.prog.cellsOf 43) (List.drop 6 [v0, v1, v2, v3, v4, v5, v6, v7, v8, v9, va, vb, vc, vd])) = xs[6]? := hg 6 _ rfl
  have h7 : DataW.trod enc Tryd.prog w base spare held n 43 (List.take (Tryd.prog.cellsOf 43) (List.drop 10 [v0, v1, v2, v3, v4, v5, v6, v7, v8, v9, va, vb, vc, vd])) = xs[7]? := hg 7 _ rfl
  simp only [cellsStr, cellsInt, cellsExpr, List.drop, List.take] at h0 h1 h2 h3 h4 h5 h6 h7
  match xs, (show xs.length = 8 from hlen) with
  | [y0, y1, y2, y3, y4, y5, y6, y7], _ =>
  simp only [List.getElem?_cons_zero, List.getElem?_cons_succ] at h0 h1 h2 h3 h4 h5 h6 h7
  obtain ⟨z0, e0, _⟩ := DataW.trod_string Tryd.underlying9 h0
  obtain ⟨z1, e1, _⟩ := DataW.trod_int Tryd.underlying3 h1
  obtain ⟨z2, e2, _⟩ := DataW.trod_int Tryd.underlying3 h2
  obtain ⟨z3, e3, _⟩ := DataW.trod_int Tryd.underlying3 h3
  obtain ⟨z4, e4, _⟩ := DataW.trod_int Tryd.underlying3 h4
  obtain ⟨z5, e5, _⟩ := DataW.trod_int Tryd.underlying3 h5
  simp only [List.cons.injEq, and_true] at e0 e1 e2 e3 e4 e5
  subst e0 e1 e2 e3 e4 e5
  obtain ⟨f, kf, e6, g6⟩ := open_e _ _ _ h6
  obtain ⟨g, kg, e7, g7⟩ := open_e _ _ _ h7
  simp only [List.cons.injEq, and_true] at e6 e7
  obtain ⟨rfl, rfl, rfl, rfl⟩ := e6
  obtain ⟨rfl, rfl, rfl, rfl⟩ := e7
  obtain ⟨ha, hc, rfl⟩ := SliceAt.shape g6
  obtain ⟨ga, gc, rfl⟩ := SliceAt.shape g7
  refine ⟨⟨z0.data.toList, z1, z2, z3, z4, z5, f, g⟩, ha, _, hc, ga, _, gc, ?_, ⟨_, rfl, g6⟩, ⟨_, rfl, g7⟩⟩
  simp only [condCells, ← bytes_list]
end
end Go.Proofs.YtoopoljchhdobaaDoor
