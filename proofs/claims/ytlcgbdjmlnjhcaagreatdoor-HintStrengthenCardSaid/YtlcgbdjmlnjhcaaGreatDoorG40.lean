/-
  A condition among the arguments, opened.
-/
import Derived.Test.YtlcgbdjmlnjhcaaGreatDoorG21
import Derived.Test.YtlcgbdjmlnjhcaaGreatDoorG39
import Derived.OpenShut
namespace Go.Proofs.YtlcgbdjmlnjhcaaGreatDoor
open Go.RowKit Go.WideShapes Go.ChangeShapes
set_option maxRecDepth 100000

section
variable {H : Type} {enc : TypeId × Value → H} {w : World} {base : Nat} {spare : Nat → Bool} {held : Bool}
theorem cellsCond : Tryz.prog.cellsOf 27 = 14 := by kernel_rfl
theorem len14 {cs : List Value} (h : cs.length = 14) : ∃ a b c d e f g h i j k l m n, cs = [a, b, c, d, e, f, g, h, i, j, k, l, m, n] := by
  match cs, h with
  | [a, b, c, d, e, f, g, h, i, j, k, l, m, n], _ => exact ⟨a, b, c, d, e, f, g, h, i, j, k, l, m, n, rfl⟩
theorem bytes_list (s : ByteArray) : s = ⟨s.data.toList.toArray⟩ := by cases s with | mk d => rw [Array.toArray_toList]
theorem open_Cond {r : Reach} {b0 : Nat} {v : Value} {d : DataW H} {p : List MemPlace} (hv : Value.okWide Tryz.prog w r b0 27 v) (h : DataW.Trod enc Tryz.prog w base spare held 27 v d p) : ∃ c, CondV w v c := by
  obtain ⟨cs, rfl, _⟩ := okWide_struct Tryz.underlying27 hv
  obtain ⟨fuel, hf⟩ := h
  obtain ⟨xs, n, rfl, _, hl, hlen, hg⟩ := DataW.trod_struct Tryz.underlying27 hf
  rw [cellsCond] at hl
  obtain ⟨l⟩ := cs
  obtain ⟨v0, v1, v2, v3, v4, v5, v6, v7, v8, v9, va, vb, vc, vd, hl3⟩ := len14 (show l.length = 14 from hl)
  subst hl3
  have h0 : DataW.trod enc Tryz.prog w base spare held n 9 (List.take (Tryz.prog.cellsOf 9) (List.drop 0 [v0, v1, v2, v3, v4, v5, v6, v7, v8, v9, va, vb, vc, vd])) = xs[0]? := hg 0 _ rfl
  have h1 : DataW.trod enc Tryz.prog w base spare held n 3 (List.take (Tryz.prog.cellsOf 3) (List.drop 1 [v0, v1, v2, v3, v4, v5, v6, v7, v8, v9, va, vb, vc, vd])) = xs[1]? := hg 1 _ rfl
  have h2 : DataW.trod enc Tryz.prog w base spare held n 3 (List.take (Tryz.prog.cellsOf 3) (List.drop 2 [v0, v1, v2, v3, v4, v5, v6, v7, v8, v9, va, vb, vc, vd])) = xs[2]? := hg 2 _ rfl
  have h3 : DataW.trod enc Tryz.prog w base spare held n 3 (List.take (Tryz.prog.cellsOf 3) (List.drop 3 [v0, v1, v2, v3, v4, v5, v6, v7, v8, v9, va, vb, vc, vd])) = xs[3]? := hg 3 _ rfl
  have h4 : DataW.trod enc Tryz.prog w base spare held n 3 (List.take (Tryz.prog.cellsOf 3) (List.drop 4 [v0, v1, v2, v3, v4, v5, v6, v7, v8, v9, va, vb, vc, vd])) = xs[4]? := hg 4 _ rfl
  have h5 : DataW.trod enc Tryz.prog w base spare held n 3 (List.take (Tryz.prog.cellsOf 3) (List.drop 5 [v0, v1, v2, v3, v4, v5, v6, v7, v8, v9, va, vb, vc, vd])) = xs[5]? := hg 5 _ rfl
  have h6 : DataW.trod enc Tryz.prog w base spare held n 25 (List.take (Tryz.prog.cellsOf 25) (List.drop 6 [v0, v1, v2, v3, v4, v5, v6, v7, v8, v9, va, vb, vc, vd])) = xs[6]? := hg 6 _ rfl
  have h7 : DataW.trod enc Tryz.prog w base spare held n 25 (List.take (Tryz.prog.cellsOf 25) (List.drop 10 [v0, v1, v2, v3, v4, v5, v6, v7, v8, v9, va, vb, vc, vd])) = xs[7]? := hg 7 _ rfl
  simp only [cellsStr, cellsInt, cellsExpr, List.drop, List.take] at h0 h1 h2 h3 h4 h5 h6 h7
  match xs, (show xs.length = 8 from hlen) with
  | [y0, y1, y2, y3, y4, y5, y6, y7], _ =>
  simp only [List.getElem?_cons_zero, List.getElem?_cons_succ] at h0 h1 h2 h3 h4 h5 h6 h7
  obtain ⟨z0, e0, _⟩ := DataW.trod_string Tryz.underlying9 h0
  obtain ⟨z1, e1, _⟩ := DataW.trod_int Tryz.underlying3 h1
  obtain ⟨z2, e2, _⟩ := DataW.trod_int Tryz.underlying3 h2
  obtain ⟨z3, e3, _⟩ := DataW.trod_int Tryz.underlying3 h3
  obtain ⟨z4, e4, _⟩ := DataW.trod_int Tryz.underlying3 h4
  obtain ⟨z5, e5, _⟩ := DataW.trod_int Tryz.underlying3 h5
  simp only [List.cons.injEq, and_true] at e0 e1 e2 e3 e4 e5
  subst e0 e1 e2 e3 e4 e5
  obtain ⟨f, kf, e6, g6⟩ := open_e _ _ _ h6
  obtain ⟨g, kg, e7, g7⟩ := open_e _ _ _ h7
  simp only [List.cons.injEq, and_true] at e6 e7
  obtain ⟨rfl, rfl, rfl, rfl⟩ := e6
  obtain ⟨rfl, rfl, rfl, rfl⟩ := e7
  obtain ⟨ha, hc, rfl⟩ := SliceAt.shape g6
  obtain ⟨ga, gc, rfl⟩ := SliceAt.shape g7
  refine ⟨⟨z0.data.toList, z1, z2, z3, z4, z5, f, g⟩, ha, _, hc, ga, _, gc, ?_, ⟨_, rfl, g6⟩, ⟨_, rfl, g7⟩⟩
  simp only [condCells, ← bytes_list]
end
end Go.Proofs.YtlcgbdjmlnjhcaaGreatDoor
