/-
  Small facts for the walks of law15.
  The arguments of a law, opened: what reads as an expression is one, and so on. Behind the call they read as before.
  Relations and sets among the arguments, opened.
-/
import Derived.Test.YtlnahhlddekhoaaGreatDoorG35
import Derived.Test.YtlnahhlddekhoaaGreatDoorG01
import Derived.Test.YtlnahhlddekhoaaGreatDoorRows
import Derived.Lib.SmallJoins
import Derived.Deep.Slices
import Derived.Carry
import Derived.ChangeSame
import Derived.Test.YtlnahhlddekhoaaGreatDoorG16
import Derived.OpenShut
namespace Go.Proofs.YtlnahhlddekhoaaGreatDoor
open Go.RowKit

theorem relv_ws {w : World} {v1 v2 v3 : Value} {cs ws : List Int} {P : List (Int × Int)} (h : RelV w (.agg #[v1, v2, v3]) cs ws P) : Ints w v2 ws := by
  obtain ⟨_, _, _, e, _, h2, _⟩ := h
  cases e; exact h2
theorem relv_cs {w : World} {v1 v2 v3 : Value} {cs ws : List Int} {P : List (Int × Int)} (h : RelV w (.agg #[v1, v2, v3]) cs ws P) : Ints w v1 cs := by
  obtain ⟨_, _, _, e, h2, _, _⟩ := h
  cases e; exact h2
theorem setv_ws {w : World} {v1 v2 v3 : Value} {cs ws is : List Int} (h : SetV w (.agg #[v1, v2, v3]) cs ws is) : Ints w v2 ws := by
  obtain ⟨_, _, _, e, _, h2, _⟩ := h
  cases e; exact h2
theorem len_third {n : Int} {a b c : Nat} (h : lenB n a b c = true) : (c : Int) ≤ n := by
  unfold lenB at h
  simp only [Bool.and_eq_true, decide_eq_true_eq] at h
  exact h.2
theorem castL_length (l : List Nat) : (castL l).length = l.length := by simp [castL]
/-- Inside, the result in new memory. -/
theorem Inside_own {cs ws : List Int} {P : List (Nat × Nat)} {S : List Nat} (h : ValidR cs ws P) (s : ValidS cs ws S) (va vs : Value) (w : World) (ha : RelV w va cs ws (castP P)) (hs : SetV w vs cs ws (castL S)) (hT : DeB w) :
    Calls Tryz.prog 21 #[va, vs] w fun r w' => ∃ a1 l1 c1 a2 l2 c2 a3 l3 c3, r = .returned (.tuple #[.agg #[.slice a1 l1 c1, .slice a2 l2 c2, .slice a3 l3 c3], .int .i64 0]) ∧ SetO w' w.heap.size (.agg #[.slice a1 l1 c1, .slice a2 l2 c2, .slice a3 l3 c3]) cs ws (castL (insL P S)) ∧ Ext w w' := by
  refine (Inside_any cs ws (castP P) cs ws (castL S) va vs w ha hs hT).mono fun r w' hr => ?_
  unfold OpPost at hr
  rw [applies_of h s, if_pos rfl, natP_cast, natL_cast] at hr
  obtain ⟨v, rfl, h1, h2⟩ := hr
  obtain ⟨a1, l1, c1, a2, l2, c2, a3, l3, c3, rfl⟩ := h1.setV.shape'
  exact ⟨a1, l1, c1, a2, l2, c2, a3, l3, c3, rfl, h1, h2⟩
end Go.Proofs.YtlnahhlddekhoaaGreatDoor
namespace Go.Proofs.YtlnahhlddekhoaaGreatDoor
open Go.RowKit Go.WideShapes Go.ChangeShapes
set_option maxRecDepth 100000

section
variable {H : Type} {enc : TypeId × Value → H} {w : World} {base : Nat} {spare : Nat → Bool} {held : Bool}

theorem cellsInt : Tryz.prog.cellsOf 3 = 1 := by kernel_rfl
theorem cellsExpr : Tryz.prog.cellsOf 26 = 4 := by kernel_rfl
theorem cellsKids : Tryz.prog.cellsOf 24 = 1 := by kernel_rfl

/-- An address that reads has no spot. -/
theorem spot_none {a : Addr} {n : Nat} {cs : List Value} (h : w.cells? base a n = some cs) (hn : 0 < n) : a.spot = none := by
  obtain ⟨_, hl, hc⟩ := World.cells?_some h
  have h0 := hc 0 hn
  rw [show a.add 0 = a from rfl] at h0
  cases hs : a.spot with
  | none => rfl
  | some k =>
    have : cs[0]? ≠ none := by rw [List.getElem?_eq_getElem (by omega)]; simp
    rw [← h0] at this
    exfalso; apply this
    unfold World.cell?
    split <;> simp [hs]
theorem add_at (b o k : Nat) : (Addr.mk b o none).add k = ⟨b, o + k, none⟩ := by
  unfold Addr.add; split
  · next h => subst h; rfl
  · rfl

/-- A slice that reads, its elements of sz cells. -/
theorem slice_at {α : Type} [Inhabited α] {t e : TypeId} {sz fuel : Nat} {cs : List Value} {x : DataW H × List MemPlace} {Q : World → Nat → Nat → α → Prop} (ht : Tryz.prog.underlying t = some (.slice e)) (hz : Tryz.prog.cellsOf e = sz) (hz0 : 0 < sz)
    (hQ : ∀ (n : Nat), n < fuel → ∀ (cs' : List Value) (y : DataW H × List MemPlace) (b o : Nat), DataW.trod enc Tryz.prog w base spare held n e cs' = some y → cs'.length = sz → (∀ i, i < sz → w.cell? ⟨b, o + i, none⟩ = cs'[i]?) → ∃ a, Q w b o a)
    (h : DataW.trod enc Tryz.prog w base spare held fuel t cs = some x) : ∃ (v : Value) (l : List α), cs = [v] ∧ SliceAt sz Q w v l := by
  rcases DataW.trod_slice ht h with ⟨rfl, _⟩ | ⟨a, len, cap, elems, rest, n, rfl, rfl, rfl, hb, hl, hm, hlen, hel, _, _⟩
  · exact ⟨_, [], rfl, .inl ⟨⟨_, _, rfl⟩, rfl⟩⟩
  · rw [hz] at hel
    rcases Nat.eq_zero_or_pos len with h0 | h0
    · subst h0; exact ⟨_, [], rfl, .inl ⟨⟨_, _, rfl⟩, rfl⟩⟩
    have one : ∀ i, i < len → ∃ cs', w.cells? base (a.add (i * sz)) sz = some cs' ∧ ∃ y, DataW.trod enc Tryz.prog w base spare held n e cs' = some y := fun i hi => by
      have := hel i hi
      rw [List.getElem?_eq_getElem (by omega)] at this
      obtain ⟨cs', h1, h2⟩ := Option.bind_eq_some_iff.1 this
      exact ⟨cs', h1, _, h2⟩
    obtain ⟨cs0, h00, _⟩ := one 0 h0
    rw [Nat.zero_mul] at h00
    have hs := spot_none h00 hz0
    obtain ⟨b, o, sp⟩ := a
    have hs : sp = none := hs
    subst hs
    have key : ∀ i, i < len → ∃ q, Q w b (o + i * sz) q := fun i hi => by
      obtain ⟨cs', h1, y, h2⟩ := one i hi
      obtain ⟨_, hcl, hc⟩ := World.cells?_some h1
      refine hQ n (by omega) cs' y b (o + i * sz) h2 hcl fun j hj => ?_
      rw [← hc j hj, Deep.add_add, add_at, Nat.add_assoc]
    obtain ⟨f, hf⟩ := Deep.choose_lt key
    refine ⟨_, (List.range len).map f, rfl, .inr ⟨b, o, cap, by simp, ?_, fun i hi => ?_⟩⟩
    · have : maxLen ≤ 9223372036854775807 := by decide
      simp; omega
    · simp at hi; simpa using hf i hi

instance : Inhabited E := ⟨.mk 0 0 0 []⟩
instance : Inhabited CellD := ⟨⟨⟨#[]⟩, 0, 0, 0, false, 0⟩⟩

theorem len4 {cs : List Value} (h : cs.length = 4) : ∃ a b c d, cs = [a, b, c, d] := by
  match cs, h with
  | [a, b, c, d], _ => exact ⟨a, b, c, d, rfl⟩
theorem len5 {cs : List Value} (h : cs.length = 5) : ∃ a b c d e, cs = [a, b, c, d, e] := by
  match cs, h with
  | [a, b, c, d, e], _ => exact ⟨a, b, c, d, e, rfl⟩
theorem len6 {cs : List Value} (h : cs.length = 6) : ∃ a b c d e f, cs = [a, b, c, d, e, f] := by
  match cs, h with
  | [a, b, c, d, e, f], _ => exact ⟨a, b, c, d, e, f, rfl⟩

/-- The cells of what reads as an expression. -/
theorem open_e : ∀ (fuel : Nat) (cs : List Value) (x : DataW H × List MemPlace), DataW.trod enc Tryz.prog w base spare held fuel 26 cs = some x →
    ∃ (e : E) (kv : Value), cs = [.int .i64 e.op, .int .i64 e.wd, .int .i64 e.n, kv] ∧ Kids w kv e.kids := by
  intro fuel
  induction fuel using Nat.strongRecOn with
  | ind fuel ih =>
    intro cs x h
    obtain ⟨xs, n, rfl, rfl, hl, hlen, hf⟩ := DataW.trod_struct Tryz.underlying26 h
    rw [cellsExpr] at hl
    obtain ⟨v0, v1, v2, v3, rfl⟩ := len4 hl
    have h0 : DataW.trod enc Tryz.prog w base spare held n 3 (List.take (Tryz.prog.cellsOf 3) (List.drop 0 [v0, v1, v2, v3])) = xs[0]? := hf 0 _ rfl
    have h1 : DataW.trod enc Tryz.prog w base spare held n 3 (List.take (Tryz.prog.cellsOf 3) (List.drop 1 [v0, v1, v2, v3])) = xs[1]? := hf 1 _ rfl
    have h2 : DataW.trod enc Tryz.prog w base spare held n 3 (List.take (Tryz.prog.cellsOf 3) (List.drop 2 [v0, v1, v2, v3])) = xs[2]? := hf 2 _ rfl
    have h3 : DataW.trod enc Tryz.prog w base spare held n 24 (List.take (Tryz.prog.cellsOf 24) (List.drop 3 [v0, v1, v2, v3])) = xs[3]? := hf 3 _ rfl
    simp only [cellsInt, cellsKids, List.drop, List.take] at h0 h1 h2 h3
    match xs, (show xs.length = 4 from hlen) with
    | [y0, y1, y2, y3], _ =>
    simp only [List.getElem?_cons_zero, List.getElem?_cons_succ] at h0 h1 h2 h3
    obtain ⟨op, e0, _, _⟩ := DataW.trod_int Tryz.underlying3 h0
    obtain ⟨wd, e1, _, _⟩ := DataW.trod_int Tryz.underlying3 h1
    obtain ⟨nn, e2, _, _⟩ := DataW.trod_int Tryz.underlying3 h2
    obtain ⟨kv, ks, e3, hk⟩ := slice_at (Q := IsE) Tryz.underlying24 cellsExpr (by omega) (fun m hm cs' y b o ht hcl hc => by
      obtain ⟨e, kv, rfl, hk⟩ := ih m (by omega) cs' y ht
      exact ⟨e, IsE.of_cells (hc 0 (by omega)) (hc 1 (by omega)) (hc 2 (by omega)) (hc 3 (by omega)) hk⟩) h3
    simp only [List.cons.injEq, and_true] at e0 e1 e2 e3
    subst e0 e1 e2 e3
    exact ⟨.mk op wd nn ks, _, rfl, hk⟩

theorem open_E {r : Reach} {b0 : Nat} {v : Value} {d : DataW H} {p : List MemPlace} (hv : Value.okWide Tryz.prog w r b0 26 v) (h : DataW.Trod enc Tryz.prog w base spare held 26 v d p) : ∃ e, EVal w v e := by
  obtain ⟨cs, rfl, _⟩ := okWide_struct Tryz.underlying26 hv
  obtain ⟨fuel, hf⟩ := h
  obtain ⟨e, kv, hc, hk⟩ := open_e fuel _ _ hf
  refine ⟨e, kv, ?_, hk⟩
  obtain ⟨l⟩ := cs
  simp only [Value.cells] at hc
  rw [show l = _ from hc]

/-- A value of a type of one cell. -/
theorem one_cell {v u : Value} {r : Reach} {b0 : Nat} {t : TypeId} {e : TypeId} (ht : Tryz.prog.underlying t = some (.slice e)) (hv : Value.okWide Tryz.prog w r b0 t v) (h : v.cells.toList = [u]) : v = u := by
  simp only [Value.okWide, ht, Cell.okWide, Cell.ok] at hv
  split at hv
  all_goals first | (simp [Value.cells] at h; exact h) | exact hv.elim | skip
theorem open_Ints {r : Reach} {b0 : Nat} {v : Value} {d : DataW H} {p : List MemPlace} (hv : Value.okWide Tryz.prog w r b0 23 v) (h : DataW.Trod enc Tryz.prog w base spare held 23 v d p) : ∃ l, Ints w v l := by
  obtain ⟨fuel, hf⟩ := h
  obtain ⟨u, l, hc, hl⟩ := slice_at (Q := IntAt) Tryz.underlying23 cellsInt (by omega) (fun m hm cs' y b o ht hcl hc => by
    obtain ⟨z, rfl, _, _⟩ := DataW.trod_int Tryz.underlying3 ht
    exact ⟨z, hc 0 (by omega)⟩) hf
  rw [one_cell Tryz.underlying23 hv hc]; exact ⟨l, hl⟩
theorem open_Kids {r : Reach} {b0 : Nat} {v : Value} {d : DataW H} {p : List MemPlace} (hv : Value.okWide Tryz.prog w r b0 24 v) (h : DataW.Trod enc Tryz.prog w base spare held 24 v d p) : ∃ l, Kids w v l := by
  obtain ⟨fuel, hf⟩ := h
  obtain ⟨u, l, hc, hl⟩ := slice_at (Q := IsE) Tryz.underlying24 cellsExpr (by omega) (fun m hm cs' y b o ht hcl hc => by
    obtain ⟨e, kv, rfl, hk⟩ := open_e m cs' y ht
    exact ⟨e, IsE.of_cells (hc 0 (by omega)) (hc 1 (by omega)) (hc 2 (by omega)) (hc 3 (by omega)) hk⟩) hf
  rw [one_cell Tryz.underlying24 hv hc]; exact ⟨l, hl⟩
theorem cellsStr : Tryz.prog.cellsOf 9 = 1 := by kernel_rfl
theorem cellsBool : Tryz.prog.cellsOf 4 = 1 := by kernel_rfl
theorem cellsCell : Tryz.prog.cellsOf 51 = 6 := by kernel_rfl
theorem open_Cells {r : Reach} {b0 : Nat} {v : Value} {d : DataW H} {p : List MemPlace} (hv : Value.okWide Tryz.prog w r b0 22 v) (h : DataW.Trod enc Tryz.prog w base spare held 22 v d p) : ∃ l, Cells w v l := by
  obtain ⟨fuel, hf⟩ := h
  obtain ⟨u, l, hc, hl⟩ := slice_at (Q := CellAt) Tryz.underlying22 cellsCell (by omega) (fun m hm cs' y b o ht hcl hc => by
    obtain ⟨xs, n, rfl, rfl, hl, hlen, hg⟩ := DataW.trod_struct Tryz.underlying51 ht
    obtain ⟨v0, v1, v2, v3, v4, v5, rfl⟩ := len6 hcl
    have h0 : DataW.trod enc Tryz.prog w base spare held n 9 (List.take (Tryz.prog.cellsOf 9) (List.drop 0 [v0, v1, v2, v3, v4, v5])) = xs[0]? := hg 0 _ rfl
    have h1 : DataW.trod enc Tryz.prog w base spare held n 3 (List.take (Tryz.prog.cellsOf 3) (List.drop 1 [v0, v1, v2, v3, v4, v5])) = xs[1]? := hg 1 _ rfl
    have h2 : DataW.trod enc Tryz.prog w base spare held n 3 (List.take (Tryz.prog.cellsOf 3) (List.drop 2 [v0, v1, v2, v3, v4, v5])) = xs[2]? := hg 2 _ rfl
    have h3 : DataW.trod enc Tryz.prog w base spare held n 3 (List.take (Tryz.prog.cellsOf 3) (List.drop 3 [v0, v1, v2, v3, v4, v5])) = xs[3]? := hg 3 _ rfl
    have h4 : DataW.trod enc Tryz.prog w base spare held n 4 (List.take (Tryz.prog.cellsOf 4) (List.drop 4 [v0, v1, v2, v3, v4, v5])) = xs[4]? := hg 4 _ rfl
    have h5 : DataW.trod enc Tryz.prog w base spare held n 3 (List.take (Tryz.prog.cellsOf 3) (List.drop 5 [v0, v1, v2, v3, v4, v5])) = xs[5]? := hg 5 _ rfl
    simp only [cellsInt, cellsStr, cellsBool, List.drop, List.take] at h0 h1 h2 h3 h4 h5
    match xs, (show xs.length = 6 from hlen) with
    | [y0, y1, y2, y3, y4, y5], _ =>
    simp only [List.getElem?_cons_zero, List.getElem?_cons_succ] at h0 h1 h2 h3 h4 h5
    obtain ⟨s, e0, _, _⟩ := DataW.trod_string Tryz.underlying9 h0
    obtain ⟨z1, e1, _, _⟩ := DataW.trod_int Tryz.underlying3 h1
    obtain ⟨z2, e2, _, _⟩ := DataW.trod_int Tryz.underlying3 h2
    obtain ⟨z3, e3, _, _⟩ := DataW.trod_int Tryz.underlying3 h3
    obtain ⟨z4, e4, _⟩ := DataW.trod_bool Tryz.underlying4 h4
    obtain ⟨z5, e5, _, _⟩ := DataW.trod_int Tryz.underlying3 h5
    simp only [List.cons.injEq, and_true] at e0 e1 e2 e3 e4 e5
    subst e0 e1 e2 e3 e4 e5
    exact ⟨⟨s, z1, z2, z3, z4, z5⟩, hc 0 (by omega), hc 1 (by omega), hc 2 (by omega), hc 3 (by omega), hc 4 (by omega), hc 5 (by omega)⟩) hf
  rw [one_cell Tryz.underlying22 hv hc]; exact ⟨l, hl⟩
end
end Go.Proofs.YtlnahhlddekhoaaGreatDoor
namespace Go.Proofs.YtlnahhlddekhoaaGreatDoor
open Go.RowKit Go.WideShapes Go.ChangeShapes
set_option maxRecDepth 100000

section
variable {H : Type} {enc : TypeId × Value → H} {w : World} {base : Nat} {spare : Nat → Bool} {held : Bool}
theorem cellsInts : Tryz.prog.cellsOf 23 = 1 := by kernel_rfl
theorem cellsPair : Tryz.prog.cellsOf 52 = 2 := by kernel_rfl
theorem cellsPairs : Tryz.prog.cellsOf 27 = 1 := by kernel_rfl
theorem cellsSet : Tryz.prog.cellsOf 31 = 3 := by kernel_rfl
theorem cellsRel : Tryz.prog.cellsOf 29 = 3 := by kernel_rfl
theorem len2 {cs : List Value} (h : cs.length = 2) : ∃ a b, cs = [a, b] := by
  match cs, h with
  | [a, b], _ => exact ⟨a, b, rfl⟩
theorem len3 {cs : List Value} (h : cs.length = 3) : ∃ a b c, cs = [a, b, c] := by
  match cs, h with
  | [a, b, c], _ => exact ⟨a, b, c, rfl⟩
theorem open_ints0 {n : Nat} {v : Value} {y : DataW H × List MemPlace} (h : DataW.trod enc Tryz.prog w base spare held n 23 [v] = some y) : ∃ l, Ints w v l := by
  obtain ⟨u, l, hc, hl⟩ := slice_at (Q := IntAt) Tryz.underlying23 cellsInt (by omega) (fun m hm cs' y b o ht hcl hc => by
    obtain ⟨z, rfl, _, _⟩ := DataW.trod_int Tryz.underlying3 ht
    exact ⟨z, hc 0 (by omega)⟩) h
  cases hc; exact ⟨l, hl⟩
theorem open_pairs0 {n : Nat} {v : Value} {y : DataW H × List MemPlace} (h : DataW.trod enc Tryz.prog w base spare held n 27 [v] = some y) : ∃ l, Pairs w v l := by
  obtain ⟨u, l, hc, hl⟩ := slice_at (Q := PairAt) (α := Int × Int) Tryz.underlying27 cellsPair (by omega) (fun m hm cs' y b o ht hcl hc => by
    obtain ⟨xs, k, rfl, rfl, _, hl, hf⟩ := DataW.trod_array Tryz.underlying52 ht
    obtain ⟨v0, v1, rfl⟩ := len2 hcl
    have h0 : DataW.trod enc Tryz.prog w base spare held k 3 ((List.drop (0 * Tryz.prog.cellsOf 3) [v0, v1]).take (Tryz.prog.cellsOf 3)) = xs[0]? := hf 0 (by omega)
    have h1 : DataW.trod enc Tryz.prog w base spare held k 3 ((List.drop (1 * Tryz.prog.cellsOf 3) [v0, v1]).take (Tryz.prog.cellsOf 3)) = xs[1]? := hf 1 (by omega)
    simp only [cellsInt, List.drop, List.take, Nat.zero_mul, Nat.one_mul] at h0 h1
    match xs, hl with
    | [y0, y1], _ =>
    simp only [List.getElem?_cons_zero, List.getElem?_cons_succ] at h0 h1
    obtain ⟨x, e0, _, _⟩ := DataW.trod_int Tryz.underlying3 h0
    obtain ⟨y, e1, _, _⟩ := DataW.trod_int Tryz.underlying3 h1
    simp only [List.cons.injEq, and_true] at e0 e1
    subst e0 e1
    exact ⟨(x, y), hc 0 (by omega), hc 1 (by omega)⟩) h
  cases hc; exact ⟨l, hl⟩
theorem open_Set {r : Reach} {b0 : Nat} {v : Value} {d : DataW H} {p : List MemPlace} (hv : Value.okWide Tryz.prog w r b0 31 v) (h : DataW.Trod enc Tryz.prog w base spare held 31 v d p) : ∃ cs ws is, SetV w v cs ws is := by
  obtain ⟨cs, rfl, _⟩ := okWide_struct Tryz.underlying31 hv
  obtain ⟨fuel, hf⟩ := h
  obtain ⟨xs, n, rfl, _, hl, hlen, hg⟩ := DataW.trod_struct Tryz.underlying31 hf
  rw [cellsSet] at hl
  obtain ⟨l⟩ := cs
  obtain ⟨v0, v1, v2, hl3⟩ := len3 (show l.length = 3 from hl)
  subst hl3
  have h0 : DataW.trod enc Tryz.prog w base spare held n 23 (List.take (Tryz.prog.cellsOf 23) (List.drop 0 [v0, v1, v2])) = xs[0]? := hg 0 _ rfl
  have h1 : DataW.trod enc Tryz.prog w base spare held n 23 (List.take (Tryz.prog.cellsOf 23) (List.drop 1 [v0, v1, v2])) = xs[1]? := hg 1 _ rfl
  have h2 : DataW.trod enc Tryz.prog w base spare held n 23 (List.take (Tryz.prog.cellsOf 23) (List.drop 2 [v0, v1, v2])) = xs[2]? := hg 2 _ rfl
  simp only [cellsInts, List.drop, List.take] at h0 h1 h2
  match xs, (show xs.length = 3 from hlen) with
  | [y0, y1, y2], _ =>
  simp only [List.getElem?_cons_zero, List.getElem?_cons_succ] at h0 h1 h2
  obtain ⟨l0, g0⟩ := open_ints0 h0
  obtain ⟨l1, g1⟩ := open_ints0 h1
  obtain ⟨l2, g2⟩ := open_ints0 h2
  exact ⟨l0, l1, l2, v0, v1, v2, rfl, g0, g1, g2⟩
theorem open_Rel {r : Reach} {b0 : Nat} {v : Value} {d : DataW H} {p : List MemPlace} (hv : Value.okWide Tryz.prog w r b0 29 v) (h : DataW.Trod enc Tryz.prog w base spare held 29 v d p) : ∃ cs ws P, RelV w v cs ws P := by
  obtain ⟨cs, rfl, _⟩ := okWide_struct Tryz.underlying29 hv
  obtain ⟨fuel, hf⟩ := h
  obtain ⟨xs, n, rfl, _, hl, hlen, hg⟩ := DataW.trod_struct Tryz.underlying29 hf
  rw [cellsRel] at hl
  obtain ⟨l⟩ := cs
  obtain ⟨v0, v1, v2, hl3⟩ := len3 (show l.length = 3 from hl)
  subst hl3
  have h0 : DataW.trod enc Tryz.prog w base spare held n 23 (List.take (Tryz.prog.cellsOf 23) (List.drop 0 [v0, v1, v2])) = xs[0]? := hg 0 _ rfl
  have h1 : DataW.trod enc Tryz.prog w base spare held n 23 (List.take (Tryz.prog.cellsOf 23) (List.drop 1 [v0, v1, v2])) = xs[1]? := hg 1 _ rfl
  have h2 : DataW.trod enc Tryz.prog w base spare held n 27 (List.take (Tryz.prog.cellsOf 27) (List.drop 2 [v0, v1, v2])) = xs[2]? := hg 2 _ rfl
  simp only [cellsInts, cellsPairs, List.drop, List.take] at h0 h1 h2
  match xs, (show xs.length = 3 from hlen) with
  | [y0, y1, y2], _ =>
  simp only [List.getElem?_cons_zero, List.getElem?_cons_succ] at h0 h1 h2
  obtain ⟨l0, g0⟩ := open_ints0 h0
  obtain ⟨l1, g1⟩ := open_ints0 h1
  obtain ⟨l2, g2⟩ := open_pairs0 h2
  exact ⟨l0, l1, l2, v0, v1, v2, rfl, g0, g1, g2⟩
end
end Go.Proofs.YtlnahhlddekhoaaGreatDoor
