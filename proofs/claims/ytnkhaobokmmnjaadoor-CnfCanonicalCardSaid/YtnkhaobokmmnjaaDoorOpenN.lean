/-
  Formulas among the arguments, opened: their numbers are ints; lists of booleans and bytes.
-/
import Derived.Test.YtnkhaobokmmnjaaDoorRows
import Derived.Test.YtnkhaobokmmnjaaDoorLg0
import Derived.Lib.SmallJoins
import Derived.Deep.Slices
import Derived.Carry
import Derived.ChangeSame
import Derived.OpenShut
namespace Go.Proofs.YtnkhaobokmmnjaaDoor
open Go.RowKit Go.WideShapes Go.ChangeShapes
set_option maxRecDepth 100000

theorem u8_of {n : Int} (h : (Lit.int .u8 n).wf = true) : 0 ≤ n ∧ n ≤ 255 := by
  have e1 : IntKind.u8.min = 0 := rfl
  have e2 : IntKind.u8.max = 255 := rfl
  simp [Lit.wf, e1, e2] at h
  omega

section
variable {H : Type} {enc : TypeId × Value → H} {w : World} {base : Nat} {spare : Nat → Bool} {held : Bool}

theorem cellsInt : Tryd.prog.cellsOf 3 = 1 := by kernel_rfl
theorem cellsInts : Tryd.prog.cellsOf 30 = 1 := by kernel_rfl
theorem cellsLists : Tryd.prog.cellsOf 22 = 1 := by kernel_rfl
theorem cellsCNF : Tryd.prog.cellsOf 24 = 2 := by kernel_rfl
/-- An address that reads has no spot. -/
theorem spot_none {a : Addr} {n : Nat} {cs : List Value} (h : w.cells? base a n = some cs) (hn : 0 < n) : a.spot = none := by
  obtain ⟨_, hl, hc⟩ := World.cells?_some h
  have h0 := hc 0 hn
  rw [show a.add 0 = a from rfl] at h0
  cases hs : a.spot with
  | none => rfl
  | some k =>
    have : cs[0]? ≠ none := by rw [List.getElem?_eq_getElem (by omega)]; simp
    rw [← h0] at this
    exfalso; apply this
    unfold World.cell?
    split <;> simp [hs]
theorem add_at (b o k : Nat) : (Addr.mk b o none).add k = ⟨b, o + k, none⟩ := by
  unfold Addr.add; split
  · next h => subst h; rfl
  · rfl

/-- A slice that reads, its elements of sz cells. -/
theorem slice_at {α : Type} [Inhabited α] {t e : TypeId} {sz fuel : Nat} {cs : List Value} {x : DataW H × List MemPlace} {Q : World → Nat → Nat → α → Prop} (ht : Tryd.prog.underlying t = some (.slice e)) (hz : Tryd.prog.cellsOf e = sz) (hz0 : 0 < sz)
    (hQ : ∀ (n : Nat), n < fuel → ∀ (cs' : List Value) (y : DataW H × List MemPlace) (b o : Nat), DataW.trod enc Tryd.prog w base spare held n e cs' = some y → cs'.length = sz → (∀ i, i < sz → w.cell? ⟨b, o + i, none⟩ = cs'[i]?) → ∃ a, Q w b o a)
    (h : DataW.trod enc Tryd.prog w base spare held fuel t cs = some x) : ∃ (v : Value) (l : List α), cs = [v] ∧ SliceAt sz Q w v l := by
  rcases DataW.trod_slice ht h with ⟨rfl, _⟩ | ⟨a, len, cap, elems, rest, n, rfl, rfl, rfl, hb, hl, hm, hlen, hel, _, _⟩
  · exact ⟨_, [], rfl, .inl ⟨⟨_, _, rfl⟩, rfl⟩⟩
  · rw [hz] at hel
    rcases Nat.eq_zero_or_pos len with h0 | h0
    · subst h0; exact ⟨_, [], rfl, .inl ⟨⟨_, _, rfl⟩, rfl⟩⟩
    have one : ∀ i, i < len → ∃ cs', w.cells? base (a.add (i * sz)) sz = some cs' ∧ ∃ y, DataW.trod enc Tryd.prog w base spare held n e cs' = some y := fun i hi => by
      have := hel i hi
      rw [List.getElem?_eq_getElem (by omega)] at this
      obtain ⟨cs', h1, h2⟩ := Option.bind_eq_some_iff.1 this
      exact ⟨cs', h1, _, h2⟩
    obtain ⟨cs0, h00, _⟩ := one 0 h0
    rw [Nat.zero_mul] at h00
    have hs := spot_none h00 hz0
    obtain ⟨b, o, sp⟩ := a
    have hs : sp = none := hs
    subst hs
    have key : ∀ i, i < len → ∃ q, Q w b (o + i * sz) q := fun i hi => by
      obtain ⟨cs', h1, y, h2⟩ := one i hi
      obtain ⟨_, hcl, hc⟩ := World.cells?_some h1
      refine hQ n (by omega) cs' y b (o + i * sz) h2 hcl fun j hj => ?_
      rw [← hc j hj, Deep.add_add, add_at, Nat.add_assoc]
    obtain ⟨f, hf⟩ := Deep.choose_lt key
    refine ⟨_, (List.range len).map f, rfl, .inr ⟨b, o, cap, by simp, ?_, fun i hi => ?_⟩⟩
    · have : maxLen ≤ 9223372036854775807 := by decide
      simp; omega
    · simp at hi; simpa using hf i hi

theorem one_cell {v u : Value} {r : Reach} {b0 : Nat} {t : TypeId} {e : TypeId} (ht : Tryd.prog.underlying t = some (.slice e)) (hv : Value.okWide Tryd.prog w r b0 t v) (h : v.cells.toList = [u]) : v = u := by
  simp only [Value.okWide, ht, Cell.okWide, Cell.ok] at hv
  split at hv
  all_goals first | (simp [Value.cells] at h; exact h) | exact hv.elim | skip
theorem len2 {cs : List Value} (h : cs.length = 2) : ∃ a b, cs = [a, b] := by
  match cs, h with
  | [a, b], _ => exact ⟨a, b, rfl⟩
theorem len3 {cs : List Value} (h : cs.length = 3) : ∃ a b c, cs = [a, b, c] := by
  match cs, h with
  | [a, b, c], _ => exact ⟨a, b, c, rfl⟩

theorem inI_of {n : Int} (h : (Lit.int .i64 n).wf = true) : InI n := by
  have e1 : IntKind.i64.min = -9223372036854775808 := rfl
  have e2 : IntKind.i64.max = 9223372036854775807 := rfl
  simp [Lit.wf, e1, e2] at h
  unfold InI; omega
theorem slice_and {α : Type} {sz : Nat} {Q : World → Nat → Nat → α → Prop} {R : α → Prop} {w : World} {v : Value} {l : List α} (h : SliceAt sz (fun w b o a => Q w b o a ∧ R a) w v l) : SliceAt sz Q w v l ∧ ∀ a ∈ l, R a := by
  rcases h with ⟨h1, h2⟩ | ⟨b, o, cap, e, hm, hc⟩
  · exact ⟨.inl ⟨h1, h2⟩, by rw [h2]; simp⟩
  · refine ⟨.inr ⟨b, o, cap, e, hm, fun i hi => (hc i hi).1⟩, fun a ha => ?_⟩
    obtain ⟨i, hi, rfl⟩ := List.mem_iff_getElem.1 ha
    exact (hc i hi).2
def okInts (l : List Int) : Prop := ∀ x ∈ l, InI x
theorem open_ints0 {n : Nat} {v : Value} {y : DataW H × List MemPlace} (h : DataW.trod enc Tryd.prog w base spare held n 30 [v] = some y) : ∃ l, Ints w v l ∧ okInts l := by
  obtain ⟨u, l, hc, hl⟩ := slice_at (Q := fun w b o z => IntAt w b o z ∧ InI z) Tryd.underlying30 cellsInt (by omega) (fun m hm cs' y b o ht hcl hc => by
    obtain ⟨z, rfl, _, hw⟩ := DataW.trod_int Tryd.underlying3 ht
    exact ⟨z, hc 0 (by omega), inI_of hw⟩) h
  cases hc; exact ⟨l, slice_and hl⟩
/-- A formula whose numbers are ints. -/
def CnfI (w : World) (v : Value) (vars : Int) (cl : List (List Int)) : Prop := CnfV w v vars cl ∧ CnfN vars cl
theorem open_lists0 {n : Nat} {v : Value} {y : DataW H × List MemPlace} (h : DataW.trod enc Tryd.prog w base spare held n 22 [v] = some y) : ∃ l, Lists w v l ∧ ∀ c ∈ l, okInts c := by
  obtain ⟨u, l, hc, hl⟩ := slice_at (Q := fun w b o c => ListAt w b o c ∧ okInts c) Tryd.underlying22 cellsInts (by omega) (fun m hm cs' y b o ht hcl hc => by
    match cs', hcl with
    | [v0], _ =>
    obtain ⟨l0, g0, r0⟩ := open_ints0 ht
    exact ⟨l0, ⟨v0, hc 0 (by omega), g0⟩, r0⟩) h
  cases hc; exact ⟨l, slice_and hl⟩
theorem open_CNF {r : Reach} {b0 : Nat} {v : Value} {d : DataW H} {p : List MemPlace} (hv : Value.okWide Tryd.prog w r b0 24 v) (h : DataW.Trod enc Tryd.prog w base spare held 24 v d p) : ∃ vars cl, CnfI w v vars cl := by
  obtain ⟨cs, rfl, _⟩ := okWide_struct Tryd.underlying24 hv
  obtain ⟨fuel, hf⟩ := h
  obtain ⟨xs, n, rfl, _, hl, hlen, hg⟩ := DataW.trod_struct Tryd.underlying24 hf
  rw [cellsCNF] at hl
  obtain ⟨l⟩ := cs
  obtain ⟨v0, v1, hl3⟩ := len2 (show l.length = 2 from hl)
  subst hl3
  have h0 : DataW.trod enc Tryd.prog w base spare held n 3 (List.take (Tryd.prog.cellsOf 3) (List.drop 0 [v0, v1])) = xs[0]? := hg 0 _ rfl
  have h1 : DataW.trod enc Tryd.prog w base spare held n 22 (List.take (Tryd.prog.cellsOf 22) (List.drop 1 [v0, v1])) = xs[1]? := hg 1 _ rfl
  simp only [cellsInt, cellsLists, List.drop, List.take] at h0 h1
  match xs, (show xs.length = 2 from hlen) with
  | [y0, y1], _ =>
  simp only [List.getElem?_cons_zero, List.getElem?_cons_succ] at h0 h1
  obtain ⟨z, e0, _, hw⟩ := DataW.trod_int Tryd.underlying3 h0
  simp only [List.cons.injEq, and_true] at e0
  subst e0
  obtain ⟨l1, g1, r1⟩ := open_lists0 h1
  exact ⟨z, l1, ⟨v1, rfl, g1⟩, inI_of hw, r1⟩
theorem cellsBool1 : Tryd.prog.cellsOf 4 = 1 := by kernel_rfl
theorem open_Bools {r : Reach} {b0 : Nat} {v : Value} {d : DataW H} {p : List MemPlace} (hv : Value.okWide Tryd.prog w r b0 25 v) (h : DataW.Trod enc Tryd.prog w base spare held 25 v d p) : ∃ l, Bools w v l := by
  obtain ⟨fuel, hf⟩ := h
  obtain ⟨u, l, hc, hl⟩ := slice_at (Q := BoolAt) Tryd.underlying25 cellsBool1 (by omega) (fun m hm cs' y b o ht hcl hc => by
    obtain ⟨z, rfl, _⟩ := DataW.trod_bool Tryd.underlying4 ht
    exact ⟨z, hc 0 (by omega)⟩) hf
  rw [one_cell Tryd.underlying25 hv hc]; exact ⟨l, hl⟩
theorem cellsU81 : Tryd.prog.cellsOf 5 = 1 := by kernel_rfl
theorem open_Bytes {r : Reach} {b0 : Nat} {v : Value} {d : DataW H} {p : List MemPlace} (hv : Value.okWide Tryd.prog w r b0 33 v) (h : DataW.Trod enc Tryd.prog w base spare held 33 v d p) : ∃ l, BytesI w v l := by
  obtain ⟨fuel, hf⟩ := h
  obtain ⟨u, l, hc, hl⟩ := slice_at (Q := ByteAt) Tryd.underlying33 cellsU81 (by omega) (fun m hm cs' y b o ht hcl hc => by
    obtain ⟨z, rfl, _, hw⟩ := DataW.trod_int Tryd.underlying5 ht
    exact ⟨z, hc 0 (by omega), u8_of hw⟩) hf
  rw [one_cell Tryd.underlying33 hv hc]; exact ⟨l, hl⟩
end
end Go.Proofs.YtnkhaobokmmnjaaDoor
