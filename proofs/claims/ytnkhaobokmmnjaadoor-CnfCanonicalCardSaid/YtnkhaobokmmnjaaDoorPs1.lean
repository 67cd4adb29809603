/-
  Steps and formulas in memory; the walk of proof.Valid.
-/
import Derived.Test.YtnkhaobokmmnjaaDoorPl1
import Derived.Test.YtnkhaobokmmnjaaDoorOwn
import Derived.Test.YtnkhaobokmmnjaaDoorShelf
namespace Go.Proofs.YtnkhaobokmmnjaaDoor
open Go.RowKit

def ListAt (w : World) (b o : Nat) (l : List Int) : Prop := ∃ v, w.cell? ⟨b, o, none⟩ = some v ∧ Ints w v l
theorem ListAt.keeps : Keeps ListAt := fun _ _ _ _ _ he ⟨v, h1, h2⟩ => ⟨v, he.cell h1, h2.ext he⟩
def Lists (w : World) (v : Value) (ll : List (List Int)) : Prop := SliceAt 1 ListAt w v ll
theorem Lists.ext {w w' : World} {v : Value} {l : List (List Int)} (h : Lists w v l) (he : Ext w w') : Lists w' v l := SliceAt.ext ListAt.keeps h he
def StAt (w : World) (b o : Nat) (s : St) : Prop := ∃ v1 v2, w.cell? ⟨b, o, none⟩ = some v1 ∧ w.cell? ⟨b, o + 1, none⟩ = some v2 ∧ Ints w v1 s.lits ∧ Ints w v2 s.hints
theorem StAt.keeps : Keeps StAt := fun _ _ _ _ _ he ⟨v1, v2, h1, h2, h3, h4⟩ => ⟨v1, v2, he.cell h1, he.cell h2, h3.ext he, h4.ext he⟩
def Steps (w : World) (v : Value) (l : List St) : Prop := SliceAt 2 StAt w v l
theorem Steps.ext {w w' : World} {v : Value} {l : List St} (h : Steps w v l) (he : Ext w w') : Steps w' v l := SliceAt.ext StAt.keeps h he
def CnfV (w : World) (v : Value) (vars : Int) (cl : List (List Int)) : Prop := ∃ vc, v = .agg #[.int .i64 vars, vc] ∧ Lists w vc cl
theorem CnfV.ext {w w' : World} {v : Value} {vars : Int} {cl : List (List Int)} (h : CnfV w v vars cl) (he : Ext w w') : CnfV w' v vars cl := by
  obtain ⟨vc, e, h2⟩ := h; exact ⟨vc, e, h2.ext he⟩
theorem CnfV.shape {w : World} {v : Value} {vars : Int} {cl : List (List Int)} (h : CnfV w v vars cl) : ∃ a c, v = .agg #[.int .i64 vars, .slice a cl.length c] ∧ Lists w (.slice a cl.length c) cl := by
  obtain ⟨vc, e, h2⟩ := h
  obtain ⟨a, c, rfl⟩ := SliceAt.shape h2
  exact ⟨a, c, e, h2⟩
/-- A step of a slice of steps, its two slices written out. -/
theorem Steps.at {w : World} {a : Option Addr} {n c : Nat} {l : List St} (h : Steps w (.slice a n c) l) {k : Nat} (hk : k < l.length) : ∃ b o a1 c1 a2 c2, a = some ⟨b, o, none⟩ ∧ w.cell? ⟨b, o + k * 2, none⟩ = some (.slice a1 l[k].lits.length c1) ∧ w.cell? ⟨b, o + k * 2 + 1, none⟩ = some (.slice a2 l[k].hints.length c2) ∧
    Ints w (.slice a1 l[k].lits.length c1) l[k].lits ∧ Ints w (.slice a2 l[k].hints.length c2) l[k].hints := by
  rcases h with ⟨_, e⟩ | ⟨b, o, cap, e, _, hc⟩
  · subst e; simp at hk
  · cases e
    obtain ⟨v1, v2, h1, h2, h3, h4⟩ := hc k hk
    obtain ⟨a1, c1, rfl⟩ := h3.shape
    obtain ⟨a2, c2, rfl⟩ := h4.shape
    exact ⟨b, o, a1, c1, a2, c2, rfl, h1, h2, h3, h4⟩
/-- A small formula and refutation, its numbers in the range of int. -/
structure Tame (vars : Int) (cl : List (List Int)) (l : List St) : Prop where
  vars : InI vars
  cl : cl.length ≤ 100000
  len : l.length ≤ 100000
  lits : ∀ s ∈ l, s.lits.length ≤ 100000 ∧ ∀ x ∈ s.lits, InI x
  hints : ∀ s ∈ l, s.hints.length ≤ 100000
def okTo (vars : Int) (n : Nat) (l : List St) (k : Nat) : Prop := ∀ j, j < k → litsOk vars (l.getD j st0).lits = true ∧ hintsOk ((n : Int) + j) (l.getD j st0).hints = true
theorem valid_no {vars : Int} {n : Nat} {l : List St} {k : Nat} (hk : k < l.length) (h : litsOk vars (l.getD k st0).lits = false ∨ hintsOk ((n : Int) + k) (l.getD k st0).hints = false) : validP vars n l = false := by
  rw [Bool.eq_false_iff]
  intro c
  unfold validP at c
  rw [Bool.and_eq_true, List.all_eq_true] at c
  have := c.2 k (List.mem_range.2 hk)
  rw [Bool.and_eq_true] at this
  rcases h with h | h
  · rw [h] at this; simp at this
  · rw [h] at this; simp at this
theorem valid_yes {vars : Int} {n : Nat} {l : List St} (hl : l.length ≤ 20000) (h : okTo vars n l l.length) : validP vars n l = true := by
  unfold validP
  rw [Bool.and_eq_true, decide_eq_true_eq, List.all_eq_true]
  refine ⟨hl, fun k hk => ?_⟩
  have := h k (List.mem_range.1 hk)
  rw [this.1, this.2]; rfl
end Go.Proofs.YtnkhaobokmmnjaaDoor
