/-
  law21's head: what it computes; its formulas in memory.
-/
import Derived.Test.YtnkhaobokmmnjaaDoorCnI
import Derived.Test.YtnkhaobokmmnjaaDoorCq8
import Derived.Test.YtnkhaobokmmnjaaDoorCqT
namespace Go.Proofs.YtnkhaobokmmnjaaDoor
open Go.RowKit

/-! ### Blocks laid one behind the other -/
def allocs (w : World) (os : List Obj) : World := os.foldl World.alloc w
theorem allocs_size (w : World) (os : List Obj) : (allocs w os).heap.size = w.heap.size + os.length := by
  induction os generalizing w with
  | nil => rfl
  | cons o os ih => show (allocs (w.alloc o) os).heap.size = _; rw [ih]; simp; omega
theorem allocs_ext (w : World) (os : List Obj) : Ext w (allocs w os) := by
  induction os generalizing w with
  | nil => exact Ext.refl w
  | cons o os ih => exact ((Ext.refl w).alloc o).trans (ih (w.alloc o))
theorem allocs_heap (w : World) (os : List Obj) (i : Nat) (h : i < os.length) : (allocs w os).heap[w.heap.size + i]? = some os[i] := by
  induction os generalizing w i with
  | nil => simp at h
  | cons o os ih =>
    show (allocs (w.alloc o) os).heap[w.heap.size + i]? = _
    cases i with
    | zero => rw [Nat.add_zero, (allocs_ext (w.alloc o) os).block w.heap.size (by simp)]; exact heap_new _ _
    | succ i =>
      have := ih (w.alloc o) i (by simpa using h)
      rw [World.size_alloc, show w.heap.size + 1 + i = w.heap.size + (i + 1) by omega] at this
      simpa using this
def rowV (b : Nat) (l : List Int) : Value := .slice (some ⟨b, 0, none⟩) l.length l.length
theorem ints_laid {w : World} {b : Nat} {l : List Int} {t : TypeId} (h : w.heap[b]? = some (.cells (l.map (Value.int .i64)).toArray t (0, 0))) (hl : l.length ≤ 1000000) : Ints w (rowV b l) l := by
  refine .inr ⟨b, 0, l.length, rfl, by omega, fun i hi => ?_⟩
  simp only [IntAt, World.cell?, h, Nat.zero_add, Nat.mul_one]
  simp [hi]
theorem lists_laid {w : World} {b : Nat} {ps : List (Nat × List Int)} {t : TypeId} (h : w.heap[b]? = some (.cells (ps.map fun p => rowV p.1 p.2).toArray t (0, 0))) (hl : ps.length ≤ 1000000) (hi : ∀ p ∈ ps, Ints w (rowV p.1 p.2) p.2) : Lists w (.slice (some ⟨b, 0, none⟩) ps.length ps.length) (ps.map (·.2)) := by
  refine .inr ⟨b, 0, ps.length, by simp, by simp; omega, fun i hi' => ?_⟩
  have hi2 : i < ps.length := by simpa using hi'
  refine ⟨rowV ps[i].1 ps[i].2, ?_, ?_⟩
  · simp only [World.cell?, h, Nat.zero_add, Nat.mul_one]
    simp [hi2]
  · simpa using hi _ (List.getElem_mem hi2)
theorem bools_laid {w : World} {b : Nat} {l : List Bool} {t : TypeId} (h : w.heap[b]? = some (.cells (l.map Value.bool).toArray t (0, 0))) (hl : l.length ≤ 1000000) : Bools w (.slice (some ⟨b, 0, none⟩) l.length l.length) l := by
  refine .inr ⟨b, 0, l.length, rfl, by omega, fun i hi => ?_⟩
  simp only [BoolAt, World.cell?, h, Nat.zero_add, Nat.mul_one]
  simp [hi]
/-- Whether a formula is tame. -/
def tameB (vars : Int) (cl : List (List Int)) : Bool := decide (-9223372036854775808 ≤ vars) && decide (vars ≤ 9223372036854775807) && decide (cl.length ≤ 100000) && cl.all fun c => decide (c.length ≤ 100000) && c.all fun x => decide (-9223372036854775808 ≤ x) && decide (x ≤ 9223372036854775807)
theorem tame_of {vars : Int} {cl : List (List Int)} (h : tameB vars cl = true) : TameC vars cl := by
  unfold tameB at h
  simp only [Bool.and_eq_true, decide_eq_true_eq, List.all_eq_true] at h
  exact ⟨⟨h.1.1.1, h.1.1.2⟩, h.1.2, fun c hc => ⟨(h.2 c hc).1, fun x hx => (h.2 c hc).2 x hx⟩⟩

/-! ### What head computes -/
def hf : List (List Int) := [[1, -2], [2]]
def hg : List (List Int) := [[3, -1, 3], [2, -2], [1], [1]]
def hn : List (List Int) := [[-1, 3], [1]]
def hh : List (List Int) := [[1, -2], []]
def ht1 : List UInt8 := [99, 32, 110, 111, 116, 101, 10, 112, 32, 99, 110, 102, 32, 50, 32, 50, 10, 49, 32, 45, 50, 10, 48, 32, 48, 10]
def ht2 : List UInt8 := [112, 32, 99, 110, 102, 32, 49, 32, 49, 10, 50, 32, 48]
def htx : List UInt8 := [112, 32, 99, 110, 102, 32, 50, 32, 50, 10, 49, 32, 45, 50, 32, 48, 10, 48, 10]
theorem h_parse1 : parseF ht1 = .ok (2, hh) := by rfl
theorem h_parse2 : parseF ht2 = .error 210 := by rfl
theorem h_valid : validC 2 hf = true := by rfl
theorem h_eval1 : evalC 2 hf [true, true] = true := by rfl
theorem h_eval2 : evalC 2 hf [false, true] = false := by rfl
theorem h_validg : validC 3 hg = true := by rfl
theorem h_validh : validC 2 hh = true := by rfl
theorem h_text : textC 2 hh = htx := by
  have e1 : Lib.itoa 2 = [50] := by unfold Lib.itoa; rw [if_neg (by omega)]; rw [Lib.decDigits, dif_pos (by decide)]; rfl
  have e2 : Lib.itoa 1 = [49] := by unfold Lib.itoa; rw [if_neg (by omega)]; rw [Lib.decDigits, dif_pos (by decide)]; rfl
  have e3 : Lib.itoa (-2) = [45, 50] := by unfold Lib.itoa; rw [if_pos (by omega)]; rw [Lib.decDigits, dif_pos (by decide)]; rfl
  have e4 : Lib.itoa ((hh.length : Nat) : Int) = [50] := e1
  unfold textC headText
  rw [e1, e4]
  simp [hh, clsText, clText, litText, e2, e3, htx]
theorem h_norm1 : NormC [3, -1, 3] [-1, 3] := ⟨by decide, fun x => by
  simp only [List.mem_cons, List.not_mem_nil, or_false]; omega⟩
theorem h_norm2 : NormC [1] [1] := ⟨by decide, fun x => Iff.rfl⟩
theorem h_norm : NormF hg hn := by
  refine ⟨by decide, fun n => ?_⟩
  unfold hn hg
  simp only [List.mem_cons, List.not_mem_nil, or_false]
  constructor
  · rintro (rfl | rfl)
    · exact ⟨_, .inl rfl, h_norm1⟩
    · exact ⟨_, .inr (.inr (.inl rfl)), h_norm2⟩
  · rintro ⟨c, (rfl | rfl | rfl | rfl), h⟩
    · exact .inl (h.unique h_norm1)
    · exact (h.not_taut (x := 2) (by simp) (by simp) (by omega)).elim
    · exact .inr (h.unique h_norm2)
    · exact .inr (h.unique h_norm2)
end Go.Proofs.YtnkhaobokmmnjaaDoor
