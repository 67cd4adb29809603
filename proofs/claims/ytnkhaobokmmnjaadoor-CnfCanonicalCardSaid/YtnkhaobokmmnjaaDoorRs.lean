/-
  A range over a function that keeps its place in a box of its own: the law of the statement.
-/
import Derived.RangeFuncNested
import Derived.RangeFuncBound
import Derived.RangeFuncCalls
import Derived.RangeFuncLeaves
import Derived.Shelf.Abstract
import Derived.Shelf.RegionOpen
import Derived.OwnWalkIn
import Derived.TacticsInMore
import Derived.LoopNIn
import Derived.LoopIn
import Derived.BigQuiet
import Derived.Test.YtnkhaobokmmnjaaDoorProg
namespace Go.Proofs.YtnkhaobokmmnjaaDoor
open Go.RowKit Go.Shelf

/-- What is said of a world is not touched by a store into the box b. -/
def Deaf {β : Type} (b : Nat) (J : β → World → Prop) : Prop := ∀ s W v, J s W → J s (W.setCell ⟨b, 0, none⟩ v)
/-- The promise of a function that is ranged over and writes the box b. -/
def Ranges {α : Type} (F : Fence) (n : Nat) (P : Program) (g : Nat) (lb : Array Value) (encs : α → Array Value) (b : Nat) (Kp : World → World → Prop) (Nx : List α → α → Prop) (S Sp : List α → Prop) (w : World) : Prop :=
  ∀ (l : Nat) (J Jx : List α → World → Prop) (W : World), Below w.heap.size w W → Deaf b J →
    (∀ pre x W1, J pre W1 → Nx pre x → YieldAt F (n - 1) P l (encs x) W1 fun e W' =>
      (e = .returned (.bool true) ∧ J (pre ++ [x]) W' ∧ Kp W1 W') ∨ (e = .returned (.bool false) ∧ Jx (pre ++ [x]) W')) →
    J [] W →
    CallsIn F n P g (#[.func (.yield l) #[] #[]] ++ lb) W fun e W' => (∃ v, e = .returned v) ∧ ((∃ xs, S xs ∧ J xs W') ∨ (∃ pre, Sp pre ∧ Jx pre W'))

section
variable {F : Fence} {n : Nat} {P : Program} {w : World}
/-- The loop's record in block B + 1, the block of its deferred calls in B. -/
structure Books (rec : LoopState → Option Code → Loop) (B : Nat) (s : LoopState) (c : Option Code) (W : World) : Prop where
  record : W.heap[B + 1]? = some (.loop (rec s c))
  block : W.heap[B]? = some (.deferred (some []))
theorem Books.turn {rec : LoopState → Option Code → Loop} {B : Nat} {s s' : LoopState} {c c' : Option Code} {W : World} (h : Books rec B s c W) : Books rec B s' c' (W.putObj (B + 1) (.loop (rec s' c'))) :=
  ⟨World.putObj_heap_same (Array.getElem?_eq_some_iff.1 h.record).1, (World.putObj_heap_other (by omega)).trans h.block⟩
theorem Books.kept {rec : LoopState → Option Code → Loop} {B : Nat} {s : LoopState} {c : Option Code} {W W' : World} (h : Books rec B s c W) (hk : KeepsFrom B W W') : Books rec B s c W' :=
  ⟨hk.same _ _ (by omega) h.record rfl, hk.same _ _ (Nat.le_refl _) h.block rfl⟩
theorem Books.store {rec : LoopState → Option Code → Loop} {B : Nat} {s : LoopState} {c : Option Code} {W : World} (h : Books rec B s c W) {b : Nat} (hb : b < B) (v : Value) : Books rec B s c (W.setCell ⟨b, 0, none⟩ v) :=
  ⟨(heap_setCell_other W ⟨b, 0, none⟩ (B + 1) v (by show B + 1 ≠ b; omega)).trans h.record, (heap_setCell_other W ⟨b, 0, none⟩ B v (by show B ≠ b; omega)).trans h.block⟩

theorem wpIn_range_box {α : Type} {g : Operand} {ps : Array Tmp} {assign body : Code} {Q : Exit → Act → World → Prop} {a : Act}
    (hro : F.round = none) (h1 : 1 ≤ n) {gf : Nat} {lb : Array Value} (hg : a.eval g = .func (.func gf) #[] lb) (hFg : F.fn gf) (eg : ∀ args w, (callFunc gf args).run P w = .ok (.enter gf args) w)
    {encs : α → Array Value} {b : Nat} (hb : b < w.heap.size) {Kp : World → World → Prop} {Nx : List α → α → Prop} {S Sp : List α → Prop} (hseq : Ranges F (n - 1) P gf lb encs b Kp Nx S Sp w)
    (hKt : ∀ {A B C : World}, Kp A B → Kp B C → Kp A C) (hKb : ∀ (W : World) (l : Nat) (o o' : Obj), w.heap.size ≤ l → W.heap[l]? = some o → o.isCells = false → Kp W (W.putObj l o')) (hps : ∀ x, (encs x).size = ps.size)
    (I : List α → World → Prop) (Ix : Code → List α → World → Prop) (hI : OwnFrom w.heap.size I) (hIx : ∀ c, OwnFrom w.heap.size (Ix c)) (hd : Deaf b I) (h0 : I [] w) (a₁ : α → Act)
    (hassign : ∀ (l : Nat) (x : α) (W : World) (K : Act → World → Prop), K (a₁ x) W →
      assign.wpIn (F.inRound l) (n - 1 - 1) P (Exit.then K (fun _ _ _ => False)) { tmps := (ps.zip (encs x)).foldl (fun t (p, v) => t.setIfInBounds p v) a.tmps, defers := [] } W)
    (hbody : ∀ (l : Nat) (pre : List α) (x : α) (W : World), I pre W → Nx pre x → body.wpIn (F.inRound l) (n - 1 - 1) P (ownPostG w.heap.size Kp I Ix (pre ++ [x]) W) (a₁ x) W)
    (hdone : ∀ (D : Nat) (xs : List α) (W : World), w.heap.size ≤ D → S xs → I xs W → W.heap[D]? = some (.deferred (some [])) → Q .normal { a with defers := { target := .collected D, args := #[] } :: a.defers } W)
    (hstop : ∀ (D : Nat) (c : Code) (pre : List α) (W : World), w.heap.size ≤ D → Sp pre → Ix c pre W → W.heap[D]? = some (.deferred (some [])) → c.wpIn F n P Q { a with defers := { target := .collected D, args := #[] } :: a.defers } W) :
    (Code.rangeFunc g ps assign body).wpIn F n P Q a w := by
  refine wpIn_rangeFunc fun fn hfn => ?_
  rw [hro]
  obtain ⟨rec, hrec⟩ : ∃ rec : LoopState → Option Code → Loop, ∀ s c, rec s c = { state := s, pending := c, fn := fn, tmps := a.tmps, params := ps, assign := assign, body := body, defers := w.heap.size } := ⟨fun s c => _, fun _ _ => rfl⟩
  obtain ⟨W1, hW1⟩ : ∃ W1, W1 = (w.alloc (.deferred (some []))).alloc (.loop (rec .ready none)) := ⟨_, rfl⟩
  have hbook : Books rec w.heap.size .ready none W1 := by
    constructor
    · have h := World.alloc_heap_new (w.alloc (.deferred (some []))) (.loop (rec .ready none))
      rw [World.size_alloc, ← hW1] at h; exact h
    · rw [hW1]; exact (Below.heap_alloc _ _ _ (by simp)).trans (World.alloc_heap_new w _)
  have hstart : I [] W1 := by rw [hW1]; exact hI.alloc _ (hI.alloc _ h0)
  have hlow : Below w.heap.size w W1 := by rw [hW1]; exact ((Below.refl _ w).alloc (Nat.le_refl _) _).alloc (by simp) _
  have hent := run_enterLoop_outer (P := P) (w := w) fn a.tmps ps assign body
  rw [← hrec, ← hW1] at hent
  -- how a round is ended
  have hend : ∀ (c : Option Code) (W3 : World), Books rec w.heap.size .busy none W3 → (Instr.endRound (w.heap.size + 1) c).run P W3 = .ok (.bool c.isNone) (W3.putObj (w.heap.size + 1) (.loop (rec (if c.isNone then .ready else .done) c))) := fun c W3 hk => by
    have h := run_endRound (P := P) c hk.record
    rw [hrec] at h ⊢; exact h
  refine ⟨w.heap.size + 1, [{ target := .collected w.heap.size, args := #[] }], W1, { target := .fn (.func gf) lb, args := #[.func (.yield (w.heap.size + 1)) #[] #[]] }, W1, gf,
    #[.func (.yield (w.heap.size + 1)) #[] #[]] ++ lb, W1, hent, ?_, ?_, ?_, fun _ => h1, ?_⟩
  · simp only [resolve, hg]; simp [go_sem]
  · intro f' hf'; simp [Target.leads] at hf'; subst hf'; exact hFg
  · simp [invoke, go_sem, eg]
  refine (hseq (w.heap.size + 1) (fun pre W => I pre W ∧ Books rec w.heap.size .ready none W) (fun pre W => ∃ c, Ix c pre W ∧ Books rec w.heap.size .done (some c) W) W1 hlow
    (fun s W v h => ⟨hd s W v h.1, h.2.store hb v⟩) ?_ ⟨hstart, hbook⟩).mono ?_
  · -- a round
    rintro pre x W ⟨hi, hk⟩ hx
    have hy := run_yield (P := P) (args := encs x) hk.record (by rw [hrec]; exact hps x)
    rw [hrec] at hy
    refine ⟨fn, _, assign, body, hy, roundIn_of_wpIn hfn (hassign _ x W _ ?_)⟩
    have hbeg := run_beginRound (P := P) hk.record (by rw [hrec])
    have hbusy : Books rec w.heap.size .busy none (W.putObj (w.heap.size + 1) (.loop (rec .busy none))) := hk.turn
    have e1 : ({ rec .ready none with state := .busy } : Loop) = rec .busy none := by rw [hrec, hrec]
    rw [e1] at hbeg
    refine ⟨_, hbeg, wpIn_mono (hbody _ pre x _ (hI.putObj _ hi (by omega) hk.record rfl) hx) ?_⟩
    have hkp : Kp W (W.putObj (w.heap.size + 1) (.loop (rec .busy none))) := hKb _ _ _ _ (by omega) hk.record rfl
    rintro e a3 W3 hp
    cases e with
    | normal =>
      obtain ⟨k3, kp3, i3⟩ := hp
      have b3 := hbusy.kept k3
      exact ⟨_, _, hend none W3 b3, .inl ⟨rfl, ⟨hI.putObj _ i3 (by omega) b3.record rfl, b3.turn⟩, hKt hkp (hKt kp3 (hKb _ _ _ _ (by omega) b3.record rfl))⟩⟩
    | ret =>
      obtain ⟨k3, i3⟩ := hp
      have b3 := hbusy.kept k3
      exact ⟨_, _, hend (some .ret) W3 b3, .inr ⟨rfl, .ret, (hIx _).putObj _ i3 (by omega) b3.record rfl, b3.turn⟩⟩
    | exit id =>
      obtain ⟨k3, i3⟩ := hp
      have b3 := hbusy.kept k3
      exact ⟨_, _, hend (some (.exit id)) W3 b3, .inr ⟨rfl, .exit id, (hIx _).putObj _ i3 (by omega) b3.record rfl, b3.turn⟩⟩
    | goto t =>
      obtain ⟨k3, i3⟩ := hp
      have b3 := hbusy.kept k3
      exact ⟨_, _, hend (some (.goto t)) W3 b3, .inr ⟨rfl, .goto t, (hIx _).putObj _ i3 (by omega) b3.record rfl, b3.turn⟩⟩
    | panic _ => exact hp.elim
    | outgrown => exact hp.elim
  · -- behind it
    rintro e W2 ⟨⟨v, rfl⟩, h⟩
    rcases h with ⟨xs, hS, hi, hk⟩ | ⟨pre, hSp, c, hi, hk⟩
    · have h := run_endLoop (P := P) hk.record (by rw [hrec]; simp)
      rw [hrec] at h
      refine ⟨none, _, h, hdone _ xs _ (Nat.le_refl _) hS (hI.putObj _ hi (by omega) hk.record rfl) ?_⟩
      exact (World.putObj_heap_other (by omega)).trans hk.block
    · have h := run_endLoop (P := P) hk.record (by rw [hrec]; simp)
      rw [hrec] at h
      refine ⟨some c, _, h, hstop _ c pre _ (Nat.le_refl _) hSp ((hIx c).putObj _ hi (by omega) hk.record rfl) ?_⟩
      exact (World.putObj_heap_other (by omega)).trans hk.block
end
end Go.Proofs.YtnkhaobokmmnjaaDoor
