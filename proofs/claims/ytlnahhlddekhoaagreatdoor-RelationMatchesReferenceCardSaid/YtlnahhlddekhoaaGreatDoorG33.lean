/-
  A range over a function whose iterator keeps two variables of its own (one laid ahead of the loop, one when it begins): the law for a body that never leaves the loop.
  The walk of the iterator states.runs$1.
  A slice of ints appended whole (of XOf7).
-/
import Derived.RangeFuncNested
import Derived.RangeFuncBound
import Derived.RangeFuncCalls
import Derived.RangeFuncLeaves
import Derived.RangeFuncWrites
import Derived.Shelf.Abstract
import Derived.WalkKit
import Derived.Test.YtlnahhlddekhoaaGreatDoorG32
import Derived.Test.YtlnahhlddekhoaaGreatDoorG22
import Derived.Test.YtlnahhlddekhoaaGreatDoorG23
import Derived.OwnWalkIn
import Derived.TacticsInMore
import Derived.LoopNIn
import Derived.LoopIn
import Derived.Maps.AppendAt
import Derived.Sort.CutIn
import Derived.Deep.AppendLies
import Derived.Deep.RegionHeld3
import Derived.Shelf.RegionOpen
import Derived.Test.YtlnahhlddekhoaaGreatDoorG24
import Derived.Test.YtlnahhlddekhoaaGreatDoorG26
import Derived.Test.YtlnahhlddekhoaaGreatDoorG15
import Derived.Test.YtlnahhlddekhoaaGreatDoorG09
import Derived.Test.YtlnahhlddekhoaaGreatDoorG05
import Derived.Test.YtlnahhlddekhoaaGreatDoorG06
import Derived.Test.YtlnahhlddekhoaaGreatDoorG11
import Derived.Test.YtlnahhlddekhoaaGreatDoorG10
import Derived.Test.YtlnahhlddekhoaaGreatDoorG07
import Derived.Test.YtlnahhlddekhoaaGreatDoorG25
import Derived.Test.YtlnahhlddekhoaaGreatDoorG03
import Derived.Test.YtlnahhlddekhoaaGreatDoorG01
import Derived.Test.YtlnahhlddekhoaaGreatDoorG04
import Derived.Test.YtlnahhlddekhoaaGreatDoorG16
import Derived.Deep.Slices
import Derived.Deep.LoopGhost
import Derived.Shelf.Strings.BuilderK
import Derived.Lib.ItoaLen
import Derived.StillTailTactics
import Derived.Lib.AppendZerosOnto
import Derived.Lib.Walk
namespace Go.Proofs.YtlnahhlddekhoaaGreatDoor
open Go.RowKit Go.Shelf

/-- A step of the iterator: of what lies there its own blocks alone may turn. -/
structure StepX (X : Nat → Prop) (A B : World) : Prop where
  os : B.os = A.os
  tape : B.tape = A.tape
  output : B.output = A.output
  size : A.heap.size ≤ B.heap.size
  block : ∀ k, k < A.heap.size → ¬ X k → B.heap[k]? = A.heap[k]?
theorem StepX.refl (X : Nat → Prop) (A : World) : StepX X A A := ⟨rfl, rfl, rfl, Nat.le_refl _, fun _ _ _ => rfl⟩
theorem StepX.trans {X : Nat → Prop} {A B C : World} (h : StepX X A B) (k : StepX X B C) : StepX X A C :=
  ⟨k.os.trans h.os, k.tape.trans h.tape, k.output.trans h.output, Nat.le_trans h.size k.size, fun i hi hx => (k.block i (Nat.lt_of_lt_of_le hi h.size) hx).trans (h.block i hi hx)⟩
theorem StepX.below {X : Nat → Prop} {A B C : World} (h : StepX X A B) (k : Below B.heap.size B C) : StepX X A C :=
  ⟨k.os.trans h.os, k.tape.trans h.tape, k.output.trans h.output, Nat.le_trans h.size k.size, fun i hi hx => (k.block i (Nat.lt_of_lt_of_le hi h.size)).trans (h.block i hi hx)⟩
theorem StepX.setCell {X : Nat → Prop} {A B : World} (h : StepX X A B) {p : Addr} (hp : X p.block) (v : Value) : StepX X A (B.setCell p v) :=
  ⟨h.os, h.tape, h.output, by have := h.size; simpa [World.setCell] using this, fun i hi hx => by
    rw [← h.block i hi hx]
    exact heap_setCell_other B p i v (fun e => hx (e ▸ hp))⟩
/-- The round keeps the blocks of cells that lay there ahead of the loop, are the iterator's, or of no type of the round's own. -/
structure KeepT (n₀ : Nat) (T : TypeId → Prop) (X : Nat → Prop) (A B : World) : Prop where
  size : A.heap.size ≤ B.heap.size
  same : ∀ (k : Nat) (cs : Array Value) (t : TypeId) (fr : Nat × Nat), A.heap[k]? = some (.cells cs t fr) → (k < n₀ ∨ X k ∨ ¬ T t) → B.heap[k]? = some (.cells cs t fr)
theorem KeepT.refl (n₀ : Nat) (T : TypeId → Prop) (X : Nat → Prop) (A : World) : KeepT n₀ T X A A := ⟨Nat.le_refl _, fun _ _ _ _ h _ => h⟩
theorem KeepT.trans {n₀ : Nat} {T : TypeId → Prop} {X : Nat → Prop} {A B C : World} (h : KeepT n₀ T X A B) (k : KeepT n₀ T X B C) : KeepT n₀ T X A C :=
  ⟨Nat.le_trans h.size k.size, fun i cs t fr hi hx => k.same i cs t fr (h.same i cs t fr hi hx) hx⟩
theorem KeepT.putObj {n₀ : Nat} {T : TypeId → Prop} {X : Nat → Prop} (A : World) {l : Nat} {o : Obj} (o' : Obj) (hl : A.heap[l]? = some o) (ho : o.isCells = false) : KeepT n₀ T X A (A.putObj l o') :=
  ⟨by simp, fun k cs t fr hk _ => by
    have hne : k ≠ l := fun e => by subst e; rw [hk] at hl; cases hl; cases ho
    exact (World.putObj_heap_other hne).trans hk⟩

/-- The iterator's contract: it hands over the values of a list that S describes, each good where it is handed over; between two rounds its own two variables turn, inb and the block that it lays first. -/
def GivesX {α : Type} (F : Fence) (n : Nat) (P : Program) (g : Nat) (lb : Array Value) (encs : α → Array Value) (T : TypeId → Prop) (Good : Nat → α → World → Prop) (inb : Nat) (S : List α → Prop) (N : Nat) (w : World) : Prop :=
  ∀ (l : Nat) (J : List α → World → Prop) (W : World), Below w.heap.size w W →
    (∀ s A B, J s A → StepX (fun k => k = inb ∨ k = W.heap.size) A B → J s B) →
    (∀ pre x W1, J pre W1 → Good W.heap.size x W1 → pre.length < N → W.heap.size + 1 ≤ W1.heap.size → YieldAt F (n - 1) P l (encs x) W1 fun e W' => e = .returned (.bool true) ∧ J (pre ++ [x]) W' ∧ KeepT w.heap.size T (fun k => k = inb ∨ k = W.heap.size) W1 W') →
    J [] W →
    CallsIn F n P g (#[.func (.yield l) #[] #[]] ++ lb) W fun e W' => (∃ v, e = .returned v) ∧ ∃ xs, S xs ∧ J xs W'

/-- How a body that never leaves ends. -/
def bodyX {α : Type} (B n₀ : Nat) (T : TypeId → Prop) (X : Nat → Prop) (I : List α → World → Prop) (xs : List α) (W : World) : Exit → Act → World → Prop
  | .normal, _, W' => KeepsFrom B W W' ∧ KeepT n₀ T X W W' ∧ I xs W'
  | _, _, _ => False

section
variable {F : Fence} {n : Nat} {P : Program}
/-- Nothing but a record has turned. -/
def SameCells (A B : World) : Prop := B.heap.size = A.heap.size ∧ ∀ (k : Nat) (o : Obj), A.heap[k]? = some o → o.isCells = true → B.heap[k]? = some o
theorem SameCells.putObj (A : World) {l : Nat} {o : Obj} (o' : Obj) (hl : A.heap[l]? = some o) (ho : o.isCells = false) : SameCells A (A.putObj l o') :=
  ⟨by simp, fun k o2 hk h2 => (World.putObj_heap_other (fun e => by subst e; rw [hl] at hk; cases hk; rw [ho] at h2; cases h2)).trans hk⟩
/-- One round: the record is ready ahead of it and behind it. -/
theorem round_gives {α : Type} {ps : Array Tmp} {assign body : Code} {fn : Nat} (hfn : F.fn fn) {tm : Array Value} {m n₀ : Nat} {T : TypeId → Prop} {X : Nat → Prop} {encs : α → Array Value} {I : List α → World → Prop} {B : Nat}
    (hI : OwnFrom B I) (hps : ∀ x, (encs x).size = ps.size) {l D : Nat} (hBl : B ≤ l) (hBD : B ≤ D) (hlD : l ≠ D) {pre : List α} {x : α} {W : World} {Ax : Act → World → Prop} (hAx : ∀ a' A A', Ax a' A → SameCells A A' → Ax a' A')
    (hl : W.heap[l]? = some (.loop { state := .ready, pending := none, fn, tmps := tm, params := ps, assign, body, defers := D })) (hD : W.heap[D]? = some (.deferred (some [])))
    (hassign : assign.wpIn (F.inRound l) m P (Exit.then (fun a' W' => Ax a' W' ∧ I pre W' ∧ KeepsFrom B W W' ∧ KeepT n₀ T X W W') (fun _ _ _ => False)) { tmps := (ps.zip (encs x)).foldl (fun t (p, v) => t.setIfInBounds p v) tm, defers := [] } W)
    (hbody : ∀ (a' : Act) (W' : World), Ax a' W' → I pre W' → W.heap.size ≤ W'.heap.size → body.wpIn (F.inRound l) m P (bodyX B n₀ T X I (pre ++ [x]) W') a' W') :
    YieldAt F m P l (encs x) W fun e W' => e = .returned (.bool true) ∧ (I (pre ++ [x]) W' ∧ W'.heap[l]? = some (.loop { state := .ready, pending := none, fn, tmps := tm, params := ps, assign, body, defers := D }) ∧ W'.heap[D]? = some (.deferred (some []))) ∧ KeepT n₀ T X W W' := by
  refine ⟨fn, _, assign, body, run_yield (P := P) (args := encs x) hl (hps x), roundIn_of_wpIn hfn (wpIn_mono hassign ?_)⟩
  intro e a' V hp
  cases e with
  | normal =>
    obtain ⟨ax, i0, k0, kt0⟩ := hp
    have hl0 := k0.same l _ hBl hl rfl
    have hD0 := k0.same D _ hBD hD rfl
    have hlt : l < V.heap.size := (Array.getElem?_eq_some_iff.1 hl0).1
    refine ⟨_, run_beginRound hl0 rfl, ?_⟩
    have h1 := hI.putObj (.loop { state := .busy, pending := none, fn, tmps := tm, params := ps, assign, body, defers := D }) i0 hBl hl0 rfl
    have hl1 : (V.putObj l (.loop { state := .busy, pending := none, fn, tmps := tm, params := ps, assign, body, defers := D })).heap[l]? = some (.loop { state := .busy, pending := none, fn, tmps := tm, params := ps, assign, body, defers := D }) := World.putObj_heap_same hlt
    have hD1 : (V.putObj l (.loop { state := .busy, pending := none, fn, tmps := tm, params := ps, assign, body, defers := D })).heap[D]? = some (.deferred (some [])) := (World.putObj_heap_other (Ne.symm hlD)).trans hD0
    refine wpIn_mono (hbody a' _ (hAx _ _ _ ax (SameCells.putObj V _ hl0 rfl)) h1 (by have := k0.size; simpa using this)) ?_
    rintro e a3 W3 hp
    cases e with
    | normal =>
      obtain ⟨k3, kt3, i3⟩ := hp
      have hl3 := k3.same l _ hBl hl1 rfl
      have hD3 := k3.same D _ hBD hD1 rfl
      have hlt3 : l < W3.heap.size := (Array.getElem?_eq_some_iff.1 hl3).1
      refine ⟨_, _, run_endRound none hl3, rfl, ⟨hI.putObj _ i3 hBl hl3 rfl, World.putObj_heap_same hlt3, (World.putObj_heap_other (Ne.symm hlD)).trans hD3⟩, ?_⟩
      exact ((kt0.trans (KeepT.putObj V _ hl0 rfl)).trans kt3).trans (KeepT.putObj W3 _ hl3 rfl)
    | _ => exact hp.elim
  | _ => exact hp.elim

/-- The law. -/
theorem wpIn_range_box {α : Type} {g : Operand} {ps : Array Tmp} {assign body : Code} {Q : Exit → Act → World → Prop} {a : Act} {w : World}
    (hro : F.round = none) (h1 : 1 ≤ n) {gf : Nat} {lb : Array Value} (hg : a.eval g = .func (.func gf) #[] lb) (hFg : F.fn gf) (eg : ∀ args w, (callFunc gf args).run P w = .ok (.enter gf args) w)
    {encs : α → Array Value} {T : TypeId → Prop} {Good : Nat → α → World → Prop} {inb : Nat} {S : List α → Prop} {N : Nat} {w0 : World} (hseq : GivesX F (n - 1) P gf lb encs T Good inb S N w0) (hb0 : Below w0.heap.size w0 w) (hin : inb < w.heap.size) (hps : ∀ x, (encs x).size = ps.size)
    (I : List α → World → Prop) (hI : OwnFrom w.heap.size I) (hIX : ∀ s A B, I s A → StepX (fun k => k = inb ∨ k = w.heap.size + 2) A B → I s B) (h0 : I [] w) (Ax : α → Act → World → Prop) (hAx : ∀ x a' A A', Ax x a' A → SameCells A A' → Ax x a' A')
    (hassign : ∀ (l : Nat) (pre : List α) (x : α) (W : World), I pre W → Good (w.heap.size + 2) x W → w.heap.size + 3 ≤ W.heap.size →
      assign.wpIn (F.inRound l) (n - 1 - 1) P (Exit.then (fun a' W' => Ax x a' W' ∧ I pre W' ∧ KeepsFrom w.heap.size W W' ∧ KeepT w0.heap.size T (fun k => k = inb ∨ k = w.heap.size + 2) W W') (fun _ _ _ => False)) { tmps := (ps.zip (encs x)).foldl (fun t (p, v) => t.setIfInBounds p v) a.tmps, defers := [] } W)
    (hbody : ∀ (l : Nat) (pre : List α) (x : α) (a' : Act) (W : World), Ax x a' W → I pre W → pre.length < N → w.heap.size + 3 ≤ W.heap.size → body.wpIn (F.inRound l) (n - 1 - 1) P (bodyX w.heap.size w0.heap.size T (fun k => k = inb ∨ k = w.heap.size + 2) I (pre ++ [x]) W) a' W)
    (hdone : ∀ (D : Nat) (xs : List α) (W : World), w.heap.size ≤ D → S xs → I xs W → W.heap[D]? = some (.deferred (some [])) → Q .normal { a with defers := { target := .collected D, args := #[] } :: a.defers } W) :
    (Code.rangeFunc g ps assign body).wpIn F n P Q a w := by
  refine wpIn_rangeFunc fun fn hfn => ?_
  rw [hro]
  obtain ⟨W1, hW1⟩ : ∃ W1, (w.alloc (.deferred (some []))).alloc (.loop { state := .ready, pending := none, fn, tmps := a.tmps, params := ps, assign, body, defers := w.heap.size }) = W1 := ⟨_, rfl⟩
  have hz : W1.heap.size = w.heap.size + 2 := by rw [← hW1]; simp
  have hL1 : W1.heap[w.heap.size + 1]? = some (.loop { state := .ready, pending := none, fn, tmps := a.tmps, params := ps, assign, body, defers := w.heap.size }) := by
    rw [← hW1]; have := World.alloc_heap_new (w.alloc (.deferred (some []))) (.loop { state := .ready, pending := none, fn, tmps := a.tmps, params := ps, assign, body, defers := w.heap.size }); rwa [World.size_alloc] at this
  have hD1 : W1.heap[w.heap.size]? = some (.deferred (some [])) := by rw [← hW1]; exact (Below.heap_alloc _ _ _ (by simp)).trans (World.alloc_heap_new w _)
  have hb1 : Below w0.heap.size w0 W1 := by rw [← hW1]; exact hb0.trans ((((Below.refl _ w).alloc (Nat.le_refl _) _).alloc (by simp) _).mono hb0.size)
  refine ⟨w.heap.size + 1, [{ target := .collected w.heap.size, args := #[] }], W1, { target := .fn (.func gf) lb, args := #[.func (.yield (w.heap.size + 1)) #[] #[]] }, W1, gf,
    #[.func (.yield (w.heap.size + 1)) #[] #[]] ++ lb, W1, by rw [← hW1]; exact run_enterLoop_outer _ _ _ _ _, by simp only [resolve, hg]; simp [go_sem], fun f' hf' => by simp [Target.leads] at hf'; subst hf'; exact hFg, by simp [invoke, go_sem, eg], fun _ => h1, ?_⟩
  refine (hseq (w.heap.size + 1)
    (fun pre W => I pre W ∧ W.heap[w.heap.size + 1]? = some (.loop { state := .ready, pending := none, fn, tmps := a.tmps, params := ps, assign, body, defers := w.heap.size }) ∧ W.heap[w.heap.size]? = some (.deferred (some [])))
    W1 hb1 ?_ ?_ ⟨by rw [← hW1]; exact hI.alloc _ (hI.alloc _ h0), hL1, hD1⟩).mono ?_
  · rintro s A B ⟨hi, hl, hd⟩ hst
    rw [hz] at hst
    have hlA := (Array.getElem?_eq_some_iff.1 hl).1
    exact ⟨hIX s A B hi hst, (hst.block _ hlA (by omega)).trans hl, (hst.block _ (by omega) (by omega)).trans hd⟩
  · rintro pre x W ⟨hi, hl, hd⟩ hgd hlen hsz
    rw [hz] at hsz hgd ⊢
    exact round_gives hfn hI hps (by omega) (Nat.le_refl _) (by omega) (hAx x) hl hd (hassign _ pre x W hi hgd (by omega)) (fun a' W' hax hi' hz' => hbody _ pre x a' W' hax hi' hlen (by omega))
  · rintro e W2 ⟨⟨v, rfl⟩, xs, hS, hi, hl, hd⟩
    exact ⟨none, _, run_endLoop hl (by simp), hdone _ xs _ (Nat.le_refl _) hS (hI.putObj _ hi (by omega) hl rfl) ((World.putObj_heap_other (by omega)).trans hd)⟩
end
end Go.Proofs.YtlnahhlddekhoaaGreatDoor
namespace Go.Proofs.YtlnahhlddekhoaaGreatDoor
open Go.RowKit Go.Shelf
attribute [local go_sem] Oper.semAt_some

theorem StepX.ofExt {X : Nat → Prop} {A B : World} (h : Ext A B) : StepX X A B := ⟨h.os, h.tape, h.output, h.size, fun k hk _ => h.block k hk⟩
theorem mask_low {x low : Nat} (h : x < 4096) (hl : low ≤ 12) : bits .and .i64 (x : Int) (wrap64 (wrap64 (2 ^ low) - 1)) = ((x % 2 ^ low : Nat) : Int) := by
  have hp : (2 : Nat) ^ low ≤ 4096 := by
    have := Nat.pow_le_pow_right (show 0 < 2 by decide) hl
    simpa using this
  have h1 : (2 : Int) ^ low = ((2 ^ low : Nat) : Int) := by push_cast; rfl
  have h0 : 0 < 2 ^ low := Nat.two_pow_pos low
  have e1 : wrap64 (2 ^ low) = 2 ^ low := by rw [h1]; unfold wrap64; omega
  have e2 : wrap64 ((2 : Int) ^ low - 1) = 2 ^ low - 1 := by rw [h1]; unfold wrap64; omega
  rw [e1, e2, bits_mask .i64 62 (by decide) i64_small low (by omega) (x : Int) (by omega) (by omega), h1]
  exact (Int.natCast_emod x (2 ^ low)).symm

theorem StepX.grown {X : Nat → Prop} {A B C : World} {row : Option Nat} (h : StepX X A B) (hr : ∀ k, row = some k → A.heap.size ≤ k) (hg : B.grownBy C row) : StepX X A C :=
  ⟨hg.os.trans h.os, hg.tape.trans h.tape, hg.output.trans h.output, Nat.le_trans h.size hg.size, fun i hi hx => (hg.block i (Nat.lt_of_lt_of_le hi h.size) (fun e => by have := hr i e.symm; omega)).trans (h.block i hi hx)⟩
theorem wrap_eq (x : Int) : IntKind.i64.wrap x = wrap64 x := by rw [IntKind.wrap_i64]; unfold wrap64; omega
theorem mask_low' {x low : Nat} (h : x < 4096) (hl : low ≤ 12) : bits .and .i64 (x : Int) (IntKind.i64.wrap (IntKind.i64.wrap (2 ^ low) - 1)) = ((x % 2 ^ low : Nat) : Int) := by
  rw [wrap_eq, wrap_eq]; exact mask_low h hl
theorem castL_inj {a b : List Nat} (h : castL a = castL b) : a = b := (List.map_inj_right (fun x y e => by exact_mod_cast e)).1 h
theorem runsF_pos (low : Nat) (is : List Nat) : ∀ (m v : Nat) (cur : Nat × List Nat), 1 ≤ (runsF low is m v cur).length := by
  intro m
  induction m with
  | zero => intro v cur; simp [runsF]
  | succ m ih =>
    intro v cur
    unfold runsF
    split
    · exact ih _ _
    · simp
def sLen : Value → Nat
  | .slice _ n _ => n
  | _ => 0
theorem sorted_len {is : List Nat} (h : is.Pairwise (· < ·)) (hb : ∀ x ∈ is, x < 4096) : is.length ≤ 4096 := by
  have key : ∀ (l : List Nat) (m : Nat), l.Pairwise (· < ·) → (∀ x ∈ l, m ≤ x ∧ x < 4096) → m + l.length ≤ 4096 ∨ l = [] := by
    intro l
    induction l with
    | nil => intro m _ _; exact .inr rfl
    | cons a r ih =>
      intro m h hm
      rw [List.pairwise_cons] at h
      have ha := hm a (by simp)
      rcases ih (a + 1) h.2 (fun x hx => ⟨h.1 x hx, (hm x (by simp [hx])).2⟩) with c | c
      · left; simp; omega
      · subst c; left; simp; omega
  rcases key is 0 h (fun x hx => ⟨Nat.zero_le _, hb x hx⟩) with c | c
  · omega
  · subst c; simp
end Go.Proofs.YtlnahhlddekhoaaGreatDoor
namespace Go.Proofs.YtlnahhlddekhoaaGreatDoor
open Go.RowKit

theorem mask_nat12 (n : Int) (k : Nat) (hk : k ≤ 12) : bits .and .i64 n (2 ^ k - 1) = n % 2 ^ k := by
  have e : ((2 : Int) ^ k - 1) = ((2 ^ k - 1 : Nat) : Int) := by rw [Int.natCast_sub (Nat.two_pow_pos k)]; simp
  have hs : 2 ^ k ≤ 2 ^ 12 := Nat.pow_le_pow_right (by decide) hk
  have hp : 0 < 2 ^ k := Nat.two_pow_pos k
  have key : (BitVec.ofInt 64 n &&& BitVec.ofInt 64 ((2 : Int) ^ k - 1)).toNat = (n % ((2 ^ 64 : Nat) : Int)).toNat % 2 ^ k := by
    rw [BitVec.toNat_and, BitVec.toNat_ofInt, e, BitVec.ofInt_natCast, BitVec.toNat_ofNat, Nat.mod_eq_of_lt (a := 2 ^ k - 1) (by omega), Nat.and_two_pow_sub_one_eq_mod]
  show IntKind.i64.wrap ((BitVec.ofInt 64 n &&& BitVec.ofInt 64 ((2 : Int) ^ k - 1)).toNat : Nat) = n % 2 ^ k
  rw [key]
  have : k = 0 ∨ k = 1 ∨ k = 2 ∨ k = 3 ∨ k = 4 ∨ k = 5 ∨ k = 6 ∨ k = 7 ∨ k = 8 ∨ k = 9 ∨ k = 10 ∨ k = 11 ∨ k = 12 := by omega
  rw [IntKind.wrap_i64]
  rcases this with rfl | rfl | rfl | rfl | rfl | rfl | rfl | rfl | rfl | rfl | rfl | rfl | rfl <;> omega
theorem mask12 {n s : Int} (h0 : 0 ≤ s) (h : s ≤ 12) : bits .and .i64 n (pw s - 1) = n % pw s := by
  unfold pw; exact mask_nat12 n _ (by omega)
def lenOf : Value → Nat
  | .slice _ n _ => n
  | _ => 0
end Go.Proofs.YtlnahhlddekhoaaGreatDoor
