/-
  The runs of the last cell of a set of states, in plain words.
  A range over a function whose iterator keeps two variables of its own (one laid ahead of the loop, one when it begins): the law for a body that never leaves the loop.
  The iterator states.runs$1: what it hands over.
-/
import Derived.Test.YtlcgbdjmlnjhcaaGreatDoorG01
import Derived.RangeFuncNested
import Derived.RangeFuncBound
import Derived.RangeFuncCalls
import Derived.RangeFuncLeaves
import Derived.RangeFuncWrites
import Derived.Shelf.Abstract
import Derived.WalkKit
import Derived.Test.YtlcgbdjmlnjhcaaGreatDoorG10
import Derived.OwnWalkIn
import Derived.TacticsInMore
import Derived.LoopNIn
import Derived.LoopIn
import Derived.Maps.AppendAt
import Derived.Sort.CutIn
import Derived.Deep.AppendLies
import Derived.Deep.RegionHeld3
import Derived.Shelf.RegionOpen
namespace Go.Proofs.YtlcgbdjmlnjhcaaGreatDoor
open Go.RowKit

/-- The elements whose last cell is v, without that cell; those from v on. -/
def grp (low : Nat) (is : List Nat) (v : Nat) : List Nat := is.filter fun x => decide (x / 2 ^ low = v)
def part (low : Nat) (is : List Nat) (v : Nat) : List Nat := (grp low is v).map fun x => x % 2 ^ low
def rest (low : Nat) (is : List Nat) (v : Nat) : List Nat := is.filter fun x => decide (v ≤ x / 2 ^ low)
theorem rest_zero (low : Nat) (is : List Nat) : rest low is 0 = is := by unfold rest; simp
theorem rest_split (low : Nat) {is : List Nat} (h : is.Pairwise (· < ·)) (v : Nat) : rest low is v = grp low is v ++ rest low is (v + 1) := by
  induction is with
  | nil => rfl
  | cons a r ih =>
    rw [List.pairwise_cons] at h
    have ih := ih h.2
    unfold rest grp at *
    simp only [List.filter_cons]
    by_cases c1 : a / 2 ^ low = v
    · rw [if_pos (by simp [c1]), if_pos (by simp [c1]), if_neg (by simp [c1]), ih]; rfl
    · by_cases c2 : v ≤ a / 2 ^ low
      · have hnil : r.filter (fun x => decide (x / 2 ^ low = v)) = [] := by
          rw [List.filter_eq_nil_iff]
          intro x hx hc
          simp only [decide_eq_true_eq] at hc
          have := Nat.div_le_div_right (c := 2 ^ low) (Nat.le_of_lt (h.1 x hx))
          omega
        rw [if_pos (by simpa using c2), if_neg (by simpa using c1), if_pos (by simp; omega), hnil]
        rw [hnil] at ih
        rw [ih]; rfl
      · rw [if_neg (by simpa using c2), if_neg (by simpa using c1), if_neg (by simp; omega), ih]
theorem rest_head {low : Nat} {is : List Nat} (h : is.Pairwise (· < ·)) (v j : Nat) : (j < (grp low is v).length → ∃ x, ((rest low is v).drop j) = x :: ((rest low is v).drop (j + 1)) ∧ x / 2 ^ low = v ∧ x ∈ is ∧ (part low is v).take (j + 1) = (part low is v).take j ++ [x % 2 ^ low]) ∧
    (∀ x r, (rest low is v).drop (grp low is v).length = x :: r → ¬ x / 2 ^ low = v) ∧ (rest low is v).drop (grp low is v).length = rest low is (v + 1) := by
  have hd : (rest low is v).drop (grp low is v).length = rest low is (v + 1) := by rw [rest_split low h v]; simp
  refine ⟨fun hj => ?_, fun x r e c => ?_, hd⟩
  · have hm : (grp low is v)[j] ∈ grp low is v := List.getElem_mem hj
    have hm2 := hm
    unfold grp at hm2
    rw [List.mem_filter, decide_eq_true_eq] at hm2
    refine ⟨(grp low is v)[j], ?_, hm2.2, hm2.1, ?_⟩
    · have hl : j < (rest low is v).length := by rw [rest_split low h v, List.length_append]; omega
      rw [List.drop_eq_getElem_cons hl]
      congr 1
      simp only [rest_split low h v]
      rw [List.getElem_append_left hj]
    · unfold part
      rw [List.take_succ_eq_append_getElem (by rw [List.length_map]; exact hj), List.getElem_map]
  · rw [hd] at e
    have : x ∈ rest low is (v + 1) := by rw [e]; simp
    unfold rest at this
    rw [List.mem_filter, decide_eq_true_eq] at this
    omega
theorem part_len (low : Nat) (is : List Nat) (v : Nat) : (part low is v).length = (grp low is v).length := by unfold part; rw [List.length_map]
theorem grp_len (low : Nat) (is : List Nat) (v : Nat) : (grp low is v).length ≤ is.length := List.length_filter_le _ _
/-- The runs from a value on, behind a current one. -/
def runsF (low : Nat) (is : List Nat) : Nat → Nat → Nat × List Nat → List (Nat × List Nat)
  | 0, _, cur => [cur]
  | m + 1, v, cur => if part low is v = cur.2 then runsF low is m (v + 1) (v, part low is v) else cur :: runsF low is m (v + 1) (v, part low is v)
def runsL (low w : Nat) (is : List Nat) : List (Nat × List Nat) := runsF low is (2 ^ w - 1) 1 (0, part low is 0)
theorem runsF_len (low : Nat) (is : List Nat) : ∀ (m v : Nat) (cur : Nat × List Nat), (runsF low is m v cur).length ≤ m + 1 := by
  intro m
  induction m with
  | zero => intro v cur; simp [runsF]
  | succ m ih =>
    intro v cur
    unfold runsF
    split
    · have := ih (v + 1) (v, part low is v); omega
    · have := ih (v + 1) (v, part low is v); simp; omega
end Go.Proofs.YtlcgbdjmlnjhcaaGreatDoor
namespace Go.Proofs.YtlcgbdjmlnjhcaaGreatDoor
open Go.RowKit Go.Shelf

/-- A step of the iterator: of what lies there its own blocks alone may turn. -/
structure StepX (X : Nat → Prop) (A B : World) : Prop where
  os : B.os = A.os
  tape : B.tape = A.tape
  output : B.output = A.output
  size : A.heap.size ≤ B.heap.size
  block : ∀ k, k < A.heap.size → ¬ X k → B.heap[k]? = A.heap[k]?
theorem StepX.refl (X : Nat → Prop) (A : World) : StepX X A A := ⟨rfl, rfl, rfl, Nat.le_refl _, fun _ _ _ => rfl⟩
theorem StepX.trans {X : Nat → Prop} {A B C : World} (h : StepX X A B) (k : StepX X B C) : StepX X A C :=
  ⟨k.os.trans h.os, k.tape.trans h.tape, k.output.trans h.output, Nat.le_trans h.size k.size, fun i hi hx => (k.block i (Nat.lt_of_lt_of_le hi h.size) hx).trans (h.block i hi hx)⟩
theorem StepX.below {X : Nat → Prop} {A B C : World} (h : StepX X A B) (k : Below B.heap.size B C) : StepX X A C :=
  ⟨k.os.trans h.os, k.tape.trans h.tape, k.output.trans h.output, Nat.le_trans h.size k.size, fun i hi hx => (k.block i (Nat.lt_of_lt_of_le hi h.size)).trans (h.block i hi hx)⟩
theorem StepX.setCell {X : Nat → Prop} {A B : World} (h : StepX X A B) {p : Addr} (hp : X p.block) (v : Value) : StepX X A (B.setCell p v) :=
  ⟨h.os, h.tape, h.output, by have := h.size; simpa [World.setCell] using this, fun i hi hx => by
    rw [← h.block i hi hx]
    exact heap_setCell_other B p i v (fun e => hx (e ▸ hp))⟩
/-- The round keeps the blocks of cells that lay there ahead of the loop, are the iterator's, or of no type of the round's own. -/
structure KeepT (n₀ : Nat) (T : TypeId → Prop) (X : Nat → Prop) (A B : World) : Prop where
  size : A.heap.size ≤ B.heap.size
  same : ∀ (k : Nat) (cs : Array Value) (t : TypeId) (fr : Nat × Nat), A.heap[k]? = some (.cells cs t fr) → (k < n₀ ∨ X k ∨ ¬ T t) → B.heap[k]? = some (.cells cs t fr)
theorem KeepT.refl (n₀ : Nat) (T : TypeId → Prop) (X : Nat → Prop) (A : World) : KeepT n₀ T X A A := ⟨Nat.le_refl _, fun _ _ _ _ h _ => h⟩
theorem KeepT.trans {n₀ : Nat} {T : TypeId → Prop} {X : Nat → Prop} {A B C : World} (h : KeepT n₀ T X A B) (k : KeepT n₀ T X B C) : KeepT n₀ T X A C :=
  ⟨Nat.le_trans h.size k.size, fun i cs t fr hi hx => k.same i cs t fr (h.same i cs t fr hi hx) hx⟩
theorem KeepT.putObj {n₀ : Nat} {T : TypeId → Prop} {X : Nat → Prop} (A : World) {l : Nat} {o : Obj} (o' : Obj) (hl : A.heap[l]? = some o) (ho : o.isCells = false) : KeepT n₀ T X A (A.putObj l o') :=
  ⟨by simp, fun k cs t fr hk _ => by
    have hne : k ≠ l := fun e => by subst e; rw [hk] at hl; cases hl; cases ho
    exact (World.putObj_heap_other hne).trans hk⟩

/-- The iterator's contract: it hands over the values of a list that S describes, each good where it is handed over; between two rounds its own two variables turn, inb and the block that it lays first. -/
def GivesX {α : Type} (F : Fence) (n : Nat) (P : Program) (g : Nat) (lb : Array Value) (encs : α → Array Value) (T : TypeId → Prop) (Good : Nat → α → World → Prop) (inb : Nat) (S : List α → Prop) (N : Nat) (w : World) : Prop :=
  ∀ (l : Nat) (J : List α → World → Prop) (W : World), Below w.heap.size w W →
    (∀ s A B, J s A → StepX (fun k => k = inb ∨ k = W.heap.size) A B → J s B) →
    (∀ pre x W1, J pre W1 → Good W.heap.size x W1 → pre.length < N → W.heap.size + 1 ≤ W1.heap.size → YieldAt F (n - 1) P l (encs x) W1 fun e W' => e = .returned (.bool true) ∧ J (pre ++ [x]) W' ∧ KeepT w.heap.size T (fun k => k = inb ∨ k = W.heap.size) W1 W') →
    J [] W →
    CallsIn F n P g (#[.func (.yield l) #[] #[]] ++ lb) W fun e W' => (∃ v, e = .returned v) ∧ ∃ xs, S xs ∧ J xs W'

/-- How a body that never leaves ends. -/
def bodyX {α : Type} (B n₀ : Nat) (T : TypeId → Prop) (X : Nat → Prop) (I : List α → World → Prop) (xs : List α) (W : World) : Exit → Act → World → Prop
  | .normal, _, W' => KeepsFrom B W W' ∧ KeepT n₀ T X W W' ∧ I xs W'
  | _, _, _ => False

section
variable {F : Fence} {n : Nat} {P : Program}
/-- Nothing but a record has turned. -/
def SameCells (A B : World) : Prop := B.heap.size = A.heap.size ∧ ∀ (k : Nat) (o : Obj), A.heap[k]? = some o → o.isCells = true → B.heap[k]? = some o
theorem SameCells.putObj (A : World) {l : Nat} {o : Obj} (o' : Obj) (hl : A.heap[l]? = some o) (ho : o.isCells = false) : SameCells A (A.putObj l o') :=
  ⟨by simp, fun k o2 hk h2 => (World.putObj_heap_other (fun e => by subst e; rw [hl] at hk; cases hk; rw [ho] at h2; cases h2)).trans hk⟩
/-- One round: the record is ready ahead of it and behind it. -/
theorem round_gives {α : Type} {ps : Array Tmp} {assign body : Code} {fn : Nat} (hfn : F.fn fn) {tm : Array Value} {m n₀ : Nat} {T : TypeId → Prop} {X : Nat → Prop} {encs : α → Array Value} {I : List α → World → Prop} {B : Nat}
    (hI : OwnFrom B I) (hps : ∀ x, (encs x).size = ps.size) {l D : Nat} (hBl : B ≤ l) (hBD : B ≤ D) (hlD : l ≠ D) {pre : List α} {x : α} {W : World} {Ax : Act → World → Prop} (hAx : ∀ a' A A', Ax a' A → SameCells A A' → Ax a' A')
    (hl : W.heap[l]? = some (.loop { state := .ready, pending := none, fn, tmps := tm, params := ps, assign, body, defers := D })) (hD : W.heap[D]? = some (.deferred (some [])))
    (hassign : assign.wpIn (F.inRound l) m P (Exit.then (fun a' W' => Ax a' W' ∧ I pre W' ∧ KeepsFrom B W W' ∧ KeepT n₀ T X W W') (fun _ _ _ => False)) { tmps := (ps.zip (encs x)).foldl (fun t (p, v) => t.setIfInBounds p v) tm, defers := [] } W)
    (hbody : ∀ (a' : Act) (W' : World), Ax a' W' → I pre W' → W.heap.size ≤ W'.heap.size → body.wpIn (F.inRound l) m P (bodyX B n₀ T X I (pre ++ [x]) W') a' W') :
    YieldAt F m P l (encs x) W fun e W' => e = .returned (.bool true) ∧ (I (pre ++ [x]) W' ∧ W'.heap[l]? = some (.loop { state := .ready, pending := none, fn, tmps := tm, params := ps, assign, body, defers := D }) ∧ W'.heap[D]? = some (.deferred (some []))) ∧ KeepT n₀ T X W W' := by
  refine ⟨fn, _, assign, body, run_yield (P := P) (args := encs x) hl (hps x), roundIn_of_wpIn hfn (wpIn_mono hassign ?_)⟩
  intro e a' V hp
  cases e with
  | normal =>
    obtain ⟨ax, i0, k0, kt0⟩ := hp
    have hl0 := k0.same l _ hBl hl rfl
    have hD0 := k0.same D _ hBD hD rfl
    have hlt : l < V.heap.size := (Array.getElem?_eq_some_iff.1 hl0).1
    refine ⟨_, run_beginRound hl0 rfl, ?_⟩
    have h1 := hI.putObj (.loop { state := .busy, pending := none, fn, tmps := tm, params := ps, assign, body, defers := D }) i0 hBl hl0 rfl
    have hl1 : (V.putObj l (.loop { state := .busy, pending := none, fn, tmps := tm, params := ps, assign, body, defers := D })).heap[l]? = some (.loop { state := .busy, pending := none, fn, tmps := tm, params := ps, assign, body, defers := D }) := World.putObj_heap_same hlt
    have hD1 : (V.putObj l (.loop { state := .busy, pending := none, fn, tmps := tm, params := ps, assign, body, defers := D })).heap[D]? = some (.deferred (some [])) := (World.putObj_heap_other (Ne.symm hlD)).trans hD0
    refine wpIn_mono (hbody a' _ (hAx _ _ _ ax (SameCells.putObj V _ hl0 rfl)) h1 (by have := k0.size; simpa using this)) ?_
    rintro e a3 W3 hp
    cases e with
    | normal =>
      obtain ⟨k3, kt3, i3⟩ := hp
      have hl3 := k3.same l _ hBl hl1 rfl
      have hD3 := k3.same D _ hBD hD1 rfl
      have hlt3 : l < W3.heap.size := (Array.getElem?_eq_some_iff.1 hl3).1
      refine ⟨_, _, run_endRound none hl3, rfl, ⟨hI.putObj _ i3 hBl hl3 rfl, World.putObj_heap_same hlt3, (World.putObj_heap_other (Ne.symm hlD)).trans hD3⟩, ?_⟩
      exact ((kt0.trans (KeepT.putObj V _ hl0 rfl)).trans kt3).trans (KeepT.putObj W3 _ hl3 rfl)
    | _ => exact hp.elim
  | _ => exact hp.elim

/-- The law. -/
theorem wpIn_range_box {α : Type} {g : Operand} {ps : Array Tmp} {assign body : Code} {Q : Exit → Act → World → Prop} {a : Act} {w : World}
    (hro : F.round = none) (h1 : 1 ≤ n) {gf : Nat} {lb : Array Value} (hg : a.eval g = .func (.func gf) #[] lb) (hFg : F.fn gf) (eg : ∀ args w, (callFunc gf args).run P w = .ok (.enter gf args) w)
    {encs : α → Array Value} {T : TypeId → Prop} {Good : Nat → α → World → Prop} {inb : Nat} {S : List α → Prop} {N : Nat} {w0 : World} (hseq : GivesX F (n - 1) P gf lb encs T Good inb S N w0) (hb0 : Below w0.heap.size w0 w) (hin : inb < w.heap.size) (hps : ∀ x, (encs x).size = ps.size)
    (I : List α → World → Prop) (hI : OwnFrom w.heap.size I) (hIX : ∀ s A B, I s A → StepX (fun k => k = inb ∨ k = w.heap.size + 2) A B → I s B) (h0 : I [] w) (Ax : α → Act → World → Prop) (hAx : ∀ x a' A A', Ax x a' A → SameCells A A' → Ax x a' A')
    (hassign : ∀ (l : Nat) (pre : List α) (x : α) (W : World), I pre W → Good (w.heap.size + 2) x W → w.heap.size + 3 ≤ W.heap.size →
      assign.wpIn (F.inRound l) (n - 1 - 1) P (Exit.then (fun a' W' => Ax x a' W' ∧ I pre W' ∧ KeepsFrom w.heap.size W W' ∧ KeepT w0.heap.size T (fun k => k = inb ∨ k = w.heap.size + 2) W W') (fun _ _ _ => False)) { tmps := (ps.zip (encs x)).foldl (fun t (p, v) => t.setIfInBounds p v) a.tmps, defers := [] } W)
    (hbody : ∀ (l : Nat) (pre : List α) (x : α) (a' : Act) (W : World), Ax x a' W → I pre W → pre.length < N → w.heap.size + 3 ≤ W.heap.size → body.wpIn (F.inRound l) (n - 1 - 1) P (bodyX w.heap.size w0.heap.size T (fun k => k = inb ∨ k = w.heap.size + 2) I (pre ++ [x]) W) a' W)
    (hdone : ∀ (D : Nat) (xs : List α) (W : World), w.heap.size ≤ D → S xs → I xs W → W.heap[D]? = some (.deferred (some [])) → Q .normal { a with defers := { target := .collected D, args := #[] } :: a.defers } W) :
    (Code.rangeFunc g ps assign body).wpIn F n P Q a w := by
  refine wpIn_rangeFunc fun fn hfn => ?_
  rw [hro]
  obtain ⟨W1, hW1⟩ : ∃ W1, (w.alloc (.deferred (some []))).alloc (.loop { state := .ready, pending := none, fn, tmps := a.tmps, params := ps, assign, body, defers := w.heap.size }) = W1 := ⟨_, rfl⟩
  have hz : W1.heap.size = w.heap.size + 2 := by rw [← hW1]; simp
  have hL1 : W1.heap[w.heap.size + 1]? = some (.loop { state := .ready, pending := none, fn, tmps := a.tmps, params := ps, assign, body, defers := w.heap.size }) := by
    rw [← hW1]; have := World.alloc_heap_new (w.alloc (.deferred (some []))) (.loop { state := .ready, pending := none, fn, tmps := a.tmps, params := ps, assign, body, defers := w.heap.size }); rwa [World.size_alloc] at this
  have hD1 : W1.heap[w.heap.size]? = some (.deferred (some [])) := by rw [← hW1]; exact (Below.heap_alloc _ _ _ (by simp)).trans (World.alloc_heap_new w _)
  have hb1 : Below w0.heap.size w0 W1 := by rw [← hW1]; exact hb0.trans ((((Below.refl _ w).alloc (Nat.le_refl _) _).alloc (by simp) _).mono hb0.size)
  refine ⟨w.heap.size + 1, [{ target := .collected w.heap.size, args := #[] }], W1, { target := .fn (.func gf) lb, args := #[.func (.yield (w.heap.size + 1)) #[] #[]] }, W1, gf,
    #[.func (.yield (w.heap.size + 1)) #[] #[]] ++ lb, W1, by rw [← hW1]; exact run_enterLoop_outer _ _ _ _ _, by simp only [resolve, hg]; simp [go_sem], fun f' hf' => by simp [Target.leads] at hf'; subst hf'; exact hFg, by simp [invoke, go_sem, eg], fun _ => h1, ?_⟩
  refine (hseq (w.heap.size + 1)
    (fun pre W => I pre W ∧ W.heap[w.heap.size + 1]? = some (.loop { state := .ready, pending := none, fn, tmps := a.tmps, params := ps, assign, body, defers := w.heap.size }) ∧ W.heap[w.heap.size]? = some (.deferred (some [])))
    W1 hb1 ?_ ?_ ⟨by rw [← hW1]; exact hI.alloc _ (hI.alloc _ h0), hL1, hD1⟩).mono ?_
  · rintro s A B ⟨hi, hl, hd⟩ hst
    rw [hz] at hst
    have hlA := (Array.getElem?_eq_some_iff.1 hl).1
    exact ⟨hIX s A B hi hst, (hst.block _ hlA (by omega)).trans hl, (hst.block _ (by omega) (by omega)).trans hd⟩
  · rintro pre x W ⟨hi, hl, hd⟩ hgd hlen hsz
    rw [hz] at hsz hgd ⊢
    exact round_gives hfn hI hps (by omega) (Nat.le_refl _) (by omega) (hAx x) hl hd (hassign _ pre x W hi hgd (by omega)) (fun a' W' hax hi' hz' => hbody _ pre x a' W' hax hi' hlen (by omega))
  · rintro e W2 ⟨⟨v, rfl⟩, xs, hS, hi, hl, hd⟩
    exact ⟨none, _, run_endLoop hl (by simp), hdone _ xs _ (Nat.le_refl _) hS (hI.putObj _ hi (by omega) hl rfl) ((World.putObj_heap_other (by omega)).trans hd)⟩
end
end Go.Proofs.YtlcgbdjmlnjhcaaGreatDoor
namespace Go.Proofs.YtlcgbdjmlnjhcaaGreatDoor
open Go.RowKit Go.Shelf
attribute [local go_sem] Oper.semAt_some

/-- An int appended to a row of the call's own, in a region that draws its order. -/
theorem step_append_int {ops : Array Oper} {o : Oper} {a : Act} {K : Act → World → Prop} {Q : Exit → Act → World → Prop} {E' : Prop} (hgd : o.guard = none) (s x : Operand)
    (ho : o.op = .call { callee := .builtin .append, args := #[s, x], argTypes := #[35, 35] }) (base : Nat) (wr : World) (H : Nat) (hH : wr.heap.size = H) (v : Value) (l : List Int) (n : Int)
    (hs : a.eval s = v) (hx' : a.eval x = .slice (some ⟨H, 0, none⟩) 1 1) (hown : OwnInts wr base v l) (hl : l.length ≤ 1000000000) (hb : base ≤ wr.heap.size)
    (h : ∀ g cap w', OwnInts w' base (.slice (some ⟨g, 0, none⟩) (l.length + 1) cap) (l ++ [n]) → wr.grownBy w' v.ownBlock → K (a.put o.dst (.slice (some ⟨g, 0, none⟩) (l.length + 1) cap)) w') :
    if Region.wanted o (yielded ops a.tmps) = true then Oper.wp Tryz.prog o a (wr.alloc (.cells #[.int .i64 n] 3)) K Q else E' := by
  obtain ⟨i0, hi, hz0, hz1, hz2⟩ := info_parts infoInt
  have hx : a.eval x = .slice (some ⟨wr.heap.size, 0, none⟩) 1 1 := by rw [hH]; exact hx'
  refine step_append_lies _ hgd s x 35 ho base 3 i0 (.int .i64 0) 1 8 Tryz.underlying35 hi hz0 hz1 hz2 rfl (by decide) v l.length (l.map (Value.int .i64)) hs (hown.kept ((Ext.refl wr).alloc _)) ⟨wr.heap.size, 0, none⟩ 1 1 [.int .i64 n] hx rfl (cell_one_new _ _ _) (fun u hu => by simp at hu; subst hu; rfl) (by decide) ?_ ?_ ?_ (wr.heap.size + 1) (by simp) ?_
  · unfold maxLen; omega
  · omega
  · simp; omega
  · intro g cap w' h1 h2 _ _
    refine h g cap w' (by simpa [OwnInts] using h1) ⟨h2.os, h2.tape, h2.output, by have := h2.size; simp at this; omega, fun k hk hne => by rw [h2.block k (by simp; omega) hne]; exact Below.heap_alloc wr _ k hk⟩
/-- A run as it is handed over. -/
structure RunX where
  last : Nat
  l : List Nat
  a : Option Addr
  c : Nat
def RunX.v (x : RunX) : Value := .agg #[.int .i64 x.last, .slice x.a (castL x.l).length x.c]
def RunX.pr (x : RunX) : Nat × List Nat := (x.last, x.l)
def goodRun (E : Nat) (x : RunX) (W : World) : Prop := OwnInts W (E + 1) (.slice x.a (castL x.l).length x.c) (castL x.l)
/-- The types of the blocks that the loop's body may write. -/
def runT (t : TypeId) : Prop := t = 120 ∨ t = 117

/-- What the iterator finds: its captured variables, its own one, the list that is left (in the world w0 of its making). -/
structure RunI (w0 : World) (E Bw Bin Bl w low : Nat) (left : List Nat) (lst : Nat) (cl : List Nat) (a : Option Addr) (c : Nat) (a' : Option Addr) (c' : Nat) (V : World) : Prop where
  bw : V.heap[Bw]? = some (.cells #[.int .i64 w] 3 (0, 0))
  bl : V.heap[Bl]? = some (.cells #[.int .i64 low] 3 (0, 0))
  bin : V.heap[Bin]? = some (.cells #[.slice a' (castL left).length c'] 35 (0, 0))
  cur : V.heap[E]? = some (.cells #[.int .i64 lst, .slice a (castL cl).length c] 120 (0, 0))
  own : OwnInts V (E + 1) (.slice a (castL cl).length c) (castL cl)
  lft : Ints w0 (.slice a' (castL left).length c') (castL left)
  old : ∀ (k : Nat) (cs : Array Value) (t : TypeId) (fr : Nat × Nat), w0.heap[k]? = some (.cells cs t fr) → k ≠ Bin → V.heap[k]? = some (.cells cs t fr)
  size : E + 1 ≤ V.heap.size
  cap : (castL left).length ≤ c'
/-- The captured variables lie ahead of the iterator. -/
structure RunB (w0 : World) (E Bw Bin Bl : Nat) (sv : Value) (w low : Nat) : Prop where
  bw : w0.heap[Bw]? = some (.cells #[.int .i64 w] 3 (0, 0))
  bl : w0.heap[Bl]? = some (.cells #[.int .i64 low] 3 (0, 0))
  bin : w0.heap[Bin]? = some (.cells #[sv] 35 (0, 0))
  size : w0.heap.size ≤ E
/-- The first of what is left, where it can be read. -/
theorem RunI.head {w0 : World} {E Bw Bin Bl w low : Nat} {left : List Nat} {lst : Nat} {cl : List Nat} {a : Option Addr} {c : Nat} {a' : Option Addr} {c' : Nat} {V : World} {sv : Value} (h : RunI w0 E Bw Bin Bl w low left lst cl a c a' c' V) (hB : RunB w0 E Bw Bin Bl sv w low) (hsv : ∃ x y z, sv = .slice x y z) {x : Nat} {r : List Nat} (hl : left = x :: r) :
    ∃ b o, a' = some ⟨b, o, none⟩ ∧ b < w0.heap.size ∧ V.cell? ⟨b, o, none⟩ = some (.int .i64 x) ∧ Ints w0 (.slice (if c' = 1 then some ⟨b, o, none⟩ else some ⟨b, o + 1, none⟩) (castL r).length (c' - 1)) (castL r) ∧ (castL r).length ≤ c' - 1 := by
  have hI := h.lft
  have hcap := h.cap
  subst hl
  rcases hI with ⟨_, e⟩ | ⟨b, o, cc, e, hm, hc⟩
  · simp [castL] at e
  · cases e
    have h0 := hc 0 (by simp [castL])
    rw [Nat.zero_mul, Nat.add_zero] at h0
    have h0' : w0.cell? ⟨b, o, none⟩ = some (.int .i64 x) := by simpa [castL, IntAt] using h0
    have hcr : (castL r).length + 1 ≤ c' := by simpa [castL] using hcap
    refine ⟨b, o, rfl, block_lt h0', ?_, ?_, by omega⟩
    · obtain ⟨x1, x2, x3, rfl⟩ := hsv
      unfold World.cell? at h0' ⊢
      cases hb : w0.heap[b]? with
      | none => rw [hb] at h0'; cases h0'
      | some ob =>
        cases ob with
        | cells cs t fr =>
          have hne : b ≠ Bin := fun e => by
            subst e
            rw [hB.bin] at h0'
            simp only at h0'
            cases o with
            | zero => simp at h0'
            | succ o => simp at h0'
          have hv := h.old b cs t fr hb hne
          simp only [hb] at h0'
          simp only [hv]; exact h0'
        | _ => rw [hb] at h0'; simp at h0'
    · by_cases e1 : c' = 1
      · have hr : r = [] := by
          have : r.length = 0 := by simp [castL] at hcr; omega
          exact List.length_eq_zero_iff.1 this
        subst hr
        rw [if_pos e1]; exact .inl ⟨⟨_, _, rfl⟩, rfl⟩
      · rw [if_neg e1]
        refine .inr ⟨b, o + 1, c' - 1, rfl, by simp [castL] at hm ⊢; omega, fun i hi => ?_⟩
        have h1 := hc (i + 1) (by simp [castL] at hi ⊢; omega)
        rw [show o + 1 + i * 1 = o + (i + 1) * 1 by omega]
        simpa [castL] using h1
theorem OwnInts.typed {w : World} {base : Nat} {v : Value} {l : List Int} (h : OwnInts w base v l) (k : Nat) (hk : v.ownBlock = some k) : ∃ cs : Array Value, w.heap[k]? = some (.cells cs 3 (0, 0)) := by
  rcases h.2 with ⟨rfl, _⟩ | ⟨g, cap, cur, rfl, hg, hh, _⟩
  · cases hk
  · cases hk; exact ⟨_, hh⟩
theorem OwnInts.keep' {w w' : World} {base : Nat} {v : Value} {l : List Int} (h : OwnInts w base v l) (hk : ∀ k, v.ownBlock = some k → w'.heap[k]? = w.heap[k]?) : OwnInts w' base v l := by
  obtain ⟨h1, h2⟩ := h
  refine ⟨h1, ?_⟩
  rcases h2 with h2 | ⟨g, cap, cur, hv, hg, hh, r⟩
  · exact .inl h2
  · exact .inr ⟨g, cap, cur, hv, hg, by rw [hk g (by rw [hv]; rfl)]; exact hh, r⟩
theorem OwnInts.lt' {w : World} {base : Nat} {v : Value} {l : List Int} (h : OwnInts w base v l) (k : Nat) (hk : v.ownBlock = some k) : k < w.heap.size := by
  obtain ⟨cs, hc⟩ := h.typed k hk; exact (Array.getElem?_eq_some_iff.1 hc).1
/-- A world that has only grown. -/
theorem RunI.ext {w0 : World} {E Bw Bin Bl w low : Nat} {left : List Nat} {lst : Nat} {cl : List Nat} {a : Option Addr} {c : Nat} {a' : Option Addr} {c' : Nat} {V V' : World} (h : RunI w0 E Bw Bin Bl w low left lst cl a c a' c' V) (hx : Ext V V') : RunI w0 E Bw Bin Bl w low left lst cl a c a' c' V' := by
  have ke : ∀ (k : Nat) (o : Obj), V.heap[k]? = some o → V'.heap[k]? = some o := fun k o hk => (hx.block k (Array.getElem?_eq_some_iff.1 hk).1).trans hk
  exact ⟨ke _ _ h.bw, ke _ _ h.bl, ke _ _ h.bin, ke _ _ h.cur, h.own.kept hx, h.lft, fun k cs t fr hk hn => ke _ _ (h.old k cs t fr hk hn), Nat.le_trans h.size hx.size, h.cap⟩
/-- A round of the loop's body. -/
theorem RunI.keepT {w0 : World} {E Bw Bin Bl w low : Nat} {left : List Nat} {lst : Nat} {cl : List Nat} {a : Option Addr} {c : Nat} {a' : Option Addr} {c' : Nat} {V V' : World} {sv : Value} (h : RunI w0 E Bw Bin Bl w low left lst cl a c a' c' V) (hB : RunB w0 E Bw Bin Bl sv w low) (hk : KeepT w0.heap.size runT (fun k => k = Bin ∨ k = E) V V') : RunI w0 E Bw Bin Bl w low left lst cl a c a' c' V' := by
  have lt0 : ∀ (k : Nat) (o : Obj), w0.heap[k]? = some o → k < w0.heap.size := fun k o hk => (Array.getElem?_eq_some_iff.1 hk).1
  have hti : ¬ runT 3 := by unfold runT; decide
  refine ⟨hk.same _ _ _ _ h.bw (.inl (lt0 _ _ hB.bw)), hk.same _ _ _ _ h.bl (.inl (lt0 _ _ hB.bl)), hk.same _ _ _ _ h.bin (.inl (lt0 _ _ hB.bin)), hk.same _ _ _ _ h.cur (.inr (.inl (.inr rfl))), h.own.keep' fun k hk' => ?_, h.lft, fun k cs t fr h1 h2 => hk.same _ _ _ _ (h.old k cs t fr h1 h2) (.inl (lt0 _ _ h1)), Nat.le_trans h.size hk.size, h.cap⟩
  obtain ⟨cs, hc⟩ := h.own.typed k hk'
  rw [hc]; exact hk.same _ _ _ _ hc (.inr (.inr hti))
/-- The iterator's variable is set anew. -/
theorem RunI.setCur {w0 : World} {E Bw Bin Bl w low : Nat} {left : List Nat} {lst : Nat} {cl : List Nat} {a : Option Addr} {c : Nat} {a' : Option Addr} {c' : Nat} {V : World} {sv : Value} (h : RunI w0 E Bw Bin Bl w low left lst cl a c a' c' V) (hB : RunB w0 E Bw Bin Bl sv w low) (v : Nat) (p : List Nat) (pa : Option Addr) (pc : Nat) (ho : OwnInts V (E + 1) (.slice pa (castL p).length pc) (castL p)) :
    RunI w0 E Bw Bin Bl w low left v p pa pc a' c' ((V.setCell ⟨E, 0, none⟩ (.int .i64 v)).setCell ⟨E, 1, none⟩ (.slice pa (castL p).length pc)) := by
  have lt0 : ∀ (k : Nat) (o : Obj), w0.heap[k]? = some o → k < w0.heap.size := fun k o hk => (Array.getElem?_eq_some_iff.1 hk).1
  have hs := hB.size
  have oth : ∀ k, k ≠ E → ((V.setCell ⟨E, 0, none⟩ (.int .i64 v)).setCell ⟨E, 1, none⟩ (.slice pa (castL p).length pc)).heap[k]? = V.heap[k]? := fun k hk => by
    rw [heap_setCell_other _ _ _ _ hk, heap_setCell_other _ _ _ _ hk]
  refine ⟨(oth _ (by have := lt0 _ _ hB.bw; omega)).trans h.bw, (oth _ (by have := lt0 _ _ hB.bl; omega)).trans h.bl, (oth _ (by have := lt0 _ _ hB.bin; omega)).trans h.bin, ?_, ho.keep' fun k hk => oth k (by have := ho.base k hk; omega), h.lft, fun k cs t fr h1 h2 => (oth k (by have := lt0 _ _ h1; omega)).trans (h.old k cs t fr h1 h2), by have := h.size; simpa [World.setCell] using this, h.cap⟩
  have h1 := heap_setCell_same V E 0 _ _ (.int .i64 v) h.cur
  have h2 := heap_setCell_same (V.setCell ⟨E, 0, none⟩ (.int .i64 v)) E 1 _ _ (.slice pa (castL p).length pc) h1
  simpa using h2
/-- One element is taken: the row that gathers it has grown, the captured list has been cut. -/
theorem RunI.taken {w0 : World} {E Bw Bin Bl w low : Nat} {r : List Nat} {left : List Nat} {lst : Nat} {cl : List Nat} {a : Option Addr} {c : Nat} {a' : Option Addr} {c' : Nat} {V V' : World} {sv : Value} {row : Option Nat} {N : Nat} (h : RunI w0 E Bw Bin Bl w low left lst cl a c a' c' V) (hB : RunB w0 E Bw Bin Bl sv w low)
    (hg : V.grownBy V' row) (hrow : ∀ k, row = some k → N ≤ k) (hN : E + 1 ≤ N) (hcur : ∀ k, (Value.slice a (castL cl).length c).ownBlock = some k → k < N) (a'' : Option Addr) (hI : Ints w0 (.slice a'' (castL r).length (c' - 1)) (castL r)) (hc : (castL r).length ≤ c' - 1) (hd : Bw ≠ Bin ∧ Bl ≠ Bin) :
    RunI w0 E Bw Bin Bl w low r lst cl a c a'' (c' - 1) (V'.setCell ⟨Bin, 0, none⟩ (.slice a'' (castL r).length (c' - 1))) := by
  have lt0 : ∀ (k : Nat) (o : Obj), w0.heap[k]? = some o → k < w0.heap.size := fun k o hk => (Array.getElem?_eq_some_iff.1 hk).1
  have hs := hB.size
  have hVs := h.size
  have lo : ∀ (k : Nat) (o : Obj), k < N → V.heap[k]? = some o → V'.heap[k]? = some o := fun k o hk ho => (hg.block k (Array.getElem?_eq_some_iff.1 ho).1 (fun e => by have := hrow k e.symm; omega)).trans ho
  have oth : ∀ k, k ≠ Bin → (V'.setCell ⟨Bin, 0, none⟩ (.slice a'' (castL r).length (c' - 1))).heap[k]? = V'.heap[k]? := fun k hk => heap_setCell_other _ _ _ _ hk
  have hbin := lt0 _ _ hB.bin
  refine ⟨(oth _ hd.1).trans (lo _ _ (by have := lt0 _ _ hB.bw; omega) h.bw), (oth _ hd.2).trans (lo _ _ (by have := lt0 _ _ hB.bl; omega) h.bl), ?_, (oth _ (by omega)).trans (lo _ _ (by omega) h.cur), h.own.keep' fun k hk => ?_, hI, fun k cs t fr h1 h2 => (oth k h2).trans (lo _ _ (by have := lt0 _ _ h1; omega) (h.old k cs t fr h1 h2)), by have := hg.size; simp only [World.setCell, Array.size_modify]; omega, hc⟩
  · have h1 := heap_setCell_same V' Bin 0 _ _ (.slice a'' (castL r).length (c' - 1)) (lo _ _ (by omega) h.bin)
    simpa using h1
  · have h1 := h.own.base k hk
    rw [oth k (by omega)]
    obtain ⟨cs, h2⟩ := h.own.typed k hk
    rw [h2]; exact lo _ _ (hcur k hk) h2
end Go.Proofs.YtlcgbdjmlnjhcaaGreatDoor
