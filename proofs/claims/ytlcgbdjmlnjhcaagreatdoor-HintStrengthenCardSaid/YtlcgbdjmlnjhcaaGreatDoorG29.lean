/-
  A range over a function whose iterator lays rows and hands them over; the body may leave the loop: the law.
  The iterator over the states of a side.
  The walk of hint.clone.
-/
import Derived.Test.YtlcgbdjmlnjhcaaGreatDoorG12
import Derived.Test.YtlcgbdjmlnjhcaaGreatDoorG10
import Derived.Test.YtlcgbdjmlnjhcaaGreatDoorG22
import Derived.RangeFuncWrites
import Derived.Shelf.RegionOpen
import Derived.OwnWalkIn
import Derived.TacticsInMore
import Derived.LoopNIn
import Derived.LoopIn
import Derived.Test.YtlcgbdjmlnjhcaaGreatDoorG28
import Derived.Deep.LoopGhost
namespace Go.Proofs.YtlcgbdjmlnjhcaaGreatDoor
open Go.RowKit Go.Shelf

/-- The iterator's own blocks lie as they lay. -/
structure KeepsX (X : Nat → Prop) (A B : World) : Prop where
  size : A.heap.size ≤ B.heap.size
  same : ∀ (k : Nat) (cs : Array Value) (t : TypeId) (fr : Nat × Nat), X k → A.heap[k]? = some (.cells cs t fr) → B.heap[k]? = some (.cells cs t fr)
theorem KeepsX.refl (X : Nat → Prop) (A : World) : KeepsX X A A := ⟨Nat.le_refl _, fun _ _ _ _ _ h => h⟩
theorem KeepsX.trans {X : Nat → Prop} {A B C : World} (h : KeepsX X A B) (k : KeepsX X B C) : KeepsX X A C :=
  ⟨Nat.le_trans h.size k.size, fun i cs t fr hx hi => k.same i cs t fr hx (h.same i cs t fr hx hi)⟩
theorem KeepsX.putObj {X : Nat → Prop} (A : World) {l : Nat} {o : Obj} (o' : Obj) (hl : A.heap[l]? = some o) (ho : o.isCells = false) : KeepsX X A (A.putObj l o') :=
  ⟨by simp, fun k cs t fr _ hk => by
    have hne : k ≠ l := fun e => by subst e; rw [hk] at hl; cases hl; cases ho
    exact (World.putObj_heap_other hne).trans hk⟩
theorem KeepsX.below {X : Nat → Prop} {A B : World} (h : Below A.heap.size A B) : KeepsX X A B :=
  ⟨h.size, fun k _ _ _ _ hk => (h.block k (Array.getElem?_eq_some_iff.1 hk).1).trans hk⟩

/-- The iterator's contract. X: its own blocks, told from the size of the heap where it begins; Inv: what it reads of what lies ahead; Good: what holds of a value where it is handed over. -/
def GivesS {α : Type} (F : Fence) (n : Nat) (P : Program) (g : Nat) (lb : Array Value) (encs : α → Array Value) (X : Nat → Nat → Prop) (Inv : World → Prop) (Good : Nat → α → World → Prop) (S Sp : List α → Prop) (N : Nat) (w : World) : Prop :=
  ∀ (l : Nat) (J Jx : List α → World → Prop) (W : World), Below w.heap.size w W →
    (∀ s A B, J s A → StepX (X W.heap.size) A B → J s B) → (∀ s A, J s A → Inv A) →
    (∀ pre x W1, J pre W1 → Good W.heap.size x W1 → W.heap.size ≤ W1.heap.size → pre.length < N → YieldAt F (n - 1) P l (encs x) W1 fun e W' =>
      (e = .returned (.bool true) ∧ J (pre ++ [x]) W' ∧ KeepsX (X W.heap.size) W1 W') ∨ (e = .returned (.bool false) ∧ Jx (pre ++ [x]) W')) →
    J [] W →
    CallsIn F n P g (#[.func (.yield l) #[] #[]] ++ lb) W fun e W' => (∃ v, e = .returned v) ∧ ((∃ xs, S xs ∧ J xs W') ∨ (∃ pre, Sp pre ∧ Jx pre W'))

/-- How the body of a round may be left. -/
def ownPostS {α : Type} (B : Nat) (X : Nat → Prop) (I : List α → World → Prop) (Ix : Code → List α → World → Prop) (xs : List α) (W : World) : Exit → Act → World → Prop
  | .normal, _, W' => KeepsFrom B W W' ∧ KeepsX X W W' ∧ I xs W'
  | .ret, _, W' => KeepsFrom B W W' ∧ Ix .ret xs W'
  | .exit id, _, W' => KeepsFrom B W W' ∧ Ix (.exit id) xs W'
  | .goto t, _, W' => KeepsFrom B W W' ∧ Ix (.goto t) xs W'
  | .panic _, _, _ => False
  | .outgrown, _, _ => False

section
variable {F : Fence} {n : Nat} {P : Program}
/-- The law. -/
theorem wpIn_range_S {α : Type} {g : Operand} {ps : Array Tmp} {assign body : Code} {Q : Exit → Act → World → Prop} {a : Act} {w : World}
    (hro : F.round = none) (h1 : 1 ≤ n) {gf : Nat} {lb : Array Value} (hg : a.eval g = .func (.func gf) #[] lb) (hFg : F.fn gf) (eg : ∀ args w, (callFunc gf args).run P w = .ok (.enter gf args) w)
    {encs : α → Array Value} {X : Nat → Nat → Prop} {Inv : World → Prop} {Good : Nat → α → World → Prop} {S Sp : List α → Prop} {N : Nat} {w0 : World} (hseq : GivesS F (n - 1) P gf lb encs X Inv Good S Sp N w0)
    (hb0 : Below w0.heap.size w0 w) (hX : ∀ k, X (w.heap.size + 2) k → w.heap.size + 2 ≤ k) (hps : ∀ x, (encs x).size = ps.size)
    (I : List α → World → Prop) (Ix : Code → List α → World → Prop) (hI : OwnFrom w.heap.size I) (hIX : ∀ s A B, I s A → StepX (X (w.heap.size + 2)) A B → I s B) (hInv : ∀ s A, I s A → Inv A) (hIx : ∀ c, OwnFrom w.heap.size (Ix c)) (h0 : I [] w) (a₁ : α → Act)
    (hassign : ∀ (l : Nat) (x : α) (W : World) (K : Act → World → Prop), K (a₁ x) W →
      assign.wpIn (F.inRound l) (n - 1 - 1) P (Exit.then K (fun _ _ _ => False)) { tmps := (ps.zip (encs x)).foldl (fun t (p, v) => t.setIfInBounds p v) a.tmps, defers := [] } W)
    (hGood : ∀ b x A B, Good b x A → KeepsX (fun _ => True) A B → Good b x B)
    (hbody : ∀ (l : Nat) (pre : List α) (x : α) (W : World), I pre W → Good (w.heap.size + 2) x W → w.heap.size + 2 ≤ W.heap.size → pre.length < N → body.wpIn (F.inRound l) (n - 1 - 1) P (ownPostS w.heap.size (X (w.heap.size + 2)) I Ix (pre ++ [x]) W) (a₁ x) W)
    (hdone : ∀ (D : Nat) (xs : List α) (W : World), w.heap.size ≤ D → S xs → I xs W → W.heap[D]? = some (.deferred (some [])) → Q .normal { a with defers := { target := .collected D, args := #[] } :: a.defers } W)
    (hstop : ∀ (D : Nat) (c : Code) (pre : List α) (W : World), w.heap.size ≤ D → Sp pre → Ix c pre W → W.heap[D]? = some (.deferred (some [])) → c.wpIn F n P Q { a with defers := { target := .collected D, args := #[] } :: a.defers } W) :
    (Code.rangeFunc g ps assign body).wpIn F n P Q a w := by
  refine wpIn_rangeFunc ?_
  intro fn hfn
  rw [hro]
  obtain ⟨rec, hrec⟩ : ∃ rec : LoopState → Option Code → Loop, rec = fun st pe => { state := st, pending := pe, fn, tmps := a.tmps, params := ps, assign, body, defers := w.heap.size } := ⟨_, rfl⟩
  obtain ⟨W1, hW1⟩ : ∃ W1, (w.alloc (.deferred (some []))).alloc (.loop (rec .ready none)) = W1 := ⟨_, rfl⟩
  have hz : W1.heap.size = w.heap.size + 2 := by rw [← hW1]; simp
  have hL1 : W1.heap[w.heap.size + 1]? = some (.loop (rec .ready none)) := by
    rw [← hW1]; have := World.alloc_heap_new (w.alloc (.deferred (some []))) (.loop (rec .ready none)); rwa [World.size_alloc] at this
  have hK1 : W1.heap[w.heap.size]? = some (.deferred (some [])) := by
    rw [← hW1]; exact (Below.heap_alloc _ _ _ (by simp)).trans (World.alloc_heap_new w _)
  have hI1 : I [] W1 := by rw [← hW1]; exact hI.alloc _ (hI.alloc _ h0)
  have hb1 : Below w0.heap.size w0 W1 := by
    rw [← hW1]; exact hb0.trans ((((Below.refl _ w).alloc (Nat.le_refl _) _).alloc (by simp) _).mono hb0.size)
  refine ⟨w.heap.size + 1, [{ target := .collected w.heap.size, args := #[] }], W1, { target := .fn (.func gf) lb, args := #[.func (.yield (w.heap.size + 1)) #[] #[]] }, W1, gf,
    #[.func (.yield (w.heap.size + 1)) #[] #[]] ++ lb, W1, ?_, ?_, ?_, ?_, fun _ => h1, ?_⟩
  · rw [← hW1, hrec]; exact run_enterLoop_outer _ _ _ _ _
  · simp only [resolve, hg]
    simp [go_sem]
  · intro f' hf'; simp [Target.leads] at hf'; subst hf'; exact hFg
  · simp [invoke, go_sem, eg]
  · refine (hseq (w.heap.size + 1)
      (fun pre W => I pre W ∧ W.heap[w.heap.size + 1]? = some (.loop (rec .ready none)) ∧ W.heap[w.heap.size]? = some (.deferred (some [])))
      (fun pre W => ∃ c, Ix c pre W ∧ W.heap[w.heap.size + 1]? = some (.loop (rec .done (some c))) ∧ W.heap[w.heap.size]? = some (.deferred (some [])))
      W1 hb1
      (fun s A B hs hst => by
        rw [hz] at hst
        have hl := (Array.getElem?_eq_some_iff.1 hs.2.1).1
        exact ⟨hIX s A B hs.1 hst, (hst.block _ hl (fun h => by have := hX _ h; omega)).trans hs.2.1, (hst.block _ (by omega) (fun h => by have := hX _ h; omega)).trans hs.2.2⟩)
      (fun s A hs => hInv s A hs.1)
      ?_ ⟨hI1, hL1, hK1⟩).mono ?_
    · rintro pre x W ⟨hi, hl, hk⟩ hgd hsz hlen
      rw [hz] at hgd hsz ⊢
      have hlt : w.heap.size + 1 < W.heap.size := (Array.getElem?_eq_some_iff.1 hl).1
      have hy := run_yield (P := P) (args := encs x) hl (by rw [hrec]; exact hps x)
      rw [hrec] at hy
      refine ⟨fn, _, assign, body, hy, roundIn_of_wpIn hfn (hassign _ x W _ ⟨_, run_beginRound hl (by rw [hrec]), ?_⟩)⟩
      have hl2 : (W.putObj (w.heap.size + 1) (.loop { rec .ready none with state := .busy })).heap[w.heap.size + 1]? = some (.loop { rec .ready none with state := .busy }) := World.putObj_heap_same hlt
      have hk2 : (W.putObj (w.heap.size + 1) (.loop { rec .ready none with state := .busy })).heap[w.heap.size]? = some (.deferred (some [])) := (World.putObj_heap_other (by omega)).trans hk
      have hw2 : ∀ Y, KeepsX Y W (W.putObj (w.heap.size + 1) (.loop { rec .ready none with state := .busy })) := fun Y => KeepsX.putObj W _ hl rfl
      refine wpIn_mono (hbody _ pre x _ (hI.putObj _ hi (by omega) hl rfl) (hGood _ _ _ _ hgd (hw2 _)) (by simpa using hsz) hlen) ?_
      have fin : ∀ (jump : Option Code) (W3 : World), KeepsFrom w.heap.size (W.putObj (w.heap.size + 1) (.loop { rec .ready none with state := .busy })) W3 →
          (Instr.endRound (w.heap.size + 1) jump).run P W3 = .ok (.bool jump.isNone) (W3.putObj (w.heap.size + 1) (.loop (rec (if jump.isNone then .ready else .done) jump))) ∧
          W3.heap[w.heap.size + 1]? = some (.loop { rec .ready none with state := .busy }) ∧
          (W3.putObj (w.heap.size + 1) (.loop (rec (if jump.isNone then .ready else .done) jump))).heap[w.heap.size + 1]? = some (.loop (rec (if jump.isNone then .ready else .done) jump)) ∧
          (W3.putObj (w.heap.size + 1) (.loop (rec (if jump.isNone then .ready else .done) jump))).heap[w.heap.size]? = some (.deferred (some [])) := fun jump W3 hk3 => by
        have hl3 := hk3.same _ _ (by omega) hl2 rfl
        have := run_endRound (P := P) jump hl3
        rw [hrec] at this ⊢
        exact ⟨this, by rw [hrec] at hl3; exact hl3, World.putObj_heap_same (Array.getElem?_eq_some_iff.1 hl3).1, (World.putObj_heap_other (by omega)).trans (hk3.same _ _ (Nat.le_refl _) hk2 rfl)⟩
      rintro e a3 W3 hp
      cases e with
      | normal =>
        obtain ⟨hk3, hkp3, hi3⟩ := hp
        obtain ⟨hr, hl3, hl4, hk4⟩ := fin none W3 hk3
        exact ⟨_, _, hr, .inl ⟨rfl, ⟨hI.putObj _ hi3 (by omega) hl3 rfl, hl4, hk4⟩, ((hw2 _).trans hkp3).trans (KeepsX.putObj W3 _ hl3 rfl)⟩⟩
      | ret =>
        obtain ⟨hk3, hi3⟩ := hp
        obtain ⟨hr, hl3, hl4, hk4⟩ := fin (some .ret) W3 hk3
        exact ⟨_, _, hr, .inr ⟨rfl, .ret, (hIx _).putObj _ hi3 (by omega) hl3 rfl, hl4, hk4⟩⟩
      | exit id =>
        obtain ⟨hk3, hi3⟩ := hp
        obtain ⟨hr, hl3, hl4, hk4⟩ := fin (some (.exit id)) W3 hk3
        exact ⟨_, _, hr, .inr ⟨rfl, .exit id, (hIx _).putObj _ hi3 (by omega) hl3 rfl, hl4, hk4⟩⟩
      | goto t =>
        obtain ⟨hk3, hi3⟩ := hp
        obtain ⟨hr, hl3, hl4, hk4⟩ := fin (some (.goto t)) W3 hk3
        exact ⟨_, _, hr, .inr ⟨rfl, .goto t, (hIx _).putObj _ hi3 (by omega) hl3 rfl, hl4, hk4⟩⟩
      | panic ch => exact hp.elim
      | outgrown => exact hp.elim
    · rintro e W2 ⟨⟨v, rfl⟩, (⟨xs, hS, hi, hl, hk⟩ | ⟨pre, hSp, c, hi, hl, hk⟩)⟩
      · exact ⟨none, _, by have := run_endLoop (P := P) hl (by rw [hrec]; simp); rw [hrec] at this; exact this, hdone _ xs _ (Nat.le_refl _) hS (hI.putObj _ hi (by omega) hl rfl) ((World.putObj_heap_other (by omega)).trans hk)⟩
      · exact ⟨some c, _, by have := run_endLoop (P := P) hl (by rw [hrec]; simp); rw [hrec] at this; exact this, hstop _ c pre _ (Nat.le_refl _) hSp ((hIx c).putObj _ hi (by omega) hl rfl) ((World.putObj_heap_other (by omega)).trans hk)⟩
end
end Go.Proofs.YtlcgbdjmlnjhcaaGreatDoor
namespace Go.Proofs.YtlcgbdjmlnjhcaaGreatDoor
open Go.RowKit Go.Shelf
attribute [local go_sem] Oper.semAt_some

/-- A state that is handed over: its number and the block of its row. -/
structure StX where
  n : Nat
  g : Nat
def encSt (x : StX) : Array Value := #[.int .i64 (x.n : Nat), .slice (some ⟨x.g, 0, none⟩) 32 32]
/-- A side in a block. -/
def SideAt (l ws : List Int) (b : Nat) (step : Bool) (Bx : Nat) (w : World) : Prop :=
  ∃ va vb, w.heap[Bx]? = some (.cells #[va, vb, .int .i64 (b : Nat), .bool step] 66 (0, 0)) ∧ Ints w va l ∧ Ints w vb ws
theorem SideAt.ext {l ws : List Int} {b : Nat} {step : Bool} {Bx : Nat} {w w' : World} (h : SideAt l ws b step Bx w) (hx : Ext w w') : SideAt l ws b step Bx w' := by
  obtain ⟨va, vb, h1, h2, h3⟩ := h
  exact ⟨va, vb, (hx.block _ (lt_heap h1)).trans h1, h2.ext hx, h3.ext hx⟩
def goodSt (l ws : List Int) (M : Nat) (b : Nat) (x : StX) (w : World) : Prop := x.n < M ∧ OwnInts w b (.slice (some ⟨x.g, 0, none⟩) 32 32) (stN l ws x.n)
theorem goodSt.keep {l ws : List Int} {M b : Nat} {x : StX} {A B : World} (h : goodSt l ws M b x A) (hk : KeepsX (fun _ => True) A B) : goodSt l ws M b x B := by
  refine ⟨h.1, h.2.keep fun k e => ?_⟩
  obtain ⟨cs, hc⟩ := h.2.typedB k e
  rw [hc]; exact hk.same _ _ _ _ trivial hc
theorem blocks4 {w : World} {R : Nat} {x y z u : Value} {t : TypeId} (h : w.heap[R]? = some (.cells #[x, y, z, u] t (0, 0))) : w.cell? ⟨R, 0, none⟩ = some x ∧ w.cell? ⟨R, 1, none⟩ = some y ∧ w.cell? ⟨R, 2, none⟩ = some z ∧ w.cell? ⟨R, 3, none⟩ = some u := by
  refine ⟨?_, ?_, ?_, ?_⟩ <;> (rw [Lib.cell_of_heap h]; rfl)

theorem OwnInts.fresh32 (w : World) : OwnInts (w.alloc (.cells ints32 3)) w.heap.size (.slice (some ⟨w.heap.size, 0, none⟩) 32 32) zeros32 :=
  ⟨by simp, .inr ⟨w.heap.size, 32, ints32, rfl, Nat.le_refl _, heap_new _ _, by simp [zeros32], by unfold maxLen; omega, rfl, rfl⟩⟩

set_option maxRecDepth 100000 in
set_option maxHeartbeats 4000000 in
theorem states1_gives (n : Nat) (hn : 1 ≤ n) (l ws : List Int) (b : Nat) (step : Bool) (Bx : Nat) (w0 : World) (hs : smallB l ws = true) (hb : sumI ws = (b : Int)) :
    GivesS Fence.wide n Tryz.prog 65 #[.pointer (some ⟨Bx, 0, none⟩)] encSt (fun _ _ => False) (SideAt l ws b step Bx) (goodSt l ws (2 ^ b)) (fun xs => xs.map StX.n = List.range (2 ^ b)) (fun pre => ∃ m, m < 2 ^ b ∧ pre.map StX.n = List.range (m + 1)) (2 ^ b) w0 := by
  intro lp J Jx W hW hJ hInv hY h0
  obtain ⟨hsh, hwd, hs0, hs12⟩ := small_sum hs
  obtain ⟨heq, _, hin⟩ := shape_iff.1 hsh
  obtain ⟨M, hM⟩ : ∃ M, M = 2 ^ b := ⟨_, rfl⟩
  have hb12 : b ≤ 12 := by omega
  have hM4 : M ≤ 4096 := by
    have := Nat.pow_le_pow_right (show 0 < 2 by decide) hb12
    rw [hM]; simpa using this
  have hsw : wrap64 (2 ^ b) = (M : Int) := by
    have h1 : (2 : Int) ^ b = ((2 ^ b : Nat) : Int) := by push_cast; rfl
    rw [h1, ← hM]; unfold wrap64; omega
  have hmb : min b 64 = b := by omega
  have HST : Hid (∀ k : Nat, stN l ws k = (stTo l ws (k : Int) zeros32 l.length).2) := fun k => by unfold stN stateS; rw [hs]; rfl
  rw [← hM] at hY ⊢
  have HEQ := Lib.hid heq; have HIN := Lib.hid hin; have HJ := Lib.hid hJ; have HINV := Lib.hid hInv; have HY := Lib.hid hY; have H0 := Lib.hid h0; have HM4 := Lib.hid hM4; have HSZ := Lib.hid (Nat.le_refl W.heap.size)
  have hI0 := hInv _ _ h0
  obtain ⟨va, vb, hB, hA1, hA2⟩ := hI0
  obtain ⟨c0, c1, c2, c3⟩ := blocks4 hB
  clear heq hin hJ hInv hY h0 hM hM4 hs hsh hwd hs0 hs12 hb hW hB hA1 hA2
  refine callsIn_of_wp Tryz.func65 rfl trivial ?_ rfl
  simp only [Tryz.ntmps65, List.size_toArray, List.length_cons, List.length_nil, Nat.reduceAdd, Nat.reduceSub, Array.replicate_succ, Array.replicate_zero, List.push_toArray, List.append_toArray, List.nil_append, List.cons_append]
  gi_wp2
  gi_loopw [12] (fun p wr => ∃ (k : Nat) (pre : List StX), k ≤ M ∧ p = .int .i64 k ∧ pre.map StX.n = List.range k ∧ J pre wr ∧ W.heap.size ≤ wr.heap.size) (fun p _ => M - (intOf p).toNat)
  case atStart => exact ⟨0, [], Nat.zero_le _, rfl, rfl, H0.out, Nat.le_refl _⟩
  case round =>
    clear c0 c1 c2 c3 hmb hsw hb12
    obtain ⟨k, pre, hk, rfl, hpre, hJ, hsz⟩ := hrel
    have HJr := Lib.hid hJ; have HPRE := Lib.hid hpre; have HZr := Lib.hid hsz
    clear hJ hpre hsz
    generalize wr = wo at *
    by_cases hlt : k < M
    · have hlt' : (k : Int) < (M : Int) := by omega
      obtain ⟨va, vb, hB, hA1, hA2⟩ := HINV.out _ _ HJr.out
      obtain ⟨a1, d1, rfl⟩ := hA1.shape
      obtain ⟨a2, d2, rfl⟩ := hA2.shape
      have HB := Lib.hid hB; have HA1 := Lib.hid hA1; have HA2 := Lib.hid hA2
      have hln := SliceAt.len_le hA1
      clear hB hA1 hA2
      have hmk := makeState32
      gi_upto_region 4 with fail
      clear hmk
      have hx0 : Ext wo (wo.alloc (.cells ints32 3)) := (Ext.refl wo).alloc _
      have hrow : OwnInts (wo.alloc (.cells ints32 3)) wo.heap.size (.slice (some ⟨wo.heap.size, 0, none⟩) 32 32) zeros32 := OwnInts.fresh32 wo
      have HX0 := Lib.hid hx0; have HROW := Lib.hid hrow
      clear hx0 hrow
      generalize wo.alloc (.cells ints32 3) = w1 at *
      generalize hg : wo.heap.size = g at *
      have HG := Lib.hid hg
      clear hg
      have HB1 : Hid (w1.heap[Bx]? = some (.cells #[.slice a1 l.length d1, .slice a2 ws.length d2, .int .i64 (b : Nat), .bool step] 66 (0, 0))) := (HX0.out.block _ (lt_heap HB.out)).trans HB.out
      obtain ⟨c0, c1, c2, c3⟩ := blocks4 HB1.out
      gi_wp2
      gi_loopw [5, 21] (fun rv iv wr => ∃ i : Nat, i ≤ l.length ∧ iv = .int .i64 i ∧ rv = .int .i64 (stTo l ws (k : Int) zeros32 i).1 ∧ Ext wo wr ∧ (stTo l ws (k : Int) zeros32 i).2.length = 32 ∧ OwnInts wr g (.slice (some ⟨g, 0, none⟩) 32 32) (stTo l ws (k : Int) zeros32 i).2) (fun _ iv _ => l.length - (intOf iv).toNat)
      case atStart => exact ⟨0, Nat.zero_le _, rfl, rfl, HX0.out, by simp [stTo, zeros32], HROW.out⟩
      case round =>
        clear c0 c1 c2 c3
        obtain ⟨i, hi, rfl, rfl, hX, hl32, hO⟩ := hrel
        have HXi := Lib.hid hX; have HOi := Lib.hid hO; have HL32 := Lib.hid hl32
        clear hX hO hl32
        have HBi : Hid (wo.heap[Bx]? = some (.cells #[.slice a1 l.length d1, .slice a2 ws.length d2, .int .i64 (b : Nat), .bool step] 66 (0, 0))) := HB.out
        by_cases hlt2 : i < l.length
        · have hlt2w : i < ws.length := by have := HEQ.out; omega
          rcases HA1.out with ⟨_, e⟩ | ⟨b1, o1, cap1, e, _, hcl⟩
          · rw [e] at hlt2; simp at hlt2
          cases e
          rcases HA2.out with ⟨_, e⟩ | ⟨b2, o2, cap2, e, _, hcl2⟩
          · rw [e] at hlt2w; simp at hlt2w
          cases e
          have g0 : wr.cell? ⟨b1, o1 + i, none⟩ = some (.int .i64 l[i]) := by have := HXi.out.cell (hcl i hlt2); rw [Nat.mul_one] at this; exact this
          have g1 : wr.cell? ⟨b2, o2 + i, none⟩ = some (.int .i64 ws[i]) := by have := HXi.out.cell (hcl2 i hlt2w); rw [Nat.mul_one] at this; exact this
          have hb1 : b1 < g := by have h : b1 < wo.heap.size := block_lt (hcl i hlt2); have := HG.out; omega
          have hb2 : b2 < g := by have h : b2 < wo.heap.size := block_lt (hcl2 i hlt2w); have := HG.out; omega
          have hb0 : Bx < g := by have := lt_heap HB.out; have := HG.out; omega
          clear hcl hcl2
          have hbd := HIN.out i hlt2
          rw [show l.getD i 0 = l[i] by simp [List.getD, hlt2], show ws.getD i 0 = ws[i] by simp [List.getD, hlt2w]] at hbd
          have HS := Lib.hid (stTo_succ (k : Int) zeros32 HEQ.out hlt2)
          have hst1 : (stStep (stTo l ws (k : Int) zeros32 i) (l[i], ws[i])).1 = (stTo l ws (k : Int) zeros32 i).1 / pw ws[i] := rfl
          have hst2 : (stStep (stTo l ws (k : Int) zeros32 i) (l[i], ws[i])).2 = if l[i] < ((stTo l ws (k : Int) zeros32 i).2.length : Int) then (stTo l ws (k : Int) zeros32 i).2.set l[i].toNat ((stTo l ws (k : Int) zeros32 i).1 % pw ws[i]) else (stTo l ws (k : Int) zeros32 i).2 := rfl
          rw [← HS.out] at hst1 hst2
          have HST1 := Lib.hid hst1; have HST2 := Lib.hid hst2
          clear hst1 hst2 HS
          obtain ⟨c0, c1, c2, c3⟩ := blocks4 ((HXi.out.block _ (lt_heap HBi.out)).trans HBi.out)
          generalize (stTo l ws (k : Int) zeros32 i).1 = m at *
          generalize (stTo l ws (k : Int) zeros32 i).2 = st at *
          generalize l[i] = c at *
          generalize ws[i] = wd at *
          obtain ⟨h1, h2, h3, h4⟩ := hbd
          obtain ⟨cN, rfl⟩ := Int.eq_ofNat_of_zero_le h1
          have i0 : (0 : Int) ≤ (i : Int) := by omega
          have hcN : cN < 32 := by omega
          obtain ⟨g', cap', hve, hg', hcell⟩ := HOi.out.open (by rw [HL32.out]; omega)
          rw [HL32.out] at hve
          cases hve
          have d0 := (hcell cN (by rw [HL32.out]; exact hcN)).1
          have d1 := (hcell cN (by rw [HL32.out]; exact hcN)).2
          have hO' := HOi.out
          have hown : OwnInts (wr.setCell ⟨g, cN, none⟩ (.int .i64 (m % pw wd))) g (.slice (some ⟨g, 0, none⟩) 32 32) (st.set cN (m % pw wd)) := by
            have hO2 : OwnInts wr g (.slice (some ⟨g, 0, none⟩) st.length 32) st := by rw [HL32.out]; exact hO'
            have := hO2.set (i := cN) (m % pw wd)
            rw [HL32.out] at this; exact this
          have HOWN := Lib.hid hown
          have HE2 := HST2.out
          rw [if_pos (by have := HL32.out; omega)] at HE2
          have HST3 := Lib.hid HE2
          have XS : Hid (Ext wo (wr.setCell ⟨g, cN, none⟩ (.int .i64 (m % pw wd)))) := HXi.out.setCell (p := ⟨g, cN, none⟩) (by have := HG.out; show wo.heap.size ≤ g; omega) (.int .i64 (m % pw wd))
          have HMK := Lib.hid (mask_walk m wd h3 h4)
          clear hcell hO' hown HE2
          gi_wp2
          rw [HMK.out, pw_pow]
          go_roundw
          case rel => exact ⟨i + 1, by omega, by go_num, by rw [HST1.out], XS.out, by rw [HST3.out, List.length_set]; exact HL32.out, by rw [HST3.out]; exact HOWN.out⟩
          case measure => simp [intOf]; omega
        · obtain rfl : i = l.length := by omega
          have hO3 := HOi.out
          rw [← HST.out k] at hO3
          have HGD : Hid (goodSt l ws M W.heap.size ⟨k, g⟩ wr) := ⟨hlt, hO3.mono (by have := HG.out; have := HZr.out; omega)⟩
          clear hO3
          have HJi := Lib.hid (HJ.out _ _ _ HJr.out ⟨HXi.out.os, HXi.out.tape, HXi.out.output, HXi.out.size, fun k hk _ => HXi.out.block k hk⟩)
          have hszi : W.heap.size ≤ wr.heap.size := by have := HXi.out.size; have := HG.out; have := HZr.out; omega
          obtain ⟨fn, tmps, assign, body, hy, hR⟩ := HY.out pre ⟨k, g⟩ wr HJi.out HGD.out hszi (by have := congrArg List.length HPRE.out; simp at this; omega)
          dsimp only [encSt] at hy
          have HR := Lib.hid hR
          have HPX : Hid ((pre ++ [(⟨k, g⟩ : StX)]).map StX.n = List.range (k + 1)) := by unfold Hid; rw [List.map_append, HPRE.out, List.range_succ]; rfl
          have HSZi := Lib.hid hszi
          clear hR hszi
          gi_wp2
          refine HR.out.mono ?_
          rintro e W3 (⟨rfl, hJ3, hk3⟩ | ⟨rfl, hJx3⟩)
          · have HJ3 := Lib.hid hJ3; have HZ3 := Lib.hid (Nat.le_trans HSZi.out hk3.size)
            clear hJ3 hk3 hy
            gi_wp2
            go_roundw
            case rel => have hM4 := HM4.out; exact ⟨k + 1, _, by omega, by rw [show wrap64 ((k : Int) + 1) = (k : Int) + 1 by unfold wrap64; omega]; rfl, HPX.out, HJ3.out, HZ3.out⟩
            case measure => have hM4 := HM4.out; rw [show wrap64 ((k : Int) + 1) = (k : Int) + 1 by unfold wrap64; omega]; simp [intOf]; omega
          · have HJx3 := Lib.hid hJx3
            clear hJx3 hy
            gi_wp2
            refine bodyPost_ret (results_none rfl _ _ _) rfl ?_
            exact ⟨⟨_, rfl⟩, .inr ⟨_, ⟨k, hlt, HPX.out⟩, HJx3.out⟩⟩
    · obtain rfl : k = M := by omega
      gi_wp2
      go_end0
      exact ⟨⟨_, rfl⟩, .inl ⟨_, HPRE.out, HJr.out⟩⟩
end Go.Proofs.YtlcgbdjmlnjhcaaGreatDoor
namespace Go.Proofs.YtlcgbdjmlnjhcaaGreatDoor
open Go.RowKit Go.Shelf

theorem infoSlE : (Tryz.prog.info? 23).map (fun i => (i.zero, i.size, i.bytes)) = some (some (.slice none 0 0), 1, 24) := by kernel_rfl
/-- The work that is left, in a row of the call's own. -/
def WStk (N0 : Nat) (w : World) (v : Value) (st : List Pend) : Prop := w.ownsRow (N0 + 2) 23 1 v st.length (st.map Pend.v) ∧ ∃ g cap, v = .slice (some ⟨g, 0, none⟩) st.length cap
theorem WStk.block {N0 : Nat} {w : World} {v : Value} {st : List Pend} (h : WStk N0 w v st) (k : Nat) (hk : v.ownBlock = some k) : N0 + 2 ≤ k ∧ ∃ cs, w.heap[k]? = some (.cells cs 23 (0, 0)) := by
  rcases h.1.2 with ⟨rfl, _⟩ | ⟨g, cap, cur, rfl, hg, hh, _⟩
  · cases hk
  · cases hk; exact ⟨hg, _, hh⟩
theorem WStk.keep {N0 : Nat} {w w' : World} {v : Value} {st : List Pend} (h : WStk N0 w v st) (hk : ∀ k, v.ownBlock = some k → w'.heap[k]? = w.heap[k]?) : WStk N0 w' v st := by
  refine ⟨⟨h.1.1, ?_⟩, h.2⟩
  rcases h.1.2 with h2 | ⟨g, cap, cur, hv, hg, hh, r⟩
  · exact .inl h2
  · exact .inr ⟨g, cap, cur, hv, hg, by rw [hk g (by rw [hv]; rfl)]; exact hh, r⟩
theorem WStk.later {N0 : Nat} {w w' : World} {v : Value} {st : List Pend} (h : WStk N0 w v st) (hx : Ext w w') : WStk N0 w' v st := h.keep fun k hk => by
  obtain ⟨_, cs, hc⟩ := h.block k hk
  exact hx.block k (lt_heap hc)
theorem WStk.pop {N0 : Nat} {wr : World} {g cap n : Nat} {st : List Pend} {p : Pend} (h : WStk N0 wr (.slice (some ⟨g, 0, none⟩) n cap) (st ++ [p])) :
    WStk N0 wr (.slice (some ⟨g, 0, none⟩) st.length cap) st ∧ wr.cell? ⟨g, st.length, none⟩ = some p.v ∧ n = st.length + 1 ∧ st.length + 1 ≤ cap ∧ cap ≤ 9223372036854775807 := by
  obtain ⟨h1, ⟨g', cap', e'⟩⟩ := h
  cases e'
  rcases h1.2 with ⟨e, _⟩ | ⟨g', cap', cur, e, hg, hh, hn, hc, hs, ht⟩
  · cases e
  cases e
  simp only [List.length_append, List.length_cons, List.length_nil, List.map_append, List.map_cons, List.map_nil] at *
  refine ⟨⟨⟨by simp, .inr ⟨_, _, cur, rfl, hg, hh, by omega, hc, hs, ?_⟩⟩, ⟨_, _, rfl⟩⟩, ?_, trivial, by omega, by unfold maxLen at hc; omega⟩
  · have := congrArg (List.take (st.length * 1)) ht
    rw [List.take_take, Nat.min_eq_left (by omega)] at this
    rw [this, List.take_append_of_le_length (by simp), List.take_of_length_le (by simp)]
  · have := congrArg (fun x => x[st.length]?) ht
    rw [List.getElem?_take_of_lt (by omega)] at this
    simp only [World.cell?, hh]
    simpa using this
/-- A row laid on the work. -/
theorem wpList_append_pend {ops : Array Oper} {rest : List Oper} {o : Oper} {a : Act} {Q : Exit → Act → World → Prop} (hgd : o.guard = none) (s x : Operand)
    (ho : o.op = .call { callee := .builtin .append, args := #[s, x], argTypes := #[105, 105] }) (N0 : Nat) (wr : World) (v : Value) (st : List Pend) (p : Pend)
    (hs : a.eval s = v) (hx : a.eval x = .slice (some ⟨wr.heap.size, 0, none⟩) 1 1) (hown : WStk N0 wr v st) (hl : st.length ≤ 1000000) (hb : N0 + 2 ≤ wr.heap.size)
    (h : ∀ g cap w', WStk N0 w' (.slice (some ⟨g, 0, none⟩) (st.length + 1) cap) (st ++ [p]) → wr.grownBy w' v.ownBlock → wpList Tryz.prog ops Q rest (a.put o.dst (.slice (some ⟨g, 0, none⟩) (st.length + 1) cap)) w') :
    wpList Tryz.prog ops Q (o :: rest) a (wr.alloc (.cells #[p.v] 23)) := by
  obtain ⟨i0, hi, hz0, hz1, hz2⟩ := info_parts infoSlE
  have hx0 : Ext wr (wr.alloc (.cells #[p.v] 23)) := (Ext.refl wr).alloc _
  refine wpList_append_lies _ hgd s x 105 ho (N0 + 2) 23 i0 _ 1 24 Tryz.underlying105 hi hz0 hz1 hz2 rfl (by decide) v st.length (st.map Pend.v) hs (hown.later hx0).1 ⟨wr.heap.size, 0, none⟩ 1 1 [p.v] hx rfl (cell_one_new _ _ _) ?_ (by decide) ?_ ?_ ?_ (wr.heap.size + 1) (by simp) ?_
  · intro u hu; simp at hu; subst hu; rfl
  · unfold maxLen; omega
  · omega
  · simp; omega
  · intro g cap w' h1 h2 h3 h4
    exact h g cap w' ⟨by simpa using h1, ⟨g, cap, by simp⟩⟩ (grown_alloc h2)

def CLoop (S : Nat → Prop) (N0 R : Nat) (e : E) (w0 : World) (k : Nat) (v : Value) (wr : World) : Prop :=
  ∃ (G : List Nat) (st : List Pend), k = stM st ∧ CloI S N0 R e w0 G st wr ∧ WStk N0 wr v st ∧ stM st ≤ 2 * e.size + 1
def CIn (S : Nat → Prop) (N0 R : Nat) (e : E) (w0 : World) (st : List Pend) (p : Pend) (v i : Value) (wr : World) : Prop :=
  ∃ (j : Nat) (G : List Nat) (st2 : List Pend), j ≤ p.ps.length ∧ i = .int .i64 j ∧ CloI S N0 R e w0 G st2 wr ∧ WStk N0 wr v st2 ∧ PRow S N0 wr p j ∧ p.g ∈ G ∧ p.g ∉ st2.map Pend.g ∧ stM st2 ≤ stM st + 2 * sizeAll ((p.ps.map (·.1)).take j)

set_option maxRecDepth 100000 in
set_option maxHeartbeats 8000000 in
theorem HClone_any (S : Nat → Prop) (e : E) (v : Value) (w : World) (he : EValT S w v e) (hS : ∀ k, w.heap.size ≤ k → S k) (hes : e.size ≤ 100000) : Calls Tryz.prog 40 #[v] w (RetT S e w) := by
  obtain ⟨a, al, ac, rfl, hk⟩ := he.shape
  obtain ⟨W0, hW0⟩ : ∃ W0, Boxes w W0 (.cells #[.int .i64 e.op, .int .i64 e.wd, .int .i64 e.n, .slice a al ac] 25) (.cells #[.int .i64 0, .int .i64 0, .int .i64 0, .slice none 0 0] 25) := ⟨_, Boxes.mk' _ _ _⟩
  obtain ⟨q0, q1, q2, q3⟩ := blocks4 hW0.b0
  have hkT : KidsT (fun k => S k ∧ k < w.heap.size) W0 (.slice a al ac) e.kids := hk.there.keep fun k hk _ => hW0.ext.block k hk.2
  obtain ⟨W1, hW1⟩ : ∃ W1, Boxes W0 W1 (.cells #[.int .i64 e.op, .int .i64 e.wd, .int .i64 e.n, .slice a al ac] 25) (.cells #[.slice (some ⟨W0.heap.size, 0, none⟩) 1 1] 23) := ⟨_, Boxes.mk' _ _ _⟩
  have hz0 := hW0.size
  have hst : CLoop S w.heap.size (w.heap.size + 2) e W0 (stM [⟨w.heap.size + 2, 1, [(e, .slice a al ac)]⟩]) (.slice (some ⟨w.heap.size + 3, 0, none⟩) 1 1) W1 := by
    have hb0 := hW1.b0; have hb1 := hW1.b1
    rw [hz0] at hb0 hb1
    obtain ⟨k0, k1, k2, k3⟩ := blocks4 hb0
    have hkx := hkT.keep fun k _ hk => hW1.ext.block k hk
    refine ⟨[w.heap.size + 2], _, rfl, ⟨?_, by simp, ?_, hW1.ext, ?_, by simp⟩, ⟨⟨rfl, .inr ⟨_, _, #[.slice (some ⟨w.heap.size + 2, 0, none⟩) 1 1], rfl, by omega, hb1, Nat.le_refl _, by unfold maxLen; omega, rfl, rfl⟩⟩, _, _, rfl⟩, ?_⟩
    · exact .mk' k0 k1 k2 k3 (hkx.mono fun k hk => .inl hk)
    · intro b hb; simp at hb; subst hb; exact ⟨Nat.le_refl _, _, hb0⟩
    · intro p hp; simp at hp; subst hp
      refine ⟨fun i hi _ => ?_, by simp, by simp⟩
      have : i = 0 := by simpa using hi
      subst this
      exact ⟨k3, hkx⟩
    · simp [stM, sizeAll]; omega
  have HST := Lib.hid hst; have HW0 := Lib.hid hW0; have HW1 := Lib.hid hW1; have HSS := Lib.hid hS
  have hpos := e.size_pos
  clear hst hk he hkT hS
  go_enter Tryz.func40, Tryz.ntmps40
  go_upto_region 1 with fail
  rw [← HW0.out.eq]
  clear hW0 hW1
  go_upto_region 3 with fail
  have hw1 := HW1.out.eq
  rw [HW0.out.size] at hw1
  rw [← hw1]
  clear hw1 q0 q1 q2 q3
  have hz0 := HW0.out.size
  have HR2 : Hid (W0.heap[w.heap.size + 1]? = some (.cells #[.int .i64 0, .int .i64 0, .int .i64 0, .slice none 0 0] 25 (0, 0))) := HW0.out.b1
  have HX0 := Lib.hid HW0.out.ext
  generalize hn0 : w.heap.size = N0 at *
  have HN0 := Lib.hid hn0
  clear hn0
  go_loopg [4] (stM [⟨N0 + 2, 1, [(e, .slice a al ac)]⟩]) (fun k v wr => CLoop S N0 (N0 + 2) e W0 k v wr)
  case atStart => exact HST.out
  case round =>
    clear HST
    obtain ⟨G, st, rfl, hC, hW, hM⟩ := hrel
    rcases List.eq_nil_or_concat st with rfl | ⟨st', p, rfl⟩
    · obtain ⟨g, cap, rfl⟩ := hW.2
      obtain ⟨c0, c1, c2, xa, xl, xc, c3, hk⟩ := hC.tree.cells
      have hR := (hC.ext.block _ (by omega)).trans HR2.out
      have HC := Lib.hid hC; have HKT := Lib.hid hk
      obtain ⟨d0, d1, d2, d3, f0, f1, f2, f3⟩ := cells_of_block hR
      have HB := Lib.hid (put4_new (x := .int .i64 e.op) (y := .int .i64 e.wd) (z := .int .i64 e.n) (u := .slice xa xl xc) hR)
      have HXE : Hid (Ext w (put4 wr (N0 + 1) 0 (.int .i64 e.op) (.int .i64 e.wd) (.int .i64 e.n) (.slice xa xl xc))) := Below.trans (HX0.out.trans hC.ext) (below_put4 (by have := HN0.out; omega))
      clear hC hW hM hk hR
      simp only [List.length_nil]
      go_wp2_with fail
      refine bodyPost_ret (v := .agg #[.int .i64 e.op, .int .i64 e.wd, .int .i64 e.n, .slice xa xl xc]) (results_cell_row Tryz.results40 _ _ (N0 + 1) 25 _ (0, 0) _ rfl HB.out Tryz.underlying25 rfl sizeExpr) rfl ⟨⟨_, rfl, _, rfl, ?_⟩, HXE.out⟩
      refine (HKT.out.keep fun k hk _ => put4_heap k ?_).mono fun k hk => ?_
      · rcases hk with hk | hk
        · have := hk.2; omega
        · have := (HC.out.typed k hk).1; omega
      · rcases hk with hk | hk
        · exact hk.1
        · exact HSS.out k (by have := (HC.out.typed k hk).1; have := HN0.out; omega)
    · rw [List.concat_eq_append] at hC hW hM
      obtain ⟨g, cap, rfl⟩ := hW.2
      obtain ⟨hW', hcell, hn, hcap, hcap2⟩ := hW.pop
      have hlen : (st' ++ [p]).length = st'.length + 1 := by simp
      rw [hlen]
      rw [stM_snoc] at hM
      have hpin : p ∈ st' ++ [p] := by simp
      obtain ⟨hpr, hpG, hp0⟩ := hC.rows p hpin
      have hnd : p.g ∉ st'.map Pend.g := by
        have := hC.nodup
        rw [List.map_append, List.map_cons, List.map_nil, List.nodup_append] at this
        intro h
        exact this.2.2 _ h _ (by simp) rfl
      have hC' : CloI S N0 (N0 + 2) e W0 G st' wr := ⟨hC.tree, hC.root, hC.typed, hC.ext, fun q hq => hC.rows q (by simp [hq]), by
        have := hC.nodup
        rw [List.map_append] at this
        exact (List.nodup_append.1 this).1⟩
      have hst1 := stM_len st'
      have hpl := length_le_sizeAll (p.ps.map (·.1))
      rw [List.length_map] at hpl
      have HC := Lib.hid hC'; have HWK := Lib.hid hW'; have HPR := Lib.hid hpr; have HPG := Lib.hid hpG; have HND := Lib.hid hnd; have HM := Lib.hid hM
      have hst2 : st'.length ≤ 9223372036854775806 := by omega
      have HPL : Hid (p.ps.length ≤ 200001) := by unfold Hid; omega
      clear hC hC' hW hW' hM hpr hpG hnd hn hlen hpin hpl hst1
      unfold Pend.v at hcell
      go_wp2_with fail
      go_loopw [4, 27] (fun v i wr => CIn S N0 (N0 + 2) e W0 st' p v i wr) (fun _ i _ => p.ps.length - (intOf i).toNat)
      case atStart => exact ⟨0, G, st', Nat.zero_le _, rfl, HC.out, HWK.out, HPR.out, HPG.out, HND.out, by simp [sizeAll]⟩
      case round =>
        clear hcell HC HWK HPR HPG HND
        obtain ⟨j, G2, st2, hj, rfl, hC, hW, hpr, hpG, hnd, hmes⟩ := hrel
        obtain ⟨g2, cap2, rfl⟩ := hW.2
        have HC := Lib.hid hC; have HWK := Lib.hid hW; have HPR := Lib.hid hpr; have HPG := Lib.hid hpG; have HND := Lib.hid hnd; have HME := Lib.hid hmes
        clear hC hW hpr hpG hnd hmes
        by_cases hlt : j < p.ps.length
        · have hpl := HPL.out
          obtain ⟨hA, kA⟩ := HPR.out j hlt (Nat.le_refl _)
          obtain ⟨ka, kc, hv⟩ := kA.kids.slice
          rw [hv] at hA kA
          obtain ⟨hpg0, pcs, hpcs⟩ := HC.out.typed _ HPG.out
          have HSN : Hid (sizeAll ((p.ps.map (·.1)).take (j + 1)) = sizeAll ((p.ps.map (·.1)).take j) + (1 + sizeAll p.ps[j].1.kids)) := by
            unfold Hid
            rw [sizeAll_snoc (by simpa using hlt)]
            congr 1
            rw [List.getElem_map]
            generalize p.ps[j].1 = q
            cases q; simp [E.size]
          have HL2 : Hid (st2.length ≤ 1000000) := by
            have h1 := stM_len st2
            have h2 := HME.out
            have h3 := HM.out
            have h4 := sizeAll_take (p.ps.map (·.1)) j
            unfold Hid; omega
          have HNX : Hid (∀ w', PRow S N0 w' p j → PRow S N0 w' p (j + 1)) := fun w' h i hi h0 => h i hi (by omega)
          by_cases hz : p.ps[j].1.kids.length = 0
          · have hz1 : ¬ 0 < p.ps[j].1.kids.length := by omega
            have hzd : decide (0 < p.ps[j].1.kids.length) = false := decide_eq_false hz1
            have HZ : Hid (sizeAll p.ps[j].1.kids = 0) := by rw [List.length_eq_zero_iff.1 hz]; rfl
            clear hz kA hv
            go_wp2_with fail
            refine ⟨⟨j + 1, G2, st2, by omega, by go_num, HC.out, HWK.out, HNX.out _ HPR.out, HPG.out, HND.out, ?_⟩, by simp [intOf]; omega⟩
            rw [HSN.out, HZ.out]; have := HME.out; omega
          · have hz1 : 0 < p.ps[j].1.kids.length := by omega
            have hzd : decide (0 < p.ps[j].1.kids.length) = true := decide_eq_true hz1
            rcases id kA with ⟨_, e0⟩ | ⟨b, o, cap', e0, hkl, hSb, hki⟩
            · rw [e0] at hz; exact absurd rfl hz
            cases e0
            obtain ⟨qs, hq, hqc⟩ := kids_ps p.ps[j].1.kids o hki
            have hql : p.ps[j].1.kids.length = qs.length := by rw [← hq, List.length_map]
            have hsz : qs.length ≤ 100000 := by
              have h1 := length_le_sizeAll p.ps[j].1.kids
              have h2 := HSN.out
              have h3 := sizeAll_take (p.ps.map (·.1)) (j + 1)
              have h4 := HM.out
              omega
            have HPRj : Hid (∀ i (hi : i < p.ps.length), j ≤ i → wr.cell? ⟨p.g, i * 4 + 3, none⟩ = some p.ps[i].2 ∧ KidsT (fun k => S k ∧ k < N0) wr p.ps[i].2 p.ps[i].1.kids) := HPR.out
            have HQ := Lib.hid hq; have HQC := Lib.hid hqc; have HVJ := Lib.hid hv
            have hgf : wr.frozen? ⟨p.g, j * 4 + 3, none⟩ = false := Lib.frozen_of_heap hpcs _
            have hpgw : p.g < wr.heap.size := lt_heap hpcs
            have HCALL := Lib.hid (CloneE_any b o kc qs wr (by omega) hsz (fun i hi => ⟨(hqc i hi).1, (hqc i hi).2.1, (hqc i hi).2.2.1, (hqc i hi).2.2.2.1⟩) (fun q hq' => by
              obtain ⟨i, hi, rfl⟩ := List.getElem_of_mem hq'
              have hk5 := (hqc i hi).2.2.2.2
              exact hk5.there.mono fun k hk => hk.2))
            have hnw : N0 + 2 ≤ wr.heap.size := by have := HC.out.ext.size; omega
            rw [hql] at hA hzd hz1
            clear hz kA hv hki hq hqc hSb hkl
            have HA := Lib.hid hA
            go_wp2_with fail
            refine HCALL.out.mono ?_
            rintro r w5 ⟨⟨gq, cp, rfl, ho⟩, x5⟩
            have ho2 : w5.ownsRow (N0 + 2) 25 4 (.slice (some ⟨gq, 0, none⟩) qs.length cp) qs.length (flat4 qs) ∧ wr.heap.size ≤ gq := by
              obtain ⟨h1, h2⟩ := ho
              rcases h2 with ⟨e1, _⟩ | ⟨g', c', cur, hv, hg, r⟩
              · cases e1
              · cases hv; exact ⟨⟨h1, .inr ⟨_, _, cur, rfl, by omega, r⟩⟩, hg⟩
            have hC5 := HC.out.later x5
            have hPR5 := HPR.out.later hpgw x5
            have hkq : ∀ q ∈ qs, KidsT (fun k => S k ∧ k < N0) w5 q.2 q.1.kids := fun q hq' => by
              obtain ⟨i, hi, rfl⟩ := List.getElem_of_mem hq'
              exact ((HQC.out i hi).2.2.2.2).keep fun k _ hk => x5.block k hk
            obtain ⟨_, pcs5, hpcs5⟩ := hC5.typed _ HPG.out
            have hnG : gq ∉ G2 := fun h => by
              obtain ⟨_, cs, hc⟩ := HC.out.typed _ h
              have := lt_heap hc; omega
            obtain ⟨hC6, hPR6⟩ := hC5.store hlt hPR5 HPG.out HND.out hz0 HQ.out (by omega) (by omega) hnG (by omega) ho2.1 hkq hsz
            have hA5 := x5.cell hA
            have hA6 := cell_set_same hpcs5 hA5 (.slice (some ⟨gq, 0, none⟩) qs.length cp)
            have hgf5 : w5.frozen? ⟨p.g, j * 4 + 3, none⟩ = false := Lib.frozen_of_heap hpcs5 _
            have hW6 : WStk N0 (w5.setCell ⟨p.g, j * 4 + 3, none⟩ (.slice (some ⟨gq, 0, none⟩) qs.length cp)) (.slice (some ⟨g2, 0, none⟩) st2.length cap2) st2 := (HWK.out.later x5).keep fun k hk => heap_setCell_other _ _ _ _ (by
              obtain ⟨_, cs, hc⟩ := (HWK.out.later x5).block k hk
              rintro rfl
              rw [hpcs5] at hc; cases hc)
            have HC6 := Lib.hid hC6; have HPR6 := Lib.hid hPR6; have HW6 := Lib.hid hW6
            have hgn : p.g ≠ gq := by omega
            have hz6 : N0 + 2 ≤ (w5.setCell ⟨p.g, j * 4 + 3, none⟩ (.slice (some ⟨gq, 0, none⟩) qs.length cp)).heap.size := by
              have := x5.size; simp only [World.setCell]; simp; omega
            clear ho ho2 hC5 hPR5 hkq hpcs5 hnG hC6 hPR6 hW6 x5 hA hgf hpcs
            go_upto_region 11 with fail
            generalize hV : w5.setCell ⟨p.g, j * 4 + 3, none⟩ (.slice (some ⟨gq, 0, none⟩) qs.length cp) = V at *
            clear hV hA5 hgf5
            have hll := HL2.out
            go_wp2_with (at_builtin; refine wpList_append_pend rfl (.tmp 47) (.tmp 53) rfl N0 V _ st2 ⟨gq, cp, qs⟩ rfl rfl HW6.out hll hz6 ?_)
            intro g4 cap4 w7 hS4 hX4
            have hfar : ∀ k, (k < N0 ∨ k ∈ gq :: G2) → k < V.heap.size → w7.heap[k]? = V.heap[k]? := fun k hk hs => hX4.block k hs fun e => by
              obtain ⟨h1, cs, hc⟩ := HW6.out.block k e.symm
              rcases hk with hk | hk
              · omega
              · obtain ⟨_, cs2, hc2⟩ := HC6.out.typed k hk
                rw [hc2] at hc; cases hc
            have HC7 : Hid (CloI S N0 (N0 + 2) e W0 (gq :: G2) (st2 ++ [⟨gq, cp, qs⟩]) w7) := HC6.out.keep (HC6.out.ext.grown hX4 fun k e => by have := (HW6.out.block k e).1; omega) hfar
            have HPR7 : Hid (PRow S N0 w7 p (j + 1)) := HPR6.out.keep (fun _ => World.cell?_of_block (hfar _ (.inr (List.mem_cons_of_mem _ HPG.out)) (by
              obtain ⟨_, cs, hc⟩ := HC6.out.typed p.g (List.mem_cons_of_mem _ HPG.out)
              exact lt_heap hc))) fun k hk hs => hfar k (.inl hk) hs
            have HS4 := Lib.hid hS4
            clear hS4 hX4 hfar hA6
            go_wp2_with fail
            refine ⟨⟨j + 1, gq :: G2, st2 ++ [⟨gq, cp, qs⟩], by omega, by go_num, HC7.out, by simpa using HS4.out, HPR7.out, List.mem_cons_of_mem _ HPG.out, ?_, ?_⟩, by simp [intOf]; omega⟩
            · rw [List.map_append]
              intro h
              rcases List.mem_append.1 h with h | h
              · exact HND.out h
              · simp at h; exact hgn h
            · rw [HSN.out, stM_snoc, HQ.out]; have := HME.out; omega
        · have HF : Hid (CLoop S N0 (N0 + 2) e W0 (stM st2) (.slice (some ⟨g2, 0, none⟩) st2.length cap2) wr) := by
            refine ⟨G2, st2, rfl, HC.out, HWK.out, ?_⟩
            have h1 := HME.out
            have h2 := HM.out
            rw [List.take_of_length_le (by rw [List.length_map]; omega)] at h1
            omega
          have HMES : Hid (stM st2 < stM (st' ++ [p])) := by
            have h1 := HME.out
            rw [List.take_of_length_le (by rw [List.length_map]; omega)] at h1
            unfold Hid
            rw [stM_snoc]; omega
          go_wp2_with fail
          go_roundg (stM st2)
          case measure => rw [List.concat_eq_append]; exact HMES.out
          case rel => exact HF.out
end Go.Proofs.YtlcgbdjmlnjhcaaGreatDoor
