/-
  A range over a function whose body may panic: the round passes the panic to the function that is ranged over, which passes it on. The walk of one activation of one function (WpE).
-/
import Derived.Test.YtnkhaobokmmnjaaDoorRs
namespace Go.Proofs.YtnkhaobokmmnjaaDoor
open Go.RowKit Go.Shelf

section
variable {F : Fence} {n : Nat} {P : Program}

/-- What is asked at the end of a round that goes off its end or panics. -/
def roundPostP (P : Program) (l : Nat) (R : Ending → World → Prop) : Exit → Act → World → Prop
  | .normal, _, w => ∃ v w', (Instr.endRound l none).run P w = .ok v w' ∧ R (.returned v) w'
  | .panic chain, a, w => a.defers = [] ∧ R (.panicked chain) w
  | _, _, _ => False
theorem roundIn_of_wpInP {l : Nat} {f : FuncId} {fn : Func} {tmps : Array Value} {assign body : Code} {w : World} {R : Ending → World → Prop} (hF : F.fn f) (hf : P.funcs[f]? = some fn)
    (h : assign.wpIn (F.inRound l) n P (Exit.then (fun a₁ w₁ => ∃ w₂, (Instr.beginRound l).run P w₁ = .ok () w₂ ∧ body.wpIn (F.inRound l) n P (roundPostP P l R) a₁ w₂) (fun _ _ _ => False))
      { tmps := tmps, defers := [] } w) :
    RoundIn F n P l f tmps assign body w R := by
  refine ⟨hF, fun c cs hr => ?_⟩
  let b : Frame := { (default : Frame) with fn := f, kind := .normal, roundOf := some l }
  have hb0 : Frame.round l f tmps assign body .normal = b.atR { tmps := tmps, defers := [] } [.code assign, .beginRound, .code body] := by
    simp [Frame.round, Frame.atR, b]
  have hr' : (F.inRound l).room ((c :: cs).length + 1 + n) := hr
  have hF' : (F.inRound l).fn b.fn := hF
  obtain ⟨e, a₁, w₁, hq, harr⟩ := h b [.beginRound, .code body] (c :: cs) rfl hF' hr'
  rw [← hb0] at harr
  cases e with
  | normal =>
    obtain ⟨w₂, hbr, hbody⟩ := hq
    have s1 : StepsIn (Machine.fenced P (F.inRound l)) P (lone (b.atR a₁ [.beginRound, .code body]) (c :: cs) w₁) (lone (b.atR a₁ [.code body]) (c :: cs) w₂) :=
      .one (fenced_calm (fr := b.atR a₁ [.beginRound, .code body]) hF' hr' rfl) (stepR_beginRound rfl hbr)
    obtain ⟨e₂, a₂, w₃, hq₂, harr₂⟩ := hbody b [] (c :: cs) rfl hF' hr'
    cases e₂ with
    | normal =>
      obtain ⟨v, w₄, hend, hR⟩ := hq₂
      exact ⟨.returned v, w₄, hR, (StepsIn.trans harr s1).trans (StepsIn.trans harr₂ (.one (fenced_calm (fr := b.atR a₂ []) hF' hr' rfl) (stepR_round_end rfl rfl hend)))⟩
    | panic chain =>
      obtain ⟨hd, hR⟩ := hq₂
      obtain ⟨todo, hs⟩ := harr₂
      have hl : ({ b.atR a₂ todo with mode := .panicking chain } : Frame).leaving P w₃ (.panicked chain) := ⟨rfl, hd, fn, hf⟩
      exact ⟨.panicked chain, w₃, hR, (StepsIn.trans harr s1).trans (StepsIn.trans hs (.one (fenced_leaving hF' hr' hl) (step_leave_panicked hl)))⟩
    | exit id => exact hq₂.elim
    | goto t => exact hq₂.elim
    | ret => exact hq₂.elim
    | outgrown => exact hq₂.elim
  | exit id => exact hq.elim
  | goto t => exact hq.elim
  | ret => exact hq.elim
  | panic chain => exact hq.elim
  | outgrown => exact hq.elim

/-! ### One activation of one function -/
def WpE (f : FuncId) (P : Program) (c : Code) (Q : Exit → Act → World → Prop) (a : Act) (w : World) : Prop :=
  ∀ (b : Frame) (k : List Item) (cs : List Frame), b.roundOf = none → b.fn = f →
    ∃ e a' w', Q e a' w' ∧ ArrivesIn (Machine.fenced P Fence.wide) P (lone (b.atR a (.code c :: k)) cs w) b k cs e a' w'
variable {f : FuncId} {Q : Exit → Act → World → Prop} {a : Act} {w : World}
theorem WpE.of_wpIn {c : Code} (h : c.wpIn Fence.wide n P Q a w) : WpE f P c Q a w := fun b k cs hro _ => h b k cs hro trivial (room_wide _)
theorem WpE.mono {c : Code} {Q' : Exit → Act → World → Prop} (h : WpE f P c Q a w) (hq : ∀ e a w, Q e a w → Q' e a w) : WpE f P c Q' a w :=
  fun b k cs hro hb => let ⟨e, a', w', q, r⟩ := h b k cs hro hb; ⟨e, a', w', hq _ _ _ q, r⟩
theorem WpE.seq {x y : Code} (h : WpE f P x (Exit.then (WpE f P y Q) Q) a w) : WpE f P (.seq x y) Q a w := by
  intro b k cs hro hb
  have h0 : (lone (b.atR a (.code (.seq x y) :: k)) cs w).fenced P Fence.wide := fenced_wide P _
  obtain ⟨e, a₁, w₁, hq, harr⟩ := h b (.code y :: k) cs hro hb
  cases e with
  | normal =>
    obtain ⟨e₂, a₂, w₂, hq₂, harr₂⟩ := hq b k cs hro hb
    exact ⟨e₂, a₂, w₂, hq₂, .of_steps (.head h0 stepR_seq harr) harr₂⟩
  | exit id => exact ⟨_, a₁, w₁, hq, .of_steps (.one h0 stepR_seq) (.pass (x := .code y) rfl (fun _ _ => .inl (by simp)) harr)⟩
  | goto l => exact ⟨_, a₁, w₁, hq, .of_steps (.one h0 stepR_seq) (.pass (x := .code y) rfl (fun _ _ => .inl (by simp)) harr)⟩
  | ret => exact ⟨_, a₁, w₁, hq, .of_steps (.one h0 stepR_seq) (.pass (x := .code y) rfl (fun _ _ => .inl (by simp)) harr)⟩
  | panic ch => exact ⟨_, a₁, w₁, hq, .of_steps (.one h0 stepR_seq) (.pass (x := .code y) rfl (fun _ _ => .inl (by simp)) harr)⟩
  | outgrown => exact ⟨_, a₁, w₁, hq, .of_steps (.one h0 stepR_seq) (.pass (x := .code y) rfl (fun _ _ => .inl (by simp)) harr)⟩
theorem WpE.block {id : Nat} {c : Code} (h : WpE f P c (Exit.inBlock id Q) a w) : WpE f P (.block id c) Q a w := by
  intro b k cs hro hb
  have h0 : (lone (b.atR a (.code (.block id c) :: k)) cs w).fenced P Fence.wide := fenced_wide P _
  obtain ⟨e, a₁, w₁, hq, harr⟩ := h b (.inBlock id :: k) cs hro hb
  cases e with
  | normal => exact ⟨.normal, a₁, w₁, hq, .head h0 stepR_block (StepsIn.trans harr (.one (fenced_wide P _) stepR_inBlock))⟩
  | exit id' =>
    by_cases hid : id' = id
    · simp only [Exit.inBlock, hid, if_true] at hq
      exact ⟨.normal, a₁, w₁, hq, .head h0 stepR_block (harr.1 k (by simp [exitTo, hid]))⟩
    · simp only [Exit.inBlock, hid, if_false] at hq
      have this : (id == id') = false := by simp; exact fun h => hid h.symm
      have hx : exitTo id' (.inBlock id :: k) = exitTo id' k := by simp [exitTo, this]
      exact ⟨.exit id', a₁, w₁, hq, .of_steps (.one h0 stepR_block) ⟨fun k' hk => harr.1 k' (by rw [hx]; exact hk), fun hr hk => harr.2 hr (by rw [hx]; exact hk)⟩⟩
  | goto l => exact ⟨.goto l, a₁, w₁, hq, .of_steps (.one h0 stepR_block) ⟨fun k' hk => harr.1 k' hk, fun hr hk => harr.2 hr hk⟩⟩
  | ret => exact ⟨.ret, a₁, w₁, hq, .of_steps (.one h0 stepR_block) harr⟩
  | panic ch => exact ⟨.panic ch, a₁, w₁, hq, .of_steps (.one h0 stepR_block) harr⟩
  | outgrown => exact ⟨.outgrown, a₁, w₁, hq, .of_steps (.one h0 stepR_block) harr⟩
theorem WpE.seqIn {x y : Code} (h : x.wpIn Fence.wide n P (Exit.then (WpE f P y Q) Q) a w) : WpE f P (.seq x y) Q a w := .seq (.of_wpIn h)

theorem WpE.rangeFunc {g : Operand} {ps : Array Tmp} {assign body : Code}
    (h : ∃ (l : Nat) (mark : List Deferred) (w₁ : World) (d : Deferred) (w₁' : World) (f' : FuncId) (args : Array Value) (w₂ : World),
      (Instr.enterLoop f a.tmps ps assign body none).run P w = .ok (l, mark) w₁ ∧
      (resolve a.eval (rangeCall g l) 0).run P w₁ = .ok d w₁' ∧
      (invoke d.target d.args).run P w₁' = .ok (.enter f' args) w₂ ∧
      CallsIn Fence.wide n P f' args w₂ (fun
        | .returned _, w₃ => ∃ w₄, (Instr.endLoop l).run P w₃ = .ok none w₄ ∧ Q .normal { a with defers := mark ++ a.defers } w₄
        | .panicked chain, w₃ => Q (.panic chain) { a with defers := mark ++ a.defers } w₃
        | .outgrown, _ => False)) :
    WpE f P (.rangeFunc g ps assign body) Q a w := by
  intro b k cs hro hb
  obtain ⟨l, mark, w₁, d, w₁', f', args, w₂, he, hres, hinv, hF, hcall⟩ := h
  rw [← hro, ← hb] at he
  have h0 : (lone (b.atR a (.code (.rangeFunc g ps assign body) :: k)) cs w).fenced P Fence.wide := fenced_wide P _
  have henter := stepR_rangeFunc (P := P) (b := b) (a := a) (k := k) (cs := cs) (w := w) he hres hinv
  obtain ⟨e, w₃, fr, hR, hsteps, hfn, hleave⟩ := hcall (b.atR { a with defers := mark ++ a.defers } (.inRangeFunc l :: k) :: cs) (room_wide _)
  cases e with
  | outgrown => exact hR.elim
  | returned v =>
    have hl : (lone fr (b.atR { a with defers := mark ++ a.defers } (.inRangeFunc l :: k) :: cs) w₃).fenced P Fence.wide := fenced_wide P _
    obtain ⟨w₄, hend, hj⟩ := hR
    refine ⟨.normal, _, w₄, hj, .head h0 henter (StepsIn.trans hsteps (.head hl ?_ (.one (fenced_wide P _) (stepR_endRangeFunc (jump := none) hend))))⟩
    rw [← finish_atR_inRangeFunc l v]; exact step_leave_returned hleave
  | panicked chain =>
    have hl : (lone fr (b.atR { a with defers := mark ++ a.defers } (.inRangeFunc l :: k) :: cs) w₃).fenced P Fence.wide := fenced_wide P _
    refine ⟨.panic chain, _, w₃, hR, .inRangeFunc l :: k, .head h0 henter (StepsIn.trans hsteps (.one hl ?_))⟩
    rw [← Frame.raise_atR]; exact step_leave_panicked hleave
theorem calls_of_wpE {fn : Func} {c : Code} {args : Array Value} {R : Ending → World → Prop}
    (hf : P.funcs[f]? = some fn) (hb : fn.body = some c)
    (h : WpE f P c (bodyPostM Fence.wide 5 P fn R) { tmps := args ++ Array.replicate (fn.ntmps - args.size) undef, defers := [] } w) : Calls P f args w R := by
  refine callsIn_wide (n := 5).1 ⟨trivial, fun cs hr => ?_⟩
  let b : Frame := { (default : Frame) with fn := f, kind := .normal, roundOf := none }
  have henter : Frame.enter P f args .normal =
      b.atR { tmps := args ++ Array.replicate (fn.ntmps - args.size) undef, defers := [] } [.code c] := by
    simp [Frame.enter, Frame.atR, hf, hb, b]
  obtain ⟨e, a', w', hq, harr⟩ := h b [] cs rfl rfl
  rw [← henter] at harr
  cases e with
  | normal =>
    obtain ⟨e', w'', fr', hR, hs, hfn, hl⟩ := leaves_stepsInM a'.defers .returning w' { b.atR a' [] with mode := .returning } cs rfl rfl rfl hf rfl trivial hr hq
    exact ⟨e', w'', fr', hR, ComesIn.of_steps (StepsIn.trans harr (.one (fenced_wide P _) (stepR_end rfl))) hs, hfn, hl⟩
  | ret =>
    obtain ⟨todo, hs₀⟩ := harr.1 rfl
    obtain ⟨e', w'', fr', hR, hs, hfn, hl⟩ := leaves_stepsInM a'.defers .returning w' { b.atR a' todo with mode := .returning } cs rfl rfl rfl hf rfl trivial hr hq
    exact ⟨e', w'', fr', hR, ComesIn.of_steps hs₀ hs, hfn, hl⟩
  | panic chain =>
    obtain ⟨todo, hs₀⟩ := harr
    obtain ⟨e', w'', fr', hR, hs, hfn, hl⟩ := leaves_stepsInM a'.defers (.panicking chain) w' { b.atR a' todo with mode := .panicking chain } cs rfl rfl rfl hf rfl trivial hr hq
    exact ⟨e', w'', fr', hR, ComesIn.of_steps hs₀ hs, hfn, hl⟩
  | exit id => exact hq.elim
  | goto l => exact hq.elim
  | outgrown => exact ⟨.outgrown, w', b, hq, harr.resolve_left (by simp [b]), rfl, trivial⟩

/-- The promise of a function that is ranged over, writes the box b, and passes on a round's panic. -/
def RangesP {α : Type} (F : Fence) (n : Nat) (P : Program) (g : Nat) (lb : Array Value) (encs : α → Array Value) (b : Nat) (Kp : World → World → Prop) (Nx : List α → α → Prop) (S : List α → Prop) (w : World) : Prop :=
  ∀ (l : Nat) (J : List α → World → Prop) (Jp : List PanicEntry → World → Prop) (W : World), Below w.heap.size w W → Deaf b J → (∀ s W q, J s W → J s (W.drewN q)) →
    (∀ pre x W1, J pre W1 → Nx pre x → YieldAt F (n - 1) P l (encs x) W1 fun e W' =>
      (e = .returned (.bool true) ∧ J (pre ++ [x]) W' ∧ Kp W1 W') ∨ (∃ ch, e = .panicked ch ∧ Jp ch W')) →
    J [] W →
    CallsIn F n P g (#[.func (.yield l) #[] #[]] ++ lb) W fun e W' => (∃ v, e = .returned v ∧ ∃ xs, S xs ∧ J xs W') ∨ (∃ ch, e = .panicked ch ∧ Jp ch W')

/-- How a body that goes off its end or panics ends. -/
def panicPost {α : Type} (B : Nat) (Kp : World → World → Prop) (I : List α → World → Prop) (Ip : List PanicEntry → World → Prop) (xs : List α) (W : World) : Exit → Act → World → Prop
  | .normal, _, W' => KeepsFrom B W W' ∧ Kp W W' ∧ I xs W'
  | .panic ch, a', W' => a'.defers = [] ∧ KeepsFrom B W W' ∧ Ip ch W'
  | _, _, _ => False

theorem WpE.range_boxP {α : Type} {fn : Func} (hfn : P.funcs[f]? = some fn) {g : Operand} {ps : Array Tmp} {assign body : Code}
    {gf : Nat} {lb : Array Value} (hg : a.eval g = .func (.func gf) #[] lb) (eg : ∀ args w, (callFunc gf args).run P w = .ok (.enter gf args) w)
    {encs : α → Array Value} {b : Nat} (hb : b < w.heap.size) {Kp : World → World → Prop} {Nx : List α → α → Prop} {S : List α → Prop} (hseq : RangesP Fence.wide n P gf lb encs b Kp Nx S w)
    (hKt : ∀ {A B C : World}, Kp A B → Kp B C → Kp A C) (hKb : ∀ (W : World) (l : Nat) (o o' : Obj), w.heap.size ≤ l → W.heap[l]? = some o → o.isCells = false → Kp W (W.putObj l o')) (hps : ∀ x, (encs x).size = ps.size)
    (I : List α → World → Prop) (Ip : List PanicEntry → World → Prop) (hI : OwnFrom w.heap.size I) (hd : Deaf b I) (h0 : I [] w) (a₁ : α → Act)
    (hassign : ∀ (l : Nat) (x : α) (W : World) (K : Act → World → Prop), K (a₁ x) W →
      assign.wpIn (Fence.wide.inRound l) (n - 1) P (Exit.then K (fun _ _ _ => False)) { tmps := (ps.zip (encs x)).foldl (fun t (p, v) => t.setIfInBounds p v) a.tmps, defers := [] } W)
    (hbody : ∀ (l : Nat) (pre : List α) (x : α) (W : World), I pre W → Nx pre x → body.wpIn (Fence.wide.inRound l) (n - 1) P (panicPost w.heap.size Kp I Ip (pre ++ [x]) W) (a₁ x) W)
    (hdone : ∀ (D : Nat) (xs : List α) (W : World), w.heap.size ≤ D → S xs → I xs W → W.heap[D]? = some (.deferred (some [])) → Q .normal { a with defers := { target := .collected D, args := #[] } :: a.defers } W)
    (hpan : ∀ (D : Nat) (ch : List PanicEntry) (W : World), w.heap.size ≤ D → Ip ch W → W.heap[D]? = some (.deferred (some [])) → Q (.panic ch) { a with defers := { target := .collected D, args := #[] } :: a.defers } W) :
    WpE f P (.rangeFunc g ps assign body) Q a w := by
  refine WpE.rangeFunc (n := n) ?_
  obtain ⟨rec, hrec⟩ : ∃ rec : LoopState → Option Code → Loop, ∀ s c, rec s c = { state := s, pending := c, fn := f, tmps := a.tmps, params := ps, assign := assign, body := body, defers := w.heap.size } := ⟨fun s c => _, fun _ _ => rfl⟩
  obtain ⟨W1, hW1⟩ : ∃ W1, W1 = (w.alloc (.deferred (some []))).alloc (.loop (rec .ready none)) := ⟨_, rfl⟩
  have hbook : Books rec w.heap.size .ready none W1 := by
    constructor
    · have h := World.alloc_heap_new (w.alloc (.deferred (some []))) (.loop (rec .ready none))
      rw [World.size_alloc, ← hW1] at h; exact h
    · rw [hW1]; exact (Below.heap_alloc _ _ _ (by simp)).trans (World.alloc_heap_new w _)
  have hstart : I [] W1 := by rw [hW1]; exact hI.alloc _ (hI.alloc _ h0)
  have hlow : Below w.heap.size w W1 := by rw [hW1]; exact ((Below.refl _ w).alloc (Nat.le_refl _) _).alloc (by simp) _
  have hent := run_enterLoop_outer (P := P) (w := w) f a.tmps ps assign body
  rw [← hrec, ← hW1] at hent
  have hend : ∀ (c : Option Code) (W3 : World), Books rec w.heap.size .busy none W3 → (Instr.endRound (w.heap.size + 1) c).run P W3 = .ok (.bool c.isNone) (W3.putObj (w.heap.size + 1) (.loop (rec (if c.isNone then .ready else .done) c))) := fun c W3 hk => by
    have h := run_endRound (P := P) c hk.record
    rw [hrec] at h ⊢; exact h
  refine ⟨w.heap.size + 1, [{ target := .collected w.heap.size, args := #[] }], W1, { target := .fn (.func gf) lb, args := #[.func (.yield (w.heap.size + 1)) #[] #[]] }, W1, gf,
    #[.func (.yield (w.heap.size + 1)) #[] #[]] ++ lb, W1, hent, ?_, ?_, ?_⟩
  · simp only [resolve, hg]; simp [go_sem]
  · simp [invoke, go_sem, eg]
  refine (hseq (w.heap.size + 1) (fun pre W => I pre W ∧ Books rec w.heap.size .ready none W) (fun ch W => Ip ch W ∧ W.heap[w.heap.size]? = some (.deferred (some []))) W1 hlow
    (fun s W v h => ⟨hd s W v h.1, h.2.store hb v⟩) (fun s W q h => ⟨hI s W (W.drewN q) none h.1 ⟨rfl, rfl, rfl, Nat.le_refl _, fun _ _ _ => rfl⟩ (fun r e => by cases e), ⟨h.2.record, h.2.block⟩⟩) ?_ ⟨hstart, hbook⟩).mono ?_
  · -- a round
    rintro pre x W ⟨hi, hk⟩ hx
    have hy := run_yield (P := P) (args := encs x) hk.record (by rw [hrec]; exact hps x)
    rw [hrec] at hy
    refine ⟨f, _, assign, body, hy, roundIn_of_wpInP trivial hfn (hassign _ x W _ ?_)⟩
    have hbeg := run_beginRound (P := P) hk.record (by rw [hrec])
    have hbusy : Books rec w.heap.size .busy none (W.putObj (w.heap.size + 1) (.loop (rec .busy none))) := hk.turn
    have e1 : ({ rec .ready none with state := .busy } : Loop) = rec .busy none := by rw [hrec, hrec]
    rw [e1] at hbeg
    refine ⟨_, hbeg, wpIn_mono (hbody _ pre x _ (hI.putObj _ hi (by omega) hk.record rfl) hx) ?_⟩
    have hkp : Kp W (W.putObj (w.heap.size + 1) (.loop (rec .busy none))) := hKb _ _ _ _ (by omega) hk.record rfl
    rintro e a3 W3 hp
    cases e with
    | normal =>
      obtain ⟨k3, kp3, i3⟩ := hp
      have b3 := hbusy.kept k3
      exact ⟨_, _, hend none W3 b3, .inl ⟨rfl, ⟨hI.putObj _ i3 (by omega) b3.record rfl, b3.turn⟩, hKt hkp (hKt kp3 (hKb _ _ _ _ (by omega) b3.record rfl))⟩⟩
    | panic ch =>
      obtain ⟨hd3, k3, i3⟩ := hp
      exact ⟨hd3, .inr ⟨ch, rfl, i3, (hbusy.kept k3).block⟩⟩
    | ret => exact hp.elim
    | exit id => exact hp.elim
    | goto t => exact hp.elim
    | outgrown => exact hp.elim
  · -- behind it
    rintro e W2 h
    rcases h with ⟨v, rfl, xs, hS, hi, hk⟩ | ⟨ch, rfl, hi, hk⟩
    · have h := run_endLoop (P := P) hk.record (by rw [hrec]; simp)
      rw [hrec] at h
      refine ⟨_, h, hdone _ xs _ (Nat.le_refl _) hS (hI.putObj _ hi (by omega) hk.record rfl) ?_⟩
      exact (World.putObj_heap_other (by omega)).trans hk.block
    · exact hpan _ ch _ (Nat.le_refl _) hi hk
end
end Go.Proofs.YtnkhaobokmmnjaaDoor
