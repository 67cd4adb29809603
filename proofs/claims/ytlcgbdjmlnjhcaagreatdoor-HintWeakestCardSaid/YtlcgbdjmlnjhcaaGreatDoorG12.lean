/-
  states.runs and slices.AppendSeq over it: a row of runs of the call's own.
  slices.AppendSeq and slices.Collect over the runs.
  The expression of a set of states, in plain words; slices with room.
  The walk of same; expressions in new memory.
-/
import Derived.Test.YtlcgbdjmlnjhcaaGreatDoorG11
import Derived.RangeFuncWrites
import Derived.Test.YtlcgbdjmlnjhcaaGreatDoorG08
import Derived.RegionTactic
import Derived.BigRegion
namespace Go.Proofs.YtlcgbdjmlnjhcaaGreatDoor
open Go.RowKit Go.Shelf
attribute [local go_sem] Oper.semAt_some

theorem infoRun : (Tryz.prog.info? 120).map (fun i => (i.zero, i.size, i.bytes)) = some (some (.agg #[.int .i64 0, .slice none 0 0]), 2, 32) := by kernel_rfl
def RunX.sl (x : RunX) : Value := .slice x.a (castL x.l).length x.c
def flatR (xs : List RunX) : List Value := xs.flatMap fun x => [.int .i64 x.last, x.sl]
theorem flatR_snoc (P : List RunX) (p : RunX) : flatR (P ++ [p]) = flatR P ++ [.int .i64 p.last, p.sl] := by simp [flatR]
theorem flatR_get (P : List RunX) (i : Nat) (h : i < P.length) : (flatR P)[i * 2]? = some (.int .i64 P[i].last) ∧ (flatR P)[i * 2 + 1]? = some P[i].sl := by
  induction P generalizing i with
  | nil => simp at h
  | cons a r ih =>
    cases i with
    | zero => exact ⟨rfl, rfl⟩
    | succ i =>
      have := ih i (by simpa using h)
      have e1 : (i + 1) * 2 = i * 2 + 2 := by omega
      have e2 : i * 2 + 2 + 1 = i * 2 + 1 + 2 := by omega
      rw [e1, e2]
      simpa [flatR, List.flatMap_cons] using this
/-- A row of runs of the call's own. -/
structure OwnRuns (w : World) (base : Nat) (v : Value) (xs : List RunX) : Prop where
  row : w.ownsRow base 120 2 v xs.length (flatR xs)
  each : ∀ x ∈ xs, OwnInts w base x.sl (castL x.l)
theorem OwnRuns.nil (w : World) (base : Nat) : OwnRuns w base (.slice none 0 0) [] := ⟨⟨rfl, .inl ⟨rfl, rfl⟩⟩, fun x hx => by simp at hx⟩
theorem OwnRuns.base {w : World} {base : Nat} {v : Value} {l : List RunX} (h : OwnRuns w base v l) (k : Nat) (hk : v.ownBlock = some k) : base ≤ k := by
  rcases h.row.2 with ⟨rfl, _⟩ | ⟨g, cap, cur, rfl, hg, _⟩
  · cases hk
  · simp [Value.ownBlock] at hk; omega
theorem OwnRuns.typed {w : World} {base : Nat} {v : Value} {l : List RunX} (h : OwnRuns w base v l) (k : Nat) (hk : v.ownBlock = some k) : ∃ cs : Array Value, w.heap[k]? = some (.cells cs 120 (0, 0)) := by
  rcases h.row.2 with ⟨rfl, _⟩ | ⟨g, cap, cur, rfl, hg, hh, _⟩
  · cases hk
  · cases hk; exact ⟨_, hh⟩
theorem OwnRuns.keep {w w' : World} {base : Nat} {v : Value} {l : List RunX} (h : OwnRuns w base v l) (hk : ∀ (k : Nat) (cs : Array Value) (t : TypeId), base ≤ k → w.heap[k]? = some (.cells cs t (0, 0)) → (t = 3 ∨ v.ownBlock = some k) → w'.heap[k]? = w.heap[k]?) : OwnRuns w' base v l := by
  refine ⟨?_, fun x hx => (h.each x hx).keep' fun k e => ?_⟩
  · obtain ⟨h1, h2⟩ := h.row
    refine ⟨h1, ?_⟩
    rcases h2 with h2 | ⟨g, cap, cur, hv, hg, hh, r⟩
    · exact .inl h2
    · exact .inr ⟨g, cap, cur, hv, hg, by rw [hk g _ _ hg hh (.inr (by rw [hv]; rfl))]; exact hh, r⟩
  · obtain ⟨cs, hc⟩ := (h.each x hx).typed k e
    exact hk k cs _ ((h.each x hx).base k e) hc (.inl rfl)
/-- A list of runs by value. -/
def RunsV (w : World) (v : Value) (xs : List RunX) : Prop :=
  ∃ a c, v = .slice a xs.length c ∧ xs.length ≤ c ∧ (xs = [] ∨ ∃ g o, a = some ⟨g, o, none⟩ ∧ c ≤ maxLen ∧
    ∀ (i : Nat) (hi : i < xs.length), w.cell? ⟨g, o + i * 2, none⟩ = some (.int .i64 xs[i].last) ∧ w.cell? ⟨g, o + i * 2 + 1, none⟩ = some xs[i].sl ∧ Ints w xs[i].sl (castL xs[i].l) ∧ (castL xs[i].l).length ≤ xs[i].c)
theorem OwnInts.cap {w : World} {base : Nat} {a : Option Addr} {n c : Nat} {l : List Int} (h : OwnInts w base (.slice a n c) l) : n ≤ c := by
  rcases h.2 with ⟨e, _⟩ | ⟨g, cap, cur, e, _, _, hn, _⟩
  · cases e; exact Nat.le_refl _
  · cases e; exact hn
theorem OwnRuns.runs {w : World} {base : Nat} {v : Value} {xs : List RunX} (h : OwnRuns w base v xs) : RunsV w v xs := by
  obtain ⟨_, h2⟩ := h.row
  rcases h2 with ⟨rfl, hl⟩ | ⟨g, cap, cur, rfl, _, hh, hn, hc, hs, ht⟩
  · have : xs = [] := List.length_eq_zero_iff.1 hl
    subst this
    exact ⟨_, _, rfl, Nat.le_refl _, .inl rfl⟩
  · refine ⟨_, _, rfl, hn, .inr ⟨g, 0, rfl, hc, fun i hi => ?_⟩⟩
    have e : ∀ j, j < xs.length * 2 → cur[j]? = (flatR xs)[j]? := fun j hj => by
      have := congrArg (fun x => x[j]?) ht
      simp only [List.getElem?_take, if_pos hj] at this
      simpa using this
    have hf := flatR_get xs i hi
    have ho := h.each xs[i] (List.getElem_mem hi)
    refine ⟨?_, ?_, ho.ints, OwnInts.cap ho⟩
    · simp only [World.cell?, hh, Nat.zero_add]; rw [e (i * 2) (by omega)]; exact hf.1
    · simp only [World.cell?, hh, Nat.zero_add]; rw [e (i * 2 + 1) (by omega)]; exact hf.2

set_option maxHeartbeats 1000000 in
/-- states.runs makes the iterator. -/
theorem runs_any (n : Nat) (s1 : Option Addr) (s2 s3 : Nat) (w low : Nat) (V : World) :
    CallsIn Fence.wide n Tryz.prog 86 #[.slice s1 s2 s3, .int .i64 low, .int .i64 w] V fun r W => r = .returned (.func (.func 108) #[] #[.pointer (some ⟨V.heap.size + 2, 0, none⟩), .pointer (some ⟨V.heap.size, 0, none⟩), .pointer (some ⟨V.heap.size + 1, 0, none⟩)]) ∧ Ext V W ∧ W.heap.size = V.heap.size + 3 ∧
      RunB W W.heap.size (V.heap.size + 2) V.heap.size (V.heap.size + 1) (.slice s1 s2 s3) w low := by
  refine callsIn_of_wp Tryz.func86 rfl trivial ?_ rfl
  simp only [Tryz.ntmps86, List.size_toArray, List.length_cons, List.length_nil, Nat.reduceAdd, Nat.reduceSub, Array.replicate_succ, Array.replicate_zero, List.push_toArray, List.append_toArray, List.nil_append, List.cons_append]
  gi_wp2
  go_ret
  have x1 : Ext V (V.alloc (.cells #[.slice s1 s2 s3] 35)) := (Ext.refl V).alloc _
  refine ⟨?_, ((x1.alloc _).alloc _), by simp, ?_⟩
  · simp
  · refine ⟨?_, ?_, ?_, Nat.le_refl _⟩
    · have := heap_new ((V.alloc (.cells #[.slice s1 s2 s3] 35)).alloc (.cells #[.int .i64 low] 3)) (.cells #[.int .i64 w] 3)
      simpa using this
    · have := heap_new (V.alloc (.cells #[.slice s1 s2 s3] 35)) (.cells #[.int .i64 low] 3)
      rw [heap_alloc_old _ _ (by simp)]
      simpa using this
    · rw [heap_alloc_old _ _ (by simp; omega), heap_alloc_old _ _ (by simp)]
      exact heap_new _ _
end Go.Proofs.YtlcgbdjmlnjhcaaGreatDoor
namespace Go.Proofs.YtlcgbdjmlnjhcaaGreatDoor
open Go.RowKit Go.Shelf
attribute [local go_sem] Oper.semAt_some

theorem grown_oth {W W' : World} {row : Option Nat} (hg : W.grownBy W' row) (hr : ∀ r, row = some r → ∃ o : Obj, W.heap[r]? = some o ∧ o.isCells = false) (k : Nat) (o : Obj) (hk : W.heap[k]? = some o) (ho : o.isCells = true) : W'.heap[k]? = W.heap[k]? :=
  hg.block k (Array.getElem?_eq_some_iff.1 hk).1 fun e => by
    obtain ⟨o', h1, h2⟩ := hr k e.symm
    rw [hk] at h1; cases h1; rw [ho] at h2; cases h2
theorem two_new (w : World) (x y : Value) (t : TypeId) : ∀ j u, [x, y][j]? = some u → (w.alloc (.cells #[x, y] t)).cell? ((⟨w.heap.size, 0, none⟩ : Addr).add j) = some u := by
  intro j u hj
  have hh : (w.alloc (.cells #[x, y] t)).heap[w.heap.size]? = some (.cells #[x, y] t (0, 0)) := heap_new _ _
  have hadd : (⟨w.heap.size, 0, none⟩ : Addr).add j = ⟨w.heap.size, j, none⟩ := by unfold Addr.add; split <;> simp_all
  rw [hadd]
  simp only [World.cell?, hh]
  simpa using hj
theorem grown_alloc' {W W' : World} {o : Obj} {row : Option Nat} (h : (W.alloc o).grownBy W' row) : W.grownBy W' row :=
  ⟨h.os, h.tape, h.output, by have := h.size; simp at this; omega, fun k hk hne => (h.block k (by simp; omega) hne).trans (Below.heap_alloc W _ k hk)⟩
theorem OwnRuns.mono {w : World} {base base' : Nat} {v : Value} {l : List RunX} (h : OwnRuns w base v l) (hb : base' ≤ base) : OwnRuns w base' v l := by
  obtain ⟨⟨h1, h2⟩, h3⟩ := h
  refine ⟨⟨h1, ?_⟩, fun x hx => (h3 x hx).mono hb⟩
  rcases h2 with h2 | ⟨g, cap, cur, hv, hg, r⟩
  · exact .inl h2
  · exact .inr ⟨g, cap, cur, hv, by omega, r⟩
theorem rowRuns_succ {w : World} {base k : Nat} {v : Value} {xs : List Value} (h : w.ownsRow base 120 2 v (k + 1) xs) : ∃ g cap, v = .slice (some ⟨g, 0, none⟩) (k + 1) cap := by
  rcases h.2 with ⟨_, h0⟩ | ⟨g, cap, cur, rfl, _⟩
  · omega
  · exact ⟨g, cap, rfl⟩
/-- The variable that gathers the runs: q its block, E the iterator's variable. -/
structure SeqI (w : World) (Bin q E : Nat) (xs : List RunX) (W : World) : Prop where
  var : ∃ a c, W.heap[q]? = some (.cells #[.slice a xs.length c] 117 (0, 0)) ∧ OwnRuns W (E + 1) (.slice a xs.length c) xs
  old : StepX (fun k => k = Bin) w W
theorem OwnRuns.alloc {w : World} {base : Nat} {v : Value} {l : List RunX} (h : OwnRuns w base v l) (o : Obj) : OwnRuns (w.alloc o) base v l :=
  h.keep fun _ _ _ _ hk _ => (heap_alloc_old w o (Array.getElem?_eq_some_iff.1 hk).1)
theorem StepX.sub {X Y : Nat → Prop} {A B : World} (h : StepX X A B) (hxy : ∀ k, k < A.heap.size → X k → Y k) : StepX Y A B := ⟨h.os, h.tape, h.output, h.size, fun k hk hn => h.block k hk fun e => hn (hxy k hk e)⟩
theorem SeqI.own {w : World} {Bin q E B : Nat} (hB : w.heap.size ≤ B) : OwnFrom B (SeqI w Bin q E) := by
  intro xs W W' row h hg hr
  have hr' : ∀ r, row = some r → ∃ o : Obj, W.heap[r]? = some o ∧ o.isCells = false := fun r e => (hr r e).2
  obtain ⟨a, c, h1, h2⟩ := h.var
  refine ⟨⟨a, c, (grown_oth hg hr' q _ h1 rfl).trans h1, h2.keep fun k cs t _ hk _ => grown_oth hg hr' k _ hk rfl⟩, h.old.grown (fun k e => Nat.le_trans hB (hr k e).1) hg⟩
theorem SeqI.stepX {w : World} {Bin q E : Nat} (hq : w.heap.size ≤ q) (hqE : q < E) (hBin : Bin < w.heap.size) {xs : List RunX} {A B : World} (h : SeqI w Bin q E xs A) (hst : StepX (fun k => k = Bin ∨ k = E) A B) : SeqI w Bin q E xs B := by
  obtain ⟨a, c, h1, h2⟩ := h.var
  have lt : ∀ (k : Nat) (o : Obj), A.heap[k]? = some o → k < A.heap.size := fun k o hk => (Array.getElem?_eq_some_iff.1 hk).1
  refine ⟨⟨a, c, (hst.block q (lt _ _ h1) (by omega)).trans h1, h2.keep fun k cs t hk0 hk _ => hst.block k (lt _ _ hk) (by omega)⟩, ?_⟩
  refine ⟨hst.os.trans h.old.os, hst.tape.trans h.old.tape, hst.output.trans h.old.output, Nat.le_trans h.old.size hst.size, fun k hk hx => (hst.block k (Nat.lt_of_lt_of_le hk h.old.size) (by omega)).trans (h.old.block k hk hx)⟩
theorem SeqI.next {w : World} {Bin q E : Nat} (hq : w.heap.size ≤ q) (hqE : q < E) {xs : List RunX} {W W' : World} (h : SeqI w Bin q E xs W) {a a' : Option Addr} {c c' : Nat} (hh : W.heap[q]? = some (.cells #[.slice a xs.length c] 117 (0, 0))) (ho : OwnRuns W (E + 1) (.slice a xs.length c) xs) (x : RunX) (hx : OwnInts W (E + 1) x.sl (castL x.l))
    (hg : W.grownBy W' (Value.slice a xs.length c).ownBlock) (hown : W'.ownsRow (E + 1) 120 2 (.slice a' (xs.length + 1) c') (xs.length + 1) (flatR xs ++ [.int .i64 x.last, x.sl])) : SeqI w Bin q E (xs ++ [x]) (W'.setCell ⟨q, 0, none⟩ (.slice a' (xs.length + 1) c')) := by
  have lt : ∀ (k : Nat) (o : Obj), W.heap[k]? = some o → k < W.heap.size := fun k o hk => (Array.getElem?_eq_some_iff.1 hk).1
  have oth : ∀ k, k ≠ q → (W'.setCell ⟨q, 0, none⟩ (.slice a' (xs.length + 1) c')).heap[k]? = W'.heap[k]? := fun k hk => heap_setCell_other _ _ _ _ hk
  have ints : ∀ y : RunX, OwnInts W (E + 1) y.sl (castL y.l) → OwnInts (W'.setCell ⟨q, 0, none⟩ (.slice a' (xs.length + 1) c')) (E + 1) y.sl (castL y.l) := fun y hy => hy.keep' fun k hk => by
    have hb := hy.base k hk
    obtain ⟨cs, hc⟩ := hy.typed k hk
    rw [oth k (by omega)]
    refine hg.block k (lt _ _ hc) fun e => ?_
    obtain ⟨cs', hc'⟩ := ho.typed k e.symm
    rw [hc] at hc'
    cases hc'
  have e1 : (xs ++ [x]).length = xs.length + 1 := by simp
  refine ⟨⟨a', c', ?_, ?_, ?_⟩, ?_⟩
  · rw [e1]
    have hq' : W'.heap[q]? = some (.cells #[.slice a xs.length c] 117 (0, 0)) := (hg.block q (lt _ _ hh) fun e => by have := ho.base q e.symm; omega).trans hh
    have := heap_setCell_same W' q 0 _ _ (.slice a' (xs.length + 1) c') hq'
    simpa using this
  · rw [e1, flatR_snoc]
    obtain ⟨h1, h2⟩ := hown
    refine ⟨h1, ?_⟩
    rcases h2 with h2 | ⟨g, cap, cur, hv, hg', hh', r⟩
    · exact .inl h2
    · exact .inr ⟨g, cap, cur, hv, hg', by rw [oth g (by omega)]; exact hh', r⟩
  · intro y hy
    rcases List.mem_append.1 hy with hy | hy
    · exact ints y (ho.each y hy)
    · rw [List.mem_singleton.1 hy]; exact ints x hx
  · have h1 := h.old.grown (fun k e => by have := ho.base k e; omega) hg
    refine ⟨h1.os, h1.tape, h1.output, by have := h1.size; simpa [World.setCell] using this, fun k hk hn => ?_⟩
    rw [oth k (by omega)]; exact h1.block k hk hn
theorem SeqI.keepT {w : World} {Bin q E : Nat} (hq : w.heap.size = q) (hqE : q < E) (hBin : Bin < w.heap.size) {xs : List RunX} {W W' : World} {a : Option Addr} {c : Nat} (hh : W.heap[q]? = some (.cells #[.slice a xs.length c] 117 (0, 0))) (ho : OwnRuns W (E + 1) (.slice a xs.length c) xs)
    (hg : W.grownBy W' (Value.slice a xs.length c).ownBlock) (v : Value) : KeepT w.heap.size runT (fun k => k = Bin ∨ k = E) W (W'.setCell ⟨q, 0, none⟩ v) := by
  refine ⟨by have := hg.size; simpa [World.setCell] using this, fun k cs t fr hk hx => ?_⟩
  have hne : k ≠ q := fun e => by
    subst e
    rw [hh] at hk; cases hk
    rcases hx with h | h | h
    · omega
    · omega
    · exact h (.inr rfl)
  rw [heap_setCell_other _ _ _ _ hne]
  refine (hg.block k (Array.getElem?_eq_some_iff.1 hk).1 fun e => ?_).trans hk
  have hb := ho.base k e.symm
  obtain ⟨cs', hc'⟩ := ho.typed k e.symm
  rw [hc'] at hk; cases hk
  rcases hx with h | h | h
  · omega
  · omega
  · exact h (.inl rfl)
set_option maxRecDepth 100000 in
set_option maxHeartbeats 2000000 in
theorem AppendSeq_runs (n : Nat) (hn : 3 ≤ n) (Bw Bin Bl w low : Nat) (hlow : low ≤ 12) (hw : w ≤ 8) (is : List Nat) (hs : is.Pairwise (· < ·)) (hb : ∀ x ∈ is, x < 4096) (s1 : Option Addr) (s3 : Nat) (w0 : World)
    (hB : RunB w0 w0.heap.size Bw Bin Bl (.slice s1 (castL is).length s3) w low) (hI : Ints w0 (.slice s1 (castL is).length s3) (castL is)) (hcap : (castL is).length ≤ s3) (hd : Bw ≠ Bin ∧ Bl ≠ Bin) :
    CallsIn Fence.wide n Tryz.prog 107 #[.slice none 0 0, .func (.func 108) #[] #[.pointer (some ⟨Bw, 0, none⟩), .pointer (some ⟨Bin, 0, none⟩), .pointer (some ⟨Bl, 0, none⟩)]] w0 fun r W =>
      ∃ v xs, r = .returned v ∧ xs.map RunX.pr = runsL low w is ∧ OwnRuns W w0.heap.size v xs ∧ StepX (fun k => k = Bin) w0 W := by
  have lt0 : ∀ (k : Nat) (o : Obj), w0.heap[k]? = some o → k < w0.heap.size := fun k o hk => (Array.getElem?_eq_some_iff.1 hk).1
  have hbin := lt0 _ _ hB.bin
  obtain ⟨i0, hi, hz0, hz1, hz2⟩ := info_parts infoRun
  have HG := runs1_gives (n - 1) (by omega) Bw Bin Bl w low hlow hw is hs hb s1 s3 w0 hB hI hcap hd
  have HGV := Lib.hid HG; have HBIN := Lib.hid hbin
  have hM : 2 ^ w ≤ 256 := by
    have := Nat.pow_le_pow_right (show 0 < 2 by decide) hw
    simpa using this
  have HM := Lib.hid hM
  clear HG hbin hB hI hcap hs hb hd hM lt0
  refine callsIn_of_wp_marks Tryz.func107 rfl trivial ?_ rfl
  simp only [Tryz.ntmps107, List.size_toArray, List.length_cons, List.length_nil, Nat.reduceAdd, Nat.reduceSub, Array.replicate_succ, Array.replicate_zero, List.push_toArray, List.append_toArray, List.nil_append, List.cons_append]
  gi_wp2
  obtain ⟨V1, hV1⟩ : ∃ V1, V1 = w0.alloc (.cells #[.slice none 0 0] 117) := ⟨_, rfl⟩
  rw [← hV1]
  have z1 : V1.heap.size = w0.heap.size + 1 := by rw [hV1]; simp
  have hq1 : V1.heap[w0.heap.size]? = some (.cells #[.slice none 0 0] 117 (0, 0)) := by rw [hV1]; exact heap_new _ _
  have x1 : Ext w0 V1 := by rw [hV1]; exact (Ext.refl w0).alloc _
  have hI1 : SeqI w0 Bin w0.heap.size (V1.heap.size + 2) [] V1 := ⟨⟨none, 0, hq1, OwnRuns.nil _ _⟩, StepX.ofExt x1⟩
  have HI1 := Lib.hid hI1; have Z1 := Lib.hid z1; have X1 := Lib.hid x1
  clear hV1 hI1 hq1 x1 z1
  refine wpIn_range_box rfl (by omega) (gf := 108) (lb := #[.pointer (some ⟨Bw, 0, none⟩), .pointer (some ⟨Bin, 0, none⟩), .pointer (some ⟨Bl, 0, none⟩)]) rfl trivial (enters_of Tryz.func108 (by kernel_rfl) rfl)
    HGV.out X1.out (by have := Z1.out; have := HBIN.out; omega) (fun _ => rfl)
    (SeqI w0 Bin w0.heap.size (V1.heap.size + 2)) (SeqI.own (by have := Z1.out; omega)) (fun s A B hs hst => hs.stepX (Nat.le_refl _) (by have := Z1.out; omega) HBIN.out hst) HI1.out
    (fun x a' A => ∃ q, a' = { tmps := #[.slice none 0 0, .func (.func 108) #[] #[.pointer (some ⟨Bw, 0, none⟩), .pointer (some ⟨Bin, 0, none⟩), .pointer (some ⟨Bl, 0, none⟩)], .pointer (some ⟨w0.heap.size, 0, none⟩), undef, .slice none 0 0, .pointer (some ⟨q, 0, none⟩), .func (.func 108) #[] #[.pointer (some ⟨Bw, 0, none⟩), .pointer (some ⟨Bin, 0, none⟩), .pointer (some ⟨Bl, 0, none⟩)], x.v, undef, undef, undef, undef, undef], defers := [] } ∧
      A.heap[q]? = some (.cells #[.int .i64 x.last, x.sl] 120 (0, 0)) ∧ V1.heap.size + 3 ≤ q ∧ OwnInts A (V1.heap.size + 2 + 1) x.sl (castL x.l)) ?hax ?assign ?body ?done
  case hax =>
    rintro x a' A A' ⟨q, h1, h2, h3, h4⟩ hsc
    exact ⟨q, h1, hsc.2 _ _ h2 rfl, h3, h4.keep' fun k hk => by obtain ⟨cs, hc⟩ := h4.typed k hk; rw [hc]; exact hsc.2 _ _ hc rfl⟩
  case assign =>
    intro l pre x W hI hG hsz
    have HIp := Lib.hid hI; have HGp := Lib.hid hG
    clear hI hG
    simp only [RunX.v]
    gi_wp2
    have hx : Ext W (W.alloc (.cells #[.int .i64 x.last, .slice x.a (castL x.l).length x.c] 120)) := (Ext.refl W).alloc _
    refine ⟨⟨W.heap.size, rfl, heap_new _ _, hsz, HGp.out.kept hx⟩, (SeqI.own (B := V1.heap.size) (by have := Z1.out; omega)).alloc _ HIp.out, (KeepsOthers.alloc _ _).from _, ?_⟩
    exact ⟨hx.size, fun k cs t fr hk _ => (hx.block k (Array.getElem?_eq_some_iff.1 hk).1).trans hk⟩
  case body =>
    rintro l pre x a' W ⟨q, rfl, hq, hq3, hx⟩ hI hlt hsz
    have HIp := Lib.hid hI; have HX := Lib.hid hx; have HQ := Lib.hid hq
    clear hI hx
    obtain ⟨ra, rc, hh, ho⟩ := HIp.out.var
    have c1 : W.cell? ⟨q, 0, none⟩ = some (.int .i64 x.last) := by simp [World.cell?, hq]
    have c2 : W.cell? ⟨q, 1, none⟩ = some (.slice x.a (castL x.l).length x.c) := by simp only [World.cell?, hq]; rfl
    have c3 : W.cell? ⟨w0.heap.size, 0, none⟩ = some (.slice ra pre.length rc) := by simp [World.cell?, hh]
    have hql : q < W.heap.size := (Array.getElem?_eq_some_iff.1 hq).1
    have HO := Lib.hid ho; have HH := Lib.hid hh; have HQL := Lib.hid (show V1.heap.size + 3 ≤ W.heap.size by omega)
    clear ho hh hq hq3 hql hsz
    have hpl : pre.length < 256 := by have := HM.out; omega
    simp only [RunX.v]
    gi_wp2_with (gi_at_builtin; refine wpListIn_append_own _ rfl (.tmp 8) (.tmp 10) 117 rfl (V1.heap.size + 2 + 1) 120 i0 (.agg #[.int .i64 0, .slice none 0 0]) 2 32 Tryz.underlying117 hi hz0 hz1 hz2 rfl (by decide) _ pre.length (flatR pre) rfl (HO.out.alloc _).row ⟨W.heap.size, 0, none⟩ 1 1 [.int .i64 x.last, .slice x.a (castL x.l).length x.c] rfl rfl (two_new _ _ _ _) (by simp [Value.oneCell']) (by unfold maxLen; omega) (by omega) (by have := HQL.out; simp; omega) ?_; intro v' w1 hown' hgrow _; obtain ⟨g', cap', rfl⟩ := rowRuns_succ hown'; replace hgrow := grown_alloc' hgrow; have HW := Lib.hid hown'; have HG := Lib.hid hgrow; have hb4 : w1.heap[w0.heap.size]? = _ := (hgrow.block _ (Array.getElem?_eq_some_iff.1 HH.out).1 (fun e => by have := HO.out.base _ e.symm; have := Z1.out; omega)).trans HH.out; have d0 : w1.cell? ⟨w0.heap.size, 0, none⟩ = some (.slice ra pre.length rc) := (by simp [World.cell?, hb4]); have d1 : w1.frozen? ⟨w0.heap.size, 0, none⟩ = false := frozen_of_row w1 w0.heap.size 0 _ _ hb4; clear hown' hgrow hb4)
    refine ⟨?_, ?_, ?_⟩
    · exact ((KeepsOthers.of_grownBy HG.out fun j o hj ho => by obtain ⟨cs, hc⟩ := HO.out.typed j hj; rw [hc] at ho; cases ho; rfl).trans (KeepsOthers.setCell _ _ _)).from _
    · exact SeqI.keepT rfl (by have := Z1.out; omega) HBIN.out HH.out HO.out HG.out _
    · exact SeqI.next (Nat.le_refl _) (by have := Z1.out; omega) HIp.out HH.out HO.out x HX.out HG.out HW.out
  case done =>
    rintro D xs W hD hS hI hK
    have HIp := Lib.hid hI
    clear hI
    obtain ⟨ra, rc, hh, ho⟩ := HIp.out.var
    have c3 : W.cell? ⟨w0.heap.size, 0, none⟩ = some (.slice ra xs.length rc) := by simp [World.cell?, hh]
    have HO := Lib.hid ho; have HH := Lib.hid hh; have HS := Lib.hid hS; have HK := Lib.hid hK
    clear ho hh hS hK
    gi_wp2
    have hg7 := grownBy_putObj' W D (.deferred none)
    have h7 : SeqI w0 Bin w0.heap.size (V1.heap.size + 2) xs (W.putObj D (.deferred none)) := (SeqI.own (B := V1.heap.size) (by have := Z1.out; omega)).putObj _ HIp.out hD HK.out rfl
    have h8 : OwnRuns (W.putObj D (.deferred none)) (V1.heap.size + 2 + 1) (.slice ra xs.length rc) xs := HO.out.keep fun k cs t _ hk _ => by
      rw [hk]
      exact (World.putObj_heap_other (fun e => by subst e; rw [HK.out] at hk; cases hk)).trans hk
    refine ⟨by simp, .inl ⟨_, _, rfl, run_takeDeferred HK.out, ?_⟩⟩
    exact ⟨_, results_tmp Tryz.results107 _ _ _, _, xs, rfl, HS.out, h8.mono (by have := Z1.out; omega), h7.old⟩
set_option maxHeartbeats 1000000 in
theorem Collect_runs (n : Nat) (hn : 4 ≤ n) (Bw Bin Bl w low : Nat) (hlow : low ≤ 12) (hw : w ≤ 8) (is : List Nat) (hs : is.Pairwise (· < ·)) (hb : ∀ x ∈ is, x < 4096) (s1 : Option Addr) (s3 : Nat) (w0 : World)
    (hB : RunB w0 w0.heap.size Bw Bin Bl (.slice s1 (castL is).length s3) w low) (hI : Ints w0 (.slice s1 (castL is).length s3) (castL is)) (hcap : (castL is).length ≤ s3) (hd : Bw ≠ Bin ∧ Bl ≠ Bin) :
    CallsIn Fence.wide n Tryz.prog 85 #[.func (.func 108) #[] #[.pointer (some ⟨Bw, 0, none⟩), .pointer (some ⟨Bin, 0, none⟩), .pointer (some ⟨Bl, 0, none⟩)]] w0 fun r W =>
      ∃ v xs, r = .returned v ∧ xs.map RunX.pr = runsL low w is ∧ OwnRuns W w0.heap.size v xs ∧ StepX (fun k => k = Bin) w0 W := by
  have HA := Lib.hid (AppendSeq_runs (n - 1) (by omega) Bw Bin Bl w low hlow hw is hs hb s1 s3 w0 hB hI hcap hd)
  clear hB hI hcap hs hb hd hlow hw
  refine callsIn_of_wp Tryz.func85 rfl trivial ?_ rfl
  simp only [Tryz.ntmps85, List.size_toArray, List.length_cons, List.length_nil, Nat.reduceAdd, Nat.reduceSub, Array.replicate_succ, Array.replicate_zero, List.push_toArray, List.append_toArray, List.nil_append, List.cons_append]
  gi_wp2
  refine ⟨trivial, fun _ => by omega, HA.out.mono ?_⟩
  rintro r W ⟨v, xs, rfl, h1, h2, h3⟩
  have H1 := Lib.hid h1; have H2 := Lib.hid h2; have H3 := Lib.hid h3
  clear h1 h2 h3
  gi_wp2
  go_ret
  exact ⟨_, _, rfl, H1.out, H2.out, H3.out⟩
end Go.Proofs.YtlcgbdjmlnjhcaaGreatDoor
namespace Go.Proofs.YtlcgbdjmlnjhcaaGreatDoor
open Go.RowKit Go.Shelf
attribute [local go_sem] Oper.semAt_some

/-- The tree over the runs of the last cell. -/
def treeF (leaf : List Nat → E) (wd c : Int) : Nat → List (Nat × List Nat) → E
  | 0, _ => .mk 0 0 0 []
  | f + 1, l => if l.length = 1 then leaf (l.getD 0 (0, [])).2 else
      .mk 14 1 0 [.mk 13 1 0 [.mk 2 wd c [], .mk 1 wd (l.getD ((l.length + 1) / 2 - 1) (0, [])).1 []], treeF leaf wd c f (l.take ((l.length + 1) / 2)), treeF leaf wd c f (l.drop ((l.length + 1) / 2))]
def bitsN (ws : List Int) (m : Nat) : Nat := (sumI (ws.take m)).toNat
/-- The expression of a set whose states have the first m cells. -/
def memF (cs ws : List Int) : Nat → List Nat → E
  | 0, is => if is.length = 0 then .mk 1 1 0 [] else if is.length = 2 ^ bitsN ws 0 then .mk 1 1 1 [] else .mk 0 0 0 []
  | m + 1, is => if is.length = 0 then .mk 1 1 0 [] else if is.length = 2 ^ bitsN ws (m + 1) then .mk 1 1 1 [] else
      treeF (memF cs ws m) (ws.getD m 0) (cs.getD m 0) (2 ^ (ws.getD m 0).toNat) (runsL (bitsN ws m) (ws.getD m 0).toNat is)
/-- A slice of ints with its capacity. -/
def IntsC (w : World) (v : Value) (l : List Int) : Prop := Ints w v l ∧ ∃ a c, v = .slice a l.length c ∧ l.length ≤ c
theorem IntsC.ext {w w' : World} {v : Value} {l : List Int} (h : IntsC w v l) (hx : Ext w w') : IntsC w' v l := ⟨h.1.ext hx, h.2⟩
theorem IntsC.take {w : World} {a : Option Addr} {n c : Nat} {l : List Int} (h : IntsC w (.slice a n c) l) (k : Nat) (hk : k ≤ l.length) : IntsC w (.slice a k c) (l.take k) := by
  obtain ⟨h1, a', c', e, hc⟩ := h
  cases e
  have hl : (l.take k).length = k := by simp; omega
  refine ⟨?_, a, c, by rw [hl], by rw [hl]; omega⟩
  by_cases h0 : k = 0
  · subst h0
    exact .inl ⟨⟨_, _, rfl⟩, by simp⟩
  · rcases h1 with ⟨_, e⟩ | ⟨b, o, cc, e, hm, hcell⟩
    · subst e; simp at hk; omega
    · cases e
      refine .inr ⟨b, o, c, by rw [hl], by rw [hl]; omega, fun i hi => ?_⟩
      rw [hl] at hi
      have := hcell i (by omega)
      simpa using this
theorem IntsC.at {w : World} {a : Option Addr} {n c : Nat} {l : List Int} (h : IntsC w (.slice a n c) l) (k : Nat) (hk : k < l.length) : ∃ b o, a = some ⟨b, o, none⟩ ∧ w.cell? ⟨b, o + k, none⟩ = some (.int .i64 (l.getD k 0)) := by
  rcases h.1 with ⟨_, e⟩ | ⟨b, o, cc, e, hm, hcell⟩
  · subst e; simp at hk
  · cases e
    refine ⟨b, o, rfl, ?_⟩
    have := hcell k hk
    rw [List.getD_eq_getElem?_getD, List.getElem?_eq_getElem hk]
    simpa [IntAt] using this
theorem RunsV.ext {w w' : World} {v : Value} {xs : List RunX} (h : RunsV w v xs) (hx : Ext w w') : RunsV w' v xs := by
  obtain ⟨a, c, h1, h2, h3⟩ := h
  refine ⟨a, c, h1, h2, ?_⟩
  rcases h3 with h3 | ⟨g, o, h3, h4, h5⟩
  · exact .inl h3
  · exact .inr ⟨g, o, h3, h4, fun i hi => ⟨hx.cell (h5 i hi).1, hx.cell (h5 i hi).2.1, (h5 i hi).2.2.1.ext hx, (h5 i hi).2.2.2⟩⟩
theorem RunsV.take {w : World} {a : Option Addr} {n c : Nat} {xs : List RunX} (h : RunsV w (.slice a n c) xs) (k : Nat) (hk : k ≤ xs.length) : RunsV w (.slice a k c) (xs.take k) := by
  obtain ⟨a', c', h1, h2, h3⟩ := h
  cases h1
  have hl : (xs.take k).length = k := by simp; omega
  refine ⟨a, c, by rw [hl], by rw [hl]; omega, ?_⟩
  rcases h3 with h3 | ⟨g, o, h3, h4, h5⟩
  · left; subst h3; simp
  · refine .inr ⟨g, o, h3, h4, fun i hi => ?_⟩
    rw [hl] at hi
    have := h5 i (by omega)
    simpa using this
theorem RunsV.drop {w : World} {g o n c : Nat} {xs : List RunX} (h : RunsV w (.slice (some ⟨g, o, none⟩) n c) xs) (k : Nat) (hk : k < xs.length) : RunsV w (.slice (some ⟨g, o + k * 2, none⟩) (n - k) (c - k)) (xs.drop k) := by
  obtain ⟨a', c', h1, h2, h3⟩ := h
  cases h1
  have hl : (xs.drop k).length = xs.length - k := by simp
  refine ⟨_, _, by rw [hl], by rw [hl]; omega, ?_⟩
  rcases h3 with h3 | ⟨g', o', h3, h4, h5⟩
  · subst h3; simp at hk
  · cases h3
    refine .inr ⟨g, o + k * 2, rfl, by omega, fun i hi => ?_⟩
    rw [hl] at hi
    have := h5 (k + i) (by omega)
    rw [show o + k * 2 + i * 2 = o + (k + i) * 2 by omega]
    simpa using this
theorem RunsV.at {w : World} {a : Option Addr} {n c : Nat} {xs : List RunX} (h : RunsV w (.slice a n c) xs) (k : Nat) (hk : k < xs.length) : ∃ g o, a = some ⟨g, o, none⟩ ∧ w.cell? ⟨g, o + k * 2, none⟩ = some (.int .i64 xs[k].last) ∧ w.cell? ⟨g, o + k * 2 + 1, none⟩ = some (.slice xs[k].a (castL xs[k].l).length xs[k].c) ∧ IntsC w (.slice xs[k].a (castL xs[k].l).length xs[k].c) (castL xs[k].l) := by
  obtain ⟨a', c', h1, h2, h3⟩ := h
  cases h1
  rcases h3 with h3 | ⟨g, o, h3, h4, h5⟩
  · subst h3; simp at hk
  · exact ⟨g, o, h3, (h5 k hk).1, (h5 k hk).2.1, (h5 k hk).2.2.1, _, _, rfl, (h5 k hk).2.2.2⟩
end Go.Proofs.YtlcgbdjmlnjhcaaGreatDoor
namespace Go.Proofs.YtlcgbdjmlnjhcaaGreatDoor
open Go.RowKit

/-- The expression lies at block b, offset o; all its kids lie in blocks from N on. -/
inductive IsB (N : Nat) (w : World) : Nat → Nat → E → Prop
  | leaf {b o : Nat} {op wd n : Int} : w.cell? ⟨b, o, .none⟩ = some (.int .i64 op) → w.cell? ⟨b, o + 1, .none⟩ = some (.int .i64 wd) → w.cell? ⟨b, o + 2, .none⟩ = some (.int .i64 n) →
      w.cell? ⟨b, o + 3, .none⟩ = some (.slice .none 0 0) → IsB N w b o (.mk op wd n [])
  | node {b o : Nat} {op wd n : Int} {ks : List E} {b' o' cap : Nat} : w.cell? ⟨b, o, .none⟩ = some (.int .i64 op) → w.cell? ⟨b, o + 1, .none⟩ = some (.int .i64 wd) → w.cell? ⟨b, o + 2, .none⟩ = some (.int .i64 n) →
      w.cell? ⟨b, o + 3, .none⟩ = some (.slice (.some ⟨b', o', .none⟩) ks.length cap) → ks.length ≤ 9223372036854775807 → N ≤ b' → (∀ (i : Nat) (h : i < ks.length), IsB N w b' (o' + i * 4) ks[i]) → IsB N w b o (.mk op wd n ks)
def KidsB (N : Nat) (w : World) (v : Value) (ks : List E) : Prop :=
  (v = .slice .none 0 0 ∧ ks = []) ∨ ∃ b o cap : Nat, v = .slice (.some ⟨b, o, .none⟩) ks.length cap ∧ ks.length ≤ 9223372036854775807 ∧ N ≤ b ∧ ∀ (i : Nat) (h : i < ks.length), IsB N w b (o + i * 4) ks[i]
/-- By value. -/
def EValB (N : Nat) (w : World) (v : Value) (e : E) : Prop := ∃ k, v = .agg #[.int .i64 e.op, .int .i64 e.wd, .int .i64 e.n, k] ∧ KidsB N w k e.kids

theorem IsB.isE {N : Nat} {w : World} {b o : Nat} {e : E} (h : IsB N w b o e) : IsE w b o e := by
  induction h with
  | leaf h0 h1 h2 h3 => exact .leaf h0 h1 h2 h3
  | node h0 h1 h2 h3 hl _ _ ih => exact .node h0 h1 h2 h3 hl ih
theorem KidsB.kids {N : Nat} {w : World} {v : Value} {ks : List E} (h : KidsB N w v ks) : Kids w v ks := by
  rcases h with h | ⟨b, o, cap, h1, hl, _, h2⟩
  · exact .inl ⟨⟨_, _, h.1⟩, h.2⟩
  · exact .inr ⟨b, o, cap, h1, hl, fun i hi => (h2 i hi).isE⟩
theorem EValB.eVal {N : Nat} {w : World} {v : Value} {e : E} (h : EValB N w v e) : EVal w v e := by
  obtain ⟨k, h1, h2⟩ := h; exact ⟨k, h1, h2.kids⟩
theorem IsB.mono {N N' : Nat} {w : World} {b o : Nat} {e : E} (h : IsB N w b o e) (hN : N' ≤ N) : IsB N' w b o e := by
  induction h with
  | leaf h0 h1 h2 h3 => exact .leaf h0 h1 h2 h3
  | node h0 h1 h2 h3 hl hb _ ih => exact .node h0 h1 h2 h3 hl (Nat.le_trans hN hb) ih
theorem KidsB.mono {N N' : Nat} {w : World} {v : Value} {ks : List E} (h : KidsB N w v ks) (hN : N' ≤ N) : KidsB N' w v ks := by
  rcases h with h | ⟨b, o, cap, h1, hl, hb, h2⟩
  · exact .inl h
  · exact .inr ⟨b, o, cap, h1, hl, Nat.le_trans hN hb, fun i hi => (h2 i hi).mono hN⟩
theorem EValB.mono {N N' : Nat} {w : World} {v : Value} {e : E} (h : EValB N w v e) (hN : N' ≤ N) : EValB N' w v e := by
  obtain ⟨k, h1, h2⟩ := h; exact ⟨k, h1, h2.mono hN⟩

/-- From N on, and block b, w' is as w. -/
def AsFrom (N : Nat) (w w' : World) : Prop := ∀ k, N ≤ k → k < w.heap.size → w'.heap[k]? = w.heap[k]?
theorem AsFrom.cell {N : Nat} {w w' : World} (h : AsFrom N w w') {p : Addr} {v : Value} (hp : N ≤ p.block) (hc : w.cell? p = some v) : w'.cell? p = some v := by
  rw [World.cell?_of_block (h p.block hp (block_lt hc))]; exact hc
theorem IsB.keep {N : Nat} {w w' : World} {b o : Nat} {e : E} (h : IsB N w b o e) (hb : N ≤ b) (hx : AsFrom N w w') : IsB N w' b o e := by
  induction h with
  | leaf h0 h1 h2 h3 => exact .leaf (hx.cell hb h0) (hx.cell hb h1) (hx.cell hb h2) (hx.cell hb h3)
  | node h0 h1 h2 h3 hl hb' _ ih => exact .node (hx.cell hb h0) (hx.cell hb h1) (hx.cell hb h2) (hx.cell hb h3) hl hb' (fun i hi => ih i hi hb')
theorem KidsB.keep {N : Nat} {w w' : World} {v : Value} {ks : List E} (h : KidsB N w v ks) (hx : AsFrom N w w') : KidsB N w' v ks := by
  rcases h with h | ⟨b, o, cap, h1, hl, hb, h2⟩
  · exact .inl h
  · exact .inr ⟨b, o, cap, h1, hl, hb, fun i hi => (h2 i hi).keep hb hx⟩
theorem EValB.keep {N : Nat} {w w' : World} {v : Value} {e : E} (h : EValB N w v e) (hx : AsFrom N w w') : EValB N w' v e := by
  obtain ⟨k, h1, h2⟩ := h; exact ⟨k, h1, h2.keep hx⟩
theorem Ext.asFrom {w w' : World} (h : Ext w w') (N : Nat) : AsFrom N w w' := fun k _ hk => h.block k hk
theorem asFrom_setCell {w : World} {N : Nat} {p : Addr} {v : Value} (hp : p.block < N) : AsFrom N w (w.setCell p v) := fun k hk _ => Below.heap_setCell _ _ _ _ (by omega)
theorem AsFrom.trans {N : Nat} {a b c : World} (h : AsFrom N a b) (hs : a.heap.size ≤ b.heap.size) (k : AsFrom N b c) : AsFrom N a c := fun i h1 h2 => (k i h1 (by omega)).trans (h i h1 h2)
theorem AsFrom.mono {N N' : Nat} {a b : World} (h : AsFrom N a b) (hN : N ≤ N') : AsFrom N' a b := fun i h1 h2 => h i (by omega) h2
theorem grownBy_asFrom {w w' : World} {g : Option Nat} {N : Nat} (h : w.grownBy w' g) (hg : ∀ k, g = some k → k < N) : AsFrom N w w' := fun k h1 h2 => h.block k h2 (fun e => by have := hg k e.symm; omega)

/-- A node without its kids. -/
def E.bare (e : E) : E := .mk e.op e.wd e.n []

set_option maxHeartbeats 1000000 in
theorem same_any (e : E) (w : World) (b o : Nat) (hE : IsE w b o e) :
    Calls Tryz.prog 68 #[.pointer (some ⟨b, o, none⟩)] w fun r w' => r = .returned (.agg #[.int .i64 e.op, .int .i64 e.wd, .int .i64 e.n, .slice none 0 0]) ∧ Ext w w' := by
  obtain ⟨h0, h1, h2, kv, h3, hk⟩ := hE.cells
  have hbs : b < w.heap.size := block_lt h0
  clear hk h3 hE
  go_enter Tryz.func68, Tryz.ntmps68
  go_wp2_with fail
  go_region
  go_wp2_with fail
  exact bodyPost_ret (v := .agg #[.int .i64 e.op, .int .i64 e.wd, .int .i64 e.n, .slice none 0 0]) (by simp [results, Tryz.results68, go_sem]) rfl ⟨rfl, ((Ext.refl w).alloc _).drew⟩
end Go.Proofs.YtlcgbdjmlnjhcaaGreatDoor
