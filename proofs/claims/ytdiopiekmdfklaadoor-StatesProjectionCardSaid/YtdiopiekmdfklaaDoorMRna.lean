/-
  The runs of the last cell of a set of states, in plain words.
  The iterator states.runs$1: what it hands over.
-/
import Derived.Test.YtdiopiekmdfklaaDoorMRel
import Derived.Test.YtdiopiekmdfklaaDoorMRng
import Derived.Test.YtdiopiekmdfklaaDoorMNum
import Derived.OwnWalkIn
import Derived.TacticsInMore
import Derived.LoopNIn
import Derived.LoopIn
import Derived.Maps.AppendAt
import Derived.Sort.CutIn
import Derived.Deep.AppendLies
import Derived.Deep.RegionHeld3
import Derived.RangeFuncNested
import Derived.RangeFuncBound
import Derived.RangeFuncCalls
import Derived.RangeFuncLeaves
import Derived.Shelf.Abstract
import Derived.Shelf.RegionOpen
namespace Go.Proofs.YtdiopiekmdfklaaDoor
open Go.RowKit

/-- The elements whose last cell is v, without that cell; those from v on. -/
def grp (low : Nat) (is : List Nat) (v : Nat) : List Nat := is.filter fun x => decide (x / 2 ^ low = v)
def part (low : Nat) (is : List Nat) (v : Nat) : List Nat := (grp low is v).map fun x => x % 2 ^ low
def rest (low : Nat) (is : List Nat) (v : Nat) : List Nat := is.filter fun x => decide (v ≤ x / 2 ^ low)
theorem rest_zero (low : Nat) (is : List Nat) : rest low is 0 = is := by unfold rest; simp
theorem rest_split (low : Nat) {is : List Nat} (h : is.Pairwise (· < ·)) (v : Nat) : rest low is v = grp low is v ++ rest low is (v + 1) := by
  induction is with
  | nil => rfl
  | cons a r ih =>
    rw [List.pairwise_cons] at h
    have ih := ih h.2
    unfold rest grp at *
    simp only [List.filter_cons]
    by_cases c1 : a / 2 ^ low = v
    · rw [if_pos (by simp [c1]), if_pos (by simp [c1]), if_neg (by simp [c1]), ih]; rfl
    · by_cases c2 : v ≤ a / 2 ^ low
      · have hnil : r.filter (fun x => decide (x / 2 ^ low = v)) = [] := by
          rw [List.filter_eq_nil_iff]
          intro x hx hc
          simp only [decide_eq_true_eq] at hc
          have := Nat.div_le_div_right (c := 2 ^ low) (Nat.le_of_lt (h.1 x hx))
          omega
        rw [if_pos (by simpa using c2), if_neg (by simpa using c1), if_pos (by simp; omega), hnil]
        rw [hnil] at ih
        rw [ih]; rfl
      · rw [if_neg (by simpa using c2), if_neg (by simpa using c1), if_neg (by simp; omega), ih]
theorem rest_head {low : Nat} {is : List Nat} (h : is.Pairwise (· < ·)) (v j : Nat) : (j < (grp low is v).length → ∃ x, ((rest low is v).drop j) = x :: ((rest low is v).drop (j + 1)) ∧ x / 2 ^ low = v ∧ x ∈ is ∧ (part low is v).take (j + 1) = (part low is v).take j ++ [x % 2 ^ low]) ∧
    (∀ x r, (rest low is v).drop (grp low is v).length = x :: r → ¬ x / 2 ^ low = v) ∧ (rest low is v).drop (grp low is v).length = rest low is (v + 1) := by
  have hd : (rest low is v).drop (grp low is v).length = rest low is (v + 1) := by rw [rest_split low h v]; simp
  refine ⟨fun hj => ?_, fun x r e c => ?_, hd⟩
  · have hm : (grp low is v)[j] ∈ grp low is v := List.getElem_mem hj
    have hm2 := hm
    unfold grp at hm2
    rw [List.mem_filter, decide_eq_true_eq] at hm2
    refine ⟨(grp low is v)[j], ?_, hm2.2, hm2.1, ?_⟩
    · have hl : j < (rest low is v).length := by rw [rest_split low h v, List.length_append]; omega
      rw [List.drop_eq_getElem_cons hl]
      congr 1
      simp only [rest_split low h v]
      rw [List.getElem_append_left hj]
    · unfold part
      rw [List.take_succ_eq_append_getElem (by rw [List.length_map]; exact hj), List.getElem_map]
  · rw [hd] at e
    have : x ∈ rest low is (v + 1) := by rw [e]; simp
    unfold rest at this
    rw [List.mem_filter, decide_eq_true_eq] at this
    omega
theorem part_len (low : Nat) (is : List Nat) (v : Nat) : (part low is v).length = (grp low is v).length := by unfold part; rw [List.length_map]
theorem grp_len (low : Nat) (is : List Nat) (v : Nat) : (grp low is v).length ≤ is.length := List.length_filter_le _ _
/-- The runs from a value on, behind a current one. -/
def runsF (low : Nat) (is : List Nat) : Nat → Nat → Nat × List Nat → List (Nat × List Nat)
  | 0, _, cur => [cur]
  | m + 1, v, cur => if part low is v = cur.2 then runsF low is m (v + 1) (v, part low is v) else cur :: runsF low is m (v + 1) (v, part low is v)
def runsL (low w : Nat) (is : List Nat) : List (Nat × List Nat) := runsF low is (2 ^ w - 1) 1 (0, part low is 0)
theorem runsF_len (low : Nat) (is : List Nat) : ∀ (m v : Nat) (cur : Nat × List Nat), (runsF low is m v cur).length ≤ m + 1 := by
  intro m
  induction m with
  | zero => intro v cur; simp [runsF]
  | succ m ih =>
    intro v cur
    unfold runsF
    split
    · have := ih (v + 1) (v, part low is v); omega
    · have := ih (v + 1) (v, part low is v); simp; omega
end Go.Proofs.YtdiopiekmdfklaaDoor
namespace Go.Proofs.YtdiopiekmdfklaaDoor
open Go.RowKit Go.Shelf
attribute [local go_sem] Oper.semAt_some

/-- An int appended to a row of the call's own, in a region that draws its order. -/
theorem step_append_int {ops : Array Oper} {o : Oper} {a : Act} {K : Act → World → Prop} {Q : Exit → Act → World → Prop} {E' : Prop} (hgd : o.guard = none) (s x : Operand)
    (ho : o.op = .call { callee := .builtin .append, args := #[s, x], argTypes := #[23, 23] }) (base : Nat) (wr : World) (H : Nat) (hH : wr.heap.size = H) (v : Value) (l : List Int) (n : Int)
    (hs : a.eval s = v) (hx' : a.eval x = .slice (some ⟨H, 0, none⟩) 1 1) (hown : OwnInts wr base v l) (hl : l.length ≤ 1000000000) (hb : base ≤ wr.heap.size)
    (h : ∀ g cap w', OwnInts w' base (.slice (some ⟨g, 0, none⟩) (l.length + 1) cap) (l ++ [n]) → wr.grownBy w' v.ownBlock → K (a.put o.dst (.slice (some ⟨g, 0, none⟩) (l.length + 1) cap)) w') :
    if Region.wanted o (yielded ops a.tmps) = true then Oper.wp Tryd.prog o a (wr.alloc (.cells #[.int .i64 n] 3)) K Q else E' := by
  obtain ⟨i0, hi, hz0, hz1, hz2⟩ := info_parts infoInt
  have hx : a.eval x = .slice (some ⟨wr.heap.size, 0, none⟩) 1 1 := by rw [hH]; exact hx'
  refine step_append_lies _ hgd s x 23 ho base 3 i0 (.int .i64 0) 1 8 Tryd.underlying23 hi hz0 hz1 hz2 rfl (by decide) v l.length (l.map (Value.int .i64)) hs (hown.kept ((Ext.refl wr).alloc _)) ⟨wr.heap.size, 0, none⟩ 1 1 [.int .i64 n] hx rfl (cell_one_new _ _ _) (fun u hu => by simp at hu; subst hu; rfl) (by decide) ?_ ?_ ?_ (wr.heap.size + 1) (by simp) ?_
  · unfold maxLen; omega
  · omega
  · simp; omega
  · intro g cap w' h1 h2 _ _
    refine h g cap w' (by simpa [OwnInts] using h1) ⟨h2.os, h2.tape, h2.output, by have := h2.size; simp at this; omega, fun k hk hne => by rw [h2.block k (by simp; omega) hne]; exact Below.heap_alloc wr _ k hk⟩
/-- A run as it is handed over. -/
structure RunX where
  last : Nat
  l : List Nat
  a : Option Addr
  c : Nat
def RunX.v (x : RunX) : Value := .agg #[.int .i64 x.last, .slice x.a (castL x.l).length x.c]
def RunX.pr (x : RunX) : Nat × List Nat := (x.last, x.l)
def goodRun (E : Nat) (x : RunX) (W : World) : Prop := OwnInts W (E + 1) (.slice x.a (castL x.l).length x.c) (castL x.l)
/-- The types of the blocks that the loop's body may write. -/
def runT (t : TypeId) : Prop := t = 116 ∨ t = 113

/-- What the iterator finds: its captured variables, its own one, the list that is left (in the world w0 of its making). -/
structure RunI (w0 : World) (E Bw Bin Bl w low : Nat) (left : List Nat) (lst : Nat) (cl : List Nat) (a : Option Addr) (c : Nat) (a' : Option Addr) (c' : Nat) (V : World) : Prop where
  bw : V.heap[Bw]? = some (.cells #[.int .i64 w] 3 (0, 0))
  bl : V.heap[Bl]? = some (.cells #[.int .i64 low] 3 (0, 0))
  bin : V.heap[Bin]? = some (.cells #[.slice a' (castL left).length c'] 23 (0, 0))
  cur : V.heap[E]? = some (.cells #[.int .i64 lst, .slice a (castL cl).length c] 116 (0, 0))
  own : OwnInts V (E + 1) (.slice a (castL cl).length c) (castL cl)
  lft : Ints w0 (.slice a' (castL left).length c') (castL left)
  old : ∀ (k : Nat) (cs : Array Value) (t : TypeId) (fr : Nat × Nat), w0.heap[k]? = some (.cells cs t fr) → k ≠ Bin → V.heap[k]? = some (.cells cs t fr)
  size : E + 1 ≤ V.heap.size
  cap : (castL left).length ≤ c'
/-- The captured variables lie ahead of the iterator. -/
structure RunB (w0 : World) (E Bw Bin Bl : Nat) (sv : Value) (w low : Nat) : Prop where
  bw : w0.heap[Bw]? = some (.cells #[.int .i64 w] 3 (0, 0))
  bl : w0.heap[Bl]? = some (.cells #[.int .i64 low] 3 (0, 0))
  bin : w0.heap[Bin]? = some (.cells #[sv] 23 (0, 0))
  size : w0.heap.size ≤ E
/-- The first of what is left, where it can be read. -/
theorem RunI.head {w0 : World} {E Bw Bin Bl w low : Nat} {left : List Nat} {lst : Nat} {cl : List Nat} {a : Option Addr} {c : Nat} {a' : Option Addr} {c' : Nat} {V : World} {sv : Value} (h : RunI w0 E Bw Bin Bl w low left lst cl a c a' c' V) (hB : RunB w0 E Bw Bin Bl sv w low) (hsv : ∃ x y z, sv = .slice x y z) {x : Nat} {r : List Nat} (hl : left = x :: r) :
    ∃ b o, a' = some ⟨b, o, none⟩ ∧ b < w0.heap.size ∧ V.cell? ⟨b, o, none⟩ = some (.int .i64 x) ∧ Ints w0 (.slice (if c' = 1 then some ⟨b, o, none⟩ else some ⟨b, o + 1, none⟩) (castL r).length (c' - 1)) (castL r) ∧ (castL r).length ≤ c' - 1 := by
  have hI := h.lft
  have hcap := h.cap
  subst hl
  rcases hI with ⟨_, e⟩ | ⟨b, o, cc, e, hm, hc⟩
  · simp [castL] at e
  · cases e
    have h0 := hc 0 (by simp [castL])
    rw [Nat.zero_mul, Nat.add_zero] at h0
    have h0' : w0.cell? ⟨b, o, none⟩ = some (.int .i64 x) := by simpa [castL, IntAt] using h0
    have hcr : (castL r).length + 1 ≤ c' := by simpa [castL] using hcap
    refine ⟨b, o, rfl, block_lt h0', ?_, ?_, by omega⟩
    · obtain ⟨x1, x2, x3, rfl⟩ := hsv
      unfold World.cell? at h0' ⊢
      cases hb : w0.heap[b]? with
      | none => rw [hb] at h0'; cases h0'
      | some ob =>
        cases ob with
        | cells cs t fr =>
          have hne : b ≠ Bin := fun e => by
            subst e
            rw [hB.bin] at h0'
            simp only at h0'
            cases o with
            | zero => simp at h0'
            | succ o => simp at h0'
          have hv := h.old b cs t fr hb hne
          simp only [hb] at h0'
          simp only [hv]; exact h0'
        | _ => rw [hb] at h0'; simp at h0'
    · by_cases e1 : c' = 1
      · have hr : r = [] := by
          have : r.length = 0 := by simp [castL] at hcr; omega
          exact List.length_eq_zero_iff.1 this
        subst hr
        rw [if_pos e1]; exact .inl ⟨⟨_, _, rfl⟩, rfl⟩
      · rw [if_neg e1]
        refine .inr ⟨b, o + 1, c' - 1, rfl, by simp [castL] at hm ⊢; omega, fun i hi => ?_⟩
        have h1 := hc (i + 1) (by simp [castL] at hi ⊢; omega)
        rw [show o + 1 + i * 1 = o + (i + 1) * 1 by omega]
        simpa [castL] using h1
theorem OwnInts.typed {w : World} {base : Nat} {v : Value} {l : List Int} (h : OwnInts w base v l) (k : Nat) (hk : v.ownBlock = some k) : ∃ cs : Array Value, w.heap[k]? = some (.cells cs 3 (0, 0)) := by
  rcases h.2 with ⟨rfl, _⟩ | ⟨g, cap, cur, rfl, hg, hh, _⟩
  · cases hk
  · cases hk; exact ⟨_, hh⟩
theorem OwnInts.keep' {w w' : World} {base : Nat} {v : Value} {l : List Int} (h : OwnInts w base v l) (hk : ∀ k, v.ownBlock = some k → w'.heap[k]? = w.heap[k]?) : OwnInts w' base v l := by
  obtain ⟨h1, h2⟩ := h
  refine ⟨h1, ?_⟩
  rcases h2 with h2 | ⟨g, cap, cur, hv, hg, hh, r⟩
  · exact .inl h2
  · exact .inr ⟨g, cap, cur, hv, hg, by rw [hk g (by rw [hv]; rfl)]; exact hh, r⟩
theorem OwnInts.lt' {w : World} {base : Nat} {v : Value} {l : List Int} (h : OwnInts w base v l) (k : Nat) (hk : v.ownBlock = some k) : k < w.heap.size := by
  obtain ⟨cs, hc⟩ := h.typed k hk; exact (Array.getElem?_eq_some_iff.1 hc).1
/-- A world that has only grown. -/
theorem RunI.ext {w0 : World} {E Bw Bin Bl w low : Nat} {left : List Nat} {lst : Nat} {cl : List Nat} {a : Option Addr} {c : Nat} {a' : Option Addr} {c' : Nat} {V V' : World} (h : RunI w0 E Bw Bin Bl w low left lst cl a c a' c' V) (hx : Ext V V') : RunI w0 E Bw Bin Bl w low left lst cl a c a' c' V' := by
  have ke : ∀ (k : Nat) (o : Obj), V.heap[k]? = some o → V'.heap[k]? = some o := fun k o hk => (hx.block k (Array.getElem?_eq_some_iff.1 hk).1).trans hk
  exact ⟨ke _ _ h.bw, ke _ _ h.bl, ke _ _ h.bin, ke _ _ h.cur, h.own.kept hx, h.lft, fun k cs t fr hk hn => ke _ _ (h.old k cs t fr hk hn), Nat.le_trans h.size hx.size, h.cap⟩
/-- A round of the loop's body. -/
theorem RunI.keepT {w0 : World} {E Bw Bin Bl w low : Nat} {left : List Nat} {lst : Nat} {cl : List Nat} {a : Option Addr} {c : Nat} {a' : Option Addr} {c' : Nat} {V V' : World} {sv : Value} (h : RunI w0 E Bw Bin Bl w low left lst cl a c a' c' V) (hB : RunB w0 E Bw Bin Bl sv w low) (hk : KeepT w0.heap.size runT (fun k => k = Bin ∨ k = E) V V') : RunI w0 E Bw Bin Bl w low left lst cl a c a' c' V' := by
  have lt0 : ∀ (k : Nat) (o : Obj), w0.heap[k]? = some o → k < w0.heap.size := fun k o hk => (Array.getElem?_eq_some_iff.1 hk).1
  have hti : ¬ runT 3 := by unfold runT; decide
  refine ⟨hk.same _ _ _ _ h.bw (.inl (lt0 _ _ hB.bw)), hk.same _ _ _ _ h.bl (.inl (lt0 _ _ hB.bl)), hk.same _ _ _ _ h.bin (.inl (lt0 _ _ hB.bin)), hk.same _ _ _ _ h.cur (.inr (.inl (.inr rfl))), h.own.keep' fun k hk' => ?_, h.lft, fun k cs t fr h1 h2 => hk.same _ _ _ _ (h.old k cs t fr h1 h2) (.inl (lt0 _ _ h1)), Nat.le_trans h.size hk.size, h.cap⟩
  obtain ⟨cs, hc⟩ := h.own.typed k hk'
  rw [hc]; exact hk.same _ _ _ _ hc (.inr (.inr hti))
/-- The iterator's variable is set anew. -/
theorem RunI.setCur {w0 : World} {E Bw Bin Bl w low : Nat} {left : List Nat} {lst : Nat} {cl : List Nat} {a : Option Addr} {c : Nat} {a' : Option Addr} {c' : Nat} {V : World} {sv : Value} (h : RunI w0 E Bw Bin Bl w low left lst cl a c a' c' V) (hB : RunB w0 E Bw Bin Bl sv w low) (v : Nat) (p : List Nat) (pa : Option Addr) (pc : Nat) (ho : OwnInts V (E + 1) (.slice pa (castL p).length pc) (castL p)) :
    RunI w0 E Bw Bin Bl w low left v p pa pc a' c' ((V.setCell ⟨E, 0, none⟩ (.int .i64 v)).setCell ⟨E, 1, none⟩ (.slice pa (castL p).length pc)) := by
  have lt0 : ∀ (k : Nat) (o : Obj), w0.heap[k]? = some o → k < w0.heap.size := fun k o hk => (Array.getElem?_eq_some_iff.1 hk).1
  have hs := hB.size
  have oth : ∀ k, k ≠ E → ((V.setCell ⟨E, 0, none⟩ (.int .i64 v)).setCell ⟨E, 1, none⟩ (.slice pa (castL p).length pc)).heap[k]? = V.heap[k]? := fun k hk => by
    rw [heap_setCell_other _ _ _ _ hk, heap_setCell_other _ _ _ _ hk]
  refine ⟨(oth _ (by have := lt0 _ _ hB.bw; omega)).trans h.bw, (oth _ (by have := lt0 _ _ hB.bl; omega)).trans h.bl, (oth _ (by have := lt0 _ _ hB.bin; omega)).trans h.bin, ?_, ho.keep' fun k hk => oth k (by have := ho.base k hk; omega), h.lft, fun k cs t fr h1 h2 => (oth k (by have := lt0 _ _ h1; omega)).trans (h.old k cs t fr h1 h2), by have := h.size; simpa [World.setCell] using this, h.cap⟩
  have h1 := heap_setCell_same V E 0 _ _ (.int .i64 v) h.cur
  have h2 := heap_setCell_same (V.setCell ⟨E, 0, none⟩ (.int .i64 v)) E 1 _ _ (.slice pa (castL p).length pc) h1
  simpa using h2
/-- One element is taken: the row that gathers it has grown, the captured list has been cut. -/
theorem RunI.taken {w0 : World} {E Bw Bin Bl w low : Nat} {r : List Nat} {left : List Nat} {lst : Nat} {cl : List Nat} {a : Option Addr} {c : Nat} {a' : Option Addr} {c' : Nat} {V V' : World} {sv : Value} {row : Option Nat} {N : Nat} (h : RunI w0 E Bw Bin Bl w low left lst cl a c a' c' V) (hB : RunB w0 E Bw Bin Bl sv w low)
    (hg : V.grownBy V' row) (hrow : ∀ k, row = some k → N ≤ k) (hN : E + 1 ≤ N) (hcur : ∀ k, (Value.slice a (castL cl).length c).ownBlock = some k → k < N) (a'' : Option Addr) (hI : Ints w0 (.slice a'' (castL r).length (c' - 1)) (castL r)) (hc : (castL r).length ≤ c' - 1) (hd : Bw ≠ Bin ∧ Bl ≠ Bin) :
    RunI w0 E Bw Bin Bl w low r lst cl a c a'' (c' - 1) (V'.setCell ⟨Bin, 0, none⟩ (.slice a'' (castL r).length (c' - 1))) := by
  have lt0 : ∀ (k : Nat) (o : Obj), w0.heap[k]? = some o → k < w0.heap.size := fun k o hk => (Array.getElem?_eq_some_iff.1 hk).1
  have hs := hB.size
  have hVs := h.size
  have lo : ∀ (k : Nat) (o : Obj), k < N → V.heap[k]? = some o → V'.heap[k]? = some o := fun k o hk ho => (hg.block k (Array.getElem?_eq_some_iff.1 ho).1 (fun e => by have := hrow k e.symm; omega)).trans ho
  have oth : ∀ k, k ≠ Bin → (V'.setCell ⟨Bin, 0, none⟩ (.slice a'' (castL r).length (c' - 1))).heap[k]? = V'.heap[k]? := fun k hk => heap_setCell_other _ _ _ _ hk
  have hbin := lt0 _ _ hB.bin
  refine ⟨(oth _ hd.1).trans (lo _ _ (by have := lt0 _ _ hB.bw; omega) h.bw), (oth _ hd.2).trans (lo _ _ (by have := lt0 _ _ hB.bl; omega) h.bl), ?_, (oth _ (by omega)).trans (lo _ _ (by omega) h.cur), h.own.keep' fun k hk => ?_, hI, fun k cs t fr h1 h2 => (oth k h2).trans (lo _ _ (by have := lt0 _ _ h1; omega) (h.old k cs t fr h1 h2)), by have := hg.size; simp only [World.setCell, Array.size_modify]; omega, hc⟩
  · have h1 := heap_setCell_same V' Bin 0 _ _ (.slice a'' (castL r).length (c' - 1)) (lo _ _ (by omega) h.bin)
    simpa using h1
  · have h1 := h.own.base k hk
    rw [oth k (by omega)]
    obtain ⟨cs, h2⟩ := h.own.typed k hk
    rw [h2]; exact lo _ _ (hcur k hk) h2
end Go.Proofs.YtdiopiekmdfklaaDoor
