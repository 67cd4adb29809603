/-
  Slices that a call makes for itself by append: ints; the laws that the walks use.
  The walk of members.
  The walk of Support.
-/
import Derived.Test.YtdiopiekmdfklaaDoorMBase
import Derived.Test.YtdiopiekmdfklaaDoorRows
import Derived.Test.YtdiopiekmdfklaaDoorMLeaf
namespace Go.Proofs.YtdiopiekmdfklaaDoor
open Go.RowKit

/-- The newest block. -/
theorem heap_new (w : World) (o : Obj) : (w.alloc o).heap[w.heap.size]? = some o := by
  show (w.heap.push o)[w.heap.size]? = _
  simp
theorem infoInt : (Tryd.prog.info? 3).map (fun i => (i.zero, i.size, i.bytes)) = some (some (.int .i64 0), 1, 8) := by kernel_rfl

/-- A slice of ints of the call's own: nil, or at the head of a block from 'base' on. -/
def OwnInts (w : World) (base : Nat) (v : Value) (l : List Int) : Prop := w.ownsRow base 3 1 v l.length (l.map (Value.int .i64))

theorem OwnInts.nil (w : World) (base : Nat) : OwnInts w base (.slice none 0 0) [] := ⟨rfl, .inl ⟨rfl, rfl⟩⟩

/-- It reads as the list. -/
theorem OwnInts.ints {w : World} {base : Nat} {v : Value} {l : List Int} (h : OwnInts w base v l) : Ints w v l := by
  obtain ⟨_, h2⟩ := h
  rcases h2 with ⟨rfl, hl⟩ | ⟨g, cap, cur, rfl, _, hh, hn, hc, hs, ht⟩
  · exact .inl ⟨⟨_, _, rfl⟩, List.length_eq_zero_iff.1 hl⟩
  · refine .inr ⟨g, 0, cap, rfl, by unfold maxLen at hc; omega, fun i hi => ?_⟩
    rw [Nat.mul_one] at ht
    have e : cur.toList[i]? = some (.int .i64 l[i]) := by
      have := congrArg (fun x => x[i]?) ht
      simp only [List.getElem?_take, if_pos hi] at this
      rw [this]; simp [hi]
    simp only [IntAt, World.cell?, hh, Nat.zero_add, Nat.mul_one]
    simpa using e

/-- It is kept by what leaves its block alone. -/
theorem OwnInts.kept {w w' : World} {base : Nat} {v : Value} {l : List Int} (h : OwnInts w base v l) (hx : Ext w w') : OwnInts w' base v l := by
  obtain ⟨h1, h2⟩ := h
  refine ⟨h1, ?_⟩
  rcases h2 with h2 | ⟨g, cap, cur, hv, hg, hh, r⟩
  · exact .inl h2
  · refine .inr ⟨g, cap, cur, hv, hg, ?_, r⟩
    have hlt : g < w.heap.size := by
      rcases Nat.lt_or_ge g w.heap.size with h | h
      · exact h
      · rw [Array.getElem?_eq_none_iff.2 h] at hh; cases hh
    rw [hx.block g hlt]; exact hh

/-- The block of such a slice, if there is one, is from base on. -/
theorem OwnInts.base {w : World} {base : Nat} {v : Value} {l : List Int} (h : OwnInts w base v l) (k : Nat) (hk : v.ownBlock = some k) : base ≤ k := by
  rcases h.2 with ⟨rfl, _⟩ | ⟨g, cap, cur, rfl, hg, _⟩
  · cases hk
  · simp [Value.ownBlock] at hk; omega

/-- After an append: the world below 'B' is as it was. -/
theorem Ext.grown {a w w' : World} {row : Option Nat} (h : Ext a w) (hg : w.grownBy w' row) (hr : ∀ k, row = some k → a.heap.size ≤ k) : Ext a w' :=
  Below.grown h hg h.size hr

/-- 'append(list, n)' on a slice of ints of the call's own; wr: the world before the block of the one new element. -/
theorem wpList_append_int {ops : Array Oper} {rest : List Oper} {o : Oper} {a : Act} {Q : Exit → Act → World → Prop} (hgd : o.guard = none) (s x : Operand)
    (ho : o.op = .call { callee := .builtin .append, args := #[s, x], argTypes := #[23, 23] }) (base : Nat) (wr : World) (v : Value) (l : List Int) (n : Int)
    (hs : a.eval s = v) (hx : a.eval x = .slice (some ⟨wr.heap.size, 0, none⟩) 1 1) (hown : OwnInts wr base v l) (hl : l.length ≤ 1000000000) (hb : base ≤ wr.heap.size)
    (h : ∀ v' w', OwnInts w' base v' (l ++ [n]) → wr.grownBy w' v.ownBlock → wpList Tryd.prog ops Q rest (a.put o.dst v') w') : wpList Tryd.prog ops Q (o :: rest) a (wr.alloc (.cells #[.int .i64 n] 3)) := by
  obtain ⟨i0, hi, hz0, hz1, hz2⟩ := info_parts infoInt
  refine wpList_append_own _ hgd s x 23 ho base 3 i0 (.int .i64 0) 1 8 Tryd.underlying23 hi hz0 hz1 hz2 rfl (by decide) v l.length (l.map (Value.int .i64)) hs (hown.kept ((Ext.refl wr).alloc _)) ⟨wr.heap.size, 0, none⟩ 1 1 [.int .i64 n] hx rfl ?_ ?_ ?_ ?_ ?_ ?_
  · intro j u hj
    obtain ⟨rfl, rfl⟩ : j = 0 ∧ u = .int .i64 n := by
      cases j with
      | zero => simp at hj; exact ⟨rfl, hj.symm⟩
      | succ j => simp at hj
    simp [Addr.add]
  · intro u hu; simp at hu; subst hu; rfl
  · unfold maxLen; omega
  · omega
  · simp; omega
  · intro v' w' h1 h2 _
    refine h v' w' (by simpa [OwnInts] using h1) ⟨h2.os, h2.tape, h2.output, ?_, fun k hk hne => ?_⟩
    · have := h2.size; simp at this; omega
    · rw [h2.block k (by simp; omega) hne]; exact Below.heap_alloc wr _ k hk

end Go.Proofs.YtdiopiekmdfklaaDoor
namespace Go.Proofs.YtdiopiekmdfklaaDoor
open Go.RowKit

/-- An array of 32 bools. -/
def bools (f : Nat → Bool) : Array Value := ((List.range 32).map fun j => Value.bool (f j)).toArray
theorem bools_size (f : Nat → Bool) : (bools f).size = 32 := by simp [bools]
theorem bools_get (f : Nat → Bool) (k : Nat) (h : k < 32) : (bools f)[k]? = some (.bool (f k)) := by
  simp [bools, h]
theorem under32 : Tryd.prog.underlying 101 = some (.array 32 4) := by kernel_rfl
theorem size4 : (Tryd.prog.info? 4).map (·.size) = some 1 := by kernel_rfl
theorem size32 : (Tryd.prog.info? 101).map (·.size) = some 32 := by kernel_rfl

theorem run_index32 (f : Nat → Bool) (k : Nat) (h : k < 32) (w : World) : (Instr.index 101 (.agg (bools f)) (.int .i64 k)).run Tryd.prog w = .ok (.bool (f k)) w := by
  simp [Instr.index, asIntOf, run_underlying under32, go_sem, h, bools_get f k h]

/-- The numbers below k of which f is true. -/
def upTo (f : Nat → Bool) (k : Nat) : List Int := ((List.range k).filter f).map Int.ofNat
theorem upTo_succ_true {f : Nat → Bool} {k : Nat} (h : f k = true) : upTo f (k + 1) = upTo f k ++ [(k : Int)] := by
  simp [upTo, List.range_succ, List.filter_append, h]
theorem upTo_succ_false {f : Nat → Bool} {k : Nat} (h : f k = false) : upTo f (k + 1) = upTo f k := by
  simp [upTo, List.range_succ, List.filter_append, h]
theorem upTo_length (f : Nat → Bool) (k : Nat) : (upTo f k).length ≤ k := by
  simp only [upTo, List.length_map]
  have := List.length_filter_le f (List.range k)
  simpa using this

def MembersPost (f : Nat → Bool) (w : World) (r : Ending) (w' : World) : Prop := ∃ v, r = .returned v ∧ Ints w' v (upTo f 32) ∧ Ext w w'

set_option maxRecDepth 100000 in
set_option maxHeartbeats 1000000 in
theorem members_any (f : Nat → Bool) (w : World) : Calls Tryd.prog 74 #[.agg (bools f)] w (MembersPost f w) := by
  go_enter Tryd.func74, Tryd.ntmps74
  go_wp2_with (with_reducible refine wpList_load_row rfl 101 (.tmp 1) rfl w.heap.size rfl 101 (bools f) (0, 0) (.array 32 4) ?hg under32 rfl ?hsz ?_)
  case hg => exact heap_new _ _
  case hsz => rw [bools_size]; exact size32
  go_loopw [3, 4, 5, 7] (fun v _ _ i wr => ∃ k : Nat, k ≤ 32 ∧ i = .int .i64 k ∧ OwnInts wr (w.heap.size + 1) v (upTo f k) ∧ Ext w wr ∧ w.heap.size + 1 ≤ wr.heap.size) (fun _ _ _ i _ => 32 - (intOf i).toNat)
  case atStart => exact ⟨0, by decide, rfl, OwnInts.nil _ _, (Ext.refl w).alloc _, by simp⟩
  case round =>
    obtain ⟨k, hk, rfl, hown, hx, hsz⟩ := hrel
    have HX := Lib.hid hx; clear hx
    by_cases hlt : k < 32
    · have hidx := run_index32 f k hlt
      have hul := upTo_length f k
      cases hf : f k with
      | true =>
        have HU := Lib.hid (upTo_succ_true hf)
        have HO := Lib.hid hown
        rw [hf] at hidx
        clear hf hown
        go_wp2_with (at_builtin; refine wpList_append_int rfl (.tmp 12) (.tmp 14) rfl (w.heap.size + 1) wr _ _ _ rfl rfl HO.out (by omega) (by omega) ?_)
        intro v' w' hown' hg
        have hx' : Ext w w' := HX.out.grown hg (fun q hq => Nat.le_trans (Nat.le_succ _) (HO.out.base q hq))
        have hz' := hg.size
        have HO' := Lib.hid hown'; have HX' := Lib.hid hx'
        clear hown' hx' hg
        go_wp2_with fail
        go_roundw
        case rel => exact ⟨k + 1, by omega, by go_num, by rw [HU.out]; exact HO'.out, HX'.out, by omega⟩
        case measure => simp [intOf]; omega
      | false =>
        have HU := Lib.hid (upTo_succ_false hf)
        have HO := Lib.hid hown
        rw [hf] at hidx
        clear hf hown
        go_wp2_with fail
        exact ⟨⟨k + 1, by omega, by go_num, by rw [HU.out]; exact HO.out, HX.out, by omega⟩, by simp [intOf]; omega⟩
    · have hk : k = 32 := by omega
      subst hk
      have HI := Lib.hid (hown.ints); clear hown
      go_wp2_with fail
      go_ret
      exact ⟨_, rfl, HI.out, HX.out⟩
end Go.Proofs.YtdiopiekmdfklaaDoor
namespace Go.Proofs.YtdiopiekmdfklaaDoor
open Go.RowKit

/-- The block A is a variable of type [32]bool that holds f. -/
def BoolsAt (w : World) (A : Nat) (f : Nat → Bool) : Prop := w.heap[A]? = some (.cells (bools f) 101 (0, 0))
theorem BoolsAt.cell {w : World} {A : Nat} {f : Nat → Bool} (h : BoolsAt w A f) (n : Nat) (hn : n < 32) : w.cell? ⟨A, n, none⟩ = some (.bool (f n)) := by
  unfold BoolsAt at h
  simp [World.cell?, h, bools_get f n hn]
theorem BoolsAt.frozen {w : World} {A : Nat} {f : Nat → Bool} (h : BoolsAt w A f) (n : Nat) : w.frozen? ⟨A, n, none⟩ = false := by
  unfold BoolsAt at h
  simp [World.frozen?, h]
theorem BoolsAt.lt {w : World} {A : Nat} {f : Nat → Bool} (h : BoolsAt w A f) : A < w.heap.size := by
  rcases Nat.lt_or_ge A w.heap.size with h' | h'
  · exact h'
  · unfold BoolsAt at h; rw [Array.getElem?_eq_none_iff.2 h'] at h; cases h
theorem BoolsAt.set {w : World} {A : Nat} {f : Nat → Bool} (h : BoolsAt w A f) (n : Nat) : BoolsAt (w.setCell ⟨A, n, none⟩ (.bool true)) A (fun j => f j || decide (j = n)) := by
  unfold BoolsAt at h ⊢
  simp only [World.setCell, Array.getElem?_modify, if_true, h, Option.map_some]
  have e : (bools f).setIfInBounds n (.bool true) = bools (fun j => f j || decide (j = n)) := by
    apply Array.ext
    · simp [bools_size]
    · intro i h1 h2
      have hi : i < 32 := by simpa [bools_size] using h1
      rw [Array.getElem_setIfInBounds (by simpa [bools_size] using hi)]
      have g1 := bools_get f i hi
      have g2 := bools_get (fun j => f j || decide (j = n)) i hi
      rw [Array.getElem?_eq_getElem (by simpa [bools_size] using hi)] at g1 g2
      simp only [Option.some.injEq] at g1 g2
      rw [g2, g1]
      by_cases c : n = i
      · simp [c]
      · rw [if_neg c]; simp [show ¬ i = n from fun h => c h.symm]
  simp [e]
theorem BoolsAt.other {w : World} {A B n : Nat} {f : Nat → Bool} {v : Value} (h : BoolsAt w A f) (hAB : A ≠ B) : BoolsAt (w.setCell ⟨B, n, none⟩ v) A f := by
  unfold BoolsAt at h ⊢
  rw [Below.heap_setCell _ _ _ _ hAB]; exact h
theorem BoolsAt.ext {w w' : World} {A : Nat} {f : Nat → Bool} (h : BoolsAt w A f) (hx : Ext w w') : BoolsAt w' A f := by
  have := h.lt
  unfold BoolsAt at h ⊢
  rw [hx.block A this]; exact h
theorem BoolsAt.congr {w : World} {A : Nat} {f g : Nat → Bool} (h : BoolsAt w A f) (e : f = g) : BoolsAt w A g := e ▸ h

/-- The cell j occurs in a leaf with the operator op. -/
def occurs (op : Int) (l : List E) (j : Nat) : Bool := l.any fun x => decide (x.op = op) && decide (x.n = j)
theorem occurs_snoc (op : Int) (l : List E) (x : E) : occurs op (l ++ [x]) = fun j => occurs op l j || (decide (x.op = op) && decide (x.n = j)) := by
  funext j; simp [occurs]
theorem occ_eq (x : Bool) (op : Int) (m j : Nat) : (x || decide (j = m)) = (x || (decide (op = op) && decide ((m : Int) = (j : Int)))) := by
  have : decide (j = m) = decide ((m : Int) = (j : Int)) := by rw [Bool.eq_iff_iff]; simp only [decide_eq_true_eq]; omega
  rw [this]; simp
def SupInv (A B : Nat) (w : World) (acc : List E) : Prop := BoolsAt w A (occurs 3 acc) ∧ BoolsAt w B (occurs 2 acc)

set_option maxHeartbeats 1000000 in
theorem Support1_any (w0 : World) (A B : Nat) (hA : w0.heap.size ≤ A) (hB : w0.heap.size ≤ B) (hAB : A ≠ B) (x : E) (w : World) (b o : Nat) (acc : List E) (hs : shapedW x.op x.wd x.n [] = true) (hE : IsE w0 b o x) (hx : Ext w0 w) (hI : SupInv A B w acc) :
    Calls Tryd.prog 73 #[.pointer (some ⟨b, o, none⟩), .pointer (some ⟨A, 0, none⟩), .pointer (some ⟨B, 0, none⟩)] w fun r w' => r = .returned (.tuple #[]) ∧ Ext w0 w' ∧ SupInv A B w' (acc ++ [x]) := by
  obtain ⟨h0, h1, h2, kv, h3, hk⟩ := (hE.ext hx).cells
  obtain ⟨op, wd, n, ks⟩ := x
  simp only [E.op_mk, E.wd_mk, E.n_mk, E.kids_mk] at h0 h1 h2 hk hs
  obtain ⟨hop, hn0, hn32⟩ := shapedW_leaf hs
  clear hk h3 hE h1 hs
  obtain ⟨i1, i2⟩ := hI
  have HX := Lib.hid hx; have I1 := Lib.hid i1; have I2 := Lib.hid i2
  clear hx i1 i2
  obtain ⟨m, rfl⟩ := Int.eq_ofNat_of_zero_le hn0
  rcases hop with rfl | rfl | rfl
  · have HF : Hid (SupInv A B w (acc ++ [.mk 1 wd m ks])) := ⟨I1.out.congr (by rw [occurs_snoc]; simp), I2.out.congr (by rw [occurs_snoc]; simp)⟩
    go_enter Tryd.func73, Tryd.ntmps73
    go_wp2_with fail
    go_end0
    exact ⟨rfl, HX.out, HF.out⟩
  · have hm : m < 32 := by have := hn32 (by decide); omega
    have c1 := I2.out.cell m hm
    have c2 := I2.out.frozen m
    have HF : Hid (SupInv A B (w.setCell ⟨B, m, none⟩ (.bool true)) (acc ++ [.mk 2 wd m ks])) :=
      ⟨(I1.out.other hAB).congr (by rw [occurs_snoc]; simp), (I2.out.set m).congr (by rw [occurs_snoc]; funext j; exact occ_eq _ _ m j)⟩
    go_enter Tryd.func73, Tryd.ntmps73
    go_wp2_with fail
    go_end0
    exact ⟨rfl, HX.out.setCell hB _, HF.out⟩
  · have hm : m < 32 := by have := hn32 (by decide); omega
    have c1 := I1.out.cell m hm
    have c2 := I1.out.frozen m
    have HF : Hid (SupInv A B (w.setCell ⟨A, m, none⟩ (.bool true)) (acc ++ [.mk 3 wd m ks])) :=
      ⟨(I1.out.set m).congr (by rw [occurs_snoc]; funext j; exact occ_eq _ _ m j), (I2.out.other (Ne.symm hAB)).congr (by rw [occurs_snoc]; simp)⟩
    go_enter Tryd.func73, Tryd.ntmps73
    go_wp2_with fail
    go_end0
    exact ⟨rfl, HX.out.setCell hA _, HF.out⟩
/-- The cells in OpOld; in OpCell. -/
def E.supOld (e : E) : List Int := if e.wf then upTo (occurs 3 e.leaves) 32 else []
def E.supNow (e : E) : List Int := if e.wf then upTo (occurs 2 e.leaves) 32 else []
def SupPost (e : E) (w : World) (r : Ending) (w' : World) : Prop := ∃ v1 v2, r = .returned (.tuple #[v1, v2]) ∧ Ints w' v1 e.supOld ∧ Ints w' v2 e.supNow ∧ Ext w w'

theorem boolsNew (w : World) (f : Nat → Bool) : BoolsAt (w.alloc (.cells (bools f) 101)) w.heap.size f := heap_new _ _
theorem bools_false : bools (fun _ => false) = #[.bool false, .bool false, .bool false, .bool false, .bool false, .bool false, .bool false, .bool false, .bool false, .bool false, .bool false, .bool false, .bool false, .bool false, .bool false, .bool false,
  .bool false, .bool false, .bool false, .bool false, .bool false, .bool false, .bool false, .bool false, .bool false, .bool false, .bool false, .bool false, .bool false, .bool false, .bool false, .bool false] := rfl

/-- In a region that draws its order: a whole variable is loaded; a slot is assigned. -/
theorem yields_load_row {P : Program} {ops : Array Oper} {S : World → Prop} {o : Oper} {a : Act} (ty : TypeId) (x : Operand) (hgd : o.guard = none) (ho : o.op = .load ty x) (g : Nat) (hx : a.eval x = .pointer (some ⟨g, 0, none⟩))
    (t : TypeId) (cs : Array Value) (fr : Nat × Nat) (d : TypeDesc) (hg : ∀ w, S w → w.heap[g]? = some (.cells cs t fr)) (hu : P.underlying ty = some d) (hd : (match d with | .struct _ | .array _ _ => true | _ => false) = true) (hi : (P.info? ty).map (·.size) = some cs.size) :
    YieldsIf P ops S o (.agg cs) a := by
  refine .inl ⟨by simp [Region.wanted, hgd], fun w hS => ?_⟩
  unfold execOp
  simp only [ho, hx, Instr.loadAt, Instr.sureAddr, Sem.run_bind, Sem.run_pure, Result.andThen_ok, run_loadVar_row w g t ty cs fr d (hg w hS) hu hd hi]

set_option maxRecDepth 100000 in
set_option maxHeartbeats 1000000 in
theorem Support_any (e : E) (v : Value) (w : World) (he : EVal w v e) (hM : Masks w) : Calls Tryd.prog 43 #[v] w (SupPost e w) := by
  obtain ⟨k, rfl, hk⟩ := he
  have hE := IsE.box (w := w) (e := e) (t := 26) hk
  generalize hw0 : w.alloc (.cells #[.int .i64 e.op, .int .i64 e.wd, .int .i64 e.n, k] 26) = w0 at hE
  have hx0 : Ext w w0 := by rw [← hw0]; exact (Ext.refl w).alloc _
  have hs0 : w0.heap.size = w.heap.size + 1 := by rw [← hw0]; simp
  have hv0 : EVal w0 (.agg #[.int .i64 e.op, .int .i64 e.wd, .int .i64 e.n, k]) e := ⟨k, rfl, hk.ext hx0⟩
  have H0 := Lib.hid hw0; have HX0 := Lib.hid hx0; have HS0 := Lib.hid hs0; have HE := Lib.hid hE; have HV0 := Lib.hid hv0
  have HM0 := Lib.hid (hM.ext hx0)
  clear hw0 hx0 hs0 hE hk hM hv0
  cases hw : e.wf with
  | false =>
    have HW := Lib.hid hw; clear hw
    go_enter Tryd.func43, Tryd.ntmps43
    go_wp2_with fail
    rw [H0.out]
    refine (wellFormed_any e _ _ HV0.out HM0.out).mono ?_
    rintro r w1 ⟨rfl, hx1⟩
    rw [HW.out]
    have HX1 := Lib.hid hx1; clear hx1
    go_wp2_with fail
    go_ret2
    exact ⟨_, _, rfl, by simp only [E.supOld, HW.out]; exact .inl ⟨⟨_, _, rfl⟩, rfl⟩, by simp only [E.supNow, HW.out]; exact .inl ⟨⟨_, _, rfl⟩, rfl⟩, HX0.out.trans HX1.out⟩
  | true =>
    have HW := Lib.hid hw; clear hw
    go_enter Tryd.func43, Tryd.ntmps43
    go_wp2_with fail
    rw [H0.out]
    refine (wellFormed_any e _ _ HV0.out HM0.out).mono ?_
    rintro r w1 ⟨rfl, hx1⟩
    rw [HW.out]
    have HX1 := Lib.hid hx1; clear hx1
    go_wp2_with fail
    rw [← bools_false]
    have hs1 : w0.heap.size ≤ w1.heap.size := HX1.out.size
    refine (leaves_support w0 w1.heap.size (w1.heap.size + 1) (fun x => shapedW x.op x.wd x.n [] = true) (SupInv w1.heap.size (w1.heap.size + 1))
      (fun x w b o acc h1 h2 h3 h4 => Support1_any w0 _ _ hs1 (by omega) (by omega) x w b o acc h1 h2 h3 h4)
      e.size e _ _ _ [] (Nat.le_refl _) (fun x hx => (leaves_shaped e 40 (wf_deep HW.out) x hx).2) HE.out ((HX1.out.alloc _).alloc _) ?_).mono ?_
    · refine ⟨(boolsNew w1 _).ext ((Ext.refl _).alloc _), ?_⟩
      have := boolsNew (w1.alloc (.cells (bools fun _ => false) 101)) (fun _ => false)
      exact BoolsAt.congr (by simpa using this) (by funext j; simp [occurs])
    rintro r w2 ⟨rfl, hx2, hI1, hI2⟩
    simp only [List.nil_append] at hI1 hI2
    have HX2 := Lib.hid hx2; have I1 := Lib.hid hI1; have I2 := Lib.hid hI2
    clear hx2 hI1 hI2
    go_wp2_with fail
    refine wp_region_held (S := fun w' => Ext w2 w') (by kernel_rfl) ?_
    refine wpAnyH_take (i := 0) (v := .agg (bools (occurs 3 e.leaves))) rfl (by kernel_rfl) (by kernel_rfl) (by kernel_rfl) (fun _ _ _ h => h) (yields_load_row _ _ rfl rfl w1.heap.size rfl _ _ _ _ (fun w' hx' => I1.out.ext hx') under32 rfl (by rw [bools_size]; exact size32)) ((Ext.refl w2).drew) ?_
    refine wpAnyH_take (i := 2) (v := .agg (bools (occurs 2 e.leaves))) rfl (by kernel_rfl) (by kernel_rfl) (by kernel_rfl) (fun _ _ _ h => h) (yields_load_row _ _ rfl rfl (w1.heap.size + 1) rfl _ _ _ _ (fun w' hx' => I2.out.ext hx') under32 rfl (by rw [bools_size]; exact size32)) ((Ext.refl w2).drew) ?_
    refine wpAnyH_all (rs := [1]) (by kernel_rfl) (by simp) ?_
    intro i hi
    obtain rfl : i = 1 := by simpa using hi
    unfold wpOp
    go_simp
    refine .inl ((members_any _ _).mono ?_)
    rintro r w3 ⟨v1, rfl, hi1, hx3⟩
    have hx23 : Ext w2 w3 := ((Ext.refl w2).drew).trans hx3
    refine ⟨hx23, ?_⟩
    refine wpAnyH_all (rs := [3]) (by kernel_rfl) (by simp) ?_
    intro i hi
    obtain rfl : i = 3 := by simpa using hi
    unfold wpOp
    go_simp
    refine .inl ((members_any _ _).mono ?_)
    rintro r w4 ⟨v2, rfl, hi2, hx4⟩
    have hx24 : Ext w2 w4 := hx23.trans hx4
    refine ⟨hx24, ?_⟩
    refine wpAnyH_take (i := 4) (v := v1) rfl (by kernel_rfl) (by kernel_rfl) (by kernel_rfl) (fun _ _ _ h => h) (.inl ⟨rfl, fun _ _ => rfl⟩) hx24 ?_
    refine wpAnyH_take (i := 5) (v := v2) rfl (by kernel_rfl) (by kernel_rfl) (by kernel_rfl) (fun _ _ _ h => h) (.inl ⟨rfl, fun _ _ => rfl⟩) hx24 ?_
    refine wpAnyH_done (by kernel_rfl) ?_ _
    have HF : Hid (SupPost e w (.returned (.tuple #[v1, v2])) w4) :=
      ⟨_, _, rfl, by simp only [E.supOld, HW.out]; exact hi1.ext hx4, by simp only [E.supNow, HW.out]; exact hi2, HX0.out.trans (HX2.out.trans hx24)⟩
    clear hi1 hi2 hx3 hx4 hx23 hx24
    go_wp2_with fail
    go_ret2
    exact HF.out
end Go.Proofs.YtdiopiekmdfklaaDoor
