/-
  The walk of Valid.
  The walk of members.
  The walk of Support.
-/
import Derived.Test.YtlnahhlddekhoaaGreatDoorG11
import Derived.Test.YtlnahhlddekhoaaGreatDoorG04
namespace Go.Proofs.YtlnahhlddekhoaaGreatDoor
open Go.RowKit

/-- Valid's answer. -/
def E.valid (e : E) (cells : List CellD) (pair : Bool) : Bool := e.wf && e.leaves.all (okLeaf cells pair)

mutual
theorem leaves_shaped : (e : E) → (d : Nat) → e.deep d = true → ∀ x ∈ e.leaves, x.kids = [] ∧ shapedW x.op x.wd x.n [] = true
  | .mk op wd n ks, d, h, x, hx => by
    simp only [E.deep, Bool.and_eq_true] at h
    by_cases hks : ks = []
    · subst hks; rw [leaves_nil] at hx; simp at hx; subst hx; exact ⟨rfl, h.1.2⟩
    · rw [leaves_cons hks] at hx; exact leavesAll_shaped ks _ h.2 x hx
theorem leavesAll_shaped : (ks : List E) → (d : Nat) → deepAll ks d = true → ∀ x ∈ leavesAll ks, x.kids = [] ∧ shapedW x.op x.wd x.n [] = true
  | [], _, _, x, hx => by simp [leavesAll] at hx
  | e :: r, d, h, x, hx => by
    simp only [deepAll, Bool.and_eq_true] at h
    simp only [leavesAll, List.mem_append] at hx
    rcases hx with hx | hx
    · exact leaves_shaped e d h.1 x hx
    · exact leavesAll_shaped r d h.2 x hx
end
/-- A shaped leaf is a constant or a cell, its number not negative. -/
theorem shapedW_leaf {op wd n : Int} (h : shapedW op wd n [] = true) : (op = 1 ∨ op = 2 ∨ op = 3) ∧ 0 ≤ n ∧ (op ≠ 1 → n < 32) := by
  by_cases h1 : op = 1
  · subst h1; exact ⟨.inl rfl, (shapedW_const h).2.1, fun e => absurd rfl e⟩
  by_cases h2 : op = 2 ∨ op = 3
  · exact ⟨by omega, (shapedW_cell h h2).2.1, fun _ => (shapedW_cell h h2).2.2⟩
  · have := (shapedW_inner h h1 (by omega) (by omega)).2.2.2
    rcases this with ⟨_, e⟩ | ⟨_, _, e⟩ | ⟨_, _, _, u, e⟩ | ⟨_, e⟩ <;> cases e

set_option maxHeartbeats 1000000 in
theorem Valid_any (e : E) (v cv : Value) (cells : List CellD) (pair : Bool) (w : World) (he : EVal w v e) (hC : Cells w cv cells) (hM : Masks w) :
    Calls Tryz.prog 32 #[v, cv, .bool pair] w fun r w' => r = .returned (.bool (e.valid cells pair)) ∧ Ext w w' := by
  obtain ⟨k, rfl, hk⟩ := he
  have hE := IsE.box (w := w) (e := e) (t := 26) hk
  generalize hw0 : w.alloc (.cells #[.int .i64 e.op, .int .i64 e.wd, .int .i64 e.n, k] 26) = w0 at hE
  have hx0 : Ext w w0 := by rw [← hw0]; exact (Ext.refl w).alloc _
  have hs0 : w0.heap.size = w.heap.size + 1 := by rw [← hw0]; simp
  have hv0 : EVal w0 (.agg #[.int .i64 e.op, .int .i64 e.wd, .int .i64 e.n, k]) e := ⟨k, rfl, hk.ext hx0⟩
  have H0 := Lib.hid hw0; have HX0 := Lib.hid hx0; have HS0 := Lib.hid hs0; have HE := Lib.hid hE; have HV0 := Lib.hid hv0
  have HC0 := Lib.hid (hC.ext hx0); have HM0 := Lib.hid (hM.ext hx0)
  clear hw0 hx0 hs0 hE hk hC hM hv0
  obtain ⟨a, cap, rfl⟩ := SliceAt.shape HC0.out
  cases hw : e.wf with
  | false =>
    have HW := Lib.hid hw; clear hw
    go_enter Tryz.func32, Tryz.ntmps32
    go_wp2_with fail
    rw [H0.out]
    refine (wellFormed_any e _ _ (HV0.out.ext (((Ext.refl w0).alloc _).alloc _)) (HM0.out.ext (((Ext.refl w0).alloc _).alloc _))).mono ?_
    rintro r w1 ⟨rfl, hx1⟩
    rw [HW.out]
    have HX1 := Lib.hid hx1; clear hx1
    go_wp2_with fail
    go_ret
    exact ⟨by simp only [E.valid, HW.out]; rfl, HX0.out.trans ((((Ext.refl w0).alloc _).alloc _).trans HX1.out)⟩
  | true =>
    have HW := Lib.hid hw; clear hw
    go_enter Tryz.func32, Tryz.ntmps32
    go_wp2_with fail
    rw [H0.out]
    refine (wellFormed_any e _ _ (HV0.out.ext (((Ext.refl w0).alloc _).alloc _)) (HM0.out.ext (((Ext.refl w0).alloc _).alloc _))).mono ?_
    rintro r w1 ⟨rfl, hx1⟩
    rw [HW.out]
    have hx2 : Ext w0 w1 := (((Ext.refl w0).alloc _).alloc _).trans hx1
    have k1 : w1.cell? ⟨w.heap.size + 1, 0, none⟩ = some (.slice a cells.length cap) := hx1.cell (by rw [← HS0.out]; simp)
    have k2 : w1.cell? ⟨w.heap.size + 1 + 1, 0, none⟩ = some (.bool pair) := hx1.cell (by rw [← HS0.out]; simp)
    have HX2 := Lib.hid hx2; have K1 := Lib.hid k1; have K2 := Lib.hid k2
    have hs1 : w.heap.size + 1 + 1 < w1.heap.size := block_lt k2
    have HS1 := Lib.hid hs1
    clear hx1 hx2 k1 k2 hs1
    go_wp2_with fail
    refine (leaves_valid w0 (w.heap.size + 1) (w.heap.size + 1 + 1) w1.heap.size (fun x => 0 ≤ x.n) (ValidInv (w.heap.size + 1) (w.heap.size + 1 + 1) w1.heap.size (.slice a cells.length cap) cells pair)
      (fun x w b o acc h1 h2 h3 h4 => Valid1_any w0 _ _ _ (by have := HX2.out.size; omega) (by have := HS1.out; omega) (by have := HS1.out; omega) _ cells pair HC0.out x w b o acc h1 h2 h3 h4)
      e.size e _ _ _ [] (Nat.le_refl _) (fun x hx => (shapedW_leaf (leaves_shaped e 40 (wf_deep HW.out) x hx).2).2.1) HE.out (HX2.out.alloc _) ?_).mono ?_
    · refine ⟨Ext.cell ((Ext.refl w1).alloc _) K1.out, Ext.cell ((Ext.refl w1).alloc _) K2.out, by simp, by simp⟩
    rintro r w2 ⟨rfl, hx3, hI⟩
    have hg := hI.2.2.1
    simp only [List.nil_append] at hg
    have HX3 := Lib.hid hx3
    clear hI hx3
    go_wp2_with fail
    go_ret
    exact ⟨by simp only [E.valid, HW.out]; rfl, HX0.out.trans HX3.out⟩
end Go.Proofs.YtlnahhlddekhoaaGreatDoor
namespace Go.Proofs.YtlnahhlddekhoaaGreatDoor
open Go.RowKit

/-- An array of 32 bools. -/
def bools (f : Nat → Bool) : Array Value := ((List.range 32).map fun j => Value.bool (f j)).toArray
theorem bools_size (f : Nat → Bool) : (bools f).size = 32 := by simp [bools]
theorem bools_get (f : Nat → Bool) (k : Nat) (h : k < 32) : (bools f)[k]? = some (.bool (f k)) := by
  simp [bools, h]
theorem under32 : Tryz.prog.underlying 96 = some (.array 32 4) := by kernel_rfl
theorem size4 : (Tryz.prog.info? 4).map (·.size) = some 1 := by kernel_rfl
theorem size32 : (Tryz.prog.info? 96).map (·.size) = some 32 := by kernel_rfl

theorem run_index32 (f : Nat → Bool) (k : Nat) (h : k < 32) (w : World) : (Instr.index 96 (.agg (bools f)) (.int .i64 k)).run Tryz.prog w = .ok (.bool (f k)) w := by
  simp [Instr.index, asIntOf, run_underlying under32, go_sem, h, bools_get f k h]

/-- The numbers below k of which f is true. -/
def upTo (f : Nat → Bool) (k : Nat) : List Int := ((List.range k).filter f).map Int.ofNat
theorem upTo_succ_true {f : Nat → Bool} {k : Nat} (h : f k = true) : upTo f (k + 1) = upTo f k ++ [(k : Int)] := by
  simp [upTo, List.range_succ, List.filter_append, h]
theorem upTo_succ_false {f : Nat → Bool} {k : Nat} (h : f k = false) : upTo f (k + 1) = upTo f k := by
  simp [upTo, List.range_succ, List.filter_append, h]
theorem upTo_length (f : Nat → Bool) (k : Nat) : (upTo f k).length ≤ k := by
  simp only [upTo, List.length_map]
  have := List.length_filter_le f (List.range k)
  simpa using this

def MembersPost (f : Nat → Bool) (w : World) (r : Ending) (w' : World) : Prop := ∃ v, r = .returned v ∧ Ints w' v (upTo f 32) ∧ Ext w w'

set_option maxRecDepth 100000 in
set_option maxHeartbeats 1000000 in
theorem members_any (f : Nat → Bool) (w : World) : Calls Tryz.prog 74 #[.agg (bools f)] w (MembersPost f w) := by
  go_enter Tryz.func74, Tryz.ntmps74
  go_wp2_with (with_reducible refine wpList_load_row rfl 96 (.tmp 1) rfl w.heap.size rfl 96 (bools f) (0, 0) (.array 32 4) ?hg under32 rfl ?hsz ?_)
  case hg => exact heap_new _ _
  case hsz => rw [bools_size]; exact size32
  go_loopw [3, 4, 5, 7] (fun v _ _ i wr => ∃ k : Nat, k ≤ 32 ∧ i = .int .i64 k ∧ OwnInts wr (w.heap.size + 1) v (upTo f k) ∧ Ext w wr ∧ w.heap.size + 1 ≤ wr.heap.size) (fun _ _ _ i _ => 32 - (intOf i).toNat)
  case atStart => exact ⟨0, by decide, rfl, OwnInts.nil _ _, (Ext.refl w).alloc _, by simp⟩
  case round =>
    obtain ⟨k, hk, rfl, hown, hx, hsz⟩ := hrel
    have HX := Lib.hid hx; clear hx
    by_cases hlt : k < 32
    · have hidx := run_index32 f k hlt
      have hul := upTo_length f k
      cases hf : f k with
      | true =>
        have HU := Lib.hid (upTo_succ_true hf)
        have HO := Lib.hid hown
        rw [hf] at hidx
        clear hf hown
        go_wp2_with (at_builtin; refine wpList_append_int rfl (.tmp 12) (.tmp 14) rfl (w.heap.size + 1) wr _ _ _ rfl rfl HO.out (by omega) (by omega) ?_)
        intro v' w' hown' hg
        have hx' : Ext w w' := HX.out.grown hg (fun q hq => Nat.le_trans (Nat.le_succ _) (HO.out.base q hq))
        have hz' := hg.size
        have HO' := Lib.hid hown'; have HX' := Lib.hid hx'
        clear hown' hx' hg
        go_wp2_with fail
        go_roundw
        case rel => exact ⟨k + 1, by omega, by go_num, by rw [HU.out]; exact HO'.out, HX'.out, by omega⟩
        case measure => simp [intOf]; omega
      | false =>
        have HU := Lib.hid (upTo_succ_false hf)
        have HO := Lib.hid hown
        rw [hf] at hidx
        clear hf hown
        go_wp2_with fail
        exact ⟨⟨k + 1, by omega, by go_num, by rw [HU.out]; exact HO.out, HX.out, by omega⟩, by simp [intOf]; omega⟩
    · have hk : k = 32 := by omega
      subst hk
      have HI := Lib.hid (hown.ints); clear hown
      go_wp2_with fail
      go_ret
      exact ⟨_, rfl, HI.out, HX.out⟩
end Go.Proofs.YtlnahhlddekhoaaGreatDoor
namespace Go.Proofs.YtlnahhlddekhoaaGreatDoor
open Go.RowKit

/-- The block A is a variable of type [32]bool that holds f. -/
def BoolsAt (w : World) (A : Nat) (f : Nat → Bool) : Prop := w.heap[A]? = some (.cells (bools f) 96 (0, 0))
theorem BoolsAt.cell {w : World} {A : Nat} {f : Nat → Bool} (h : BoolsAt w A f) (n : Nat) (hn : n < 32) : w.cell? ⟨A, n, none⟩ = some (.bool (f n)) := by
  unfold BoolsAt at h
  simp [World.cell?, h, bools_get f n hn]
theorem BoolsAt.frozen {w : World} {A : Nat} {f : Nat → Bool} (h : BoolsAt w A f) (n : Nat) : w.frozen? ⟨A, n, none⟩ = false := by
  unfold BoolsAt at h
  simp [World.frozen?, h]
theorem BoolsAt.lt {w : World} {A : Nat} {f : Nat → Bool} (h : BoolsAt w A f) : A < w.heap.size := by
  rcases Nat.lt_or_ge A w.heap.size with h' | h'
  · exact h'
  · unfold BoolsAt at h; rw [Array.getElem?_eq_none_iff.2 h'] at h; cases h
theorem BoolsAt.set {w : World} {A : Nat} {f : Nat → Bool} (h : BoolsAt w A f) (n : Nat) : BoolsAt (w.setCell ⟨A, n, none⟩ (.bool true)) A (fun j => f j || decide (j = n)) := by
  unfold BoolsAt at h ⊢
  simp only [World.setCell, Array.getElem?_modify, if_true, h, Option.map_some]
  have e : (bools f).setIfInBounds n (.bool true) = bools (fun j => f j || decide (j = n)) := by
    apply Array.ext
    · simp [bools_size]
    · intro i h1 h2
      have hi : i < 32 := by simpa [bools_size] using h1
      rw [Array.getElem_setIfInBounds (by simpa [bools_size] using hi)]
      have g1 := bools_get f i hi
      have g2 := bools_get (fun j => f j || decide (j = n)) i hi
      rw [Array.getElem?_eq_getElem (by simpa [bools_size] using hi)] at g1 g2
      simp only [Option.some.injEq] at g1 g2
      rw [g2, g1]
      by_cases c : n = i
      · simp [c]
      · rw [if_neg c]; simp [show ¬ i = n from fun h => c h.symm]
  simp [e]
theorem BoolsAt.other {w : World} {A B n : Nat} {f : Nat → Bool} {v : Value} (h : BoolsAt w A f) (hAB : A ≠ B) : BoolsAt (w.setCell ⟨B, n, none⟩ v) A f := by
  unfold BoolsAt at h ⊢
  rw [Below.heap_setCell _ _ _ _ hAB]; exact h
theorem BoolsAt.ext {w w' : World} {A : Nat} {f : Nat → Bool} (h : BoolsAt w A f) (hx : Ext w w') : BoolsAt w' A f := by
  have := h.lt
  unfold BoolsAt at h ⊢
  rw [hx.block A this]; exact h
theorem BoolsAt.congr {w : World} {A : Nat} {f g : Nat → Bool} (h : BoolsAt w A f) (e : f = g) : BoolsAt w A g := e ▸ h

/-- The cell j occurs in a leaf with the operator op. -/
def occurs (op : Int) (l : List E) (j : Nat) : Bool := l.any fun x => decide (x.op = op) && decide (x.n = j)
theorem occurs_snoc (op : Int) (l : List E) (x : E) : occurs op (l ++ [x]) = fun j => occurs op l j || (decide (x.op = op) && decide (x.n = j)) := by
  funext j; simp [occurs]
theorem occ_eq (x : Bool) (op : Int) (m j : Nat) : (x || decide (j = m)) = (x || (decide (op = op) && decide ((m : Int) = (j : Int)))) := by
  have : decide (j = m) = decide ((m : Int) = (j : Int)) := by rw [Bool.eq_iff_iff]; simp only [decide_eq_true_eq]; omega
  rw [this]; simp
def SupInv (A B : Nat) (w : World) (acc : List E) : Prop := BoolsAt w A (occurs 3 acc) ∧ BoolsAt w B (occurs 2 acc)

set_option maxHeartbeats 1000000 in
theorem Support1_any (w0 : World) (A B : Nat) (hA : w0.heap.size ≤ A) (hB : w0.heap.size ≤ B) (hAB : A ≠ B) (x : E) (w : World) (b o : Nat) (acc : List E) (hs : shapedW x.op x.wd x.n [] = true) (hE : IsE w0 b o x) (hx : Ext w0 w) (hI : SupInv A B w acc) :
    Calls Tryz.prog 73 #[.pointer (some ⟨b, o, none⟩), .pointer (some ⟨A, 0, none⟩), .pointer (some ⟨B, 0, none⟩)] w fun r w' => r = .returned (.tuple #[]) ∧ Ext w0 w' ∧ SupInv A B w' (acc ++ [x]) := by
  obtain ⟨h0, h1, h2, kv, h3, hk⟩ := (hE.ext hx).cells
  obtain ⟨op, wd, n, ks⟩ := x
  simp only [E.op_mk, E.wd_mk, E.n_mk, E.kids_mk] at h0 h1 h2 hk hs
  obtain ⟨hop, hn0, hn32⟩ := shapedW_leaf hs
  clear hk h3 hE h1 hs
  obtain ⟨i1, i2⟩ := hI
  have HX := Lib.hid hx; have I1 := Lib.hid i1; have I2 := Lib.hid i2
  clear hx i1 i2
  obtain ⟨m, rfl⟩ := Int.eq_ofNat_of_zero_le hn0
  rcases hop with rfl | rfl | rfl
  · have HF : Hid (SupInv A B w (acc ++ [.mk 1 wd m ks])) := ⟨I1.out.congr (by rw [occurs_snoc]; simp), I2.out.congr (by rw [occurs_snoc]; simp)⟩
    go_enter Tryz.func73, Tryz.ntmps73
    go_wp2_with fail
    go_end0
    exact ⟨rfl, HX.out, HF.out⟩
  · have hm : m < 32 := by have := hn32 (by decide); omega
    have c1 := I2.out.cell m hm
    have c2 := I2.out.frozen m
    have HF : Hid (SupInv A B (w.setCell ⟨B, m, none⟩ (.bool true)) (acc ++ [.mk 2 wd m ks])) :=
      ⟨(I1.out.other hAB).congr (by rw [occurs_snoc]; simp), (I2.out.set m).congr (by rw [occurs_snoc]; funext j; exact occ_eq _ _ m j)⟩
    go_enter Tryz.func73, Tryz.ntmps73
    go_wp2_with fail
    go_end0
    exact ⟨rfl, HX.out.setCell hB _, HF.out⟩
  · have hm : m < 32 := by have := hn32 (by decide); omega
    have c1 := I1.out.cell m hm
    have c2 := I1.out.frozen m
    have HF : Hid (SupInv A B (w.setCell ⟨A, m, none⟩ (.bool true)) (acc ++ [.mk 3 wd m ks])) :=
      ⟨(I1.out.set m).congr (by rw [occurs_snoc]; funext j; exact occ_eq _ _ m j), (I2.out.other (Ne.symm hAB)).congr (by rw [occurs_snoc]; simp)⟩
    go_enter Tryz.func73, Tryz.ntmps73
    go_wp2_with fail
    go_end0
    exact ⟨rfl, HX.out.setCell hA _, HF.out⟩
/-- The cells in OpOld; in OpCell. -/
def E.supOld (e : E) : List Int := if e.wf then upTo (occurs 3 e.leaves) 32 else []
def E.supNow (e : E) : List Int := if e.wf then upTo (occurs 2 e.leaves) 32 else []
def SupPost (e : E) (w : World) (r : Ending) (w' : World) : Prop := ∃ v1 v2, r = .returned (.tuple #[v1, v2]) ∧ Ints w' v1 e.supOld ∧ Ints w' v2 e.supNow ∧ Ext w w'

theorem boolsNew (w : World) (f : Nat → Bool) : BoolsAt (w.alloc (.cells (bools f) 96)) w.heap.size f := heap_new _ _
theorem bools_false : bools (fun _ => false) = #[.bool false, .bool false, .bool false, .bool false, .bool false, .bool false, .bool false, .bool false, .bool false, .bool false, .bool false, .bool false, .bool false, .bool false, .bool false, .bool false,
  .bool false, .bool false, .bool false, .bool false, .bool false, .bool false, .bool false, .bool false, .bool false, .bool false, .bool false, .bool false, .bool false, .bool false, .bool false, .bool false] := rfl

/-- In a region that draws its order: a whole variable is loaded; a slot is assigned. -/
theorem yields_load_row {P : Program} {ops : Array Oper} {S : World → Prop} {o : Oper} {a : Act} (ty : TypeId) (x : Operand) (hgd : o.guard = none) (ho : o.op = .load ty x) (g : Nat) (hx : a.eval x = .pointer (some ⟨g, 0, none⟩))
    (t : TypeId) (cs : Array Value) (fr : Nat × Nat) (d : TypeDesc) (hg : ∀ w, S w → w.heap[g]? = some (.cells cs t fr)) (hu : P.underlying ty = some d) (hd : (match d with | .struct _ | .array _ _ => true | _ => false) = true) (hi : (P.info? ty).map (·.size) = some cs.size) :
    YieldsIf P ops S o (.agg cs) a := by
  refine .inl ⟨by simp [Region.wanted, hgd], fun w hS => ?_⟩
  unfold execOp
  simp only [ho, hx, Instr.loadAt, Instr.sureAddr, Sem.run_bind, Sem.run_pure, Result.andThen_ok, run_loadVar_row w g t ty cs fr d (hg w hS) hu hd hi]

set_option maxRecDepth 100000 in
set_option maxHeartbeats 1000000 in
theorem Support_any (e : E) (v : Value) (w : World) (he : EVal w v e) (hM : Masks w) : Calls Tryz.prog 33 #[v] w (SupPost e w) := by
  obtain ⟨k, rfl, hk⟩ := he
  have hE := IsE.box (w := w) (e := e) (t := 26) hk
  generalize hw0 : w.alloc (.cells #[.int .i64 e.op, .int .i64 e.wd, .int .i64 e.n, k] 26) = w0 at hE
  have hx0 : Ext w w0 := by rw [← hw0]; exact (Ext.refl w).alloc _
  have hs0 : w0.heap.size = w.heap.size + 1 := by rw [← hw0]; simp
  have hv0 : EVal w0 (.agg #[.int .i64 e.op, .int .i64 e.wd, .int .i64 e.n, k]) e := ⟨k, rfl, hk.ext hx0⟩
  have H0 := Lib.hid hw0; have HX0 := Lib.hid hx0; have HS0 := Lib.hid hs0; have HE := Lib.hid hE; have HV0 := Lib.hid hv0
  have HM0 := Lib.hid (hM.ext hx0)
  clear hw0 hx0 hs0 hE hk hM hv0
  cases hw : e.wf with
  | false =>
    have HW := Lib.hid hw; clear hw
    go_enter Tryz.func33, Tryz.ntmps33
    go_wp2_with fail
    rw [H0.out]
    refine (wellFormed_any e _ _ HV0.out HM0.out).mono ?_
    rintro r w1 ⟨rfl, hx1⟩
    rw [HW.out]
    have HX1 := Lib.hid hx1; clear hx1
    go_wp2_with fail
    go_ret2
    exact ⟨_, _, rfl, by simp only [E.supOld, HW.out]; exact .inl ⟨⟨_, _, rfl⟩, rfl⟩, by simp only [E.supNow, HW.out]; exact .inl ⟨⟨_, _, rfl⟩, rfl⟩, HX0.out.trans HX1.out⟩
  | true =>
    have HW := Lib.hid hw; clear hw
    go_enter Tryz.func33, Tryz.ntmps33
    go_wp2_with fail
    rw [H0.out]
    refine (wellFormed_any e _ _ HV0.out HM0.out).mono ?_
    rintro r w1 ⟨rfl, hx1⟩
    rw [HW.out]
    have HX1 := Lib.hid hx1; clear hx1
    go_wp2_with fail
    rw [← bools_false]
    have hs1 : w0.heap.size ≤ w1.heap.size := HX1.out.size
    refine (leaves_support w0 w1.heap.size (w1.heap.size + 1) (fun x => shapedW x.op x.wd x.n [] = true) (SupInv w1.heap.size (w1.heap.size + 1))
      (fun x w b o acc h1 h2 h3 h4 => Support1_any w0 _ _ hs1 (by omega) (by omega) x w b o acc h1 h2 h3 h4)
      e.size e _ _ _ [] (Nat.le_refl _) (fun x hx => (leaves_shaped e 40 (wf_deep HW.out) x hx).2) HE.out ((HX1.out.alloc _).alloc _) ?_).mono ?_
    · refine ⟨(boolsNew w1 _).ext ((Ext.refl _).alloc _), ?_⟩
      have := boolsNew (w1.alloc (.cells (bools fun _ => false) 96)) (fun _ => false)
      exact BoolsAt.congr (by simpa using this) (by funext j; simp [occurs])
    rintro r w2 ⟨rfl, hx2, hI1, hI2⟩
    simp only [List.nil_append] at hI1 hI2
    have HX2 := Lib.hid hx2; have I1 := Lib.hid hI1; have I2 := Lib.hid hI2
    clear hx2 hI1 hI2
    go_wp2_with fail
    refine wp_region_held (S := fun w' => Ext w2 w') (by kernel_rfl) ?_
    refine wpAnyH_take (i := 0) (v := .agg (bools (occurs 3 e.leaves))) rfl (by kernel_rfl) (by kernel_rfl) (by kernel_rfl) (fun _ _ _ h => h) (yields_load_row _ _ rfl rfl w1.heap.size rfl _ _ _ _ (fun w' hx' => I1.out.ext hx') under32 rfl (by rw [bools_size]; exact size32)) ((Ext.refl w2).drew) ?_
    refine wpAnyH_take (i := 2) (v := .agg (bools (occurs 2 e.leaves))) rfl (by kernel_rfl) (by kernel_rfl) (by kernel_rfl) (fun _ _ _ h => h) (yields_load_row _ _ rfl rfl (w1.heap.size + 1) rfl _ _ _ _ (fun w' hx' => I2.out.ext hx') under32 rfl (by rw [bools_size]; exact size32)) ((Ext.refl w2).drew) ?_
    refine wpAnyH_all (rs := [1]) (by kernel_rfl) (by simp) ?_
    intro i hi
    obtain rfl : i = 1 := by simpa using hi
    unfold wpOp
    go_simp
    refine .inl ((members_any _ _).mono ?_)
    rintro r w3 ⟨v1, rfl, hi1, hx3⟩
    have hx23 : Ext w2 w3 := ((Ext.refl w2).drew).trans hx3
    refine ⟨hx23, ?_⟩
    refine wpAnyH_all (rs := [3]) (by kernel_rfl) (by simp) ?_
    intro i hi
    obtain rfl : i = 3 := by simpa using hi
    unfold wpOp
    go_simp
    refine .inl ((members_any _ _).mono ?_)
    rintro r w4 ⟨v2, rfl, hi2, hx4⟩
    have hx24 : Ext w2 w4 := hx23.trans hx4
    refine ⟨hx24, ?_⟩
    refine wpAnyH_take (i := 4) (v := v1) rfl (by kernel_rfl) (by kernel_rfl) (by kernel_rfl) (fun _ _ _ h => h) (.inl ⟨rfl, fun _ _ => rfl⟩) hx24 ?_
    refine wpAnyH_take (i := 5) (v := v2) rfl (by kernel_rfl) (by kernel_rfl) (by kernel_rfl) (fun _ _ _ h => h) (.inl ⟨rfl, fun _ _ => rfl⟩) hx24 ?_
    refine wpAnyH_done (by kernel_rfl) ?_ _
    have HF : Hid (SupPost e w (.returned (.tuple #[v1, v2])) w4) :=
      ⟨_, _, rfl, by simp only [E.supOld, HW.out]; exact hi1.ext hx4, by simp only [E.supNow, HW.out]; exact hi2, HX0.out.trans (HX2.out.trans hx24)⟩
    clear hi1 hi2 hx3 hx4 hx23 hx24
    go_wp2_with fail
    go_ret2
    exact HF.out
end Go.Proofs.YtlnahhlddekhoaaGreatDoor
