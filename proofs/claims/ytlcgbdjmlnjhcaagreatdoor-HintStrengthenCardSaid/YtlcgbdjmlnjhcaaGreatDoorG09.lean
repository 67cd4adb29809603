/-
  The walk of Valid.
  The walk of Valid.
  The walk of members.
-/
import Derived.Test.YtlcgbdjmlnjhcaaGreatDoorG08
import Derived.Test.YtlcgbdjmlnjhcaaGreatDoorG02
namespace Go.Proofs.YtlcgbdjmlnjhcaaGreatDoor
open Go.RowKit

/-- A leaf is one of the cells. -/
def okLeaf (cells : List CellD) (pair : Bool) (x : E) : Bool :=
  decide (x.op = 1) || (decide (x.n.toNat < cells.length) && decide ((cells.map CellD.W).getD x.n.toNat 0 = x.wd) && (!decide (x.op = 3) || pair))

/-- What the function that Valid hands to leaves finds and keeps in its variables. -/
def ValidInv (A B G : Nat) (cv : Value) (cells : List CellD) (pair : Bool) (w : World) (acc : List E) : Prop :=
  w.cell? ⟨A, 0, none⟩ = some cv ∧ w.cell? ⟨B, 0, none⟩ = some (.bool pair) ∧ w.cell? ⟨G, 0, none⟩ = some (.bool (acc.all (okLeaf cells pair))) ∧ w.frozen? ⟨G, 0, none⟩ = false

theorem ValidInv.same {A B G : Nat} {cv : Value} {cells : List CellD} {pair : Bool} {w : World} {acc : List E} {x : E} (h : ValidInv A B G cv cells pair w acc) (hx : okLeaf cells pair x = true) (n : Nat) : ValidInv A B G cv cells pair (w.drewN n) (acc ++ [x]) :=
  ⟨h.1, h.2.1, by rw [List.all_append]; simp only [List.all_cons, List.all_nil, hx, Bool.and_true]; exact h.2.2.1, h.2.2.2⟩
theorem ValidInv.bad {A B G : Nat} {cv : Value} {cells : List CellD} {pair : Bool} {w : World} {acc : List E} {x : E} (h : ValidInv A B G cv cells pair w acc) (hA : A ≠ G) (hB : B ≠ G) (hx : okLeaf cells pair x = false) (n : Nat) :
    ValidInv A B G cv cells pair ((w.setCell ⟨G, 0, none⟩ (.bool false)).drewN n) (acc ++ [x]) := by
  refine ⟨?_, ?_, ?_, ?_⟩
  · show (w.setCell ⟨G, 0, none⟩ (.bool false)).cell? _ = _
    rw [World.cell?_setCell_other _ _ _ _ (by intro e; cases e; exact hA rfl)]; exact h.1
  · show (w.setCell ⟨G, 0, none⟩ (.bool false)).cell? _ = _
    rw [World.cell?_setCell_other _ _ _ _ (by intro e; cases e; exact hB rfl)]; exact h.2.1
  · show (w.setCell ⟨G, 0, none⟩ (.bool false)).cell? _ = _
    rw [World.cell?_setCell_same _ _ _ h.2.2.1, List.all_append]; simp [hx]
  · show (w.setCell ⟨G, 0, none⟩ (.bool false)).frozen? _ = _
    rw [World.frozen?_setCell]; exact h.2.2.2

set_option maxHeartbeats 1000000 in
theorem Valid1_any (w0 : World) (A B G : Nat) (hG : w0.heap.size ≤ G) (hAG : A ≠ G) (hBG : B ≠ G) (cv : Value) (cells : List CellD) (pair : Bool) (hC : Cells w0 cv cells) (x : E) (w : World) (b o : Nat) (acc : List E) (hn : 0 ≤ x.n) (hE : IsE w0 b o x) (hx : Ext w0 w) (hI : ValidInv A B G cv cells pair w acc) :
    Calls Tryz.prog 43 #[.pointer (some ⟨b, o, none⟩), .pointer (some ⟨A, 0, none⟩), .pointer (some ⟨B, 0, none⟩), .pointer (some ⟨G, 0, none⟩)] w fun r w' => r = .returned (.tuple #[]) ∧ Ext w0 w' ∧ ValidInv A B G cv cells pair w' (acc ++ [x]) := by
  obtain ⟨h0, h1, h2, kv, h3, hk⟩ := (hE.ext hx).cells
  obtain ⟨op, wd, n, ks⟩ := x
  simp only [E.op_mk, E.wd_mk, E.n_mk, E.kids_mk] at h0 h1 h2 hk hn
  clear hk h3 hE
  have hC' := hC.ext hx
  obtain ⟨a, cap, rfl⟩ := SliceAt.shape hC
  have HX := Lib.hid hx; have HI := Lib.hid hI
  obtain ⟨i1, i2, i3, i4⟩ := hI
  clear hx hC
  obtain ⟨m, rfl⟩ := Int.eq_ofNat_of_zero_le hn
  by_cases c1 : op = 1
  · subst c1
    have HO : Hid (okLeaf cells pair (.mk 1 wd m ks) = true) := by simp [Hid, okLeaf]
    clear hC'
    go_enter Tryz.func43, Tryz.ntmps43
    go_wp2_with fail
    go_quiet (fail)
    go_wp2_with fail
    go_end0
    exact ⟨rfl, HX.out.drewN _, HI.out.same HO.out _⟩
  have e1 : ((op : Int) != 1) = true := by rw [bne_iff_ne]; exact c1
  have H1 := Lib.hid c1; clear c1
  by_cases c2 : m < cells.length
  · rcases hC' with ⟨_, e⟩ | ⟨b', o', cap', e, hl, hC'⟩
    · subst e; simp at c2
    cases e
    have q1 := (hC' m c2).2.1
    have e2 : decide (cells.length ≤ m) = false := by simp; omega
    clear hC'
    by_cases c3 : cells[m].W = wd
    · have e3 : ((cells[m].W : Int) != wd) = false := by rw [c3]; simp
      have H3 := Lib.hid c3; clear c3
      by_cases c4 : op = 3
      · subst c4
        cases pair with
        | true =>
          have HO : Hid (okLeaf cells true (.mk 3 wd m ks) = true) := by simp [Hid, okLeaf, c2, H3.out]
          go_enter Tryz.func43, Tryz.ntmps43
          go_wp2_with fail
          go_quiet (fail)
          go_wp2_with fail
          go_end0
          exact ⟨rfl, HX.out.drewN _, HI.out.same HO.out _⟩
        | false =>
          have HO : Hid (okLeaf cells false (.mk 3 wd m ks) = false) := by simp [Hid, okLeaf]
          go_enter Tryz.func43, Tryz.ntmps43
          go_wp2_with fail
          go_quiet (fail)
          go_wp2_with fail
          go_end0
          exact ⟨rfl, (HX.out.setCell hG _).drewN _, HI.out.bad hAG hBG HO.out _⟩
      · have e4 : ((op : Int) == 3) = false := by rw [beq_eq_false_iff_ne]; exact c4
        have HO : Hid (okLeaf cells pair (.mk op wd m ks) = true) := by simp [Hid, okLeaf, c2, H3.out, c4]
        clear c4
        go_enter Tryz.func43, Tryz.ntmps43
        go_wp2_with fail
        go_quiet (fail)
        go_wp2_with fail
        go_end0
        exact ⟨rfl, HX.out.drewN _, HI.out.same HO.out _⟩
    · have e3 : ((cells[m].W : Int) != wd) = true := by rw [bne_iff_ne]; exact c3
      have HO : Hid (okLeaf cells pair (.mk op wd m ks) = false) := by simp [Hid, okLeaf, c2, c3, H1.out]
      clear c3
      go_enter Tryz.func43, Tryz.ntmps43
      go_wp2_with fail
      go_quiet (fail)
      go_wp2_with fail
      go_end0
      exact ⟨rfl, (HX.out.setCell hG _).drewN _, HI.out.bad hAG hBG HO.out _⟩
  · have HO : Hid (okLeaf cells pair (.mk op wd m ks) = false) := by simp [Hid, okLeaf, c2, H1.out]
    have e2 : decide (cells.length ≤ m) = true := by simp; omega
    clear hC'
    go_enter Tryz.func43, Tryz.ntmps43
    go_wp2_with fail
    go_quiet (fail)
    go_wp2_with fail
    go_end0
    exact ⟨rfl, (HX.out.setCell hG _).drewN _, HI.out.bad hAG hBG HO.out _⟩
end Go.Proofs.YtlcgbdjmlnjhcaaGreatDoor
namespace Go.Proofs.YtlcgbdjmlnjhcaaGreatDoor
open Go.RowKit

/-- Valid's answer. -/
def E.valid (e : E) (cells : List CellD) (pair : Bool) : Bool := e.wf && e.leaves.all (okLeaf cells pair)

mutual
theorem leaves_shaped : (e : E) → (d : Nat) → e.deep d = true → ∀ x ∈ e.leaves, x.kids = [] ∧ shapedW x.op x.wd x.n [] = true
  | .mk op wd n ks, d, h, x, hx => by
    simp only [E.deep, Bool.and_eq_true] at h
    by_cases hks : ks = []
    · subst hks; rw [leaves_nil] at hx; simp at hx; subst hx; exact ⟨rfl, h.1.2⟩
    · rw [leaves_cons hks] at hx; exact leavesAll_shaped ks _ h.2 x hx
theorem leavesAll_shaped : (ks : List E) → (d : Nat) → deepAll ks d = true → ∀ x ∈ leavesAll ks, x.kids = [] ∧ shapedW x.op x.wd x.n [] = true
  | [], _, _, x, hx => by simp [leavesAll] at hx
  | e :: r, d, h, x, hx => by
    simp only [deepAll, Bool.and_eq_true] at h
    simp only [leavesAll, List.mem_append] at hx
    rcases hx with hx | hx
    · exact leaves_shaped e d h.1 x hx
    · exact leavesAll_shaped r d h.2 x hx
end
/-- A shaped leaf is a constant or a cell, its number not negative. -/
theorem shapedW_leaf {op wd n : Int} (h : shapedW op wd n [] = true) : (op = 1 ∨ op = 2 ∨ op = 3) ∧ 0 ≤ n ∧ (op ≠ 1 → n < 32) := by
  by_cases h1 : op = 1
  · subst h1; exact ⟨.inl rfl, (shapedW_const h).2.1, fun e => absurd rfl e⟩
  by_cases h2 : op = 2 ∨ op = 3
  · exact ⟨by omega, (shapedW_cell h h2).2.1, fun _ => (shapedW_cell h h2).2.2⟩
  · have := (shapedW_inner h h1 (by omega) (by omega)).2.2.2
    rcases this with ⟨_, e⟩ | ⟨_, _, e⟩ | ⟨_, _, _, u, e⟩ | ⟨_, e⟩ <;> cases e

set_option maxHeartbeats 1000000 in
theorem Valid_any (e : E) (v cv : Value) (cells : List CellD) (pair : Bool) (w : World) (he : EVal w v e) (hC : Cells w cv cells) (hM : Masks w) :
    Calls Tryz.prog 12 #[v, cv, .bool pair] w fun r w' => r = .returned (.bool (e.valid cells pair)) ∧ Ext w w' := by
  obtain ⟨k, rfl, hk⟩ := he
  have hE := IsE.box (w := w) (e := e) (t := 25) hk
  generalize hw0 : w.alloc (.cells #[.int .i64 e.op, .int .i64 e.wd, .int .i64 e.n, k] 25) = w0 at hE
  have hx0 : Ext w w0 := by rw [← hw0]; exact (Ext.refl w).alloc _
  have hs0 : w0.heap.size = w.heap.size + 1 := by rw [← hw0]; simp
  have hv0 : EVal w0 (.agg #[.int .i64 e.op, .int .i64 e.wd, .int .i64 e.n, k]) e := ⟨k, rfl, hk.ext hx0⟩
  have H0 := Lib.hid hw0; have HX0 := Lib.hid hx0; have HS0 := Lib.hid hs0; have HE := Lib.hid hE; have HV0 := Lib.hid hv0
  have HC0 := Lib.hid (hC.ext hx0); have HM0 := Lib.hid (hM.ext hx0)
  clear hw0 hx0 hs0 hE hk hC hM hv0
  obtain ⟨a, cap, rfl⟩ := SliceAt.shape HC0.out
  cases hw : e.wf with
  | false =>
    have HW := Lib.hid hw; clear hw
    go_enter Tryz.func12, Tryz.ntmps12
    go_wp2_with fail
    rw [H0.out]
    refine (wellFormed_any e _ _ (HV0.out.ext (((Ext.refl w0).alloc _).alloc _)) (HM0.out.ext (((Ext.refl w0).alloc _).alloc _))).mono ?_
    rintro r w1 ⟨rfl, hx1⟩
    rw [HW.out]
    have HX1 := Lib.hid hx1; clear hx1
    go_wp2_with fail
    go_ret
    exact ⟨by simp only [E.valid, HW.out]; rfl, HX0.out.trans ((((Ext.refl w0).alloc _).alloc _).trans HX1.out)⟩
  | true =>
    have HW := Lib.hid hw; clear hw
    go_enter Tryz.func12, Tryz.ntmps12
    go_wp2_with fail
    rw [H0.out]
    refine (wellFormed_any e _ _ (HV0.out.ext (((Ext.refl w0).alloc _).alloc _)) (HM0.out.ext (((Ext.refl w0).alloc _).alloc _))).mono ?_
    rintro r w1 ⟨rfl, hx1⟩
    rw [HW.out]
    have hx2 : Ext w0 w1 := (((Ext.refl w0).alloc _).alloc _).trans hx1
    have k1 : w1.cell? ⟨w.heap.size + 1, 0, none⟩ = some (.slice a cells.length cap) := hx1.cell (by rw [← HS0.out]; simp)
    have k2 : w1.cell? ⟨w.heap.size + 1 + 1, 0, none⟩ = some (.bool pair) := hx1.cell (by rw [← HS0.out]; simp)
    have HX2 := Lib.hid hx2; have K1 := Lib.hid k1; have K2 := Lib.hid k2
    have hs1 : w.heap.size + 1 + 1 < w1.heap.size := block_lt k2
    have HS1 := Lib.hid hs1
    clear hx1 hx2 k1 k2 hs1
    go_wp2_with fail
    refine (leaves_valid w0 (w.heap.size + 1) (w.heap.size + 1 + 1) w1.heap.size (fun x => 0 ≤ x.n) (ValidInv (w.heap.size + 1) (w.heap.size + 1 + 1) w1.heap.size (.slice a cells.length cap) cells pair)
      (fun x w b o acc h1 h2 h3 h4 => Valid1_any w0 _ _ _ (by have := HX2.out.size; omega) (by have := HS1.out; omega) (by have := HS1.out; omega) _ cells pair HC0.out x w b o acc h1 h2 h3 h4)
      e.size e _ _ _ [] (Nat.le_refl _) (fun x hx => (shapedW_leaf (leaves_shaped e 40 (wf_deep HW.out) x hx).2).2.1) HE.out (HX2.out.alloc _) ?_).mono ?_
    · refine ⟨Ext.cell ((Ext.refl w1).alloc _) K1.out, Ext.cell ((Ext.refl w1).alloc _) K2.out, by simp, by simp⟩
    rintro r w2 ⟨rfl, hx3, hI⟩
    have hg := hI.2.2.1
    simp only [List.nil_append] at hg
    have HX3 := Lib.hid hx3
    clear hI hx3
    go_wp2_with fail
    go_ret
    exact ⟨by simp only [E.valid, HW.out]; rfl, HX0.out.trans HX3.out⟩
end Go.Proofs.YtlcgbdjmlnjhcaaGreatDoor
namespace Go.Proofs.YtlcgbdjmlnjhcaaGreatDoor
open Go.RowKit

/-- An array of 32 bools. -/
def bools (f : Nat → Bool) : Array Value := ((List.range 32).map fun j => Value.bool (f j)).toArray
theorem bools_size (f : Nat → Bool) : (bools f).size = 32 := by simp [bools]
theorem bools_get (f : Nat → Bool) (k : Nat) (h : k < 32) : (bools f)[k]? = some (.bool (f k)) := by
  simp [bools, h]
theorem under32 : Tryz.prog.underlying 124 = some (.array 32 4) := by kernel_rfl
theorem size4 : (Tryz.prog.info? 4).map (·.size) = some 1 := by kernel_rfl
theorem size32 : (Tryz.prog.info? 124).map (·.size) = some 32 := by kernel_rfl

theorem run_index32 (f : Nat → Bool) (k : Nat) (h : k < 32) (w : World) : (Instr.index 124 (.agg (bools f)) (.int .i64 k)).run Tryz.prog w = .ok (.bool (f k)) w := by
  simp [Instr.index, asIntOf, run_underlying under32, go_sem, h, bools_get f k h]

/-- The numbers below k of which f is true. -/
def upTo (f : Nat → Bool) (k : Nat) : List Int := ((List.range k).filter f).map Int.ofNat
theorem upTo_succ_true {f : Nat → Bool} {k : Nat} (h : f k = true) : upTo f (k + 1) = upTo f k ++ [(k : Int)] := by
  simp [upTo, List.range_succ, List.filter_append, h]
theorem upTo_succ_false {f : Nat → Bool} {k : Nat} (h : f k = false) : upTo f (k + 1) = upTo f k := by
  simp [upTo, List.range_succ, List.filter_append, h]
theorem upTo_length (f : Nat → Bool) (k : Nat) : (upTo f k).length ≤ k := by
  simp only [upTo, List.length_map]
  have := List.length_filter_le f (List.range k)
  simpa using this

def MembersPost (f : Nat → Bool) (w : World) (r : Ending) (w' : World) : Prop := ∃ v, r = .returned v ∧ Ints w' v (upTo f 32) ∧ Ext w w'

set_option maxRecDepth 100000 in
set_option maxHeartbeats 1000000 in
theorem members_any (f : Nat → Bool) (w : World) : Calls Tryz.prog 88 #[.agg (bools f)] w (MembersPost f w) := by
  go_enter Tryz.func88, Tryz.ntmps88
  go_wp2_with (with_reducible refine wpList_load_row rfl 124 (.tmp 1) rfl w.heap.size rfl 124 (bools f) (0, 0) (.array 32 4) ?hg under32 rfl ?hsz ?_)
  case hg => exact heap_new _ _
  case hsz => rw [bools_size]; exact size32
  go_loopw [3, 4, 5, 7] (fun v _ _ i wr => ∃ k : Nat, k ≤ 32 ∧ i = .int .i64 k ∧ OwnInts wr (w.heap.size + 1) v (upTo f k) ∧ Ext w wr ∧ w.heap.size + 1 ≤ wr.heap.size) (fun _ _ _ i _ => 32 - (intOf i).toNat)
  case atStart => exact ⟨0, by decide, rfl, OwnInts.nil _ _, (Ext.refl w).alloc _, by simp⟩
  case round =>
    obtain ⟨k, hk, rfl, hown, hx, hsz⟩ := hrel
    have HX := Lib.hid hx; clear hx
    by_cases hlt : k < 32
    · have hidx := run_index32 f k hlt
      have hul := upTo_length f k
      cases hf : f k with
      | true =>
        have HU := Lib.hid (upTo_succ_true hf)
        have HO := Lib.hid hown
        rw [hf] at hidx
        clear hf hown
        go_wp2_with (at_builtin; refine wpList_append_int rfl (.tmp 12) (.tmp 14) rfl (w.heap.size + 1) wr _ _ _ rfl rfl HO.out (by omega) (by omega) ?_)
        intro v' w' hown' hg
        have hx' : Ext w w' := HX.out.grown hg (fun q hq => Nat.le_trans (Nat.le_succ _) (HO.out.base q hq))
        have hz' := hg.size
        have HO' := Lib.hid hown'; have HX' := Lib.hid hx'
        clear hown' hx' hg
        go_wp2_with fail
        go_roundw
        case rel => exact ⟨k + 1, by omega, by go_num, by rw [HU.out]; exact HO'.out, HX'.out, by omega⟩
        case measure => simp [intOf]; omega
      | false =>
        have HU := Lib.hid (upTo_succ_false hf)
        have HO := Lib.hid hown
        rw [hf] at hidx
        clear hf hown
        go_wp2_with fail
        exact ⟨⟨k + 1, by omega, by go_num, by rw [HU.out]; exact HO.out, HX.out, by omega⟩, by simp [intOf]; omega⟩
    · have hk : k = 32 := by omega
      subst hk
      have HI := Lib.hid (hown.ints); clear hown
      go_wp2_with fail
      go_ret
      exact ⟨_, rfl, HI.out, HX.out⟩
end Go.Proofs.YtlcgbdjmlnjhcaaGreatDoor
