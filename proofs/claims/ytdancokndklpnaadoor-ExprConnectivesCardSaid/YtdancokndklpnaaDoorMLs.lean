/-
  The laws' small functions: has, few, State.
  The walk of fits.
-/
import Derived.Test.YtdancokndklpnaaDoorMLw
import Derived.Laws.MakeOwn
namespace Go.Proofs.YtdancokndklpnaaDoor
open Go.RowKit

def hasB (l : List Int) (n : Int) : Bool := decide (n ∈ l)
set_option maxHeartbeats 1000000 in
theorem has_any (l : List Int) (n : Int) (v : Value) (w : World) (hl : Ints w v l) : Calls Tryd.prog 25 #[v, .int .i64 n] w fun r w' => r = .returned (.bool (hasB l n)) ∧ w = w' := by
  obtain ⟨a, cap, rfl⟩ := hl.shape
  have hlen := SliceAt.len_le hl
  have HL := Lib.hid hl; clear hl
  go_enter Tryd.func25, Tryd.ntmps25
  go_wp2_with fail
  go_loop [5] (fun i => ∃ k : Nat, k ≤ l.length ∧ i = .int .i64 k ∧ n ∉ l.take k) (fun i => l.length - (intOf i).toNat)
  case atStart => exact ⟨0, Nat.zero_le _, rfl, by simp⟩
  case round =>
    obtain ⟨k, hk, rfl, hr⟩ := hrel
    have HR := Lib.hid hr; clear hr
    by_cases hlt : k < l.length
    · rcases HL.out with ⟨_, e⟩ | ⟨b, o, cap', e, _, hc⟩
      · rw [e] at hlt; simp at hlt
      cases e
      have g : w.cell? ⟨b, o + k, none⟩ = some (.int .i64 l[k]) := by have := hc k hlt; rw [Nat.mul_one] at this; exact this
      clear hc
      cases hq : (l[k] == n) with
      | true =>
        have HF : Hid (hasB l n = true) := by
          have : l[k] = n := by simpa using hq
          exact decide_eq_true (this ▸ List.getElem_mem hlt)
        go_wp2_with fail
        go_ret
        exact ⟨by rw [HF.out]; rfl, rfl⟩
      | false =>
        have HF : Hid (n ∉ l.take (k + 1)) := by
          have : ¬ l[k] = n := by simpa using hq
          unfold Hid
          rw [List.take_succ_eq_append_getElem hlt]
          intro h
          rcases List.mem_append.1 h with h | h
          · exact HR.out h
          · simp at h; exact this h.symm
        go_wp2_with fail
        exact ⟨⟨k + 1, by omega, by go_num, HF.out⟩, by simp [intOf]; omega⟩
    · have HF : Hid (hasB l n = false) := by
        have := HR.out
        rw [List.take_of_length_le (by omega)] at this
        exact decide_eq_false this
      go_wp2_with fail
      go_ret
      exact ⟨by rw [HF.out]; rfl, rfl⟩

def fewB (l : List (Int × E)) (m lim : Int) : Bool := decide ((l.length : Int) ≤ m) && l.all fun a => decide ((a.2.size : Int) ≤ lim)
set_option maxHeartbeats 1000000 in
theorem few_any (l : List (Int × E)) (v : Value) (w : World) (m lim : Int) (hl : Assigns w v l) (hm0 : 0 ≤ m) (hm1 : m ≤ 1000) (h0 : 0 ≤ lim) (h1 : lim ≤ 1000) :
    Calls Tryd.prog 12 #[v, .int .i64 m, .int .i64 lim] w fun r w' => r = .returned (.bool (fewB l m lim)) ∧ Ext w w' := by
  obtain ⟨a, cap, rfl⟩ := hl.shape
  have hlen := SliceAt.len_le hl
  have HL := Lib.hid hl; clear hl
  by_cases hm : m < (l.length : Int)
  · have hd : decide (m < (l.length : Int)) = true := decide_eq_true hm
    have HF : Hid (fewB l m lim = false) := by unfold Hid fewB; rw [decide_eq_false (by omega)]; rfl
    go_enter Tryd.func12, Tryd.ntmps12
    go_wp2_with fail
    go_ret
    exact ⟨by rw [HF.out]; rfl, Ext.refl w⟩
  have hd : decide (m < (l.length : Int)) = false := decide_eq_false hm
  go_enter Tryd.func12, Tryd.ntmps12
  go_wp2_with fail
  go_loopw [7] (fun i wr => ∃ k : Nat, k ≤ l.length ∧ i = .int .i64 k ∧ Ext w wr ∧ ∀ (j : Nat) (h : j < l.length), j < k → (l[j].2.size : Int) ≤ lim) (fun i _ => l.length - (intOf i).toNat)
  case atStart => exact ⟨0, Nat.zero_le _, rfl, Ext.refl _, fun j _ h => absurd h (Nat.not_lt_zero _)⟩
  case round =>
    obtain ⟨k, hk, rfl, hX, hR⟩ := hrel
    have HX := Lib.hid hX; have HR := Lib.hid hR; clear hX hR
    by_cases hlt : k < l.length
    · rcases HL.out with ⟨_, e⟩ | ⟨b', o', cap', e, _, hk'⟩
      · rw [e] at hlt; simp at hlt
      cases e
      have hE := (hk' k hlt).2.ext HX.out
      obtain ⟨g0, g1, g2, kv, g3, hkk⟩ := hE.cells
      obtain ⟨ka, kc, rfl⟩ := SliceAt.shape hkk
      have HE : Hid (EVal wr (.agg #[.int .i64 l[k].2.op, .int .i64 l[k].2.wd, .int .i64 l[k].2.n, .slice ka l[k].2.kids.length kc]) l[k].2) := ⟨_, rfl, hkk⟩
      clear hkk hk' hE
      go_wp2_with fail
      refine (RSmall_any l[k].2 _ _ lim HE.out h0 h1).mono ?_
      rintro r w2 ⟨rfl, hx2⟩
      have HX2 := Lib.hid (HX.out.trans hx2); clear hx2
      cases hq : decide ((l[k].2.size : Int) ≤ lim) with
      | false =>
        have HF : Hid (fewB l m lim = false) := by
          unfold Hid fewB
          rw [Bool.and_eq_false_iff]
          exact .inr (List.all_eq_false.2 ⟨l[k], List.getElem_mem hlt, by rw [hq]; simp⟩)
        clear hq
        go_wp2_with fail
        go_ret
        exact ⟨by rw [HF.out]; rfl, HX2.out⟩
      | true =>
        have HQ := Lib.hid hq; clear hq
        go_wp2_with fail
        refine ⟨⟨k + 1, by omega, by go_num, HX2.out, fun j h hj => ?_⟩, by simp [intOf]; omega⟩
        by_cases c : j = k
        · subst c; exact of_decide_eq_true HQ.out
        · exact HR.out j h (by omega)
    · have HF : Hid (fewB l m lim = true) := by
        unfold Hid fewB
        rw [Bool.and_eq_true]
        refine ⟨decide_eq_true (by omega), List.all_eq_true.2 fun x hx => ?_⟩
        obtain ⟨i, hi, rfl⟩ := List.mem_iff_getElem.1 hx
        exact decide_eq_true (HR.out i hi (by omega))
      go_wp2_with fail
      go_ret
      exact ⟨by rw [HF.out]; rfl, HX.out⟩

/-- A row of 32 ints. -/
def intsA (f : Nat → Int) : Array Value := ((List.range 32).map fun j => Value.int .i64 (f j)).toArray
theorem intsA_size (f : Nat → Int) : (intsA f).size = 32 := by simp [intsA]
theorem intsA_get (f : Nat → Int) (k : Nat) (h : k < 32) : (intsA f)[k]? = some (.int .i64 (f k)) := by simp [intsA, h]
def RowAt (w : World) (A : Nat) (f : Nat → Int) : Prop := w.heap[A]? = some (.cells (intsA f) 3 (0, 0))
theorem RowAt.cell {w : World} {A : Nat} {f : Nat → Int} (h : RowAt w A f) (n : Nat) (hn : n < 32) : w.cell? ⟨A, n, none⟩ = some (.int .i64 (f n)) := by
  unfold RowAt at h
  simp [World.cell?, h, intsA_get f n hn]
theorem RowAt.frozen {w : World} {A : Nat} {f : Nat → Int} (h : RowAt w A f) (n : Nat) : w.frozen? ⟨A, n, none⟩ = false := by
  unfold RowAt at h
  simp [World.frozen?, h]
theorem RowAt.lt {w : World} {A : Nat} {f : Nat → Int} (h : RowAt w A f) : A < w.heap.size := heap_lt' h
theorem RowAt.set {w : World} {A : Nat} {f : Nat → Int} (h : RowAt w A f) (n : Nat) (x : Int) : RowAt (w.setCell ⟨A, n, none⟩ (.int .i64 x)) A (fun j => if j = n then x else f j) := by
  unfold RowAt at h ⊢
  simp only [World.setCell, Array.getElem?_modify, if_true, h, Option.map_some]
  have e : (intsA f).setIfInBounds n (.int .i64 x) = intsA (fun j => if j = n then x else f j) := by
    apply Array.ext
    · simp [intsA_size]
    · intro i h1 h2
      have hi : i < 32 := by simpa [intsA_size] using h1
      rw [Array.getElem_setIfInBounds (by simpa [intsA_size] using hi)]
      have g1 := intsA_get f i hi
      have g2 := intsA_get (fun j => if j = n then x else f j) i hi
      rw [Array.getElem?_eq_getElem (by simpa [intsA_size] using hi)] at g1 g2
      simp only [Option.some.injEq] at g1 g2
      rw [g2, g1]
      by_cases c : n = i
      · simp [c]
      · rw [if_neg c, if_neg (fun h => c h.symm)]
  simp [e]
theorem RowAt.ext {w w' : World} {A : Nat} {f : Nat → Int} (h : RowAt w A f) (hx : Ext w w') : RowAt w' A f := by
  have := h.lt
  unfold RowAt at h ⊢
  rw [hx.block A this]; exact h
theorem RowAt.congr {w : World} {A : Nat} {f g : Nat → Int} (h : RowAt w A f) (e : ∀ j, j < 32 → f j = g j) : RowAt w A g := by
  have : intsA f = intsA g := by
    unfold intsA; congr 1; exact List.map_congr_left fun j hj => by rw [e j (List.mem_range.1 hj)]
  unfold RowAt at h ⊢; rw [← this]; exact h
def row32 (f : Nat → Int) : List Int := (List.range 32).map f
theorem RowAt.ints {w : World} {A : Nat} {f : Nat → Int} (h : RowAt w A f) : Ints w (.slice (some ⟨A, 0, none⟩) 32 32) (row32 f) := by
  refine .inr ⟨A, 0, 32, by simp [row32], by simp [row32], fun i hi => ?_⟩
  have hi' : i < 32 := by simpa [row32] using hi
  have := h.cell i hi'
  rw [Nat.mul_one, Nat.zero_add]
  simpa [IntAt, row32] using this
/-- A state of 32 cells. -/
def stateF (l : List Int) (j : Nat) : Int := l.getD j 0
def StatePost (l : List Int) (w : World) (r : Ending) (w' : World) : Prop := ∃ B, w.heap.size ≤ B ∧ r = .returned (.slice (some ⟨B, 0, none⟩) 32 32) ∧ RowAt w' B (stateF l) ∧ Ext w w'
theorem made32 : madeCells (Value.int .i64 0).cells (Int.toNat 32 * 1) = intsA fun _ => 0 := by kernel_rfl
theorem makeState (W : World) : (Instr.makeSlice 26 (.int .i64 32) (.int .i64 32)).run Tryd.prog W = .ok (.slice (some ⟨W.heap.size, 0, none⟩) 32 32) (W.alloc (.cells (intsA fun _ => 0) 3)) := by
  obtain ⟨i, hi, hz⟩ := Option.map_eq_some_iff.1 infoInt
  simp only [Prod.mk.injEq] at hz
  have hr := run_make (P := Tryd.prog) W 26 3 i (.int .i64 0) Tryd.underlying26 hi hz.1 .i64 .i64 32 32 (by omega) (by omega) (by rw [hz.2.2]; decide) (by decide)
  rw [hr, hz.2.1, made32]; rfl
set_option maxHeartbeats 1000000 in
theorem State_any (l : List Int) (v : Value) (w : World) (hl : Ints w v l) : Calls Tryd.prog 14 #[v] w (StatePost l w) := by
  obtain ⟨a, cap, rfl⟩ := hl.shape
  have hlen := SliceAt.len_le hl
  have HL := Lib.hid hl; clear hl
  have hmk := makeState
  go_enter Tryd.func14, Tryd.ntmps14
  go_wp2_with fail
  clear hmk
  have HR0 : Hid (RowAt (w.alloc (.cells (intsA fun _ => 0) 3)) w.heap.size (fun _ => 0)) := heap_new _ _
  have HX0 := Lib.hid ((Ext.refl w).alloc (.cells (intsA fun _ => 0) 3))
  go_loopw [4] (fun i wr => ∃ k : Nat, k ≤ 32 ∧ k ≤ l.length ∧ i = .int .i64 k ∧ Ext w wr ∧ RowAt wr w.heap.size (fun j => if j < k then stateF l j else 0)) (fun i _ => 32 - (intOf i).toNat)
  case atStart => exact ⟨0, Nat.zero_le _, Nat.zero_le _, rfl, HX0.out, HR0.out.congr (by simp)⟩
  case round =>
    obtain ⟨k, hk32, hk, rfl, hX, hR⟩ := hrel
    have HX := Lib.hid hX; have HR := Lib.hid hR; clear hX hR
    by_cases hlt : k < l.length
    · by_cases hl32 : k < 32
      · rcases HL.out with ⟨_, e⟩ | ⟨b', o', cap', e, _, hc⟩
        · rw [e] at hlt; simp at hlt
        cases e
        have g : wr.cell? ⟨b', o' + k, none⟩ = some (.int .i64 l[k]) := by have := HX.out.cell (hc k hlt); rw [Nat.mul_one] at this; exact this
        have g2 := HR.out.cell k hl32
        have g3 := HR.out.frozen k
        clear hc
        go_wp2_with fail
        refine ⟨⟨k + 1, by omega, by omega, by go_num, HX.out.setCell (Nat.le_refl _) _, (HR.out.set k l[k]).congr fun j hj => ?_⟩, by simp [intOf]; omega⟩
        by_cases c : j = k
        · subst c; simp [stateF, hlt]
        · rw [if_neg c]
          by_cases c2 : j < k
          · rw [if_pos c2, if_pos (by omega)]
          · rw [if_neg c2, if_neg (by omega)]
      · have HF : Hid (RowAt wr w.heap.size (stateF l)) := HR.out.congr fun j hj => by rw [if_pos (by omega)]
        go_wp2_with fail
        go_ret
        exact ⟨_, Nat.le_refl _, rfl, HF.out, HX.out⟩
    · have HF : Hid (RowAt wr w.heap.size (stateF l)) := HR.out.congr fun j hj => by
        by_cases c : j < k
        · rw [if_pos c]
        · rw [if_neg c, stateF, List.getD_eq_getElem?_getD, List.getElem?_eq_none (by omega)]; rfl
      go_wp2_with fail
      go_ret
      exact ⟨_, Nat.le_refl _, rfl, HF.out, HX.out⟩
end Go.Proofs.YtdancokndklpnaaDoor
namespace Go.Proofs.YtdancokndklpnaaDoor
open Go.RowKit

mutual
/-- Every occurrence of an assigned cell has the width of the assigned expression; the assigned ones are well-formed. -/
def fitsB (set : List (Int × E)) : E → Bool
  | .mk op wd n ks => set.all (fun a => a.2.wf) && (match (if op = 2 then set.find? (fun a => a.1 == n) else none) with | some a => a.2.wd == wd | none => fitsAll set ks)
def fitsAll (set : List (Int × E)) : List E → Bool
  | [] => true
  | e :: r => fitsB set e && fitsAll set r
end
theorem fitsAll_iff (set : List (Int × E)) (ks : List E) : fitsAll set ks = true ↔ ∀ k ∈ ks, fitsB set k = true := by
  induction ks with
  | nil => simp [fitsAll]
  | cons e r ih => simp [fitsAll, ih]
theorem fits_not {set : List (Int × E)} {op wd n : Int} {ks : List E} {k : Nat} (hk : k < set.length) (h : set[k].2.wf = false) : fitsB set (.mk op wd n ks) = false := by
  rw [fitsB, Bool.and_eq_false_iff]
  exact .inl (List.all_eq_false.2 ⟨set[k], List.getElem_mem hk, by rw [h]; simp⟩)
theorem all_wf {set : List (Int × E)} (h : ∀ (j : Nat) (hj : j < set.length), set[j].2.wf = true) : set.all (fun a => a.2.wf) = true :=
  List.all_eq_true.2 fun x hx => by obtain ⟨i, hi, rfl⟩ := List.mem_iff_getElem.1 hx; exact h i hi
theorem find_at {set : List (Int × E)} {n : Int} {k : Nat} (hk : k < set.length) (h : set[k].1 = n) (hb : ∀ (j : Nat) (hj : j < set.length), j < k → set[j].1 ≠ n) : set.find? (fun a => a.1 == n) = some set[k] := by
  rw [List.find?_eq_some_iff_getElem]
  exact ⟨by simpa using h, k, hk, rfl, fun j hj => by simpa using hb j (by omega) hj⟩
theorem find_no {set : List (Int × E)} {n : Int} (hb : ∀ (j : Nat) (hj : j < set.length), set[j].1 ≠ n) : set.find? (fun a => a.1 == n) = none := by
  rw [List.find?_eq_none]
  intro x hx
  obtain ⟨i, hi, rfl⟩ := List.mem_iff_getElem.1 hx
  simpa using hb i hi

theorem fits_eq {set : List (Int × E)} {op wd n : Int} {ks : List E} (hf : op ≠ 2 ∨ set.find? (fun a => a.1 == n) = none) : fitsB set (.mk op wd n ks) = (set.all (fun a => a.2.wf) && fitsAll set ks) := by
  rw [fitsB]
  have : (if op = 2 then set.find? (fun a => a.1 == n) else none) = none := by
    rcases hf with h | h
    · rw [if_neg h]
    · rw [h]; split <;> rfl
  rw [this]
theorem fits_cell {set : List (Int × E)} {wd n : Int} {ks : List E} {a : Int × E} (ha : set.all (fun a => a.2.wf) = true) (hf : set.find? (fun a => a.1 == n) = some a) : fitsB set (.mk 2 wd n ks) = (a.2.wd == wd) := by
  rw [fitsB, ha, if_pos rfl, hf]; rfl
theorem fits_kid {set : List (Int × E)} {op wd n : Int} {ks : List E} (hf : op ≠ 2 ∨ set.find? (fun a => a.1 == n) = none) {k : Nat} (hk : k < ks.length) (h : fitsB set ks[k] = false) : fitsB set (.mk op wd n ks) = false := by
  rw [fits_eq hf, Bool.and_eq_false_iff]
  right
  cases h' : fitsAll set ks with
  | false => rfl
  | true => rw [(fitsAll_iff set ks).1 h' _ (List.getElem_mem hk)] at h; cases h
theorem fits_yes {set : List (Int × E)} {op wd n : Int} {ks : List E} (ha : set.all (fun a => a.2.wf) = true) (hf : op ≠ 2 ∨ set.find? (fun a => a.1 == n) = none) (h : ∀ (j : Nat) (hj : j < ks.length), fitsB set ks[j] = true) : fitsB set (.mk op wd n ks) = true := by
  rw [fits_eq hf, ha, Bool.true_and, fitsAll_iff]
  intro k hk
  obtain ⟨i, hi, rfl⟩ := List.mem_iff_getElem.1 hk
  exact h i hi

/-- The last loop's part. -/
def FitsC (set : List (Int × E)) (sv : Value) (N : Nat) : Prop := ∀ (e : E) (v : Value) (w : World), e.size ≤ N → EVal w v e → Assigns w sv set →
    Calls Tryd.prog 13 #[v, sv] w fun r w' => r = .returned (.bool (fitsB set e)) ∧ Ext w w'

set_option maxHeartbeats 4000000 in
theorem fits_any (set : List (Int × E)) (sv : Value) (N : Nat) : FitsC set sv N := by
  induction N with
  | zero => intro e v w h; have := e.size_pos; omega
  | succ N ih =>
    intro e v w hN he hS
    obtain ⟨kv, rfl, hk⟩ := he
    obtain ⟨op, wd, n, ks⟩ := e
    simp only [E.op_mk, E.wd_mk, E.n_mk, E.kids_mk] at hk ⊢
    obtain ⟨a, cap, rfl⟩ := SliceAt.shape hk
    obtain ⟨sa, scap, rfl⟩ := hS.shape
    have hlen : ks.length ≤ 9223372036854775807 := SliceAt.len_le hk
    have hslen : set.length ≤ 9223372036854775807 := SliceAt.len_le hS
    have HSZ : Hid (∀ k ∈ ks, k.size ≤ N) := fun k hk => by have := size_kid (op := op) (wd := wd) (n := n) hk; omega
    have IH := Lib.hid ih; have HK := Lib.hid hk; have HS := Lib.hid hS; clear ih hk hS hN
    obtain ⟨W, hW⟩ : ∃ W, W = w.alloc (.cells #[.int .i64 op, .int .i64 wd, .int .i64 n, .slice a ks.length cap] 24) := ⟨_, rfl⟩
    have HX : Hid (Ext w W) := by rw [hW]; exact (Ext.refl w).alloc _
    have HV : Hid (VarE W w.heap.size op wd n (.slice a ks.length cap)) := by rw [hW]; exact VarE.new _ _ _ _ _
    have HW := Lib.hid hW; clear hW
    go_enter Tryd.func13, Tryd.ntmps13
    go_upto_region 1 with fail
    rw [← HW.out]; clear HW
    generalize w.heap.size = B at *
    go_wp2_with fail
    go_loopw [5] (fun i wr => ∃ k : Nat, k ≤ set.length ∧ i = .int .i64 k ∧ Ext W wr ∧ ∀ (j : Nat) (h : j < set.length), j < k → set[j].2.wf = true) (fun i _ => set.length - (intOf i).toNat)
    case atStart => exact ⟨0, Nat.zero_le _, rfl, Ext.refl _, fun j _ h => absurd h (Nat.not_lt_zero _)⟩
    case round =>
      obtain ⟨k, hk, rfl, hX, hR⟩ := hrel
      have HX1 := Lib.hid hX; have HR := Lib.hid hR; clear hX hR
      by_cases hlt : k < set.length
      · rcases HS.out with ⟨_, e⟩ | ⟨b', o', cap', e, _, hk'⟩
        · rw [e] at hlt; simp at hlt
        cases e
        have hE := (hk' k hlt).2.ext (HX.out.trans HX1.out)
        obtain ⟨g0, g1, g2, kv, g3, hkk⟩ := hE.cells
        obtain ⟨ka, kc, rfl⟩ := SliceAt.shape hkk
        have HE : Hid (EVal wr (.agg #[.int .i64 set[k].2.op, .int .i64 set[k].2.wd, .int .i64 set[k].2.n, .slice ka set[k].2.kids.length kc]) set[k].2) := ⟨_, rfl, hkk⟩
        clear hkk hk' hE
        go_wp2_with fail
        refine (RFormed_any set[k].2 _ _ HE.out).mono ?_
        rintro r w2 ⟨rfl, hx2⟩
        have HX2 := Lib.hid (HX1.out.trans hx2); clear hx2
        cases hq : set[k].2.wf with
        | false =>
          have HF : Hid (fitsB set (.mk op wd n ks) = false) := fits_not hlt hq
          clear hq
          go_wp2_with fail
          go_ret
          exact ⟨by rw [HF.out]; rfl, HX.out.trans HX2.out⟩
        | true =>
          have HQ := Lib.hid hq; clear hq
          go_wp2_with fail
          refine ⟨⟨k + 1, by omega, by go_num, HX2.out, fun j h hj => ?_⟩, by simp [intOf]; omega⟩
          by_cases c : j = k
          · subst c; exact HQ.out
          · exact HR.out j h (by omega)
      · have HA := Lib.hid (all_wf fun j hj => HR.out j hj (by omega))
        obtain ⟨c0, c1, c2, c3⟩ := (HV.out.ext HX1.out).cells
        clear HR hk
        by_cases ho : op = 2
        · subst ho
          go_wp2_with fail
          go_loopw [6] (fun i w3 => ∃ k : Nat, k ≤ set.length ∧ i = .int .i64 k ∧ Ext W w3 ∧ ∀ (j : Nat) (h : j < set.length), j < k → set[j].1 ≠ n) (fun i _ => set.length - (intOf i).toNat)
          case atStart => exact ⟨0, Nat.zero_le _, rfl, HX1.out, fun j _ h => absurd h (Nat.not_lt_zero _)⟩
          case round =>
            clear c0 c1 c2 c3 hlt
            obtain ⟨k2, hk2, rfl, hX2, hR2⟩ := hrel
            have HX2 := Lib.hid hX2; have HR2 := Lib.hid hR2; clear hX2 hR2
            obtain ⟨c0, c1, c2, c3⟩ := (HV.out.ext HX2.out).cells
            by_cases hlt2 : k2 < set.length
            · rcases HS.out with ⟨_, e⟩ | ⟨b', o', cap', e, _, hk'⟩
              · rw [e] at hlt2; simp at hlt2
              cases e
              have hE := (hk' k2 hlt2).2.ext (HX.out.trans HX2.out)
              obtain ⟨g0, g1, g2, kv, g3, hkk⟩ := hE.cells
              have gc := (HX.out.trans HX2.out).cell (hk' k2 hlt2).1
              clear hkk hk' hE
              cases hq : (set[k2].1 == n) with
              | true =>
                have HF : Hid (fitsB set (.mk 2 wd n ks) = (set[k2].2.wd == wd)) := fits_cell HA.out (find_at hlt2 (by simpa using hq) HR2.out)
                have HQ := Lib.hid hq
                go_wp2_with fail
                go_quiet (fail)
                go_wp2_with fail
                go_quiet (fail)
                go_wp2_with fail
                go_ret
                exact ⟨by rw [HF.out]; rfl, ((HX.out.trans HX2.out).drewN _).drewN _⟩
              | false =>
                have HQ : Hid (set[k2].1 ≠ n) := by unfold Hid; simpa using hq
                go_wp2_with fail
                go_quiet (fail)
                go_wp2_with fail
                refine ⟨⟨k2 + 1, by omega, by go_num, HX2.out.drewN _, fun j h hj => ?_⟩, by simp [intOf]; omega⟩
                by_cases c : j = k2
                · subst c; exact HQ.out
                · exact HR2.out j h (by omega)
            · have HFN := Lib.hid (find_no fun j hj => HR2.out j hj (by omega))
              go_wp2_with fail
              go_loopw [7] (fun i w3 => ∃ k : Nat, k ≤ ks.length ∧ i = .int .i64 k ∧ Ext W w3 ∧ ∀ (j : Nat) (h : j < ks.length), j < k → fitsB set ks[j] = true) (fun i _ => ks.length - (intOf i).toNat)
              case atStart => exact ⟨0, Nat.zero_le _, rfl, HX2.out, fun j _ h => absurd h (Nat.not_lt_zero _)⟩
              case round =>
                clear c0 c1 c2 c3
                obtain ⟨k3, hk3, rfl, hX3, hR3⟩ := hrel
                have HX3 := Lib.hid hX3; have HR3 := Lib.hid hR3; clear hX3 hR3
                obtain ⟨c0, c1, c2, c3⟩ := (HV.out.ext HX3.out).cells
                by_cases hlt3 : k3 < ks.length
                · rcases HK.out with ⟨_, e⟩ | ⟨b', o', cap', e, _, hk'⟩
                  · rw [e] at hlt3; simp at hlt3
                  cases e
                  have hE := (hk' k3 hlt3).ext (HX.out.trans HX3.out)
                  obtain ⟨g0, g1, g2, kv, g3, hkk⟩ := hE.cells
                  obtain ⟨ka, kc, rfl⟩ := SliceAt.shape hkk
                  have HE : Hid (EVal _ (.agg #[.int .i64 ks[k3].op, .int .i64 ks[k3].wd, .int .i64 ks[k3].n, .slice ka ks[k3].kids.length kc]) ks[k3]) := ⟨_, rfl, hkk⟩
                  clear hkk hk' hE
                  go_wp2_with fail
                  refine (IH.out ks[k3] _ _ (HSZ.out _ (List.getElem_mem hlt3)) HE.out (HS.out.ext (HX.out.trans HX3.out))).mono ?_
                  rintro r w4 ⟨rfl, hx4⟩
                  have HX4 := Lib.hid (HX3.out.trans hx4); clear hx4
                  cases hq : fitsB set ks[k3] with
                  | false =>
                    have HF : Hid (fitsB set (.mk 2 wd n ks) = false) := fits_kid (.inr HFN.out) hlt3 hq
                    clear hq
                    go_wp2_with fail
                    go_ret
                    exact ⟨by rw [HF.out]; rfl, HX.out.trans HX4.out⟩
                  | true =>
                    have HQ := Lib.hid hq; clear hq
                    go_wp2_with fail
                    refine ⟨⟨k3 + 1, by omega, by go_num, HX4.out, fun j h hj => ?_⟩, by simp [intOf]; omega⟩
                    by_cases c : j = k3
                    · subst c; exact HQ.out
                    · exact HR3.out j h (by omega)
                · have HF : Hid (fitsB set (.mk 2 wd n ks) = true) := fits_yes HA.out (.inr HFN.out) fun j h => HR3.out j h (by omega)
                  go_wp2_with fail
                  go_ret
                  exact ⟨by rw [HF.out]; rfl, HX.out.trans HX3.out⟩
        · have hob : (op == 2) = false := by simpa using ho
          have HO := Lib.hid ho; clear ho
          go_wp2_with fail
          go_loopw [7] (fun i w3 => ∃ k : Nat, k ≤ ks.length ∧ i = .int .i64 k ∧ Ext W w3 ∧ ∀ (j : Nat) (h : j < ks.length), j < k → fitsB set ks[j] = true) (fun i _ => ks.length - (intOf i).toNat)
          case atStart => exact ⟨0, Nat.zero_le _, rfl, HX1.out, fun j _ h => absurd h (Nat.not_lt_zero _)⟩
          case round =>
            clear c0 c1 c2 c3
            obtain ⟨k3, hk3, rfl, hX3, hR3⟩ := hrel
            have HX3 := Lib.hid hX3; have HR3 := Lib.hid hR3; clear hX3 hR3
            obtain ⟨c0, c1, c2, c3⟩ := (HV.out.ext HX3.out).cells
            by_cases hlt3 : k3 < ks.length
            · rcases HK.out with ⟨_, e⟩ | ⟨b', o', cap', e, _, hk'⟩
              · rw [e] at hlt3; simp at hlt3
              cases e
              have hE := (hk' k3 hlt3).ext (HX.out.trans HX3.out)
              obtain ⟨g0, g1, g2, kv, g3, hkk⟩ := hE.cells
              obtain ⟨ka, kc, rfl⟩ := SliceAt.shape hkk
              have HE : Hid (EVal _ (.agg #[.int .i64 ks[k3].op, .int .i64 ks[k3].wd, .int .i64 ks[k3].n, .slice ka ks[k3].kids.length kc]) ks[k3]) := ⟨_, rfl, hkk⟩
              clear hkk hk' hE
              go_wp2_with fail
              refine (IH.out ks[k3] _ _ (HSZ.out _ (List.getElem_mem hlt3)) HE.out (HS.out.ext (HX.out.trans HX3.out))).mono ?_
              rintro r w4 ⟨rfl, hx4⟩
              have HX4 := Lib.hid (HX3.out.trans hx4); clear hx4
              cases hq : fitsB set ks[k3] with
              | false =>
                have HF : Hid (fitsB set (.mk op wd n ks) = false) := fits_kid (.inl HO.out) hlt3 hq
                clear hq
                go_wp2_with fail
                go_ret
                exact ⟨by rw [HF.out]; rfl, HX.out.trans HX4.out⟩
              | true =>
                have HQ := Lib.hid hq; clear hq
                go_wp2_with fail
                refine ⟨⟨k3 + 1, by omega, by go_num, HX4.out, fun j h hj => ?_⟩, by simp [intOf]; omega⟩
                by_cases c : j = k3
                · subst c; exact HQ.out
                · exact HR3.out j h (by omega)
            · have HF : Hid (fitsB set (.mk op wd n ks) = true) := fits_yes HA.out (.inl HO.out) fun j h => HR3.out j h (by omega)
              go_wp2_with fail
              go_ret
              exact ⟨by rw [HF.out]; rfl, HX.out.trans HX3.out⟩
end Go.Proofs.YtdancokndklpnaaDoor
