/-
  The walk of states.Of. Printed by gen_of.py out of XOf3.src.
  The numbers of states, digit by digit; expressions at states that agree on the leaves.
  The walks of the reference's Power, Size, Small (XRef1 without arity).
  ref10.Bits.
  The plain side of states.Project: the widths and the numbers of a projection. No program in sight.
  The runs of the last cell of a set of states, in plain words.
  A range over a function whose iterator keeps two variables of its own (one laid ahead of the loop, one when it begins): the law for a body that never leaves the loop.
  The iterator states.runs$1: what it hands over.
-/
import Derived.Test.YtlcgbdjmlnjhcaaGreatDoorG02
import Derived.Test.YtlcgbdjmlnjhcaaGreatDoorG08
import Derived.Test.YtlcgbdjmlnjhcaaGreatDoorG09
import Derived.Test.YtlcgbdjmlnjhcaaGreatDoorG03
import Derived.Test.YtlcgbdjmlnjhcaaGreatDoorG00
import Derived.RangeFuncNested
import Derived.RangeFuncBound
import Derived.RangeFuncCalls
import Derived.RangeFuncLeaves
import Derived.RangeFuncWrites
import Derived.Shelf.Abstract
import Derived.WalkKit
import Derived.OwnWalkIn
import Derived.TacticsInMore
import Derived.LoopNIn
import Derived.LoopIn
import Derived.Maps.AppendAt
import Derived.Sort.CutIn
import Derived.Deep.AppendLies
import Derived.Deep.RegionHeld3
import Derived.Shelf.RegionOpen
namespace Go.Proofs.YtlcgbdjmlnjhcaaGreatDoor
open Go.RowKit

def zeros32 : List Int := List.replicate 32 0
/-- The state with a number. -/
def stN (cs ws : List Int) (n : Nat) : List Int := stateS cs ws (n : Int) zeros32
def supB (list : List Int) (e : E) : Bool := e.supNow.all fun c => list.contains c
def ofErr (cells : List CellD) (list : List Int) (e : E) : Int :=
  if widthsB cells list then if sumI (wOf cells list) ≤ 12 then if e.valid cells false && decide (e.wd = 1) then if supB list e then 0 else 1 else 60 else 2 else 1
def ofIn (cells : List CellD) (list : List Int) (e : E) : List Nat := (List.range (pw (sumI (wOf cells list))).toNat).filter fun n => decide (e.eval (stN list (wOf cells list) n) (stN list (wOf cells list) n) = 1)
def OfPost (cells : List CellD) (list : List Int) (e : E) (w : World) (r : Ending) (w' : World) : Prop :=
  if ofErr cells list e = 0 then SetRes 0 list (wOf cells list) (castL (ofIn cells list e)) w r w' else SetRes (ofErr cells list e) [] [] [] w r w'
theorem OfPost.bad {cells : List CellD} {list : List Int} {e : E} {w w' : World} {k : Int} (h : ofErr cells list e = k) (hk : k ≠ 0) (hx : Ext w w') : OfPost cells list e w (.returned (.tuple #[.agg #[.slice none 0 0, .slice none 0 0, .slice none 0 0], .int .i64 k])) w' := by
  unfold OfPost; rw [h, if_neg hk]; exact ⟨_, rfl, SetO.nil _ _, hx⟩

/-- make([]int, 32). -/
def ints32 : Array Value := (zeros32.map (Value.int .i64)).toArray
theorem made32 : madeCells (Value.int .i64 0).cells (Int.toNat 32 * 1) = ints32 := by kernel_rfl
theorem makeState32 (W : World) : (Instr.makeSlice 35 (.int .i64 32) (.int .i64 32)).run Tryz.prog W = .ok (.slice (some ⟨W.heap.size, 0, none⟩) 32 32) (W.alloc (.cells ints32 3)) := by
  obtain ⟨i, hi, hz⟩ := Option.map_eq_some_iff.1 infoInt
  simp only [Prod.mk.injEq] at hz
  have hr := run_make (P := Tryz.prog) W 35 3 i (.int .i64 0) Tryz.underlying35 hi hz.1 .i64 .i64 32 32 (by omega) (by omega) (by rw [hz.2.2]; decide) (by decide)
  rw [hr, hz.2.1, made32]; rfl
theorem ints32_at {w : World} {b : Nat} (h : w.heap[b]? = some (.cells ints32 3 (0, 0))) : Ints w (.slice (some ⟨b, 0, none⟩) 32 32) zeros32 := by
  refine .inr ⟨b, 0, 32, rfl, by simp [zeros32], fun i hi => ?_⟩
  unfold IntAt
  rw [cell_of_row _ _ _ _ _ _ h, Nat.mul_one, Nat.zero_add]
  unfold ints32
  rw [List.getElem?_toArray, List.getElem?_map, List.getElem?_eq_getElem hi]; rfl
def ofTo (cells : List CellD) (list : List Int) (e : E) (k : Nat) : List Nat := (List.range k).filter fun n => decide (e.eval (stN list (wOf cells list) n) (stN list (wOf cells list) n) = 1)
theorem ofTo_succ (cells : List CellD) (list : List Int) (e : E) (k : Nat) : ofTo cells list e (k + 1) = if e.eval (stN list (wOf cells list) k) (stN list (wOf cells list) k) = 1 then ofTo cells list e k ++ [k] else ofTo cells list e k := by
  unfold ofTo
  rw [List.range_succ, List.filter_append]
  by_cases h : e.eval (stN list (wOf cells list) k) (stN list (wOf cells list) k) = 1 <;> simp [h]
theorem ofTo_lt {cells : List CellD} {list : List Int} {e : E} {k : Nat} (hk : k ≤ 4096) : ∀ x ∈ ofTo cells list e k, x < 4096 := fun x hx => by
  have := List.mem_range.1 (List.mem_filter.1 hx).1; omega
theorem mapL_app (l : List Nat) (n : Nat) : mapL (l ++ [n]) = orAt (mapL l) (n / 64) (1 <<< (n % 64)) := by unfold mapL; rw [List.foldl_append]; rfl
theorem pw12_nat {s : Int} (h0 : 0 ≤ s) (h : s ≤ 12) : ∃ n : Nat, pw s = (n : Int) ∧ n ≤ 4096 := by
  refine ⟨(pw s).toNat, ?_, ?_⟩
  · have : 0 ≤ pw s := by unfold pw; exact Int.pow_nonneg (by decide)
    omega
  · have h1 := pw_mono h0 h
    have e : pw 12 = 4096 := by decide
    omega
/-- slices.Contains. -/
theorem Contains_any (l : List Int) (x : Int) (v : Value) (w : World) (hl : Ints w v l) : Calls Tryz.prog 89 #[v, .int .i64 x] w fun r w' => r = .returned (.bool (l.contains x)) ∧ w' = w := by
  rcases hl with ⟨⟨a, c, rfl⟩, rfl⟩ | ⟨b, o, cap, rfl, hm, hc⟩
  · exact Tryz.slices_Contains_int_empty a c x w
  · have := Tryz.slices_Contains_int b o l.length cap l x w (Nat.le_refl _) hm fun j hj => by
      have := hc j hj; rw [Nat.mul_one] at this; rw [this]; simp [List.getD, hj]
    rw [List.take_length] at this
    exact this

end Go.Proofs.YtlcgbdjmlnjhcaaGreatDoor
namespace Go.Proofs.YtlcgbdjmlnjhcaaGreatDoor
open Go.RowKit

/-- Two pairs of states agree on a leaf. -/
def LeafEq (o1 n1 o2 n2 : List Int) (x : E) : Prop := (x.op = 2 → elemS n1 x.n % pw x.wd = elemS n2 x.n % pw x.wd) ∧ (x.op = 3 → elemS o1 x.n % pw x.wd = elemS o2 x.n % pw x.wd)
theorem shapedW_nokids {op wd n : Int} {ws : List Int} (h : shapedW op wd n ws = true) (ho : op = 2 ∨ op = 3) : ws = [] := by
  unfold shapedW at h
  rw [Bool.and_eq_true, if_neg (by omega), if_pos ho] at h
  simp only [Bool.and_eq_true, decide_eq_true_eq] at h
  exact h.2.1.1
mutual
theorem val_leaf (o1 n1 o2 n2 : List Int) : (e : E) → (d : Nat) → e.deep d = true → (∀ x ∈ e.leaves, LeafEq o1 n1 o2 n2 x) → e.val o1 n1 = e.val o2 n2
  | .mk op wd n ks, d, hd, h => by
    simp only [E.deep, Bool.and_eq_true] at hd
    obtain ⟨⟨_, hs⟩, hk⟩ := hd
    rw [E.val, E.val]
    by_cases c1 : op = 1
    · rw [if_pos c1, if_pos c1]
    · rw [if_neg c1, if_neg c1]
      by_cases c2 : op = 2
      · have := shapedW_nokids hs (.inl c2)
        have hks : ks = [] := List.map_eq_nil_iff.1 this
        subst hks
        rw [leaves_nil] at h
        rw [if_pos c2, if_pos c2]
        exact (h (.mk op wd n []) (by simp)).1 c2
      · rw [if_neg c2, if_neg c2]
        by_cases c3 : op = 3
        · have := shapedW_nokids hs (.inr c3)
          have hks : ks = [] := List.map_eq_nil_iff.1 this
          subst hks
          rw [leaves_nil] at h
          rw [if_pos c3, if_pos c3]
          exact (h (.mk op wd n []) (by simp)).2 c3
        · rw [if_neg c3, if_neg c3]
          have e : valAll o1 n1 ks = valAll o2 n2 ks := by
            by_cases c : ks = []
            · subst c; rfl
            · rw [leaves_cons c] at h
              exact val_leaf_list o1 n1 o2 n2 ks (d - 1) hk h
          rw [e]
theorem val_leaf_list (o1 n1 o2 n2 : List Int) : (ks : List E) → (d : Nat) → deepAll ks d = true → (∀ x ∈ leavesAll ks, LeafEq o1 n1 o2 n2 x) → valAll o1 n1 ks = valAll o2 n2 ks
  | [], _, _, _ => rfl
  | e :: r, d, hd, h => by
    simp only [deepAll, Bool.and_eq_true] at hd
    simp only [leavesAll, List.mem_append] at h
    rw [valAll, valAll, val_leaf o1 n1 o2 n2 e d hd.1 (fun x hx => h x (.inl hx)), val_leaf_list o1 n1 o2 n2 r d hd.2 (fun x hx => h x (.inr hx))]
end
theorem eval_leaf {o1 n1 o2 n2 : List Int} {e : E} (h : ∀ x ∈ e.leaves, LeafEq o1 n1 o2 n2 x) : e.eval o1 n1 = e.eval o2 n2 := by
  unfold E.eval
  split
  · next hw =>
    simp only [E.wf, Bool.and_eq_true] at hw
    exact val_leaf o1 n1 o2 n2 e 40 hw.2 h
  · rfl

section
variable {cs ws : List Int} (hl : cs.length = ws.length) (hw : ∀ x ∈ ws, 1 ≤ x ∧ x ≤ 8) (hinc : incB cs = true) (hb : ∀ i, i < cs.length → 0 ≤ cs.getD i 0 ∧ cs.getD i 0 < 32)
include hl hw
/-- The low bits below a cell. -/
theorem low_le {i k : Nat} (h : i < k) (hk : k ≤ cs.length) : ∃ r, 0 ≤ r ∧ sumI (ws.take k) = sumI (ws.take i) + (ws.getD i 0) + r ∧ 0 ≤ sumI (ws.take i) ∧ 1 ≤ ws.getD i 0 ∧ ws.getD i 0 ≤ 8 := by
  have hg : ws.getD i 0 = ws[i]'(by omega) := by simp [List.getD, show i < ws.length by omega]
  have hx := hw (ws[i]'(by omega)) (List.getElem_mem _)
  have key : ∀ j, i + 1 + j ≤ cs.length → ∃ r, 0 ≤ r ∧ sumI (ws.take (i + 1 + j)) = sumI (ws.take i) + (ws.getD i 0) + r := by
    intro j
    induction j with
    | zero => intro _; exact ⟨0, by omega, by rw [Nat.add_zero, sum_take (show i < ws.length by omega), hg]; omega⟩
    | succ j ih =>
      intro hj
      obtain ⟨r, h0, h1⟩ := ih (by omega)
      have h2 := hw _ (List.getElem_mem (show i + 1 + j < ws.length by omega))
      refine ⟨r + ws[i + 1 + j]'(by omega), by omega, ?_⟩
      rw [← Nat.add_assoc, sum_take (show i + 1 + j < ws.length by omega), h1]; omega
  obtain ⟨r, h0, h1⟩ := key (k - i - 1) (by omega)
  rw [show i + 1 + (k - i - 1) = k by omega] at h1
  exact ⟨r, h0, h1, (sum_bound hw i (by omega)).1, by omega, by omega⟩
theorem num_digit (st : List Int) : ∀ k, k ≤ cs.length → ∀ i, i < k → (numTo cs ws st k).1 / pw (sumI (ws.take i)) % pw (ws.getD i 0) = elemS st (cs.getD i 0) % pw (ws.getD i 0) := by
  intro k
  induction k with
  | zero => intro _ i hi; omega
  | succ k ih =>
    intro hk i hi
    obtain ⟨_, h2, h3⟩ := num_bd st hl hw k (by omega)
    have hlow := num_low st hl k (by omega)
    rw [hlow] at h3
    have hc : cs.getD k 0 = cs[k]'(by omega) := by simp [List.getD, show k < cs.length by omega]
    have hwk : ws.getD k 0 = ws[k]'(by omega) := by simp [List.getD, show k < ws.length by omega]
    have hv : ∃ v, (numTo cs ws st (k + 1)).1 = (numTo cs ws st k).1 + v * pw (sumI (ws.take k)) ∧ v = elemS st (cs.getD k 0) % pw (ws.getD k 0) := by
      refine ⟨_, ?_, rfl⟩
      rw [numTo_succ st hl (by omega)]
      unfold numStep elemS
      dsimp only
      rw [hlow, hc, hwk]
      split
      · rfl
      · next hn =>
        have : st.getD (cs[k]'(by omega)).toNat 0 = 0 := by simp [List.getD, show st.length ≤ (cs[k]'(by omega)).toNat by omega]
        rw [this]; simp
    obtain ⟨v, hv, hv2⟩ := hv
    rw [hv]
    have hq := @pw_pos (sumI (ws.take i))
    by_cases e : i = k
    · subst e
      rw [Int.add_mul_ediv_right _ _ (by omega), Int.ediv_eq_zero_of_lt h2 h3, Int.zero_add, hv2, Int.emod_emod]
    · obtain ⟨r, r0, r1, r2, r3, _⟩ := low_le hl hw (show i < k by omega) (by omega)
      rw [← ih (by omega) i (by omega), r1, pw_add (by omega) r0, pw_add r2 (by omega)]
      rw [show v * (pw (sumI (ws.take i)) * pw (ws.getD i 0) * pw r) = v * pw r * pw (ws.getD i 0) * pw (sumI (ws.take i)) by ac_rfl]
      rw [Int.add_mul_ediv_right _ _ (by omega), Int.add_mul_emod_self_right]
include hinc hb
theorem st_digit (n : Int) (base : List Int) (h32 : base.length = 32) : ∀ k, k ≤ cs.length → (stTo cs ws n base k).1 = n / pw (sumI (ws.take k)) ∧ (stTo cs ws n base k).2.length = 32 ∧
    ∀ i, i < k → elemS (stTo cs ws n base k).2 (cs.getD i 0) = n / pw (sumI (ws.take i)) % pw (ws.getD i 0) := by
  intro k
  induction k with
  | zero => intro _; exact ⟨by simp [stTo, sumI, pw], h32, fun i hi => by omega⟩
  | succ k ih =>
    intro hk
    obtain ⟨h1, h2, h3⟩ := ih (by omega)
    have hc : cs.getD k 0 = cs[k]'(by omega) := by simp [List.getD, show k < cs.length by omega]
    have hwk : ws.getD k 0 = ws[k]'(by omega) := by simp [List.getD, show k < ws.length by omega]
    have hbk := hb k (by omega)
    have hs0 := (sum_bound hw k (by omega)).1
    have hx := hw (ws[k]'(by omega)) (List.getElem_mem _)
    rw [stTo_succ n base hl (by omega)]
    unfold stStep
    dsimp only
    rw [hc] at hbk
    rw [if_pos (by rw [h2]; omega)]
    refine ⟨?_, by rw [List.length_set]; exact h2, fun i hi => ?_⟩
    · rw [h1, sum_take (show k < ws.length by omega), pw_add hs0 (by omega), Int.ediv_ediv_of_nonneg (Int.le_of_lt pw_pos)]
    · unfold elemS at *
      by_cases e : i = k
      · subst e
        rw [hc, hwk, h1]
        simp [List.getD, show (cs[i]'(by omega)).toNat < (stTo cs ws n base i).2.length by rw [h2]; omega]
      · have hlt := inc_all hinc i k (by omega) (by omega)
        have hbi := hb i (by omega)
        rw [hc] at hlt
        rw [← h3 i (by omega)]
        simp only [List.getD, List.getElem?_set]
        rw [if_neg (by simp only [List.getD] at hlt hbi; omega)]
end
theorem st_of_num {cs ws : List Int} (hs : smallB cs ws = true) (st : List Int) {i : Nat} (hi : i < cs.length) : elemS (stN cs ws (numS cs ws st).toNat) (cs.getD i 0) = elemS st (cs.getD i 0) % pw (ws.getD i 0) := by
  obtain ⟨h1, hwd, _, _⟩ := small_sum hs
  obtain ⟨hl, hinc, hin⟩ := shape_iff.1 h1
  have hb := num_bd st hl hwd.2 cs.length (Nat.le_refl _)
  have hN : ((numS cs ws st).toNat : Int) = (numTo cs ws st cs.length).1 := by unfold numS; rw [hs, if_pos rfl]; omega
  unfold stN stateS
  rw [hs, if_pos rfl, hN]
  rw [(st_digit hl hwd.2 hinc (fun i h => ⟨(hin i h).1, (hin i h).2.1⟩) _ zeros32 (by simp [zeros32]) cs.length (Nat.le_refl _)).2.2 i hi]
  exact num_digit hl hwd.2 st cs.length (Nat.le_refl _) i hi
theorem num_lt {cs ws : List Int} (hs : smallB cs ws = true) (st : List Int) : 0 ≤ numS cs ws st ∧ numS cs ws st < pw (sumI ws) := by
  obtain ⟨h1, hwd, _, _⟩ := small_sum hs
  obtain ⟨hl, _, _⟩ := shape_iff.1 h1
  have hb := num_bd st hl hwd.2 cs.length (Nat.le_refl _)
  have hlow := num_low st hl cs.length (Nat.le_refl _)
  rw [hlow, hl, List.take_length] at hb
  unfold numS
  rw [hs, if_pos rfl, hl]
  exact ⟨hb.2.1, hb.2.2⟩
theorem occurs_of {op : Int} {e : E} {x : E} (hx : x ∈ e.leaves) (ho : x.op = op) {j : Nat} (hj : x.n = (j : Int)) : occurs op e.leaves j = true := by
  unfold occurs
  rw [List.any_eq_true]
  exact ⟨x, hx, by rw [Bool.and_eq_true, decide_eq_true_eq, decide_eq_true_eq]; exact ⟨ho, hj⟩⟩
theorem mem_upTo' {f : Nat → Bool} {k j : Nat} (hj : j < k) (hf : f j = true) : (j : Int) ∈ upTo f k := by
  unfold upTo
  exact List.mem_map.2 ⟨j, List.mem_filter.2 ⟨List.mem_range.2 hj, hf⟩, rfl⟩
/-- A leaf that is a cell of the list, at the number's state and at the state. -/
theorem leaf_num {cells : List CellD} {list : List Int} {pr : Bool} (hs : smallB list (wOf cells list) = true) {x : E} (hok : okLeaf cells pr x = true) (h1 : x.op ≠ 1) (hmem : x.n ∈ list) (st : List Int) :
    elemS (stN list (wOf cells list) (numS list (wOf cells list) st).toNat) x.n % pw x.wd = elemS st x.n % pw x.wd := by
  obtain ⟨i, hi, hn⟩ := List.getElem_of_mem hmem
  have hg : list.getD i 0 = x.n := by simp [List.getD, hi, hn]
  unfold okLeaf at hok
  simp only [Bool.or_eq_true, Bool.and_eq_true, decide_eq_true_eq] at hok
  rcases hok with c | c
  · exact absurd c h1
  have hwi : (wOf cells list).getD i 0 = x.wd := by
    have e : (cells.map CellD.W).getD x.n.toNat 0 = x.wd := c.1.2
    unfold wOf
    simp only [List.getD, List.getElem?_map, List.getElem?_eq_getElem hi, Option.map_some, Option.getD_some, hn] at e ⊢
    unfold wAt
    simpa using e
  have := st_of_num hs st hi
  rw [hg, hwi] at this
  rw [this, Int.emod_emod]
end Go.Proofs.YtlcgbdjmlnjhcaaGreatDoor
namespace Go.Proofs.YtlcgbdjmlnjhcaaGreatDoor
open Go.RowKit

theorem pow_bd (k : Nat) (h : k ≤ 20) : 0 < (2 : Int) ^ k ∧ (2 : Int) ^ k ≤ 1048576 := by
  have h1 := Nat.pow_le_pow_right (n := 2) (by decide) h
  have e : ((2 : Int) ^ k) = ((2 ^ k : Nat) : Int) := by simp
  have h2 := Nat.two_pow_pos k
  rw [e]
  omega

set_option maxHeartbeats 400000 in
theorem Power_any (n : Int) (w : World) (h : n ≤ 20) : Calls Tryz.prog 103 #[.int .i64 n] w fun e w' => e = .returned (.int .i64 (pw n)) ∧ w = w' := by
  go_enter Tryz.func103, Tryz.ntmps103
  go_wp2
  go_loop [3, 4] (fun o i => ∃ (k : Nat) (p : Int), (k = 0 ∨ (k : Int) ≤ n) ∧ i = .int .i64 k ∧ o = .int .i64 p ∧ Hid (p = 2 ^ k)) (fun _ i => n.toNat - (intOf i).toNat)
  case atStart => exact ⟨0, 1, .inl rfl, rfl, rfl, by simp [Hid]⟩
  case round =>
    obtain ⟨k, p, hk, rfl, rfl, hp⟩ := hrel
    have hb : 0 < p ∧ p ≤ 1048576 := by rw [hp.out]; exact pow_bd k (by omega)
    obtain ⟨hb1, hb2⟩ := hb
    by_cases hlt : (k : Int) < n
    · go_wp2
      go_round
      case rel => exact ⟨k + 1, _, .inr (by omega), by go_num, rfl, by unfold Hid; rw [Int.pow_succ, ← hp.out]⟩
      case measure => simp [intOf]; omega
    · go_wp2
      go_ret
      refine ⟨?_, rfl⟩
      have : n.toNat = k := by omega
      rw [pw, this, ← hp.out]; rfl
/-- What the reference's Size computes. -/
def sizeLim (s : Nat) (l : Int) : Int := if l ≤ 0 then 0 else if (s : Int) ≤ l then s else l

theorem sizeAll_snoc {ks : List E} {k : Nat} (h : k < ks.length) : sizeAll (ks.take (k + 1)) = sizeAll (ks.take k) + ks[k].size := by
  rw [sizeAll_eq, sizeAll_eq, List.take_succ_eq_append_getElem h, List.map_append, List.sum_append]
  simp only [List.map_cons, List.map_nil, List.sum_cons, List.sum_nil, Nat.add_zero]
theorem sizeAll_take (ks : List E) (k : Nat) : sizeAll (ks.take k) ≤ sizeAll ks := by
  have : ks = ks.take k ++ ks.drop k := (List.take_append_drop k ks).symm
  rw [sizeAll_eq, sizeAll_eq]
  conv => rhs; rw [this, List.map_append, List.sum_append]
  omega
theorem sizeLim_pos {s : Nat} {l : Int} (h : 0 < l) : sizeLim s l = if (s : Int) ≤ l then (s : Int) else l := by unfold sizeLim; rw [if_neg (by omega)]
theorem sizeLim_step {s t : Nat} {l : Int} (h : sizeLim s l < l) (h1 : 0 < l) : sizeLim (s + t) l = sizeLim s l + sizeLim t (l - sizeLim s l) := by
  have e : sizeLim s l = s := by
    rw [sizeLim_pos h1] at h ⊢
    split at h
    · rename_i c; rw [if_pos c]
    · omega
  rw [e] at h ⊢
  rw [sizeLim_pos h1, sizeLim_pos (by omega)]
  by_cases c : ((t : Nat) : Int) ≤ l - s
  · rw [if_pos c, if_pos (by omega)]; omega
  · rw [if_neg c, if_neg (by omega)]; omega
theorem sizeLim_stay {s t : Nat} {l : Int} (h : ¬ sizeLim s l < l) (h1 : 0 < l) : sizeLim (s + t) l = sizeLim s l := by
  rw [sizeLim_pos h1] at h ⊢
  rw [sizeLim_pos h1]
  split at h <;> split <;> omega
theorem sizeLim_bd (s : Nat) (l : Int) (h : 0 < l) : 0 ≤ sizeLim s l ∧ sizeLim s l ≤ l := by
  unfold sizeLim; rw [if_neg (by omega)]; split <;> omega

set_option maxHeartbeats 1000000 in
theorem RSize_any (N : Nat) : ∀ (e : E) (v : Value) (w : World) (l : Int), e.size ≤ N → EVal w v e → -10000 ≤ l → l ≤ 10000 →
    Calls Tryz.prog 47 #[v, .int .i64 l] w fun r w' => r = .returned (.int .i64 (sizeLim e.size l)) ∧ Ext w w' := by
  induction N with
  | zero => intro e v w l h; have := e.size_pos; omega
  | succ N ih =>
    intro e v w l hN he hl0 hl1
    obtain ⟨kv, rfl, hk⟩ := he
    obtain ⟨op, wd, n, ks⟩ := e
    simp only [E.op_mk, E.wd_mk, E.n_mk, E.kids_mk] at hk ⊢
    obtain ⟨a, cap, rfl⟩ := SliceAt.shape hk
    have hlen : ks.length ≤ 9223372036854775807 := SliceAt.len_le hk
    have IH := Lib.hid ih; have HK := Lib.hid hk; clear ih hk
    by_cases hl : l ≤ 0
    · have HF : Hid (sizeLim (E.mk op wd n ks).size l = 0) := by unfold Hid sizeLim; rw [if_pos hl]
      go_enter Tryz.func47, Tryz.ntmps47
      go_wp2_with fail
      go_ret
      exact ⟨by rw [HF.out]; rfl, (Ext.refl w).alloc _⟩
    · go_enter Tryz.func47, Tryz.ntmps47
      go_wp2_with fail
      go_loopw [5, 6] (fun m i wr => ∃ (k : Nat) (x : Int), k ≤ ks.length ∧ i = .int .i64 k ∧ m = .int .i64 x ∧ Hid (x = sizeLim (1 + sizeAll (ks.take k)) l) ∧ Ext (w.alloc (.cells #[.int .i64 op, .int .i64 wd, .int .i64 n, .slice a ks.length cap] 25)) wr) (fun _ i _ => ks.length - (intOf i).toNat)
      case atStart => exact ⟨0, 1, Nat.zero_le _, rfl, rfl, by unfold Hid sizeLim; simp [sizeAll]; omega, Ext.refl _⟩
      case round =>
        obtain ⟨k, x, hk, rfl, rfl, hx, hX⟩ := hrel
        have hbd : 0 ≤ x ∧ x ≤ l := by rw [hx.out]; exact sizeLim_bd _ _ (by omega)
        obtain ⟨hb0, hb1⟩ := hbd
        have c3 : wr.cell? ⟨w.heap.size, 3, none⟩ = some (.slice a ks.length cap) := hX.cell (by simp)
        have HX := Lib.hid hX; clear hX
        by_cases hlt : k < ks.length
        · by_cases hm : x < l
          · rcases HK.out with ⟨_, e⟩ | ⟨b', o', cap', e, _, hk'⟩
            · rw [e] at hlt; simp at hlt
            cases e
            have hE := (hk' k hlt).ext (((Ext.refl w).alloc _).trans HX.out)
            obtain ⟨g0, g1, g2, kv, g3, hkk⟩ := hE.cells
            obtain ⟨ka, kc, rfl⟩ := SliceAt.shape hkk
            have hin : ks[k] ∈ ks := List.getElem_mem hlt
            have hsz : ks[k].size ≤ N := by have := size_kid (op := op) (wd := wd) (n := n) hin; omega
            have HE : Hid (EVal wr (.agg #[.int .i64 ks[k].op, .int .i64 ks[k].wd, .int .i64 ks[k].n, .slice ka ks[k].kids.length kc]) ks[k]) := ⟨_, rfl, hkk⟩
            have HS := Lib.hid (sizeAll_snoc hlt)
            clear hkk hk' hE
            have hd : decide (x < l) = true := by simpa using hm
            go_wp2_with fail
            refine (IH.out _ _ _ _ hsz HE.out (by omega) (by omega)).mono ?_
            rintro r w1 ⟨rfl, hx1⟩
            have hq := sizeLim_bd ks[k].size (l - x) (by omega)
            have HQ : Hid (x + sizeLim ks[k].size (l - x) = sizeLim (1 + sizeAll (ks.take (k + 1))) l) := by
              unfold Hid
              rw [HS.out, ← Nat.add_assoc, sizeLim_step (by rw [← hx.out]; exact hm) (by omega), ← hx.out]
            have HX1 := Lib.hid (HX.out.trans hx1); clear hx1
            generalize sizeLim ks[k].size (l - x) = q at *
            obtain ⟨hq0, hq1⟩ := hq
            go_wp2_with fail
            exact ⟨⟨k + 1, _, by omega, by go_num, rfl, HQ, HX1.out⟩, by simp [intOf]; omega⟩
          · have hd : decide (x < l) = false := by simpa using hm
            have HF : Hid (x = sizeLim (E.mk op wd n ks).size l) := by
              unfold Hid
              have h1 := hx.out
              have h2 := sizeAll_take ks k
              have : (E.mk op wd n ks).size = (1 + sizeAll (ks.take k)) + (sizeAll ks - sizeAll (ks.take k)) := by simp only [E.size]; omega
              rw [this, sizeLim_stay (by rw [← h1]; exact hm) (by omega)]; exact h1
            go_wp2_with fail
            go_ret
            exact ⟨by rw [← HF.out]; rfl, ((Ext.refl w).alloc _).trans HX.out⟩
        · have HF : Hid (x = sizeLim (E.mk op wd n ks).size l) := by
            unfold Hid
            obtain rfl : k = ks.length := by omega
            have := hx.out
            rw [List.take_length] at this
            exact this
          go_wp2_with fail
          go_ret
          exact ⟨by rw [← HF.out]; rfl, ((Ext.refl w).alloc _).trans HX.out⟩

set_option maxHeartbeats 400000 in
theorem RSmall_any (e : E) (v : Value) (w : World) (l : Int) (he : EVal w v e) (h0 : 0 ≤ l) (h1 : l ≤ 1000) :
    Calls Tryz.prog 14 #[v, .int .i64 l] w fun r w' => r = .returned (.bool (decide ((e.size : Int) ≤ l))) ∧ Ext w w' := by
  obtain ⟨kv, rfl, hk⟩ := he
  obtain ⟨a, cap, rfl⟩ := SliceAt.shape hk
  have HK := Lib.hid hk; clear hk
  go_enter Tryz.func14, Tryz.ntmps14
  go_wp2_with fail
  refine (RSize_any e.size e _ _ (l + 1) (Nat.le_refl _) ⟨_, rfl, HK.out.ext ((Ext.refl w).alloc _)⟩ (by omega) (by omega)).mono ?_
  rintro r w1 ⟨rfl, hx1⟩
  have HX := Lib.hid (((Ext.refl w).alloc _).trans hx1)
  have HF : Hid (decide (sizeLim e.size (l + 1) ≤ l) = decide ((e.size : Int) ≤ l)) := by
    unfold Hid sizeLim; rw [if_neg (by omega)]; split <;> simp only [decide_eq_decide] <;> omega
  clear hx1
  go_wp2_with fail
  go_ret
  exact ⟨by rw [← HF.out]; rfl, HX.out⟩
end Go.Proofs.YtlcgbdjmlnjhcaaGreatDoor
namespace Go.Proofs.YtlcgbdjmlnjhcaaGreatDoor
open Go.RowKit

structure BitOk (cs ws : List Int) (k : Nat) : Prop where
  bd : ∀ i, i < k → 0 ≤ cs.getD i 0 ∧ cs.getD i 0 < 32 ∧ 1 ≤ ws.getD i 0 ∧ ws.getD i 0 ≤ 8
  inc : ∀ i, i + 1 < k → cs.getD i 0 < cs.getD (i + 1) 0
/-- What Bits computes. -/
def bitsI (cs ws : List Int) (most : Int) : Int := if shapeB cs ws = true ∧ sumI ws ≤ most then sumI ws else -1
theorem shape_len {cs ws : List Int} (h : shapeB cs ws = true) : cs.length ≤ 32 := by
  obtain ⟨_, h2, h3⟩ := shape_iff.1 h
  have key : ∀ i, i < cs.length → (i : Int) ≤ cs.getD i 0 := by
    intro i
    induction i with
    | zero => intro hi; have := (h3 0 hi).1; omega
    | succ i ih => intro hi; have := ih (by omega); have := inc_iff.1 h2 i hi; omega
  rcases Nat.eq_zero_or_pos cs.length with h0 | h0
  · omega
  · have h4 := key (cs.length - 1) (by omega)
    have h5 := (h3 (cs.length - 1) (by omega)).2.1
    omega
theorem shape_ok {cs ws : List Int} : shapeB cs ws = true ↔ cs.length = ws.length ∧ BitOk cs ws cs.length := by
  rw [shape_iff, inc_iff]
  exact ⟨fun ⟨a, b, c⟩ => ⟨a, c, b⟩, fun ⟨a, c⟩ => ⟨a, c.inc, c.bd⟩⟩
theorem bits_no {cs ws : List Int} {most : Int} (h : ¬ shapeB cs ws = true) : bitsI cs ws most = -1 := by unfold bitsI; rw [if_neg (fun c => h c.1)]
theorem BitOk.zero (cs ws : List Int) : BitOk cs ws 0 := ⟨fun i h => absurd h (by omega), fun i h => absurd h (by omega)⟩
theorem bitok_sum {cs ws : List Int} {k : Nat} (h : BitOk cs ws k) (hk : k ≤ ws.length) : 0 ≤ sumI (ws.take k) ∧ sumI (ws.take k) ≤ 8 * k := by
  have hb : ∀ x ∈ ws.take k, 1 ≤ x ∧ x ≤ 8 := by
    intro x hx
    obtain ⟨i, hi, rfl⟩ := List.getElem_of_mem hx
    have hi2 := hi
    rw [List.length_take] at hi2
    have := h.bd i (by omega)
    have e : (ws.take k)[i] = ws.getD i 0 := by simp [List.getD, show i < ws.length by omega]
    rw [e]; exact this.2.2
  have h2 := sum_bound hb (ws.take k).length (Nat.le_refl _)
  rw [List.take_length, List.length_take] at h2
  have : min k ws.length = k := by omega
  rw [this] at h2; exact h2
theorem shape_sum0 {cs ws : List Int} (h : shapeB cs ws = true) : 0 ≤ sumI ws := by
  have := (sum_bound (shape_widths h).2 ws.length (Nat.le_refl _)).1
  rw [List.take_length] at this; exact this
theorem small_of {cs ws : List Int} (h : shapeB cs ws = true) (h2 : sumI ws ≤ 12) : smallB cs ws = true := by unfold smallB; rw [h, decide_eq_true h2]; rfl
end Go.Proofs.YtlcgbdjmlnjhcaaGreatDoor
namespace Go.Proofs.YtlcgbdjmlnjhcaaGreatDoor
open Go.RowKit

/-- The width of a cell of a shape. -/
def wdOf (cs ws : List Int) (c : Int) : Int := ws.getD (cs.countP fun x => decide (x < c)) 0
def wPr (cs ws list : List Int) : List Int := list.map (wdOf cs ws)
def subB (cs list : List Int) : Bool := list.all fun c => cs.contains c
def prB (cs ws is list : List Int) : Bool := validB cs ws is && incB list && subB cs list
/-- The number of the projection of a state that has a number. -/
def prN (cs ws list : List Int) (n : Nat) : Nat := (numS list (wPr cs ws list) (stN cs ws n)).toNat
def prL (cs ws : List Int) (S : List Nat) (list : List Int) : List Nat := listM (mapL (S.map (prN cs ws list)))
theorem inc_pw {l : List Int} (h : incB l = true) : l.Pairwise (· < ·) := by
  rw [List.pairwise_iff_getElem]
  intro i j hi hj hij
  have := inc_all h i j hij hj
  simpa [List.getD, hi, hj] using this
theorem pw_inc {l : List Int} (h : l.Pairwise (· < ·)) : incB l = true := by
  rw [inc_iff]
  intro i hi
  have := List.pairwise_iff_getElem.1 h i (i + 1) (by omega) hi (by omega)
  simpa [List.getD, hi, show i < l.length by omega] using this
theorem count_none {l : List Int} {x : Int} (h : ∀ y ∈ l, x ≤ y) : (l.countP fun y => decide (y < x)) = 0 := by
  rw [List.countP_eq_zero]
  intro y hy
  have := h y hy
  simp; omega
theorem count_at : ∀ {l : List Int}, l.Pairwise (· < ·) → ∀ {i : Nat}, i < l.length → (l.countP fun y => decide (y < l.getD i 0)) = i := by
  intro l
  induction l with
  | nil => intro _ i hi; simp at hi
  | cons a r ih =>
    intro h i hi
    rw [List.pairwise_cons] at h
    cases i with
    | zero =>
      apply count_none
      intro y hy
      rcases List.mem_cons.1 hy with rfl | hy
      · exact Int.le_refl _
      · exact Int.le_of_lt (h.1 y hy)
    | succ i =>
      have hi' : i < r.length := by simpa using hi
      have e : (a :: r).getD (i + 1) 0 = r.getD i 0 := by simp [List.getD]
      rw [e, List.countP_cons, ih h.2 hi']
      have : a < r.getD i 0 := h.1 _ (by rw [List.getD_eq_getElem?_getD, List.getElem?_eq_getElem hi']; exact List.getElem_mem hi')
      rw [decide_eq_true this]; rfl
theorem wd_at {cs ws : List Int} (h : incB cs = true) {i : Nat} (hi : i < cs.length) : wdOf cs ws (cs.getD i 0) = ws.getD i 0 := by
  unfold wdOf
  rw [count_at (inc_pw h) hi]
theorem mem_idx {cs : List Int} {c : Int} (h : c ∈ cs) : ∃ i, i < cs.length ∧ cs.getD i 0 = c := by
  obtain ⟨i, hi, e⟩ := List.getElem_of_mem h
  exact ⟨i, hi, by simp [List.getD, hi, e]⟩
theorem sub_mem {cs list : List Int} (h : subB cs list = true) {c : Int} (hc : c ∈ list) : c ∈ cs := by
  unfold subB at h
  rw [List.all_eq_true] at h
  exact List.contains_iff_mem.1 (h c hc)
theorem sumI_cons (a : Int) (r : List Int) : sumI (a :: r) = a + sumI r := by
  have key : ∀ (l : List Int) (x : Int), l.foldl (· + ·) x = x + l.foldl (· + ·) 0 := by
    intro l
    induction l with
    | nil => intro x; simp
    | cons b s ih => intro x; simp only [List.foldl_cons]; rw [ih, ih (0 + b)]; omega
  unfold sumI
  rw [List.foldl_cons, key]; omega
theorem sumI_nil : sumI [] = 0 := rfl
theorem sum_sub {f : Int → Int} : ∀ (cs list : List Int), cs.Pairwise (· < ·) → list.Pairwise (· < ·) → (∀ c ∈ cs, 0 ≤ f c) → (∀ c ∈ list, c ∈ cs) → sumI (list.map f) ≤ sumI (cs.map f) := by
  intro cs
  induction cs with
  | nil =>
    intro list _ _ _ h
    cases list with
    | nil => exact Int.le_refl _
    | cons b t => exact absurd (h b (by simp)) (by simp)
  | cons a r ih =>
    intro list hc hl hf h
    rw [List.pairwise_cons] at hc
    have hfa := hf a (by simp)
    cases list with
    | nil =>
      have := ih [] hc.2 List.Pairwise.nil (fun c hcc => hf c (by simp [hcc])) (fun c hcc => absurd hcc (by simp))
      rw [List.map_cons, sumI_cons]; simp only [List.map_nil] at *; omega
    | cons b t =>
      rw [List.pairwise_cons] at hl
      by_cases e : b = a
      · subst e
        have := ih t hc.2 hl.2 (fun c hcc => hf c (by simp [hcc])) (fun c hcc => by
          rcases List.mem_cons.1 (h c (by simp [hcc])) with e | e
          · have := hl.1 c hcc; omega
          · exact e)
        rw [List.map_cons, List.map_cons, sumI_cons, sumI_cons]; omega
      · have hb : b ∈ r := by
          rcases List.mem_cons.1 (h b (by simp)) with e' | e'
          · exact absurd e' e
          · exact e'
        have := ih (b :: t) hc.2 (List.pairwise_cons.2 hl) (fun c hcc => hf c (by simp [hcc])) (fun c hcc => by
          rcases List.mem_cons.1 (h c hcc) with e' | e'
          · exfalso
            have h1 := hc.1 b hb
            rcases List.mem_cons.1 hcc with e2 | e2
            · omega
            · have := hl.1 c e2; omega
          · exact e')
        rw [List.map_cons (l := r), sumI_cons]; omega
theorem map_wd {cs ws : List Int} (h : incB cs = true) (hl : cs.length = ws.length) : cs.map (wdOf cs ws) = ws := by
  apply List.ext_getElem (by simp [hl])
  intro i h1 h2
  have hi : i < cs.length := by simpa using h1
  have := wd_at (ws := ws) h hi
  simpa [List.getD, hi, h2] using this
theorem wPr_len (cs ws list : List Int) : (wPr cs ws list).length = list.length := by simp [wPr]
theorem pr_small {cs ws list : List Int} (h : smallB cs ws = true) (hi : incB list = true) (hs : subB cs list = true) : smallB list (wPr cs ws list) = true := by
  obtain ⟨h1, hw, hs0, hs12⟩ := small_sum h
  obtain ⟨hl, hinc, hin⟩ := shape_iff.1 h1
  refine small_of (shape_iff.2 ⟨(wPr_len _ _ _).symm, hi, fun i hi' => ?_⟩) ?_
  · have hm : list.getD i 0 ∈ list := by rw [List.getD_eq_getElem?_getD, List.getElem?_eq_getElem hi']; exact List.getElem_mem hi'
    obtain ⟨j, hj, e⟩ := mem_idx (sub_mem hs hm)
    have hb := hin j hj
    have hwd : (wPr cs ws list).getD i 0 = wdOf cs ws (list.getD i 0) := by simp [wPr, List.getD, hi']
    rw [hwd, ← e, wd_at hinc hj]
    exact hb
  · have hle := sum_sub (f := wdOf cs ws) cs list (inc_pw hinc) (inc_pw hi) (fun c hc => by
      obtain ⟨j, hj, e⟩ := mem_idx hc
      rw [← e, wd_at hinc hj]; have := hin j hj; omega) (fun c hc => sub_mem hs hc)
    rw [map_wd hinc hl] at hle
    exact Int.le_trans hle hs12
theorem prN_lt {cs ws list : List Int} (h : smallB list (wPr cs ws list) = true) (n : Nat) : prN cs ws list n < 4096 ∧ ((prN cs ws list n : Nat) : Int) = numS list (wPr cs ws list) (stN cs ws n) ∧ ((prN cs ws list n : Nat) : Int) < pw (sumI (wPr cs ws list)) := by
  have h1 := num_lt h (stN cs ws n)
  obtain ⟨_, _, hs0, hs12⟩ := small_sum h
  have h2 := pw_mono hs0 hs12
  have e : pw 12 = 4096 := by decide
  unfold prN
  omega
theorem mem_prL {cs ws list : List Int} (h : smallB list (wPr cs ws list) = true) (S : List Nat) {x : Nat} : x ∈ prL cs ws S list ↔ ∃ n ∈ S, prN cs ws list n = x := by
  unfold prL
  have hb : ∀ y ∈ S.map (prN cs ws list), y < 4096 := fun y hy => by
    obtain ⟨n, _, rfl⟩ := List.mem_map.1 hy
    exact (prN_lt h n).1
  rw [mem_listM, bit_mapL_at hb, decide_eq_true_eq, List.mem_map]
  exact ⟨fun h => h.2, fun h' => ⟨hb x (List.mem_map.2 h'), h'⟩⟩
theorem pr_valid {cs ws list : List Int} (h : smallB list (wPr cs ws list) = true) (S : List Nat) : ValidS list (wPr cs ws list) (prL cs ws S list) :=
  ⟨h, listM_sorted _, fun x hx => by
    obtain ⟨n, _, rfl⟩ := (mem_prL h S).1 hx
    exact (prN_lt h n).2.2⟩
end Go.Proofs.YtlcgbdjmlnjhcaaGreatDoor
namespace Go.Proofs.YtlcgbdjmlnjhcaaGreatDoor
open Go.RowKit

/-- The elements whose last cell is v, without that cell; those from v on. -/
def grp (low : Nat) (is : List Nat) (v : Nat) : List Nat := is.filter fun x => decide (x / 2 ^ low = v)
def part (low : Nat) (is : List Nat) (v : Nat) : List Nat := (grp low is v).map fun x => x % 2 ^ low
def rest (low : Nat) (is : List Nat) (v : Nat) : List Nat := is.filter fun x => decide (v ≤ x / 2 ^ low)
theorem rest_zero (low : Nat) (is : List Nat) : rest low is 0 = is := by unfold rest; simp
theorem rest_split (low : Nat) {is : List Nat} (h : is.Pairwise (· < ·)) (v : Nat) : rest low is v = grp low is v ++ rest low is (v + 1) := by
  induction is with
  | nil => rfl
  | cons a r ih =>
    rw [List.pairwise_cons] at h
    have ih := ih h.2
    unfold rest grp at *
    simp only [List.filter_cons]
    by_cases c1 : a / 2 ^ low = v
    · rw [if_pos (by simp [c1]), if_pos (by simp [c1]), if_neg (by simp [c1]), ih]; rfl
    · by_cases c2 : v ≤ a / 2 ^ low
      · have hnil : r.filter (fun x => decide (x / 2 ^ low = v)) = [] := by
          rw [List.filter_eq_nil_iff]
          intro x hx hc
          simp only [decide_eq_true_eq] at hc
          have := Nat.div_le_div_right (c := 2 ^ low) (Nat.le_of_lt (h.1 x hx))
          omega
        rw [if_pos (by simpa using c2), if_neg (by simpa using c1), if_pos (by simp; omega), hnil]
        rw [hnil] at ih
        rw [ih]; rfl
      · rw [if_neg (by simpa using c2), if_neg (by simpa using c1), if_neg (by simp; omega), ih]
theorem rest_head {low : Nat} {is : List Nat} (h : is.Pairwise (· < ·)) (v j : Nat) : (j < (grp low is v).length → ∃ x, ((rest low is v).drop j) = x :: ((rest low is v).drop (j + 1)) ∧ x / 2 ^ low = v ∧ x ∈ is ∧ (part low is v).take (j + 1) = (part low is v).take j ++ [x % 2 ^ low]) ∧
    (∀ x r, (rest low is v).drop (grp low is v).length = x :: r → ¬ x / 2 ^ low = v) ∧ (rest low is v).drop (grp low is v).length = rest low is (v + 1) := by
  have hd : (rest low is v).drop (grp low is v).length = rest low is (v + 1) := by rw [rest_split low h v]; simp
  refine ⟨fun hj => ?_, fun x r e c => ?_, hd⟩
  · have hm : (grp low is v)[j] ∈ grp low is v := List.getElem_mem hj
    have hm2 := hm
    unfold grp at hm2
    rw [List.mem_filter, decide_eq_true_eq] at hm2
    refine ⟨(grp low is v)[j], ?_, hm2.2, hm2.1, ?_⟩
    · have hl : j < (rest low is v).length := by rw [rest_split low h v, List.length_append]; omega
      rw [List.drop_eq_getElem_cons hl]
      congr 1
      simp only [rest_split low h v]
      rw [List.getElem_append_left hj]
    · unfold part
      rw [List.take_succ_eq_append_getElem (by rw [List.length_map]; exact hj), List.getElem_map]
  · rw [hd] at e
    have : x ∈ rest low is (v + 1) := by rw [e]; simp
    unfold rest at this
    rw [List.mem_filter, decide_eq_true_eq] at this
    omega
theorem part_len (low : Nat) (is : List Nat) (v : Nat) : (part low is v).length = (grp low is v).length := by unfold part; rw [List.length_map]
theorem grp_len (low : Nat) (is : List Nat) (v : Nat) : (grp low is v).length ≤ is.length := List.length_filter_le _ _
/-- The runs from a value on, behind a current one. -/
def runsF (low : Nat) (is : List Nat) : Nat → Nat → Nat × List Nat → List (Nat × List Nat)
  | 0, _, cur => [cur]
  | m + 1, v, cur => if part low is v = cur.2 then runsF low is m (v + 1) (v, part low is v) else cur :: runsF low is m (v + 1) (v, part low is v)
def runsL (low w : Nat) (is : List Nat) : List (Nat × List Nat) := runsF low is (2 ^ w - 1) 1 (0, part low is 0)
theorem runsF_len (low : Nat) (is : List Nat) : ∀ (m v : Nat) (cur : Nat × List Nat), (runsF low is m v cur).length ≤ m + 1 := by
  intro m
  induction m with
  | zero => intro v cur; simp [runsF]
  | succ m ih =>
    intro v cur
    unfold runsF
    split
    · have := ih (v + 1) (v, part low is v); omega
    · have := ih (v + 1) (v, part low is v); simp; omega
end Go.Proofs.YtlcgbdjmlnjhcaaGreatDoor
namespace Go.Proofs.YtlcgbdjmlnjhcaaGreatDoor
open Go.RowKit Go.Shelf

/-- A step of the iterator: of what lies there its own blocks alone may turn. -/
structure StepX (X : Nat → Prop) (A B : World) : Prop where
  os : B.os = A.os
  tape : B.tape = A.tape
  output : B.output = A.output
  size : A.heap.size ≤ B.heap.size
  block : ∀ k, k < A.heap.size → ¬ X k → B.heap[k]? = A.heap[k]?
theorem StepX.refl (X : Nat → Prop) (A : World) : StepX X A A := ⟨rfl, rfl, rfl, Nat.le_refl _, fun _ _ _ => rfl⟩
theorem StepX.trans {X : Nat → Prop} {A B C : World} (h : StepX X A B) (k : StepX X B C) : StepX X A C :=
  ⟨k.os.trans h.os, k.tape.trans h.tape, k.output.trans h.output, Nat.le_trans h.size k.size, fun i hi hx => (k.block i (Nat.lt_of_lt_of_le hi h.size) hx).trans (h.block i hi hx)⟩
theorem StepX.below {X : Nat → Prop} {A B C : World} (h : StepX X A B) (k : Below B.heap.size B C) : StepX X A C :=
  ⟨k.os.trans h.os, k.tape.trans h.tape, k.output.trans h.output, Nat.le_trans h.size k.size, fun i hi hx => (k.block i (Nat.lt_of_lt_of_le hi h.size)).trans (h.block i hi hx)⟩
theorem StepX.setCell {X : Nat → Prop} {A B : World} (h : StepX X A B) {p : Addr} (hp : X p.block) (v : Value) : StepX X A (B.setCell p v) :=
  ⟨h.os, h.tape, h.output, by have := h.size; simpa [World.setCell] using this, fun i hi hx => by
    rw [← h.block i hi hx]
    exact heap_setCell_other B p i v (fun e => hx (e ▸ hp))⟩
/-- The round keeps the blocks of cells that lay there ahead of the loop, are the iterator's, or of no type of the round's own. -/
structure KeepT (n₀ : Nat) (T : TypeId → Prop) (X : Nat → Prop) (A B : World) : Prop where
  size : A.heap.size ≤ B.heap.size
  same : ∀ (k : Nat) (cs : Array Value) (t : TypeId) (fr : Nat × Nat), A.heap[k]? = some (.cells cs t fr) → (k < n₀ ∨ X k ∨ ¬ T t) → B.heap[k]? = some (.cells cs t fr)
theorem KeepT.refl (n₀ : Nat) (T : TypeId → Prop) (X : Nat → Prop) (A : World) : KeepT n₀ T X A A := ⟨Nat.le_refl _, fun _ _ _ _ h _ => h⟩
theorem KeepT.trans {n₀ : Nat} {T : TypeId → Prop} {X : Nat → Prop} {A B C : World} (h : KeepT n₀ T X A B) (k : KeepT n₀ T X B C) : KeepT n₀ T X A C :=
  ⟨Nat.le_trans h.size k.size, fun i cs t fr hi hx => k.same i cs t fr (h.same i cs t fr hi hx) hx⟩
theorem KeepT.putObj {n₀ : Nat} {T : TypeId → Prop} {X : Nat → Prop} (A : World) {l : Nat} {o : Obj} (o' : Obj) (hl : A.heap[l]? = some o) (ho : o.isCells = false) : KeepT n₀ T X A (A.putObj l o') :=
  ⟨by simp, fun k cs t fr hk _ => by
    have hne : k ≠ l := fun e => by subst e; rw [hk] at hl; cases hl; cases ho
    exact (World.putObj_heap_other hne).trans hk⟩

/-- The iterator's contract: it hands over the values of a list that S describes, each good where it is handed over; between two rounds its own two variables turn, inb and the block that it lays first. -/
def GivesX {α : Type} (F : Fence) (n : Nat) (P : Program) (g : Nat) (lb : Array Value) (encs : α → Array Value) (T : TypeId → Prop) (Good : Nat → α → World → Prop) (inb : Nat) (S : List α → Prop) (N : Nat) (w : World) : Prop :=
  ∀ (l : Nat) (J : List α → World → Prop) (W : World), Below w.heap.size w W →
    (∀ s A B, J s A → StepX (fun k => k = inb ∨ k = W.heap.size) A B → J s B) →
    (∀ pre x W1, J pre W1 → Good W.heap.size x W1 → pre.length < N → W.heap.size + 1 ≤ W1.heap.size → YieldAt F (n - 1) P l (encs x) W1 fun e W' => e = .returned (.bool true) ∧ J (pre ++ [x]) W' ∧ KeepT w.heap.size T (fun k => k = inb ∨ k = W.heap.size) W1 W') →
    J [] W →
    CallsIn F n P g (#[.func (.yield l) #[] #[]] ++ lb) W fun e W' => (∃ v, e = .returned v) ∧ ∃ xs, S xs ∧ J xs W'

/-- How a body that never leaves ends. -/
def bodyX {α : Type} (B n₀ : Nat) (T : TypeId → Prop) (X : Nat → Prop) (I : List α → World → Prop) (xs : List α) (W : World) : Exit → Act → World → Prop
  | .normal, _, W' => KeepsFrom B W W' ∧ KeepT n₀ T X W W' ∧ I xs W'
  | _, _, _ => False

section
variable {F : Fence} {n : Nat} {P : Program}
/-- Nothing but a record has turned. -/
def SameCells (A B : World) : Prop := B.heap.size = A.heap.size ∧ ∀ (k : Nat) (o : Obj), A.heap[k]? = some o → o.isCells = true → B.heap[k]? = some o
theorem SameCells.putObj (A : World) {l : Nat} {o : Obj} (o' : Obj) (hl : A.heap[l]? = some o) (ho : o.isCells = false) : SameCells A (A.putObj l o') :=
  ⟨by simp, fun k o2 hk h2 => (World.putObj_heap_other (fun e => by subst e; rw [hl] at hk; cases hk; rw [ho] at h2; cases h2)).trans hk⟩
/-- One round: the record is ready ahead of it and behind it. -/
theorem round_gives {α : Type} {ps : Array Tmp} {assign body : Code} {fn : Nat} (hfn : F.fn fn) {tm : Array Value} {m n₀ : Nat} {T : TypeId → Prop} {X : Nat → Prop} {encs : α → Array Value} {I : List α → World → Prop} {B : Nat}
    (hI : OwnFrom B I) (hps : ∀ x, (encs x).size = ps.size) {l D : Nat} (hBl : B ≤ l) (hBD : B ≤ D) (hlD : l ≠ D) {pre : List α} {x : α} {W : World} {Ax : Act → World → Prop} (hAx : ∀ a' A A', Ax a' A → SameCells A A' → Ax a' A')
    (hl : W.heap[l]? = some (.loop { state := .ready, pending := none, fn, tmps := tm, params := ps, assign, body, defers := D })) (hD : W.heap[D]? = some (.deferred (some [])))
    (hassign : assign.wpIn (F.inRound l) m P (Exit.then (fun a' W' => Ax a' W' ∧ I pre W' ∧ KeepsFrom B W W' ∧ KeepT n₀ T X W W') (fun _ _ _ => False)) { tmps := (ps.zip (encs x)).foldl (fun t (p, v) => t.setIfInBounds p v) tm, defers := [] } W)
    (hbody : ∀ (a' : Act) (W' : World), Ax a' W' → I pre W' → W.heap.size ≤ W'.heap.size → body.wpIn (F.inRound l) m P (bodyX B n₀ T X I (pre ++ [x]) W') a' W') :
    YieldAt F m P l (encs x) W fun e W' => e = .returned (.bool true) ∧ (I (pre ++ [x]) W' ∧ W'.heap[l]? = some (.loop { state := .ready, pending := none, fn, tmps := tm, params := ps, assign, body, defers := D }) ∧ W'.heap[D]? = some (.deferred (some []))) ∧ KeepT n₀ T X W W' := by
  refine ⟨fn, _, assign, body, run_yield (P := P) (args := encs x) hl (hps x), roundIn_of_wpIn hfn (wpIn_mono hassign ?_)⟩
  intro e a' V hp
  cases e with
  | normal =>
    obtain ⟨ax, i0, k0, kt0⟩ := hp
    have hl0 := k0.same l _ hBl hl rfl
    have hD0 := k0.same D _ hBD hD rfl
    have hlt : l < V.heap.size := (Array.getElem?_eq_some_iff.1 hl0).1
    refine ⟨_, run_beginRound hl0 rfl, ?_⟩
    have h1 := hI.putObj (.loop { state := .busy, pending := none, fn, tmps := tm, params := ps, assign, body, defers := D }) i0 hBl hl0 rfl
    have hl1 : (V.putObj l (.loop { state := .busy, pending := none, fn, tmps := tm, params := ps, assign, body, defers := D })).heap[l]? = some (.loop { state := .busy, pending := none, fn, tmps := tm, params := ps, assign, body, defers := D }) := World.putObj_heap_same hlt
    have hD1 : (V.putObj l (.loop { state := .busy, pending := none, fn, tmps := tm, params := ps, assign, body, defers := D })).heap[D]? = some (.deferred (some [])) := (World.putObj_heap_other (Ne.symm hlD)).trans hD0
    refine wpIn_mono (hbody a' _ (hAx _ _ _ ax (SameCells.putObj V _ hl0 rfl)) h1 (by have := k0.size; simpa using this)) ?_
    rintro e a3 W3 hp
    cases e with
    | normal =>
      obtain ⟨k3, kt3, i3⟩ := hp
      have hl3 := k3.same l _ hBl hl1 rfl
      have hD3 := k3.same D _ hBD hD1 rfl
      have hlt3 : l < W3.heap.size := (Array.getElem?_eq_some_iff.1 hl3).1
      refine ⟨_, _, run_endRound none hl3, rfl, ⟨hI.putObj _ i3 hBl hl3 rfl, World.putObj_heap_same hlt3, (World.putObj_heap_other (Ne.symm hlD)).trans hD3⟩, ?_⟩
      exact ((kt0.trans (KeepT.putObj V _ hl0 rfl)).trans kt3).trans (KeepT.putObj W3 _ hl3 rfl)
    | _ => exact hp.elim
  | _ => exact hp.elim

/-- The law. -/
theorem wpIn_range_box {α : Type} {g : Operand} {ps : Array Tmp} {assign body : Code} {Q : Exit → Act → World → Prop} {a : Act} {w : World}
    (hro : F.round = none) (h1 : 1 ≤ n) {gf : Nat} {lb : Array Value} (hg : a.eval g = .func (.func gf) #[] lb) (hFg : F.fn gf) (eg : ∀ args w, (callFunc gf args).run P w = .ok (.enter gf args) w)
    {encs : α → Array Value} {T : TypeId → Prop} {Good : Nat → α → World → Prop} {inb : Nat} {S : List α → Prop} {N : Nat} {w0 : World} (hseq : GivesX F (n - 1) P gf lb encs T Good inb S N w0) (hb0 : Below w0.heap.size w0 w) (hin : inb < w.heap.size) (hps : ∀ x, (encs x).size = ps.size)
    (I : List α → World → Prop) (hI : OwnFrom w.heap.size I) (hIX : ∀ s A B, I s A → StepX (fun k => k = inb ∨ k = w.heap.size + 2) A B → I s B) (h0 : I [] w) (Ax : α → Act → World → Prop) (hAx : ∀ x a' A A', Ax x a' A → SameCells A A' → Ax x a' A')
    (hassign : ∀ (l : Nat) (pre : List α) (x : α) (W : World), I pre W → Good (w.heap.size + 2) x W → w.heap.size + 3 ≤ W.heap.size →
      assign.wpIn (F.inRound l) (n - 1 - 1) P (Exit.then (fun a' W' => Ax x a' W' ∧ I pre W' ∧ KeepsFrom w.heap.size W W' ∧ KeepT w0.heap.size T (fun k => k = inb ∨ k = w.heap.size + 2) W W') (fun _ _ _ => False)) { tmps := (ps.zip (encs x)).foldl (fun t (p, v) => t.setIfInBounds p v) a.tmps, defers := [] } W)
    (hbody : ∀ (l : Nat) (pre : List α) (x : α) (a' : Act) (W : World), Ax x a' W → I pre W → pre.length < N → w.heap.size + 3 ≤ W.heap.size → body.wpIn (F.inRound l) (n - 1 - 1) P (bodyX w.heap.size w0.heap.size T (fun k => k = inb ∨ k = w.heap.size + 2) I (pre ++ [x]) W) a' W)
    (hdone : ∀ (D : Nat) (xs : List α) (W : World), w.heap.size ≤ D → S xs → I xs W → W.heap[D]? = some (.deferred (some [])) → Q .normal { a with defers := { target := .collected D, args := #[] } :: a.defers } W) :
    (Code.rangeFunc g ps assign body).wpIn F n P Q a w := by
  refine wpIn_rangeFunc fun fn hfn => ?_
  rw [hro]
  obtain ⟨W1, hW1⟩ : ∃ W1, (w.alloc (.deferred (some []))).alloc (.loop { state := .ready, pending := none, fn, tmps := a.tmps, params := ps, assign, body, defers := w.heap.size }) = W1 := ⟨_, rfl⟩
  have hz : W1.heap.size = w.heap.size + 2 := by rw [← hW1]; simp
  have hL1 : W1.heap[w.heap.size + 1]? = some (.loop { state := .ready, pending := none, fn, tmps := a.tmps, params := ps, assign, body, defers := w.heap.size }) := by
    rw [← hW1]; have := World.alloc_heap_new (w.alloc (.deferred (some []))) (.loop { state := .ready, pending := none, fn, tmps := a.tmps, params := ps, assign, body, defers := w.heap.size }); rwa [World.size_alloc] at this
  have hD1 : W1.heap[w.heap.size]? = some (.deferred (some [])) := by rw [← hW1]; exact (Below.heap_alloc _ _ _ (by simp)).trans (World.alloc_heap_new w _)
  have hb1 : Below w0.heap.size w0 W1 := by rw [← hW1]; exact hb0.trans ((((Below.refl _ w).alloc (Nat.le_refl _) _).alloc (by simp) _).mono hb0.size)
  refine ⟨w.heap.size + 1, [{ target := .collected w.heap.size, args := #[] }], W1, { target := .fn (.func gf) lb, args := #[.func (.yield (w.heap.size + 1)) #[] #[]] }, W1, gf,
    #[.func (.yield (w.heap.size + 1)) #[] #[]] ++ lb, W1, by rw [← hW1]; exact run_enterLoop_outer _ _ _ _ _, by simp only [resolve, hg]; simp [go_sem], fun f' hf' => by simp [Target.leads] at hf'; subst hf'; exact hFg, by simp [invoke, go_sem, eg], fun _ => h1, ?_⟩
  refine (hseq (w.heap.size + 1)
    (fun pre W => I pre W ∧ W.heap[w.heap.size + 1]? = some (.loop { state := .ready, pending := none, fn, tmps := a.tmps, params := ps, assign, body, defers := w.heap.size }) ∧ W.heap[w.heap.size]? = some (.deferred (some [])))
    W1 hb1 ?_ ?_ ⟨by rw [← hW1]; exact hI.alloc _ (hI.alloc _ h0), hL1, hD1⟩).mono ?_
  · rintro s A B ⟨hi, hl, hd⟩ hst
    rw [hz] at hst
    have hlA := (Array.getElem?_eq_some_iff.1 hl).1
    exact ⟨hIX s A B hi hst, (hst.block _ hlA (by omega)).trans hl, (hst.block _ (by omega) (by omega)).trans hd⟩
  · rintro pre x W ⟨hi, hl, hd⟩ hgd hlen hsz
    rw [hz] at hsz hgd ⊢
    exact round_gives hfn hI hps (by omega) (Nat.le_refl _) (by omega) (hAx x) hl hd (hassign _ pre x W hi hgd (by omega)) (fun a' W' hax hi' hz' => hbody _ pre x a' W' hax hi' hlen (by omega))
  · rintro e W2 ⟨⟨v, rfl⟩, xs, hS, hi, hl, hd⟩
    exact ⟨none, _, run_endLoop hl (by simp), hdone _ xs _ (Nat.le_refl _) hS (hI.putObj _ hi (by omega) hl rfl) ((World.putObj_heap_other (by omega)).trans hd)⟩
end
end Go.Proofs.YtlcgbdjmlnjhcaaGreatDoor
namespace Go.Proofs.YtlcgbdjmlnjhcaaGreatDoor
open Go.RowKit Go.Shelf
attribute [local go_sem] Oper.semAt_some

/-- An int appended to a row of the call's own, in a region that draws its order. -/
theorem step_append_int {ops : Array Oper} {o : Oper} {a : Act} {K : Act → World → Prop} {Q : Exit → Act → World → Prop} {E' : Prop} (hgd : o.guard = none) (s x : Operand)
    (ho : o.op = .call { callee := .builtin .append, args := #[s, x], argTypes := #[35, 35] }) (base : Nat) (wr : World) (H : Nat) (hH : wr.heap.size = H) (v : Value) (l : List Int) (n : Int)
    (hs : a.eval s = v) (hx' : a.eval x = .slice (some ⟨H, 0, none⟩) 1 1) (hown : OwnInts wr base v l) (hl : l.length ≤ 1000000000) (hb : base ≤ wr.heap.size)
    (h : ∀ g cap w', OwnInts w' base (.slice (some ⟨g, 0, none⟩) (l.length + 1) cap) (l ++ [n]) → wr.grownBy w' v.ownBlock → K (a.put o.dst (.slice (some ⟨g, 0, none⟩) (l.length + 1) cap)) w') :
    if Region.wanted o (yielded ops a.tmps) = true then Oper.wp Tryz.prog o a (wr.alloc (.cells #[.int .i64 n] 3)) K Q else E' := by
  obtain ⟨i0, hi, hz0, hz1, hz2⟩ := info_parts infoInt
  have hx : a.eval x = .slice (some ⟨wr.heap.size, 0, none⟩) 1 1 := by rw [hH]; exact hx'
  refine step_append_lies _ hgd s x 35 ho base 3 i0 (.int .i64 0) 1 8 Tryz.underlying35 hi hz0 hz1 hz2 rfl (by decide) v l.length (l.map (Value.int .i64)) hs (hown.kept ((Ext.refl wr).alloc _)) ⟨wr.heap.size, 0, none⟩ 1 1 [.int .i64 n] hx rfl (cell_one_new _ _ _) (fun u hu => by simp at hu; subst hu; rfl) (by decide) ?_ ?_ ?_ (wr.heap.size + 1) (by simp) ?_
  · unfold maxLen; omega
  · omega
  · simp; omega
  · intro g cap w' h1 h2 _ _
    refine h g cap w' (by simpa [OwnInts] using h1) ⟨h2.os, h2.tape, h2.output, by have := h2.size; simp at this; omega, fun k hk hne => by rw [h2.block k (by simp; omega) hne]; exact Below.heap_alloc wr _ k hk⟩
/-- A run as it is handed over. -/
structure RunX where
  last : Nat
  l : List Nat
  a : Option Addr
  c : Nat
def RunX.v (x : RunX) : Value := .agg #[.int .i64 x.last, .slice x.a (castL x.l).length x.c]
def RunX.pr (x : RunX) : Nat × List Nat := (x.last, x.l)
def goodRun (E : Nat) (x : RunX) (W : World) : Prop := OwnInts W (E + 1) (.slice x.a (castL x.l).length x.c) (castL x.l)
/-- The types of the blocks that the loop's body may write. -/
def runT (t : TypeId) : Prop := t = 120 ∨ t = 117

/-- What the iterator finds: its captured variables, its own one, the list that is left (in the world w0 of its making). -/
structure RunI (w0 : World) (E Bw Bin Bl w low : Nat) (left : List Nat) (lst : Nat) (cl : List Nat) (a : Option Addr) (c : Nat) (a' : Option Addr) (c' : Nat) (V : World) : Prop where
  bw : V.heap[Bw]? = some (.cells #[.int .i64 w] 3 (0, 0))
  bl : V.heap[Bl]? = some (.cells #[.int .i64 low] 3 (0, 0))
  bin : V.heap[Bin]? = some (.cells #[.slice a' (castL left).length c'] 35 (0, 0))
  cur : V.heap[E]? = some (.cells #[.int .i64 lst, .slice a (castL cl).length c] 120 (0, 0))
  own : OwnInts V (E + 1) (.slice a (castL cl).length c) (castL cl)
  lft : Ints w0 (.slice a' (castL left).length c') (castL left)
  old : ∀ (k : Nat) (cs : Array Value) (t : TypeId) (fr : Nat × Nat), w0.heap[k]? = some (.cells cs t fr) → k ≠ Bin → V.heap[k]? = some (.cells cs t fr)
  size : E + 1 ≤ V.heap.size
  cap : (castL left).length ≤ c'
/-- The captured variables lie ahead of the iterator. -/
structure RunB (w0 : World) (E Bw Bin Bl : Nat) (sv : Value) (w low : Nat) : Prop where
  bw : w0.heap[Bw]? = some (.cells #[.int .i64 w] 3 (0, 0))
  bl : w0.heap[Bl]? = some (.cells #[.int .i64 low] 3 (0, 0))
  bin : w0.heap[Bin]? = some (.cells #[sv] 35 (0, 0))
  size : w0.heap.size ≤ E
/-- The first of what is left, where it can be read. -/
theorem RunI.head {w0 : World} {E Bw Bin Bl w low : Nat} {left : List Nat} {lst : Nat} {cl : List Nat} {a : Option Addr} {c : Nat} {a' : Option Addr} {c' : Nat} {V : World} {sv : Value} (h : RunI w0 E Bw Bin Bl w low left lst cl a c a' c' V) (hB : RunB w0 E Bw Bin Bl sv w low) (hsv : ∃ x y z, sv = .slice x y z) {x : Nat} {r : List Nat} (hl : left = x :: r) :
    ∃ b o, a' = some ⟨b, o, none⟩ ∧ b < w0.heap.size ∧ V.cell? ⟨b, o, none⟩ = some (.int .i64 x) ∧ Ints w0 (.slice (if c' = 1 then some ⟨b, o, none⟩ else some ⟨b, o + 1, none⟩) (castL r).length (c' - 1)) (castL r) ∧ (castL r).length ≤ c' - 1 := by
  have hI := h.lft
  have hcap := h.cap
  subst hl
  rcases hI with ⟨_, e⟩ | ⟨b, o, cc, e, hm, hc⟩
  · simp [castL] at e
  · cases e
    have h0 := hc 0 (by simp [castL])
    rw [Nat.zero_mul, Nat.add_zero] at h0
    have h0' : w0.cell? ⟨b, o, none⟩ = some (.int .i64 x) := by simpa [castL, IntAt] using h0
    have hcr : (castL r).length + 1 ≤ c' := by simpa [castL] using hcap
    refine ⟨b, o, rfl, block_lt h0', ?_, ?_, by omega⟩
    · obtain ⟨x1, x2, x3, rfl⟩ := hsv
      unfold World.cell? at h0' ⊢
      cases hb : w0.heap[b]? with
      | none => rw [hb] at h0'; cases h0'
      | some ob =>
        cases ob with
        | cells cs t fr =>
          have hne : b ≠ Bin := fun e => by
            subst e
            rw [hB.bin] at h0'
            simp only at h0'
            cases o with
            | zero => simp at h0'
            | succ o => simp at h0'
          have hv := h.old b cs t fr hb hne
          simp only [hb] at h0'
          simp only [hv]; exact h0'
        | _ => rw [hb] at h0'; simp at h0'
    · by_cases e1 : c' = 1
      · have hr : r = [] := by
          have : r.length = 0 := by simp [castL] at hcr; omega
          exact List.length_eq_zero_iff.1 this
        subst hr
        rw [if_pos e1]; exact .inl ⟨⟨_, _, rfl⟩, rfl⟩
      · rw [if_neg e1]
        refine .inr ⟨b, o + 1, c' - 1, rfl, by simp [castL] at hm ⊢; omega, fun i hi => ?_⟩
        have h1 := hc (i + 1) (by simp [castL] at hi ⊢; omega)
        rw [show o + 1 + i * 1 = o + (i + 1) * 1 by omega]
        simpa [castL] using h1
theorem OwnInts.typed {w : World} {base : Nat} {v : Value} {l : List Int} (h : OwnInts w base v l) (k : Nat) (hk : v.ownBlock = some k) : ∃ cs : Array Value, w.heap[k]? = some (.cells cs 3 (0, 0)) := by
  rcases h.2 with ⟨rfl, _⟩ | ⟨g, cap, cur, rfl, hg, hh, _⟩
  · cases hk
  · cases hk; exact ⟨_, hh⟩
theorem OwnInts.keep' {w w' : World} {base : Nat} {v : Value} {l : List Int} (h : OwnInts w base v l) (hk : ∀ k, v.ownBlock = some k → w'.heap[k]? = w.heap[k]?) : OwnInts w' base v l := by
  obtain ⟨h1, h2⟩ := h
  refine ⟨h1, ?_⟩
  rcases h2 with h2 | ⟨g, cap, cur, hv, hg, hh, r⟩
  · exact .inl h2
  · exact .inr ⟨g, cap, cur, hv, hg, by rw [hk g (by rw [hv]; rfl)]; exact hh, r⟩
theorem OwnInts.lt' {w : World} {base : Nat} {v : Value} {l : List Int} (h : OwnInts w base v l) (k : Nat) (hk : v.ownBlock = some k) : k < w.heap.size := by
  obtain ⟨cs, hc⟩ := h.typed k hk; exact (Array.getElem?_eq_some_iff.1 hc).1
/-- A world that has only grown. -/
theorem RunI.ext {w0 : World} {E Bw Bin Bl w low : Nat} {left : List Nat} {lst : Nat} {cl : List Nat} {a : Option Addr} {c : Nat} {a' : Option Addr} {c' : Nat} {V V' : World} (h : RunI w0 E Bw Bin Bl w low left lst cl a c a' c' V) (hx : Ext V V') : RunI w0 E Bw Bin Bl w low left lst cl a c a' c' V' := by
  have ke : ∀ (k : Nat) (o : Obj), V.heap[k]? = some o → V'.heap[k]? = some o := fun k o hk => (hx.block k (Array.getElem?_eq_some_iff.1 hk).1).trans hk
  exact ⟨ke _ _ h.bw, ke _ _ h.bl, ke _ _ h.bin, ke _ _ h.cur, h.own.kept hx, h.lft, fun k cs t fr hk hn => ke _ _ (h.old k cs t fr hk hn), Nat.le_trans h.size hx.size, h.cap⟩
/-- A round of the loop's body. -/
theorem RunI.keepT {w0 : World} {E Bw Bin Bl w low : Nat} {left : List Nat} {lst : Nat} {cl : List Nat} {a : Option Addr} {c : Nat} {a' : Option Addr} {c' : Nat} {V V' : World} {sv : Value} (h : RunI w0 E Bw Bin Bl w low left lst cl a c a' c' V) (hB : RunB w0 E Bw Bin Bl sv w low) (hk : KeepT w0.heap.size runT (fun k => k = Bin ∨ k = E) V V') : RunI w0 E Bw Bin Bl w low left lst cl a c a' c' V' := by
  have lt0 : ∀ (k : Nat) (o : Obj), w0.heap[k]? = some o → k < w0.heap.size := fun k o hk => (Array.getElem?_eq_some_iff.1 hk).1
  have hti : ¬ runT 3 := by unfold runT; decide
  refine ⟨hk.same _ _ _ _ h.bw (.inl (lt0 _ _ hB.bw)), hk.same _ _ _ _ h.bl (.inl (lt0 _ _ hB.bl)), hk.same _ _ _ _ h.bin (.inl (lt0 _ _ hB.bin)), hk.same _ _ _ _ h.cur (.inr (.inl (.inr rfl))), h.own.keep' fun k hk' => ?_, h.lft, fun k cs t fr h1 h2 => hk.same _ _ _ _ (h.old k cs t fr h1 h2) (.inl (lt0 _ _ h1)), Nat.le_trans h.size hk.size, h.cap⟩
  obtain ⟨cs, hc⟩ := h.own.typed k hk'
  rw [hc]; exact hk.same _ _ _ _ hc (.inr (.inr hti))
/-- The iterator's variable is set anew. -/
theorem RunI.setCur {w0 : World} {E Bw Bin Bl w low : Nat} {left : List Nat} {lst : Nat} {cl : List Nat} {a : Option Addr} {c : Nat} {a' : Option Addr} {c' : Nat} {V : World} {sv : Value} (h : RunI w0 E Bw Bin Bl w low left lst cl a c a' c' V) (hB : RunB w0 E Bw Bin Bl sv w low) (v : Nat) (p : List Nat) (pa : Option Addr) (pc : Nat) (ho : OwnInts V (E + 1) (.slice pa (castL p).length pc) (castL p)) :
    RunI w0 E Bw Bin Bl w low left v p pa pc a' c' ((V.setCell ⟨E, 0, none⟩ (.int .i64 v)).setCell ⟨E, 1, none⟩ (.slice pa (castL p).length pc)) := by
  have lt0 : ∀ (k : Nat) (o : Obj), w0.heap[k]? = some o → k < w0.heap.size := fun k o hk => (Array.getElem?_eq_some_iff.1 hk).1
  have hs := hB.size
  have oth : ∀ k, k ≠ E → ((V.setCell ⟨E, 0, none⟩ (.int .i64 v)).setCell ⟨E, 1, none⟩ (.slice pa (castL p).length pc)).heap[k]? = V.heap[k]? := fun k hk => by
    rw [heap_setCell_other _ _ _ _ hk, heap_setCell_other _ _ _ _ hk]
  refine ⟨(oth _ (by have := lt0 _ _ hB.bw; omega)).trans h.bw, (oth _ (by have := lt0 _ _ hB.bl; omega)).trans h.bl, (oth _ (by have := lt0 _ _ hB.bin; omega)).trans h.bin, ?_, ho.keep' fun k hk => oth k (by have := ho.base k hk; omega), h.lft, fun k cs t fr h1 h2 => (oth k (by have := lt0 _ _ h1; omega)).trans (h.old k cs t fr h1 h2), by have := h.size; simpa [World.setCell] using this, h.cap⟩
  have h1 := heap_setCell_same V E 0 _ _ (.int .i64 v) h.cur
  have h2 := heap_setCell_same (V.setCell ⟨E, 0, none⟩ (.int .i64 v)) E 1 _ _ (.slice pa (castL p).length pc) h1
  simpa using h2
/-- One element is taken: the row that gathers it has grown, the captured list has been cut. -/
theorem RunI.taken {w0 : World} {E Bw Bin Bl w low : Nat} {r : List Nat} {left : List Nat} {lst : Nat} {cl : List Nat} {a : Option Addr} {c : Nat} {a' : Option Addr} {c' : Nat} {V V' : World} {sv : Value} {row : Option Nat} {N : Nat} (h : RunI w0 E Bw Bin Bl w low left lst cl a c a' c' V) (hB : RunB w0 E Bw Bin Bl sv w low)
    (hg : V.grownBy V' row) (hrow : ∀ k, row = some k → N ≤ k) (hN : E + 1 ≤ N) (hcur : ∀ k, (Value.slice a (castL cl).length c).ownBlock = some k → k < N) (a'' : Option Addr) (hI : Ints w0 (.slice a'' (castL r).length (c' - 1)) (castL r)) (hc : (castL r).length ≤ c' - 1) (hd : Bw ≠ Bin ∧ Bl ≠ Bin) :
    RunI w0 E Bw Bin Bl w low r lst cl a c a'' (c' - 1) (V'.setCell ⟨Bin, 0, none⟩ (.slice a'' (castL r).length (c' - 1))) := by
  have lt0 : ∀ (k : Nat) (o : Obj), w0.heap[k]? = some o → k < w0.heap.size := fun k o hk => (Array.getElem?_eq_some_iff.1 hk).1
  have hs := hB.size
  have hVs := h.size
  have lo : ∀ (k : Nat) (o : Obj), k < N → V.heap[k]? = some o → V'.heap[k]? = some o := fun k o hk ho => (hg.block k (Array.getElem?_eq_some_iff.1 ho).1 (fun e => by have := hrow k e.symm; omega)).trans ho
  have oth : ∀ k, k ≠ Bin → (V'.setCell ⟨Bin, 0, none⟩ (.slice a'' (castL r).length (c' - 1))).heap[k]? = V'.heap[k]? := fun k hk => heap_setCell_other _ _ _ _ hk
  have hbin := lt0 _ _ hB.bin
  refine ⟨(oth _ hd.1).trans (lo _ _ (by have := lt0 _ _ hB.bw; omega) h.bw), (oth _ hd.2).trans (lo _ _ (by have := lt0 _ _ hB.bl; omega) h.bl), ?_, (oth _ (by omega)).trans (lo _ _ (by omega) h.cur), h.own.keep' fun k hk => ?_, hI, fun k cs t fr h1 h2 => (oth k h2).trans (lo _ _ (by have := lt0 _ _ h1; omega) (h.old k cs t fr h1 h2)), by have := hg.size; simp only [World.setCell, Array.size_modify]; omega, hc⟩
  · have h1 := heap_setCell_same V' Bin 0 _ _ (.slice a'' (castL r).length (c' - 1)) (lo _ _ (by omega) h.bin)
    simpa using h1
  · have h1 := h.own.base k hk
    rw [oth k (by omega)]
    obtain ⟨cs, h2⟩ := h.own.typed k hk
    rw [h2]; exact lo _ _ (hcur k hk) h2
end Go.Proofs.YtlcgbdjmlnjhcaaGreatDoor
