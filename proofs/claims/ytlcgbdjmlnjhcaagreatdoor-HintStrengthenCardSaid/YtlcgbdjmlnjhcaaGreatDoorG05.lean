/-
  The walk of states.widthsOf.
  The walk of states.State.
  The walk of states.Number.
-/
import Derived.Test.YtlcgbdjmlnjhcaaGreatDoorG04
namespace Go.Proofs.YtlcgbdjmlnjhcaaGreatDoor
open Go.RowKit

/-- The widths of listed cells. -/
def wAt (cells : List CellD) (c : Int) : Int := ((cells[c.toNat]?).map (·.W)).getD 0
def wOf (cells : List CellD) (list : List Int) : List Int := list.map (wAt cells)
def inB (cells : List CellD) (list : List Int) : Bool := list.all fun c => decide (0 ≤ c) && decide (c < (cells.length : Int))
def widthsB (cells : List CellD) (list : List Int) : Bool := incB list && inB cells list && shapeB list (wOf cells list)
def WidthsPost (cells : List CellD) (list : List Int) (w : World) (r : Ending) (w' : World) : Prop :=
  ∃ v, r = .returned (.tuple #[v, .bool (widthsB cells list)]) ∧ (∃ a n c, v = .slice a n c) ∧ (widthsB cells list = true → OwnInts w' w.heap.size v (wOf cells list)) ∧ Ext w w'
theorem WidthsPost.no {cells : List CellD} {list : List Int} {w w' : World} (h : widthsB cells list = false) (hx : Ext w w') (a : Option Addr) (n c : Nat) : WidthsPost cells list w (.returned (.tuple #[.slice a n c, .bool false])) w' :=
  ⟨_, by rw [h], ⟨_, _, _, rfl⟩, (fun e => by rw [h] at e; cases e), hx⟩
theorem wOf_snoc (cells : List CellD) (list : List Int) {k : Nat} (h : k < list.length) : wOf cells (list.take (k + 1)) = wOf cells (list.take k) ++ [wAt cells list[k]] := by
  unfold wOf; rw [List.take_succ_eq_append_getElem h, List.map_append]; rfl
theorem wOf_len (cells : List CellD) (list : List Int) : (wOf cells list).length = list.length := by simp [wOf]

end Go.Proofs.YtlcgbdjmlnjhcaaGreatDoor
namespace Go.Proofs.YtlcgbdjmlnjhcaaGreatDoor
open Go.RowKit

/-- One cell of a state. -/
def stStep (p : Int × List Int) (q : Int × Int) : Int × List Int := (p.1 / pw q.2, if q.1 < (p.2.length : Int) then p.2.set q.1.toNat (p.1 % pw q.2) else p.2)
def stTo (cs ws : List Int) (n : Int) (base : List Int) (k : Nat) : Int × List Int := ((cs.zip ws).take k).foldl stStep (n, base)
def stateS (cs ws : List Int) (n : Int) (base : List Int) : List Int := if smallB cs ws then (stTo cs ws n base cs.length).2 else base
theorem stTo_succ {cs ws : List Int} (n : Int) (base : List Int) {k : Nat} (h : cs.length = ws.length) (hk : k < cs.length) : stTo cs ws n base (k + 1) = stStep (stTo cs ws n base k) (cs[k], ws[k]'(by omega)) := by
  unfold stTo
  have hz : k < (cs.zip ws).length := by simp; omega
  rw [List.take_succ_eq_append_getElem hz, List.foldl_append]
  simp
theorem OwnInts.open {w : World} {base : Nat} {v : Value} {l : List Int} (h : OwnInts w base v l) (hl : 0 < l.length) : ∃ g cap, v = .slice (some ⟨g, 0, none⟩) l.length cap ∧ base ≤ g ∧ ∀ i (hi : i < l.length), w.cell? ⟨g, i, none⟩ = some (.int .i64 l[i]) ∧ w.frozen? ⟨g, i, none⟩ = false := by
  have hI := h.ints
  rcases h.2 with ⟨_, e⟩ | ⟨g, cap, cur, hv, hg, hh, _⟩
  · omega
  · refine ⟨g, cap, hv, hg, fun i hi => ⟨?_, frozen_of_row w g i _ _ hh⟩⟩
    rw [hv] at hI
    rcases hI with ⟨_, e⟩ | ⟨b, o, c, e, _, hc⟩
    · rw [e] at hl; simp at hl
    · cases e; have := hc i hi; rw [Nat.mul_one, Nat.zero_add] at this; exact this
theorem OwnInts.set {w : World} {base g cap : Nat} {l : List Int} (h : OwnInts w base (.slice (some ⟨g, 0, none⟩) l.length cap) l) {i : Nat} (x : Int) : OwnInts (w.setCell ⟨g, i, none⟩ (.int .i64 x)) base (.slice (some ⟨g, 0, none⟩) l.length cap) (l.set i x) := by
  obtain ⟨h1, h2⟩ := h
  refine ⟨by simp, ?_⟩
  rcases h2 with ⟨e, _⟩ | ⟨g', cap', cur, hv, hg, hh, hn, hc, hs, ht⟩
  · cases e
  · cases hv
    refine .inr ⟨g, cap, cur.setIfInBounds i (.int .i64 x), by rw [List.length_set], hg, heap_setCell_same _ _ _ _ _ _ hh, by rw [List.length_set]; exact hn, hc, by simpa using hs, ?_⟩
    simp only [Nat.mul_one, List.length_set] at ht ⊢
    rw [Array.toList_setIfInBounds, List.take_set, ht, List.map_set]

theorem mask_walk (m wd : Int) (h3 : 1 ≤ wd) (h4 : wd ≤ 8) : bits .and .i64 m (wrap64 (wrap64 (2 ^ wd.toNat) - 1)) = m % pw wd := by
  rw [pow_wrap (by omega) (by omega)]
  have hc := pw_cases h3 h4
  have : wrap64 (pw wd - 1) = pw wd - 1 := by unfold wrap64; omega
  rw [this, mask_eq m wd h3 h4]
theorem pw_pow (wd : Int) : (2 : Int) ^ wd.toNat = pw wd := rfl

end Go.Proofs.YtlcgbdjmlnjhcaaGreatDoor
namespace Go.Proofs.YtlcgbdjmlnjhcaaGreatDoor
open Go.RowKit

def numStep (st : List Int) (p q : Int × Int) : Int × Int := (p.1 + (if q.1 < (st.length : Int) then st.getD q.1.toNat 0 % pw q.2 else 0) * pw p.2, p.2 + q.2)
def numTo (cs ws st : List Int) (k : Nat) : Int × Int := ((cs.zip ws).take k).foldl (numStep st) (0, 0)
def numS (cs ws st : List Int) : Int := if smallB cs ws then (numTo cs ws st cs.length).1 else 0
theorem numTo_succ {cs ws : List Int} (st : List Int) {k : Nat} (h : cs.length = ws.length) (hk : k < cs.length) : numTo cs ws st (k + 1) = numStep st (numTo cs ws st k) (cs[k], ws[k]'(by omega)) := by
  unfold numTo
  have hz : k < (cs.zip ws).length := by simp; omega
  rw [List.take_succ_eq_append_getElem hz, List.foldl_append]
  simp
theorem num_low {cs ws : List Int} (st : List Int) (h : cs.length = ws.length) : ∀ k, k ≤ cs.length → (numTo cs ws st k).2 = sumI (ws.take k) := by
  intro k
  induction k with
  | zero => intro _; rfl
  | succ k ih =>
    intro hk
    rw [numTo_succ st h (by omega), sum_take (show k < ws.length by omega), ← ih (by omega)]
    rfl
theorem sum_take_le {l : List Int} (h : ∀ x ∈ l, 1 ≤ x ∧ x ≤ 8) (k : Nat) (hk : k ≤ l.length) : sumI (l.take k) ≤ sumI l := by
  have key : ∀ j, k + j ≤ l.length → sumI (l.take k) ≤ sumI (l.take (k + j)) := by
    intro j
    induction j with
    | zero => intro _; exact Int.le_refl _
    | succ j ih =>
      intro hj
      have := ih (by omega)
      have h2 := h _ (List.getElem_mem (show k + j < l.length by omega))
      rw [← Nat.add_assoc, sum_take (show k + j < l.length by omega)]
      omega
  have := key (l.length - k) (by omega)
  rwa [show k + (l.length - k) = l.length by omega, List.take_length] at this
theorem pw_add {a b : Int} (ha : 0 ≤ a) (hb : 0 ≤ b) : pw (a + b) = pw a * pw b := by
  unfold pw
  rw [Int.toNat_add ha hb, Int.pow_add]
theorem num_bd {cs ws : List Int} (st : List Int) (h : cs.length = ws.length) (hw : ∀ x ∈ ws, 1 ≤ x ∧ x ≤ 8) : ∀ k, k ≤ cs.length → 0 ≤ (numTo cs ws st k).2 ∧ 0 ≤ (numTo cs ws st k).1 ∧ (numTo cs ws st k).1 < pw (numTo cs ws st k).2 := by
  intro k
  induction k with
  | zero => intro _; exact ⟨Int.le_refl _, Int.le_refl _, show (0 : Int) < pw 0 by decide⟩
  | succ k ih =>
    intro hk
    obtain ⟨h1, h2, h3⟩ := ih (by omega)
    have hx := hw (ws[k]'(by omega)) (List.getElem_mem _)
    rw [numTo_succ st h (by omega)]
    unfold numStep
    dsimp only
    have e := pw_add h1 (show 0 ≤ ws[k]'(by omega) by omega)
    rw [e]
    generalize ws[k]'(by omega) = wd at *
    have hp := @pw_pos wd
    have hq := @pw_pos (numTo cs ws st k).2
    generalize pw (numTo cs ws st k).2 = q at *
    generalize (numTo cs ws st k).1 = n at *
    have hv : ∃ v, (if cs[k]'(by omega) < (st.length : Int) then st.getD (cs[k]'(by omega)).toNat 0 % pw wd else 0) = v ∧ 0 ≤ v ∧ v ≤ pw wd - 1 := by
      refine ⟨_, rfl, ?_, ?_⟩
      · split
        · exact Int.emod_nonneg _ (by omega)
        · omega
      · split
        · have := Int.emod_lt_of_pos (st.getD (cs[k]'(by omega)).toNat 0) hp; omega
        · omega
    obtain ⟨v, hv, h4, h5⟩ := hv
    rw [hv]
    have h6 : 0 ≤ v * q := Int.mul_nonneg h4 (by omega)
    have h7 : v * q ≤ (pw wd - 1) * q := Int.mul_le_mul_of_nonneg_right h5 (by omega)
    have h8 : (pw wd - 1) * q = q * pw wd - q := by rw [Int.sub_mul, Int.one_mul, Int.mul_comm]
    exact ⟨by omega, by omega, by omega⟩
theorem or_shift {n v low : Int} (h0 : 0 ≤ low) (h1 : low ≤ 20) (h2 : 0 ≤ n) (h3 : n < pw low) (h4 : 0 ≤ v) (h5 : v ≤ 255) : bits .or .i64 n (wrap64 (v * 2 ^ low.toNat)) = n + v * pw low := by
  obtain ⟨l, rfl⟩ := Int.eq_ofNat_of_zero_le h0
  obtain ⟨a, rfl⟩ := Int.eq_ofNat_of_zero_le h2
  obtain ⟨b, rfl⟩ := Int.eq_ofNat_of_zero_le h4
  unfold pw at *
  simp only [Int.toNat_natCast] at *
  have hp : (2 : Nat) ^ l ≤ 1048576 := by
    have := Nat.pow_le_pow_right (show 0 < 2 by decide) (show l ≤ 20 by omega)
    simpa using this
  have ha : a < 2 ^ l := by exact_mod_cast h3
  have hb : b * 2 ^ l ≤ 255 * 1048576 := Nat.mul_le_mul (by omega) hp
  have hc : ((b : Int) * 2 ^ l) = ((b * 2 ^ l : Nat) : Int) := by push_cast; rfl
  rw [hc]
  have hw : wrap64 ((b * 2 ^ l : Nat) : Int) = ((b * 2 ^ l : Nat) : Int) := by unfold wrap64; omega
  rw [hw, (bits_nat .i64 62 (by decide) i64_small a (b * 2 ^ l) (by omega) (by omega)).2]
  have := Nat.shiftLeft_add_eq_or_of_lt ha b
  rw [Nat.shiftLeft_eq] at this
  rw [Nat.or_comm, ← this]
  omega
end Go.Proofs.YtlcgbdjmlnjhcaaGreatDoor
