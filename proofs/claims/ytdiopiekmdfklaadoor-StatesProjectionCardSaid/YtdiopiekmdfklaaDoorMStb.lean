/-
  relation.sum, ref10.Sum, Ints, Index, Within. Printed by gen_st4.py.
  ref10.Index, Within.
-/
import Derived.Test.YtdiopiekmdfklaaDoorMSta
namespace Go.Proofs.YtdiopiekmdfklaaDoor
open Go.RowKit

set_option maxHeartbeats 1000000 in
theorem RSum_any (l : List Int) (v : Value) (w : World) (hl : Ints w v l) (hw : Widths l) : Calls Tryd.prog 16 #[v] w fun r w' => r = .returned (.int .i64 (sumI l)) ∧ w' = w := by
  obtain ⟨a, cap, rfl⟩ := hl.shape
  have hlen := hw.1
  have HL := Lib.hid hl; have HB := Lib.hid (sum_bound hw.2); clear hl hw
  go_enter Tryd.func16, Tryd.ntmps16
  go_wp2_with fail
  go_loop [3, 4] (fun s i => ∃ k : Nat, k ≤ l.length ∧ i = .int .i64 k ∧ s = .int .i64 (sumI (l.take k))) (fun _ i => l.length - (intOf i).toNat)
  case atStart => exact ⟨0, Nat.zero_le _, rfl, rfl⟩
  case round =>
    obtain ⟨k, hk, rfl, rfl⟩ := hrel
    by_cases hlt : k < l.length
    · rcases HL.out with ⟨_, e⟩ | ⟨b, o, cap', e, _, hc⟩
      · rw [e] at hlt; simp at hlt
      cases e
      have g : w.cell? ⟨b, o + k, none⟩ = some (.int .i64 l[k]) := by have := hc k hlt; rw [Nat.mul_one] at this; exact this
      clear hc
      have HS := Lib.hid (sum_take hlt)
      have hb := HB.out (k + 1) (by omega)
      rw [HS.out] at hb
      generalize sumI (l.take k) = s at *
      go_wp2_with fail
      exact ⟨⟨k + 1, by omega, by go_num, by rw [HS.out]⟩, by simp [intOf]; omega⟩
    · have HT : Hid (l.take k = l) := List.take_of_length_le (by omega)
      rw [HT.out]
      go_wp2_with fail
      go_ret
      exact ⟨rfl, rfl⟩

set_option maxHeartbeats 1000000 in
/-- Equal lists. -/
theorem RInts_any (l m : List Int) (vl vm : Value) (w : World) (hl : Ints w vl l) (hm : Ints w vm m) : Calls Tryd.prog 23 #[vl, vm] w fun r w' => r = .returned (.bool (decide (l = m))) ∧ Ext w w' := by
  obtain ⟨la, lc, rfl⟩ := hl.shape
  obtain ⟨ma, mc, rfl⟩ := hm.shape
  have hlen := SliceAt.len_le hl
  have hlen2 := SliceAt.len_le hm
  have HL := Lib.hid hl; have HM := Lib.hid hm; clear hl hm
  by_cases he : l.length = m.length
  · have heb : (((l.length : Nat) : Int) != ((m.length : Nat) : Int)) = false := by rw [he]; simp
    have HEQ := Lib.hid he; clear he
    go_enter Tryd.func23, Tryd.ntmps23
    go_wp2_with fail
    go_loopw [5] (fun i wr => ∃ k : Nat, k ≤ l.length ∧ i = .int .i64 k ∧ Ext w wr ∧ ∀ j, j < k → l.getD j 0 = m.getD j 0) (fun i _ => l.length - (intOf i).toNat)
    case atStart => exact ⟨0, Nat.zero_le _, rfl, Ext.refl _, fun j h => absurd h (by omega)⟩
    case round =>
      obtain ⟨k, hk, rfl, hX, hR⟩ := hrel
      have HX := Lib.hid hX; have HR := Lib.hid hR; clear hX hR
      by_cases hlt : k < l.length
      · rcases HL.out with ⟨_, e⟩ | ⟨b, o, cap', e, _, hc⟩
        · rw [e] at hlt; simp at hlt
        cases e
        rcases HM.out with ⟨_, e⟩ | ⟨b2, o2, cap2, e, _, hc2⟩
        · have := HEQ.out; rw [e] at this; simp at this; rw [this] at hlt; simp at hlt
        cases e
        have hlt2 : k < m.length := by have := HEQ.out; omega
        have g0 : wr.cell? ⟨b, o + k, none⟩ = some (.int .i64 (l.getD k 0)) := by have := HX.out.cell (hc k hlt); rw [Nat.mul_one] at this; rw [this]; simp [List.getD, hlt]
        have g1 : wr.cell? ⟨b2, o2 + k, none⟩ = some (.int .i64 (m.getD k 0)) := by have := HX.out.cell (hc2 k hlt2); rw [Nat.mul_one] at this; rw [this]; simp [List.getD, hlt2]
        clear hc hc2
        have HS : Hid (l = m → l.getD k 0 = m.getD k 0) := fun h => by rw [h]
        generalize ex : l.getD k 0 = x at *
        generalize ey : m.getD k 0 = y at *
        have EX := Lib.hid ex; have EY := Lib.hid ey; clear ex ey
        have i0 : (0 : Int) ≤ (k : Int) := by omega
        have i1 : (k : Int) < (l.length : Int) := by omega
        have i2 : (k : Int) < (m.length : Int) := by omega
        cases hq : (x != y) with
        | true =>
          have HF : Hid (decide (l = m) = false) := decide_eq_false fun h => by
            have := HS.out h; rw [this] at hq; simp at hq
          clear HS
          go_upto_region 6 with fail
          go_quiet (fail)
          go_wp2_with fail
          go_ret
          exact ⟨by rw [HF.out]; rfl, HX.out.drewN _⟩
        | false =>
          have HF : Hid (x = y) := by unfold Hid; simpa using hq
          clear HS
          go_upto_region 6 with fail
          go_quiet (fail)
          go_wp2_with fail
          refine ⟨⟨k + 1, by omega, by go_num, HX.out.drewN _, fun j hj => ?_⟩, by simp [intOf]; omega⟩
          by_cases c : j = k
          · subst c; rw [EX.out, EY.out]; exact HF.out
          · exact HR.out j (by omega)
      · have HF : Hid (decide (l = m) = true) := decide_eq_true (List.ext_getElem HEQ.out fun i h1 h2 => by
          have := HR.out i (by omega)
          simpa [List.getD, h1, h2] using this)
        go_wp2_with fail
        go_ret
        exact ⟨by rw [HF.out]; rfl, HX.out⟩
  · have heb : (((l.length : Nat) : Int) != ((m.length : Nat) : Int)) = true := by rw [bne_iff_ne]; omega
    have HF : Hid (decide (l = m) = false) := decide_eq_false fun h => he (by rw [h])
    go_enter Tryd.func23, Tryd.ntmps23
    go_wp2_with fail
    go_ret
    exact ⟨by rw [HF.out]; rfl, Ext.refl w⟩

end Go.Proofs.YtdiopiekmdfklaaDoor
namespace Go.Proofs.YtdiopiekmdfklaaDoor
open Go.RowKit

/-- The index of a number, or -1. -/
def idxI : List Int → Int → Nat → Int
  | [], _, _ => -1
  | a :: r, x, k => if a = x then k else idxI r x (k + 1)
theorem idx_neg (l : List Int) (x : Int) : ∀ k, idxI l x k < 0 ↔ x ∉ l := by
  induction l with
  | nil => intro k; simp [idxI]
  | cons a r ih =>
    intro k
    unfold idxI
    split
    · next h => subst h; simp
    · next h =>
      rw [ih]
      have h' : ¬ x = a := fun e => h e.symm
      simp [h']
theorem idx_at (l : List Int) (x : Int) : ∀ (k j : Nat), j ≤ l.length → x ∉ l.take j → idxI l x k = idxI (l.drop j) x (k + j) := by
  induction l with
  | nil => intro k j hj _; simp at hj; subst hj; rfl
  | cons a r ih =>
    intro k j hj hx
    cases j with
    | zero => rfl
    | succ j =>
      simp only [List.take_succ_cons, List.mem_cons, not_or] at hx
      have h' : ¬ a = x := fun e => hx.1 e.symm
      rw [idxI, if_neg h', ih (k + 1) j (by simpa using hj) hx.2, List.drop_succ_cons, show k + 1 + j = k + (j + 1) by omega]
set_option maxHeartbeats 1000000 in
theorem RIndex_any (l : List Int) (n : Int) (v : Value) (w : World) (hl : Ints w v l) : Calls Tryd.prog 26 #[v, .int .i64 n] w fun r w' => r = .returned (.int .i64 (idxI l n 0)) ∧ w' = w := by
  obtain ⟨a, cap, rfl⟩ := hl.shape
  have hlen := SliceAt.len_le hl
  have HL := Lib.hid hl; clear hl
  go_enter Tryd.func26, Tryd.ntmps26
  go_wp2_with fail
  go_loop [5] (fun i => ∃ k : Nat, k ≤ l.length ∧ i = .int .i64 k ∧ n ∉ l.take k) (fun i => l.length - (intOf i).toNat)
  case atStart => exact ⟨0, Nat.zero_le _, rfl, by simp⟩
  case round =>
    obtain ⟨k, hk, rfl, hr⟩ := hrel
    have HR := Lib.hid hr; clear hr
    by_cases hlt : k < l.length
    · rcases HL.out with ⟨_, e⟩ | ⟨b, o, cap', e, _, hc⟩
      · rw [e] at hlt; simp at hlt
      cases e
      have g : w.cell? ⟨b, o + k, none⟩ = some (.int .i64 l[k]) := by have := hc k hlt; rw [Nat.mul_one] at this; exact this
      clear hc
      cases hq : (l[k] == n) with
      | true =>
        have HF : Hid (idxI l n 0 = k) := by
          have : l[k] = n := by simpa using hq
          unfold Hid
          rw [idx_at l n 0 k hk HR.out, List.drop_eq_getElem_cons hlt, idxI, if_pos this]; simp
        go_wp2_with fail
        go_ret
        exact ⟨by rw [HF.out]; rfl, rfl⟩
      | false =>
        have HF : Hid (n ∉ l.take (k + 1)) := by
          have : ¬ l[k] = n := by simpa using hq
          unfold Hid
          rw [List.take_succ_eq_append_getElem hlt]
          intro h
          rcases List.mem_append.1 h with h | h
          · exact HR.out h
          · simp at h; exact this h.symm
        go_wp2_with fail
        exact ⟨⟨k + 1, by omega, by go_num, HF.out⟩, by simp [intOf]; omega⟩
    · have HF : Hid (idxI l n 0 = -1) := by
        unfold Hid
        rw [idx_at l n 0 k hk HR.out, List.drop_eq_nil_of_le (by omega)]; rfl
      go_wp2_with fail
      go_ret
      exact ⟨by rw [HF.out]; rfl, rfl⟩

def withinB (a b : List Int) : Bool := a.all fun x => decide (x ∈ b)
end Go.Proofs.YtdiopiekmdfklaaDoor
