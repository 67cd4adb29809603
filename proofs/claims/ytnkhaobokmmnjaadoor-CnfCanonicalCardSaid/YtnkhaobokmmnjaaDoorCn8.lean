/-
  The walks of slices.IndexFunc, slices.ContainsFunc at ints, with a function value that only reads.
-/
import Derived.Test.YtnkhaobokmmnjaaDoorCn7
namespace Go.Proofs.YtnkhaobokmmnjaaDoor
open Go.RowKit

/-- A function value over ints that answers as p says, from every world that has only drawn on. -/
def ReadsP (w : World) (B : Nat) (p : Int → Bool) (c : List Int) : Prop := ∀ x ∈ c, ∀ q : Nat, Calls Tryd.prog 27 #[.int .i64 x, .pointer (some ⟨B, 0, none⟩)] (w.drewN q) fun e w' => e = .returned (.bool (p x)) ∧ ∃ u, w' = w.drewN u

set_option maxRecDepth 100000 in
set_option maxHeartbeats 4000000 in
theorem IndexF_any (c : List Int) (B : Nat) (p : Int → Bool) (v : Value) (w : World) (hc : Ints w v c) (hp : ReadsP w B p c) : Calls Tryd.prog 47 #[v, .func (.func 27) #[] #[.pointer (some ⟨B, 0, none⟩)]] w fun r w' => ∃ z : Int, r = .returned (.int .i64 z) ∧ (0 ≤ z ↔ c.any p = true) ∧ (z = -1 ∨ 0 ≤ z) ∧ ∃ q, w' = w.drewN q := by
  obtain ⟨a, cp, rfl⟩ := hc.shape
  have hlen := SliceAt.len_le hc
  have HC := Lib.hid hc; have HP := Lib.hid hp
  clear hc hp
  go_enter Tryd.func47, Tryd.ntmps47
  go_wp2_with fail
  go_loopw [8] (fun i wr => ∃ k : Nat, k ≤ c.length ∧ i = .int .i64 k ∧ (∃ q, wr = w.drewN q) ∧ (c.take k).any p = false) (fun i _ => c.length - (intOf i).toNat)
  case atStart => exact ⟨0, Nat.zero_le _, rfl, ⟨0, rfl⟩, rfl⟩
  case round =>
    obtain ⟨k, hk, rfl, ⟨q, rfl⟩, hO⟩ := hrel
    have HO := Lib.hid hO; clear hO
    by_cases h1 : k < c.length
    · rcases HC.out.ext ((Ext.refl w).drewN q) with ⟨_, e⟩ | ⟨b1, o1, cap1, e, _, c1⟩
      · rw [e] at h1; simp at h1
      cases e
      have g1 : (w.drewN q).cell? ⟨b1, o1 + k, none⟩ = some (.int .i64 c[k]) := by have := c1 k h1; rw [Nat.mul_one] at this; exact this
      clear c1
      have HK := Lib.hid (HP.out c[k] (List.getElem_mem h1) q)
      have HY : Hid (p c[k] = true → c.any p = true) := fun e => List.any_eq_true.2 ⟨_, List.getElem_mem h1, e⟩
      have HN : Hid (p c[k] = false → (c.take (k + 1)).any p = false) := fun e => by
        rw [List.take_succ_eq_append_getElem h1, List.any_append, HO.out]; simp [e]
      generalize p c[k] = t at *
      generalize c[k] = x at *
      go_wp2_with fail
      refine HK.out.mono ?_
      rintro r w2 ⟨rfl, u, rfl⟩
      cases t with
      | true =>
        have HY2 := Lib.hid (HY.out rfl)
        go_wp2_with fail
        go_ret
        exact ⟨k, rfl, by rw [HY2.out]; simp, .inr (by omega), u, rfl⟩
      | false =>
        have HN2 := Lib.hid (HN.out rfl)
        go_wp2_with fail
        exact ⟨⟨k + 1, by omega, by go_num, ⟨u, rfl⟩, HN2.out⟩, by simp [intOf]; omega⟩
    · have HE : Hid (c.any p = false) := by have := HO.out; rw [List.take_of_length_le (by omega)] at this; exact this
      go_wp2_with fail
      go_ret
      exact ⟨-1, rfl, by rw [HE.out]; simp, .inl rfl, q, rfl⟩
set_option maxHeartbeats 1000000 in
theorem ContainsF_any (c : List Int) (B : Nat) (p : Int → Bool) (v : Value) (w : World) (hc : Ints w v c) (hp : ReadsP w B p c) : Calls Tryd.prog 29 #[v, .func (.func 27) #[] #[.pointer (some ⟨B, 0, none⟩)]] w fun r w' => r = .returned (.bool (c.any p)) ∧ ∃ q, w' = w.drewN q := by
  go_enter Tryd.func29, Tryd.ntmps29
  go_wp2_with fail
  refine (IndexF_any c B p _ w hc hp).mono ?_
  rintro r w2 ⟨z, rfl, h1, h2, q, rfl⟩
  clear hc hp
  cases h : c.any p with
  | true =>
    have h3 : 0 ≤ z := h1.2 h
    clear h1 h2
    go_wp2_with fail
    go_ret
    exact ⟨by rw [h]; rfl, q, rfl⟩
  | false =>
    have h3 : ¬ 0 ≤ z := fun h' => by rw [h1.1 h'] at h; cases h
    have h4 : decide (0 ≤ z) = false := decide_eq_false h3
    clear h1 h2
    go_wp2_with fail
    go_ret
    exact ⟨by rw [h, ← h4]; rfl, q, rfl⟩
end Go.Proofs.YtnkhaobokmmnjaaDoor
