/-
  The walks of isID, isDigest, usableState, usableProof and usable.
-/
import Derived.Test.YtoopoljchhdobaaDoorCt1
namespace Go.Proofs.YtoopoljchhdobaaDoor
open Go.RowKit

theorem all_no {α : Type} {p : α → Bool} {l : List α} {k : Nat} (h : k < l.length) (hp : p l[k] = false) : l.all p = false := by
  rw [Bool.eq_false_iff]; intro c
  rw [List.all_eq_true] at c
  have := c _ (List.getElem_mem h)
  rw [hp] at this; cases this
theorem all_yes {α : Type} {p : α → Bool} {l : List α} (h : ∀ k, (hk : k < l.length) → p l[k] = true) : l.all p = true := by
  rw [List.all_eq_true]; intro x hx
  obtain ⟨k, hk, rfl⟩ := List.getElem_of_mem hx
  exact h k hk
def idC (x : UInt8) : Bool := decide (33 ≤ x.toNat) && decide (x.toNat ≤ 126)

set_option maxHeartbeats 1000000 in
theorem isID_any (l : List UInt8) (w : World) (hl : l.length ≤ 1000000000) : Calls Tryd.prog 43 #[.string ⟨l.toArray⟩] w fun e w' => e = .returned (.bool (idB l)) ∧ w' = w := by
  by_cases h1 : (l.length : Int) < 1
  · have hF : Hid (idB l = false) := by unfold Hid idB; rw [decide_eq_false (by omega)]; rfl
    go_enter Tryd.func43, Tryd.ntmps43
    go_wp2_with fail
    go_ret
    rw [hF.out]; exact ⟨rfl, rfl⟩
  by_cases h2 : (64 : Int) < (l.length : Int)
  · have hF : Hid (idB l = false) := by unfold Hid idB; rw [decide_eq_false (p := l.length ≤ 64) (by omega)]; simp
    go_enter Tryd.func43, Tryd.ntmps43
    go_wp2_with fail
    go_ret
    rw [hF.out]; exact ⟨rfl, rfl⟩
  have hI : Hid (idB l = l.all idC) := by
    unfold Hid idB
    rw [decide_eq_true (by omega), decide_eq_true (p := l.length ≤ 64) (by omega)]; rfl
  go_enter Tryd.func43, Tryd.ntmps43
  go_wp2_with fail
  go_loopw [14] (fun i wr => wr = w ∧ ∃ k : Nat, k ≤ l.length ∧ i = .int .i64 k ∧ ∀ j, (h : j < l.length) → j < k → idC l[j] = true) (fun i _ => l.length - (intOf i).toNat)
  case atStart => exact ⟨rfl, 0, Nat.zero_le _, rfl, fun _ _ h => absurd h (by omega)⟩
  case round =>
    obtain ⟨rfl, k, hk, rfl, hR⟩ := hrel
    have HR := Lib.hid hR; clear hR
    by_cases hlt : k < l.length
    · have j1 : (k : Int) < (l.length : Int) := by omega
      have h255 := l[k].toNat_lt
      have HY : Hid (idC l[k] = true → ∀ j, (h : j < l.length) → j < k + 1 → idC l[j] = true) := fun h j hj hj2 => by
        by_cases c : j = k
        · subst c; exact h
        · exact HR.out j hj (by omega)
      have HN := Lib.hid (fun h => all_no (p := idC) hlt h)
      by_cases c0 : l[k].toNat < 33
      · have b0 : (((⟨l.toArray⟩ : ByteArray)[k]).toNat : Int) < 33 := by show ((l[k].toNat : Nat) : Int) < 33; omega
        have HT := Lib.hid (HN.out (by unfold idC; simp; omega))
        go_wp2_with fail
        go_ret
        rw [hI.out, HT.out]; exact ⟨rfl, rfl⟩
      by_cases c1 : 126 < l[k].toNat
      · have b0 : ¬ ((((⟨l.toArray⟩ : ByteArray)[k]).toNat : Int) < 33) := by show ¬ (((l[k].toNat : Nat) : Int) < 33); omega
        have b1 : 126 < (((⟨l.toArray⟩ : ByteArray)[k]).toNat : Int) := by show 126 < ((l[k].toNat : Nat) : Int); omega
        have HT := Lib.hid (HN.out (by unfold idC; simp; omega))
        go_wp2_with fail
        go_ret
        rw [hI.out, HT.out]; exact ⟨rfl, rfl⟩
      · have b0 : ¬ ((((⟨l.toArray⟩ : ByteArray)[k]).toNat : Int) < 33) := by show ¬ (((l[k].toNat : Nat) : Int) < 33); omega
        have b1 : ¬ (126 < (((⟨l.toArray⟩ : ByteArray)[k]).toNat : Int)) := by show ¬ (126 < ((l[k].toNat : Nat) : Int)); omega
        have HT := Lib.hid (HY.out (by unfold idC; simp; omega))
        go_wp2_with fail
        exact ⟨⟨trivial, k + 1, by omega, by go_num, HT.out⟩, by simp [intOf]; omega⟩
    · have hA : Hid (l.all idC = true) := all_yes fun j hj => HR.out j hj (by omega)
      go_wp2_with fail
      go_ret
      rw [hI.out, hA.out]; exact ⟨rfl, rfl⟩

set_option maxHeartbeats 2000000 in
theorem isDigest_any (l : List UInt8) (w : World) (hl : l.length ≤ 1000000000) : Calls Tryd.prog 44 #[.string ⟨l.toArray⟩] w fun e w' => e = .returned (.bool (digB l)) ∧ w' = w := by
  by_cases h1 : (l.length : Int) = 16
  case neg =>
    have hF : Hid (digB l = false) := by unfold Hid digB; rw [decide_eq_false (by omega)]; rfl
    have hb : ((l.length : Int) != 16) = true := by rw [bne_iff_ne]; exact h1
    go_enter Tryd.func44, Tryd.ntmps44
    go_wp2_with fail
    go_ret
    rw [hF.out]; exact ⟨rfl, rfl⟩
  have hI : Hid (digB l = l.all hexB) := by
    unfold Hid digB
    rw [decide_eq_true (by omega)]; rfl
  have hb : ((l.length : Int) != 16) = false := by rw [h1]; rfl
  have HL := Lib.hid h1; clear h1
  go_enter Tryd.func44, Tryd.ntmps44
  go_wp2_with fail
  go_loopw [9] (fun i wr => wr = w ∧ ∃ k : Nat, k ≤ l.length ∧ i = .int .i64 k ∧ ∀ j, (h : j < l.length) → j < k → hexB l[j] = true) (fun i _ => l.length - (intOf i).toNat)
  case atStart => exact ⟨rfl, 0, Nat.zero_le _, rfl, fun _ _ h => absurd h (by omega)⟩
  case round =>
    obtain ⟨rfl, k, hk, rfl, hR⟩ := hrel
    have HR := Lib.hid hR; clear hR
    by_cases hlt : k < l.length
    · have j1 : (k : Int) < (l.length : Int) := by omega
      have h255 := l[k].toNat_lt
      have HY : Hid (hexB l[k] = true → ∀ j, (h : j < l.length) → j < k + 1 → hexB l[j] = true) := fun h j hj hj2 => by
        by_cases c : j = k
        · subst c; exact h
        · exact HR.out j hj (by omega)
      have HN := Lib.hid (fun h => all_no (p := hexB) hlt h)
      by_cases c0 : l[k].toNat < 48
      · have b0 : (((⟨l.toArray⟩ : ByteArray)[k]).toNat : Int) < 48 := by show ((l[k].toNat : Nat) : Int) < 48; omega
        have b1 : (((⟨l.toArray⟩ : ByteArray)[k]).toNat : Int) < 97 := by show ((l[k].toNat : Nat) : Int) < 97; omega
        have HT := Lib.hid (HN.out (by unfold hexB; simp; omega))
        go_wp2_with fail
        go_ret
        rw [hI.out, HT.out]; exact ⟨rfl, rfl⟩
      by_cases c1 : l[k].toNat ≤ 57
      · have b0 : ¬ ((((⟨l.toArray⟩ : ByteArray)[k]).toNat : Int) < 48) := by show ¬ (((l[k].toNat : Nat) : Int) < 48); omega
        have b1 : ¬ (57 < (((⟨l.toArray⟩ : ByteArray)[k]).toNat : Int)) := by show ¬ (57 < ((l[k].toNat : Nat) : Int)); omega
        have HT := Lib.hid (HY.out (by unfold hexB; simp; omega))
        go_wp2_with fail
        exact ⟨⟨trivial, k + 1, by omega, by go_num, HT.out⟩, by simp [intOf]; omega⟩
      by_cases c2 : l[k].toNat < 97
      · have b0 : ¬ ((((⟨l.toArray⟩ : ByteArray)[k]).toNat : Int) < 48) := by show ¬ (((l[k].toNat : Nat) : Int) < 48); omega
        have b1 : 57 < (((⟨l.toArray⟩ : ByteArray)[k]).toNat : Int) := by show 57 < ((l[k].toNat : Nat) : Int); omega
        have b2 : (((⟨l.toArray⟩ : ByteArray)[k]).toNat : Int) < 97 := by show ((l[k].toNat : Nat) : Int) < 97; omega
        have HT := Lib.hid (HN.out (by unfold hexB; simp; omega))
        go_wp2_with fail
        go_ret
        rw [hI.out, HT.out]; exact ⟨rfl, rfl⟩
      by_cases c3 : l[k].toNat ≤ 102
      · have b0 : ¬ ((((⟨l.toArray⟩ : ByteArray)[k]).toNat : Int) < 48) := by show ¬ (((l[k].toNat : Nat) : Int) < 48); omega
        have b1 : 57 < (((⟨l.toArray⟩ : ByteArray)[k]).toNat : Int) := by show 57 < ((l[k].toNat : Nat) : Int); omega
        have b2 : ¬ ((((⟨l.toArray⟩ : ByteArray)[k]).toNat : Int) < 97) := by show ¬ (((l[k].toNat : Nat) : Int) < 97); omega
        have b3 : ¬ (102 < (((⟨l.toArray⟩ : ByteArray)[k]).toNat : Int)) := by show ¬ (102 < ((l[k].toNat : Nat) : Int)); omega
        have HT := Lib.hid (HY.out (by unfold hexB; simp; omega))
        go_wp2_with fail
        exact ⟨⟨trivial, k + 1, by omega, by go_num, HT.out⟩, by simp [intOf]; omega⟩
      · have b0 : ¬ ((((⟨l.toArray⟩ : ByteArray)[k]).toNat : Int) < 48) := by show ¬ (((l[k].toNat : Nat) : Int) < 48); omega
        have b1 : 57 < (((⟨l.toArray⟩ : ByteArray)[k]).toNat : Int) := by show 57 < ((l[k].toNat : Nat) : Int); omega
        have b2 : ¬ ((((⟨l.toArray⟩ : ByteArray)[k]).toNat : Int) < 97) := by show ¬ (((l[k].toNat : Nat) : Int) < 97); omega
        have b3 : 102 < (((⟨l.toArray⟩ : ByteArray)[k]).toNat : Int) := by show 102 < ((l[k].toNat : Nat) : Int); omega
        have HT := Lib.hid (HN.out (by unfold hexB; simp; omega))
        go_wp2_with fail
        go_ret
        rw [hI.out, HT.out]; exact ⟨rfl, rfl⟩
    · have hA : Hid (l.all hexB = true) := all_yes fun j hj => HR.out j hj (by omega)
      go_wp2_with fail
      go_ret
      rw [hI.out, hA.out]; exact ⟨rfl, rfl⟩
/-- An element of a slice of ints. -/
theorem ints_cell {w : World} {a : Option Addr} {n c : Nat} {l : List Int} (h : Ints w (.slice a n c) l) {k : Nat} (hk : k < l.length) : ∃ b o, a = some ⟨b, o, none⟩ ∧ w.cell? ⟨b, o + k, none⟩ = some (.int .i64 l[k]) := by
  rcases h with ⟨_, e⟩ | ⟨b, o, cap, e, _, hc⟩
  · subst e; simp at hk
  · cases e
    have := hc k hk
    rw [Nat.mul_one] at this
    exact ⟨b, o, rfl, this⟩
def winB (lo hi x : Int) : Bool := decide (lo ≤ x) && decide (x ≤ hi)
theorem within_eq (lo hi : Int) (l : List Int) : withinB lo hi l = l.all (winB lo hi) := rfl

set_option maxHeartbeats 1000000 in
theorem usableState_any (l : List Int) (v : Value) (w : World) (hl : Ints w v l) (hb : l.length ≤ 1000000000) : Calls Tryd.prog 46 #[v] w fun e w' => e = .returned (.bool (stB l)) ∧ Ext w w' := by
  obtain ⟨a, cap, rfl⟩ := hl.shape
  have HL := Lib.hid hl; clear hl
  go_enter Tryd.func46, Tryd.ntmps46
  go_wp2_with fail
  go_loopw [7] (fun i wr => wr = w ∧ ∃ k : Nat, k ≤ l.length ∧ i = .int .i64 k ∧ ∀ j, (h : j < l.length) → j < k → winB 0 255 l[j] = true) (fun i _ => l.length - (intOf i).toNat)
  case atStart => exact ⟨rfl, 0, Nat.zero_le _, rfl, fun _ _ h => absurd h (by omega)⟩
  case round =>
    obtain ⟨rfl, k, hk, rfl, hR⟩ := hrel
    have HR := Lib.hid hR; clear hR
    by_cases hlt : k < l.length
    · obtain ⟨b, o, rfl, g0⟩ := ints_cell HL.out hlt
      have i0 : (0 : Int) ≤ (k : Int) := by omega
      have j1 : (k : Int) < (l.length : Int) := by omega
      have HY : Hid (winB 0 255 l[k] = true → ∀ j, (h : j < l.length) → j < k + 1 → winB 0 255 l[j] = true) := fun h j hj hj2 => by
        by_cases c : j = k
        · subst c; exact h
        · exact HR.out j hj (by omega)
      have HN : Hid (winB 0 255 l[k] = false → stB l = false) := fun h => by unfold stB; rw [within_eq, all_no hlt h]; rfl
      generalize l[k] = x at *
      by_cases c1 : x < 0
      · have HT := Lib.hid (HN.out (by unfold winB; simp; omega))
        go_wp2_with fail
        go_ret
        rw [HT.out]; exact ⟨rfl, Ext.refl _⟩
      by_cases c2 : 255 < x
      · have HT := Lib.hid (HN.out (by unfold winB; simp; omega))
        go_wp2_with fail
        go_ret
        rw [HT.out]; exact ⟨rfl, Ext.refl _⟩
      have HT := Lib.hid (HY.out (by unfold winB; simp; omega))
      go_wp2_with fail
      exact ⟨⟨trivial, k + 1, by omega, by go_num, HT.out⟩, by simp [intOf]; omega⟩
    · have hA : Hid (stB l = decide (l.length ≤ 32)) := by unfold Hid stB; rw [within_eq, all_yes fun j hj => HR.out j hj (by omega)]; rfl
      have hB : Hid (decide (((l.length : Nat) : Int) ≤ 32) = decide (l.length ≤ 32)) := by unfold Hid; congr 1; apply propext; omega
      go_wp2_with fail
      go_ret
      rw [hA.out, ← hB.out]; exact ⟨rfl, Ext.refl _⟩
def stepB (s : St) : Bool := s.lits.all litB && withinB 0 60000 s.hints
theorem prf_eq (l : List St) : prfB l = (decide (l.length ≤ 20000) && l.all stepB) := rfl

set_option maxHeartbeats 2000000 in
set_option maxRecDepth 100000 in
theorem usableProof_any (l : List St) (v : Value) (w : World) (hl : Steps w v l) (hb : ∀ s ∈ l, s.lits.length ≤ 1000000000 ∧ s.hints.length ≤ 1000000000) : Calls Tryd.prog 45 #[v] w fun e w' => e = .returned (.bool (prfB l)) ∧ Ext w w' := by
  obtain ⟨a, cap, rfl⟩ := SliceAt.shape hl
  have hlen := SliceAt.len_le hl
  have HL := Lib.hid hl; have HB := Lib.hid hb; clear hl hb
  go_enter Tryd.func45, Tryd.ntmps45
  by_cases h20 : (20000 : Int) < (l.length : Int)
  · have HF : Hid (prfB l = false) := by unfold Hid; rw [prf_eq, decide_eq_false (by omega)]; rfl
    go_wp2_with fail
    go_ret
    rw [HF.out]; exact ⟨rfl, Ext.refl _⟩
  have HP : Hid (prfB l = l.all stepB) := by unfold Hid; rw [prf_eq, decide_eq_true (by omega)]; rfl
  go_wp2_with fail
  go_loopw [14] (fun i wr => ∃ k : Nat, k ≤ l.length ∧ i = .int .i64 k ∧ Ext w wr ∧ ∀ j, (h : j < l.length) → j < k → stepB l[j] = true) (fun i _ => l.length - (intOf i).toNat)
  case atStart => exact ⟨0, Nat.zero_le _, rfl, Ext.refl _, fun _ _ h => absurd h (by omega)⟩
  case round =>
    obtain ⟨k, hk, rfl, hX, hR⟩ := hrel
    have HR := Lib.hid hR; have HX := Lib.hid hX; clear hR hX
    by_cases hlt : k < l.length
    · obtain ⟨b, o, a1, c1, a2, c2, rfl, g0, g1, i1, i2⟩ := (HL.out.ext HX.out).at hlt
      obtain ⟨hb1, hb2⟩ := HB.out _ (List.getElem_mem hlt)
      have i0 : (0 : Int) ≤ (k : Int) := by omega
      have j1 : (k : Int) < (l.length : Int) := by omega
      have HY : Hid (stepB l[k] = true → ∀ j, (h : j < l.length) → j < k + 1 → stepB l[j] = true) := fun h j hj hj2 => by
        by_cases c : j = k
        · subst c; exact h
        · exact HR.out j hj (by omega)
      have HN : Hid (stepB l[k] = false → prfB l = false) := fun h => by rw [HP.out, all_no hlt h]
      have hst : stepB l[k] = (l[k].lits.all litB && l[k].hints.all (winB 0 60000)) := rfl
      rw [hst] at HY HN
      clear hst
      generalize l[k].lits = ls at *
      generalize l[k].hints = hs at *
      obtain ⟨W1, hW1⟩ : ∃ W1, W1 = wr.alloc (.cells #[.slice a1 ls.length c1, .slice a2 hs.length c2] 54) := ⟨_, rfl⟩
      have hx1 : Ext wr W1 := by rw [hW1]; exact (Ext.refl _).alloc _
      have hB1 : W1.heap[wr.heap.size]? = some (.cells #[.slice a1 ls.length c1, .slice a2 hs.length c2] 54 (0, 0)) := by rw [hW1]; exact heap_new _ _
      have q0 : W1.cell? ⟨wr.heap.size, 0, none⟩ = some (.slice a1 ls.length c1) := by simp [World.cell?, hB1]
      have q1 : W1.cell? ⟨wr.heap.size, 1, none⟩ = some (.slice a2 hs.length c2) := by simp [World.cell?, hB1]
      have HX1 := Lib.hid (HX.out.trans hx1); have HW1 := Lib.hid hW1; have J1 := Lib.hid (i1.ext hx1); have J2 := Lib.hid (i2.ext hx1)
      clear hB1 hx1 hW1 i1 i2
      go_upto_region 6 with fail
      rw [← HW1.out]
      clear HW1 g0 g1
      generalize wr.heap.size = b1 at *
      go_wp2_with fail
      go_loopw [21] (fun i w2 => w2 = W1 ∧ ∃ m : Nat, m ≤ ls.length ∧ i = .int .i64 m ∧ ∀ j, (h : j < ls.length) → j < m → litB ls[j] = true) (fun i _ => ls.length - (intOf i).toNat)
      case atStart => exact ⟨rfl, 0, Nat.zero_le _, rfl, fun _ _ h => absurd h (by omega)⟩
      case round =>
        obtain ⟨rfl, m, hm, rfl, hS⟩ := hrel
        have HS := Lib.hid hS; clear hS
        by_cases hlt2 : m < ls.length
        · obtain ⟨b2, o2, rfl, g0⟩ := ints_cell J1.out hlt2
          have i2 : (0 : Int) ≤ (m : Int) := by omega
          have j2 : (m : Int) < (ls.length : Int) := by omega
          have HY2 : Hid (litB ls[m] = true → ∀ j, (h : j < ls.length) → j < m + 1 → litB ls[j] = true) := fun h j hj hj2 => by
            by_cases c : j = m
            · subst c; exact h
            · exact HS.out j hj (by omega)
          have HN2 : Hid (litB ls[m] = false → prfB l = false) := fun h => HN.out (by rw [all_no hlt2 h]; rfl)
          generalize ls[m] = x at *
          by_cases c1 : x = 0
          · have HT := Lib.hid (HN2.out (by unfold litB; simp [c1]))
            subst c1
            go_wp2_with fail
            go_ret
            rw [HT.out]; exact ⟨rfl, HX1.out⟩
          have c1b : (x == 0) = false := by simpa using c1
          by_cases c2 : x < -8000
          · have HT := Lib.hid (HN2.out (by unfold litB; simp; omega))
            clear c1
            go_wp2_with fail
            go_ret
            rw [HT.out]; exact ⟨rfl, HX1.out⟩
          by_cases c3 : 8000 < x
          · have HT := Lib.hid (HN2.out (by unfold litB; simp; omega))
            clear c1
            go_wp2_with fail
            go_ret
            rw [HT.out]; exact ⟨rfl, HX1.out⟩
          have HT := Lib.hid (HY2.out (by unfold litB; simp; omega))
          clear c1
          go_wp2_with fail
          exact ⟨⟨trivial, m + 1, by omega, by go_num, HT.out⟩, by simp [intOf]; omega⟩
        · have HA : Hid (ls.all litB = true) := all_yes fun j hj => HS.out j hj (by omega)
          go_wp2_with fail
          go_loopw [39] (fun i w3 => w3 = wr ∧ ∃ m : Nat, m ≤ hs.length ∧ i = .int .i64 m ∧ ∀ j, (h : j < hs.length) → j < m → winB 0 60000 hs[j] = true) (fun i _ => hs.length - (intOf i).toNat)
          case atStart => exact ⟨rfl, 0, Nat.zero_le _, rfl, fun _ _ h => absurd h (by omega)⟩
          case round =>
            obtain ⟨rfl, m3, hm3, rfl, hS3⟩ := hrel
            have HS3 := Lib.hid hS3; clear hS3
            by_cases hlt3 : m3 < hs.length
            · obtain ⟨b2, o2, rfl, g0⟩ := ints_cell J2.out hlt3
              have i2 : (0 : Int) ≤ (m3 : Int) := by omega
              have j2 : (m3 : Int) < (hs.length : Int) := by omega
              have HY2 : Hid (winB 0 60000 hs[m3] = true → ∀ j, (h : j < hs.length) → j < m3 + 1 → winB 0 60000 hs[j] = true) := fun h j hj hj2 => by
                by_cases c : j = m3
                · subst c; exact h
                · exact HS3.out j hj (by omega)
              have HN2 : Hid (winB 0 60000 hs[m3] = false → prfB l = false) := fun h => HN.out (by rw [HA.out, all_no hlt3 h]; rfl)
              generalize hs[m3] = x at *
              by_cases c2 : x < 0
              · have HT := Lib.hid (HN2.out (by unfold winB; simp; omega))
                go_wp2_with fail
                go_ret
                rw [HT.out]; exact ⟨rfl, HX1.out⟩
              by_cases c3 : 60000 < x
              · have HT := Lib.hid (HN2.out (by unfold winB; simp; omega))
                go_wp2_with fail
                go_ret
                rw [HT.out]; exact ⟨rfl, HX1.out⟩
              have HT := Lib.hid (HY2.out (by unfold winB; simp; omega))
              go_wp2_with fail
              exact ⟨⟨trivial, m3 + 1, by omega, by go_num, HT.out⟩, by simp [intOf]; omega⟩
            · have HT := Lib.hid (HY.out (by rw [HA.out, all_yes fun j hj => HS3.out j hj (by omega)]; rfl))
              go_wp2_with fail
              exact ⟨⟨k + 1, by omega, by go_num, HX1.out, HT.out⟩, by simp [intOf]; omega⟩
    · have HA : Hid (l.all stepB = true) := all_yes fun j hj => HR.out j hj (by omega)
      go_wp2_with fail
      go_ret
      rw [HP.out, HA.out]; exact ⟨rfl, HX.out⟩
end Go.Proofs.YtoopoljchhdobaaDoor
