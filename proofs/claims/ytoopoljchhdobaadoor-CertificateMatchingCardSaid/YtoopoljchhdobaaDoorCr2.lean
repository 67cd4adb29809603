/-
  The walks of the reference's Label, IsDigest, within, Ints.
  The walks of the reference's Small, Same (of equal certificates) and Hash, of law27's small.
-/
import Derived.Test.YtoopoljchhdobaaDoorCt3
import Derived.Test.YtoopoljchhdobaaDoorPq2
import Derived.Test.YtoopoljchhdobaaDoorQf1
namespace Go.Proofs.YtoopoljchhdobaaDoor
open Go.RowKit

set_option maxHeartbeats 1000000 in
theorem Label_any (l : List UInt8) (w : World) (hl : l.length ≤ 1000000000) : Calls Tryd.prog 27 #[.string ⟨l.toArray⟩] w fun e w' => e = .returned (.bool (idB l)) ∧ w' = w := by
  have hI : Hid (idB l = (decide (1 ≤ l.length) && decide (l.length ≤ 64) && l.all idC)) := rfl
  go_enter Tryd.func27, Tryd.ntmps27
  go_wp2_with fail
  go_loopw [3] (fun i wr => wr = w ∧ ∃ k : Nat, k ≤ l.length ∧ i = .int .i64 k ∧ ∀ j, (h : j < l.length) → j < k → idC l[j] = true) (fun i _ => l.length - (intOf i).toNat)
  case atStart => exact ⟨rfl, 0, Nat.zero_le _, rfl, fun _ _ h => absurd h (by omega)⟩
  case round =>
    obtain ⟨rfl, k, hk, rfl, hR⟩ := hrel
    have HR := Lib.hid hR; clear hR
    by_cases hlt : k < l.length
    · have j1 : (k : Int) < (l.length : Int) := by omega
      have h255 := l[k].toNat_lt
      have HY : Hid (idC l[k] = true → ∀ j, (h : j < l.length) → j < k + 1 → idC l[j] = true) := fun h j hj hj2 => by
        by_cases c : j = k
        · subst c; exact h
        · exact HR.out j hj (by omega)
      have HN : Hid (idC l[k] = false → idB l = false) := fun h => by rw [hI.out, all_no hlt h, Bool.and_false]
      by_cases c0 : l[k].toNat < 33
      · have b0 : (((⟨l.toArray⟩ : ByteArray)[k]).toNat : Int) < 33 := by show ((l[k].toNat : Nat) : Int) < 33; omega
        have HT := Lib.hid (HN.out (by unfold idC; simp; omega))
        go_wp2_with fail
        go_ret
        rw [HT.out]; exact ⟨rfl, rfl⟩
      by_cases c1 : 126 < l[k].toNat
      · have b0 : ¬ ((((⟨l.toArray⟩ : ByteArray)[k]).toNat : Int) < 33) := by show ¬ (((l[k].toNat : Nat) : Int) < 33); omega
        have b1 : 126 < (((⟨l.toArray⟩ : ByteArray)[k]).toNat : Int) := by show 126 < ((l[k].toNat : Nat) : Int); omega
        have HT := Lib.hid (HN.out (by unfold idC; simp; omega))
        go_wp2_with fail
        go_ret
        rw [HT.out]; exact ⟨rfl, rfl⟩
      · have b0 : ¬ ((((⟨l.toArray⟩ : ByteArray)[k]).toNat : Int) < 33) := by show ¬ (((l[k].toNat : Nat) : Int) < 33); omega
        have b1 : ¬ (126 < (((⟨l.toArray⟩ : ByteArray)[k]).toNat : Int)) := by show ¬ (126 < ((l[k].toNat : Nat) : Int)); omega
        have HT := Lib.hid (HY.out (by unfold idC; simp; omega))
        go_wp2_with fail
        exact ⟨⟨trivial, k + 1, by omega, by go_num, HT.out⟩, by simp [intOf]; omega⟩
    · have hA : Hid (idB l = (decide (1 ≤ l.length) && decide (l.length ≤ 64))) := by rw [Hid, hI.out, all_yes fun j hj => HR.out j hj (by omega), Bool.and_true]
      by_cases d1 : 1 ≤ l.length
      · have hB : Hid (idB l = decide ((l.length : Int) ≤ 64)) := by rw [Hid, hA.out, decide_eq_true d1, Bool.true_and]; congr 1; apply propext; omega
        have e1 : (1 : Int) ≤ (l.length : Int) := by omega
        go_wp2_with fail
        go_ret
        rw [hB.out]; exact ⟨rfl, rfl⟩
      · have hB : Hid (idB l = false) := by rw [Hid, hA.out, decide_eq_false d1]; rfl
        have e1 : ¬ (1 : Int) ≤ (l.length : Int) := by omega
        go_wp2_with fail
        go_ret
        rw [hB.out]; exact ⟨rfl, rfl⟩

set_option maxHeartbeats 2000000 in
theorem RIsDigest_any (l : List UInt8) (w : World) (hl : l.length ≤ 1000000000) : Calls Tryd.prog 28 #[.string ⟨l.toArray⟩] w fun e w' => e = .returned (.bool (digB l)) ∧ w' = w := by
  have hI : Hid (digB l = (decide (l.length = 16) && l.all hexB)) := rfl
  go_enter Tryd.func28, Tryd.ntmps28
  go_wp2_with fail
  go_loopw [3] (fun i wr => wr = w ∧ ∃ k : Nat, k ≤ l.length ∧ i = .int .i64 k ∧ ∀ j, (h : j < l.length) → j < k → hexB l[j] = true) (fun i _ => l.length - (intOf i).toNat)
  case atStart => exact ⟨rfl, 0, Nat.zero_le _, rfl, fun _ _ h => absurd h (by omega)⟩
  case round =>
    obtain ⟨rfl, k, hk, rfl, hR⟩ := hrel
    have HR := Lib.hid hR; clear hR
    by_cases hlt : k < l.length
    · have j1 : (k : Int) < (l.length : Int) := by omega
      have h255 := l[k].toNat_lt
      have HY : Hid (hexB l[k] = true → ∀ j, (h : j < l.length) → j < k + 1 → hexB l[j] = true) := fun h j hj hj2 => by
        by_cases c : j = k
        · subst c; exact h
        · exact HR.out j hj (by omega)
      have HN : Hid (hexB l[k] = false → digB l = false) := fun h => by rw [hI.out, all_no hlt h, Bool.and_false]
      by_cases c0 : l[k].toNat < 48
      · have b0 : (((⟨l.toArray⟩ : ByteArray)[k]).toNat : Int) < 48 := by show ((l[k].toNat : Nat) : Int) < 48; omega
        have b1 : (((⟨l.toArray⟩ : ByteArray)[k]).toNat : Int) < 97 := by show ((l[k].toNat : Nat) : Int) < 97; omega
        have HT := Lib.hid (HN.out (by unfold hexB; simp; omega))
        go_wp2_with fail
        go_ret
        rw [HT.out]; exact ⟨rfl, rfl⟩
      by_cases c1 : l[k].toNat ≤ 57
      · have b0 : ¬ ((((⟨l.toArray⟩ : ByteArray)[k]).toNat : Int) < 48) := by show ¬ (((l[k].toNat : Nat) : Int) < 48); omega
        have b1 : ¬ (57 < (((⟨l.toArray⟩ : ByteArray)[k]).toNat : Int)) := by show ¬ (57 < ((l[k].toNat : Nat) : Int)); omega
        have HT := Lib.hid (HY.out (by unfold hexB; simp; omega))
        go_wp2_with fail
        exact ⟨⟨trivial, k + 1, by omega, by go_num, HT.out⟩, by simp [intOf]; omega⟩
      by_cases c2 : l[k].toNat < 97
      · have b0 : ¬ ((((⟨l.toArray⟩ : ByteArray)[k]).toNat : Int) < 48) := by show ¬ (((l[k].toNat : Nat) : Int) < 48); omega
        have b1 : 57 < (((⟨l.toArray⟩ : ByteArray)[k]).toNat : Int) := by show 57 < ((l[k].toNat : Nat) : Int); omega
        have b2 : (((⟨l.toArray⟩ : ByteArray)[k]).toNat : Int) < 97 := by show ((l[k].toNat : Nat) : Int) < 97; omega
        have HT := Lib.hid (HN.out (by unfold hexB; simp; omega))
        go_wp2_with fail
        go_ret
        rw [HT.out]; exact ⟨rfl, rfl⟩
      by_cases c3 : 102 < l[k].toNat
      · have b0 : ¬ ((((⟨l.toArray⟩ : ByteArray)[k]).toNat : Int) < 48) := by show ¬ (((l[k].toNat : Nat) : Int) < 48); omega
        have b1 : 57 < (((⟨l.toArray⟩ : ByteArray)[k]).toNat : Int) := by show 57 < ((l[k].toNat : Nat) : Int); omega
        have b2 : ¬ (((⟨l.toArray⟩ : ByteArray)[k]).toNat : Int) < 97 := by show ¬ ((l[k].toNat : Nat) : Int) < 97; omega
        have b3 : 102 < (((⟨l.toArray⟩ : ByteArray)[k]).toNat : Int) := by show 102 < ((l[k].toNat : Nat) : Int); omega
        have HT := Lib.hid (HN.out (by unfold hexB; simp; omega))
        go_wp2_with fail
        go_ret
        rw [HT.out]; exact ⟨rfl, rfl⟩
      · have b0 : ¬ ((((⟨l.toArray⟩ : ByteArray)[k]).toNat : Int) < 48) := by show ¬ (((l[k].toNat : Nat) : Int) < 48); omega
        have b1 : 57 < (((⟨l.toArray⟩ : ByteArray)[k]).toNat : Int) := by show 57 < ((l[k].toNat : Nat) : Int); omega
        have b2 : ¬ (((⟨l.toArray⟩ : ByteArray)[k]).toNat : Int) < 97 := by show ¬ ((l[k].toNat : Nat) : Int) < 97; omega
        have b3 : ¬ (102 < (((⟨l.toArray⟩ : ByteArray)[k]).toNat : Int)) := by show ¬ (102 < ((l[k].toNat : Nat) : Int)); omega
        have HT := Lib.hid (HY.out (by unfold hexB; simp; omega))
        go_wp2_with fail
        exact ⟨⟨trivial, k + 1, by omega, by go_num, HT.out⟩, by simp [intOf]; omega⟩
    · have hA : Hid (digB l = ((l.length : Int) == 16)) := by
        rw [Hid, hI.out, all_yes fun j hj => HR.out j hj (by omega), Bool.and_true, Bool.eq_iff_iff, beq_iff_eq, decide_eq_true_eq]; omega
      generalize hq : ((l.length : Int) == 16) = q at *
      go_wp2_with fail
      go_ret
      rw [hA.out]; exact ⟨rfl, rfl⟩

set_option maxHeartbeats 1000000 in
theorem Rwithin_any (lo hi : Int) (l : List Int) (v : Value) (w : World) (hl : Ints w v l) : Calls Tryd.prog 29 #[v, .int .i64 lo, .int .i64 hi] w fun e w' => e = .returned (.bool (withinB lo hi l)) ∧ Ext w w' := by
  obtain ⟨a, cap, rfl⟩ := hl.shape
  have hlen := SliceAt.len_le hl
  have HL := Lib.hid hl; clear hl
  go_enter Tryd.func29, Tryd.ntmps29
  go_wp2_with fail
  go_loopw [7] (fun i wr => Ext w wr ∧ ∃ k : Nat, k ≤ l.length ∧ i = .int .i64 k ∧ ∀ j, (h : j < l.length) → j < k → winB lo hi l[j] = true) (fun i _ => l.length - (intOf i).toNat)
  case atStart => exact ⟨Ext.refl _, 0, Nat.zero_le _, rfl, fun _ _ h => absurd h (by omega)⟩
  case round =>
    obtain ⟨hX, k, hk, rfl, hR⟩ := hrel
    have HR := Lib.hid hR; have HX := Lib.hid hX; clear hR hX
    by_cases hlt : k < l.length
    · obtain ⟨b, o, rfl, g0⟩ := ints_cell (HL.out.ext HX.out) hlt
      have i0 : (0 : Int) ≤ (k : Int) := by omega
      have j1 : (k : Int) < (l.length : Int) := by omega
      have HY : Hid (winB lo hi l[k] = true → ∀ j, (h : j < l.length) → j < k + 1 → winB lo hi l[j] = true) := fun h j hj hj2 => by
        by_cases c : j = k
        · subst c; exact h
        · exact HR.out j hj (by omega)
      have HN : Hid (winB lo hi l[k] = false → withinB lo hi l = false) := fun h => by rw [within_eq, all_no hlt h]
      generalize l[k] = x at *
      by_cases c1 : x < lo
      · have HT := Lib.hid (HN.out (by unfold winB; simp; omega))
        go_wp2_with fail
        go_ret
        rw [HT.out]; exact ⟨rfl, HX.out⟩
      by_cases c2 : hi < x
      · have HT := Lib.hid (HN.out (by unfold winB; simp; omega))
        go_wp2_with fail
        go_ret
        rw [HT.out]; exact ⟨rfl, HX.out⟩
      have HT := Lib.hid (HY.out (by unfold winB; simp; omega))
      go_wp2_with fail
      exact ⟨⟨HX.out, k + 1, by omega, by go_num, HT.out⟩, by simp [intOf]; omega⟩
    · have hA : Hid (withinB lo hi l = true) := by rw [Hid, within_eq, all_yes fun j hj => HR.out j hj (by omega)]
      go_wp2_with fail
      go_ret
      rw [hA.out]; exact ⟨rfl, HX.out⟩

set_option maxHeartbeats 1000000 in
/-- Equal lists. -/
theorem RInts7_q (l m : List Int) (vl vm : Value) (w : World) (hl : Ints w vl l) (hm : Ints w vm m) : Calls Tryd.prog 30 #[vl, vm] w fun r w' => r = .returned (.bool (decide (l = m))) ∧ ∃ q, w' = w.drewN q := by
  obtain ⟨la, lc, rfl⟩ := hl.shape
  obtain ⟨ma, mc, rfl⟩ := hm.shape
  have hlen := SliceAt.len_le hl
  have hlen2 := SliceAt.len_le hm
  have HL := Lib.hid hl; have HM := Lib.hid hm; clear hl hm
  by_cases he : l.length = m.length
  · have heb : (((l.length : Nat) : Int) != ((m.length : Nat) : Int)) = false := by rw [he]; simp
    have HEQ := Lib.hid he; clear he
    go_enter Tryd.func30, Tryd.ntmps30
    go_wp2_with fail
    go_loopw [5] (fun i wr => ∃ k : Nat, k ≤ l.length ∧ i = .int .i64 k ∧ (∃ q, wr = w.drewN q) ∧ ∀ j, j < k → l.getD j 0 = m.getD j 0) (fun i _ => l.length - (intOf i).toNat)
    case atStart => exact ⟨0, Nat.zero_le _, rfl, ⟨0, rfl⟩, fun j h => absurd h (by omega)⟩
    case round =>
      obtain ⟨k, hk, rfl, hX, hR⟩ := hrel
      obtain ⟨q, hq0⟩ := hX
      have HQ := Lib.hid hq0
      have HX : Hid (Ext w wr) := by unfold Hid; rw [hq0]; exact (Ext.refl w).drewN q
      have HR := Lib.hid hR; clear hq0 hR
      have HD : Hid (∀ m : Nat, ∃ u, wr.drewN m = w.drewN u) := fun m => ⟨q + m, by rw [HQ.out, World.drewN_drewN]⟩
      by_cases hlt : k < l.length
      · rcases HL.out with ⟨_, e⟩ | ⟨b, o, cap', e, _, hc⟩
        · rw [e] at hlt; simp at hlt
        cases e
        rcases HM.out with ⟨_, e⟩ | ⟨b2, o2, cap2, e, _, hc2⟩
        · have := HEQ.out; rw [e] at this; simp at this; rw [this] at hlt; simp at hlt
        cases e
        have hlt2 : k < m.length := by have := HEQ.out; omega
        have g0 : wr.cell? ⟨b, o + k, none⟩ = some (.int .i64 (l.getD k 0)) := by have := HX.out.cell (hc k hlt); rw [Nat.mul_one] at this; rw [this]; simp [List.getD, hlt]
        have g1 : wr.cell? ⟨b2, o2 + k, none⟩ = some (.int .i64 (m.getD k 0)) := by have := HX.out.cell (hc2 k hlt2); rw [Nat.mul_one] at this; rw [this]; simp [List.getD, hlt2]
        clear hc hc2
        have HS : Hid (l = m → l.getD k 0 = m.getD k 0) := fun h => by rw [h]
        generalize ex : l.getD k 0 = x at *
        generalize ey : m.getD k 0 = y at *
        have EX := Lib.hid ex; have EY := Lib.hid ey; clear ex ey
        have i0 : (0 : Int) ≤ (k : Int) := by omega
        have i1 : (k : Int) < (l.length : Int) := by omega
        have i2 : (k : Int) < (m.length : Int) := by omega
        cases hq : (x != y) with
        | true =>
          have HF : Hid (decide (l = m) = false) := decide_eq_false fun h => by
            have := HS.out h; rw [this] at hq; simp at hq
          clear HS
          go_upto_region 6 with fail
          go_quiet (fail)
          go_wp2_with fail
          go_ret
          exact ⟨by rw [HF.out]; rfl, HD.out _⟩
        | false =>
          have HF : Hid (x = y) := by unfold Hid; simpa using hq
          clear HS
          go_upto_region 6 with fail
          go_quiet (fail)
          go_wp2_with fail
          refine ⟨⟨k + 1, by omega, by go_num, HD.out _, fun j hj => ?_⟩, by simp [intOf]; omega⟩
          by_cases c : j = k
          · subst c; rw [EX.out, EY.out]; exact HF.out
          · exact HR.out j (by omega)
      · have HF : Hid (decide (l = m) = true) := decide_eq_true (List.ext_getElem HEQ.out fun i h1 h2 => by
          have := HR.out i (by omega)
          simpa [List.getD, h1, h2] using this)
        go_wp2_with fail
        go_ret
        exact ⟨by rw [HF.out]; rfl, q, HQ.out⟩
  · have heb : (((l.length : Nat) : Int) != ((m.length : Nat) : Int)) = true := by rw [bne_iff_ne]; omega
    have HF : Hid (decide (l = m) = false) := decide_eq_false fun h => he (by rw [h])
    go_enter Tryd.func30, Tryd.ntmps30
    go_wp2_with fail
    go_ret
    exact ⟨by rw [HF.out]; rfl, 0, rfl⟩

def fewS (s : St) : Bool := decide (s.lits.length ≤ 100) && decide (s.hints.length ≤ 100)
def smallC (x : CertS) : Bool := decide (x.id.length ≤ 200) && (decide (x.dig.length ≤ 200) && (decide (x.prf.length ≤ 300) && (decide (x.old.length ≤ 100) && (decide (x.now.length ≤ 100) && x.prf.all fewS))))
structure SmallI (x : CertS) : Prop where
  id : x.id.length ≤ 200
  dig : x.dig.length ≤ 200
  len : x.prf.length ≤ 300
  prf : ∀ s ∈ x.prf, s.lits.length ≤ 100 ∧ s.hints.length ≤ 100
  old : x.old.length ≤ 100
  now : x.now.length ≤ 100
theorem smallC_parts {x : CertS} (h : smallC x = true) : SmallI x := by
  unfold smallC at h
  simp only [Bool.and_eq_true, decide_eq_true_eq, List.all_eq_true] at h
  obtain ⟨h1, h2, h3, h4, h5, h6⟩ := h
  refine ⟨h1, h2, h3, fun s hs => ?_, h4, h5⟩
  have := h6 s hs
  unfold fewS at this
  simp only [Bool.and_eq_true, decide_eq_true_eq] at this
  exact this
theorem SmallI.few {x : CertS} (h : SmallI x) : Few x :=
  ⟨by have := h.id; omega, by have := h.dig; omega, fun s hs => by have := h.prf s hs; omega, by have := h.old; omega, by have := h.now; omega⟩

set_option maxHeartbeats 4000000 in
set_option maxRecDepth 100000 in
theorem RSmallC_any (x : CertS) (vx : Value) (w : World) (hx : CertV w vx x) : Calls Tryd.prog 8 #[vx] w fun r w' => r = .returned (.bool (smallC x)) ∧ Ext w w' := by
  obtain ⟨pa, pc, oa, oc, na, nc, rfl, hx⟩ := hx
  have hl1 := SliceAt.len_le hx.1
  have hl2 := SliceAt.len_le hx.2.1
  have hl3 := SliceAt.len_le hx.2.2
  have HIN := Lib.hid hx
  clear hx
  have HU : Hid (smallC x = (decide (x.id.length ≤ 200) && (decide (x.dig.length ≤ 200) && (decide (x.prf.length ≤ 300) && (decide (x.old.length ≤ 100) && (decide (x.now.length ≤ 100) && x.prf.all fewS)))))) := rfl
  obtain ⟨W, hW⟩ : ∃ W, W = w.alloc (.cells (certCells x pa pc oa oc na nc) 25) := ⟨_, rfl⟩
  have hX : Ext w W := by rw [hW]; exact (Ext.refl _).alloc _
  have hC : CertAt W w.heap.size x pa pc oa oc na nc := by rw [hW]; exact heap_new _ _
  obtain ⟨q0, q1, q2, q3, q4, q5⟩ := hC.cells
  have HC := Lib.hid hC; have HX := Lib.hid hX; have HWE := Lib.hid hW
  clear hC hX hW
  unfold certCells at *
  go_enter Tryd.func8, Tryd.ntmps8
  go_upto_region 1 with fail
  rw [← HWE.out]
  clear HWE
  generalize w.heap.size = b at *
  by_cases c1 : (200 : Int) < (x.id.length : Int)
  · have HF : Hid (smallC x = false) := by rw [Hid, HU.out, decide_eq_false (by omega)]; rfl
    go_wp2_with fail
    go_ret
    rw [HF.out]; exact ⟨rfl, HX.out⟩
  by_cases c2 : (200 : Int) < (x.dig.length : Int)
  · have HF : Hid (smallC x = false) := by rw [Hid, HU.out, decide_eq_false (p := x.dig.length ≤ 200) (by omega)]; simp
    go_wp2_with fail
    go_ret
    rw [HF.out]; exact ⟨rfl, HX.out⟩
  by_cases c3 : (300 : Int) < (x.prf.length : Int)
  · have HF : Hid (smallC x = false) := by rw [Hid, HU.out, decide_eq_false (p := x.prf.length ≤ 300) (by omega)]; simp
    go_wp2_with fail
    go_ret
    rw [HF.out]; exact ⟨rfl, HX.out⟩
  by_cases c4 : (100 : Int) < (x.old.length : Int)
  · have HF : Hid (smallC x = false) := by rw [Hid, HU.out, decide_eq_false (p := x.old.length ≤ 100) (by omega)]; simp
    go_wp2_with fail
    go_ret
    rw [HF.out]; exact ⟨rfl, HX.out⟩
  by_cases c5 : (100 : Int) < (x.now.length : Int)
  · have HF : Hid (smallC x = false) := by rw [Hid, HU.out, decide_eq_false (p := x.now.length ≤ 100) (by omega)]; simp
    go_wp2_with fail
    go_ret
    rw [HF.out]; exact ⟨rfl, HX.out⟩
  have HP : Hid (smallC x = x.prf.all fewS) := by
    rw [Hid, HU.out, decide_eq_true (p := x.id.length ≤ 200) (by omega), decide_eq_true (p := x.dig.length ≤ 200) (by omega), decide_eq_true (p := x.prf.length ≤ 300) (by omega), decide_eq_true (p := x.old.length ≤ 100) (by omega), decide_eq_true (p := x.now.length ≤ 100) (by omega)]; rfl
  have hlen : x.prf.length ≤ 300 := by omega
  have HS := Lib.hid HIN.out.1
  clear HIN HU
  go_upto_region 4 with fail
  clear q0 q1 q2 q4 q5 c1 c2 c3 c4 c5
  generalize x.prf = l at *
  go_loopw [3] (fun i wr => ∃ k : Nat, k ≤ l.length ∧ i = .int .i64 k ∧ wr = W ∧ ∀ j, (h : j < l.length) → j < k → fewS l[j] = true) (fun i _ => l.length - (intOf i).toNat)
  case atStart => exact ⟨0, Nat.zero_le _, rfl, rfl, fun _ _ h => absurd h (by omega)⟩
  case round =>
    obtain ⟨k, hk, rfl, rfl, hR⟩ := hrel
    have HR := Lib.hid hR; clear hR
    by_cases hlt : k < l.length
    · obtain ⟨b2, o, a1, c1, a2, c2, rfl, g0, g1, i1, i2⟩ := (HS.out.ext HX.out).at hlt
      have h1 := SliceAt.len_le i1
      have h2 := SliceAt.len_le i2
      have i0 : (0 : Int) ≤ (k : Int) := by omega
      have j1 : (k : Int) < (l.length : Int) := by omega
      have HY : Hid (fewS l[k] = true → ∀ j, (h : j < l.length) → j < k + 1 → fewS l[j] = true) := fun h j hj hj2 => by
        by_cases c : j = k
        · subst c; exact h
        · exact HR.out j hj (by omega)
      have HN : Hid (fewS l[k] = false → smallC x = false) := fun h => by rw [HP.out, all_no hlt h]
      have hst : fewS l[k] = (decide (l[k].lits.length ≤ 100) && decide (l[k].hints.length ≤ 100)) := rfl
      rw [hst] at HY HN
      clear hst i1 i2
      generalize l[k].lits.length = n1 at *
      generalize l[k].hints.length = n2 at *
      by_cases d1 : (100 : Int) < (n1 : Int)
      · have HT := Lib.hid (HN.out (by rw [decide_eq_false (by omega)]; rfl))
        go_wp2_with fail
        go_ret
        rw [HT.out]; exact ⟨rfl, HX.out⟩
      by_cases d2 : (100 : Int) < (n2 : Int)
      · have HT := Lib.hid (HN.out (by rw [decide_eq_false (p := n2 ≤ 100) (by omega), Bool.and_false]))
        go_wp2_with fail
        go_ret
        rw [HT.out]; exact ⟨rfl, HX.out⟩
      have HT := Lib.hid (HY.out (by rw [decide_eq_true (by omega), decide_eq_true (p := n2 ≤ 100) (by omega)]; rfl))
      go_wp2_with fail
      exact ⟨⟨k + 1, by omega, by go_num, trivial, HT.out⟩, by simp [intOf]; omega⟩
    · have HA : Hid (l.all fewS = true) := all_yes fun j hj => HR.out j hj (by omega)
      go_wp2_with fail
      go_ret
      rw [HP.out, HA.out]; exact ⟨rfl, HX.out⟩

theorem ints_eq {l : List Int} : decide (l = l) = true := decide_eq_true rfl
set_option maxHeartbeats 4000000 in
set_option maxRecDepth 100000 in
/-- Equal certificates are the same. -/
theorem RSameC_self (x : CertS) (va vb : Value) (w : World) (ha : CertV w va x) (hb : CertV w vb x) : Calls Tryd.prog 12 #[va, vb] w fun r w' => r = .returned (.bool true) ∧ Ext w w' := by
  obtain ⟨pa, pc, oa, oc, na, nc, rfl, hx⟩ := ha
  obtain ⟨pa', pc', oa', oc', na', nc', rfl, hy⟩ := hb
  have HS : Hid (∀ w', Ext w w' → Calls Tryd.prog 14 #[.slice pa x.prf.length pc, .slice pa' x.prf.length pc'] w' fun r w2 => r = .returned (.bool true) ∧ Ext w' w2) := fun w' he => by
    refine (RSame_any x.prf x.prf _ _ w' (hx.1.ext he) (hy.1.ext he)).mono ?_
    rintro r w2 ⟨rfl, h⟩
    exact ⟨by rw [sameP_iff.2 rfl], h⟩
  have HO : Hid (∀ w', Ext w w' → Calls Tryd.prog 30 #[.slice oa x.old.length oc, .slice oa' x.old.length oc'] w' fun r w2 => r = .returned (.bool true) ∧ Ext w' w2) := fun w' he => by
    refine (RInts7_q x.old x.old _ _ w' (hx.2.1.ext he) (hy.2.1.ext he)).mono ?_
    rintro r w2 ⟨rfl, q, rfl⟩
    exact ⟨by rw [ints_eq], (Ext.refl _).drewN q⟩
  have HN : Hid (∀ w', Ext w w' → Calls Tryd.prog 30 #[.slice na x.now.length nc, .slice na' x.now.length nc'] w' fun r w2 => r = .returned (.bool true) ∧ Ext w' w2) := fun w' he => by
    refine (RInts7_q x.now x.now _ _ w' (hx.2.2.ext he) (hy.2.2.ext he)).mono ?_
    rintro r w2 ⟨rfl, q, rfl⟩
    exact ⟨by rw [ints_eq], (Ext.refl _).drewN q⟩
  clear hx hy
  obtain ⟨W, hW⟩ : ∃ W, W = (w.alloc (.cells (certCells x pa pc oa oc na nc) 25)).alloc (.cells (certCells x pa' pc' oa' oc' na' nc') 25) := ⟨_, rfl⟩
  have hX : Ext w W := by rw [hW]; exact ((Ext.refl _).alloc _).alloc _
  have hC : CertAt W w.heap.size x pa pc oa oc na nc := by rw [hW]; exact (heap_alloc_old _ _ (by simp)).trans (heap_new _ _)
  have hD : CertAt W (w.heap.size + 1) x pa' pc' oa' oc' na' nc' := by
    have := heap_new (w.alloc (.cells (certCells x pa pc oa oc na nc) 25)) (.cells (certCells x pa' pc' oa' oc' na' nc') 25)
    rw [World.size_alloc] at this; rw [hW]; exact this
  have HC := Lib.hid hC; have HD := Lib.hid hD; have HX := Lib.hid hX; have HWE := Lib.hid hW
  obtain ⟨q0, q1, q2, q3, q4, q5⟩ := hC.cells
  obtain ⟨p0, p1, p2, p3, p4, p5⟩ := hD.cells
  clear hC hD hX hW
  unfold certCells at *
  go_enter Tryd.func12, Tryd.ntmps12
  go_upto_region 1 with fail
  rw [← HWE.out]
  clear HWE
  generalize w.heap.size = b at *
  generalize x.id = xi at *
  generalize x.dig = xd at *
  generalize x.ver = xv at *
  go_wp2_with (first
    | (go_at_call 14; refine (HS.out _ HX.out).mono ?_; rintro r w1 ⟨rfl, x1⟩; clear q0 q1 q2 q3 p0 p1 p2 p3; have q4 := x1.cell q4; have q5 := x1.cell q5; have p4 := x1.cell p4; have p5 := x1.cell p5; have HX1 := Lib.hid (HX.out.trans x1); clear x1)
    | (have hgo := HX2.out; clear hgo; go_at_call 30; refine (HN.out _ HX2.out).mono ?_; rintro r w3 ⟨rfl, x3⟩; have HX3 := Lib.hid (HX2.out.trans x3); clear x3)
    | (go_at_call 30; refine (HO.out _ HX1.out).mono ?_; rintro r w2 ⟨rfl, x2⟩; clear q4 p4; have q5 := x2.cell q5; have p5 := x2.cell p5; have HX2 := Lib.hid (HX1.out.trans x2); clear x2))
  go_ret
  exact ⟨rfl, HX3.out⟩
end Go.Proofs.YtoopoljchhdobaaDoor
