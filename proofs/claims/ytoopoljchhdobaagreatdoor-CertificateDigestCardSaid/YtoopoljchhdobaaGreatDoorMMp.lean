/-
  The walks of the reference's Same and of law25's clause, ranged.
  The walks of the reference's Label, IsDigest, within, Ints.
  The walks of the reference's Small, Same (of equal certificates) and Hash, of law27's small.
  The walks of the reference's Hash and of law27's small.
  The walk of law27's head.
-/
import Derived.Test.YtoopoljchhdobaaGreatDoorMMh
import Derived.BigQuiet
import Derived.Test.YtoopoljchhdobaaGreatDoorMMi
import Derived.Test.YtoopoljchhdobaaGreatDoorMMf
import Derived.Test.YtoopoljchhdobaaGreatDoorMMo
namespace Go.Proofs.YtoopoljchhdobaaGreatDoor
open Go.RowKit

open Classical in
noncomputable def sameP (l m : List St) : Bool := decide (l = m)
theorem sameP_iff {l m : List St} : sameP l m = true ↔ l = m := by simp [sameP]
theorem sameP_no {l m : List St} (h : ¬ l = m) : sameP l m = false := by rw [Bool.eq_false_iff]; exact fun c => h (sameP_iff.1 c)
theorem st_ext {s t : St} (h1 : s.lits = t.lits) (h2 : s.hints = t.hints) : s = t := by cases s; cases t; simp_all
theorem Steps.getD_at {w : World} {a : Option Addr} {n c : Nat} {l : List St} (h : Steps w (.slice a n c) l) {k : Nat} (hk : k < l.length) : ∃ b o a1 c1 a2 c2, a = some ⟨b, o, none⟩ ∧ w.cell? ⟨b, o + k * 2, none⟩ = some (.slice a1 (l.getD k st0).lits.length c1) ∧ w.cell? ⟨b, o + k * 2 + 1, none⟩ = some (.slice a2 (l.getD k st0).hints.length c2) ∧
    Ints w (.slice a1 (l.getD k st0).lits.length c1) (l.getD k st0).lits ∧ Ints w (.slice a2 (l.getD k st0).hints.length c2) (l.getD k st0).hints := by
  have : l.getD k st0 = l[k] := by simp [List.getD, hk]
  rw [this]; exact h.at hk
set_option maxRecDepth 100000 in
set_option maxHeartbeats 4000000 in
theorem RSame_any (l m : List St) (vl vm : Value) (w : World) (hl : Steps w vl l) (hm : Steps w vm m) : Calls Tryz.prog 36 #[vl, vm] w fun r w' => r = .returned (.bool (sameP l m)) ∧ Ext w w' := by
  obtain ⟨la, lc, rfl⟩ := SliceAt.shape hl
  obtain ⟨ma, mc, rfl⟩ := SliceAt.shape hm
  have hlen := SliceAt.len_le hl
  have hlen2 := SliceAt.len_le hm
  have HL := Lib.hid hl; have HM := Lib.hid hm; clear hl hm
  by_cases he : l.length = m.length
  · have heb : (((l.length : Nat) : Int) != ((m.length : Nat) : Int)) = false := by rw [he]; simp
    have HEQ := Lib.hid he; clear he
    go_enter Tryz.func36, Tryz.ntmps36
    go_wp2_with fail
    go_loopw [5] (fun i wr => ∃ k : Nat, k ≤ l.length ∧ i = .int .i64 k ∧ Ext w wr ∧ ∀ j, j < k → l.getD j st0 = m.getD j st0) (fun i _ => l.length - (intOf i).toNat)
    case atStart => exact ⟨0, Nat.zero_le _, rfl, Ext.refl _, fun j h => absurd h (by omega)⟩
    case round =>
      obtain ⟨k, hk, rfl, hX, hR⟩ := hrel
      have HX := Lib.hid hX; have HR := Lib.hid hR; clear hX hR
      by_cases hlt : k < l.length
      · have hlt2 : k < m.length := by have := HEQ.out; omega
        obtain ⟨b, o, a1, c1, a2, c2, rfl, g0, g1, i1, i2⟩ := (HL.out.ext HX.out).getD_at hlt
        obtain ⟨b', o', a1', c1', a2', c2', rfl, g0', g1', i1', i2'⟩ := (HM.out.ext HX.out).getD_at hlt2
        have HS : Hid (l = m → l.getD k st0 = m.getD k st0) := fun h => by rw [h]
        have HY : Hid ((l.getD k st0).lits = (m.getD k st0).lits → (l.getD k st0).hints = (m.getD k st0).hints → ∀ j, j < k + 1 → l.getD j st0 = m.getD j st0) := fun h1 h2 j hj => by
          by_cases c : j = k
          · subst c; exact st_ext h1 h2
          · exact HR.out j (by omega)
        have HC1 : Hid (∀ q : Nat, Calls Tryz.prog 59 #[.slice a1 (l.getD k st0).lits.length c1, .slice a1' (m.getD k st0).lits.length c1'] (wr.drewN q) fun e w' => e = .returned (.bool (decide ((l.getD k st0).lits = (m.getD k st0).lits))) ∧ ∃ u, w' = wr.drewN u) := fun q => Calls.quiet_of (RInts_q _ _ _ _ _ (i1.ext ((Ext.refl _).drewN q)) (i1'.ext ((Ext.refl _).drewN q)))
        have HC2 : Hid (∀ q : Nat, Calls Tryz.prog 59 #[.slice a2 (l.getD k st0).hints.length c2, .slice a2' (m.getD k st0).hints.length c2'] (wr.drewN q) fun e w' => e = .returned (.bool (decide ((l.getD k st0).hints = (m.getD k st0).hints))) ∧ ∃ u, w' = wr.drewN u) := fun q => Calls.quiet_of (RInts_q _ _ _ _ _ (i2.ext ((Ext.refl _).drewN q)) (i2'.ext ((Ext.refl _).drewN q)))
        clear i1 i2 i1' i2'
        generalize l.getD k st0 = s at *
        generalize m.getD k st0 = t at *
        have i0 : (0 : Int) ≤ (k : Int) := by omega
        have j1 : (k : Int) < (l.length : Int) := by omega
        have j2 : (k : Int) < (m.length : Int) := by omega
        by_cases e1 : s.lits = t.lits
        · rw [decide_eq_true e1] at HC1
          by_cases e2 : s.hints = t.hints
          · rw [decide_eq_true e2] at HC2
            have HF := Lib.hid (HY.out e1 e2)
            clear HS HY e1 e2
            generalize s.lits.length = n1 at *
            generalize t.lits.length = n1' at *
            generalize s.hints.length = n2 at *
            generalize t.hints.length = n2' at *
            go_upto_region 6 with fail
            go_quiet ((go_at_call 59; first | with_reducible exact HC1.out _ | with_reducible exact HC2.out _))
            go_wp2_with fail
            exact ⟨⟨k + 1, by omega, by go_num, HX.out.drewN _, HF.out⟩, by simp [intOf]; omega⟩
          · rw [decide_eq_false e2] at HC2
            have HF : Hid (sameP l m = false) := sameP_no fun h => e2 (by rw [HS.out h])
            clear HS HY e1 e2
            generalize s.lits.length = n1 at *
            generalize t.lits.length = n1' at *
            generalize s.hints.length = n2 at *
            generalize t.hints.length = n2' at *
            go_upto_region 6 with fail
            go_quiet ((go_at_call 59; first | with_reducible exact HC1.out _ | with_reducible exact HC2.out _))
            go_wp2_with fail
            go_ret
            exact ⟨by rw [HF.out]; rfl, HX.out.drewN _⟩
        · rw [decide_eq_false e1] at HC1
          have HF : Hid (sameP l m = false) := sameP_no fun h => e1 (by rw [HS.out h])
          clear HS HY e1 HC2
          generalize s.lits.length = n1 at *
          generalize t.lits.length = n1' at *
          generalize s.hints.length = n2 at *
          generalize t.hints.length = n2' at *
          go_upto_region 6 with fail
          go_quiet ((go_at_call 59; with_reducible exact HC1.out _))
          go_wp2_with fail
          go_ret
          exact ⟨by rw [HF.out]; rfl, HX.out.drewN _⟩
      · have HF : Hid (sameP l m = true) := sameP_iff.2 (List.ext_getElem HEQ.out fun i h1 h2 => by
          have := HR.out i (by omega)
          simpa [List.getD, h1, h2] using this)
        go_wp2_with fail
        go_ret
        exact ⟨by rw [HF.out]; rfl, HX.out⟩
  · have heb : (((l.length : Nat) : Int) != ((m.length : Nat) : Int)) = true := by rw [bne_iff_ne]; omega
    have HF : Hid (sameP l m = false) := sameP_no fun h => he (by rw [h])
    go_enter Tryz.func36, Tryz.ntmps36
    go_wp2_with fail
    go_ret
    exact ⟨by rw [HF.out]; rfl, Ext.refl w⟩
theorem Lists.at {w : World} {a : Option Addr} {n c : Nat} {l : List (List Int)} (h : Lists w (.slice a n c) l) {k : Nat} (hk : k < l.length) : ∃ b o a1 c1, a = some ⟨b, o, none⟩ ∧ w.cell? ⟨b, o + k, none⟩ = some (.slice a1 (l.getD k []).length c1) ∧ Ints w (.slice a1 (l.getD k []).length c1) (l.getD k []) := by
  have e0 : l.getD k [] = l[k] := by simp [List.getD, hk]
  rw [e0]
  rcases h with ⟨_, e⟩ | ⟨b, o, cap, e, _, hc⟩
  · subst e; simp at hk
  · cases e
    obtain ⟨v, h1, h2⟩ := hc k hk
    obtain ⟨a1, c1, rfl⟩ := h2.shape
    rw [Nat.mul_one] at h1
    exact ⟨b, o, a1, c1, rfl, h1, h2⟩
end Go.Proofs.YtoopoljchhdobaaGreatDoor
namespace Go.Proofs.YtoopoljchhdobaaGreatDoor
open Go.RowKit

set_option maxHeartbeats 2000000 in
theorem RIsDigest_any (l : List UInt8) (w : World) (hl : l.length ≤ 1000000000) : Calls Tryz.prog 9 #[.string ⟨l.toArray⟩] w fun e w' => e = .returned (.bool (digB l)) ∧ w' = w := by
  have hI : Hid (digB l = (decide (l.length = 16) && l.all hexB)) := rfl
  go_enter Tryz.func9, Tryz.ntmps9
  go_wp2_with fail
  go_loopw [3] (fun i wr => wr = w ∧ ∃ k : Nat, k ≤ l.length ∧ i = .int .i64 k ∧ ∀ j, (h : j < l.length) → j < k → hexB l[j] = true) (fun i _ => l.length - (intOf i).toNat)
  case atStart => exact ⟨rfl, 0, Nat.zero_le _, rfl, fun _ _ h => absurd h (by omega)⟩
  case round =>
    obtain ⟨rfl, k, hk, rfl, hR⟩ := hrel
    have HR := Lib.hid hR; clear hR
    by_cases hlt : k < l.length
    · have j1 : (k : Int) < (l.length : Int) := by omega
      have h255 := l[k].toNat_lt
      have HY : Hid (hexB l[k] = true → ∀ j, (h : j < l.length) → j < k + 1 → hexB l[j] = true) := fun h j hj hj2 => by
        by_cases c : j = k
        · subst c; exact h
        · exact HR.out j hj (by omega)
      have HN : Hid (hexB l[k] = false → digB l = false) := fun h => by rw [hI.out, all_no hlt h, Bool.and_false]
      by_cases c0 : l[k].toNat < 48
      · have b0 : (((⟨l.toArray⟩ : ByteArray)[k]).toNat : Int) < 48 := by show ((l[k].toNat : Nat) : Int) < 48; omega
        have b1 : (((⟨l.toArray⟩ : ByteArray)[k]).toNat : Int) < 97 := by show ((l[k].toNat : Nat) : Int) < 97; omega
        have HT := Lib.hid (HN.out (by unfold hexB; simp; omega))
        go_wp2_with fail
        go_ret
        rw [HT.out]; exact ⟨rfl, rfl⟩
      by_cases c1 : l[k].toNat ≤ 57
      · have b0 : ¬ ((((⟨l.toArray⟩ : ByteArray)[k]).toNat : Int) < 48) := by show ¬ (((l[k].toNat : Nat) : Int) < 48); omega
        have b1 : ¬ (57 < (((⟨l.toArray⟩ : ByteArray)[k]).toNat : Int)) := by show ¬ (57 < ((l[k].toNat : Nat) : Int)); omega
        have HT := Lib.hid (HY.out (by unfold hexB; simp; omega))
        go_wp2_with fail
        exact ⟨⟨trivial, k + 1, by omega, by go_num, HT.out⟩, by simp [intOf]; omega⟩
      by_cases c2 : l[k].toNat < 97
      · have b0 : ¬ ((((⟨l.toArray⟩ : ByteArray)[k]).toNat : Int) < 48) := by show ¬ (((l[k].toNat : Nat) : Int) < 48); omega
        have b1 : 57 < (((⟨l.toArray⟩ : ByteArray)[k]).toNat : Int) := by show 57 < ((l[k].toNat : Nat) : Int); omega
        have b2 : (((⟨l.toArray⟩ : ByteArray)[k]).toNat : Int) < 97 := by show ((l[k].toNat : Nat) : Int) < 97; omega
        have HT := Lib.hid (HN.out (by unfold hexB; simp; omega))
        go_wp2_with fail
        go_ret
        rw [HT.out]; exact ⟨rfl, rfl⟩
      by_cases c3 : 102 < l[k].toNat
      · have b0 : ¬ ((((⟨l.toArray⟩ : ByteArray)[k]).toNat : Int) < 48) := by show ¬ (((l[k].toNat : Nat) : Int) < 48); omega
        have b1 : 57 < (((⟨l.toArray⟩ : ByteArray)[k]).toNat : Int) := by show 57 < ((l[k].toNat : Nat) : Int); omega
        have b2 : ¬ (((⟨l.toArray⟩ : ByteArray)[k]).toNat : Int) < 97 := by show ¬ ((l[k].toNat : Nat) : Int) < 97; omega
        have b3 : 102 < (((⟨l.toArray⟩ : ByteArray)[k]).toNat : Int) := by show 102 < ((l[k].toNat : Nat) : Int); omega
        have HT := Lib.hid (HN.out (by unfold hexB; simp; omega))
        go_wp2_with fail
        go_ret
        rw [HT.out]; exact ⟨rfl, rfl⟩
      · have b0 : ¬ ((((⟨l.toArray⟩ : ByteArray)[k]).toNat : Int) < 48) := by show ¬ (((l[k].toNat : Nat) : Int) < 48); omega
        have b1 : 57 < (((⟨l.toArray⟩ : ByteArray)[k]).toNat : Int) := by show 57 < ((l[k].toNat : Nat) : Int); omega
        have b2 : ¬ (((⟨l.toArray⟩ : ByteArray)[k]).toNat : Int) < 97 := by show ¬ ((l[k].toNat : Nat) : Int) < 97; omega
        have b3 : ¬ (102 < (((⟨l.toArray⟩ : ByteArray)[k]).toNat : Int)) := by show ¬ (102 < ((l[k].toNat : Nat) : Int)); omega
        have HT := Lib.hid (HY.out (by unfold hexB; simp; omega))
        go_wp2_with fail
        exact ⟨⟨trivial, k + 1, by omega, by go_num, HT.out⟩, by simp [intOf]; omega⟩
    · have hA : Hid (digB l = ((l.length : Int) == 16)) := by
        rw [Hid, hI.out, all_yes fun j hj => HR.out j hj (by omega), Bool.and_true, Bool.eq_iff_iff, beq_iff_eq, decide_eq_true_eq]; omega
      generalize hq : ((l.length : Int) == 16) = q at *
      go_wp2_with fail
      go_ret
      rw [hA.out]; exact ⟨rfl, rfl⟩

set_option maxHeartbeats 1000000 in
/-- Equal lists. -/
theorem RInts7_q (l m : List Int) (vl vm : Value) (w : World) (hl : Ints w vl l) (hm : Ints w vm m) : Calls Tryz.prog 37 #[vl, vm] w fun r w' => r = .returned (.bool (decide (l = m))) ∧ ∃ q, w' = w.drewN q := by
  obtain ⟨la, lc, rfl⟩ := hl.shape
  obtain ⟨ma, mc, rfl⟩ := hm.shape
  have hlen := SliceAt.len_le hl
  have hlen2 := SliceAt.len_le hm
  have HL := Lib.hid hl; have HM := Lib.hid hm; clear hl hm
  by_cases he : l.length = m.length
  · have heb : (((l.length : Nat) : Int) != ((m.length : Nat) : Int)) = false := by rw [he]; simp
    have HEQ := Lib.hid he; clear he
    go_enter Tryz.func37, Tryz.ntmps37
    go_wp2_with fail
    go_loopw [5] (fun i wr => ∃ k : Nat, k ≤ l.length ∧ i = .int .i64 k ∧ (∃ q, wr = w.drewN q) ∧ ∀ j, j < k → l.getD j 0 = m.getD j 0) (fun i _ => l.length - (intOf i).toNat)
    case atStart => exact ⟨0, Nat.zero_le _, rfl, ⟨0, rfl⟩, fun j h => absurd h (by omega)⟩
    case round =>
      obtain ⟨k, hk, rfl, hX, hR⟩ := hrel
      obtain ⟨q, hq0⟩ := hX
      have HQ := Lib.hid hq0
      have HX : Hid (Ext w wr) := by unfold Hid; rw [hq0]; exact (Ext.refl w).drewN q
      have HR := Lib.hid hR; clear hq0 hR
      have HD : Hid (∀ m : Nat, ∃ u, wr.drewN m = w.drewN u) := fun m => ⟨q + m, by rw [HQ.out, World.drewN_drewN]⟩
      by_cases hlt : k < l.length
      · rcases HL.out with ⟨_, e⟩ | ⟨b, o, cap', e, _, hc⟩
        · rw [e] at hlt; simp at hlt
        cases e
        rcases HM.out with ⟨_, e⟩ | ⟨b2, o2, cap2, e, _, hc2⟩
        · have := HEQ.out; rw [e] at this; simp at this; rw [this] at hlt; simp at hlt
        cases e
        have hlt2 : k < m.length := by have := HEQ.out; omega
        have g0 : wr.cell? ⟨b, o + k, none⟩ = some (.int .i64 (l.getD k 0)) := by have := HX.out.cell (hc k hlt); rw [Nat.mul_one] at this; rw [this]; simp [List.getD, hlt]
        have g1 : wr.cell? ⟨b2, o2 + k, none⟩ = some (.int .i64 (m.getD k 0)) := by have := HX.out.cell (hc2 k hlt2); rw [Nat.mul_one] at this; rw [this]; simp [List.getD, hlt2]
        clear hc hc2
        have HS : Hid (l = m → l.getD k 0 = m.getD k 0) := fun h => by rw [h]
        generalize ex : l.getD k 0 = x at *
        generalize ey : m.getD k 0 = y at *
        have EX := Lib.hid ex; have EY := Lib.hid ey; clear ex ey
        have i0 : (0 : Int) ≤ (k : Int) := by omega
        have i1 : (k : Int) < (l.length : Int) := by omega
        have i2 : (k : Int) < (m.length : Int) := by omega
        cases hq : (x != y) with
        | true =>
          have HF : Hid (decide (l = m) = false) := decide_eq_false fun h => by
            have := HS.out h; rw [this] at hq; simp at hq
          clear HS
          go_upto_region 6 with fail
          go_quiet (fail)
          go_wp2_with fail
          go_ret
          exact ⟨by rw [HF.out]; rfl, HD.out _⟩
        | false =>
          have HF : Hid (x = y) := by unfold Hid; simpa using hq
          clear HS
          go_upto_region 6 with fail
          go_quiet (fail)
          go_wp2_with fail
          refine ⟨⟨k + 1, by omega, by go_num, HD.out _, fun j hj => ?_⟩, by simp [intOf]; omega⟩
          by_cases c : j = k
          · subst c; rw [EX.out, EY.out]; exact HF.out
          · exact HR.out j (by omega)
      · have HF : Hid (decide (l = m) = true) := decide_eq_true (List.ext_getElem HEQ.out fun i h1 h2 => by
          have := HR.out i (by omega)
          simpa [List.getD, h1, h2] using this)
        go_wp2_with fail
        go_ret
        exact ⟨by rw [HF.out]; rfl, q, HQ.out⟩
  · have heb : (((l.length : Nat) : Int) != ((m.length : Nat) : Int)) = true := by rw [bne_iff_ne]; omega
    have HF : Hid (decide (l = m) = false) := decide_eq_false fun h => he (by rw [h])
    go_enter Tryz.func37, Tryz.ntmps37
    go_wp2_with fail
    go_ret
    exact ⟨by rw [HF.out]; rfl, 0, rfl⟩

def fewS (s : St) : Bool := decide (s.lits.length ≤ 100) && decide (s.hints.length ≤ 100)
def smallC (x : CertS) : Bool := decide (x.id.length ≤ 200) && (decide (x.dig.length ≤ 200) && (decide (x.prf.length ≤ 300) && (decide (x.old.length ≤ 100) && (decide (x.now.length ≤ 100) && x.prf.all fewS))))
structure SmallI (x : CertS) : Prop where
  id : x.id.length ≤ 200
  dig : x.dig.length ≤ 200
  len : x.prf.length ≤ 300
  prf : ∀ s ∈ x.prf, s.lits.length ≤ 100 ∧ s.hints.length ≤ 100
  old : x.old.length ≤ 100
  now : x.now.length ≤ 100
theorem smallC_parts {x : CertS} (h : smallC x = true) : SmallI x := by
  unfold smallC at h
  simp only [Bool.and_eq_true, decide_eq_true_eq, List.all_eq_true] at h
  obtain ⟨h1, h2, h3, h4, h5, h6⟩ := h
  refine ⟨h1, h2, h3, fun s hs => ?_, h4, h5⟩
  have := h6 s hs
  unfold fewS at this
  simp only [Bool.and_eq_true, decide_eq_true_eq] at this
  exact this
theorem SmallI.few {x : CertS} (h : SmallI x) : Few x :=
  ⟨by have := h.id; omega, by have := h.dig; omega, fun s hs => by have := h.prf s hs; omega, by have := h.old; omega, by have := h.now; omega⟩

theorem ints_eq {l : List Int} : decide (l = l) = true := decide_eq_true rfl
set_option maxHeartbeats 4000000 in
set_option maxRecDepth 100000 in
/-- Equal certificates are the same. -/
theorem RSameC_self (x : CertS) (va vb : Value) (w : World) (ha : CertV w va x) (hb : CertV w vb x) : Calls Tryz.prog 14 #[va, vb] w fun r w' => r = .returned (.bool true) ∧ Ext w w' := by
  obtain ⟨pa, pc, oa, oc, na, nc, rfl, hx⟩ := ha
  obtain ⟨pa', pc', oa', oc', na', nc', rfl, hy⟩ := hb
  have HS : Hid (∀ w', Ext w w' → Calls Tryz.prog 36 #[.slice pa x.prf.length pc, .slice pa' x.prf.length pc'] w' fun r w2 => r = .returned (.bool true) ∧ Ext w' w2) := fun w' he => by
    refine (RSame_any x.prf x.prf _ _ w' (hx.1.ext he) (hy.1.ext he)).mono ?_
    rintro r w2 ⟨rfl, h⟩
    exact ⟨by rw [sameP_iff.2 rfl], h⟩
  have HO : Hid (∀ w', Ext w w' → Calls Tryz.prog 37 #[.slice oa x.old.length oc, .slice oa' x.old.length oc'] w' fun r w2 => r = .returned (.bool true) ∧ Ext w' w2) := fun w' he => by
    refine (RInts7_q x.old x.old _ _ w' (hx.2.1.ext he) (hy.2.1.ext he)).mono ?_
    rintro r w2 ⟨rfl, q, rfl⟩
    exact ⟨by rw [ints_eq], (Ext.refl _).drewN q⟩
  have HN : Hid (∀ w', Ext w w' → Calls Tryz.prog 37 #[.slice na x.now.length nc, .slice na' x.now.length nc'] w' fun r w2 => r = .returned (.bool true) ∧ Ext w' w2) := fun w' he => by
    refine (RInts7_q x.now x.now _ _ w' (hx.2.2.ext he) (hy.2.2.ext he)).mono ?_
    rintro r w2 ⟨rfl, q, rfl⟩
    exact ⟨by rw [ints_eq], (Ext.refl _).drewN q⟩
  clear hx hy
  obtain ⟨W, hW⟩ : ∃ W, W = (w.alloc (.cells (certCells x pa pc oa oc na nc) 41)).alloc (.cells (certCells x pa' pc' oa' oc' na' nc') 41) := ⟨_, rfl⟩
  have hX : Ext w W := by rw [hW]; exact ((Ext.refl _).alloc _).alloc _
  have hC : CertAt W w.heap.size x pa pc oa oc na nc := by rw [hW]; exact (heap_alloc_old _ _ (by simp)).trans (heap_new _ _)
  have hD : CertAt W (w.heap.size + 1) x pa' pc' oa' oc' na' nc' := by
    have := heap_new (w.alloc (.cells (certCells x pa pc oa oc na nc) 41)) (.cells (certCells x pa' pc' oa' oc' na' nc') 41)
    rw [World.size_alloc] at this; rw [hW]; exact this
  have HC := Lib.hid hC; have HD := Lib.hid hD; have HX := Lib.hid hX; have HWE := Lib.hid hW
  obtain ⟨q0, q1, q2, q3, q4, q5⟩ := hC.cells
  obtain ⟨p0, p1, p2, p3, p4, p5⟩ := hD.cells
  clear hC hD hX hW
  unfold certCells at *
  go_enter Tryz.func14, Tryz.ntmps14
  go_upto_region 1 with fail
  rw [← HWE.out]
  clear HWE
  generalize w.heap.size = b at *
  generalize x.id = xi at *
  generalize x.dig = xd at *
  generalize x.ver = xv at *
  go_wp2_with (first
    | (go_at_call 36; refine (HS.out _ HX.out).mono ?_; rintro r w1 ⟨rfl, x1⟩; clear q0 q1 q2 q3 p0 p1 p2 p3; have q4 := x1.cell q4; have q5 := x1.cell q5; have p4 := x1.cell p4; have p5 := x1.cell p5; have HX1 := Lib.hid (HX.out.trans x1); clear x1)
    | (have hgo := HX2.out; clear hgo; go_at_call 37; refine (HN.out _ HX2.out).mono ?_; rintro r w3 ⟨rfl, x3⟩; have HX3 := Lib.hid (HX2.out.trans x3); clear x3)
    | (go_at_call 37; refine (HO.out _ HX1.out).mono ?_; rintro r w2 ⟨rfl, x2⟩; clear q4 p4; have q5 := x2.cell q5; have p5 := x2.cell p5; have HX2 := Lib.hid (HX1.out.trans x2); clear x2))
  go_ret
  exact ⟨rfl, HX3.out⟩
end Go.Proofs.YtoopoljchhdobaaGreatDoor
namespace Go.Proofs.YtoopoljchhdobaaGreatDoor
open Go.RowKit

theorem hexLow_front : ∀ (k n : Nat), hexLow n (k + 1) = hexLow (n / 16) k ++ [hexD (n % 16)] := fun _ _ => rfl
/-- What is left of a number whose last digits were written. -/
def hexRest (n : Nat) : Nat → Nat
  | 0 => n
  | i + 1 => hexRest n i / 16
theorem hex_split : ∀ (i j n : Nat), hexLow n (j + i) = hexLow (hexRest n i) j ++ hexLow n i
  | 0, j, n => by simp [hexRest, hexLow]
  | i + 1, j, n => by
    have h1 := hex_split i (j + 1) n
    rw [show j + (i + 1) = (j + 1) + i by omega, h1, hexLow_front, hexRest]
    have h2 := hex_split i 1 n
    rw [hexLow_front, hexLow, List.nil_append] at h2
    rw [show i + 1 = 1 + i by omega, h2, List.append_assoc]
theorem hex_more (n i : Nat) : hexLow n (i + 1) = hexD (hexRest n i % 16) :: hexLow n i := by
  have h := hex_split i 1 n
  rw [hexLow_front, hexLow, List.nil_append] at h
  rw [show i + 1 = 1 + i by omega, h]; rfl
theorem hexRest_lt {n : Nat} (h : n < 18446744073709551616) : ∀ i, hexRest n i < 18446744073709551616
  | 0 => h
  | i + 1 => by have := hexRest_lt h i; rw [hexRest]; omega
theorem hex_sub {d : Nat} (h : d < 16) : (⟨#[48, 49, 50, 51, 52, 53, 54, 55, 56, 57, 97, 98, 99, 100, 101, 102]⟩ : ByteArray).extract d (d + 1) = ⟨[hexD d].toArray⟩ := by
  have : d = 0 ∨ d = 1 ∨ d = 2 ∨ d = 3 ∨ d = 4 ∨ d = 5 ∨ d = 6 ∨ d = 7 ∨ d = 8 ∨ d = 9 ∨ d = 10 ∨ d = 11 ∨ d = 12 ∨ d = 13 ∨ d = 14 ∨ d = 15 := by omega
  rcases this with rfl | rfl | rfl | rfl | rfl | rfl | rfl | rfl | rfl | rfl | rfl | rfl | rfl | rfl | rfl | rfl <;> rfl

set_option maxRecDepth 100000 in
set_option maxHeartbeats 2000000 in
theorem RHash_any (l : List UInt8) (w : World) (hl : l.length ≤ 1000000000) :
    Calls Tryz.prog 11 #[.string ⟨l.toArray⟩] w fun e w' => e = .returned (.string ⟨(digestS l).toArray⟩) ∧ w' = w := by
  have HLN := Lib.hid hl
  go_enter Tryz.func11, Tryz.ntmps11
  go_wp2_with fail
  go_loopw [3, 4] (fun h i wr => wr = w ∧ ∃ k : Nat, k ≤ l.length ∧ i = .int .i64 k ∧ h = .int .u64 (fnvN (l.take k) : Nat)) (fun _ i _ => l.length - (intOf i).toNat)
  case atStart => exact ⟨rfl, 0, Nat.zero_le _, rfl, rfl⟩
  case round =>
    obtain ⟨rfl, k, hk, rfl, rfl⟩ := hrel
    have HF := Lib.hid (fnvN_lt (l.take k))
    by_cases hlt : k < l.length
    · have HS := Lib.hid (fnv_take l k hlt)
      have HB := Lib.hid (fnv_bits HF.out l[k])
      have j1 : (k : Int) < (l.length : Int) := by omega
      generalize hf : fnvN (l.take k) = f at *
      have HG := Lib.hid hf; clear hf
      go_wp2_with fail
      have e9 : IntKind.u64.wrap (((⟨l.toArray⟩ : ByteArray)[k]).toNat : Int) = (l[k].toNat : Int) := by
        show IntKind.u64.wrap ((l[k].toNat : Nat) : Int) = _
        have := l[k].toNat_lt
        rw [IntKind.wrap_u64]; omega
      refine ⟨⟨trivial, k + 1, by omega, by go_num, ?_⟩, by simp [intOf]; omega⟩
      rw [e9, HB.out, HS.out]
    · have e1 : l.take k = l := List.take_of_length_le (by omega)
      rw [e1] at HF ⊢
      have HD : Hid (digestS l = hexLow (fnvN l) 16) := rfl
      generalize fnvN l = n at *
      clear e1
      go_wp2_with fail
      go_loopw [3, 5, 6] (fun h o i w2 => w2 = wr ∧ ∃ j : Nat, j ≤ 16 ∧ i = .int .i64 j ∧ h = .int .u64 (hexRest n j : Nat) ∧ o = .string ⟨(hexLow n j).toArray⟩) (fun _ _ i _ => 16 - (intOf i).toNat)
      case atStart => exact ⟨rfl, 0, by omega, rfl, rfl, rfl⟩
      case round =>
        obtain ⟨rfl, j, hj, rfl, rfl, rfl⟩ := hrel
        by_cases hlt2 : j < 16
        · have HM := Lib.hid (hex_more n j)
          have HR : Hid (hexRest n (j + 1) = hexRest n j / 16) := rfl
          have hrl := hexRest_lt HF.out j
          have hlen := hexLow_len j n
          generalize hexLow n j = o at *
          generalize hexRest n j = r at *
          obtain ⟨d, hd⟩ : ∃ d : Nat, r % 16 = d := ⟨_, rfl⟩
          have hd16 : d < 16 := by omega
          have hdi : (r : Int) % 16 = (d : Int) := by omega
          obtain ⟨q, hq⟩ : ∃ q : Nat, r / 16 = q := ⟨_, rfl⟩
          have hqi : (r : Int) / 16 = (q : Int) := by omega
          have qw : IntKind.u64.wrap (q : Int) = (q : Int) := by rw [IntKind.wrap_u64]; omega
          have HE := Lib.hid (hex_sub hd16)
          have d0 : (0 : Int) ≤ (d : Int) := by omega
          have d1 : (d : Int) ≤ (d : Int) + 1 := by omega
          have d2 : (d : Int) + 1 ≤ 16 := by omega
          have dw : IntKind.u64.wrap ((d : Int) + 1) = (d : Int) + 1 := by rw [IntKind.wrap_u64]; omega
          have HD1 := Lib.hid hd; have HQ1 := Lib.hid hq
          have f1 : ¬ (9223372036854775807 < 1 + o.length) := by omega
          clear hd hq hrl hd16
          go_wp2_with fail
          refine ⟨⟨trivial, j + 1, by omega, by go_num, by rw [HR.out, HQ1.out], ?_⟩, by simp [intOf]; omega⟩
          rw [HE.out, ByteArray.mk_append_mk, HM.out, HD1.out]; rfl
        · obtain rfl : j = 16 := by omega
          go_wp2_with fail
          go_ret
          rw [HD.out]; exact ⟨rfl, rfl⟩

def smallE (c : CondS) (m : Int) : Bool := decide ((c.hyp.size : Int) ≤ m) && (decide ((c.goal.size : Int) ≤ m) && decide (c.id.length ≤ 200))
set_option maxRecDepth 100000 in
set_option maxHeartbeats 2000000 in
theorem small27_any (c : CondS) (v : Value) (m : Int) (w : World) (hv : CondV w v c) (h0 : 0 ≤ m) (h1 : m ≤ 1000) :
    Calls Tryz.prog 5 #[v, .int .i64 m] w fun r w' => r = .returned (.bool (smallE c m)) ∧ Ext w w' := by
  obtain ⟨ha, hl1, hc, ga, gl, gc, rfl, he1, he2⟩ := hv
  have H1 : Hid (∀ w', Ext w w' → Calls Tryz.prog 16 #[.agg #[.int .i64 c.hyp.op, .int .i64 c.hyp.wd, .int .i64 c.hyp.n, .slice ha hl1 hc], .int .i64 m] w' fun r w2 => r = .returned (.bool (decide ((c.hyp.size : Int) ≤ m))) ∧ Ext w' w2) := fun w' he => RSmall_any c.hyp _ w' m (he1.ext he) h0 h1
  have H2 : Hid (∀ w', Ext w w' → Calls Tryz.prog 16 #[.agg #[.int .i64 c.goal.op, .int .i64 c.goal.wd, .int .i64 c.goal.n, .slice ga gl gc], .int .i64 m] w' fun r w2 => r = .returned (.bool (decide ((c.goal.size : Int) ≤ m))) ∧ Ext w' w2) := fun w' he => RSmall_any c.goal _ w' m (he2.ext he) h0 h1
  have HU : Hid (smallE c m = (decide ((c.hyp.size : Int) ≤ m) && (decide ((c.goal.size : Int) ≤ m) && decide (c.id.length ≤ 200)))) := rfl
  generalize decide ((c.hyp.size : Int) ≤ m) = b1 at *
  generalize decide ((c.goal.size : Int) ≤ m) = b2 at *
  clear he1 he2 h0 h1
  obtain ⟨W, hW⟩ : ∃ W, W = w.alloc (.cells (condCells c ha hl1 hc ga gl gc) 26) := ⟨_, rfl⟩
  have hX : Ext w W := by rw [hW]; exact (Ext.refl _).alloc _
  have hat : CondAt W w.heap.size c ha hl1 hc ga gl gc := by rw [hW]; exact heap_new _ _
  have HX := Lib.hid hX; have HC := Lib.hid hat; have HW := Lib.hid hW
  obtain ⟨⟨q0, q1, q2, q3⟩, p0, p1, p2, p3⟩ := And.intro hat.hyp hat.goal
  have i0 := hat.id
  clear hW hX hat
  unfold condCells at *
  go_enter Tryz.func5, Tryz.ntmps5
  go_upto_region 1 with fail
  rw [← HW.out]
  clear HW
  generalize w.heap.size = b at *
  cases b1 with
  | false =>
    go_wp2_with (go_at_call 16; refine (H1.out _ HX.out).mono ?_; rintro r w1 ⟨rfl, x1⟩; have HX1 := Lib.hid (HX.out.trans x1); clear x1)
    go_ret
    rw [HU.out]; exact ⟨rfl, HX1.out⟩
  | true =>
  cases b2 with
  | false =>
    go_wp2_with (first
      | (have hgo := HX1.out; clear hgo; go_at_call 16; refine (H2.out _ HX1.out).mono ?_; rintro r w2 ⟨rfl, x2⟩; have HX2 := Lib.hid (HX1.out.trans x2); clear x2)
      | (go_at_call 16; refine (H1.out _ HX.out).mono ?_; rintro r w1 ⟨rfl, x1⟩; have HX1 := Lib.hid (HX.out.trans x1); have p0 := x1.cell p0; have p1 := x1.cell p1; have p2 := x1.cell p2; have p3 := x1.cell p3; clear x1))
    go_ret
    rw [HU.out]; exact ⟨rfl, HX2.out⟩
  | true =>
    have HB : Hid (decide ((c.id.length : Int) ≤ 200) = decide (c.id.length ≤ 200)) := by unfold Hid; congr 1; apply propext; omega
    go_wp2_with (first
      | (have hgo := HX1.out; clear hgo; go_at_call 16; refine (H2.out _ HX1.out).mono ?_; rintro r w2 ⟨rfl, x2⟩; have HX2 := Lib.hid (HX1.out.trans x2); have i0 := x2.cell i0; clear x2)
      | (go_at_call 16; refine (H1.out _ HX.out).mono ?_; rintro r w1 ⟨rfl, x1⟩; have HX1 := Lib.hid (HX.out.trans x1); have i0 := x1.cell i0; have p0 := x1.cell p0; have p1 := x1.cell p1; have p2 := x1.cell p2; have p3 := x1.cell p3; clear x1))
    go_ret
    rw [HU.out, ← HB.out]; exact ⟨rfl, HX2.out⟩
end Go.Proofs.YtoopoljchhdobaaGreatDoor
namespace Go.Proofs.YtoopoljchhdobaaGreatDoor
open Go.RowKit

set_option maxHeartbeats 400000 in
theorem RConst_any (n wd : Int) (w : World) : Calls Tryz.prog 10 #[.int .i64 n, .int .i64 wd] w fun r w' => r = .returned (.agg #[.int .i64 1, .int .i64 wd, .int .i64 n, .slice none 0 0]) ∧ Ext w w' := by
  go_enter Tryz.func10, Tryz.ntmps10
  go_wp2
  exact bodyPost_ret (v := .agg #[.int .i64 1, .int .i64 wd, .int .i64 n, .slice none 0 0]) (by simp [results, Tryz.results10, go_sem]) rfl ⟨rfl, (Ext.refl w).alloc _⟩
def e11 : E := .mk 1 1 1 []
def e01 : E := .mk 1 1 0 []
def e00 : E := .mk 0 0 0 []
def cA : CondS := ⟨[], 0, 0, 0, 0, 0, e11, e01⟩
def cB : CondS := ⟨[], 0, 0, 0, 0, 0, e11, e00⟩
theorem it (n : Nat) (h : n < 10) : Lib.itoa n = [UInt8.ofNat (48 + n)] := by
  rw [Lib.itoa_nonneg, Lib.decDigits_one h]
theorem row_ints {W : World} {b n cap : Nat} {l : List Int} {t : TypeId} (hn : n = l.length) (hl : l.length ≤ 1000000) (h : W.heap[b]? = some (.cells (l.map (Value.int .i64)).toArray t (0, 0))) : Ints W (.slice (some ⟨b, 0, none⟩) n cap) l := by
  subst hn
  refine .inr ⟨b, 0, cap, rfl, by omega, fun i hi => ?_⟩
  simp only [IntAt, World.cell?, h, Nat.zero_add, Nat.mul_one]
  simp [hi]
theorem nil_ints (W : World) : Ints W (.slice none 0 0) [] := .inl ⟨⟨_, _, rfl⟩, rfl⟩
theorem nil_steps (W : World) : Steps W (.slice none 0 0) [] := .inl ⟨⟨_, _, rfl⟩, rfl⟩
theorem ints_move {W W' : World} {b : Nat} {x y : Int} (h : Ints W (.slice (some ⟨b, 0, none⟩) 2 2) [x, y]) (hb : W'.heap[b]? = W.heap[b]?) : Ints W' (.slice (some ⟨b, 0, none⟩) 2 2) [x, y] := by
  rcases h with ⟨_, e⟩ | ⟨g, o, c, e, hl, hc⟩
  · cases e
  · injection e with e1 e2 e3
    cases e1
    subst e3
    refine .inr ⟨b, 0, 2, rfl, hl, fun i hi => ?_⟩
    have := hc i hi
    unfold IntAt at *
    unfold World.cell? at *
    rw [hb]; exact this
theorem ev_leaf (w : World) (op wd n : Int) : EVal w (.agg #[.int .i64 op, .int .i64 wd, .int .i64 n, .slice none 0 0]) (.mk op wd n []) := ⟨_, rfl, .inl ⟨⟨_, _, rfl⟩, rfl⟩⟩
theorem text11 : e11.textTop = [49, 58, 49] := by
  have h1 : Lib.itoa 1 = [49] := it 1 (by decide)
  have hw : e11.wf = true := by decide
  rw [E.textTop, if_pos hw]
  simp [e11, E.text, h1, letterS]
theorem text01 : e01.textTop = [48, 58, 49] := by
  have h1 : Lib.itoa 1 = [49] := it 1 (by decide)
  have h0 : Lib.itoa 0 = [48] := it 0 (by decide)
  have hw : e01.wf = true := by decide
  rw [E.textTop, if_pos hw]
  simp [e01, E.text, h1, h0, letterS]
theorem text00 : e00.textTop = [] := by
  have hw : e00.wf = false := by decide
  rw [E.textTop, if_neg (by rw [hw]; decide)]
theorem digA : digE cA.hyp cA.goal = digestS [49, 58, 49, 10, 48, 58, 49] := by
  show digE e11 e01 = _
  unfold digE; rw [text11, text01]; rfl
theorem digB0 : digE cB.hyp cB.goal = [] := by
  show digE e11 e00 = _
  unfold digE; rw [text00]; simp
theorem hash0 : digestS [] = [99, 98, 102, 50, 57, 99, 101, 52, 56, 52, 50, 50, 50, 51, 50, 53] := by decide +kernel
theorem hash1 : digestS [97] = [97, 102, 54, 51, 100, 99, 52, 99, 56, 54, 48, 49, 101, 99, 56, 99] := by decide +kernel
def digX : List UInt8 := [48, 49, 50, 51, 52, 53, 54, 55, 56, 57, 97, 98, 99, 100, 101, 102]
def x0 : CertS := ⟨[105, 110, 105, 116, 47, 48, 47, 48, 47, 48], digX, 2, [], [1, 2], [3, 0]⟩
def x1c : CertS := { x0 with ver := 0 }
def steps0 : List St := [⟨[], [0, 1]⟩]
def z0 : CertS := ⟨[97], digX, 1, steps0, [], []⟩
def tx0 : List UInt8 := [99, 101, 114, 116, 32, 105, 110, 105, 116, 47, 48, 47, 48, 47, 48, 32, 48, 49, 50, 51, 52, 53, 54, 55, 56, 57, 97, 98, 99, 100, 101, 102, 32, 110, 111, 10, 111, 108, 100, 32, 49, 32, 50, 10, 110, 111, 119, 32, 51, 32, 48, 10]
def tz0 : List UInt8 := [99, 101, 114, 116, 32, 97, 32, 48, 49, 50, 51, 52, 53, 54, 55, 56, 57, 97, 98, 99, 100, 101, 102, 32, 121, 101, 115, 32, 49, 10, 58, 32, 48, 32, 49, 10]
def tb0 : List UInt8 := [99, 101, 114, 116, 32, 97, 32, 48, 49, 50, 51, 52, 53, 54, 55, 56, 57, 97, 98, 99, 100, 101, 102, 32, 121, 101, 115, 32, 50, 10, 58, 32, 48, 32, 49, 10]
theorem u0 : usableB x0 = true := by decide
theorem uz : usableB z0 = true := by decide
theorem u1 : usableB x1c = false := by decide
theorem textX : textC x0 = tx0 := by
  have h0 : Lib.itoa 0 = [48] := it 0 (by decide)
  have h1 : Lib.itoa 1 = [49] := it 1 (by decide)
  have h2 : Lib.itoa 2 = [50] := it 2 (by decide)
  have h3 : Lib.itoa 3 = [51] := it 3 (by decide)
  unfold textC; rw [if_pos u0]
  simp [textU, firstC, headC, tailC, x0, digX, lineS, hintText, wordC, certW, oldW, nowW, h0, h1, h2, h3, tx0]
theorem textX1 : textC x1c = [] := by unfold textC; rw [if_neg (by rw [u1]; decide)]
theorem textS0 : textL steps0 = [58, 32, 48, 32, 49, 10] := by
  have h0 : Lib.itoa 0 = [48] := it 0 (by decide)
  have h1 : Lib.itoa 1 = [49] := it 1 (by decide)
  simp [steps0, textL, stepText, litText, hintText, h0, h1]
theorem textZ : textC z0 = tz0 := by
  have h1 : Lib.itoa 1 = [49] := it 1 (by decide)
  unfold textC; rw [if_pos uz]
  have e : (z0.prf.length : Int) = 1 := rfl
  have et : tailC z0 = textL steps0 := rfl
  unfold textU
  rw [et, textS0]
  simp [firstC, headC, z0, digX, wordC, certW, steps0, h1, tz0]
theorem parseX : parseC tx0 = some x0 := by rw [← textX]; exact parse_textC u0
theorem parseB : parseC tb0 = none := by
  cases h : parseC tb0 with
  | none => rfl
  | some z =>
    exfalso
    obtain ⟨h1, h2, _⟩ := parse_some h
    have hf : splitB 10 (textC z) = firstC z :: splitB 10 (tailC z) := by
      unfold textC; rw [if_pos h2]; exact splitB_cons 10 _ (first_chars h2)
    rw [h1] at hf
    have hc : firstC z = [99, 101, 114, 116, 32, 97, 32, 48, 49, 50, 51, 52, 53, 54, 55, 56, 57, 97, 98, 99, 100, 101, 102, 32, 121, 101, 115, 32, 50] := by
      have : splitB 10 tb0 = [[99, 101, 114, 116, 32, 97, 32, 48, 49, 50, 51, 52, 53, 54, 55, 56, 57, 97, 98, 99, 100, 101, 102, 32, 121, 101, 115, 32, 50], [58, 32, 48, 32, 49], []] := by decide
      rw [this] at hf
      injection hf with hf _
      exact hf.symm
    have hw : splitB 32 (firstC z) = [certW, [97], digX, [121, 101, 115], [50]] := by rw [hc]; decide
    rw [split_first h2] at hw
    have h3 : wordC z.ver = [121, 101, 115] := by
      have := congrArg (fun w => w.getD 3 []) hw
      unfold wordsC at this
      exact this
    have hv : z.ver = 1 := by
      obtain ⟨_, _, rz⟩ := usable_parts h2
      rcases rest_cases rz with ⟨f, _⟩ | ⟨f, _⟩ | ⟨f, _⟩
      · rw [f] at h3; exact absurd h3 (by decide)
      · exact f
      · rw [f] at h3; exact absurd h3 (by decide)
    have h4 : Lib.itoa (z.prf.length : Int) = [50] := by
      have := congrArg (fun w => w.getD 4 []) hw
      unfold wordsC at this
      rw [if_pos hv] at this
      exact this
    have h5 : z.prf.length = 2 := by
      obtain ⟨_, _, rz⟩ := usable_parts h2
      have hp : prfB z.prf = true := by
        rcases rest_cases rz with ⟨f, _⟩ | ⟨_, p, _⟩ | ⟨f, _⟩
        · rw [hv] at f; exact absurd f (by decide)
        · exact p
        · rw [hv] at f; exact absurd f (by decide)
      have hl := (prf_ranged hp).2.2
      have h2' : Lib.itoa ((2 : Nat) : Int) = [50] := it 2 (by decide)
      rw [← h2'] at h4
      exact itoa_inj hl (by omega) h4
    have hn := text_lines h2
    rw [h1] at hn
    have : tb0.count 10 = 2 := by decide
    rw [this] at hn
    unfold nlC at hn
    rw [if_pos hv, h5] at hn
    omega
set_option maxRecDepth 100000 in
set_option maxHeartbeats 8000000 in
theorem head_any (w : World) (hC : CTab w) (hW : Words w) (hT : PTab w) :
    Calls Tryz.prog 4 #[] w fun r w' => r = .returned (.bool true) ∧ Ext w w' := by
  have HC := Lib.hid hC; have HWD := Lib.hid hW; have HT := Lib.hid hT
  clear hC hW hT
  go_enter Tryz.func4, Tryz.ntmps4
  go_wp2_with fail
  refine (RConst_any 1 1 _).mono ?_
  rintro r w1 ⟨rfl, x1⟩
  have X1 := Lib.hid x1
  clear x1
  go_wp2_with fail
  refine (RConst_any 0 1 _).mono ?_
  rintro r w2 ⟨rfl, x2⟩
  have X2 := Lib.hid (X1.out.trans x2)
  clear x2
  go_upto_region 2 with fail
  obtain ⟨W3, hW3⟩ : ∃ W3, W3 = (w2.alloc (.cells #[.int .i64 1, .int .i64 1, .int .i64 1, .slice none 0 0] 24)).alloc (.cells #[.int .i64 1, .int .i64 1, .int .i64 0, .slice none 0 0] 24) := ⟨_, rfl⟩
  have x3 : Ext w2 W3 := by rw [hW3]; exact ((Ext.refl _).alloc _).alloc _
  have r1 : W3.heap[w2.heap.size]? = some (.cells #[.int .i64 1, .int .i64 1, .int .i64 1, .slice none 0 0] 24 (0, 0)) := by rw [hW3, heap_alloc_old _ _ (by simp)]; exact heap_new _ _
  have r2 : W3.heap[w2.heap.size + 1]? = some (.cells #[.int .i64 1, .int .i64 1, .int .i64 0, .slice none 0 0] 24 (0, 0)) := by
    rw [hW3]
    have := heap_new (w2.alloc (.cells #[.int .i64 1, .int .i64 1, .int .i64 1, .slice none 0 0] 24)) (.cells #[.int .i64 1, .int .i64 1, .int .i64 0, .slice none 0 0] 24)
    rw [World.size_alloc] at this; exact this
  rw [← hW3]
  have X3 := Lib.hid (X2.out.trans x3)
  have c0 : W3.cell? ⟨w2.heap.size, 0, none⟩ = some (.int .i64 1) := by simp [World.cell?, r1]
  have c1 : W3.cell? ⟨w2.heap.size, 1, none⟩ = some (.int .i64 1) := by simp [World.cell?, r1]
  have c2 : W3.cell? ⟨w2.heap.size, 2, none⟩ = some (.int .i64 1) := by simp [World.cell?, r1]
  have c3 : W3.cell? ⟨w2.heap.size, 3, none⟩ = some (.slice none 0 0) := by simp [World.cell?, r1]
  have d0 : W3.cell? ⟨w2.heap.size + 1, 0, none⟩ = some (.int .i64 1) := by simp [World.cell?, r2]
  have d1 : W3.cell? ⟨w2.heap.size + 1, 1, none⟩ = some (.int .i64 1) := by simp [World.cell?, r2]
  have d2 : W3.cell? ⟨w2.heap.size + 1, 2, none⟩ = some (.int .i64 0) := by simp [World.cell?, r2]
  have d3 : W3.cell? ⟨w2.heap.size + 1, 3, none⟩ = some (.slice none 0 0) := by simp [World.cell?, r2]
  clear hW3 x3 r1 r2
  generalize w2.heap.size = b1 at *
  go_wp2_with fail
  refine (Digest_any cA _ W3 ⟨none, 0, 0, none, 0, 0, rfl, ev_leaf _ _ _ _, ev_leaf _ _ _ _⟩ (by show e11.textTop.length ≤ _; rw [text11]; decide) (by show e01.textTop.length ≤ _; rw [text01]; decide) (HC.out.ext X3.out).masks (HC.out.ext X3.out).names (HC.out.ext X3.out).pow (HC.out.ext X3.out).deb).mono ?_
  rintro r w4 ⟨rfl, x4⟩
  rw [digA]
  have X4 := Lib.hid (X3.out.trans x4)
  replace c0 := x4.cell c0; replace c1 := x4.cell c1; replace c2 := x4.cell c2; replace c3 := x4.cell c3
  clear x4 d0 d1 d2 d3
  go_wp2_with fail
  refine (RHash_any [49, 58, 49, 10, 48, 58, 49] w4 (by decide)).mono ?_
  rintro r w5 ⟨rfl, rfl⟩
  go_wp2_with fail
  refine (Digest_any cB _ w5 ⟨none, 0, 0, none, 0, 0, rfl, ev_leaf _ _ _ _, ev_leaf _ _ _ _⟩ (by show e11.textTop.length ≤ _; rw [text11]; decide) (by show e00.textTop.length ≤ _; rw [text00]; decide) (HC.out.ext X4.out).masks (HC.out.ext X4.out).names (HC.out.ext X4.out).pow (HC.out.ext X4.out).deb).mono ?_
  rintro r w6 ⟨rfl, x6⟩
  rw [digB0]
  have X6 := Lib.hid (X4.out.trans x6)
  replace c0 := x6.cell c0; replace c1 := x6.cell c1; replace c2 := x6.cell c2; replace c3 := x6.cell c3
  clear x6
  go_wp2_with fail
  refine (Text_any e11 _ w6 (ev_leaf _ _ _ _) (HC.out.ext X6.out).masks (HC.out.ext X6.out).names (HC.out.ext X6.out).pow).mono ?_
  rintro r w7 ⟨rfl, x7⟩
  rw [text11]
  have X7 := Lib.hid (X6.out.trans x7)
  clear x7 c0 c1 c2 c3
  go_wp2_with fail
  refine (RHash_any [] w7 (by decide)).mono ?_
  rintro r w8 ⟨rfl, rfl⟩
  rw [hash0]
  go_wp2_with fail
  refine (RHash_any [97] w8 (by decide)).mono ?_
  rintro r w9 ⟨rfl, rfl⟩
  rw [hash1]
  go_wp2_with fail
  obtain ⟨W10, hW10⟩ : ∃ W10, W10 = ((w9.alloc (.cells #[.int .i64 1, .int .i64 2] 3)).alloc (.cells #[.int .i64 3, .int .i64 0] 3)).alloc (.cells #[.string ⟨#[105, 110, 105, 116, 47, 48, 47, 48, 47, 48]⟩, .string ⟨#[48, 49, 50, 51, 52, 53, 54, 55, 56, 57, 97, 98, 99, 100, 101, 102]⟩, .int .i64 2, .slice none 0 0, .slice (some ⟨w9.heap.size, 0, none⟩) 2 2, .slice (some ⟨w9.heap.size + 1, 0, none⟩) 2 2] 41) := ⟨_, rfl⟩
  have x10 : Ext w9 W10 := by rw [hW10]; exact (((Ext.refl _).alloc _).alloc _).alloc _
  have hold : ∀ (w : World) (o : Obj) (k : Nat), k < w.heap.size → (w.alloc o).heap[k]? = w.heap[k]? := fun w o k hk => heap_alloc_old _ _ hk
  have r1 : W10.heap[w9.heap.size]? = some (.cells #[.int .i64 1, .int .i64 2] 3 (0, 0)) := by
    rw [hW10, hold _ _ _ (by simp only [World.size_alloc]; omega), hold _ _ _ (by simp only [World.size_alloc]; omega)]; exact heap_new _ _
  have r2 : W10.heap[w9.heap.size + 1]? = some (.cells #[.int .i64 3, .int .i64 0] 3 (0, 0)) := by
    rw [hW10, hold _ _ _ (by simp only [World.size_alloc]; omega)]
    have := heap_new (w9.alloc (.cells #[.int .i64 1, .int .i64 2] 3)) (.cells #[.int .i64 3, .int .i64 0] 3)
    rw [World.size_alloc] at this; exact this
  have r3 : CertAt W10 (w9.heap.size + 1 + 1) x0 none 0 (some ⟨w9.heap.size, 0, none⟩) 2 (some ⟨w9.heap.size + 1, 0, none⟩) 2 := by
    rw [hW10]
    have := heap_new ((w9.alloc (.cells #[.int .i64 1, .int .i64 2] 3)).alloc (.cells #[.int .i64 3, .int .i64 0] 3)) (.cells #[.string ⟨#[105, 110, 105, 116, 47, 48, 47, 48, 47, 48]⟩, .string ⟨#[48, 49, 50, 51, 52, 53, 54, 55, 56, 57, 97, 98, 99, 100, 101, 102]⟩, .int .i64 2, .slice none 0 0, .slice (some ⟨w9.heap.size, 0, none⟩) 2 2, .slice (some ⟨w9.heap.size + 1, 0, none⟩) 2 2] 41)
    rw [World.size_alloc, World.size_alloc] at this; exact this
  have j1 : Ints W10 (.slice (some ⟨w9.heap.size, 0, none⟩) 2 2) [1, 2] := row_ints rfl (by decide) r1
  have j2 : Ints W10 (.slice (some ⟨w9.heap.size + 1, 0, none⟩) 2 2) [3, 0] := row_ints rfl (by decide) r2
  rw [← hW10]
  have X10 := Lib.hid (X7.out.trans x10); have R3 := Lib.hid r3; have J1 := Lib.hid j1; have J2 := Lib.hid j2; have HB9 := Lib.hid X7.out.size
  clear hW10 x10 hold r1 r2 r3 j1 j2
  generalize w9.heap.size = b9 at *
  refine (CParse_any tx0 W10 (by decide) (by decide) (HWD.out.ext X10.out) (HT.out.ext X10.out)).mono ?_
  rintro r w11 ⟨x11, hq⟩
  obtain ⟨z, v, h, rfl, hv⟩ := hq.resolve_left (fun ⟨h, _⟩ => by rw [parseX] at h; cases h)
  obtain rfl : x0 = z := by rw [parseX] at h; cases h; rfl
  obtain ⟨pa, pc, oa, oc, na, nc, rfl, hin⟩ := hv
  have X11 := Lib.hid (X10.out.trans x11); have IN11 := Lib.hid hin; have R11 := Lib.hid (R3.out.ext x11); have K1 := Lib.hid (J1.out.ext x11); have K2 := Lib.hid (J2.out.ext x11)
  clear x11 hq h hin
  unfold certCells
  obtain ⟨W12, hW12⟩ : ∃ W12, W12 = w11.alloc (.cells (certCells x0 pa pc oa oc na nc) 41) := ⟨_, rfl⟩
  have x12 : Ext w11 W12 := by rw [hW12]; exact (Ext.refl _).alloc _
  have hy : CertAt W12 w11.heap.size x0 pa pc oa oc na nc := by rw [hW12]; exact heap_new _ _
  have X12 := Lib.hid (X11.out.trans x12); have IN12 := Lib.hid (IN11.out.ext x12); have R12 := Lib.hid (R11.out.ext x12); have K12 := Lib.hid (K1.out.ext x12); have K22 := Lib.hid (K2.out.ext x12); have HY := Lib.hid hy
  have HW12 : Hid (w11.alloc (.cells #[.string ⟨x0.id.toArray⟩, .string ⟨x0.dig.toArray⟩, .int .i64 x0.ver, .slice pa x0.prf.length pc, .slice oa x0.old.length oc, .slice na x0.now.length nc] 41) = W12) := hW12.symm
  clear x12 hW12 hy
  go_upto_region 7 with fail
  rw [HW12.out]
  clear HW12
  generalize w11.heap.size = b11 at *
  obtain ⟨q0, q1, q2, q3, q4, q5⟩ := R12.out.cells
  go_wp2_with fail
  refine (CText_any x0 _ W12 ⟨none, 0, some ⟨b9, 0, none⟩, 2, some ⟨b9 + 1, 0, none⟩, 2, rfl, nil_steps _, K12.out, K22.out⟩ ⟨by decide, by decide, by decide, by decide, by decide⟩ (by rw [textX]; decide) (HC.out.ext X12.out).pow (HWD.out.ext X12.out)).mono ?_
  rintro r w13 ⟨rfl, x13⟩
  rw [textX, show (⟨tx0.toArray⟩ : ByteArray) = ⟨#[99, 101, 114, 116, 32, 105, 110, 105, 116, 47, 48, 47, 48, 47, 48, 32, 48, 49, 50, 51, 52, 53, 54, 55, 56, 57, 97, 98, 99, 100, 101, 102, 32, 110, 111, 10, 111, 108, 100, 32, 49, 32, 50, 10, 110, 111, 119, 32, 51, 32, 48, 10]⟩ from rfl]
  have X13 := Lib.hid (X12.out.trans x13); have IN13 := Lib.hid (IN12.out.ext x13); have R13 := Lib.hid (R12.out.ext x13); have K13 := Lib.hid (K12.out.ext x13); have K23 := Lib.hid (K22.out.ext x13); have HY13 := Lib.hid (HY.out.ext x13)
  clear x13 q0 q1 q2 q3 q4 q5
  obtain ⟨q0, q1, q2, q3, q4, q5⟩ := R13.out.cells
  obtain ⟨p0, p1, p2, p3, p4, p5⟩ := HY13.out.cells
  go_wp2_with fail
  refine (RSameC_self x0 _ _ w13 ⟨none, 0, some ⟨b9, 0, none⟩, 2, some ⟨b9 + 1, 0, none⟩, 2, rfl, nil_steps _, K13.out, K23.out⟩ ⟨pa, pc, oa, oc, na, nc, rfl, IN13.out⟩).mono ?_
  rintro r w14 ⟨rfl, x14⟩
  have X14 := Lib.hid (X13.out.trans x14); have R14 := Lib.hid (R13.out.ext x14); have K14 := Lib.hid (K13.out.ext x14); have K24 := Lib.hid (K23.out.ext x14)
  clear x14 q0 q1 q2 q3 q4 q5 p0 p1 p2 p3 p4 p5
  have q2 := R14.out.cells.2.2.1
  have f2 := frozen_of_row w14 (b9 + 1 + 1) 2 _ _ R14.out
  go_upto_region 9 with fail
  have hb9 : w.heap.size ≤ b9 + 1 + 1 := by have := HB9.out; omega
  obtain ⟨W15, hW15⟩ : ∃ W, W = w14.setCell ⟨b9 + 1 + 1, 2, none⟩ (.int .i64 0) := ⟨_, rfl⟩
  rw [← hW15]
  have X15 : Hid (Ext w W15) := by unfold Hid; rw [hW15]; exact X14.out.setCell (p := ⟨b9 + 1 + 1, 2, none⟩) hb9 _
  have R15 : Hid (CertAt W15 (b9 + 1 + 1) x1c none 0 (some ⟨b9, 0, none⟩) 2 (some ⟨b9 + 1, 0, none⟩) 2) := by
    have := heap_setCell_same w14 (b9 + 1 + 1) 2 _ _ (.int .i64 0) R14.out
    unfold Hid; rw [hW15]; exact this
  have hbo : ∀ k, k ≠ b9 + 1 + 1 → W15.heap[k]? = w14.heap[k]? := fun k hk => by rw [hW15]; exact heap_setCell_other _ _ _ _ hk
  have K15 := Lib.hid (ints_move K14.out (hbo b9 (by omega))); have K25 := Lib.hid (ints_move K24.out (hbo (b9 + 1) (by omega)))
  clear hW15 hbo q2 f2
  go_upto_region 11 with fail
  obtain ⟨W16, hW16⟩ : ∃ W16, W16 = ((W15.alloc (.cells #[.int .i64 0, .int .i64 1] 3)).alloc (.cells #[.slice none 0 0, .slice (some ⟨W15.heap.size, 0, none⟩) 2 2] 47)).alloc (.cells #[.string ⟨#[97]⟩, .string ⟨#[48, 49, 50, 51, 52, 53, 54, 55, 56, 57, 97, 98, 99, 100, 101, 102]⟩, .int .i64 1, .slice (some ⟨W15.heap.size + 1, 0, none⟩) 1 1, .slice none 0 0, .slice none 0 0] 41) := ⟨_, rfl⟩
  rw [← hW16]
  have x16 : Ext W15 W16 := by rw [hW16]; exact (((Ext.refl _).alloc _).alloc _).alloc _
  have hold : ∀ (w : World) (o : Obj) (k : Nat), k < w.heap.size → (w.alloc o).heap[k]? = w.heap[k]? := fun w o k hk => heap_alloc_old _ _ hk
  have r1 : W16.heap[W15.heap.size]? = some (.cells #[.int .i64 0, .int .i64 1] 3 (0, 0)) := by
    rw [hW16, hold _ _ _ (by simp only [World.size_alloc]; omega), hold _ _ _ (by simp only [World.size_alloc]; omega)]; exact heap_new _ _
  have r2 : W16.heap[W15.heap.size + 1]? = some (.cells #[.slice none 0 0, .slice (some ⟨W15.heap.size, 0, none⟩) 2 2] 47 (0, 0)) := by
    rw [hW16, hold _ _ _ (by simp only [World.size_alloc]; omega)]
    have := heap_new (W15.alloc (.cells #[.int .i64 0, .int .i64 1] 3)) (.cells #[.slice none 0 0, .slice (some ⟨W15.heap.size, 0, none⟩) 2 2] 47)
    rw [World.size_alloc] at this; exact this
  have r3 : CertAt W16 (W15.heap.size + 1 + 1) z0 (some ⟨W15.heap.size + 1, 0, none⟩) 1 none 0 none 0 := by
    rw [hW16]
    have := heap_new ((W15.alloc (.cells #[.int .i64 0, .int .i64 1] 3)).alloc (.cells #[.slice none 0 0, .slice (some ⟨W15.heap.size, 0, none⟩) 2 2] 47)) (.cells #[.string ⟨#[97]⟩, .string ⟨#[48, 49, 50, 51, 52, 53, 54, 55, 56, 57, 97, 98, 99, 100, 101, 102]⟩, .int .i64 1, .slice (some ⟨W15.heap.size + 1, 0, none⟩) 1 1, .slice none 0 0, .slice none 0 0] 41)
    rw [World.size_alloc, World.size_alloc] at this; exact this
  have hst : Steps W16 (.slice (some ⟨W15.heap.size + 1, 0, none⟩) 1 1) steps0 := by
    refine .inr ⟨W15.heap.size + 1, 0, 1, rfl, by decide, fun i hi => ?_⟩
    obtain rfl : i = 0 := by have : i < 1 := hi; omega
    exact ⟨.slice none 0 0, .slice (some ⟨W15.heap.size, 0, none⟩) 2 2, by simp only [World.cell?, r2]; rfl, by simp only [World.cell?, r2]; rfl, nil_ints _, row_ints (l := [0, 1]) rfl (by decide) r1⟩
  have X16 := Lib.hid (X15.out.trans x16); have R16 := Lib.hid (R15.out.ext x16); have K16 := Lib.hid (K15.out.ext x16); have K26 := Lib.hid (K25.out.ext x16); have RZ := Lib.hid r3; have ST := Lib.hid hst
  clear hW16 x16 hold r1 r2 r3 hst
  generalize W15.heap.size = b15 at *
  obtain ⟨q0, q1, q2, q3, q4, q5⟩ := R16.out.cells
  go_wp2_with fail
  refine (CText_any x1c _ W16 ⟨none, 0, some ⟨b9, 0, none⟩, 2, some ⟨b9 + 1, 0, none⟩, 2, rfl, nil_steps _, K16.out, K26.out⟩ ⟨by decide, by decide, by decide, by decide, by decide⟩ (by rw [textX1]; decide) (HC.out.ext X16.out).pow (HWD.out.ext X16.out)).mono ?_
  rintro r w17 ⟨rfl, x17⟩
  rw [textX1]
  have X17 := Lib.hid (X16.out.trans x17); have RZ17 := Lib.hid (RZ.out.ext x17); have ST17 := Lib.hid (ST.out.ext x17)
  clear x17 q0 q1 q2 q3 q4 q5
  obtain ⟨q0, q1, q2, q3, q4, q5⟩ := RZ17.out.cells
  go_wp2_with fail
  refine (CText_any z0 _ w17 ⟨some ⟨b15 + 1, 0, none⟩, 1, none, 0, none, 0, rfl, ST17.out, nil_ints _, nil_ints _⟩ ⟨by decide, by decide, fun s hs => by simp [z0, steps0] at hs; subst hs; exact ⟨by decide, by decide⟩, by decide, by decide⟩ (by rw [textZ]; decide) (HC.out.ext X17.out).pow (HWD.out.ext X17.out)).mono ?_
  rintro r w18 ⟨rfl, x18⟩
  rw [textZ, show (⟨tz0.toArray⟩ : ByteArray) = ⟨#[99, 101, 114, 116, 32, 97, 32, 48, 49, 50, 51, 52, 53, 54, 55, 56, 57, 97, 98, 99, 100, 101, 102, 32, 121, 101, 115, 32, 49, 10, 58, 32, 48, 32, 49, 10]⟩ from rfl]
  have X18 := Lib.hid (X17.out.trans x18); have ST18 := Lib.hid (ST17.out.ext x18)
  clear x18 q0 q1 q2 q3 q4 q5
  go_wp2_with fail
  refine (PText_any steps0 _ w18 ST18.out (by simp [steps0, InI]) (by rw [textS0]; decide) (HC.out.ext X18.out).pow).mono ?_
  rintro r w19 ⟨rfl, x19⟩
  rw [textS0]
  have X19 := Lib.hid (X18.out.trans x19)
  clear x19
  go_wp2_with fail
  refine (CParse_any tb0 w19 (by decide) (by decide) (HWD.out.ext X19.out) (HT.out.ext X19.out)).mono ?_
  rintro r w20 ⟨x20, hq⟩
  obtain ⟨_, v, rfl, hv⟩ := hq.resolve_right (fun ⟨z, v, h, _⟩ => by rw [parseB] at h; cases h)
  have X20 := Lib.hid (X19.out.trans x20)
  clear x20 hq hv
  go_wp2_with fail
  go_ret
  exact ⟨rfl, X20.out⟩
end Go.Proofs.YtoopoljchhdobaaGreatDoor
