/-
  The walks of the reference's Same and of law25's clause, ranged.
-/
import Derived.Test.YtoopoljchhdobaaDoorPq1
import Derived.BigQuiet
namespace Go.Proofs.YtoopoljchhdobaaDoor
open Go.RowKit

open Classical in
noncomputable def sameP (l m : List St) : Bool := decide (l = m)
theorem sameP_iff {l m : List St} : sameP l m = true ↔ l = m := by simp [sameP]
theorem sameP_no {l m : List St} (h : ¬ l = m) : sameP l m = false := by rw [Bool.eq_false_iff]; exact fun c => h (sameP_iff.1 c)
theorem st_ext {s t : St} (h1 : s.lits = t.lits) (h2 : s.hints = t.hints) : s = t := by cases s; cases t; simp_all
theorem Steps.getD_at {w : World} {a : Option Addr} {n c : Nat} {l : List St} (h : Steps w (.slice a n c) l) {k : Nat} (hk : k < l.length) : ∃ b o a1 c1 a2 c2, a = some ⟨b, o, none⟩ ∧ w.cell? ⟨b, o + k * 2, none⟩ = some (.slice a1 (l.getD k st0).lits.length c1) ∧ w.cell? ⟨b, o + k * 2 + 1, none⟩ = some (.slice a2 (l.getD k st0).hints.length c2) ∧
    Ints w (.slice a1 (l.getD k st0).lits.length c1) (l.getD k st0).lits ∧ Ints w (.slice a2 (l.getD k st0).hints.length c2) (l.getD k st0).hints := by
  have : l.getD k st0 = l[k] := by simp [List.getD, hk]
  rw [this]; exact h.at hk
set_option maxRecDepth 100000 in
set_option maxHeartbeats 4000000 in
theorem RSame_any (l m : List St) (vl vm : Value) (w : World) (hl : Steps w vl l) (hm : Steps w vm m) : Calls Tryd.prog 14 #[vl, vm] w fun r w' => r = .returned (.bool (sameP l m)) ∧ Ext w w' := by
  obtain ⟨la, lc, rfl⟩ := SliceAt.shape hl
  obtain ⟨ma, mc, rfl⟩ := SliceAt.shape hm
  have hlen := SliceAt.len_le hl
  have hlen2 := SliceAt.len_le hm
  have HL := Lib.hid hl; have HM := Lib.hid hm; clear hl hm
  by_cases he : l.length = m.length
  · have heb : (((l.length : Nat) : Int) != ((m.length : Nat) : Int)) = false := by rw [he]; simp
    have HEQ := Lib.hid he; clear he
    go_enter Tryd.func14, Tryd.ntmps14
    go_wp2_with fail
    go_loopw [5] (fun i wr => ∃ k : Nat, k ≤ l.length ∧ i = .int .i64 k ∧ Ext w wr ∧ ∀ j, j < k → l.getD j st0 = m.getD j st0) (fun i _ => l.length - (intOf i).toNat)
    case atStart => exact ⟨0, Nat.zero_le _, rfl, Ext.refl _, fun j h => absurd h (by omega)⟩
    case round =>
      obtain ⟨k, hk, rfl, hX, hR⟩ := hrel
      have HX := Lib.hid hX; have HR := Lib.hid hR; clear hX hR
      by_cases hlt : k < l.length
      · have hlt2 : k < m.length := by have := HEQ.out; omega
        obtain ⟨b, o, a1, c1, a2, c2, rfl, g0, g1, i1, i2⟩ := (HL.out.ext HX.out).getD_at hlt
        obtain ⟨b', o', a1', c1', a2', c2', rfl, g0', g1', i1', i2'⟩ := (HM.out.ext HX.out).getD_at hlt2
        have HS : Hid (l = m → l.getD k st0 = m.getD k st0) := fun h => by rw [h]
        have HY : Hid ((l.getD k st0).lits = (m.getD k st0).lits → (l.getD k st0).hints = (m.getD k st0).hints → ∀ j, j < k + 1 → l.getD j st0 = m.getD j st0) := fun h1 h2 j hj => by
          by_cases c : j = k
          · subst c; exact st_ext h1 h2
          · exact HR.out j (by omega)
        have HC1 : Hid (∀ q : Nat, Calls Tryd.prog 34 #[.slice a1 (l.getD k st0).lits.length c1, .slice a1' (m.getD k st0).lits.length c1'] (wr.drewN q) fun e w' => e = .returned (.bool (decide ((l.getD k st0).lits = (m.getD k st0).lits))) ∧ ∃ u, w' = wr.drewN u) := fun q => Calls.quiet_of (RInts_q _ _ _ _ _ (i1.ext ((Ext.refl _).drewN q)) (i1'.ext ((Ext.refl _).drewN q)))
        have HC2 : Hid (∀ q : Nat, Calls Tryd.prog 34 #[.slice a2 (l.getD k st0).hints.length c2, .slice a2' (m.getD k st0).hints.length c2'] (wr.drewN q) fun e w' => e = .returned (.bool (decide ((l.getD k st0).hints = (m.getD k st0).hints))) ∧ ∃ u, w' = wr.drewN u) := fun q => Calls.quiet_of (RInts_q _ _ _ _ _ (i2.ext ((Ext.refl _).drewN q)) (i2'.ext ((Ext.refl _).drewN q)))
        clear i1 i2 i1' i2'
        generalize l.getD k st0 = s at *
        generalize m.getD k st0 = t at *
        have i0 : (0 : Int) ≤ (k : Int) := by omega
        have j1 : (k : Int) < (l.length : Int) := by omega
        have j2 : (k : Int) < (m.length : Int) := by omega
        by_cases e1 : s.lits = t.lits
        · rw [decide_eq_true e1] at HC1
          by_cases e2 : s.hints = t.hints
          · rw [decide_eq_true e2] at HC2
            have HF := Lib.hid (HY.out e1 e2)
            clear HS HY e1 e2
            generalize s.lits.length = n1 at *
            generalize t.lits.length = n1' at *
            generalize s.hints.length = n2 at *
            generalize t.hints.length = n2' at *
            go_upto_region 6 with fail
            go_quiet ((go_at_call 34; first | with_reducible exact HC1.out _ | with_reducible exact HC2.out _))
            go_wp2_with fail
            exact ⟨⟨k + 1, by omega, by go_num, HX.out.drewN _, HF.out⟩, by simp [intOf]; omega⟩
          · rw [decide_eq_false e2] at HC2
            have HF : Hid (sameP l m = false) := sameP_no fun h => e2 (by rw [HS.out h])
            clear HS HY e1 e2
            generalize s.lits.length = n1 at *
            generalize t.lits.length = n1' at *
            generalize s.hints.length = n2 at *
            generalize t.hints.length = n2' at *
            go_upto_region 6 with fail
            go_quiet ((go_at_call 34; first | with_reducible exact HC1.out _ | with_reducible exact HC2.out _))
            go_wp2_with fail
            go_ret
            exact ⟨by rw [HF.out]; rfl, HX.out.drewN _⟩
        · rw [decide_eq_false e1] at HC1
          have HF : Hid (sameP l m = false) := sameP_no fun h => e1 (by rw [HS.out h])
          clear HS HY e1 HC2
          generalize s.lits.length = n1 at *
          generalize t.lits.length = n1' at *
          generalize s.hints.length = n2 at *
          generalize t.hints.length = n2' at *
          go_upto_region 6 with fail
          go_quiet ((go_at_call 34; with_reducible exact HC1.out _))
          go_wp2_with fail
          go_ret
          exact ⟨by rw [HF.out]; rfl, HX.out.drewN _⟩
      · have HF : Hid (sameP l m = true) := sameP_iff.2 (List.ext_getElem HEQ.out fun i h1 h2 => by
          have := HR.out i (by omega)
          simpa [List.getD, h1, h2] using this)
        go_wp2_with fail
        go_ret
        exact ⟨by rw [HF.out]; rfl, HX.out⟩
  · have heb : (((l.length : Nat) : Int) != ((m.length : Nat) : Int)) = true := by rw [bne_iff_ne]; omega
    have HF : Hid (sameP l m = false) := sameP_no fun h => he (by rw [h])
    go_enter Tryd.func14, Tryd.ntmps14
    go_wp2_with fail
    go_ret
    exact ⟨by rw [HF.out]; rfl, Ext.refl w⟩
theorem Lists.at {w : World} {a : Option Addr} {n c : Nat} {l : List (List Int)} (h : Lists w (.slice a n c) l) {k : Nat} (hk : k < l.length) : ∃ b o a1 c1, a = some ⟨b, o, none⟩ ∧ w.cell? ⟨b, o + k, none⟩ = some (.slice a1 (l.getD k []).length c1) ∧ Ints w (.slice a1 (l.getD k []).length c1) (l.getD k []) := by
  have e0 : l.getD k [] = l[k] := by simp [List.getD, hk]
  rw [e0]
  rcases h with ⟨_, e⟩ | ⟨b, o, cap, e, _, hc⟩
  · subst e; simp at hk
  · cases e
    obtain ⟨v, h1, h2⟩ := hc k hk
    obtain ⟨a1, c1, rfl⟩ := h2.shape
    rw [Nat.mul_one] at h1
    exact ⟨b, o, a1, c1, rfl, h1, h2⟩
end Go.Proofs.YtoopoljchhdobaaDoor
