/-
  The walks of equal, constant, isConst, isOnes, negation.
  The walks of the reference's deep, Formed, Same, Const, Cell, Two.
-/
import Derived.Test.YtlcgbdjmlnjhcaaGreatDoorG14
import Derived.Test.YtlcgbdjmlnjhcaaGreatDoorG20
namespace Go.Proofs.YtlcgbdjmlnjhcaaGreatDoor
open Go.RowKit

mutual
/-- Equality of expressions, as a test. -/
def E.eqB : E → E → Bool
  | .mk a b c ks, .mk a' b' c' ks' => decide (a = a') && decide (b = b') && decide (c = c') && eqAll ks ks'
def eqAll : List E → List E → Bool
  | [], [] => true
  | e :: r, e' :: r' => e.eqB e' && eqAll r r'
  | _, _ => false
end
mutual
theorem eqB_iff : (a b : E) → (a.eqB b = true ↔ a = b)
  | .mk a b c ks, .mk a' b' c' ks' => by
    simp only [E.eqB, Bool.and_eq_true, decide_eq_true_eq, eqAll_iff ks ks', E.mk.injEq, and_assoc]
theorem eqAll_iff : (a b : List E) → (eqAll a b = true ↔ a = b)
  | [], [] => by simp [eqAll]
  | [], _ :: _ => by simp [eqAll]
  | _ :: _, [] => by simp [eqAll]
  | e :: r, e' :: r' => by simp [eqAll, eqB_iff e e', eqAll_iff r r']
end
theorem eqAll_length {a b : List E} (h : a.length ≠ b.length) : eqAll a b = false := by
  cases hq : eqAll a b with
  | false => rfl
  | true => exact absurd (by rw [(eqAll_iff a b).1 hq]) h
theorem eqAll_get {a b : List E} {i : Nat} (h1 : i < a.length) (h2 : i < b.length) (h : a[i].eqB b[i] = false) : eqAll a b = false := by
  cases hq : eqAll a b with
  | false => rfl
  | true =>
    have := (eqAll_iff a b).1 hq
    subst this
    rw [(eqB_iff _ _).2 rfl] at h; cases h
theorem eqAll_all {a b : List E} (hl : a.length = b.length) (h : ∀ (i : Nat) (h1 : i < a.length) (h2 : i < b.length), a[i].eqB b[i] = true) : eqAll a b = true := by
  rw [eqAll_iff]
  exact List.ext_getElem hl fun i h1 h2 => (eqB_iff _ _).1 (h i h1 h2)

end Go.Proofs.YtlcgbdjmlnjhcaaGreatDoor
namespace Go.Proofs.YtlcgbdjmlnjhcaaGreatDoor
open Go.RowKit

theorem deep_no {op wd n : Int} {ks : List E} {d : Nat} (h : d < 1 ∨ shapedW op wd n (ks.map E.wd) = false) : (E.mk op wd n ks).deep d = false := by
  rcases h with h | h
  · simp [E.deep]; omega
  · simp [E.deep, h]
theorem deep_no_kid {op wd n : Int} {ks : List E} {d k : Nat} (hk : k < ks.length) (h : ks[k].deep (d - 1) = false) : (E.mk op wd n ks).deep d = false := by
  cases hq : (E.mk op wd n ks).deep d with
  | false => rfl
  | true =>
    simp only [E.deep, Bool.and_eq_true] at hq
    have := (deepAll_iff _ _).1 hq.2 _ (List.getElem_mem hk)
    rw [h] at this; cases this
theorem deep_yes {op wd n : Int} {ks : List E} {d : Nat} (h1 : 1 ≤ d) (h2 : shapedW op wd n (ks.map E.wd) = true) (h3 : ∀ (i : Nat) (h : i < ks.length), ks[i].deep (d - 1) = true) : (E.mk op wd n ks).deep d = true := by
  simp only [E.deep, Bool.and_eq_true, decide_eq_true_eq]
  refine ⟨⟨h1, h2⟩, (deepAll_iff _ _).2 fun k hk => ?_⟩
  obtain ⟨i, hi, rfl⟩ := List.mem_iff_getElem.1 hk
  exact h3 i hi

set_option maxHeartbeats 2000000 in
theorem Rdeep_any (N : Nat) : ∀ (e : E) (v : Value) (w : World) (l : Int), e.size ≤ N → EVal w v e → -10000 ≤ l → l ≤ 10000 →
    Calls Tryz.prog 54 #[v, .int .i64 l] w fun r w' => r = .returned (.bool (e.deep l.toNat)) ∧ Ext w w' := by
  induction N with
  | zero => intro e v w l h; have := e.size_pos; omega
  | succ N ih =>
    intro e v w l hN he hl0 hl1
    obtain ⟨kv, rfl, hk⟩ := he
    obtain ⟨op, wd, n, ks⟩ := e
    simp only [E.op_mk, E.wd_mk, E.n_mk, E.kids_mk] at hk ⊢
    obtain ⟨a, cap, rfl⟩ := SliceAt.shape hk
    have hlen : ks.length ≤ 9223372036854775807 := SliceAt.len_le hk
    have IH := Lib.hid ih; have HK := Lib.hid hk; clear ih hk
    by_cases hl : l < 1
    · have hd : decide (l < 1) = true := by simpa using hl
      have HF : Hid ((E.mk op wd n ks).deep l.toNat = false) := deep_no (.inl (by omega))
      go_enter Tryz.func54, Tryz.ntmps54
      go_wp2_with fail
      go_ret
      exact ⟨by rw [HF.out]; rfl, (Ext.refl w).alloc _⟩
    · have hd : decide (l < 1) = false := by simpa using hl
      go_enter Tryz.func54, Tryz.ntmps54
      go_wp2_with fail
      refine (node_any (.mk op wd n ks) _ _ ⟨_, rfl, HK.out.ext ((Ext.refl w).alloc _)⟩).mono ?_
      rintro r w1 ⟨rfl, hx1⟩
      simp only [E.op_mk, E.wd_mk, E.n_mk, E.kids_mk]
      have c3' : w1.cell? ⟨w.heap.size, 3, none⟩ = some (.slice a ks.length cap) := hx1.cell (by simp)
      have HX1 := Lib.hid (((Ext.refl w).alloc _).trans hx1); clear hx1
      cases hs : shapedW op wd n (ks.map E.wd) with
      | false =>
        have HF : Hid ((E.mk op wd n ks).deep l.toNat = false) := deep_no (.inr hs)
        clear hs
        go_wp2_with fail
        go_ret
        exact ⟨by rw [HF.out]; rfl, HX1.out⟩
      | true =>
        have HS := Lib.hid hs; clear hs
        go_wp2_with fail
        go_loopw [5] (fun i wr => ∃ (k : Nat), k ≤ ks.length ∧ i = .int .i64 k ∧ Ext w1 wr ∧ ∀ (j : Nat) (h : j < ks.length), j < k → ks[j].deep (l.toNat - 1) = true) (fun i _ => ks.length - (intOf i).toNat)
        case atStart => exact ⟨0, Nat.zero_le _, rfl, Ext.refl _, fun j _ h => absurd h (Nat.not_lt_zero _)⟩
        case round =>
          obtain ⟨k, hk, rfl, hX, hR⟩ := hrel
          have c3 : wr.cell? ⟨w.heap.size, 3, none⟩ = some (.slice a ks.length cap) := hX.cell c3'
          have HX := Lib.hid hX; have HR := Lib.hid hR; clear hX hR
          by_cases hlt : k < ks.length
          · rcases HK.out with ⟨_, e⟩ | ⟨b', o', cap', e, _, hk'⟩
            · rw [e] at hlt; simp at hlt
            cases e
            have hE := (hk' k hlt).ext (HX1.out.trans HX.out)
            obtain ⟨g0, g1, g2, kv, g3, hkk⟩ := hE.cells
            obtain ⟨ka, kc, rfl⟩ := SliceAt.shape hkk
            have hin : ks[k] ∈ ks := List.getElem_mem hlt
            have hsz : ks[k].size ≤ N := by have := size_kid (op := op) (wd := wd) (n := n) hin; omega
            have HE : Hid (EVal wr (.agg #[.int .i64 ks[k].op, .int .i64 ks[k].wd, .int .i64 ks[k].n, .slice ka ks[k].kids.length kc]) ks[k]) := ⟨_, rfl, hkk⟩
            clear hkk hk' hE
            go_wp2_with fail
            refine (IH.out _ _ _ _ hsz HE.out (by omega) (by omega)).mono ?_
            rintro r w2 ⟨rfl, hx2⟩
            have HX2 := Lib.hid (HX.out.trans hx2); clear hx2
            rw [show (l - 1).toNat = l.toNat - 1 by omega]
            cases hq : ks[k].deep (l.toNat - 1) with
            | false =>
              have HF : Hid ((E.mk op wd n ks).deep l.toNat = false) := deep_no_kid hlt hq
              clear hq
              go_wp2_with fail
              go_ret
              exact ⟨by rw [HF.out]; rfl, HX1.out.trans HX2.out⟩
            | true =>
              have HQ := Lib.hid hq; clear hq
              go_wp2_with fail
              refine ⟨⟨k + 1, by omega, by go_num, HX2.out, fun j h hj => ?_⟩, by simp [intOf]; omega⟩
              by_cases c : j = k
              · subst c; exact HQ.out
              · exact HR.out j h (by omega)
          · have HF : Hid ((E.mk op wd n ks).deep l.toNat = true) := deep_yes (by omega) HS.out fun i h => HR.out i h (by omega)
            go_wp2_with fail
            go_ret
            exact ⟨by rw [HF.out]; rfl, HX1.out.trans HX.out⟩

set_option maxHeartbeats 400000 in
theorem RFormed_any (e : E) (v : Value) (w : World) (he : EVal w v e) :
    Calls Tryz.prog 21 #[v] w fun r w' => r = .returned (.bool e.wf) ∧ Ext w w' := by
  obtain ⟨kv, rfl, hk⟩ := he
  obtain ⟨a, cap, rfl⟩ := SliceAt.shape hk
  have HK := Lib.hid hk; clear hk
  go_enter Tryz.func21, Tryz.ntmps21
  go_wp2_with fail
  refine (RSize_any e.size e _ _ 601 (Nat.le_refl _) ⟨_, rfl, HK.out.ext ((Ext.refl w).alloc _)⟩ (by omega) (by omega)).mono ?_
  rintro r w1 ⟨rfl, hx1⟩
  have c0 : w1.cell? ⟨w.heap.size, 0, none⟩ = some (.int .i64 e.op) := hx1.cell (by simp)
  have c1 : w1.cell? ⟨w.heap.size, 1, none⟩ = some (.int .i64 e.wd) := hx1.cell (by simp)
  have c2 : w1.cell? ⟨w.heap.size, 2, none⟩ = some (.int .i64 e.n) := hx1.cell (by simp)
  have c3 : w1.cell? ⟨w.heap.size, 3, none⟩ = some (.slice a e.kids.length cap) := hx1.cell (by simp)
  have HX := Lib.hid (((Ext.refl w).alloc _).trans hx1)
  clear hx1
  by_cases h : e.size ≤ 600
  · have hd : decide (sizeLim e.size 601 ≤ 600) = true := by unfold sizeLim; rw [if_neg (by omega)]; simp; split <;> omega
    have HF : Hid (e.wf = e.deep 40) := by unfold Hid E.wf; simp [h]
    go_wp2_with fail
    refine (Rdeep_any e.size e _ _ 40 (Nat.le_refl _) ⟨_, rfl, HK.out.ext HX.out⟩ (by omega) (by omega)).mono ?_
    rintro r w2 ⟨rfl, hx2⟩
    have HX2 := Lib.hid (HX.out.trans hx2); clear hx2
    go_wp2_with fail
    go_ret
    exact ⟨by rw [HF.out]; rfl, HX2.out⟩
  · have hd : decide (sizeLim e.size 601 ≤ 600) = false := by unfold sizeLim; rw [if_neg (by omega)]; simp; split <;> omega
    have HF : Hid (e.wf = false) := by unfold Hid E.wf; simp [h]
    go_wp2_with fail
    go_ret
    exact ⟨by rw [HF.out]; rfl, HX.out⟩
end Go.Proofs.YtlcgbdjmlnjhcaaGreatDoor
