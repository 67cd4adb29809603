/-
  The walks of the reference's Power, Size, Small (XRef1 without arity).
-/
import Derived.Test.YtoopoljchhdobaaDoorEval
namespace Go.Proofs.YtoopoljchhdobaaDoor
open Go.RowKit

theorem pow_bd (k : Nat) (h : k ≤ 20) : 0 < (2 : Int) ^ k ∧ (2 : Int) ^ k ≤ 1048576 := by
  have h1 := Nat.pow_le_pow_right (n := 2) (by decide) h
  have e : ((2 : Int) ^ k) = ((2 ^ k : Nat) : Int) := by simp
  have h2 := Nat.two_pow_pos k
  rw [e]
  omega

/-- What the reference's Size computes. -/
def sizeLim (s : Nat) (l : Int) : Int := if l ≤ 0 then 0 else if (s : Int) ≤ l then s else l

theorem sizeAll_snoc {ks : List E} {k : Nat} (h : k < ks.length) : sizeAll (ks.take (k + 1)) = sizeAll (ks.take k) + ks[k].size := by
  rw [sizeAll_eq, sizeAll_eq, List.take_succ_eq_append_getElem h, List.map_append, List.sum_append]
  simp only [List.map_cons, List.map_nil, List.sum_cons, List.sum_nil, Nat.add_zero]
theorem sizeAll_take (ks : List E) (k : Nat) : sizeAll (ks.take k) ≤ sizeAll ks := by
  have : ks = ks.take k ++ ks.drop k := (List.take_append_drop k ks).symm
  rw [sizeAll_eq, sizeAll_eq]
  conv => rhs; rw [this, List.map_append, List.sum_append]
  omega
theorem sizeLim_pos {s : Nat} {l : Int} (h : 0 < l) : sizeLim s l = if (s : Int) ≤ l then (s : Int) else l := by unfold sizeLim; rw [if_neg (by omega)]
theorem sizeLim_step {s t : Nat} {l : Int} (h : sizeLim s l < l) (h1 : 0 < l) : sizeLim (s + t) l = sizeLim s l + sizeLim t (l - sizeLim s l) := by
  have e : sizeLim s l = s := by
    rw [sizeLim_pos h1] at h ⊢
    split at h
    · rename_i c; rw [if_pos c]
    · omega
  rw [e] at h ⊢
  rw [sizeLim_pos h1, sizeLim_pos (by omega)]
  by_cases c : ((t : Nat) : Int) ≤ l - s
  · rw [if_pos c, if_pos (by omega)]; omega
  · rw [if_neg c, if_neg (by omega)]; omega
theorem sizeLim_stay {s t : Nat} {l : Int} (h : ¬ sizeLim s l < l) (h1 : 0 < l) : sizeLim (s + t) l = sizeLim s l := by
  rw [sizeLim_pos h1] at h ⊢
  rw [sizeLim_pos h1]
  split at h <;> split <;> omega
theorem sizeLim_bd (s : Nat) (l : Int) (h : 0 < l) : 0 ≤ sizeLim s l ∧ sizeLim s l ≤ l := by
  unfold sizeLim; rw [if_neg (by omega)]; split <;> omega

set_option maxHeartbeats 1000000 in
theorem RSize_any (N : Nat) : ∀ (e : E) (v : Value) (w : World) (l : Int), e.size ≤ N → EVal w v e → -10000 ≤ l → l ≤ 10000 →
    Calls Tryd.prog 57 #[v, .int .i64 l] w fun r w' => r = .returned (.int .i64 (sizeLim e.size l)) ∧ Ext w w' := by
  induction N with
  | zero => intro e v w l h; have := e.size_pos; omega
  | succ N ih =>
    intro e v w l hN he hl0 hl1
    obtain ⟨kv, rfl, hk⟩ := he
    obtain ⟨op, wd, n, ks⟩ := e
    simp only [E.op_mk, E.wd_mk, E.n_mk, E.kids_mk] at hk ⊢
    obtain ⟨a, cap, rfl⟩ := SliceAt.shape hk
    have hlen : ks.length ≤ 9223372036854775807 := SliceAt.len_le hk
    have IH := Lib.hid ih; have HK := Lib.hid hk; clear ih hk
    by_cases hl : l ≤ 0
    · have HF : Hid (sizeLim (E.mk op wd n ks).size l = 0) := by unfold Hid sizeLim; rw [if_pos hl]
      go_enter Tryd.func57, Tryd.ntmps57
      go_wp2_with fail
      go_ret
      exact ⟨by rw [HF.out]; rfl, (Ext.refl w).alloc _⟩
    · go_enter Tryd.func57, Tryd.ntmps57
      go_wp2_with fail
      go_loopw [5, 6] (fun m i wr => ∃ (k : Nat) (x : Int), k ≤ ks.length ∧ i = .int .i64 k ∧ m = .int .i64 x ∧ Hid (x = sizeLim (1 + sizeAll (ks.take k)) l) ∧ Ext (w.alloc (.cells #[.int .i64 op, .int .i64 wd, .int .i64 n, .slice a ks.length cap] 43)) wr) (fun _ i _ => ks.length - (intOf i).toNat)
      case atStart => exact ⟨0, 1, Nat.zero_le _, rfl, rfl, by unfold Hid sizeLim; simp [sizeAll]; omega, Ext.refl _⟩
      case round =>
        obtain ⟨k, x, hk, rfl, rfl, hx, hX⟩ := hrel
        have hbd : 0 ≤ x ∧ x ≤ l := by rw [hx.out]; exact sizeLim_bd _ _ (by omega)
        obtain ⟨hb0, hb1⟩ := hbd
        have c3 : wr.cell? ⟨w.heap.size, 3, none⟩ = some (.slice a ks.length cap) := hX.cell (by simp)
        have HX := Lib.hid hX; clear hX
        by_cases hlt : k < ks.length
        · by_cases hm : x < l
          · rcases HK.out with ⟨_, e⟩ | ⟨b', o', cap', e, _, hk'⟩
            · rw [e] at hlt; simp at hlt
            cases e
            have hE := (hk' k hlt).ext (((Ext.refl w).alloc _).trans HX.out)
            obtain ⟨g0, g1, g2, kv, g3, hkk⟩ := hE.cells
            obtain ⟨ka, kc, rfl⟩ := SliceAt.shape hkk
            have hin : ks[k] ∈ ks := List.getElem_mem hlt
            have hsz : ks[k].size ≤ N := by have := size_kid (op := op) (wd := wd) (n := n) hin; omega
            have HE : Hid (EVal wr (.agg #[.int .i64 ks[k].op, .int .i64 ks[k].wd, .int .i64 ks[k].n, .slice ka ks[k].kids.length kc]) ks[k]) := ⟨_, rfl, hkk⟩
            have HS := Lib.hid (sizeAll_snoc hlt)
            clear hkk hk' hE
            have hd : decide (x < l) = true := by simpa using hm
            go_wp2_with fail
            refine (IH.out _ _ _ _ hsz HE.out (by omega) (by omega)).mono ?_
            rintro r w1 ⟨rfl, hx1⟩
            have hq := sizeLim_bd ks[k].size (l - x) (by omega)
            have HQ : Hid (x + sizeLim ks[k].size (l - x) = sizeLim (1 + sizeAll (ks.take (k + 1))) l) := by
              unfold Hid
              rw [HS.out, ← Nat.add_assoc, sizeLim_step (by rw [← hx.out]; exact hm) (by omega), ← hx.out]
            have HX1 := Lib.hid (HX.out.trans hx1); clear hx1
            generalize sizeLim ks[k].size (l - x) = q at *
            obtain ⟨hq0, hq1⟩ := hq
            go_wp2_with fail
            exact ⟨⟨k + 1, _, by omega, by go_num, rfl, HQ, HX1.out⟩, by simp [intOf]; omega⟩
          · have hd : decide (x < l) = false := by simpa using hm
            have HF : Hid (x = sizeLim (E.mk op wd n ks).size l) := by
              unfold Hid
              have h1 := hx.out
              have h2 := sizeAll_take ks k
              have : (E.mk op wd n ks).size = (1 + sizeAll (ks.take k)) + (sizeAll ks - sizeAll (ks.take k)) := by simp only [E.size]; omega
              rw [this, sizeLim_stay (by rw [← h1]; exact hm) (by omega)]; exact h1
            go_wp2_with fail
            go_ret
            exact ⟨by rw [← HF.out]; rfl, ((Ext.refl w).alloc _).trans HX.out⟩
        · have HF : Hid (x = sizeLim (E.mk op wd n ks).size l) := by
            unfold Hid
            obtain rfl : k = ks.length := by omega
            have := hx.out
            rw [List.take_length] at this
            exact this
          go_wp2_with fail
          go_ret
          exact ⟨by rw [← HF.out]; rfl, ((Ext.refl w).alloc _).trans HX.out⟩

set_option maxHeartbeats 400000 in
theorem RSmall_any (e : E) (v : Value) (w : World) (l : Int) (he : EVal w v e) (h0 : 0 ≤ l) (h1 : l ≤ 1000) :
    Calls Tryd.prog 38 #[v, .int .i64 l] w fun r w' => r = .returned (.bool (decide ((e.size : Int) ≤ l))) ∧ Ext w w' := by
  obtain ⟨kv, rfl, hk⟩ := he
  obtain ⟨a, cap, rfl⟩ := SliceAt.shape hk
  have HK := Lib.hid hk; clear hk
  go_enter Tryd.func38, Tryd.ntmps38
  go_wp2_with fail
  refine (RSize_any e.size e _ _ (l + 1) (Nat.le_refl _) ⟨_, rfl, HK.out.ext ((Ext.refl w).alloc _)⟩ (by omega) (by omega)).mono ?_
  rintro r w1 ⟨rfl, hx1⟩
  have HX := Lib.hid (((Ext.refl w).alloc _).trans hx1)
  have HF : Hid (decide (sizeLim e.size (l + 1) ≤ l) = decide ((e.size : Int) ≤ l)) := by
    unfold Hid sizeLim; rw [if_neg (by omega)]; split <;> simp only [decide_eq_decide] <;> omega
  clear hx1
  go_wp2_with fail
  go_ret
  exact ⟨by rw [← HF.out]; rfl, HX.out⟩
end Go.Proofs.YtoopoljchhdobaaDoor
