/-
  The walks of the reference's Power, Size, Small (XRef1 without arity).
  The walks of the reference's Const, Cell, Old, Two.
-/
import Derived.Test.YtdiopiekmdfklaaDoorMEval
import Derived.Test.YtdiopiekmdfklaaDoorMBmc
namespace Go.Proofs.YtdiopiekmdfklaaDoor
open Go.RowKit

theorem pow_bd (k : Nat) (h : k ≤ 20) : 0 < (2 : Int) ^ k ∧ (2 : Int) ^ k ≤ 1048576 := by
  have h1 := Nat.pow_le_pow_right (n := 2) (by decide) h
  have e : ((2 : Int) ^ k) = ((2 ^ k : Nat) : Int) := by simp
  have h2 := Nat.two_pow_pos k
  rw [e]
  omega

set_option maxHeartbeats 400000 in
theorem Power_any (n : Int) (w : World) (h : n ≤ 20) : Calls Tryd.prog 25 #[.int .i64 n] w fun e w' => e = .returned (.int .i64 (pw n)) ∧ w = w' := by
  go_enter Tryd.func25, Tryd.ntmps25
  go_wp2
  go_loop [3, 4] (fun o i => ∃ (k : Nat) (p : Int), (k = 0 ∨ (k : Int) ≤ n) ∧ i = .int .i64 k ∧ o = .int .i64 p ∧ Hid (p = 2 ^ k)) (fun _ i => n.toNat - (intOf i).toNat)
  case atStart => exact ⟨0, 1, .inl rfl, rfl, rfl, by simp [Hid]⟩
  case round =>
    obtain ⟨k, p, hk, rfl, rfl, hp⟩ := hrel
    have hb : 0 < p ∧ p ≤ 1048576 := by rw [hp.out]; exact pow_bd k (by omega)
    obtain ⟨hb1, hb2⟩ := hb
    by_cases hlt : (k : Int) < n
    · go_wp2
      go_round
      case rel => exact ⟨k + 1, _, .inr (by omega), by go_num, rfl, by unfold Hid; rw [Int.pow_succ, ← hp.out]⟩
      case measure => simp [intOf]; omega
    · go_wp2
      go_ret
      refine ⟨?_, rfl⟩
      have : n.toNat = k := by omega
      rw [pw, this, ← hp.out]; rfl

/-- What the reference's Size computes. -/
def sizeLim (s : Nat) (l : Int) : Int := if l ≤ 0 then 0 else if (s : Int) ≤ l then s else l

theorem sizeAll_snoc {ks : List E} {k : Nat} (h : k < ks.length) : sizeAll (ks.take (k + 1)) = sizeAll (ks.take k) + ks[k].size := by
  rw [sizeAll_eq, sizeAll_eq, List.take_succ_eq_append_getElem h, List.map_append, List.sum_append]
  simp only [List.map_cons, List.map_nil, List.sum_cons, List.sum_nil, Nat.add_zero]
theorem sizeAll_take (ks : List E) (k : Nat) : sizeAll (ks.take k) ≤ sizeAll ks := by
  have : ks = ks.take k ++ ks.drop k := (List.take_append_drop k ks).symm
  rw [sizeAll_eq, sizeAll_eq]
  conv => rhs; rw [this, List.map_append, List.sum_append]
  omega
theorem sizeLim_pos {s : Nat} {l : Int} (h : 0 < l) : sizeLim s l = if (s : Int) ≤ l then (s : Int) else l := by unfold sizeLim; rw [if_neg (by omega)]
theorem sizeLim_step {s t : Nat} {l : Int} (h : sizeLim s l < l) (h1 : 0 < l) : sizeLim (s + t) l = sizeLim s l + sizeLim t (l - sizeLim s l) := by
  have e : sizeLim s l = s := by
    rw [sizeLim_pos h1] at h ⊢
    split at h
    · rename_i c; rw [if_pos c]
    · omega
  rw [e] at h ⊢
  rw [sizeLim_pos h1, sizeLim_pos (by omega)]
  by_cases c : ((t : Nat) : Int) ≤ l - s
  · rw [if_pos c, if_pos (by omega)]; omega
  · rw [if_neg c, if_neg (by omega)]; omega
theorem sizeLim_stay {s t : Nat} {l : Int} (h : ¬ sizeLim s l < l) (h1 : 0 < l) : sizeLim (s + t) l = sizeLim s l := by
  rw [sizeLim_pos h1] at h ⊢
  rw [sizeLim_pos h1]
  split at h <;> split <;> omega
theorem sizeLim_bd (s : Nat) (l : Int) (h : 0 < l) : 0 ≤ sizeLim s l ∧ sizeLim s l ≤ l := by
  unfold sizeLim; rw [if_neg (by omega)]; split <;> omega

set_option maxHeartbeats 1000000 in
theorem RSize_any (N : Nat) : ∀ (e : E) (v : Value) (w : World) (l : Int), e.size ≤ N → EVal w v e → -10000 ≤ l → l ≤ 10000 →
    Calls Tryd.prog 40 #[v, .int .i64 l] w fun r w' => r = .returned (.int .i64 (sizeLim e.size l)) ∧ Ext w w' := by
  induction N with
  | zero => intro e v w l h; have := e.size_pos; omega
  | succ N ih =>
    intro e v w l hN he hl0 hl1
    obtain ⟨kv, rfl, hk⟩ := he
    obtain ⟨op, wd, n, ks⟩ := e
    simp only [E.op_mk, E.wd_mk, E.n_mk, E.kids_mk] at hk ⊢
    obtain ⟨a, cap, rfl⟩ := SliceAt.shape hk
    have hlen : ks.length ≤ 9223372036854775807 := SliceAt.len_le hk
    have IH := Lib.hid ih; have HK := Lib.hid hk; clear ih hk
    by_cases hl : l ≤ 0
    · have HF : Hid (sizeLim (E.mk op wd n ks).size l = 0) := by unfold Hid sizeLim; rw [if_pos hl]
      go_enter Tryd.func40, Tryd.ntmps40
      go_wp2_with fail
      go_ret
      exact ⟨by rw [HF.out]; rfl, (Ext.refl w).alloc _⟩
    · go_enter Tryd.func40, Tryd.ntmps40
      go_wp2_with fail
      go_loopw [5, 6] (fun m i wr => ∃ (k : Nat) (x : Int), k ≤ ks.length ∧ i = .int .i64 k ∧ m = .int .i64 x ∧ Hid (x = sizeLim (1 + sizeAll (ks.take k)) l) ∧ Ext (w.alloc (.cells #[.int .i64 op, .int .i64 wd, .int .i64 n, .slice a ks.length cap] 26)) wr) (fun _ i _ => ks.length - (intOf i).toNat)
      case atStart => exact ⟨0, 1, Nat.zero_le _, rfl, rfl, by unfold Hid sizeLim; simp [sizeAll]; omega, Ext.refl _⟩
      case round =>
        obtain ⟨k, x, hk, rfl, rfl, hx, hX⟩ := hrel
        have hbd : 0 ≤ x ∧ x ≤ l := by rw [hx.out]; exact sizeLim_bd _ _ (by omega)
        obtain ⟨hb0, hb1⟩ := hbd
        have c3 : wr.cell? ⟨w.heap.size, 3, none⟩ = some (.slice a ks.length cap) := hX.cell (by simp)
        have HX := Lib.hid hX; clear hX
        by_cases hlt : k < ks.length
        · by_cases hm : x < l
          · rcases HK.out with ⟨_, e⟩ | ⟨b', o', cap', e, _, hk'⟩
            · rw [e] at hlt; simp at hlt
            cases e
            have hE := (hk' k hlt).ext (((Ext.refl w).alloc _).trans HX.out)
            obtain ⟨g0, g1, g2, kv, g3, hkk⟩ := hE.cells
            obtain ⟨ka, kc, rfl⟩ := SliceAt.shape hkk
            have hin : ks[k] ∈ ks := List.getElem_mem hlt
            have hsz : ks[k].size ≤ N := by have := size_kid (op := op) (wd := wd) (n := n) hin; omega
            have HE : Hid (EVal wr (.agg #[.int .i64 ks[k].op, .int .i64 ks[k].wd, .int .i64 ks[k].n, .slice ka ks[k].kids.length kc]) ks[k]) := ⟨_, rfl, hkk⟩
            have HS := Lib.hid (sizeAll_snoc hlt)
            clear hkk hk' hE
            have hd : decide (x < l) = true := by simpa using hm
            go_wp2_with fail
            refine (IH.out _ _ _ _ hsz HE.out (by omega) (by omega)).mono ?_
            rintro r w1 ⟨rfl, hx1⟩
            have hq := sizeLim_bd ks[k].size (l - x) (by omega)
            have HQ : Hid (x + sizeLim ks[k].size (l - x) = sizeLim (1 + sizeAll (ks.take (k + 1))) l) := by
              unfold Hid
              rw [HS.out, ← Nat.add_assoc, sizeLim_step (by rw [← hx.out]; exact hm) (by omega), ← hx.out]
            have HX1 := Lib.hid (HX.out.trans hx1); clear hx1
            generalize sizeLim ks[k].size (l - x) = q at *
            obtain ⟨hq0, hq1⟩ := hq
            go_wp2_with fail
            exact ⟨⟨k + 1, _, by omega, by go_num, rfl, HQ, HX1.out⟩, by simp [intOf]; omega⟩
          · have hd : decide (x < l) = false := by simpa using hm
            have HF : Hid (x = sizeLim (E.mk op wd n ks).size l) := by
              unfold Hid
              have h1 := hx.out
              have h2 := sizeAll_take ks k
              have : (E.mk op wd n ks).size = (1 + sizeAll (ks.take k)) + (sizeAll ks - sizeAll (ks.take k)) := by simp only [E.size]; omega
              rw [this, sizeLim_stay (by rw [← h1]; exact hm) (by omega)]; exact h1
            go_wp2_with fail
            go_ret
            exact ⟨by rw [← HF.out]; rfl, ((Ext.refl w).alloc _).trans HX.out⟩
        · have HF : Hid (x = sizeLim (E.mk op wd n ks).size l) := by
            unfold Hid
            obtain rfl : k = ks.length := by omega
            have := hx.out
            rw [List.take_length] at this
            exact this
          go_wp2_with fail
          go_ret
          exact ⟨by rw [← HF.out]; rfl, ((Ext.refl w).alloc _).trans HX.out⟩

set_option maxHeartbeats 400000 in
theorem RSmall_any (e : E) (v : Value) (w : World) (l : Int) (he : EVal w v e) (h0 : 0 ≤ l) (h1 : l ≤ 1000) :
    Calls Tryd.prog 10 #[v, .int .i64 l] w fun r w' => r = .returned (.bool (decide ((e.size : Int) ≤ l))) ∧ Ext w w' := by
  obtain ⟨kv, rfl, hk⟩ := he
  obtain ⟨a, cap, rfl⟩ := SliceAt.shape hk
  have HK := Lib.hid hk; clear hk
  go_enter Tryd.func10, Tryd.ntmps10
  go_wp2_with fail
  refine (RSize_any e.size e _ _ (l + 1) (Nat.le_refl _) ⟨_, rfl, HK.out.ext ((Ext.refl w).alloc _)⟩ (by omega) (by omega)).mono ?_
  rintro r w1 ⟨rfl, hx1⟩
  have HX := Lib.hid (((Ext.refl w).alloc _).trans hx1)
  have HF : Hid (decide (sizeLim e.size (l + 1) ≤ l) = decide ((e.size : Int) ≤ l)) := by
    unfold Hid sizeLim; rw [if_neg (by omega)]; split <;> simp only [decide_eq_decide] <;> omega
  clear hx1
  go_wp2_with fail
  go_ret
  exact ⟨by rw [← HF.out]; rfl, HX.out⟩
end Go.Proofs.YtdiopiekmdfklaaDoor
namespace Go.Proofs.YtdiopiekmdfklaaDoor
open Go.RowKit

set_option maxHeartbeats 400000 in
theorem RConst_any (n wd : Int) (w : World) : Calls Tryd.prog 35 #[.int .i64 n, .int .i64 wd] w fun r w' => r = .returned (.agg #[.int .i64 1, .int .i64 wd, .int .i64 n, .slice none 0 0]) ∧ Ext w w' := by
  go_enter Tryd.func35, Tryd.ntmps35
  go_wp2_with fail
  exact bodyPost_ret (v := .agg #[.int .i64 1, .int .i64 wd, .int .i64 n, .slice none 0 0]) (by simp [results, Tryd.results35, go_sem]) rfl ⟨rfl, (Ext.refl w).alloc _⟩
set_option maxHeartbeats 400000 in
theorem RCell_any (n wd : Int) (w : World) : Calls Tryd.prog 36 #[.int .i64 n, .int .i64 wd] w fun r w' => r = .returned (.agg #[.int .i64 2, .int .i64 wd, .int .i64 n, .slice none 0 0]) ∧ Ext w w' := by
  go_enter Tryd.func36, Tryd.ntmps36
  go_wp2_with fail
  exact bodyPost_ret (v := .agg #[.int .i64 2, .int .i64 wd, .int .i64 n, .slice none 0 0]) (by simp [results, Tryd.results36, go_sem]) rfl ⟨rfl, (Ext.refl w).alloc _⟩
/-- What a function leaves that returns an expression. -/
def RetE (e : E) (w : World) (r : Ending) (w' : World) : Prop := (∃ v, r = .returned v ∧ EVal w' v e) ∧ Ext w w'
theorem EVal.shape' {w : World} {v : Value} {e : E} (h : EVal w v e) : ∃ a c, v = .agg #[.int .i64 e.op, .int .i64 e.wd, .int .i64 e.n, .slice a e.kids.length c] ∧ Kids w (.slice a e.kids.length c) e.kids := by
  obtain ⟨k, h1, h2⟩ := h
  obtain ⟨a, c, rfl⟩ := SliceAt.shape h2
  exact ⟨a, c, h1, h2⟩

theorem two_val {w W : World} {K : Nat} {a b : E} {ka kb : Value} (hx : Ext w W) (hk : Kids w ka a.kids) (hk2 : Kids w kb b.kids)
    (hb : W.heap[K]? = some (.cells #[.int .i64 a.op, .int .i64 a.wd, .int .i64 a.n, ka, .int .i64 b.op, .int .i64 b.wd, .int .i64 b.n, kb] 26 (0, 0))) : Kids W (.slice (some ⟨K, 0, none⟩) 2 2) [a, b] := by
  refine .inr ⟨K, 0, 2, rfl, by simp, fun i h => ?_⟩
  have : i = 0 ∨ i = 1 := by simp at h; omega
  rcases this with rfl | rfl
  · exact IsE.of_cells (v := ka) (by simp [World.cell?, hb]) (by simp [World.cell?, hb]) (by simp [World.cell?, hb]) (by simp [World.cell?, hb]) (hk.ext hx)
  · exact IsE.of_cells (v := kb) (by simp [World.cell?, hb]) (by simp [World.cell?, hb]) (by simp [World.cell?, hb]) (by simp [World.cell?, hb]) (hk2.ext hx)

set_option maxHeartbeats 1000000 in
theorem RTwo_any (op wd : Int) (a b : E) (va vb : Value) (w : World) (ha : EVal w va a) (hb : EVal w vb b) :
    Calls Tryd.prog 34 #[.int .i64 op, .int .i64 wd, va, vb] w (RetE (.mk op wd 0 [a, b]) w) := by
  obtain ⟨aa, ac, rfl, hk⟩ := ha.shape'
  obtain ⟨ba, bc, rfl, hk2⟩ := hb.shape'
  have HK := Lib.hid hk; have HK2 := Lib.hid hk2; clear hk hk2 ha hb
  go_enter Tryd.func34, Tryd.ntmps34
  go_wp2_with fail
  refine bodyPost_ret (v := .agg #[.int .i64 op, .int .i64 wd, .int .i64 0, .slice (some ⟨w.heap.size + 1 + 1 + 1, 0, none⟩) 2 2]) (by simp [results, Tryd.results34, go_sem]) rfl ⟨⟨_, rfl, ⟨_, rfl, ?_⟩⟩, (((Ext.refl w).alloc _).alloc _).alloc _ |>.alloc _⟩
  exact two_val ((((Ext.refl w).alloc _).alloc _).alloc _ |>.alloc _) HK.out HK2.out (by simpa using heap_new (((w.alloc _).alloc _).alloc _) _)
end Go.Proofs.YtdiopiekmdfklaaDoor
