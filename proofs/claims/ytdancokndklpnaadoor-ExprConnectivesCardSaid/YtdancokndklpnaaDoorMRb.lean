/-
  The walks of the reference's deep, Formed, Same, Const, Cell, Two.
  The walks of the reference's Same, Const, Cell, Two.
  The walk of the reference's Two.
-/
import Derived.Test.YtdancokndklpnaaDoorMRa
import Derived.Test.YtdancokndklpnaaDoorMSi
import Derived.StillTailTactics
namespace Go.Proofs.YtdancokndklpnaaDoor
open Go.RowKit

theorem deep_no {op wd n : Int} {ks : List E} {d : Nat} (h : d < 1 ∨ shapedW op wd n (ks.map E.wd) = false) : (E.mk op wd n ks).deep d = false := by
  rcases h with h | h
  · simp [E.deep]; omega
  · simp [E.deep, h]
theorem deep_no_kid {op wd n : Int} {ks : List E} {d k : Nat} (hk : k < ks.length) (h : ks[k].deep (d - 1) = false) : (E.mk op wd n ks).deep d = false := by
  cases hq : (E.mk op wd n ks).deep d with
  | false => rfl
  | true =>
    simp only [E.deep, Bool.and_eq_true] at hq
    have := (deepAll_iff _ _).1 hq.2 _ (List.getElem_mem hk)
    rw [h] at this; cases this
theorem deep_yes {op wd n : Int} {ks : List E} {d : Nat} (h1 : 1 ≤ d) (h2 : shapedW op wd n (ks.map E.wd) = true) (h3 : ∀ (i : Nat) (h : i < ks.length), ks[i].deep (d - 1) = true) : (E.mk op wd n ks).deep d = true := by
  simp only [E.deep, Bool.and_eq_true, decide_eq_true_eq]
  refine ⟨⟨h1, h2⟩, (deepAll_iff _ _).2 fun k hk => ?_⟩
  obtain ⟨i, hi, rfl⟩ := List.mem_iff_getElem.1 hk
  exact h3 i hi

set_option maxHeartbeats 2000000 in
theorem Rdeep_any (N : Nat) : ∀ (e : E) (v : Value) (w : World) (l : Int), e.size ≤ N → EVal w v e → -10000 ≤ l → l ≤ 10000 →
    Calls Tryd.prog 64 #[v, .int .i64 l] w fun r w' => r = .returned (.bool (e.deep l.toNat)) ∧ Ext w w' := by
  induction N with
  | zero => intro e v w l h; have := e.size_pos; omega
  | succ N ih =>
    intro e v w l hN he hl0 hl1
    obtain ⟨kv, rfl, hk⟩ := he
    obtain ⟨op, wd, n, ks⟩ := e
    simp only [E.op_mk, E.wd_mk, E.n_mk, E.kids_mk] at hk ⊢
    obtain ⟨a, cap, rfl⟩ := SliceAt.shape hk
    have hlen : ks.length ≤ 9223372036854775807 := SliceAt.len_le hk
    have IH := Lib.hid ih; have HK := Lib.hid hk; clear ih hk
    by_cases hl : l < 1
    · have hd : decide (l < 1) = true := by simpa using hl
      have HF : Hid ((E.mk op wd n ks).deep l.toNat = false) := deep_no (.inl (by omega))
      go_enter Tryd.func64, Tryd.ntmps64
      go_wp2_with fail
      go_ret
      exact ⟨by rw [HF.out]; rfl, (Ext.refl w).alloc _⟩
    · have hd : decide (l < 1) = false := by simpa using hl
      go_enter Tryd.func64, Tryd.ntmps64
      go_wp2_with fail
      refine (node_any (.mk op wd n ks) _ _ ⟨_, rfl, HK.out.ext ((Ext.refl w).alloc _)⟩).mono ?_
      rintro r w1 ⟨rfl, hx1⟩
      simp only [E.op_mk, E.wd_mk, E.n_mk, E.kids_mk]
      have c3' : w1.cell? ⟨w.heap.size, 3, none⟩ = some (.slice a ks.length cap) := hx1.cell (by simp)
      have HX1 := Lib.hid (((Ext.refl w).alloc _).trans hx1); clear hx1
      cases hs : shapedW op wd n (ks.map E.wd) with
      | false =>
        have HF : Hid ((E.mk op wd n ks).deep l.toNat = false) := deep_no (.inr hs)
        clear hs
        go_wp2_with fail
        go_ret
        exact ⟨by rw [HF.out]; rfl, HX1.out⟩
      | true =>
        have HS := Lib.hid hs; clear hs
        go_wp2_with fail
        go_loopw [5] (fun i wr => ∃ (k : Nat), k ≤ ks.length ∧ i = .int .i64 k ∧ Ext w1 wr ∧ ∀ (j : Nat) (h : j < ks.length), j < k → ks[j].deep (l.toNat - 1) = true) (fun i _ => ks.length - (intOf i).toNat)
        case atStart => exact ⟨0, Nat.zero_le _, rfl, Ext.refl _, fun j _ h => absurd h (Nat.not_lt_zero _)⟩
        case round =>
          obtain ⟨k, hk, rfl, hX, hR⟩ := hrel
          have c3 : wr.cell? ⟨w.heap.size, 3, none⟩ = some (.slice a ks.length cap) := hX.cell c3'
          have HX := Lib.hid hX; have HR := Lib.hid hR; clear hX hR
          by_cases hlt : k < ks.length
          · rcases HK.out with ⟨_, e⟩ | ⟨b', o', cap', e, _, hk'⟩
            · rw [e] at hlt; simp at hlt
            cases e
            have hE := (hk' k hlt).ext (HX1.out.trans HX.out)
            obtain ⟨g0, g1, g2, kv, g3, hkk⟩ := hE.cells
            obtain ⟨ka, kc, rfl⟩ := SliceAt.shape hkk
            have hin : ks[k] ∈ ks := List.getElem_mem hlt
            have hsz : ks[k].size ≤ N := by have := size_kid (op := op) (wd := wd) (n := n) hin; omega
            have HE : Hid (EVal wr (.agg #[.int .i64 ks[k].op, .int .i64 ks[k].wd, .int .i64 ks[k].n, .slice ka ks[k].kids.length kc]) ks[k]) := ⟨_, rfl, hkk⟩
            clear hkk hk' hE
            go_wp2_with fail
            refine (IH.out _ _ _ _ hsz HE.out (by omega) (by omega)).mono ?_
            rintro r w2 ⟨rfl, hx2⟩
            have HX2 := Lib.hid (HX.out.trans hx2); clear hx2
            rw [show (l - 1).toNat = l.toNat - 1 by omega]
            cases hq : ks[k].deep (l.toNat - 1) with
            | false =>
              have HF : Hid ((E.mk op wd n ks).deep l.toNat = false) := deep_no_kid hlt hq
              clear hq
              go_wp2_with fail
              go_ret
              exact ⟨by rw [HF.out]; rfl, HX1.out.trans HX2.out⟩
            | true =>
              have HQ := Lib.hid hq; clear hq
              go_wp2_with fail
              refine ⟨⟨k + 1, by omega, by go_num, HX2.out, fun j h hj => ?_⟩, by simp [intOf]; omega⟩
              by_cases c : j = k
              · subst c; exact HQ.out
              · exact HR.out j h (by omega)
          · have HF : Hid ((E.mk op wd n ks).deep l.toNat = true) := deep_yes (by omega) HS.out fun i h => HR.out i h (by omega)
            go_wp2_with fail
            go_ret
            exact ⟨by rw [HF.out]; rfl, HX1.out.trans HX.out⟩

set_option maxHeartbeats 400000 in
theorem RFormed_any (e : E) (v : Value) (w : World) (he : EVal w v e) :
    Calls Tryd.prog 28 #[v] w fun r w' => r = .returned (.bool e.wf) ∧ Ext w w' := by
  obtain ⟨kv, rfl, hk⟩ := he
  obtain ⟨a, cap, rfl⟩ := SliceAt.shape hk
  have HK := Lib.hid hk; clear hk
  go_enter Tryd.func28, Tryd.ntmps28
  go_wp2_with fail
  refine (RSize_any e.size e _ _ 601 (Nat.le_refl _) ⟨_, rfl, HK.out.ext ((Ext.refl w).alloc _)⟩ (by omega) (by omega)).mono ?_
  rintro r w1 ⟨rfl, hx1⟩
  have c0 : w1.cell? ⟨w.heap.size, 0, none⟩ = some (.int .i64 e.op) := hx1.cell (by simp)
  have c1 : w1.cell? ⟨w.heap.size, 1, none⟩ = some (.int .i64 e.wd) := hx1.cell (by simp)
  have c2 : w1.cell? ⟨w.heap.size, 2, none⟩ = some (.int .i64 e.n) := hx1.cell (by simp)
  have c3 : w1.cell? ⟨w.heap.size, 3, none⟩ = some (.slice a e.kids.length cap) := hx1.cell (by simp)
  have HX := Lib.hid (((Ext.refl w).alloc _).trans hx1)
  clear hx1
  by_cases h : e.size ≤ 600
  · have hd : decide (sizeLim e.size 601 ≤ 600) = true := by unfold sizeLim; rw [if_neg (by omega)]; simp; split <;> omega
    have HF : Hid (e.wf = e.deep 40) := by unfold Hid E.wf; simp [h]
    go_wp2_with fail
    refine (Rdeep_any e.size e _ _ 40 (Nat.le_refl _) ⟨_, rfl, HK.out.ext HX.out⟩ (by omega) (by omega)).mono ?_
    rintro r w2 ⟨rfl, hx2⟩
    have HX2 := Lib.hid (HX.out.trans hx2); clear hx2
    go_wp2_with fail
    go_ret
    exact ⟨by rw [HF.out]; rfl, HX2.out⟩
  · have hd : decide (sizeLim e.size 601 ≤ 600) = false := by unfold sizeLim; rw [if_neg (by omega)]; simp; split <;> omega
    have HF : Hid (e.wf = false) := by unfold Hid E.wf; simp [h]
    go_wp2_with fail
    go_ret
    exact ⟨by rw [HF.out]; rfl, HX.out⟩
end Go.Proofs.YtdancokndklpnaaDoor
namespace Go.Proofs.YtdancokndklpnaaDoor
open Go.RowKit

set_option maxRecDepth 100000 in
set_option maxHeartbeats 4000000 in
theorem RSame_any (N : Nat) : ∀ (x y : E) (v v2 : Value) (w : World), x.size ≤ N → EVal w v x → EVal w v2 y →
    Calls Tryd.prog 17 #[v, v2] w fun r w' => r = .returned (.bool (x.eqB y)) ∧ Ext w w' := by
  induction N with
  | zero => intro x y v v2 w h; have := x.size_pos; omega
  | succ N ih =>
    intro x y v v2 w hN hX hY
    obtain ⟨kv, rfl, hk⟩ := hX
    obtain ⟨kv2, rfl, hk2⟩ := hY
    obtain ⟨op, wd, n, ks⟩ := x
    obtain ⟨op', wd', n', ks'⟩ := y
    simp only [E.op_mk, E.wd_mk, E.n_mk, E.kids_mk] at hk hk2 ⊢
    have IH := Lib.hid ih; clear ih
    obtain ⟨a, cap, rfl⟩ := SliceAt.shape hk
    obtain ⟨a2, cap2, rfl⟩ := SliceAt.shape hk2
    have hlen : ks.length ≤ 9223372036854775807 := SliceAt.len_le hk
    have HK := Lib.hid hk; have HK2 := Lib.hid hk2; clear hk hk2
    by_cases c0 : op = op'
    · subst c0
      by_cases c1 : wd = wd'
      · subst c1
        by_cases c2 : n = n'
        · subst c2
          by_cases c3 : ks.length = ks'.length
          · have hb : (((ks.length : Nat) : Int) != ((ks'.length : Nat) : Int)) = false := by rw [c3]; simp
            have HL := Lib.hid c3
            clear c3
            go_enter Tryd.func17, Tryd.ntmps17
            go_wp2_with fail
            go_loopw [5] (fun i wr => ∃ k : Nat, k ≤ ks.length ∧ i = .int .i64 k ∧ Ext ((w.alloc (.cells #[.int .i64 op, .int .i64 wd, .int .i64 n, .slice a ks.length cap] 24)).alloc (.cells #[.int .i64 op, .int .i64 wd, .int .i64 n, .slice a2 ks'.length cap2] 24)) wr ∧ ∀ (j : Nat) (h1 : j < ks.length) (h2 : j < ks'.length), j < k → ks[j].eqB ks'[j] = true) (fun i _ => ks.length - (intOf i).toNat)
            case atStart => exact ⟨0, Nat.zero_le _, rfl, Ext.refl _, fun j _ _ h => absurd h (Nat.not_lt_zero _)⟩
            case round =>
              obtain ⟨k, hk, rfl, hx, hr⟩ := hrel
              have q3 : wr.cell? ⟨w.heap.size, 3, none⟩ = some (.slice a ks.length cap) := hx.cell (by simp)
              have r3 : wr.cell? ⟨w.heap.size + 1, 3, none⟩ = some (.slice a2 ks'.length cap2) := hx.cell (by simp)
              have hxw : Ext w wr := (((Ext.refl w).alloc _).alloc _).trans hx
              have HX := Lib.hid hxw; have HR := Lib.hid hr; have HX0 := Lib.hid hx; clear hx hr hxw
              by_cases hlt : k < ks.length
              · have hlt' : k < ks'.length := by rw [← HL.out]; exact hlt
                rcases HK.out with ⟨_, e⟩ | ⟨b', o', cap', e, _, hk'⟩
                · rw [e] at hlt; simp at hlt
                rcases HK2.out with ⟨_, e2⟩ | ⟨b2', o2', cap2', e2, _, hk2'⟩
                · rw [e2] at hlt'; simp at hlt'
                cases e; cases e2
                obtain ⟨g0, g1, g2, gv, g3, gk⟩ := ((hk' k hlt).ext HX.out).cells
                obtain ⟨f0, f1, f2, fv, f3, fk⟩ := ((hk2' k hlt').ext HX.out).cells
                obtain ⟨ga, gc, rfl⟩ := SliceAt.shape gk
                obtain ⟨fa, fc, rfl⟩ := SliceAt.shape fk
                have HE1 : Hid (EVal wr (.agg #[.int .i64 ks[k].op, .int .i64 ks[k].wd, .int .i64 ks[k].n, .slice ga ks[k].kids.length gc]) ks[k]) := ⟨_, rfl, gk⟩
                have HE2 : Hid (EVal wr (.agg #[.int .i64 ks'[k].op, .int .i64 ks'[k].wd, .int .i64 ks'[k].n, .slice fa ks'[k].kids.length fc]) ks'[k]) := ⟨_, rfl, fk⟩
                clear hk' hk2' gk fk
                have hin : ks[k] ∈ ks := List.getElem_mem hlt
                have hsz : ks[k].size ≤ N := by have := size_kid (op := op) (wd := wd) (n := n) hin; omega
                go_wp2_with fail
                go_still_tail 10, (by kernel_rfl)
                change wpList _ _ _ _ _ wr.drew
                go_wp2_with fail
                refine (IH.out ks[k] ks'[k] _ _ _ hsz (HE1.out.ext (Ext.refl wr).drew) (HE2.out.ext (Ext.refl wr).drew)).mono ?_
                rintro r w1 ⟨rfl, hx1⟩
                have HX1 := Lib.hid (HX0.out.trans (((Ext.refl wr).drew).trans hx1)); clear hx1
                cases hq : ks[k].eqB ks'[k] with
                | false =>
                  have HF : Hid ((E.mk op wd n ks).eqB (.mk op wd n ks') = false) := by simp [Hid, E.eqB, eqAll_get hlt hlt' hq]
                  clear hq
                  go_wp2_with fail
                  go_ret
                  exact ⟨by rw [HF.out]; rfl, (((Ext.refl w).alloc _).alloc _).trans HX1.out⟩
                | true =>
                  have HQ := Lib.hid hq; clear hq
                  go_wp2_with fail
                  go_roundw
                  case rel =>
                    refine ⟨k + 1, by omega, by go_num, HX1.out, fun j j1 j2 hj => ?_⟩
                    by_cases c : j = k
                    · subst c; exact HQ.out
                    · exact HR.out j j1 j2 (by omega)
                  case measure => simp [intOf]; omega
              · have HF : Hid ((E.mk op wd n ks).eqB (.mk op wd n ks') = true) := by
                  have := eqAll_all HL.out (fun i h1 h2 => HR.out i h1 h2 (by omega))
                  simp [Hid, E.eqB, this]
                go_wp2_with fail
                go_ret
                exact ⟨by rw [HF.out]; rfl, HX.out⟩
          · have hb : (((ks.length : Nat) : Int) != ((ks'.length : Nat) : Int)) = true := by rw [bne_iff_ne]; omega
            have HF : Hid ((E.mk op wd n ks).eqB (.mk op wd n ks') = false) := by simp [Hid, E.eqB, eqAll_length c3]
            clear c3
            go_enter Tryd.func17, Tryd.ntmps17
            go_wp2_with fail
            go_ret
            exact ⟨by rw [HF.out]; rfl, ((Ext.refl w).alloc _).alloc _⟩
        · have hb : ((n : Int) != n') = true := by rw [bne_iff_ne]; exact c2
          have HF : Hid ((E.mk op wd n ks).eqB (.mk op wd n' ks') = false) := by simp [Hid, E.eqB, c2]
          clear c2
          go_enter Tryd.func17, Tryd.ntmps17
          go_wp2_with fail
          go_ret
          exact ⟨by rw [HF.out]; rfl, ((Ext.refl w).alloc _).alloc _⟩
      · have hb : ((wd : Int) != wd') = true := by rw [bne_iff_ne]; exact c1
        have HF : Hid ((E.mk op wd n ks).eqB (.mk op wd' n' ks') = false) := by simp [Hid, E.eqB, c1]
        clear c1
        go_enter Tryd.func17, Tryd.ntmps17
        go_wp2_with fail
        go_ret
        exact ⟨by rw [HF.out]; rfl, ((Ext.refl w).alloc _).alloc _⟩
    · have hb : ((op : Int) != op') = true := by rw [bne_iff_ne]; exact c0
      have HF : Hid ((E.mk op wd n ks).eqB (.mk op' wd' n' ks') = false) := by simp [Hid, E.eqB, c0]
      clear c0
      go_enter Tryd.func17, Tryd.ntmps17
      go_wp2_with fail
      go_ret
      exact ⟨by rw [HF.out]; rfl, ((Ext.refl w).alloc _).alloc _⟩

set_option maxHeartbeats 400000 in
theorem RConst_any (n wd : Int) (w : World) : Calls Tryd.prog 34 #[.int .i64 n, .int .i64 wd] w fun r w' => r = .returned (.agg #[.int .i64 1, .int .i64 wd, .int .i64 n, .slice none 0 0]) ∧ Ext w w' := by
  go_enter Tryd.func34, Tryd.ntmps34
  go_wp2_with fail
  exact bodyPost_ret (v := .agg #[.int .i64 1, .int .i64 wd, .int .i64 n, .slice none 0 0]) (by simp [results, Tryd.results34, go_sem]) rfl ⟨rfl, (Ext.refl w).alloc _⟩
set_option maxHeartbeats 400000 in
theorem RCell_any (n wd : Int) (w : World) : Calls Tryd.prog 33 #[.int .i64 n, .int .i64 wd] w fun r w' => r = .returned (.agg #[.int .i64 2, .int .i64 wd, .int .i64 n, .slice none 0 0]) ∧ Ext w w' := by
  go_enter Tryd.func33, Tryd.ntmps33
  go_wp2_with fail
  exact bodyPost_ret (v := .agg #[.int .i64 2, .int .i64 wd, .int .i64 n, .slice none 0 0]) (by simp [results, Tryd.results33, go_sem]) rfl ⟨rfl, (Ext.refl w).alloc _⟩
end Go.Proofs.YtdancokndklpnaaDoor
namespace Go.Proofs.YtdancokndklpnaaDoor
open Go.RowKit

/-- What a function leaves that returns an expression. -/
def RetE (e : E) (w : World) (r : Ending) (w' : World) : Prop := (∃ v, r = .returned v ∧ EVal w' v e) ∧ Ext w w'
theorem EVal.shape' {w : World} {v : Value} {e : E} (h : EVal w v e) : ∃ a c, v = .agg #[.int .i64 e.op, .int .i64 e.wd, .int .i64 e.n, .slice a e.kids.length c] ∧ Kids w (.slice a e.kids.length c) e.kids := by
  obtain ⟨k, h1, h2⟩ := h
  obtain ⟨a, c, rfl⟩ := SliceAt.shape h2
  exact ⟨a, c, h1, h2⟩

theorem two_val {w W : World} {K : Nat} {a b : E} {ka kb : Value} (hx : Ext w W) (hk : Kids w ka a.kids) (hk2 : Kids w kb b.kids)
    (hb : W.heap[K]? = some (.cells #[.int .i64 a.op, .int .i64 a.wd, .int .i64 a.n, ka, .int .i64 b.op, .int .i64 b.wd, .int .i64 b.n, kb] 24 (0, 0))) : Kids W (.slice (some ⟨K, 0, none⟩) 2 2) [a, b] := by
  refine .inr ⟨K, 0, 2, rfl, by simp, fun i h => ?_⟩
  have : i = 0 ∨ i = 1 := by simp at h; omega
  rcases this with rfl | rfl
  · exact IsE.of_cells (v := ka) (by simp [World.cell?, hb]) (by simp [World.cell?, hb]) (by simp [World.cell?, hb]) (by simp [World.cell?, hb]) (hk.ext hx)
  · exact IsE.of_cells (v := kb) (by simp [World.cell?, hb]) (by simp [World.cell?, hb]) (by simp [World.cell?, hb]) (by simp [World.cell?, hb]) (hk2.ext hx)

set_option maxHeartbeats 1000000 in
theorem RTwo_any (op wd : Int) (a b : E) (va vb : Value) (w : World) (ha : EVal w va a) (hb : EVal w vb b) :
    Calls Tryd.prog 20 #[.int .i64 op, .int .i64 wd, va, vb] w (RetE (.mk op wd 0 [a, b]) w) := by
  obtain ⟨aa, ac, rfl, hk⟩ := ha.shape'
  obtain ⟨ba, bc, rfl, hk2⟩ := hb.shape'
  have HK := Lib.hid hk; have HK2 := Lib.hid hk2; clear hk hk2 ha hb
  go_enter Tryd.func20, Tryd.ntmps20
  go_wp2_with fail
  refine bodyPost_ret (v := .agg #[.int .i64 op, .int .i64 wd, .int .i64 0, .slice (some ⟨w.heap.size + 1 + 1 + 1, 0, none⟩) 2 2]) (by simp [results, Tryd.results20, go_sem]) rfl ⟨⟨_, rfl, ⟨_, rfl, ?_⟩⟩, (((Ext.refl w).alloc _).alloc _).alloc _ |>.alloc _⟩
  exact two_val ((((Ext.refl w).alloc _).alloc _).alloc _ |>.alloc _) HK.out HK2.out (by simpa using heap_new (((w.alloc _).alloc _).alloc _) _)
end Go.Proofs.YtdancokndklpnaaDoor
