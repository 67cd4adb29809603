/-
  The reference's over and Valid.
-/
import Derived.Test.YtlcgbdjmlnjhcaaGreatDoorG21
import Derived.Test.YtlcgbdjmlnjhcaaGreatDoorG09
namespace Go.Proofs.YtlcgbdjmlnjhcaaGreatDoor
open Go.RowKit

theorem over_no_kid {cells : List CellD} {pair : Bool} {ks : List E} {k : Nat} (hk : k < ks.length) (h : ks[k].leaves.all (okLeaf cells pair) = false) : (leavesAll ks).all (okLeaf cells pair) = false := by
  cases hq : (leavesAll ks).all (okLeaf cells pair) with
  | false => rfl
  | true =>
    rw [List.all_eq_true] at hq
    have : ks[k].leaves.all (okLeaf cells pair) = true := by
      rw [List.all_eq_true]
      intro x hx
      exact hq x (mem_leavesAll.2 ⟨_, List.getElem_mem hk, hx⟩)
    rw [h] at this; cases this
theorem over_yes {cells : List CellD} {pair : Bool} {ks : List E} (h : ∀ (i : Nat) (h : i < ks.length), ks[i].leaves.all (okLeaf cells pair) = true) : (leavesAll ks).all (okLeaf cells pair) = true := by
  rw [List.all_eq_true]
  intro x hx
  obtain ⟨e, he, hxe⟩ := mem_leavesAll.1 hx
  obtain ⟨i, hi, rfl⟩ := List.mem_iff_getElem.1 he
  exact List.all_eq_true.1 (h i hi) x hxe
theorem deep_kid {op wd n : Int} {ks : List E} {d k : Nat} (h : (E.mk op wd n ks).deep d = true) (hk : k < ks.length) : ks[k].deep (d - 1) = true := by
  simp only [E.deep, Bool.and_eq_true] at h
  exact (deepAll_iff _ _).1 h.2 _ (List.getElem_mem hk)
theorem deep_shape {op wd n : Int} {ks : List E} {d : Nat} (h : (E.mk op wd n ks).deep d = true) : shapedW op wd n (ks.map E.wd) = true := by
  simp only [E.deep, Bool.and_eq_true] at h
  exact h.1.2
/-- A node with kids is no cell. -/
theorem deep_inner {op wd n : Int} {ks : List E} {d : Nat} (h : (E.mk op wd n ks).deep d = true) (hk : ks ≠ []) : op ≠ 2 ∧ op ≠ 3 := by
  have hs := deep_shape h
  constructor
  · rintro rfl
    have := (shapedW_cell hs (.inl rfl)).1
    exact hk (by simpa using this)
  · rintro rfl
    have := (shapedW_cell hs (.inr rfl)).1
    exact hk (by simpa using this)

set_option maxHeartbeats 2000000 in
theorem Rover_leaf (op wd : Int) (m : Nat) (cells : List CellD) (cv : Value) (pair : Bool) (a : Option Addr) (cap : Nat) (w : World) (ho : op = 1 ∨ op = 2 ∨ op = 3) (hC : Cells w cv cells) :
    Calls Tryz.prog 48 #[.agg #[.int .i64 op, .int .i64 wd, .int .i64 m, .slice a 0 cap], cv, .bool pair] w fun r w' => r = .returned (.bool (okLeaf cells pair (.mk op wd m []))) ∧ Ext w w' := by
  obtain ⟨ca, cc, rfl⟩ := SliceAt.shape hC
  have hcl := SliceAt.len_le hC
  have HC := Lib.hid hC; clear hC
  rcases ho with rfl | rfl | rfl
  · have HO : Hid (okLeaf cells pair (.mk 1 wd m []) = true) := by simp [Hid, okLeaf]
    go_enter Tryz.func48, Tryz.ntmps48
    go_wp2_with fail
    go_quiet (fail)
    go_wp2_with fail
    go_loopw [7] (fun i wr => i = .int .i64 (0 : Nat) ∧ Ext w wr ∧ wr.cell? ⟨w.heap.size, 3, none⟩ = some (.slice a 0 cap)) (fun i _ => 0)
    case atStart => exact ⟨rfl, ((Ext.refl w).alloc _).drewN _, by simp⟩
    case round =>
      obtain ⟨rfl, hX, c3⟩ := hrel
      have HX := Lib.hid hX; clear hX
      go_wp2_with fail
      go_ret
      exact ⟨by rw [HO.out]; rfl, HX.out⟩
  · by_cases hm : m < cells.length
    · obtain ⟨cb, co, rfl, hcW⟩ : ∃ (cb co : Nat), ca = some ⟨cb, co, none⟩ ∧ ∀ w', Ext w w' → w'.cell? ⟨cb, co + m * 6 + 1, none⟩ = some (.int .i64 cells[m].W) := by
        rcases HC.out with ⟨_, ee⟩ | ⟨cb, co, cap', ee, _, hcc⟩
        · rw [ee] at hm; simp at hm
        cases ee
        exact ⟨cb, co, rfl, fun w' hx => hx.cell (hcc m hm).2.1⟩
      have hW0 := hcW _ (((Ext.refl w).alloc (.cells #[.int .i64 2, .int .i64 wd, .int .i64 m, .slice a 0 cap] 25)))
      have hmI : (m : Int) < (cells.length : Int) := by omega
      have hm0 : (0 : Int) ≤ (m : Int) := by omega
      have HCW := Lib.hid hcW
      clear hcW
      have HG : Hid ((cells.map CellD.W).getD m 0 = cells[m].W) := by unfold Hid; simp [List.getD, hm]
      generalize cells[m].W = cw at *
      by_cases hwe : cw = wd
      · subst hwe
        have hb : (cw != cw) = false := by unfold bne; simp
        have HO : Hid (okLeaf cells pair (.mk 2 cw m []) = true) := by
          have := HG.out
          simp only [Hid, okLeaf, E.op_mk, E.wd_mk, E.n_mk, Int.toNat_natCast, this]; simp [hm]
        clear HG
        go_enter Tryz.func48, Tryz.ntmps48
        go_wp2_with fail
        go_quiet (fail)
        go_wp2_with fail
        go_loopw [7] (fun i wr => i = .int .i64 (0 : Nat) ∧ Ext w wr ∧ wr.cell? ⟨w.heap.size, 3, none⟩ = some (.slice a 0 cap)) (fun i _ => 0)
        case atStart => exact ⟨rfl, ((Ext.refl w).alloc _).drewN _, by simp⟩
        case round =>
          obtain ⟨rfl, hX, c3⟩ := hrel
          have HX := Lib.hid hX; clear hX
          go_wp2_with fail
          go_ret
          exact ⟨by rw [HO.out]; rfl, HX.out⟩

      · have hb : (cw != wd) = true := by rw [bne_iff_ne]; exact hwe
        have HO : Hid (okLeaf cells pair (.mk 2 wd m []) = false) := by
          have := HG.out
          simp only [Hid, okLeaf, E.op_mk, E.wd_mk, E.n_mk, Int.toNat_natCast, this]; simp [hm, hwe]
        clear HG
        go_enter Tryz.func48, Tryz.ntmps48
        go_wp2_with fail
        go_quiet (fail)
        go_wp2_with fail
        go_ret
        exact ⟨by rw [HO.out]; rfl, by first | exact ((Ext.refl w).alloc _).drewN _ | exact (Ext.refl w).alloc _ | exact (((Ext.refl w).alloc _).drewN _).drewN _⟩

    · have hmI : (cells.length : Int) ≤ (m : Int) := by omega
      have HO : Hid (okLeaf cells pair (.mk 2 wd m []) = false) := by simp only [Hid, okLeaf, E.op_mk, E.wd_mk, E.n_mk, Int.toNat_natCast]; simp [hm]
      go_enter Tryz.func48, Tryz.ntmps48
      go_wp2_with fail
      go_quiet (fail)
      go_wp2_with fail
      go_ret
      exact ⟨by rw [HO.out]; rfl, by first | exact ((Ext.refl w).alloc _).drewN _ | exact (Ext.refl w).alloc _ | exact (((Ext.refl w).alloc _).drewN _).drewN _⟩
  · cases pair with
    | false =>
      have HO : Hid (okLeaf cells false (.mk 3 wd m []) = false) := by simp [Hid, okLeaf]
      go_enter Tryz.func48, Tryz.ntmps48
      go_wp2_with fail
      go_ret
      exact ⟨by rw [HO.out]; rfl, by first | exact ((Ext.refl w).alloc _).drewN _ | exact (Ext.refl w).alloc _ | exact (((Ext.refl w).alloc _).drewN _).drewN _⟩
    | true =>
      by_cases hm : m < cells.length
      · obtain ⟨cb, co, rfl, hcW⟩ : ∃ (cb co : Nat), ca = some ⟨cb, co, none⟩ ∧ ∀ w', Ext w w' → w'.cell? ⟨cb, co + m * 6 + 1, none⟩ = some (.int .i64 cells[m].W) := by
          rcases HC.out with ⟨_, ee⟩ | ⟨cb, co, cap', ee, _, hcc⟩
          · rw [ee] at hm; simp at hm
          cases ee
          exact ⟨cb, co, rfl, fun w' hx => hx.cell (hcc m hm).2.1⟩
        have hW0 := hcW _ (((Ext.refl w).alloc (.cells #[.int .i64 3, .int .i64 wd, .int .i64 m, .slice a 0 cap] 25)))
        have hmI : (m : Int) < (cells.length : Int) := by omega
        have hm0 : (0 : Int) ≤ (m : Int) := by omega
        have HCW := Lib.hid hcW
        clear hcW
        have HG : Hid ((cells.map CellD.W).getD m 0 = cells[m].W) := by unfold Hid; simp [List.getD, hm]
        generalize cells[m].W = cw at *
        by_cases hwe : cw = wd
        · subst hwe
          have hb : (cw != cw) = false := by unfold bne; simp
          have HO : Hid (okLeaf cells true (.mk 3 cw m []) = true) := by
            have := HG.out
            simp only [Hid, okLeaf, E.op_mk, E.wd_mk, E.n_mk, Int.toNat_natCast, this]; simp [hm]
          clear HG
          go_enter Tryz.func48, Tryz.ntmps48
          go_wp2_with fail
          go_quiet (fail)
          go_wp2_with fail
          go_loopw [7] (fun i wr => i = .int .i64 (0 : Nat) ∧ Ext w wr ∧ wr.cell? ⟨w.heap.size, 3, none⟩ = some (.slice a 0 cap)) (fun i _ => 0)
          case atStart => exact ⟨rfl, ((Ext.refl w).alloc _).drewN _, by simp⟩
          case round =>
            obtain ⟨rfl, hX, c3⟩ := hrel
            have HX := Lib.hid hX; clear hX
            go_wp2_with fail
            go_ret
            exact ⟨by rw [HO.out]; rfl, HX.out⟩

        · have hb : (cw != wd) = true := by rw [bne_iff_ne]; exact hwe
          have HO : Hid (okLeaf cells true (.mk 3 wd m []) = false) := by
            have := HG.out
            simp only [Hid, okLeaf, E.op_mk, E.wd_mk, E.n_mk, Int.toNat_natCast, this]; simp [hm, hwe]
          clear HG
          go_enter Tryz.func48, Tryz.ntmps48
          go_wp2_with fail
          go_quiet (fail)
          go_wp2_with fail
          go_ret
          exact ⟨by rw [HO.out]; rfl, by first | exact ((Ext.refl w).alloc _).drewN _ | exact (Ext.refl w).alloc _ | exact (((Ext.refl w).alloc _).drewN _).drewN _⟩

      · have hmI : (cells.length : Int) ≤ (m : Int) := by omega
        have HO : Hid (okLeaf cells true (.mk 3 wd m []) = false) := by simp only [Hid, okLeaf, E.op_mk, E.wd_mk, E.n_mk, Int.toNat_natCast]; simp [hm]
        go_enter Tryz.func48, Tryz.ntmps48
        go_wp2_with fail
        go_quiet (fail)
        go_wp2_with fail
        go_ret
        exact ⟨by rw [HO.out]; rfl, by first | exact ((Ext.refl w).alloc _).drewN _ | exact (Ext.refl w).alloc _ | exact (((Ext.refl w).alloc _).drewN _).drewN _⟩

set_option maxHeartbeats 4000000 in
theorem Rover_any (N : Nat) (cells : List CellD) (cv : Value) (pair : Bool) : ∀ (e : E) (d : Nat) (v : Value) (w : World), e.size ≤ N → e.deep d = true → EVal w v e → Cells w cv cells →
    Calls Tryz.prog 48 #[v, cv, .bool pair] w fun r w' => r = .returned (.bool (e.leaves.all (okLeaf cells pair))) ∧ Ext w w' := by
  induction N with
  | zero => intro e d v w h; have := e.size_pos; omega
  | succ N ih =>
    intro e d v w hN hd he hC
    obtain ⟨kv, rfl, hk⟩ := he
    obtain ⟨op, wd, n, ks⟩ := e
    simp only [E.op_mk, E.wd_mk, E.n_mk, E.kids_mk] at hk ⊢
    obtain ⟨a, cap, rfl⟩ := SliceAt.shape hk
    by_cases hks : ks = []
    · subst hks
      obtain ⟨h1, h2, _⟩ := shapedW_leaf (by simpa using deep_shape hd)
      obtain ⟨m, rfl⟩ := Int.eq_ofNat_of_zero_le h2
      rw [leaves_nil]
      simp only [List.all_cons, List.all_nil, Bool.and_true]
      exact Rover_leaf op wd m cells cv pair a cap w h1 hC
    · obtain ⟨n2, n3⟩ := deep_inner hd hks
      rw [leaves_cons hks]
      have hlen : ks.length ≤ 9223372036854775807 := SliceAt.len_le hk
      have hb2 : (op == 2) = false := by simpa using n2
      have hb3 : (op == 3) = false := by simpa using n3
      have IH := Lib.hid ih; have HK := Lib.hid hk; have HC := Lib.hid hC; have HD := Lib.hid hd
      clear ih hk hC hd hks n2 n3
      obtain ⟨ca, cc, rfl⟩ := SliceAt.shape HC.out
      go_enter Tryz.func48, Tryz.ntmps48
      go_wp2_with fail
      go_quiet (fail)
      go_wp2_with fail
      go_loopw [7] (fun i wr => ∃ (k : Nat), k ≤ ks.length ∧ i = .int .i64 k ∧ Ext w wr ∧ wr.cell? ⟨w.heap.size, 3, none⟩ = some (.slice a ks.length cap) ∧ ∀ (j : Nat) (h : j < ks.length), j < k → ks[j].leaves.all (okLeaf cells pair) = true) (fun i _ => ks.length - (intOf i).toNat)
      case atStart => exact ⟨0, Nat.zero_le _, rfl, by first | exact ((Ext.refl w).alloc _).drewN _ | exact (Ext.refl w).alloc _, by simp, fun j _ h => absurd h (Nat.not_lt_zero _)⟩
      case round =>
        obtain ⟨k, hk, rfl, hX, c3, hR⟩ := hrel
        have HX := Lib.hid hX; have HR := Lib.hid hR; have HC3 := Lib.hid c3; clear hX hR
        by_cases hlt : k < ks.length
        · rcases HK.out with ⟨_, e⟩ | ⟨b', o', cap', e, _, hk'⟩
          · rw [e] at hlt; simp at hlt
          cases e
          have hE := (hk' k hlt).ext HX.out
          obtain ⟨g0, g1, g2, kv, g3, hkk⟩ := hE.cells
          obtain ⟨ka, kc, rfl⟩ := SliceAt.shape hkk
          have hin : ks[k] ∈ ks := List.getElem_mem hlt
          have hsz : ks[k].size ≤ N := by have := size_kid (op := op) (wd := wd) (n := n) hin; omega
          have HE : Hid (EVal wr (.agg #[.int .i64 ks[k].op, .int .i64 ks[k].wd, .int .i64 ks[k].n, .slice ka ks[k].kids.length kc]) ks[k]) := ⟨_, rfl, hkk⟩
          clear hkk hk' hE
          go_wp2_with fail
          refine (IH.out _ _ _ _ hsz (deep_kid HD.out hlt) HE.out (HC.out.ext HX.out)).mono ?_
          rintro r w2 ⟨rfl, hx2⟩
          have HX2 := Lib.hid (HX.out.trans hx2)
          have HC32 := Lib.hid (hx2.cell HC3.out)
          clear hx2
          cases hq : ks[k].leaves.all (okLeaf cells pair) with
          | false =>
            have HF : Hid ((leavesAll ks).all (okLeaf cells pair) = false) := over_no_kid hlt hq
            clear hq
            go_wp2_with fail
            go_ret
            exact ⟨by rw [HF.out]; rfl, HX2.out⟩
          | true =>
            have HQ := Lib.hid hq; clear hq
            go_wp2_with fail
            refine ⟨⟨k + 1, by omega, by go_num, HX2.out, HC32.out, fun j h hj => ?_⟩, by simp [intOf]; omega⟩
            by_cases c : j = k
            · subst c; exact HQ.out
            · exact HR.out j h (by omega)
        · have HF : Hid ((leavesAll ks).all (okLeaf cells pair) = true) := over_yes fun i h => HR.out i h (by omega)
          go_wp2_with fail
          go_ret
          exact ⟨by rw [HF.out]; rfl, HX.out⟩

set_option maxHeartbeats 400000 in
theorem RValid_any (e : E) (cells : List CellD) (v cv : Value) (pair : Bool) (w : World) (he : EVal w v e) (hC : Cells w cv cells) :
    Calls Tryz.prog 15 #[v, cv, .bool pair] w fun r w' => r = .returned (.bool (e.valid cells pair)) ∧ Ext w w' := by
  obtain ⟨kv, rfl, hk⟩ := he
  obtain ⟨a, cap, rfl⟩ := SliceAt.shape hk
  obtain ⟨ca, cc, rfl⟩ := SliceAt.shape hC
  have HE : Hid (EVal w (.agg #[.int .i64 e.op, .int .i64 e.wd, .int .i64 e.n, .slice a e.kids.length cap]) e) := ⟨_, rfl, hk⟩
  have HC := Lib.hid hC; clear hk hC
  have HX0 : Hid (∀ x, Ext w (w.alloc x)) := fun x => (Ext.refl w).alloc x
  go_enter Tryz.func15, Tryz.ntmps15
  go_wp2_with fail
  refine (RFormed_any e _ _ (HE.out.ext (HX0.out _))).mono ?_
  rintro r w1 ⟨rfl, hx1⟩
  have c0 : w1.cell? ⟨w.heap.size, 0, none⟩ = some (.int .i64 e.op) := hx1.cell (by simp)
  have c1 : w1.cell? ⟨w.heap.size, 1, none⟩ = some (.int .i64 e.wd) := hx1.cell (by simp)
  have c2 : w1.cell? ⟨w.heap.size, 2, none⟩ = some (.int .i64 e.n) := hx1.cell (by simp)
  have c3 : w1.cell? ⟨w.heap.size, 3, none⟩ = some (.slice a e.kids.length cap) := hx1.cell (by simp)
  have HX := Lib.hid ((HX0.out _).trans hx1); clear hx1
  cases hf : e.wf with
  | true =>
    have HF : Hid (e.valid cells pair = e.leaves.all (okLeaf cells pair)) := by unfold Hid E.valid; rw [hf, Bool.true_and]
    have HD : Hid (e.deep 40 = true) := by
      unfold E.wf at hf
      simp only [Bool.and_eq_true] at hf
      exact hf.2
    clear hf
    go_wp2_with fail
    refine (Rover_any e.size cells _ pair e 40 _ _ (Nat.le_refl _) HD.out (HE.out.ext HX.out) (HC.out.ext HX.out)).mono ?_
    rintro r w2 ⟨rfl, hx2⟩
    have HX2 := Lib.hid (HX.out.trans hx2); clear hx2
    go_wp2_with fail
    go_ret
    exact ⟨by rw [HF.out]; rfl, HX2.out⟩
  | false =>
    have HF : Hid (e.valid cells pair = false) := by unfold Hid E.valid; rw [hf, Bool.false_and]
    clear hf
    go_wp2_with fail
    go_ret
    exact ⟨by rw [HF.out]; rfl, HX.out⟩
end Go.Proofs.YtlcgbdjmlnjhcaaGreatDoor
