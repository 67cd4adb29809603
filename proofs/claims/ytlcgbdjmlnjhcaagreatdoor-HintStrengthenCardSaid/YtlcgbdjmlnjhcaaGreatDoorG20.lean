/-
  The reference's over and Valid.
  The walks of the references' Is, Old, Marked, merge.
  The walk of the reference's merge.
-/
import Derived.Test.YtlcgbdjmlnjhcaaGreatDoorG19
import Derived.Test.YtlcgbdjmlnjhcaaGreatDoorG09
import Derived.Test.YtlcgbdjmlnjhcaaGreatDoorG16
import Derived.Test.YtlcgbdjmlnjhcaaGreatDoorG10
import Derived.Deep.OwnRows
import Derived.BigQuiet
namespace Go.Proofs.YtlcgbdjmlnjhcaaGreatDoor
open Go.RowKit

theorem over_no_kid {cells : List CellD} {pair : Bool} {ks : List E} {k : Nat} (hk : k < ks.length) (h : ks[k].leaves.all (okLeaf cells pair) = false) : (leavesAll ks).all (okLeaf cells pair) = false := by
  cases hq : (leavesAll ks).all (okLeaf cells pair) with
  | false => rfl
  | true =>
    rw [List.all_eq_true] at hq
    have : ks[k].leaves.all (okLeaf cells pair) = true := by
      rw [List.all_eq_true]
      intro x hx
      exact hq x (mem_leavesAll.2 ⟨_, List.getElem_mem hk, hx⟩)
    rw [h] at this; cases this
theorem over_yes {cells : List CellD} {pair : Bool} {ks : List E} (h : ∀ (i : Nat) (h : i < ks.length), ks[i].leaves.all (okLeaf cells pair) = true) : (leavesAll ks).all (okLeaf cells pair) = true := by
  rw [List.all_eq_true]
  intro x hx
  obtain ⟨e, he, hxe⟩ := mem_leavesAll.1 hx
  obtain ⟨i, hi, rfl⟩ := List.mem_iff_getElem.1 he
  exact List.all_eq_true.1 (h i hi) x hxe
theorem deep_kid {op wd n : Int} {ks : List E} {d k : Nat} (h : (E.mk op wd n ks).deep d = true) (hk : k < ks.length) : ks[k].deep (d - 1) = true := by
  simp only [E.deep, Bool.and_eq_true] at h
  exact (deepAll_iff _ _).1 h.2 _ (List.getElem_mem hk)
theorem deep_shape {op wd n : Int} {ks : List E} {d : Nat} (h : (E.mk op wd n ks).deep d = true) : shapedW op wd n (ks.map E.wd) = true := by
  simp only [E.deep, Bool.and_eq_true] at h
  exact h.1.2
/-- A node with kids is no cell. -/
theorem deep_inner {op wd n : Int} {ks : List E} {d : Nat} (h : (E.mk op wd n ks).deep d = true) (hk : ks ≠ []) : op ≠ 2 ∧ op ≠ 3 := by
  have hs := deep_shape h
  constructor
  · rintro rfl
    have := (shapedW_cell hs (.inl rfl)).1
    exact hk (by simpa using this)
  · rintro rfl
    have := (shapedW_cell hs (.inr rfl)).1
    exact hk (by simpa using this)

set_option maxHeartbeats 2000000 in
theorem Rover_leaf (op wd : Int) (m : Nat) (cells : List CellD) (cv : Value) (pair : Bool) (a : Option Addr) (cap : Nat) (w : World) (ho : op = 1 ∨ op = 2 ∨ op = 3) (hC : Cells w cv cells) :
    Calls Tryz.prog 48 #[.agg #[.int .i64 op, .int .i64 wd, .int .i64 m, .slice a 0 cap], cv, .bool pair] w fun r w' => r = .returned (.bool (okLeaf cells pair (.mk op wd m []))) ∧ Ext w w' := by
  obtain ⟨ca, cc, rfl⟩ := SliceAt.shape hC
  have hcl := SliceAt.len_le hC
  have HC := Lib.hid hC; clear hC
  rcases ho with rfl | rfl | rfl
  · have HO : Hid (okLeaf cells pair (.mk 1 wd m []) = true) := by simp [Hid, okLeaf]
    go_enter Tryz.func48, Tryz.ntmps48
    go_wp2_with fail
    go_quiet (fail)
    go_wp2_with fail
    go_loopw [7] (fun i wr => i = .int .i64 (0 : Nat) ∧ Ext w wr ∧ wr.cell? ⟨w.heap.size, 3, none⟩ = some (.slice a 0 cap)) (fun i _ => 0)
    case atStart => exact ⟨rfl, ((Ext.refl w).alloc _).drewN _, by simp⟩
    case round =>
      obtain ⟨rfl, hX, c3⟩ := hrel
      have HX := Lib.hid hX; clear hX
      go_wp2_with fail
      go_ret
      exact ⟨by rw [HO.out]; rfl, HX.out⟩
  · by_cases hm : m < cells.length
    · obtain ⟨cb, co, rfl, hcW⟩ : ∃ (cb co : Nat), ca = some ⟨cb, co, none⟩ ∧ ∀ w', Ext w w' → w'.cell? ⟨cb, co + m * 6 + 1, none⟩ = some (.int .i64 cells[m].W) := by
        rcases HC.out with ⟨_, ee⟩ | ⟨cb, co, cap', ee, _, hcc⟩
        · rw [ee] at hm; simp at hm
        cases ee
        exact ⟨cb, co, rfl, fun w' hx => hx.cell (hcc m hm).2.1⟩
      have hW0 := hcW _ (((Ext.refl w).alloc (.cells #[.int .i64 2, .int .i64 wd, .int .i64 m, .slice a 0 cap] 25)))
      have hmI : (m : Int) < (cells.length : Int) := by omega
      have hm0 : (0 : Int) ≤ (m : Int) := by omega
      have HCW := Lib.hid hcW
      clear hcW
      have HG : Hid ((cells.map CellD.W).getD m 0 = cells[m].W) := by unfold Hid; simp [List.getD, hm]
      generalize cells[m].W = cw at *
      by_cases hwe : cw = wd
      · subst hwe
        have hb : (cw != cw) = false := by unfold bne; simp
        have HO : Hid (okLeaf cells pair (.mk 2 cw m []) = true) := by
          have := HG.out
          simp only [Hid, okLeaf, E.op_mk, E.wd_mk, E.n_mk, Int.toNat_natCast, this]; simp [hm]
        clear HG
        go_enter Tryz.func48, Tryz.ntmps48
        go_wp2_with fail
        go_quiet (fail)
        go_wp2_with fail
        go_loopw [7] (fun i wr => i = .int .i64 (0 : Nat) ∧ Ext w wr ∧ wr.cell? ⟨w.heap.size, 3, none⟩ = some (.slice a 0 cap)) (fun i _ => 0)
        case atStart => exact ⟨rfl, ((Ext.refl w).alloc _).drewN _, by simp⟩
        case round =>
          obtain ⟨rfl, hX, c3⟩ := hrel
          have HX := Lib.hid hX; clear hX
          go_wp2_with fail
          go_ret
          exact ⟨by rw [HO.out]; rfl, HX.out⟩

      · have hb : (cw != wd) = true := by rw [bne_iff_ne]; exact hwe
        have HO : Hid (okLeaf cells pair (.mk 2 wd m []) = false) := by
          have := HG.out
          simp only [Hid, okLeaf, E.op_mk, E.wd_mk, E.n_mk, Int.toNat_natCast, this]; simp [hm, hwe]
        clear HG
        go_enter Tryz.func48, Tryz.ntmps48
        go_wp2_with fail
        go_quiet (fail)
        go_wp2_with fail
        go_ret
        exact ⟨by rw [HO.out]; rfl, by first | exact ((Ext.refl w).alloc _).drewN _ | exact (Ext.refl w).alloc _ | exact (((Ext.refl w).alloc _).drewN _).drewN _⟩

    · have hmI : (cells.length : Int) ≤ (m : Int) := by omega
      have HO : Hid (okLeaf cells pair (.mk 2 wd m []) = false) := by simp only [Hid, okLeaf, E.op_mk, E.wd_mk, E.n_mk, Int.toNat_natCast]; simp [hm]
      go_enter Tryz.func48, Tryz.ntmps48
      go_wp2_with fail
      go_quiet (fail)
      go_wp2_with fail
      go_ret
      exact ⟨by rw [HO.out]; rfl, by first | exact ((Ext.refl w).alloc _).drewN _ | exact (Ext.refl w).alloc _ | exact (((Ext.refl w).alloc _).drewN _).drewN _⟩
  · cases pair with
    | false =>
      have HO : Hid (okLeaf cells false (.mk 3 wd m []) = false) := by simp [Hid, okLeaf]
      go_enter Tryz.func48, Tryz.ntmps48
      go_wp2_with fail
      go_ret
      exact ⟨by rw [HO.out]; rfl, by first | exact ((Ext.refl w).alloc _).drewN _ | exact (Ext.refl w).alloc _ | exact (((Ext.refl w).alloc _).drewN _).drewN _⟩
    | true =>
      by_cases hm : m < cells.length
      · obtain ⟨cb, co, rfl, hcW⟩ : ∃ (cb co : Nat), ca = some ⟨cb, co, none⟩ ∧ ∀ w', Ext w w' → w'.cell? ⟨cb, co + m * 6 + 1, none⟩ = some (.int .i64 cells[m].W) := by
          rcases HC.out with ⟨_, ee⟩ | ⟨cb, co, cap', ee, _, hcc⟩
          · rw [ee] at hm; simp at hm
          cases ee
          exact ⟨cb, co, rfl, fun w' hx => hx.cell (hcc m hm).2.1⟩
        have hW0 := hcW _ (((Ext.refl w).alloc (.cells #[.int .i64 3, .int .i64 wd, .int .i64 m, .slice a 0 cap] 25)))
        have hmI : (m : Int) < (cells.length : Int) := by omega
        have hm0 : (0 : Int) ≤ (m : Int) := by omega
        have HCW := Lib.hid hcW
        clear hcW
        have HG : Hid ((cells.map CellD.W).getD m 0 = cells[m].W) := by unfold Hid; simp [List.getD, hm]
        generalize cells[m].W = cw at *
        by_cases hwe : cw = wd
        · subst hwe
          have hb : (cw != cw) = false := by unfold bne; simp
          have HO : Hid (okLeaf cells true (.mk 3 cw m []) = true) := by
            have := HG.out
            simp only [Hid, okLeaf, E.op_mk, E.wd_mk, E.n_mk, Int.toNat_natCast, this]; simp [hm]
          clear HG
          go_enter Tryz.func48, Tryz.ntmps48
          go_wp2_with fail
          go_quiet (fail)
          go_wp2_with fail
          go_loopw [7] (fun i wr => i = .int .i64 (0 : Nat) ∧ Ext w wr ∧ wr.cell? ⟨w.heap.size, 3, none⟩ = some (.slice a 0 cap)) (fun i _ => 0)
          case atStart => exact ⟨rfl, ((Ext.refl w).alloc _).drewN _, by simp⟩
          case round =>
            obtain ⟨rfl, hX, c3⟩ := hrel
            have HX := Lib.hid hX; clear hX
            go_wp2_with fail
            go_ret
            exact ⟨by rw [HO.out]; rfl, HX.out⟩

        · have hb : (cw != wd) = true := by rw [bne_iff_ne]; exact hwe
          have HO : Hid (okLeaf cells true (.mk 3 wd m []) = false) := by
            have := HG.out
            simp only [Hid, okLeaf, E.op_mk, E.wd_mk, E.n_mk, Int.toNat_natCast, this]; simp [hm, hwe]
          clear HG
          go_enter Tryz.func48, Tryz.ntmps48
          go_wp2_with fail
          go_quiet (fail)
          go_wp2_with fail
          go_ret
          exact ⟨by rw [HO.out]; rfl, by first | exact ((Ext.refl w).alloc _).drewN _ | exact (Ext.refl w).alloc _ | exact (((Ext.refl w).alloc _).drewN _).drewN _⟩

      · have hmI : (cells.length : Int) ≤ (m : Int) := by omega
        have HO : Hid (okLeaf cells true (.mk 3 wd m []) = false) := by simp only [Hid, okLeaf, E.op_mk, E.wd_mk, E.n_mk, Int.toNat_natCast]; simp [hm]
        go_enter Tryz.func48, Tryz.ntmps48
        go_wp2_with fail
        go_quiet (fail)
        go_wp2_with fail
        go_ret
        exact ⟨by rw [HO.out]; rfl, by first | exact ((Ext.refl w).alloc _).drewN _ | exact (Ext.refl w).alloc _ | exact (((Ext.refl w).alloc _).drewN _).drewN _⟩

set_option maxHeartbeats 4000000 in
theorem Rover_any (N : Nat) (cells : List CellD) (cv : Value) (pair : Bool) : ∀ (e : E) (d : Nat) (v : Value) (w : World), e.size ≤ N → e.deep d = true → EVal w v e → Cells w cv cells →
    Calls Tryz.prog 48 #[v, cv, .bool pair] w fun r w' => r = .returned (.bool (e.leaves.all (okLeaf cells pair))) ∧ Ext w w' := by
  induction N with
  | zero => intro e d v w h; have := e.size_pos; omega
  | succ N ih =>
    intro e d v w hN hd he hC
    obtain ⟨kv, rfl, hk⟩ := he
    obtain ⟨op, wd, n, ks⟩ := e
    simp only [E.op_mk, E.wd_mk, E.n_mk, E.kids_mk] at hk ⊢
    obtain ⟨a, cap, rfl⟩ := SliceAt.shape hk
    by_cases hks : ks = []
    · subst hks
      obtain ⟨h1, h2, _⟩ := shapedW_leaf (by simpa using deep_shape hd)
      obtain ⟨m, rfl⟩ := Int.eq_ofNat_of_zero_le h2
      rw [leaves_nil]
      simp only [List.all_cons, List.all_nil, Bool.and_true]
      exact Rover_leaf op wd m cells cv pair a cap w h1 hC
    · obtain ⟨n2, n3⟩ := deep_inner hd hks
      rw [leaves_cons hks]
      have hlen : ks.length ≤ 9223372036854775807 := SliceAt.len_le hk
      have hb2 : (op == 2) = false := by simpa using n2
      have hb3 : (op == 3) = false := by simpa using n3
      have IH := Lib.hid ih; have HK := Lib.hid hk; have HC := Lib.hid hC; have HD := Lib.hid hd
      clear ih hk hC hd hks n2 n3
      obtain ⟨ca, cc, rfl⟩ := SliceAt.shape HC.out
      go_enter Tryz.func48, Tryz.ntmps48
      go_wp2_with fail
      go_quiet (fail)
      go_wp2_with fail
      go_loopw [7] (fun i wr => ∃ (k : Nat), k ≤ ks.length ∧ i = .int .i64 k ∧ Ext w wr ∧ wr.cell? ⟨w.heap.size, 3, none⟩ = some (.slice a ks.length cap) ∧ ∀ (j : Nat) (h : j < ks.length), j < k → ks[j].leaves.all (okLeaf cells pair) = true) (fun i _ => ks.length - (intOf i).toNat)
      case atStart => exact ⟨0, Nat.zero_le _, rfl, by first | exact ((Ext.refl w).alloc _).drewN _ | exact (Ext.refl w).alloc _, by simp, fun j _ h => absurd h (Nat.not_lt_zero _)⟩
      case round =>
        obtain ⟨k, hk, rfl, hX, c3, hR⟩ := hrel
        have HX := Lib.hid hX; have HR := Lib.hid hR; have HC3 := Lib.hid c3; clear hX hR
        by_cases hlt : k < ks.length
        · rcases HK.out with ⟨_, e⟩ | ⟨b', o', cap', e, _, hk'⟩
          · rw [e] at hlt; simp at hlt
          cases e
          have hE := (hk' k hlt).ext HX.out
          obtain ⟨g0, g1, g2, kv, g3, hkk⟩ := hE.cells
          obtain ⟨ka, kc, rfl⟩ := SliceAt.shape hkk
          have hin : ks[k] ∈ ks := List.getElem_mem hlt
          have hsz : ks[k].size ≤ N := by have := size_kid (op := op) (wd := wd) (n := n) hin; omega
          have HE : Hid (EVal wr (.agg #[.int .i64 ks[k].op, .int .i64 ks[k].wd, .int .i64 ks[k].n, .slice ka ks[k].kids.length kc]) ks[k]) := ⟨_, rfl, hkk⟩
          clear hkk hk' hE
          go_wp2_with fail
          refine (IH.out _ _ _ _ hsz (deep_kid HD.out hlt) HE.out (HC.out.ext HX.out)).mono ?_
          rintro r w2 ⟨rfl, hx2⟩
          have HX2 := Lib.hid (HX.out.trans hx2)
          have HC32 := Lib.hid (hx2.cell HC3.out)
          clear hx2
          cases hq : ks[k].leaves.all (okLeaf cells pair) with
          | false =>
            have HF : Hid ((leavesAll ks).all (okLeaf cells pair) = false) := over_no_kid hlt hq
            clear hq
            go_wp2_with fail
            go_ret
            exact ⟨by rw [HF.out]; rfl, HX2.out⟩
          | true =>
            have HQ := Lib.hid hq; clear hq
            go_wp2_with fail
            refine ⟨⟨k + 1, by omega, by go_num, HX2.out, HC32.out, fun j h hj => ?_⟩, by simp [intOf]; omega⟩
            by_cases c : j = k
            · subst c; exact HQ.out
            · exact HR.out j h (by omega)
        · have HF : Hid ((leavesAll ks).all (okLeaf cells pair) = true) := over_yes fun i h => HR.out i h (by omega)
          go_wp2_with fail
          go_ret
          exact ⟨by rw [HF.out]; rfl, HX.out⟩

set_option maxHeartbeats 400000 in
theorem RValidE_any (e : E) (cells : List CellD) (v cv : Value) (pair : Bool) (w : World) (he : EVal w v e) (hC : Cells w cv cells) :
    Calls Tryz.prog 15 #[v, cv, .bool pair] w fun r w' => r = .returned (.bool (e.valid cells pair)) ∧ Ext w w' := by
  obtain ⟨kv, rfl, hk⟩ := he
  obtain ⟨a, cap, rfl⟩ := SliceAt.shape hk
  obtain ⟨ca, cc, rfl⟩ := SliceAt.shape hC
  have HE : Hid (EVal w (.agg #[.int .i64 e.op, .int .i64 e.wd, .int .i64 e.n, .slice a e.kids.length cap]) e) := ⟨_, rfl, hk⟩
  have HC := Lib.hid hC; clear hk hC
  have HX0 : Hid (∀ x, Ext w (w.alloc x)) := fun x => (Ext.refl w).alloc x
  go_enter Tryz.func15, Tryz.ntmps15
  go_wp2_with fail
  refine (RFormed_any e _ _ (HE.out.ext (HX0.out _))).mono ?_
  rintro r w1 ⟨rfl, hx1⟩
  have c0 : w1.cell? ⟨w.heap.size, 0, none⟩ = some (.int .i64 e.op) := hx1.cell (by simp)
  have c1 : w1.cell? ⟨w.heap.size, 1, none⟩ = some (.int .i64 e.wd) := hx1.cell (by simp)
  have c2 : w1.cell? ⟨w.heap.size, 2, none⟩ = some (.int .i64 e.n) := hx1.cell (by simp)
  have c3 : w1.cell? ⟨w.heap.size, 3, none⟩ = some (.slice a e.kids.length cap) := hx1.cell (by simp)
  have HX := Lib.hid ((HX0.out _).trans hx1); clear hx1
  cases hf : e.wf with
  | true =>
    have HF : Hid (e.valid cells pair = e.leaves.all (okLeaf cells pair)) := by unfold Hid E.valid; rw [hf, Bool.true_and]
    have HD : Hid (e.deep 40 = true) := by
      unfold E.wf at hf
      simp only [Bool.and_eq_true] at hf
      exact hf.2
    clear hf
    go_wp2_with fail
    refine (Rover_any e.size cells _ pair e 40 _ _ (Nat.le_refl _) HD.out (HE.out.ext HX.out) (HC.out.ext HX.out)).mono ?_
    rintro r w2 ⟨rfl, hx2⟩
    have HX2 := Lib.hid (HX.out.trans hx2); clear hx2
    go_wp2_with fail
    go_ret
    exact ⟨by rw [HF.out]; rfl, HX2.out⟩
  | false =>
    have HF : Hid (e.valid cells pair = false) := by unfold Hid E.valid; rw [hf, Bool.false_and]
    clear hf
    go_wp2_with fail
    go_ret
    exact ⟨by rw [HF.out]; rfl, HX.out⟩
end Go.Proofs.YtlcgbdjmlnjhcaaGreatDoor
namespace Go.Proofs.YtlcgbdjmlnjhcaaGreatDoor
open Go.RowKit
attribute [local go_sem] Oper.semAt_some

def BitAt (w : World) (b o : Nat) (z : Bool) : Prop := w.cell? ⟨b, o, none⟩ = some (.bool z)
theorem bitKeeps : Keeps BitAt := fun _ _ _ _ _ hx h => hx.cell h
abbrev Bits := SliceAt 1 BitAt
theorem bits_at {w : World} {a : Option Addr} {n c : Nat} {l : List Bool} (h : Bits w (.slice a n c) l) {k : Nat} (hk : k < l.length) : ∃ b o, a = some ⟨b, o, none⟩ ∧ w.cell? ⟨b, o + k, none⟩ = some (.bool l[k]) := by
  rcases h with ⟨_, e⟩ | ⟨b, o, cap, e, _, hc⟩
  · rw [e] at hk; simp at hk
  cases e
  have := hc k hk
  rw [Nat.mul_one] at this
  exact ⟨b, o, rfl, this⟩
theorem row_bits {w : World} {b n : Nat} {f : Nat → Bool} (hm : n ≤ 1000000) (h : w.rowIs b 4 n fun j => .bool (f j)) : Bits w (.slice (some ⟨b, 0, none⟩) n n) ((List.range n).map f) := by
  refine .inr ⟨b, 0, n, by simp, by simp; omega, fun i hi => ?_⟩
  have hi' : i < n := by simpa using hi
  have := h.cell (i := i) hi'
  rw [Nat.mul_one, Nat.zero_add]
  simpa [BitAt] using this
theorem ints_at1 {w : World} {a : Option Addr} {n c : Nat} {l : List Int} (h : Ints w (.slice a n c) l) {k : Nat} (hk : k < l.length) : ∃ b o, a = some ⟨b, o, none⟩ ∧ w.cell? ⟨b, o + k, none⟩ = some (.int .i64 l[k]) := by
  rcases h with ⟨_, e⟩ | ⟨b, o, cap, e, _, hc⟩
  · rw [e] at hk; simp at hk
  cases e
  have := hc k hk
  rw [Nat.mul_one] at this
  exact ⟨b, o, rfl, this⟩
/-- The bits of a list. -/
def bitF (l : List Bool) (j : Nat) : Bool := l.getD j false
theorem upTo_congr {f g : Nat → Bool} {k : Nat} (h : ∀ j, j < k → f j = g j) : upTo f k = upTo g k := by
  unfold upTo
  rw [List.filter_congr fun j hj => h j (List.mem_range.1 hj)]

set_option maxHeartbeats 1000000 in
theorem RIs_any (e : E) (n wd : Int) (v : Value) (w : World) (he : EVal w v e) : Calls Tryz.prog 19 #[v, .int .i64 n, .int .i64 wd] w fun r w' => r = .returned (.bool ((e.op == 1) && (e.n == n) && (e.wd == wd))) ∧ Ext w w' := by
  obtain ⟨kv, rfl, hk⟩ := id he
  obtain ⟨a, c, rfl⟩ := SliceAt.shape hk
  have hx0 : Ext w (w.alloc (.cells #[.int .i64 e.op, .int .i64 e.wd, .int .i64 e.n, .slice a e.kids.length c] 25)) := (Ext.refl w).alloc _
  have HX := Lib.hid hx0
  clear hx0 he hk
  cases h1 : (e.op == 1) <;> cases h2 : (e.n == n) <;> cases h3 : (e.wd == wd)
  all_goals
    go_enter Tryz.func19, Tryz.ntmps19
    go_wp2_with fail
    go_ret
    exact ⟨rfl, HX.out⟩
set_option maxRecDepth 100000 in
set_option maxHeartbeats 4000000 in
theorem RMarked_any (l : List Bool) (v : Value) (w : World) (hl : Bits w v l) (hn : l.length ≤ 1000) : Calls Tryz.prog 51 #[v] w fun r w' => (∃ u, r = .returned u ∧ OwnInts w' w.heap.size u (upTo (bitF l) l.length)) ∧ Ext w w' := by
  obtain ⟨va, vc, rfl⟩ := SliceAt.shape hl
  have HL := Lib.hid hl
  clear hl
  go_enter Tryz.func51, Tryz.ntmps51
  go_wp2_with fail
  go_loopw [3, 4] (fun ov iv wr => ∃ k : Nat, k ≤ l.length ∧ iv = .int .i64 k ∧ Ext w wr ∧ OwnInts wr w.heap.size ov (upTo (bitF l) k)) (fun _ iv _ => l.length - (intOf iv).toNat)
  case atStart => exact ⟨0, Nat.zero_le _, rfl, Ext.refl _, OwnInts.nil _ _⟩
  case round =>
    obtain ⟨k, hk, rfl, hX, hO⟩ := hrel
    have HXr := Lib.hid hX; have HO := Lib.hid hO
    have hlw : w.heap.size ≤ wr.heap.size := hX.size
    clear hX hO
    by_cases hlt : k < l.length
    · have hlt' : (k : Int) < (l.length : Int) := by omega
      obtain ⟨b3, o3, h3, g3⟩ := bits_at (SliceAt.ext bitKeeps HL.out HXr.out) hlt
      cases h3
      have HG : Hid (bitF l k = l[k]) := by unfold Hid bitF; simp [List.getD, hlt]
      have HLN := Lib.hid (upTo_length (bitF l) k)
      generalize l[k] = x at *
      cases x with
      | false =>
        have HS : Hid (upTo (bitF l) (k + 1) = upTo (bitF l) k) := upTo_succ_false HG.out
        go_wp2_with fail
        exact ⟨⟨k + 1, by omega, by go_num, HXr.out, by rw [HS.out]; exact HO.out⟩, by simp [intOf]; omega⟩
      | true =>
        have HS : Hid (upTo (bitF l) (k + 1) = upTo (bitF l) k ++ [(k : Int)]) := upTo_succ_true HG.out
        go_wp2_with (at_builtin; refine wpList_append_int rfl (.tmp 15) (.tmp 17) rfl w.heap.size wr _ _ (k : Int) rfl rfl HO.out (by have := HLN.out; omega) hlw ?_)
        intro v' w' hown' hg
        rw [← HS.out] at hown'
        have hx' : Ext w w' := HXr.out.grown hg (fun q hq => HO.out.base q hq)
        have HO' := Lib.hid hown'; have HX' := Lib.hid hx'
        clear hown' hx' hg
        go_wp2_with fail
        exact ⟨⟨k + 1, by omega, by go_num, HX'.out, HO'.out⟩, by simp [intOf]; omega⟩
    · have hkl : k = l.length := by omega
      subst hkl
      go_wp2_with fail
      go_ret
      exact ⟨⟨_, rfl, HO.out⟩, HXr.out⟩
end Go.Proofs.YtlcgbdjmlnjhcaaGreatDoor
namespace Go.Proofs.YtlcgbdjmlnjhcaaGreatDoor
open Go.RowKit
attribute [local go_sem] Oper.semAt_some

theorem infoBit : (Tryz.prog.info? 4).map (fun i => (i.zero, i.size, i.bytes)) = some (some (.bool false), 1, 1) := by kernel_rfl
theorem makeBits32 (W : World) : (Instr.makeSlice 83 (.int .i64 32) (.int .i64 32)).run Tryz.prog W = .ok (.slice (some ⟨W.heap.size, 0, none⟩) 32 32) (W.alloc (.cells (madeCells #[.bool false] 32) 4)) :=
  run_make_row' (P := Tryz.prog) 83 4 (.bool false) 1 Tryz.underlying83 infoBit rfl .i64 .i64 32 (by omega) (by omega) W
/-- What is marked when ka elements of a and kb of b were met. -/
def mkF (a b : List Int) (ka kb : Nat) (j : Nat) : Bool := (a.take ka).contains (j : Int) || (b.take kb).contains (j : Int)
theorem contains_snoc (l : List Int) (x y : Int) : (l ++ [x]).contains y = (l.contains y || decide (y = x)) := by
  rw [Bool.eq_iff_iff]; simp
theorem mkF_a {a b : List Int} {k n kb : Nat} (hk : k < a.length) (hn : a[k] = (n : Int)) (j : Nat) : mkF a b (k + 1) kb j = (mkF a b k kb j || decide (j = n)) := by
  unfold mkF
  rw [List.take_succ_eq_append_getElem hk, contains_snoc, hn, show decide ((j : Int) = (n : Int)) = decide (j = n) by rw [decide_eq_decide]; omega]
  cases (a.take k).contains (j : Int) <;> cases (b.take kb).contains (j : Int) <;> cases decide (j = n) <;> rfl
theorem mkF_b {a b : List Int} {k n ka : Nat} (hk : k < b.length) (hn : b[k] = (n : Int)) (j : Nat) : mkF a b ka (k + 1) j = (mkF a b ka k j || decide (j = n)) := by
  unfold mkF
  rw [List.take_succ_eq_append_getElem hk, contains_snoc, hn, show decide ((j : Int) = (n : Int)) = decide (j = n) by rw [decide_eq_decide]; omega]
  cases (a.take ka).contains (j : Int) <;> cases (b.take k).contains (j : Int) <;> cases decide (j = n) <;> rfl
theorem row_mark {w : World} {g n : Nat} {f f' : Nat → Bool} (h : w.rowIs g 4 32 fun j => .bool (f j)) (e : ∀ j, f' j = (f j || decide (j = n))) : (w.setCell ⟨g, n, none⟩ (.bool true)).rowIs g 4 32 fun j => .bool (f' j) := by
  refine (h.set n (.bool true)).congr fun j _ => ?_
  show (if j = n then Value.bool true else Value.bool (f j)) = Value.bool (f' j)
  rw [e]
  by_cases c : j = n
  · rw [if_pos c, decide_eq_true c]; simp
  · rw [if_neg c, decide_eq_false c]; simp

set_option maxRecDepth 100000 in
set_option maxHeartbeats 4000000 in
theorem RMerge_any (a b : List Int) (va vb : Value) (w : World) (ha : Ints w va a) (hb : Ints w vb b) (ha32 : ∀ c ∈ a, 0 ≤ c ∧ c < 32) (hb32 : ∀ c ∈ b, 0 ≤ c ∧ c < 32) (hla : a.length ≤ 1000) (hlb : b.length ≤ 1000) :
    Calls Tryz.prog 75 #[va, vb] w fun r w' => (∃ u, r = .returned u ∧ Ints w' u (upTo (fun j => a.contains (j : Int) || b.contains (j : Int)) 32)) ∧ Ext w w' := by
  obtain ⟨aa, ac, rfl⟩ := SliceAt.shape ha
  obtain ⟨ba, bc, rfl⟩ := SliceAt.shape hb
  have HA := Lib.hid ha; have HB := Lib.hid hb; have HA32 := Lib.hid ha32; have HB32 := Lib.hid hb32
  clear ha hb ha32 hb32
  have hmk := makeBits32
  go_enter Tryz.func75, Tryz.ntmps75
  go_upto_region 2 with fail
  clear hmk
  have x0 : Ext w (w.alloc (.cells (madeCells #[.bool false] 32) 4)) := (Ext.refl _).alloc _
  have HR0 : Hid ((w.alloc (.cells (madeCells #[.bool false] 32) 4)).rowIs w.heap.size 4 32 fun j => .bool (mkF a b 0 0 j)) := (World.rowIs_made w (.bool false) 32 4).congr fun j hj => by simp [mkF]
  have HX0 := Lib.hid x0
  clear x0
  generalize w.alloc (.cells (madeCells #[.bool false] 32) 4) = w1 at *
  generalize hg : w.heap.size = g at *
  have HG := Lib.hid hg
  clear hg
  go_wp2_with fail
  go_loopw [6] (fun iv wr => ∃ k : Nat, k ≤ a.length ∧ iv = .int .i64 k ∧ Ext w wr ∧ wr.rowIs g 4 32 fun j => .bool (mkF a b k 0 j)) (fun iv _ => a.length - (intOf iv).toNat)
  case atStart => exact ⟨0, Nat.zero_le _, rfl, HX0.out, HR0.out⟩
  case round =>
    obtain ⟨k, hk, rfl, hX, hR⟩ := hrel
    have HXr := Lib.hid hX; have HR := Lib.hid hR
    clear hX hR
    by_cases hlt : k < a.length
    · have hlt' : (k : Int) < (a.length : Int) := by omega
      have k0 : (0 : Int) ≤ (k : Int) := by omega
      obtain ⟨b3, o3, h3, g3⟩ := ints_at1 (HA.out.ext HXr.out) hlt
      cases h3
      have hb3 := HA32.out _ (List.getElem_mem hlt)
      obtain ⟨n, hn⟩ := Int.eq_ofNat_of_zero_le hb3.1
      have HM := Lib.hid (fun j => mkF_a (b := b) (kb := 0) hlt hn j)
      rw [hn] at g3 hb3
      have n32 : n < 32 := by omega
      have n0 : (0 : Int) ≤ (n : Int) := by omega
      have n1 : (n : Int) < 32 := by omega
      have c5 := HR.out.cell n32
      have c6 := HR.out.frozen n
      have HR2 := Lib.hid (row_mark HR.out HM.out)
      have HX2 : Hid (Ext w (wr.setCell ⟨g, n, none⟩ (.bool true))) := HXr.out.setCell (p := ⟨g, n, none⟩) (by have := HG.out; show w.heap.size ≤ g; omega) _
      generalize mkF a b k 0 n = old at c5
      clear hn
      go_wp2_with fail
      exact ⟨⟨k + 1, by omega, by go_num, HX2.out, HR2.out⟩, by simp [intOf]; omega⟩
    · have hkl : k = a.length := by omega
      subst hkl
      go_wp2_with fail
      go_loopw [7] (fun iv wr => ∃ k : Nat, k ≤ b.length ∧ iv = .int .i64 k ∧ Ext w wr ∧ wr.rowIs g 4 32 fun j => .bool (mkF a b a.length k j)) (fun iv _ => b.length - (intOf iv).toNat)
      case atStart => exact ⟨0, Nat.zero_le _, rfl, HXr.out, HR.out⟩
      case round =>
        obtain ⟨k, hk, rfl, hX, hR⟩ := hrel
        have HXr := Lib.hid hX; have HR := Lib.hid hR
        clear hX hR
        by_cases hlt : k < b.length
        · have hlt' : (k : Int) < (b.length : Int) := by omega
          have k0 : (0 : Int) ≤ (k : Int) := by omega
          obtain ⟨b3, o3, h3, g3⟩ := ints_at1 (HB.out.ext HXr.out) hlt
          cases h3
          have hb3 := HB32.out _ (List.getElem_mem hlt)
          obtain ⟨n, hn⟩ := Int.eq_ofNat_of_zero_le hb3.1
          have HM := Lib.hid (fun j => mkF_b (a := a) (ka := a.length) hlt hn j)
          rw [hn] at g3 hb3
          have n32 : n < 32 := by omega
          have n0 : (0 : Int) ≤ (n : Int) := by omega
          have n1 : (n : Int) < 32 := by omega
          have c5 := HR.out.cell n32
          have c6 := HR.out.frozen n
          have HR2 := Lib.hid (row_mark HR.out HM.out)
          have HX2 : Hid (Ext w (wr.setCell ⟨g, n, none⟩ (.bool true))) := HXr.out.setCell (p := ⟨g, n, none⟩) (by have := HG.out; show w.heap.size ≤ g; omega) _
          generalize mkF a b a.length k n = old at c5
          clear hn
          go_wp2_with fail
          exact ⟨⟨k + 1, by omega, by go_num, HX2.out, HR2.out⟩, by simp [intOf]; omega⟩
        · have hkl : k = b.length := by omega
          subst hkl
          have HBT := Lib.hid (row_bits (by omega) HR.out)
          have HUP : Hid (upTo (bitF ((List.range 32).map (mkF a b a.length b.length))) 32 = upTo (fun j => a.contains (j : Int) || b.contains (j : Int)) 32) := upTo_congr fun j hj => by
            unfold bitF mkF; simp [List.getD, hj]
          go_wp2_with fail
          refine (RMarked_any _ _ wr HBT.out (by simp)).mono ?_
          rintro r w5 ⟨⟨u, rfl, ho⟩, x5⟩
          have hl32 : ((List.range 32).map (mkF a b a.length b.length)).length = 32 := by simp
          rw [hl32, HUP.out] at ho
          have HO := Lib.hid ho.ints; have HXE := Lib.hid (HXr.out.trans x5)
          clear ho x5 hl32
          go_wp2_with fail
          go_ret
          exact ⟨⟨_, rfl, HO.out⟩, HXE.out⟩
end Go.Proofs.YtlcgbdjmlnjhcaaGreatDoor
