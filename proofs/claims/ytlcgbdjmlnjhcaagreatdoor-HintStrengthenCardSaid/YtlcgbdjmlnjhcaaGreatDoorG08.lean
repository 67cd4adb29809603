/-
  The walk of wellFormed.
  The walk of Eval.
  The walk of leaves, once for each function that is handed to it. (Written by wip/gen_leaves.py.)
-/
import Derived.Test.YtlcgbdjmlnjhcaaGreatDoorG07
import Derived.Laws.EntriesVeiled
namespace Go.Proofs.YtlcgbdjmlnjhcaaGreatDoor
open Go.RowKit

/-- An expression by value, boxed. -/
theorem IsE.box {w : World} {e : E} {k : Value} {t : TypeId} (hk : Kids w k e.kids) : IsE (w.alloc (.cells #[.int .i64 e.op, .int .i64 e.wd, .int .i64 e.n, k] t)) w.heap.size 0 e :=
  IsE.of_cells (v := k) (by simp) (by simp) (by simp) (by simp) (hk.ext ((Ext.refl w).alloc _))

/-- What visit finds in its two captured variables. -/
def VEnv (w : World) (C V : Nat) (c : Int) : Prop :=
  w.cell? ⟨C, 0, none⟩ = some (.int .i64 c) ∧ w.frozen? ⟨C, 0, none⟩ = false ∧ w.cell? ⟨V, 0, none⟩ = some (.func (.func 71) #[] #[.pointer (some ⟨C, 0, none⟩), .pointer (some ⟨V, 0, none⟩)])
theorem VEnv.ext {w w' : World} {C V : Nat} {c : Int} (h : VEnv w C V c) (he : Ext w w') : VEnv w' C V c :=
  ⟨he.cell h.1, by rw [he.frozenEq (block_lt h.1)]; exact h.2.1, he.cell h.2.2⟩
theorem VEnv.set {w : World} {C V : Nat} {c : Int} (h : VEnv w C V c) (hCV : C ≠ V) (x : Int) : VEnv (w.setCell ⟨C, 0, none⟩ (.int .i64 x)) C V x :=
  ⟨World.cell?_setCell_same _ _ _ h.1, by rw [World.frozen?_setCell]; exact h.2.1, by rw [World.cell?_setCell_other _ _ _ _ (by intro e; cases e; exact hCV rfl)]; exact h.2.2⟩

/-- visit's answer. -/
def visitB (c : Int) (e : E) (dp : Int) : Bool := decide (c + e.size ≤ 600) && e.deep (41 - dp).toNat
/-- What visit leaves: the two variables; the number of nodes, where it answered yes. -/
def VPost (w0 : World) (C V : Nat) (c : Int) (e : E) (dp : Int) (w' : World) : Prop :=
  Ext w0 w' ∧ ∃ c', VEnv w' C V c' ∧ (visitB c e dp = true → c' = c + e.size)

theorem sizeAll_take_succ {ks : List E} {k : Nat} (h : k < ks.length) : sizeAll (ks.take (k + 1)) = sizeAll (ks.take k) + ks[k].size := by
  rw [sizeAll_eq, sizeAll_eq, List.take_succ_eq_append_getElem h, List.map_append, List.sum_append]; simp
theorem sizeAll_take_le (ks : List E) (k : Nat) : sizeAll (ks.take k) ≤ sizeAll ks := by
  induction ks generalizing k with
  | nil => simp
  | cons e r ih =>
    cases k with
    | zero => simp [sizeAll]
    | succ k => simp only [List.take_succ_cons, sizeAll]; have := ih k; omega

theorem visitB_true {c : Int} {e : E} {dp : Int} (h : visitB c e dp = true) : c + e.size ≤ 600 ∧ e.deep (41 - dp).toNat = true := by
  simpa [visitB] using h
theorem visitB_mk {c : Int} {op wd n : Int} {ks : List E} {dp : Int} (h : visitB c (.mk op wd n ks) dp = true) : c + 1 + sizeAll ks ≤ 600 ∧ dp ≤ 40 ∧ shapedW op wd n (ks.map E.wd) = true ∧ deepAll ks (40 - dp).toNat = true := by
  obtain ⟨h1, h2⟩ := visitB_true h
  simp only [E.size, Int.natCast_add] at h1
  simp only [E.deep, Bool.and_eq_true, decide_eq_true_eq] at h2
  obtain ⟨⟨a, b⟩, d⟩ := h2
  rw [show (41 - dp).toNat - 1 = (40 - dp).toNat by omega] at d
  exact ⟨by omega, by omega, b, d⟩
theorem visitB_leaf {c : Int} {op wd n : Int} {ks : List E} {dp : Int} (h : 600 < c + 1 ∨ 40 < dp ∨ shapedW op wd n (ks.map E.wd) = false) : visitB c (.mk op wd n ks) dp = false := by
  cases hB : visitB c (.mk op wd n ks) dp with
  | false => rfl
  | true =>
    obtain ⟨h1, h2, h3, h4⟩ := visitB_mk hB
    rcases h with h | h | h
    · omega
    · omega
    · rw [h] at h3; cases h3
theorem visitB_kid {c : Int} {op wd n : Int} {ks : List E} {dp : Int} {k : Nat} (hk : k < ks.length) (h : visitB (c + 1 + sizeAll (ks.take k)) ks[k] (dp + 1) = false) : visitB c (.mk op wd n ks) dp = false := by
  cases hB : visitB c (.mk op wd n ks) dp with
  | false => rfl
  | true =>
    obtain ⟨h1, h2, h3, h4⟩ := visitB_mk hB
    have e1 := sizeAll_take_succ hk
    have e2 := sizeAll_take_le ks (k + 1)
    have e3 := (deepAll_iff _ _).1 h4 _ (List.getElem_mem hk)
    have : visitB (c + 1 + sizeAll (ks.take k)) ks[k] (dp + 1) = true := by
      simp only [visitB, Bool.and_eq_true, decide_eq_true_eq]
      rw [show (41 - (dp + 1)).toNat = (40 - dp).toNat by omega]
      exact ⟨by omega, e3⟩
    rw [this] at h; cases h
theorem visitB_all {c : Int} {op wd n : Int} {ks : List E} {dp : Int} (hs : shapedW op wd n (ks.map E.wd) = true) (hdp : dp ≤ 40) (hc : c + 1 + sizeAll ks ≤ 600) (hd : deepAll ks (40 - dp).toNat = true) : visitB c (.mk op wd n ks) dp = true := by
  have h1 : c + (E.mk op wd n ks).size ≤ 600 := by simp only [E.size, Int.natCast_add]; omega
  have h2 : (E.mk op wd n ks).deep (41 - dp).toNat = true := by
    simp only [E.deep, Bool.and_eq_true, decide_eq_true_eq]
    refine ⟨⟨by omega, hs⟩, ?_⟩
    rw [show (41 - dp).toNat - 1 = (40 - dp).toNat by omega]; exact hd
  simp [visitB, h1, h2]

/-- What holds when visit has come through k kids. -/
def VLoop (w0 : World) (C V : Nat) (c dp : Int) (ks : List E) (k : Nat) (wr : World) : Prop :=
  Ext w0 wr ∧ VEnv wr C V (c + 1 + sizeAll (ks.take k)) ∧ c + 1 + sizeAll (ks.take k) ≤ 600 ∧ deepAll (ks.take k) (40 - dp).toNat = true

set_option maxHeartbeats 1000000 in
theorem visit_any (w0 : World) (C V : Nat) (hC : w0.heap.size ≤ C) (hCV : C ≠ V) (hM : Masks w0) (N : Nat) : ∀ (e : E) (w : World) (b o : Nat) (c dp : Int), e.size ≤ N → IsE w0 b o e → Ext w0 w → VEnv w C V c → 0 ≤ c → c ≤ 600 → 1 ≤ dp → dp ≤ 41 →
    Calls Tryz.prog 71 #[.pointer (some ⟨b, o, none⟩), .int .i64 dp, .pointer (some ⟨C, 0, none⟩), .pointer (some ⟨V, 0, none⟩)] w fun r w' => r = .returned (.bool (visitB c e dp)) ∧ VPost w0 C V c e dp w' := by
  induction N with
  | zero => intro e w b o c dp h; have := e.size_pos; omega
  | succ N ih =>
    intro e w b o c dp hN hE hx hv hc0 hc6 hd1 hd41
    obtain ⟨h0, h1, h2, kv, h3, hk⟩ := hE.cells
    obtain ⟨op, wd, n, ks⟩ := e
    simp only [E.op_mk, E.wd_mk, E.n_mk, E.kids_mk] at h0 h1 h2 hk
    have hv1 := hv.set hCV (c + 1)
    have hx1 : Ext w0 (w.setCell ⟨C, 0, none⟩ (.int .i64 (c + 1))) := hx.setCell hC _
    obtain ⟨v1, v2, v3⟩ := hv
    by_cases a1 : 600 < c + 1
    · have hf := visitB_leaf (op := op) (wd := wd) (n := n) (ks := ks) (dp := dp) (.inl a1)
      have HF := Lib.hid hf; have HV := Lib.hid hv1; have HX := Lib.hid hx1
      clear hf hv1 hx1 ih hk
      go_enter Tryz.func71, Tryz.ntmps71
      go_wp2_with fail
      go_ret
      exact ⟨by rw [HF.out]; rfl, HX.out, _, HV.out, fun h => by rw [HF.out] at h; cases h⟩
    by_cases a2 : 40 < dp
    · have hf := visitB_leaf (c := c) (op := op) (wd := wd) (n := n) (ks := ks) (.inr (.inl a2))
      have HF := Lib.hid hf; have HV := Lib.hid hv1; have HX := Lib.hid hx1
      clear hf hv1 hx1 ih hk
      go_enter Tryz.func71, Tryz.ntmps71
      go_wp2_with fail
      go_ret
      exact ⟨by rw [HF.out]; rfl, HX.out, _, HV.out, fun h => by rw [HF.out] at h; cases h⟩
    have a1' : c + 1 ≤ 600 := by omega
    have a2' : dp ≤ 40 := by omega
    have IH := Lib.hid ih; have HK := Lib.hid hk; have HV := Lib.hid hv1; have HX := Lib.hid hx1
    clear a1 a2 ih hk hv1 hx1
    cases hs : shapedW op wd n (ks.map E.wd) with
    | false =>
      have HF := Lib.hid (visitB_leaf (c := c) (dp := dp) (.inr (.inr hs)))
      have HS := Lib.hid hs; clear hs
      go_enter Tryz.func71, Tryz.ntmps71
      go_wp2_with fail
      refine (shaped_any _ _ _ _ (hE.ext HX.out) (hM.ext HX.out)).mono ?_
      rintro e w1 ⟨rfl, hx2⟩
      simp only [E.op_mk, E.wd_mk, E.n_mk, E.kids_mk, HS.out]
      have HX2 := Lib.hid hx2; clear hx2
      go_wp2_with fail
      go_ret
      exact ⟨by rw [HF.out]; rfl, HX.out.trans HX2.out, _, HV.out.ext HX2.out, fun h => by rw [HF.out] at h; cases h⟩
    | true =>
      have HS := Lib.hid hs; clear hs
      obtain ⟨a, cap, rfl⟩ := SliceAt.shape HK.out
      have hlen : ks.length ≤ 9223372036854775807 := SliceAt.len_le HK.out
      go_enter Tryz.func71, Tryz.ntmps71
      go_wp2_with fail
      refine (shaped_any _ _ _ _ (hE.ext HX.out) (hM.ext HX.out)).mono ?_
      rintro e w1 ⟨rfl, hx2⟩
      simp only [E.op_mk, E.wd_mk, E.n_mk, E.kids_mk, HS.out]
      have hx3 := HX.out.trans hx2
      have g3 := hx3.cell h3
      have hv3 := HV.out.ext hx2
      have HX3 := Lib.hid hx3; have HV3 := Lib.hid hv3; clear hx2 hx3 hv3
      go_wp2_with fail
      go_loopw [7, 26] (fun _ i wr => ∃ k : Nat, k ≤ ks.length ∧ i = .int .i64 k ∧ VLoop w0 C V c dp ks k wr) (fun _ i _ => ks.length - (intOf i).toNat)
      case atStart => exact ⟨0, Nat.zero_le _, rfl, HX3.out, by simpa [sizeAll] using HV3.out, by simpa [sizeAll] using a1', by simp [deepAll]⟩
      case round =>
        obtain ⟨k, hk, rfl, hl⟩ := hrel
        obtain ⟨l1, l2, l3, l4⟩ := hl
        have q3 := l1.cell h3
        have q4 := l2.2.2
        by_cases hlt : k < ks.length
        · rcases HK.out with ⟨_, e⟩ | ⟨b', o', cap', e, _, hk'⟩
          · rw [e] at hlt; simp at hlt
          cases e
          have hke := hk' k hlt
          have HKE := Lib.hid hke; have HL1 := Lib.hid l1; have HL2 := Lib.hid l2; have HL4 := Lib.hid l4
          clear hk' hke l1 l2 l4
          have hin : ks[k] ∈ ks := List.getElem_mem hlt
          have hsz : ks[k].size ≤ N := by have := size_kid (op := op) (wd := wd) (n := n) hin; omega
          have dw : IntKind.i64.wrap (dp + 1) = dp + 1 := IntWalk.i64_in _ (by omega)
          go_wp2_with fail
          go_region_held3 (fun w' => w'.cell? ⟨b, o + 3, none⟩ = some (.slice (some ⟨b', o', none⟩) ks.length cap) ∧ w'.cell? ⟨V, 0, none⟩ = some (.func (.func 71) #[] #[.pointer (some ⟨C, 0, none⟩), .pointer (some ⟨V, 0, none⟩)]))
            (first | exact ⟨q3, q4⟩ | (obtain ⟨y1, y2, y3, y4⟩ := ‹VPost w0 C V _ _ _ _›; exact ⟨y1.cell h3, y3.2.2⟩))
            ((go_at_call 71; refine (IH.out ks[k] _ b' (o' + k * 4) (c + 1 + sizeAll (ks.take k)) (dp + 1) hsz HKE.out (HL1.out.drew) (HL2.out) (by omega) (by omega) (by omega) (by omega)).mono ?_; rintro e w2 ⟨rfl, hp⟩))
          obtain ⟨p1, c', p2, p3⟩ := hp
          cases hb : visitB (c + 1 + sizeAll (ks.take k)) ks[k] (dp + 1) with
          | false =>
            have HF := Lib.hid (visitB_kid (op := op) (wd := wd) (n := n) hlt hb)
            have P1 := Lib.hid p1; have P2 := Lib.hid p2
            clear p1 p2 p3 hb dw
            go_wp2_with fail
            go_ret
            exact ⟨by rw [HF.out]; rfl, P1.out, _, P2.out, fun h => by rw [HF.out] at h; cases h⟩
          | true =>
            obtain ⟨t1, t2⟩ := visitB_true hb
            have ec := p3 hb
            have hstep : VLoop w0 C V c dp ks (k + 1) w2 := by
              refine ⟨p1, ?_, ?_, ?_⟩
              · rw [sizeAll_take_succ hlt, Int.natCast_add, ← Int.add_assoc, ← ec]; exact p2
              · rw [sizeAll_take_succ hlt, Int.natCast_add]; omega
              · rw [List.take_succ_eq_append_getElem hlt, deepAll_iff]
                intro x hx
                rcases List.mem_append.1 hx with hx | hx
                · exact (deepAll_iff _ _).1 HL4.out x hx
                · simp at hx; subst hx; rw [show (40 - dp).toNat = (41 - (dp + 1)).toNat by omega]; exact t2
            have HS1 := Lib.hid hstep
            clear hstep p1 p2 p3 ec hb t1 t2 dw
            go_wp2_with fail
            go_roundw
            case rel => exact ⟨k + 1, by omega, by go_num, HS1.out⟩
            case measure => simp [intOf]; omega
        · have hkl : k = ks.length := by omega
          have HF : Hid (visitB c (.mk op wd n ks) dp = true) := by
            refine visitB_all HS.out a2' ?_ ?_
            · rw [hkl, List.take_length] at l3; exact l3
            · rw [hkl, List.take_length] at l4; exact l4
          have HL1 := Lib.hid l1
          have HL2 : Hid (VEnv wr C V (c + (E.mk op wd n ks).size)) := by
            rw [hkl, List.take_length] at l2
            have : c + ((E.mk op wd n ks).size : Int) = c + 1 + sizeAll ks := by simp only [E.size, Int.natCast_add]; omega
            rw [this]; exact l2
          clear l1 l2 l3 l4 hkl
          go_wp2_with fail
          go_ret
          exact ⟨by rw [HF.out]; rfl, HL1.out, _, HL2.out, fun _ => rfl⟩

theorem visitB_top (e : E) : visitB 0 e 1 = e.wf := by
  have h : decide ((0 : Int) + (e.size : Int) ≤ 600) = decide (e.size ≤ 600) := by
    rw [Bool.eq_iff_iff]; simp only [decide_eq_true_eq]; omega
  simp only [visitB, E.wf, h]
  rfl

set_option maxHeartbeats 1000000 in
theorem wellFormed_any (e : E) (v : Value) (w : World) (he : EVal w v e) (hM : Masks w) :
    Calls Tryz.prog 41 #[v] w fun r w' => r = .returned (.bool e.wf) ∧ Ext w w' := by
  obtain ⟨k, rfl, hk⟩ := he
  have hE := IsE.box (w := w) (e := e) (t := 25) hk
  have HW := Lib.hid (visitB_top e)
  generalize hw0 : w.alloc (.cells #[.int .i64 e.op, .int .i64 e.wd, .int .i64 e.n, k] 25) = w0 at hE
  have hx0 : Ext w w0 := by rw [← hw0]; exact (Ext.refl w).alloc _
  have hs0 : w0.heap.size = w.heap.size + 1 := by rw [← hw0]; simp
  have H0 := Lib.hid hw0; have HX0 := Lib.hid hx0; have HS0 := Lib.hid hs0; have HE := Lib.hid hE
  clear hw0 hx0 hs0 hE
  go_enter Tryz.func41, Tryz.ntmps41
  go_wp2_with fail
  rw [H0.out]
  have e1 : w.heap.size + 1 = w0.heap.size := HS0.out.symm
  rw [e1]
  refine (visit_any w0 w0.heap.size (w0.heap.size + 1) (Nat.le_refl _) (by omega) (hM.ext HX0.out) e.size e _ _ _ 0 1 (Nat.le_refl _) HE.out (((Ext.refl w0).alloc _).alloc _) ?_ (by decide) (by decide) (by decide) (by decide)).mono ?_
  · refine ⟨?_, ?_, ?_⟩ <;> simp
  rintro r w1 ⟨rfl, p1, _⟩
  rw [HW.out]
  have P1 := Lib.hid p1
  clear p1 e1
  go_wp2_with fail
  go_ret
  exact ⟨rfl, HX0.out.trans P1.out⟩
end Go.Proofs.YtlcgbdjmlnjhcaaGreatDoor
namespace Go.Proofs.YtlcgbdjmlnjhcaaGreatDoor
open Go.RowKit

theorem wf_deep {e : E} (h : e.wf = true) : e.deep 40 = true := by
  simp only [E.wf, Bool.and_eq_true] at h; exact h.2

/-- Eval's answer. -/
def E.eval (e : E) (old now : List Int) : Int := if e.wf then e.val old now else 0

set_option maxHeartbeats 1000000 in
theorem Eval_any (e : E) (v vo vn : Value) (old now : List Int) (w : World) (he : EVal w v e) (hO : Ints w vo old) (hN : Ints w vn now) (hM : Masks w) :
    Calls Tryz.prog 20 #[v, vo, vn] w fun r w' => r = .returned (.int .i64 (e.eval old now)) ∧ Ext w w' := by
  obtain ⟨k, rfl, hk⟩ := he
  have hE := IsE.box (w := w) (e := e) (t := 25) hk
  have hx0 : Ext w (w.alloc (.cells #[.int .i64 e.op, .int .i64 e.wd, .int .i64 e.n, k] 25)) := (Ext.refl w).alloc _
  have hv0 : EVal (w.alloc (.cells #[.int .i64 e.op, .int .i64 e.wd, .int .i64 e.n, k] 25)) (.agg #[.int .i64 e.op, .int .i64 e.wd, .int .i64 e.n, k]) e := ⟨k, rfl, hk.ext hx0⟩
  have HX0 := Lib.hid hx0; have HE := Lib.hid hE; have HV0 := Lib.hid hv0
  clear hx0 hE hv0
  cases hw : e.wf with
  | false =>
    have HW := Lib.hid hw; clear hw
    go_enter Tryz.func20, Tryz.ntmps20
    go_wp2_with fail
    refine (wellFormed_any e _ _ HV0.out (hM.ext HX0.out)).mono ?_
    rintro r w1 ⟨rfl, hx1⟩
    rw [HW.out]
    have HX1 := Lib.hid hx1; clear hx1
    go_wp2_with fail
    go_ret
    exact ⟨by simp only [E.eval, HW.out]; rfl, HX0.out.trans HX1.out⟩
  | true =>
    have HW := Lib.hid hw; clear hw
    go_enter Tryz.func20, Tryz.ntmps20
    go_wp2_with fail
    refine (wellFormed_any e _ _ HV0.out (hM.ext HX0.out)).mono ?_
    rintro r w1 ⟨rfl, hx1⟩
    rw [HW.out]
    have hx := HX0.out.trans hx1
    have HX := Lib.hid hx; have HE1 := Lib.hid (HE.out.ext hx1); clear hx1 hx
    go_wp2_with fail
    refine (value_any old now vo vn e.size e _ _ _ 40 (Nat.le_refl _) HE1.out (wf_deep HW.out) (hO.ext HX.out) (hN.ext HX.out) (hM.ext HX.out)).mono ?_
    rintro r w2 ⟨rfl, hx2⟩
    have HX2 := Lib.hid hx2; clear hx2
    go_wp2_with fail
    go_ret
    exact ⟨by simp only [E.eval, HW.out]; rfl, HX.out.trans HX2.out⟩
end Go.Proofs.YtlcgbdjmlnjhcaaGreatDoor
namespace Go.Proofs.YtlcgbdjmlnjhcaaGreatDoor
open Go.RowKit

mutual
/-- The nodes without kids, from left to right. -/
def E.leaves : E → List E
  | .mk op wd n ks => if ks = [] then [.mk op wd n ks] else leavesAll ks
def leavesAll : List E → List E
  | [] => []
  | e :: r => e.leaves ++ leavesAll r
end
theorem leavesAll_take_succ {ks : List E} {k : Nat} (h : k < ks.length) : leavesAll (ks.take (k + 1)) = leavesAll (ks.take k) ++ ks[k].leaves := by
  induction ks generalizing k with
  | nil => simp at h
  | cons e r ih =>
    cases k with
    | zero => simp [leavesAll]
    | succ k => simp only [List.take_succ_cons, leavesAll, List.getElem_cons_succ, ih (by simpa using h), List.append_assoc]
theorem mem_leavesAll {ks : List E} {x : E} : x ∈ leavesAll ks ↔ ∃ k ∈ ks, x ∈ k.leaves := by
  induction ks with
  | nil => simp [leavesAll]
  | cons e r ih => simp [leavesAll, ih]
theorem leaves_nil {op wd n : Int} : (E.mk op wd n []).leaves = [.mk op wd n []] := by simp [E.leaves]
theorem leaves_cons {op wd n : Int} {ks : List E} (h : ks ≠ []) : (E.mk op wd n ks).leaves = leavesAll ks := by simp [E.leaves, h]

/-- The kids' slice at an index. -/
theorem IsE.kid {w : World} {b o : Nat} {op wd n : Int} {ks : List E} (hE : IsE w b o (.mk op wd n ks)) (hne : ks ≠ []) : ∃ b' o' cap, w.cell? ⟨b, o + 3, none⟩ = some (.slice (some ⟨b', o', none⟩) ks.length cap) ∧ ks.length ≤ 9223372036854775807 ∧ ∀ (i : Nat) (h : i < ks.length), IsE w b' (o' + i * 4) ks[i] := by
  cases hE with
  | leaf _ _ _ _ => exact absurd rfl hne
  | node _ _ _ h3 hl hk => exact ⟨_, _, _, h3, hl, hk⟩

set_option maxHeartbeats 1000000 in
theorem leaves_valid (w0 : World) (A : Nat) (B : Nat) (G : Nat) (Q : E → Prop) (Inv : World → List E → Prop)
    (hκ : ∀ (x : E) (w : World) (b o : Nat) (acc : List E), Q x → IsE w0 b o x → Ext w0 w → Inv w acc →
      Calls Tryz.prog 43 #[.pointer (some ⟨b, o, none⟩), .pointer (some ⟨A, 0, none⟩), .pointer (some ⟨B, 0, none⟩), .pointer (some ⟨G, 0, none⟩)] w fun r w' => r = .returned (.tuple #[]) ∧ Ext w0 w' ∧ Inv w' (acc ++ [x])) (N : Nat) :
    ∀ (e : E) (w : World) (b o : Nat) (acc : List E), e.size ≤ N → (∀ x ∈ e.leaves, Q x) → IsE w0 b o e → Ext w0 w → Inv w acc →
      Calls Tryz.prog 42 #[.pointer (some ⟨b, o, none⟩), .func (.func 43) #[] #[.pointer (some ⟨A, 0, none⟩), .pointer (some ⟨B, 0, none⟩), .pointer (some ⟨G, 0, none⟩)]] w fun r w' => r = .returned (.tuple #[]) ∧ Ext w0 w' ∧ Inv w' (acc ++ e.leaves) := by
  have HC := Lib.hid hκ; clear hκ
  induction N with
  | zero => intro e w b o acc h; have := e.size_pos; omega
  | succ N ih =>
    intro e w b o acc hN hQ hE hx hI
    have IH := Lib.hid ih; have HI := Lib.hid hI; have HQ := Lib.hid hQ
    clear ih hI hQ
    obtain ⟨op, wd, n, ks⟩ := e
    by_cases hks : ks = []
    · subst hks
      obtain ⟨_, _, _, kv, h3, hk⟩ := hE.cells
      obtain ⟨a, cap, rfl⟩ := SliceAt.shape hk
      have g3 := hx.cell h3
      simp only [E.kids_mk, List.length_nil] at g3
      have HX := Lib.hid hx; clear hx hk
      go_enter Tryz.func42, Tryz.ntmps42
      go_wp2_with fail
      refine (HC.out _ _ b o acc (HQ.out _ (by rw [leaves_nil]; simp)) hE HX.out HI.out).mono ?_
      rintro r w1 ⟨rfl, hx1, hI1⟩
      have q3 := hx1.cell h3
      simp only [E.kids_mk, List.length_nil] at q3
      have HX1 := Lib.hid hx1; have HI1 := Lib.hid hI1; clear hx1 hI1
      go_wp2_with fail
      refine wp_loop_rounds 1 ?_
      rw [rounds_succ]
      go_wp2_with fail
      go_end0
      exact ⟨rfl, HX1.out, by rw [leaves_nil]; exact HI1.out⟩
    · obtain ⟨b', o', cap, h3, hlen, hk⟩ := hE.kid hks
      have g3 := hx.cell h3
      have hne : (((ks.length : Nat) : Int) == 0) = false := by
        rw [beq_eq_false_iff_ne]; intro h; exact hks (List.length_eq_zero_iff.1 (by omega))
      have HX := Lib.hid hx; have HK := Lib.hid hk; have HNE := Lib.hid hks; clear hx hk hks
      go_enter Tryz.func42, Tryz.ntmps42
      go_wp2_with fail
      go_loopw [4, 19] (fun _ i wr => ∃ k : Nat, k ≤ ks.length ∧ i = .int .i64 k ∧ Ext w0 wr ∧ Inv wr (acc ++ leavesAll (ks.take k))) (fun _ i _ => ks.length - (intOf i).toNat)
      case atStart => exact ⟨0, Nat.zero_le _, rfl, HX.out, by simpa [leavesAll] using HI.out⟩
      case round =>
        obtain ⟨k, hk, rfl, l1, l2⟩ := hrel
        have q3 := l1.cell h3
        have HL1 := Lib.hid l1; have HL2 := Lib.hid l2; clear l1 l2
        by_cases hlt : k < ks.length
        · have hin : ks[k] ∈ ks := List.getElem_mem hlt
          have hsz : ks[k].size ≤ N := by have := size_kid (op := op) (wd := wd) (n := n) hin; omega
          go_wp2_with fail
          refine (IH.out ks[k] _ b' (o' + k * 4) _ hsz (fun x hx => HQ.out x (by rw [leaves_cons HNE.out]; exact mem_leavesAll.2 ⟨_, hin, hx⟩)) (HK.out k hlt) HL1.out HL2.out).mono ?_
          rintro r w1 ⟨rfl, hx1, hI1⟩
          have HX1 := Lib.hid hx1; have HI1 := Lib.hid hI1; clear hx1 hI1
          go_wp2_with fail
          go_roundw
          case rel => exact ⟨k + 1, by omega, by go_num, HX1.out, by rw [leavesAll_take_succ hlt, ← List.append_assoc]; exact HI1.out⟩
          case measure => simp [intOf]; omega
        · have hkl : k = ks.length := by omega
          have HF : Hid (Inv wr (acc ++ (E.mk op wd n ks).leaves)) := by have := HL2.out; rw [hkl, List.take_length] at this; rw [leaves_cons HNE.out]; exact this
          clear hkl
          go_wp2_with fail
          go_end0
          exact ⟨rfl, HL1.out, HF.out⟩

set_option maxHeartbeats 1000000 in
theorem leaves_support (w0 : World) (A : Nat) (B : Nat) (Q : E → Prop) (Inv : World → List E → Prop)
    (hκ : ∀ (x : E) (w : World) (b o : Nat) (acc : List E), Q x → IsE w0 b o x → Ext w0 w → Inv w acc →
      Calls Tryz.prog 87 #[.pointer (some ⟨b, o, none⟩), .pointer (some ⟨A, 0, none⟩), .pointer (some ⟨B, 0, none⟩)] w fun r w' => r = .returned (.tuple #[]) ∧ Ext w0 w' ∧ Inv w' (acc ++ [x])) (N : Nat) :
    ∀ (e : E) (w : World) (b o : Nat) (acc : List E), e.size ≤ N → (∀ x ∈ e.leaves, Q x) → IsE w0 b o e → Ext w0 w → Inv w acc →
      Calls Tryz.prog 42 #[.pointer (some ⟨b, o, none⟩), .func (.func 87) #[] #[.pointer (some ⟨A, 0, none⟩), .pointer (some ⟨B, 0, none⟩)]] w fun r w' => r = .returned (.tuple #[]) ∧ Ext w0 w' ∧ Inv w' (acc ++ e.leaves) := by
  have HC := Lib.hid hκ; clear hκ
  induction N with
  | zero => intro e w b o acc h; have := e.size_pos; omega
  | succ N ih =>
    intro e w b o acc hN hQ hE hx hI
    have IH := Lib.hid ih; have HI := Lib.hid hI; have HQ := Lib.hid hQ
    clear ih hI hQ
    obtain ⟨op, wd, n, ks⟩ := e
    by_cases hks : ks = []
    · subst hks
      obtain ⟨_, _, _, kv, h3, hk⟩ := hE.cells
      obtain ⟨a, cap, rfl⟩ := SliceAt.shape hk
      have g3 := hx.cell h3
      simp only [E.kids_mk, List.length_nil] at g3
      have HX := Lib.hid hx; clear hx hk
      go_enter Tryz.func42, Tryz.ntmps42
      go_wp2_with fail
      refine (HC.out _ _ b o acc (HQ.out _ (by rw [leaves_nil]; simp)) hE HX.out HI.out).mono ?_
      rintro r w1 ⟨rfl, hx1, hI1⟩
      have q3 := hx1.cell h3
      simp only [E.kids_mk, List.length_nil] at q3
      have HX1 := Lib.hid hx1; have HI1 := Lib.hid hI1; clear hx1 hI1
      go_wp2_with fail
      refine wp_loop_rounds 1 ?_
      rw [rounds_succ]
      go_wp2_with fail
      go_end0
      exact ⟨rfl, HX1.out, by rw [leaves_nil]; exact HI1.out⟩
    · obtain ⟨b', o', cap, h3, hlen, hk⟩ := hE.kid hks
      have g3 := hx.cell h3
      have hne : (((ks.length : Nat) : Int) == 0) = false := by
        rw [beq_eq_false_iff_ne]; intro h; exact hks (List.length_eq_zero_iff.1 (by omega))
      have HX := Lib.hid hx; have HK := Lib.hid hk; have HNE := Lib.hid hks; clear hx hk hks
      go_enter Tryz.func42, Tryz.ntmps42
      go_wp2_with fail
      go_loopw [4, 19] (fun _ i wr => ∃ k : Nat, k ≤ ks.length ∧ i = .int .i64 k ∧ Ext w0 wr ∧ Inv wr (acc ++ leavesAll (ks.take k))) (fun _ i _ => ks.length - (intOf i).toNat)
      case atStart => exact ⟨0, Nat.zero_le _, rfl, HX.out, by simpa [leavesAll] using HI.out⟩
      case round =>
        obtain ⟨k, hk, rfl, l1, l2⟩ := hrel
        have q3 := l1.cell h3
        have HL1 := Lib.hid l1; have HL2 := Lib.hid l2; clear l1 l2
        by_cases hlt : k < ks.length
        · have hin : ks[k] ∈ ks := List.getElem_mem hlt
          have hsz : ks[k].size ≤ N := by have := size_kid (op := op) (wd := wd) (n := n) hin; omega
          go_wp2_with fail
          refine (IH.out ks[k] _ b' (o' + k * 4) _ hsz (fun x hx => HQ.out x (by rw [leaves_cons HNE.out]; exact mem_leavesAll.2 ⟨_, hin, hx⟩)) (HK.out k hlt) HL1.out HL2.out).mono ?_
          rintro r w1 ⟨rfl, hx1, hI1⟩
          have HX1 := Lib.hid hx1; have HI1 := Lib.hid hI1; clear hx1 hI1
          go_wp2_with fail
          go_roundw
          case rel => exact ⟨k + 1, by omega, by go_num, HX1.out, by rw [leavesAll_take_succ hlt, ← List.append_assoc]; exact HI1.out⟩
          case measure => simp [intOf]; omega
        · have hkl : k = ks.length := by omega
          have HF : Hid (Inv wr (acc ++ (E.mk op wd n ks).leaves)) := by have := HL2.out; rw [hkl, List.take_length] at this; rw [leaves_cons HNE.out]; exact this
          clear hkl
          go_wp2_with fail
          go_end0
          exact ⟨rfl, HL1.out, HF.out⟩
end Go.Proofs.YtlcgbdjmlnjhcaaGreatDoor
