/-
  The walk of wellFormed.
  The walks of strings.Builder's copyCheck and WriteString at this translation (after the shelf's own proofs, whose closure is another one).
  What Text computes; the walks of letter and Itoa; a builder in a world that grows.
  The walks of the reference's Power, Size, Small (XRef1 without arity).
-/
import Derived.Test.YtoopoljchhdobaaGreatDoorMMe
import Derived.Laws.EntriesVeiled
import Derived.Shelf.Strings.BuilderK
import Derived.Test.YtoopoljchhdobaaGreatDoorShelf
import Derived.Lib.ItoaLen
import Derived.Test.YtoopoljchhdobaaGreatDoorMMc
namespace Go.Proofs.YtoopoljchhdobaaGreatDoor
open Go.RowKit

/-- An expression by value, boxed. -/
theorem IsE.box {w : World} {e : E} {k : Value} {t : TypeId} (hk : Kids w k e.kids) : IsE (w.alloc (.cells #[.int .i64 e.op, .int .i64 e.wd, .int .i64 e.n, k] t)) w.heap.size 0 e :=
  IsE.of_cells (v := k) (by simp) (by simp) (by simp) (by simp) (hk.ext ((Ext.refl w).alloc _))

/-- What visit finds in its two captured variables. -/
def VEnv (w : World) (C V : Nat) (c : Int) : Prop :=
  w.cell? ⟨C, 0, none⟩ = some (.int .i64 c) ∧ w.frozen? ⟨C, 0, none⟩ = false ∧ w.cell? ⟨V, 0, none⟩ = some (.func (.func 44) #[] #[.pointer (some ⟨C, 0, none⟩), .pointer (some ⟨V, 0, none⟩)])
theorem VEnv.ext {w w' : World} {C V : Nat} {c : Int} (h : VEnv w C V c) (he : Ext w w') : VEnv w' C V c :=
  ⟨he.cell h.1, by rw [he.frozenEq (block_lt h.1)]; exact h.2.1, he.cell h.2.2⟩
theorem VEnv.set {w : World} {C V : Nat} {c : Int} (h : VEnv w C V c) (hCV : C ≠ V) (x : Int) : VEnv (w.setCell ⟨C, 0, none⟩ (.int .i64 x)) C V x :=
  ⟨World.cell?_setCell_same _ _ _ h.1, by rw [World.frozen?_setCell]; exact h.2.1, by rw [World.cell?_setCell_other _ _ _ _ (by intro e; cases e; exact hCV rfl)]; exact h.2.2⟩

/-- visit's answer. -/
def visitB (c : Int) (e : E) (dp : Int) : Bool := decide (c + e.size ≤ 600) && e.deep (41 - dp).toNat
/-- What visit leaves: the two variables; the number of nodes, where it answered yes. -/
def VPost (w0 : World) (C V : Nat) (c : Int) (e : E) (dp : Int) (w' : World) : Prop :=
  Ext w0 w' ∧ ∃ c', VEnv w' C V c' ∧ (visitB c e dp = true → c' = c + e.size)

theorem sizeAll_take_succ {ks : List E} {k : Nat} (h : k < ks.length) : sizeAll (ks.take (k + 1)) = sizeAll (ks.take k) + ks[k].size := by
  rw [sizeAll_eq, sizeAll_eq, List.take_succ_eq_append_getElem h, List.map_append, List.sum_append]; simp
theorem sizeAll_take_le (ks : List E) (k : Nat) : sizeAll (ks.take k) ≤ sizeAll ks := by
  induction ks generalizing k with
  | nil => simp
  | cons e r ih =>
    cases k with
    | zero => simp [sizeAll]
    | succ k => simp only [List.take_succ_cons, sizeAll]; have := ih k; omega

theorem visitB_true {c : Int} {e : E} {dp : Int} (h : visitB c e dp = true) : c + e.size ≤ 600 ∧ e.deep (41 - dp).toNat = true := by
  simpa [visitB] using h
theorem visitB_mk {c : Int} {op wd n : Int} {ks : List E} {dp : Int} (h : visitB c (.mk op wd n ks) dp = true) : c + 1 + sizeAll ks ≤ 600 ∧ dp ≤ 40 ∧ shapedW op wd n (ks.map E.wd) = true ∧ deepAll ks (40 - dp).toNat = true := by
  obtain ⟨h1, h2⟩ := visitB_true h
  simp only [E.size, Int.natCast_add] at h1
  simp only [E.deep, Bool.and_eq_true, decide_eq_true_eq] at h2
  obtain ⟨⟨a, b⟩, d⟩ := h2
  rw [show (41 - dp).toNat - 1 = (40 - dp).toNat by omega] at d
  exact ⟨by omega, by omega, b, d⟩
theorem visitB_leaf {c : Int} {op wd n : Int} {ks : List E} {dp : Int} (h : 600 < c + 1 ∨ 40 < dp ∨ shapedW op wd n (ks.map E.wd) = false) : visitB c (.mk op wd n ks) dp = false := by
  cases hB : visitB c (.mk op wd n ks) dp with
  | false => rfl
  | true =>
    obtain ⟨h1, h2, h3, h4⟩ := visitB_mk hB
    rcases h with h | h | h
    · omega
    · omega
    · rw [h] at h3; cases h3
theorem visitB_kid {c : Int} {op wd n : Int} {ks : List E} {dp : Int} {k : Nat} (hk : k < ks.length) (h : visitB (c + 1 + sizeAll (ks.take k)) ks[k] (dp + 1) = false) : visitB c (.mk op wd n ks) dp = false := by
  cases hB : visitB c (.mk op wd n ks) dp with
  | false => rfl
  | true =>
    obtain ⟨h1, h2, h3, h4⟩ := visitB_mk hB
    have e1 := sizeAll_take_succ hk
    have e2 := sizeAll_take_le ks (k + 1)
    have e3 := (deepAll_iff _ _).1 h4 _ (List.getElem_mem hk)
    have : visitB (c + 1 + sizeAll (ks.take k)) ks[k] (dp + 1) = true := by
      simp only [visitB, Bool.and_eq_true, decide_eq_true_eq]
      rw [show (41 - (dp + 1)).toNat = (40 - dp).toNat by omega]
      exact ⟨by omega, e3⟩
    rw [this] at h; cases h
theorem visitB_all {c : Int} {op wd n : Int} {ks : List E} {dp : Int} (hs : shapedW op wd n (ks.map E.wd) = true) (hdp : dp ≤ 40) (hc : c + 1 + sizeAll ks ≤ 600) (hd : deepAll ks (40 - dp).toNat = true) : visitB c (.mk op wd n ks) dp = true := by
  have h1 : c + (E.mk op wd n ks).size ≤ 600 := by simp only [E.size, Int.natCast_add]; omega
  have h2 : (E.mk op wd n ks).deep (41 - dp).toNat = true := by
    simp only [E.deep, Bool.and_eq_true, decide_eq_true_eq]
    refine ⟨⟨by omega, hs⟩, ?_⟩
    rw [show (41 - dp).toNat - 1 = (40 - dp).toNat by omega]; exact hd
  simp [visitB, h1, h2]

/-- What holds when visit has come through k kids. -/
def VLoop (w0 : World) (C V : Nat) (c dp : Int) (ks : List E) (k : Nat) (wr : World) : Prop :=
  Ext w0 wr ∧ VEnv wr C V (c + 1 + sizeAll (ks.take k)) ∧ c + 1 + sizeAll (ks.take k) ≤ 600 ∧ deepAll (ks.take k) (40 - dp).toNat = true

set_option maxHeartbeats 1000000 in
theorem visit_any (w0 : World) (C V : Nat) (hC : w0.heap.size ≤ C) (hCV : C ≠ V) (hM : Masks w0) (N : Nat) : ∀ (e : E) (w : World) (b o : Nat) (c dp : Int), e.size ≤ N → IsE w0 b o e → Ext w0 w → VEnv w C V c → 0 ≤ c → c ≤ 600 → 1 ≤ dp → dp ≤ 41 →
    Calls Tryz.prog 44 #[.pointer (some ⟨b, o, none⟩), .int .i64 dp, .pointer (some ⟨C, 0, none⟩), .pointer (some ⟨V, 0, none⟩)] w fun r w' => r = .returned (.bool (visitB c e dp)) ∧ VPost w0 C V c e dp w' := by
  induction N with
  | zero => intro e w b o c dp h; have := e.size_pos; omega
  | succ N ih =>
    intro e w b o c dp hN hE hx hv hc0 hc6 hd1 hd41
    obtain ⟨h0, h1, h2, kv, h3, hk⟩ := hE.cells
    obtain ⟨op, wd, n, ks⟩ := e
    simp only [E.op_mk, E.wd_mk, E.n_mk, E.kids_mk] at h0 h1 h2 hk
    have hv1 := hv.set hCV (c + 1)
    have hx1 : Ext w0 (w.setCell ⟨C, 0, none⟩ (.int .i64 (c + 1))) := hx.setCell hC _
    obtain ⟨v1, v2, v3⟩ := hv
    by_cases a1 : 600 < c + 1
    · have hf := visitB_leaf (op := op) (wd := wd) (n := n) (ks := ks) (dp := dp) (.inl a1)
      have HF := Lib.hid hf; have HV := Lib.hid hv1; have HX := Lib.hid hx1
      clear hf hv1 hx1 ih hk
      go_enter Tryz.func44, Tryz.ntmps44
      go_wp2_with fail
      go_ret
      exact ⟨by rw [HF.out]; rfl, HX.out, _, HV.out, fun h => by rw [HF.out] at h; cases h⟩
    by_cases a2 : 40 < dp
    · have hf := visitB_leaf (c := c) (op := op) (wd := wd) (n := n) (ks := ks) (.inr (.inl a2))
      have HF := Lib.hid hf; have HV := Lib.hid hv1; have HX := Lib.hid hx1
      clear hf hv1 hx1 ih hk
      go_enter Tryz.func44, Tryz.ntmps44
      go_wp2_with fail
      go_ret
      exact ⟨by rw [HF.out]; rfl, HX.out, _, HV.out, fun h => by rw [HF.out] at h; cases h⟩
    have a1' : c + 1 ≤ 600 := by omega
    have a2' : dp ≤ 40 := by omega
    have IH := Lib.hid ih; have HK := Lib.hid hk; have HV := Lib.hid hv1; have HX := Lib.hid hx1
    clear a1 a2 ih hk hv1 hx1
    cases hs : shapedW op wd n (ks.map E.wd) with
    | false =>
      have HF := Lib.hid (visitB_leaf (c := c) (dp := dp) (.inr (.inr hs)))
      have HS := Lib.hid hs; clear hs
      go_enter Tryz.func44, Tryz.ntmps44
      go_wp2_with fail
      refine (shaped_any _ _ _ _ (hE.ext HX.out) (hM.ext HX.out)).mono ?_
      rintro e w1 ⟨rfl, hx2⟩
      simp only [E.op_mk, E.wd_mk, E.n_mk, E.kids_mk, HS.out]
      have HX2 := Lib.hid hx2; clear hx2
      go_wp2_with fail
      go_ret
      exact ⟨by rw [HF.out]; rfl, HX.out.trans HX2.out, _, HV.out.ext HX2.out, fun h => by rw [HF.out] at h; cases h⟩
    | true =>
      have HS := Lib.hid hs; clear hs
      obtain ⟨a, cap, rfl⟩ := SliceAt.shape HK.out
      have hlen : ks.length ≤ 9223372036854775807 := SliceAt.len_le HK.out
      go_enter Tryz.func44, Tryz.ntmps44
      go_wp2_with fail
      refine (shaped_any _ _ _ _ (hE.ext HX.out) (hM.ext HX.out)).mono ?_
      rintro e w1 ⟨rfl, hx2⟩
      simp only [E.op_mk, E.wd_mk, E.n_mk, E.kids_mk, HS.out]
      have hx3 := HX.out.trans hx2
      have g3 := hx3.cell h3
      have hv3 := HV.out.ext hx2
      have HX3 := Lib.hid hx3; have HV3 := Lib.hid hv3; clear hx2 hx3 hv3
      go_wp2_with fail
      go_loopw [7, 26] (fun _ i wr => ∃ k : Nat, k ≤ ks.length ∧ i = .int .i64 k ∧ VLoop w0 C V c dp ks k wr) (fun _ i _ => ks.length - (intOf i).toNat)
      case atStart => exact ⟨0, Nat.zero_le _, rfl, HX3.out, by simpa [sizeAll] using HV3.out, by simpa [sizeAll] using a1', by simp [deepAll]⟩
      case round =>
        obtain ⟨k, hk, rfl, hl⟩ := hrel
        obtain ⟨l1, l2, l3, l4⟩ := hl
        have q3 := l1.cell h3
        have q4 := l2.2.2
        by_cases hlt : k < ks.length
        · rcases HK.out with ⟨_, e⟩ | ⟨b', o', cap', e, _, hk'⟩
          · rw [e] at hlt; simp at hlt
          cases e
          have hke := hk' k hlt
          have HKE := Lib.hid hke; have HL1 := Lib.hid l1; have HL2 := Lib.hid l2; have HL4 := Lib.hid l4
          clear hk' hke l1 l2 l4
          have hin : ks[k] ∈ ks := List.getElem_mem hlt
          have hsz : ks[k].size ≤ N := by have := size_kid (op := op) (wd := wd) (n := n) hin; omega
          have dw : IntKind.i64.wrap (dp + 1) = dp + 1 := IntWalk.i64_in _ (by omega)
          go_wp2_with fail
          go_region_held3 (fun w' => w'.cell? ⟨b, o + 3, none⟩ = some (.slice (some ⟨b', o', none⟩) ks.length cap) ∧ w'.cell? ⟨V, 0, none⟩ = some (.func (.func 44) #[] #[.pointer (some ⟨C, 0, none⟩), .pointer (some ⟨V, 0, none⟩)]))
            (first | exact ⟨q3, q4⟩ | (obtain ⟨y1, y2, y3, y4⟩ := ‹VPost w0 C V _ _ _ _›; exact ⟨y1.cell h3, y3.2.2⟩))
            ((go_at_call 44; refine (IH.out ks[k] _ b' (o' + k * 4) (c + 1 + sizeAll (ks.take k)) (dp + 1) hsz HKE.out (HL1.out.drew) (HL2.out) (by omega) (by omega) (by omega) (by omega)).mono ?_; rintro e w2 ⟨rfl, hp⟩))
          obtain ⟨p1, c', p2, p3⟩ := hp
          cases hb : visitB (c + 1 + sizeAll (ks.take k)) ks[k] (dp + 1) with
          | false =>
            have HF := Lib.hid (visitB_kid (op := op) (wd := wd) (n := n) hlt hb)
            have P1 := Lib.hid p1; have P2 := Lib.hid p2
            clear p1 p2 p3 hb dw
            go_wp2_with fail
            go_ret
            exact ⟨by rw [HF.out]; rfl, P1.out, _, P2.out, fun h => by rw [HF.out] at h; cases h⟩
          | true =>
            obtain ⟨t1, t2⟩ := visitB_true hb
            have ec := p3 hb
            have hstep : VLoop w0 C V c dp ks (k + 1) w2 := by
              refine ⟨p1, ?_, ?_, ?_⟩
              · rw [sizeAll_take_succ hlt, Int.natCast_add, ← Int.add_assoc, ← ec]; exact p2
              · rw [sizeAll_take_succ hlt, Int.natCast_add]; omega
              · rw [List.take_succ_eq_append_getElem hlt, deepAll_iff]
                intro x hx
                rcases List.mem_append.1 hx with hx | hx
                · exact (deepAll_iff _ _).1 HL4.out x hx
                · simp at hx; subst hx; rw [show (40 - dp).toNat = (41 - (dp + 1)).toNat by omega]; exact t2
            have HS1 := Lib.hid hstep
            clear hstep p1 p2 p3 ec hb t1 t2 dw
            go_wp2_with fail
            go_roundw
            case rel => exact ⟨k + 1, by omega, by go_num, HS1.out⟩
            case measure => simp [intOf]; omega
        · have hkl : k = ks.length := by omega
          have HF : Hid (visitB c (.mk op wd n ks) dp = true) := by
            refine visitB_all HS.out a2' ?_ ?_
            · rw [hkl, List.take_length] at l3; exact l3
            · rw [hkl, List.take_length] at l4; exact l4
          have HL1 := Lib.hid l1
          have HL2 : Hid (VEnv wr C V (c + (E.mk op wd n ks).size)) := by
            rw [hkl, List.take_length] at l2
            have : c + ((E.mk op wd n ks).size : Int) = c + 1 + sizeAll ks := by simp only [E.size, Int.natCast_add]; omega
            rw [this]; exact l2
          clear l1 l2 l3 l4 hkl
          go_wp2_with fail
          go_ret
          exact ⟨by rw [HF.out]; rfl, HL1.out, _, HL2.out, fun _ => rfl⟩

theorem visitB_top (e : E) : visitB 0 e 1 = e.wf := by
  have h : decide ((0 : Int) + (e.size : Int) ≤ 600) = decide (e.size ≤ 600) := by
    rw [Bool.eq_iff_iff]; simp only [decide_eq_true_eq]; omega
  simp only [visitB, E.wf, h]
  rfl

set_option maxHeartbeats 1000000 in
theorem wellFormed_any (e : E) (v : Value) (w : World) (he : EVal w v e) (hM : Masks w) :
    Calls Tryz.prog 25 #[v] w fun r w' => r = .returned (.bool e.wf) ∧ Ext w w' := by
  obtain ⟨k, rfl, hk⟩ := he
  have hE := IsE.box (w := w) (e := e) (t := 24) hk
  have HW := Lib.hid (visitB_top e)
  generalize hw0 : w.alloc (.cells #[.int .i64 e.op, .int .i64 e.wd, .int .i64 e.n, k] 24) = w0 at hE
  have hx0 : Ext w w0 := by rw [← hw0]; exact (Ext.refl w).alloc _
  have hs0 : w0.heap.size = w.heap.size + 1 := by rw [← hw0]; simp
  have H0 := Lib.hid hw0; have HX0 := Lib.hid hx0; have HS0 := Lib.hid hs0; have HE := Lib.hid hE
  clear hw0 hx0 hs0 hE
  go_enter Tryz.func25, Tryz.ntmps25
  go_wp2_with fail
  rw [H0.out]
  have e1 : w.heap.size + 1 = w0.heap.size := HS0.out.symm
  rw [e1]
  refine (visit_any w0 w0.heap.size (w0.heap.size + 1) (Nat.le_refl _) (by omega) (hM.ext HX0.out) e.size e _ _ _ 0 1 (Nat.le_refl _) HE.out (((Ext.refl w0).alloc _).alloc _) ?_ (by decide) (by decide) (by decide) (by decide)).mono ?_
  · refine ⟨?_, ?_, ?_⟩ <;> simp
  rintro r w1 ⟨rfl, p1, _⟩
  rw [HW.out]
  have P1 := Lib.hid p1
  clear p1 e1
  go_wp2_with fail
  go_ret
  exact ⟨rfl, HX0.out.trans P1.out⟩
end Go.Proofs.YtoopoljchhdobaaGreatDoor
namespace Go.Proofs.YtoopoljchhdobaaGreatDoor
open Go.RowKit

theorem sizeBuilder : (Tryz.prog.info? 65).map (·.size) = some 2 := by kernel_rfl
theorem liesBuilder : liesAt Tryz.prog Tryz.prog.depth 65 (2 / Tryz.prog.cellsOf 65) 0 65 1 = true := by kernel_rfl
theorem infoByte : (Tryz.prog.info? 5).map (fun i => (i.zero, i.size, i.bytes)) = some (some (.int .u8 0), 1, 1) := by kernel_rfl

set_option maxHeartbeats 1000000 in
set_option maxRecDepth 100000 in
theorem copyCheck_used (b : Nat) (w : World) (h0 : w.cell? ⟨b, 0, none⟩ = some (.pointer (some ⟨b, 0, none⟩))) :
    Calls Tryz.prog 46 #[.pointer (some ⟨b, 0, none⟩)] w fun e w' => e = .returned (.tuple #[]) ∧ w' = w := by
  obtain ⟨j, hj, _⟩ := Option.map_eq_some_iff.1 sizeBuilder
  go_enter Tryz.func46, Tryz.ntmps46
  go_wp2
  rw [Lib.run_neq_ptr_same w _ Tryz.underlying62 hj]
  go_wp2
  go_end0
  exact ⟨rfl, rfl⟩

set_option maxHeartbeats 1000000 in
set_option maxRecDepth 100000 in
theorem copyCheck_fresh (b : Nat) (w : World) (h0 : w.cell? ⟨b, 0, none⟩ = some (.pointer none)) (hsh : w.shape? b = some (65, 2)) (hfz : w.frozen? ⟨b, 0, none⟩ = false) :
    Calls Tryz.prog 46 #[.pointer (some ⟨b, 0, none⟩)] w fun e w' => e = .returned (.tuple #[]) ∧ w' = w.setCell ⟨b, 0, none⟩ (.pointer (some ⟨b, 0, none⟩)) := by
  obtain ⟨j, hj, hjs⟩ := Option.map_eq_some_iff.1 sizeBuilder
  go_enter Tryz.func46, Tryz.ntmps46
  go_wp2
  rw [Lib.run_to_unsafe w ⟨b, 0, none⟩ Tryz.underlying62 Tryz.underlying114 hj (by rw [hjs]; decide) hsh (Nat.zero_lt_succ 1)]
  simp only [Result.andThen]
  rw [Oper.upon_value]
  go_wp2
  rw [run_callFunc_extern Tryz.func66 (by kernel_rfl) (by kernel_rfl) (by kernel_rfl) (e := Extern.AbiNoEscape.same) (by kernel_rfl)]
  rw [Lib.run_noEscape]
  simp only [Result.andThen]
  rw [Oper.upon_value]
  go_wp2
  rw [Lib.run_from_unsafe w ⟨b, 0, none⟩ Tryz.underlying114 Tryz.underlying62 hj hsh liesBuilder]
  simp only [Result.andThen]
  rw [Oper.upon_value]
  go_wp2
  go_end0
  exact ⟨rfl, rfl⟩

theorem copyCheck_any (B b : Nat) (bs : List Value) (w : World) (h : Lib.IsBuilderF 65 5 B b bs w) :
    Calls Tryz.prog 46 #[.pointer (some ⟨b, 0, none⟩)] w fun e w' => e = .returned (.tuple #[]) ∧ (Lib.BuilderAtF 65 5 B b (.pointer (some ⟨b, 0, none⟩)) bs w' ∧ Below B w w' ∧ Lib.OthersKept 5 (some b) w w') := by
  rcases h with h | h
  · refine (copyCheck_fresh b w h.cell0 h.shape h.frozen0).mono ?_
    rintro e w' ⟨rfl, rfl⟩
    exact ⟨rfl, h.used _, (Below.refl B w).setCell (p := ⟨b, 0, none⟩) h.1 _, (Lib.OthersKept.refl _ _ w).setCell ⟨b, 0, none⟩ rfl _⟩
  · refine (copyCheck_used b w h.cell0).mono ?_
    rintro e w' ⟨rfl, rfl⟩
    exact ⟨rfl, h, Below.refl B _, Lib.OthersKept.refl _ _ _⟩

set_option maxHeartbeats 2000000 in
set_option maxRecDepth 100000 in
theorem WriteString_any (B b : Nat) (bs : List Value) (s : ByteArray) (w : World) (h : Lib.IsBuilderF 65 5 B b bs w) (hlen : bs.length + s.size ≤ 140737488355328) (hBw : B ≤ w.heap.size) :
    Calls Tryz.prog 27 #[.pointer (some ⟨b, 0, none⟩), .string s] w fun e w' => e = .returned (.tuple #[.int .i64 s.size, .nilIface]) ∧ (Lib.BuilderAtF 65 5 B b (.pointer (some ⟨b, 0, none⟩)) (bs ++ Lib.strCells s) w' ∧ Below B w w' ∧ Lib.OthersKept 5 (some b) w w') := by
  obtain ⟨i0, hi, hz0, hz1, hz2⟩ := info_parts infoByte
  have H := Lib.hid h; clear h
  go_enter Tryz.func27, Tryz.ntmps27
  go_wp2_with (go_at_call 46; refine (copyCheck_any B b bs _ H.out).mono ?_)
  rintro e w1 ⟨rfl, h1, hb1, hk1⟩
  obtain ⟨hB, v, hbk, hown, hne⟩ := h1
  have c0 : w1.cell? ⟨b, 0, none⟩ = some (.pointer (some ⟨b, 0, none⟩)) := by rw [Lib.cell_of_heap hbk]; rfl
  have c1 : w1.cell? ⟨b, 1, none⟩ = some v := by rw [Lib.cell_of_heap hbk]; rfl
  go_wp2_with (at_builtin; refine Lib.wpList_append_own_stringF _ rfl _ _ 63 9 rfl B 5 i0 Tryz.underlying63 Tryz.underlying9 hi hz0 hz1 hz2 _ _ _ rfl hown s rfl ?c3 ?c4 ?c5 ?_)
  case c3 => unfold maxLen; omega
  case c4 => omega
  case c5 => have := hb1.size; omega
  intro v' w2 hown' hgrow _
  have hlt : b < w1.heap.size := by
    rcases Nat.lt_or_ge b w1.heap.size with h' | h'
    · exact h'
    · simp [Array.getElem?_eq_none h'] at hbk
  have hb2 : w2.heap[b]? = some (.cells #[.pointer (some ⟨b, 0, none⟩), v] 65 (0, 0)) := by
    rw [hgrow.block b hlt (fun e => hne e.symm)]
    exact hbk
  have d0 : w2.cell? ⟨b, 0, none⟩ = some (.pointer (some ⟨b, 0, none⟩)) := by rw [Lib.cell_of_heap hb2]; rfl
  have d1 : w2.cell? ⟨b, 1, none⟩ = some v := by rw [Lib.cell_of_heap hb2]; rfl
  have f1 : w2.frozen? ⟨b, 1, none⟩ = false := Lib.frozen_of_heap hb2 1
  obtain ⟨ao, n', cap, rfl⟩ : ∃ ao n' cap, v' = .slice ao n' cap := by
    rcases hown'.2 with ⟨hv, _⟩ | ⟨g, cap, cur, fz, hv, _⟩
    · exact ⟨_, _, _, hv⟩
    · exact ⟨_, _, _, hv⟩
  go_wp2
  go_ret2
  refine ⟨rfl, ?_, ?_, (hk1.grown hgrow (Lib.ownsRowF_kind hown)).setCell ⟨b, 1, none⟩ rfl _⟩
  · exact Lib.BuilderAtF.put (T := 65) (e := 5) hB hb2 (bs' := bs ++ Lib.strCells s) (by simpa [Lib.strCells_length] using hown') (by decide)
  · exact (hb1.grown hgrow (by have := hb1.size; omega) (fun k hk => (hown.lt k hk).1)).setCell (p := ⟨b, 1, none⟩) hB _
end Go.Proofs.YtoopoljchhdobaaGreatDoor
namespace Go.Proofs.YtoopoljchhdobaaGreatDoor
open Go.RowKit

def letterS (op : Int) : List UInt8 := if op = 2 then [99] else if op = 3 then [111] else []
/-- The names of the operators from 4 to 14. -/
def namesL : List (List UInt8) := [[110, 111, 116], [97, 110, 100], [111, 114], [120, 111, 114], [97, 100, 100], [115, 117, 98], [109, 117, 108], [101, 113], [108, 116], [108, 101], [105, 116, 101]]
def nameS (op : Int) : List UInt8 := namesL.getD (op - 4).toNat []
mutual
/-- The text of an expression. -/
def E.text : E → List UInt8
  | .mk op wd n ks => if op = 1 ∨ op = 2 ∨ op = 3 then letterS op ++ Lib.itoa n ++ [58] ++ Lib.itoa wd else nameS op ++ textAll [40] ks ++ [41]
def textAll (sep : List UInt8) : List E → List UInt8
  | [] => []
  | e :: r => sep ++ e.text ++ textAll [44] r
end
/-- The table of names. -/
def namesA : Array Value := (namesL.map fun l => Value.string ⟨l.toArray⟩).toArray
def Names (w : World) : Prop := ∃ t fr, w.heap[0]? = some (.cells namesA t fr)
theorem Names.ext {w w' : World} (h : Names w) (he : Ext w w') : Names w' := by
  obtain ⟨t, fr, h⟩ := h
  have hlt : 0 < w.heap.size := by
    rcases Nat.lt_or_ge 0 w.heap.size with h1 | h1
    · exact h1
    · rw [Array.getElem?_eq_none_iff.2 h1] at h; cases h
  exact ⟨t, fr, by rw [he.block _ hlt]; exact h⟩
theorem names_cases {k : Nat} (h : k < 11) : k = 0 ∨ k = 1 ∨ k = 2 ∨ k = 3 ∨ k = 4 ∨ k = 5 ∨ k = 6 ∨ k = 7 ∨ k = 8 ∨ k = 9 ∨ k = 10 := by omega
theorem Names.cell {w : World} (h : Names w) (k : Nat) (hk : k < 11) : w.cell? ⟨0, k, none⟩ = some (.string ⟨(namesL.getD k []).toArray⟩) := by
  obtain ⟨t, fr, h⟩ := h
  rw [Lib.cell_of_heap h]
  rcases names_cases hk with rfl | rfl | rfl | rfl | rfl | rfl | rfl | rfl | rfl | rfl | rfl <;> rfl
/-- The table of strconv's. -/
def Pow10 (w : World) : Prop := Lib.TabIs Tryz.prog w "internal/strconv.uint64pow10" .u64 Lib.pow10Tab
theorem Pow10.ext {w w' : World} (h : Pow10 w) (he : Ext w w') : Pow10 w' := by
  unfold Pow10 Lib.TabIs World.var? at *
  rw [show Tryz.prog.globalNamed "internal/strconv.uint64pow10" = some 4 by kernel_rfl] at h ⊢
  simp only [Option.bind_some] at h ⊢
  have hlt : 4 < w.heap.size := by
    rcases Nat.lt_or_ge 4 w.heap.size with h1 | h1
    · exact h1
    · rw [Array.getElem?_eq_none_iff.2 h1] at h; cases h
  rw [he.block _ hlt]; exact h
theorem ext_grow (w : World) (k : Nat) (os : Array Obj) : Ext w (Sort.grow (w.drewN k) os) :=
  ⟨rfl, rfl, rfl, by simp [Sort.grow], fun i hi => by simp [Sort.grow, World.drewN, Array.getElem?_append_left hi]⟩

theorem Itoa_any (n : Int) (w : World) (h0 : -9223372036854775808 ≤ n) (h1 : n ≤ 9223372036854775807) (hP : Pow10 w) :
    Calls Tryz.prog 29 #[.int .i64 n] w fun e w' => e = .returned (.string ⟨(Lib.itoa n).toArray⟩) ∧ Ext w w' :=
  (Tryz.strconv_Itoa n h0 h1 w hP).mono fun e w' ⟨h, k, os, hw⟩ => ⟨h, by rw [hw]; exact ext_grow w k os⟩

set_option maxHeartbeats 400000 in
theorem letter_any (op : Int) (w : World) (h : op = 1 ∨ op = 2 ∨ op = 3) : Calls Tryz.prog 28 #[.int .i64 op] w fun e w' => e = .returned (.string ⟨(letterS op).toArray⟩) ∧ w = w' := by
  rcases h with rfl | rfl | rfl
  all_goals
    go_enter Tryz.func28, Tryz.ntmps28
    go_wp2
    go_ret
    exact ⟨rfl, rfl⟩

/-- A builder stays one when the world grows. -/
theorem builder_ext {B b : Nat} {bs : List Value} {w w' : World} (h : Lib.IsBuilderF 65 5 B b bs w) (hx : Ext w w') : Lib.IsBuilderF 65 5 B b bs w' := by
  have key : ∀ p, Lib.BuilderAtF 65 5 B b p bs w → Lib.BuilderAtF 65 5 B b p bs w' := by
    rintro p hq
    have hlt := hq.lt
    obtain ⟨hB, v, hb, hown, hne⟩ := hq
    refine ⟨hB, v, by rw [hx.block b hlt]; exact hb, hown.kept (row := none) ⟨hx.os, hx.tape, hx.output, hx.size, fun i hi _ => hx.block i hi⟩ ?_, hne⟩
    cases v.ownBlock <;> simp
  exact h.elim (fun x => .inl (key _ x)) (fun x => .inr (key _ x))
theorem kept_ext {b : Option Nat} {w w' : World} (hx : Ext w w') : Lib.OthersKept 5 b w w' := fun k o hk _ _ => by
  have hlt : k < w.heap.size := by
    rcases Nat.lt_or_ge k w.heap.size with h1 | h1
    · exact h1
    · rw [Array.getElem?_eq_none_iff.2 h1] at hk; cases hk
  rw [hx.block k hlt]; exact hk
theorem strCells_list (l : List UInt8) : Lib.strCells ⟨l.toArray⟩ = Lib.byteCells l := by simp [Lib.strCells, Lib.byteCells]

/-- What the writing of an expression needs: the builder, the variable that holds the function, the frame. -/
def WEnv (B b V : Nat) (bs : List UInt8) (w : World) : Prop :=
  Lib.IsBuilderF 65 5 B b (Lib.byteCells bs) w ∧ w.heap[V]? = some (.cells #[.func (.func 26) #[] #[.pointer (some ⟨b, 0, none⟩), .pointer (some ⟨V, 0, none⟩)]] 66 (0, 0))
theorem WEnv.ext {B b V : Nat} {bs : List UInt8} {w w' : World} (h : WEnv B b V bs w) (hx : Ext w w') : WEnv B b V bs w' := by
  refine ⟨builder_ext h.1 hx, ?_⟩
  have hk := h.2
  have hlt : V < w.heap.size := by
    rcases Nat.lt_or_ge V w.heap.size with h1 | h1
    · exact h1
    · rw [Array.getElem?_eq_none_iff.2 h1] at hk; cases hk
  rw [hx.block V hlt]; exact hk
theorem WEnv.cell {B b V : Nat} {bs : List UInt8} {w : World} (h : WEnv B b V bs w) : w.cell? ⟨V, 0, none⟩ = some (.func (.func 26) #[] #[.pointer (some ⟨b, 0, none⟩), .pointer (some ⟨V, 0, none⟩)]) := by
  rw [Lib.cell_of_heap h.2]; rfl

/-- Some bytes are written. -/
theorem write_str (w0 : World) (b V : Nat) (bs l : List UInt8) (w : World) (hV : V ≠ b) (hE : WEnv w0.heap.size b V bs w) (hx : Ext w0 w) (hl : bs.length + l.length ≤ 1000000) :
    Calls Tryz.prog 27 #[.pointer (some ⟨b, 0, none⟩), .string ⟨l.toArray⟩] w fun e w' => e = .returned (.tuple #[.int .i64 l.length, .nilIface]) ∧ WEnv w0.heap.size b V (bs ++ l) w' ∧ Ext w0 w' := by
  have hs : ByteArray.size ⟨l.toArray⟩ = l.length := by simp [ByteArray.size]
  refine (WriteString_any w0.heap.size b (Lib.byteCells bs) ⟨l.toArray⟩ w hE.1 (by rw [Lib.byteCells_length, hs]; omega) hx.size).mono ?_
  rintro e w' ⟨rfl, h1, h2, h3⟩
  refine ⟨by rw [hs], ⟨.inr ?_, ?_⟩, Below.trans hx h2⟩
  · rw [strCells_list] at h1
    have : Lib.byteCells (bs ++ l) = Lib.byteCells bs ++ Lib.byteCells l := by simp [Lib.byteCells]
    rw [this]; exact h1
  · exact h3 V _ hE.2 (by simpa using hV) (fun c fz e => by cases e)
end Go.Proofs.YtoopoljchhdobaaGreatDoor
namespace Go.Proofs.YtoopoljchhdobaaGreatDoor
open Go.RowKit

theorem pow_bd (k : Nat) (h : k ≤ 20) : 0 < (2 : Int) ^ k ∧ (2 : Int) ^ k ≤ 1048576 := by
  have h1 := Nat.pow_le_pow_right (n := 2) (by decide) h
  have e : ((2 : Int) ^ k) = ((2 ^ k : Nat) : Int) := by simp
  have h2 := Nat.two_pow_pos k
  rw [e]
  omega

/-- What the reference's Size computes. -/
def sizeLim (s : Nat) (l : Int) : Int := if l ≤ 0 then 0 else if (s : Int) ≤ l then s else l

theorem sizeAll_snoc {ks : List E} {k : Nat} (h : k < ks.length) : sizeAll (ks.take (k + 1)) = sizeAll (ks.take k) + ks[k].size := by
  rw [sizeAll_eq, sizeAll_eq, List.take_succ_eq_append_getElem h, List.map_append, List.sum_append]
  simp only [List.map_cons, List.map_nil, List.sum_cons, List.sum_nil, Nat.add_zero]
theorem sizeAll_take (ks : List E) (k : Nat) : sizeAll (ks.take k) ≤ sizeAll ks := by
  have : ks = ks.take k ++ ks.drop k := (List.take_append_drop k ks).symm
  rw [sizeAll_eq, sizeAll_eq]
  conv => rhs; rw [this, List.map_append, List.sum_append]
  omega
theorem sizeLim_pos {s : Nat} {l : Int} (h : 0 < l) : sizeLim s l = if (s : Int) ≤ l then (s : Int) else l := by unfold sizeLim; rw [if_neg (by omega)]
theorem sizeLim_step {s t : Nat} {l : Int} (h : sizeLim s l < l) (h1 : 0 < l) : sizeLim (s + t) l = sizeLim s l + sizeLim t (l - sizeLim s l) := by
  have e : sizeLim s l = s := by
    rw [sizeLim_pos h1] at h ⊢
    split at h
    · rename_i c; rw [if_pos c]
    · omega
  rw [e] at h ⊢
  rw [sizeLim_pos h1, sizeLim_pos (by omega)]
  by_cases c : ((t : Nat) : Int) ≤ l - s
  · rw [if_pos c, if_pos (by omega)]; omega
  · rw [if_neg c, if_neg (by omega)]; omega
theorem sizeLim_stay {s t : Nat} {l : Int} (h : ¬ sizeLim s l < l) (h1 : 0 < l) : sizeLim (s + t) l = sizeLim s l := by
  rw [sizeLim_pos h1] at h ⊢
  rw [sizeLim_pos h1]
  split at h <;> split <;> omega
theorem sizeLim_bd (s : Nat) (l : Int) (h : 0 < l) : 0 ≤ sizeLim s l ∧ sizeLim s l ≤ l := by
  unfold sizeLim; rw [if_neg (by omega)]; split <;> omega

set_option maxHeartbeats 1000000 in
theorem RSize_any (N : Nat) : ∀ (e : E) (v : Value) (w : World) (l : Int), e.size ≤ N → EVal w v e → -10000 ≤ l → l ≤ 10000 →
    Calls Tryz.prog 39 #[v, .int .i64 l] w fun r w' => r = .returned (.int .i64 (sizeLim e.size l)) ∧ Ext w w' := by
  induction N with
  | zero => intro e v w l h; have := e.size_pos; omega
  | succ N ih =>
    intro e v w l hN he hl0 hl1
    obtain ⟨kv, rfl, hk⟩ := he
    obtain ⟨op, wd, n, ks⟩ := e
    simp only [E.op_mk, E.wd_mk, E.n_mk, E.kids_mk] at hk ⊢
    obtain ⟨a, cap, rfl⟩ := SliceAt.shape hk
    have hlen : ks.length ≤ 9223372036854775807 := SliceAt.len_le hk
    have IH := Lib.hid ih; have HK := Lib.hid hk; clear ih hk
    by_cases hl : l ≤ 0
    · have HF : Hid (sizeLim (E.mk op wd n ks).size l = 0) := by unfold Hid sizeLim; rw [if_pos hl]
      go_enter Tryz.func39, Tryz.ntmps39
      go_wp2_with fail
      go_ret
      exact ⟨by rw [HF.out]; rfl, (Ext.refl w).alloc _⟩
    · go_enter Tryz.func39, Tryz.ntmps39
      go_wp2_with fail
      go_loopw [5, 6] (fun m i wr => ∃ (k : Nat) (x : Int), k ≤ ks.length ∧ i = .int .i64 k ∧ m = .int .i64 x ∧ Hid (x = sizeLim (1 + sizeAll (ks.take k)) l) ∧ Ext (w.alloc (.cells #[.int .i64 op, .int .i64 wd, .int .i64 n, .slice a ks.length cap] 24)) wr) (fun _ i _ => ks.length - (intOf i).toNat)
      case atStart => exact ⟨0, 1, Nat.zero_le _, rfl, rfl, by unfold Hid sizeLim; simp [sizeAll]; omega, Ext.refl _⟩
      case round =>
        obtain ⟨k, x, hk, rfl, rfl, hx, hX⟩ := hrel
        have hbd : 0 ≤ x ∧ x ≤ l := by rw [hx.out]; exact sizeLim_bd _ _ (by omega)
        obtain ⟨hb0, hb1⟩ := hbd
        have c3 : wr.cell? ⟨w.heap.size, 3, none⟩ = some (.slice a ks.length cap) := hX.cell (by simp)
        have HX := Lib.hid hX; clear hX
        by_cases hlt : k < ks.length
        · by_cases hm : x < l
          · rcases HK.out with ⟨_, e⟩ | ⟨b', o', cap', e, _, hk'⟩
            · rw [e] at hlt; simp at hlt
            cases e
            have hE := (hk' k hlt).ext (((Ext.refl w).alloc _).trans HX.out)
            obtain ⟨g0, g1, g2, kv, g3, hkk⟩ := hE.cells
            obtain ⟨ka, kc, rfl⟩ := SliceAt.shape hkk
            have hin : ks[k] ∈ ks := List.getElem_mem hlt
            have hsz : ks[k].size ≤ N := by have := size_kid (op := op) (wd := wd) (n := n) hin; omega
            have HE : Hid (EVal wr (.agg #[.int .i64 ks[k].op, .int .i64 ks[k].wd, .int .i64 ks[k].n, .slice ka ks[k].kids.length kc]) ks[k]) := ⟨_, rfl, hkk⟩
            have HS := Lib.hid (sizeAll_snoc hlt)
            clear hkk hk' hE
            have hd : decide (x < l) = true := by simpa using hm
            go_wp2_with fail
            refine (IH.out _ _ _ _ hsz HE.out (by omega) (by omega)).mono ?_
            rintro r w1 ⟨rfl, hx1⟩
            have hq := sizeLim_bd ks[k].size (l - x) (by omega)
            have HQ : Hid (x + sizeLim ks[k].size (l - x) = sizeLim (1 + sizeAll (ks.take (k + 1))) l) := by
              unfold Hid
              rw [HS.out, ← Nat.add_assoc, sizeLim_step (by rw [← hx.out]; exact hm) (by omega), ← hx.out]
            have HX1 := Lib.hid (HX.out.trans hx1); clear hx1
            generalize sizeLim ks[k].size (l - x) = q at *
            obtain ⟨hq0, hq1⟩ := hq
            go_wp2_with fail
            exact ⟨⟨k + 1, _, by omega, by go_num, rfl, HQ, HX1.out⟩, by simp [intOf]; omega⟩
          · have hd : decide (x < l) = false := by simpa using hm
            have HF : Hid (x = sizeLim (E.mk op wd n ks).size l) := by
              unfold Hid
              have h1 := hx.out
              have h2 := sizeAll_take ks k
              have : (E.mk op wd n ks).size = (1 + sizeAll (ks.take k)) + (sizeAll ks - sizeAll (ks.take k)) := by simp only [E.size]; omega
              rw [this, sizeLim_stay (by rw [← h1]; exact hm) (by omega)]; exact h1
            go_wp2_with fail
            go_ret
            exact ⟨by rw [← HF.out]; rfl, ((Ext.refl w).alloc _).trans HX.out⟩
        · have HF : Hid (x = sizeLim (E.mk op wd n ks).size l) := by
            unfold Hid
            obtain rfl : k = ks.length := by omega
            have := hx.out
            rw [List.take_length] at this
            exact this
          go_wp2_with fail
          go_ret
          exact ⟨by rw [← HF.out]; rfl, ((Ext.refl w).alloc _).trans HX.out⟩

set_option maxHeartbeats 400000 in
theorem RSmall_any (e : E) (v : Value) (w : World) (l : Int) (he : EVal w v e) (h0 : 0 ≤ l) (h1 : l ≤ 1000) :
    Calls Tryz.prog 16 #[v, .int .i64 l] w fun r w' => r = .returned (.bool (decide ((e.size : Int) ≤ l))) ∧ Ext w w' := by
  obtain ⟨kv, rfl, hk⟩ := he
  obtain ⟨a, cap, rfl⟩ := SliceAt.shape hk
  have HK := Lib.hid hk; clear hk
  go_enter Tryz.func16, Tryz.ntmps16
  go_wp2_with fail
  refine (RSize_any e.size e _ _ (l + 1) (Nat.le_refl _) ⟨_, rfl, HK.out.ext ((Ext.refl w).alloc _)⟩ (by omega) (by omega)).mono ?_
  rintro r w1 ⟨rfl, hx1⟩
  have HX := Lib.hid (((Ext.refl w).alloc _).trans hx1)
  have HF : Hid (decide (sizeLim e.size (l + 1) ≤ l) = decide ((e.size : Int) ≤ l)) := by
    unfold Hid sizeLim; rw [if_neg (by omega)]; split <;> simp only [decide_eq_decide] <;> omega
  clear hx1
  go_wp2_with fail
  go_ret
  exact ⟨by rw [← HF.out]; rfl, HX.out⟩
end Go.Proofs.YtoopoljchhdobaaGreatDoor
