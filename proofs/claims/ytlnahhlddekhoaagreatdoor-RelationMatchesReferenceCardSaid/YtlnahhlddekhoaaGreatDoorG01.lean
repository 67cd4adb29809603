/-
  The walk of value: the value of a well-formed expression.
  The walks of the reference's Power, Size, Small (XRef1 without arity).
  The walks of the reference's Power, arity, Size, Small.
-/
import Derived.Test.YtlnahhlddekhoaaGreatDoorG00
namespace Go.Proofs.YtlnahhlddekhoaaGreatDoor
open Go.RowKit

/-- The table of the greatest numbers of each width, as it lies. -/
def Masks (w : World) : Prop := ∀ k : Int, 0 ≤ k → k ≤ 8 → w.cell? ⟨0, k.toNat, none⟩ = some (.int .i64 (pw k - 1))
theorem Masks.ext {w w' : World} (h : Masks w) (he : Ext w w') : Masks w' := fun k h0 h8 => he.cell (h k h0 h8)

theorem val_range (old now : List Int) (e : E) (d : Nat) (h : e.deep d = true) : 0 ≤ e.val old now ∧ e.val old now < pw e.wd := by
  obtain ⟨op, wd, n, ks⟩ := e
  simp only [E.deep, Bool.and_eq_true] at h
  obtain ⟨⟨_, hs⟩, _⟩ := h
  have hp := pw_pos (w := wd)
  simp only [E.val, E.wd_mk]
  split
  · next h1 => subst h1; have := shapedW_const hs; omega
  · split
    · exact ⟨Int.emod_nonneg _ (by omega), Int.emod_lt_of_pos _ hp⟩
    · split
      · exact ⟨Int.emod_nonneg _ (by omega), Int.emod_lt_of_pos _ hp⟩
      · exact ⟨Int.emod_nonneg _ (by omega), Int.emod_lt_of_pos _ hp⟩

theorem deep_wd {e : E} {d : Nat} (h : e.deep d = true) : 1 ≤ e.wd ∧ e.wd ≤ 8 := by
  obtain ⟨op, wd, n, ks⟩ := e
  simp only [E.deep, Bool.and_eq_true] at h
  exact shapedW_wd h.1.2

/-- A variable of type [3]int: its cells, none of them frozen. -/
def Arr3 (w : World) (B : Nat) (xs : List Int) : Prop := ∀ j : Nat, j < 3 → w.cell? ⟨B, j, none⟩ = some (.int .i64 (xs.getD j 0)) ∧ w.frozen? ⟨B, j, none⟩ = false

theorem Arr3.step {old now : List Int} {wr w1 : World} {B k : Nat} {ks : List E} (h : Arr3 wr B ((ks.take k).map (·.val old now))) (hx : Ext wr w1) (hB : B < wr.heap.size) (hlt : k < ks.length) :
    Arr3 (w1.setCell ⟨B, k, none⟩ (.int .i64 (ks[k].val old now))) B ((ks.take (k + 1)).map (·.val old now)) := by
  intro j hj
  obtain ⟨h1, h2⟩ := h j hj
  have h1' : w1.cell? ⟨B, j, none⟩ = some (.int .i64 (((ks.take k).map (·.val old now)).getD j 0)) := by rw [hx.cellEq hB]; exact h1
  have h2' : w1.frozen? ⟨B, j, none⟩ = false := by rw [hx.frozenEq hB]; exact h2
  refine ⟨?_, by rw [World.frozen?_setCell]; exact h2'⟩
  have e : (ks.take (k + 1)).map (·.val old now) = (ks.take k).map (·.val old now) ++ [ks[k].val old now] := by rw [List.take_succ_eq_append_getElem hlt, List.map_append]; rfl
  by_cases c : j = k
  · subst c
    rw [World.cell?_setCell_same _ _ _ h1', e]
    simp [List.getD_eq_getElem?_getD, Nat.min_eq_left (Nat.le_of_lt hlt)]
  · rw [World.cell?_setCell_other _ _ _ _ (by intro h; cases h; exact c rfl), h1', e]
    have hl : ((ks.take k).map (·.val old now)).length = k := by simp; omega
    congr 2
    simp only [List.getD_eq_getElem?_getD, List.getElem?_append, hl]
    split
    · rfl
    · rw [List.getElem?_eq_none (by omega), List.getElem?_eq_none (by simp; omega)]
set_option maxHeartbeats 1000000 in
theorem value_any (old now : List Int) (vo vn : Value) (N : Nat) : ∀ (e : E) (w : World) (b o d : Nat), e.size ≤ N → IsE w b o e → e.deep d = true → Ints w vo old → Ints w vn now → Masks w →
    Calls Tryz.prog 79 #[.pointer (some ⟨b, o, none⟩), vo, vn] w fun r w' => r = .returned (.int .i64 (e.val old now)) ∧ Ext w w' := by
  induction N with
  | zero => intro e w b o d h; have := e.size_pos; omega
  | succ N ih =>
    intro e w b o d hN hE hd hO hN2 hM
    obtain ⟨h0, h1, h2, kv, h3, hk⟩ := hE.cells
    obtain ⟨op, wd, n, ks⟩ := e
    simp only [E.deep, Bool.and_eq_true, decide_eq_true_eq] at hd
    obtain ⟨⟨hd1, hs⟩, hda⟩ := hd
    simp only [E.op_mk, E.wd_mk, E.n_mk, E.kids_mk] at h0 h1 h2 hk
    by_cases c1 : op = 1
    · subst c1
      go_enter Tryz.func79, Tryz.ntmps79
      go_wp2_with fail
      go_ret
      exact ⟨rfl, Ext.refl _⟩
    obtain ⟨hw1, hw8⟩ := shapedW_wd hs
    have hw0 : 0 ≤ wd := by omega
    have hw9 : wd < 9 := by omega
    have hm := hM wd (by omega) hw8
    by_cases c2 : op = 2
    · subst c2
      have hn0 : 0 ≤ n := (shapedW_cell hs (by omega)).2.1
      have hfin : (E.mk 2 wd n ks).val old now = bits .and .i64 (elemS now n) (pw wd - 1) := by rw [mask_eq _ _ hw1 hw8]; rfl
      have HF := Lib.hid hfin; clear hfin ih hN hE hda hs
      go_enter Tryz.func79, Tryz.ntmps79
      go_wp2_with fail
      go_region_held3 (fun w' => w'.cell? ⟨b, o + 1, none⟩ = some (.int .i64 wd) ∧ w'.cell? ⟨b, o + 2, none⟩ = some (.int .i64 n) ∧ w'.cell? ⟨0, wd.toNat, none⟩ = some (.int .i64 (pw wd - 1))) (first | exact ⟨h1, h2, hm⟩ | assumption) ((go_at_call 104; refine (element_any _ _ _ _ (by exact hN2) hn0).mono ?_; rintro e w' ⟨rfl, rfl⟩))
      go_wp2_with fail
      go_ret
      exact ⟨by rw [HF.out]; rfl, (Ext.refl _).drewN _⟩
    by_cases c3 : op = 3
    · subst c3
      have hn0 : 0 ≤ n := (shapedW_cell hs (by omega)).2.1
      have hfin : (E.mk 3 wd n ks).val old now = bits .and .i64 (elemS old n) (pw wd - 1) := by rw [mask_eq _ _ hw1 hw8]; rfl
      have HF := Lib.hid hfin; clear hfin ih hN hE hda hs
      go_enter Tryz.func79, Tryz.ntmps79
      go_wp2_with fail
      go_region_held3 (fun w' => w'.cell? ⟨b, o + 1, none⟩ = some (.int .i64 wd) ∧ w'.cell? ⟨b, o + 2, none⟩ = some (.int .i64 n) ∧ w'.cell? ⟨0, wd.toNat, none⟩ = some (.int .i64 (pw wd - 1))) (first | exact ⟨h1, h2, hm⟩ | assumption) ((go_at_call 104; refine (element_any _ _ _ _ (by exact hO) hn0).mono ?_; rintro e w' ⟨rfl, rfl⟩))
      go_wp2_with fail
      go_ret
      exact ⟨by rw [HF.out]; rfl, (Ext.refl _).drewN _⟩
    obtain ⟨_, ho4, ho14, hsh⟩ := shapedW_inner hs c1 c2 c3
    have hkl : 1 ≤ ks.length ∧ ks.length ≤ 3 := by
      have : (ks.map E.wd).length = ks.length := List.length_map ..
      rcases hsh with ⟨_, e⟩ | ⟨_, _, e⟩ | ⟨_, _, _, u, e⟩ | ⟨_, e⟩ <;> rw [e] at this <;> simp at this <;> omega
    rcases hk with ⟨_, e⟩ | ⟨b', o', cap, rfl, hll, hk⟩
    · subst e; simp at hkl
    obtain ⟨hk1, hk3⟩ := hkl
    have e1 : ((op : Int) == 1) = false := beq_eq_false_iff_ne.2 c1
    have e2 : ((op : Int) == 2) = false := beq_eq_false_iff_ne.2 c2
    have e3 : ((op : Int) == 3) = false := beq_eq_false_iff_ne.2 c3
    have hbs : b < w.heap.size := block_lt h0
    have hms : 0 < w.heap.size := block_lt hm
    have HK := Lib.hid hk; clear hk
    have IH := Lib.hid ih; clear ih
    clear c1 c2 c3 hsh
    go_enter Tryz.func79, Tryz.ntmps79
    go_wp2_with fail
    go_loopw [8, 54] (fun _ i wr => ∃ k : Nat, k ≤ ks.length ∧ i = .int .i64 k ∧ Ext w wr ∧ w.heap.size < wr.heap.size ∧ Arr3 wr w.heap.size ((ks.take k).map (·.val old now))) (fun _ i _ => ks.length - (intOf i).toNat)
    case atStart =>
      refine ⟨0, Nat.zero_le _, rfl, (Ext.refl _).alloc _, by simp, ?_⟩
      intro j hj
      have : j = 0 ∨ j = 1 ∨ j = 2 := by omega
      rcases this with rfl | rfl | rfl <;> simp
    case round =>
      obtain ⟨k, hk, rfl, hx, hsz, ha⟩ := hrel
      have g0 := hx.cell h0
      have g1 := hx.cell h1
      have g3 := hx.cell h3
      have gm := hx.cell hm
      have HX := Lib.hid hx; clear hx
      by_cases hlt : k < ks.length
      · have hke : IsE wr b' (o' + k * 4) ks[k] := (HK.out k hlt).ext HX.out
        have hin : ks[k] ∈ ks := List.getElem_mem hlt
        have hke' := Lib.hid hke; clear hke
        have hk3' : k < 3 := by omega
        go_wp2_with fail
        refine (IH.out ks[k] wr b' (o' + k * 4) (d - 1) (by have := size_kid (op := op) (wd := wd) (n := n) hin; omega) hke'.out ((deepAll_iff _ _).1 hda _ hin) (hO.ext HX.out) (hN2.ext HX.out) (hM.ext HX.out)).mono ?_
        rintro e w1 ⟨rfl, hx1⟩
        have ck : w1.cell? ⟨w.heap.size, k, none⟩ = some (.int .i64 (((ks.take k).map (·.val old now)).getD k 0)) := by rw [hx1.cellEq hsz]; exact (ha k hk3').1
        have fk : w1.frozen? ⟨w.heap.size, k, none⟩ = false := by rw [hx1.frozenEq hsz]; exact (ha k hk3').2
        have HX1 := Lib.hid hx1; clear hx1
        have HA := Lib.hid ha; clear ha
        go_wp2_with fail
        go_roundw
        case rel =>
          refine ⟨k + 1, by omega, by go_num, (HX.out.trans HX1.out).setCell (Nat.le_refl _) _, by have := HX1.out.size; simp; omega, ?_⟩
          exact Arr3.step HA.out HX1.out hsz hlt
        case measure => simp [intOf]; omega
      · have hkl : k = ks.length := by omega
        have hall : (ks.take k).map (·.val old now) = valAll old now ks := by rw [hkl, List.take_length, valAll_eq]
        rw [hall] at ha
        have hrange : ∀ j, 0 ≤ (valAll old now ks).getD j 0 ∧ (valAll old now ks).getD j 0 ≤ 255 := by
          intro j
          rw [valAll_eq, List.getD_eq_getElem?_getD, List.getElem?_map]
          rcases Nat.lt_or_ge j ks.length with hj | hj
          · rw [List.getElem?_eq_getElem hj]
            have hr := val_range old now ks[j] (d - 1) ((deepAll_iff _ _).1 hda _ (List.getElem_mem hj))
            have hw := (deep_wd ((deepAll_iff _ _).1 hda _ (List.getElem_mem hj))).2
            have := pw_le hw
            simp; omega
          · rw [List.getElem?_eq_none hj]; simp
        obtain ⟨r0, r0'⟩ := hrange 0
        obtain ⟨r1, r1'⟩ := hrange 1
        have A0 := (ha 0 (by decide)).1
        have A1 := (ha 1 (by decide)).1
        have A2 := (ha 2 (by decide)).1
        clear hrange hall ha
        have hfin : (E.mk op wd n ks).val old now = bits .and .i64 (applyS op ((valAll old now ks).getD 0 0) ((valAll old now ks).getD 1 0) ((valAll old now ks).getD 2 0)) (pw wd - 1) := by
          rw [mask_eq _ _ hw1 hw8, E.val, if_neg (by simpa using e1), if_neg (by simpa using e2), if_neg (by simpa using e3)]
        have HF := Lib.hid hfin; clear hfin
        generalize (valAll old now ks).getD 0 0 = a0 at *
        generalize (valAll old now ks).getD 1 0 = a1 at *
        generalize (valAll old now ks).getD 2 0 = a2 at *
        clear hkl
        go_wp2_with fail
        go_region_held3 (fun w' => w'.cell? ⟨b, o, none⟩ = some (.int .i64 op) ∧ w'.cell? ⟨b, o + 1, none⟩ = some (.int .i64 wd) ∧ w'.cell? ⟨0, wd.toNat, none⟩ = some (.int .i64 (pw wd - 1)) ∧ w'.cell? ⟨w.heap.size, 0, none⟩ = some (.int .i64 a0) ∧ w'.cell? ⟨w.heap.size, 1, none⟩ = some (.int .i64 a1) ∧ w'.cell? ⟨w.heap.size, 2, none⟩ = some (.int .i64 a2))
          (first | exact ⟨g0, g1, gm, A0, A1, A2⟩ | exact ⟨Ext.cell ‹Ext wr.drew _› g0, Ext.cell ‹Ext wr.drew _› g1, Ext.cell ‹Ext wr.drew _› gm, Ext.cell ‹Ext wr.drew _› A0, Ext.cell ‹Ext wr.drew _› A1, Ext.cell ‹Ext wr.drew _› A2⟩)
          ((go_at_call 105; refine (apply_any _ _ _ _ _ ho4 ho14 r0 r0' r1 r1').mono ?_; rintro e w' ⟨rfl, hx2⟩))
        go_wp2_with fail
        go_ret
        exact ⟨by rw [HF.out]; rfl, HX.out.trans (((Ext.refl wr).drew).trans hx2)⟩
end Go.Proofs.YtlnahhlddekhoaaGreatDoor
namespace Go.Proofs.YtlnahhlddekhoaaGreatDoor
open Go.RowKit

theorem pow_bd (k : Nat) (h : k ≤ 20) : 0 < (2 : Int) ^ k ∧ (2 : Int) ^ k ≤ 1048576 := by
  have h1 := Nat.pow_le_pow_right (n := 2) (by decide) h
  have e : ((2 : Int) ^ k) = ((2 ^ k : Nat) : Int) := by simp
  have h2 := Nat.two_pow_pos k
  rw [e]
  omega

set_option maxHeartbeats 400000 in
theorem Power_any (n : Int) (w : World) (h : n ≤ 20) : Calls Tryz.prog 87 #[.int .i64 n] w fun e w' => e = .returned (.int .i64 (pw n)) ∧ w = w' := by
  go_enter Tryz.func87, Tryz.ntmps87
  go_wp2
  go_loop [3, 4] (fun o i => ∃ (k : Nat) (p : Int), (k = 0 ∨ (k : Int) ≤ n) ∧ i = .int .i64 k ∧ o = .int .i64 p ∧ Hid (p = 2 ^ k)) (fun _ i => n.toNat - (intOf i).toNat)
  case atStart => exact ⟨0, 1, .inl rfl, rfl, rfl, by simp [Hid]⟩
  case round =>
    obtain ⟨k, p, hk, rfl, rfl, hp⟩ := hrel
    have hb : 0 < p ∧ p ≤ 1048576 := by rw [hp.out]; exact pow_bd k (by omega)
    obtain ⟨hb1, hb2⟩ := hb
    by_cases hlt : (k : Int) < n
    · go_wp2
      go_round
      case rel => exact ⟨k + 1, _, .inr (by omega), by go_num, rfl, by unfold Hid; rw [Int.pow_succ, ← hp.out]⟩
      case measure => simp [intOf]; omega
    · go_wp2
      go_ret
      refine ⟨?_, rfl⟩
      have : n.toNat = k := by omega
      rw [pw, this, ← hp.out]; rfl
/-- What the reference's Size computes. -/
def sizeLim (s : Nat) (l : Int) : Int := if l ≤ 0 then 0 else if (s : Int) ≤ l then s else l

theorem sizeAll_snoc {ks : List E} {k : Nat} (h : k < ks.length) : sizeAll (ks.take (k + 1)) = sizeAll (ks.take k) + ks[k].size := by
  rw [sizeAll_eq, sizeAll_eq, List.take_succ_eq_append_getElem h, List.map_append, List.sum_append]
  simp only [List.map_cons, List.map_nil, List.sum_cons, List.sum_nil, Nat.add_zero]
theorem sizeAll_take (ks : List E) (k : Nat) : sizeAll (ks.take k) ≤ sizeAll ks := by
  have : ks = ks.take k ++ ks.drop k := (List.take_append_drop k ks).symm
  rw [sizeAll_eq, sizeAll_eq]
  conv => rhs; rw [this, List.map_append, List.sum_append]
  omega
theorem sizeLim_pos {s : Nat} {l : Int} (h : 0 < l) : sizeLim s l = if (s : Int) ≤ l then (s : Int) else l := by unfold sizeLim; rw [if_neg (by omega)]
theorem sizeLim_step {s t : Nat} {l : Int} (h : sizeLim s l < l) (h1 : 0 < l) : sizeLim (s + t) l = sizeLim s l + sizeLim t (l - sizeLim s l) := by
  have e : sizeLim s l = s := by
    rw [sizeLim_pos h1] at h ⊢
    split at h
    · rename_i c; rw [if_pos c]
    · omega
  rw [e] at h ⊢
  rw [sizeLim_pos h1, sizeLim_pos (by omega)]
  by_cases c : ((t : Nat) : Int) ≤ l - s
  · rw [if_pos c, if_pos (by omega)]; omega
  · rw [if_neg c, if_neg (by omega)]; omega
theorem sizeLim_stay {s t : Nat} {l : Int} (h : ¬ sizeLim s l < l) (h1 : 0 < l) : sizeLim (s + t) l = sizeLim s l := by
  rw [sizeLim_pos h1] at h ⊢
  rw [sizeLim_pos h1]
  split at h <;> split <;> omega
theorem sizeLim_bd (s : Nat) (l : Int) (h : 0 < l) : 0 ≤ sizeLim s l ∧ sizeLim s l ≤ l := by
  unfold sizeLim; rw [if_neg (by omega)]; split <;> omega

set_option maxHeartbeats 1000000 in
theorem RSize_any (N : Nat) : ∀ (e : E) (v : Value) (w : World) (l : Int), e.size ≤ N → EVal w v e → -10000 ≤ l → l ≤ 10000 →
    Calls Tryz.prog 30 #[v, .int .i64 l] w fun r w' => r = .returned (.int .i64 (sizeLim e.size l)) ∧ Ext w w' := by
  induction N with
  | zero => intro e v w l h; have := e.size_pos; omega
  | succ N ih =>
    intro e v w l hN he hl0 hl1
    obtain ⟨kv, rfl, hk⟩ := he
    obtain ⟨op, wd, n, ks⟩ := e
    simp only [E.op_mk, E.wd_mk, E.n_mk, E.kids_mk] at hk ⊢
    obtain ⟨a, cap, rfl⟩ := SliceAt.shape hk
    have hlen : ks.length ≤ 9223372036854775807 := SliceAt.len_le hk
    have IH := Lib.hid ih; have HK := Lib.hid hk; clear ih hk
    by_cases hl : l ≤ 0
    · have HF : Hid (sizeLim (E.mk op wd n ks).size l = 0) := by unfold Hid sizeLim; rw [if_pos hl]
      go_enter Tryz.func30, Tryz.ntmps30
      go_wp2_with fail
      go_ret
      exact ⟨by rw [HF.out]; rfl, (Ext.refl w).alloc _⟩
    · go_enter Tryz.func30, Tryz.ntmps30
      go_wp2_with fail
      go_loopw [5, 6] (fun m i wr => ∃ (k : Nat) (x : Int), k ≤ ks.length ∧ i = .int .i64 k ∧ m = .int .i64 x ∧ Hid (x = sizeLim (1 + sizeAll (ks.take k)) l) ∧ Ext (w.alloc (.cells #[.int .i64 op, .int .i64 wd, .int .i64 n, .slice a ks.length cap] 26)) wr) (fun _ i _ => ks.length - (intOf i).toNat)
      case atStart => exact ⟨0, 1, Nat.zero_le _, rfl, rfl, by unfold Hid sizeLim; simp [sizeAll]; omega, Ext.refl _⟩
      case round =>
        obtain ⟨k, x, hk, rfl, rfl, hx, hX⟩ := hrel
        have hbd : 0 ≤ x ∧ x ≤ l := by rw [hx.out]; exact sizeLim_bd _ _ (by omega)
        obtain ⟨hb0, hb1⟩ := hbd
        have c3 : wr.cell? ⟨w.heap.size, 3, none⟩ = some (.slice a ks.length cap) := hX.cell (by simp)
        have HX := Lib.hid hX; clear hX
        by_cases hlt : k < ks.length
        · by_cases hm : x < l
          · rcases HK.out with ⟨_, e⟩ | ⟨b', o', cap', e, _, hk'⟩
            · rw [e] at hlt; simp at hlt
            cases e
            have hE := (hk' k hlt).ext (((Ext.refl w).alloc _).trans HX.out)
            obtain ⟨g0, g1, g2, kv, g3, hkk⟩ := hE.cells
            obtain ⟨ka, kc, rfl⟩ := SliceAt.shape hkk
            have hin : ks[k] ∈ ks := List.getElem_mem hlt
            have hsz : ks[k].size ≤ N := by have := size_kid (op := op) (wd := wd) (n := n) hin; omega
            have HE : Hid (EVal wr (.agg #[.int .i64 ks[k].op, .int .i64 ks[k].wd, .int .i64 ks[k].n, .slice ka ks[k].kids.length kc]) ks[k]) := ⟨_, rfl, hkk⟩
            have HS := Lib.hid (sizeAll_snoc hlt)
            clear hkk hk' hE
            have hd : decide (x < l) = true := by simpa using hm
            go_wp2_with fail
            refine (IH.out _ _ _ _ hsz HE.out (by omega) (by omega)).mono ?_
            rintro r w1 ⟨rfl, hx1⟩
            have hq := sizeLim_bd ks[k].size (l - x) (by omega)
            have HQ : Hid (x + sizeLim ks[k].size (l - x) = sizeLim (1 + sizeAll (ks.take (k + 1))) l) := by
              unfold Hid
              rw [HS.out, ← Nat.add_assoc, sizeLim_step (by rw [← hx.out]; exact hm) (by omega), ← hx.out]
            have HX1 := Lib.hid (HX.out.trans hx1); clear hx1
            generalize sizeLim ks[k].size (l - x) = q at *
            obtain ⟨hq0, hq1⟩ := hq
            go_wp2_with fail
            exact ⟨⟨k + 1, _, by omega, by go_num, rfl, HQ, HX1.out⟩, by simp [intOf]; omega⟩
          · have hd : decide (x < l) = false := by simpa using hm
            have HF : Hid (x = sizeLim (E.mk op wd n ks).size l) := by
              unfold Hid
              have h1 := hx.out
              have h2 := sizeAll_take ks k
              have : (E.mk op wd n ks).size = (1 + sizeAll (ks.take k)) + (sizeAll ks - sizeAll (ks.take k)) := by simp only [E.size]; omega
              rw [this, sizeLim_stay (by rw [← h1]; exact hm) (by omega)]; exact h1
            go_wp2_with fail
            go_ret
            exact ⟨by rw [← HF.out]; rfl, ((Ext.refl w).alloc _).trans HX.out⟩
        · have HF : Hid (x = sizeLim (E.mk op wd n ks).size l) := by
            unfold Hid
            obtain rfl : k = ks.length := by omega
            have := hx.out
            rw [List.take_length] at this
            exact this
          go_wp2_with fail
          go_ret
          exact ⟨by rw [← HF.out]; rfl, ((Ext.refl w).alloc _).trans HX.out⟩

set_option maxHeartbeats 400000 in
theorem RSmall_any (e : E) (v : Value) (w : World) (l : Int) (he : EVal w v e) (h0 : 0 ≤ l) (h1 : l ≤ 1000) :
    Calls Tryz.prog 5 #[v, .int .i64 l] w fun r w' => r = .returned (.bool (decide ((e.size : Int) ≤ l))) ∧ Ext w w' := by
  obtain ⟨kv, rfl, hk⟩ := he
  obtain ⟨a, cap, rfl⟩ := SliceAt.shape hk
  have HK := Lib.hid hk; clear hk
  go_enter Tryz.func5, Tryz.ntmps5
  go_wp2_with fail
  refine (RSize_any e.size e _ _ (l + 1) (Nat.le_refl _) ⟨_, rfl, HK.out.ext ((Ext.refl w).alloc _)⟩ (by omega) (by omega)).mono ?_
  rintro r w1 ⟨rfl, hx1⟩
  have HX := Lib.hid (((Ext.refl w).alloc _).trans hx1)
  have HF : Hid (decide (sizeLim e.size (l + 1) ≤ l) = decide ((e.size : Int) ≤ l)) := by
    unfold Hid sizeLim; rw [if_neg (by omega)]; split <;> simp only [decide_eq_decide] <;> omega
  clear hx1
  go_wp2_with fail
  go_ret
  exact ⟨by rw [← HF.out]; rfl, HX.out⟩
end Go.Proofs.YtlnahhlddekhoaaGreatDoor
namespace Go.Proofs.YtlnahhlddekhoaaGreatDoor
open Go.RowKit

/-- The number of kids of an operator, -1 if it is unknown. -/
def arityS (op : Int) : Int := if 1 ≤ op ∧ op ≤ 3 then 0 else if op = 4 then 1 else if 5 ≤ op ∧ op ≤ 13 then 2 else if op = 14 then 3 else -1

set_option maxHeartbeats 400000 in
theorem arity_any (op : Int) (w : World) : Calls Tryz.prog 117 #[.int .i64 op] w fun e w' => e = .returned (.int .i64 (arityS op)) ∧ w' = w := by
  have hc : op < 1 ∨ (1 ≤ op ∧ op ≤ 3) ∨ op = 4 ∨ (5 ≤ op ∧ op ≤ 13) ∨ op = 14 ∨ 14 < op := by omega
  rcases hc with h | ⟨h, h'⟩ | rfl | ⟨h, h'⟩ | rfl | h
  · have HF : Hid (arityS op = -1) := by unfold Hid arityS; rw [if_neg (by omega), if_neg (by omega), if_neg (by omega), if_neg (by omega)]
    go_enter Tryz.func117, Tryz.ntmps117
    go_wp2
    go_ret
    exact ⟨by rw [HF.out]; rfl, rfl⟩
  · have HF : Hid (arityS op = 0) := by unfold Hid arityS; rw [if_pos (by omega)]
    go_enter Tryz.func117, Tryz.ntmps117
    go_wp2
    go_ret
    exact ⟨by rw [HF.out]; rfl, rfl⟩
  · go_enter Tryz.func117, Tryz.ntmps117
    go_wp2
    go_ret
    exact ⟨rfl, rfl⟩
  · have HF : Hid (arityS op = 2) := by unfold Hid arityS; rw [if_neg (by omega), if_neg (by omega), if_pos (by omega)]
    go_enter Tryz.func117, Tryz.ntmps117
    go_wp2
    go_ret
    exact ⟨by rw [HF.out]; rfl, rfl⟩
  · go_enter Tryz.func117, Tryz.ntmps117
    go_wp2
    go_ret
    exact ⟨rfl, rfl⟩
  · have HF : Hid (arityS op = -1) := by unfold Hid arityS; rw [if_neg (by omega), if_neg (by omega), if_neg (by omega), if_neg (by omega)]
    go_enter Tryz.func117, Tryz.ntmps117
    go_wp2
    go_ret
    exact ⟨by rw [HF.out]; rfl, rfl⟩

end Go.Proofs.YtlnahhlddekhoaaGreatDoor
