/-
  The walks of the reference's Power, Size, Small (XRef1 without arity).
  ref10.Bits.
  The plain side of states.Project: the widths and the numbers of a projection. No program in sight.
-/
import Derived.Test.YtlcgbdjmlnjhcaaGreatDoorG06
import Derived.Test.YtlcgbdjmlnjhcaaGreatDoorG10
namespace Go.Proofs.YtlcgbdjmlnjhcaaGreatDoor
open Go.RowKit

theorem pow_bd (k : Nat) (h : k ≤ 20) : 0 < (2 : Int) ^ k ∧ (2 : Int) ^ k ≤ 1048576 := by
  have h1 := Nat.pow_le_pow_right (n := 2) (by decide) h
  have e : ((2 : Int) ^ k) = ((2 ^ k : Nat) : Int) := by simp
  have h2 := Nat.two_pow_pos k
  rw [e]
  omega

set_option maxHeartbeats 400000 in
theorem Power_any (n : Int) (w : World) (h : n ≤ 20) : Calls Tryz.prog 103 #[.int .i64 n] w fun e w' => e = .returned (.int .i64 (pw n)) ∧ w = w' := by
  go_enter Tryz.func103, Tryz.ntmps103
  go_wp2
  go_loop [3, 4] (fun o i => ∃ (k : Nat) (p : Int), (k = 0 ∨ (k : Int) ≤ n) ∧ i = .int .i64 k ∧ o = .int .i64 p ∧ Hid (p = 2 ^ k)) (fun _ i => n.toNat - (intOf i).toNat)
  case atStart => exact ⟨0, 1, .inl rfl, rfl, rfl, by simp [Hid]⟩
  case round =>
    obtain ⟨k, p, hk, rfl, rfl, hp⟩ := hrel
    have hb : 0 < p ∧ p ≤ 1048576 := by rw [hp.out]; exact pow_bd k (by omega)
    obtain ⟨hb1, hb2⟩ := hb
    by_cases hlt : (k : Int) < n
    · go_wp2
      go_round
      case rel => exact ⟨k + 1, _, .inr (by omega), by go_num, rfl, by unfold Hid; rw [Int.pow_succ, ← hp.out]⟩
      case measure => simp [intOf]; omega
    · go_wp2
      go_ret
      refine ⟨?_, rfl⟩
      have : n.toNat = k := by omega
      rw [pw, this, ← hp.out]; rfl
/-- What the reference's Size computes. -/
def sizeLim (s : Nat) (l : Int) : Int := if l ≤ 0 then 0 else if (s : Int) ≤ l then s else l

theorem sizeAll_snoc {ks : List E} {k : Nat} (h : k < ks.length) : sizeAll (ks.take (k + 1)) = sizeAll (ks.take k) + ks[k].size := by
  rw [sizeAll_eq, sizeAll_eq, List.take_succ_eq_append_getElem h, List.map_append, List.sum_append]
  simp only [List.map_cons, List.map_nil, List.sum_cons, List.sum_nil, Nat.add_zero]
theorem sizeAll_take (ks : List E) (k : Nat) : sizeAll (ks.take k) ≤ sizeAll ks := by
  have : ks = ks.take k ++ ks.drop k := (List.take_append_drop k ks).symm
  rw [sizeAll_eq, sizeAll_eq]
  conv => rhs; rw [this, List.map_append, List.sum_append]
  omega
theorem sizeLim_pos {s : Nat} {l : Int} (h : 0 < l) : sizeLim s l = if (s : Int) ≤ l then (s : Int) else l := by unfold sizeLim; rw [if_neg (by omega)]
theorem sizeLim_step {s t : Nat} {l : Int} (h : sizeLim s l < l) (h1 : 0 < l) : sizeLim (s + t) l = sizeLim s l + sizeLim t (l - sizeLim s l) := by
  have e : sizeLim s l = s := by
    rw [sizeLim_pos h1] at h ⊢
    split at h
    · rename_i c; rw [if_pos c]
    · omega
  rw [e] at h ⊢
  rw [sizeLim_pos h1, sizeLim_pos (by omega)]
  by_cases c : ((t : Nat) : Int) ≤ l - s
  · rw [if_pos c, if_pos (by omega)]; omega
  · rw [if_neg c, if_neg (by omega)]; omega
theorem sizeLim_stay {s t : Nat} {l : Int} (h : ¬ sizeLim s l < l) (h1 : 0 < l) : sizeLim (s + t) l = sizeLim s l := by
  rw [sizeLim_pos h1] at h ⊢
  rw [sizeLim_pos h1]
  split at h <;> split <;> omega
theorem sizeLim_bd (s : Nat) (l : Int) (h : 0 < l) : 0 ≤ sizeLim s l ∧ sizeLim s l ≤ l := by
  unfold sizeLim; rw [if_neg (by omega)]; split <;> omega

set_option maxHeartbeats 1000000 in
theorem RSize_any (N : Nat) : ∀ (e : E) (v : Value) (w : World) (l : Int), e.size ≤ N → EVal w v e → -10000 ≤ l → l ≤ 10000 →
    Calls Tryz.prog 47 #[v, .int .i64 l] w fun r w' => r = .returned (.int .i64 (sizeLim e.size l)) ∧ Ext w w' := by
  induction N with
  | zero => intro e v w l h; have := e.size_pos; omega
  | succ N ih =>
    intro e v w l hN he hl0 hl1
    obtain ⟨kv, rfl, hk⟩ := he
    obtain ⟨op, wd, n, ks⟩ := e
    simp only [E.op_mk, E.wd_mk, E.n_mk, E.kids_mk] at hk ⊢
    obtain ⟨a, cap, rfl⟩ := SliceAt.shape hk
    have hlen : ks.length ≤ 9223372036854775807 := SliceAt.len_le hk
    have IH := Lib.hid ih; have HK := Lib.hid hk; clear ih hk
    by_cases hl : l ≤ 0
    · have HF : Hid (sizeLim (E.mk op wd n ks).size l = 0) := by unfold Hid sizeLim; rw [if_pos hl]
      go_enter Tryz.func47, Tryz.ntmps47
      go_wp2_with fail
      go_ret
      exact ⟨by rw [HF.out]; rfl, (Ext.refl w).alloc _⟩
    · go_enter Tryz.func47, Tryz.ntmps47
      go_wp2_with fail
      go_loopw [5, 6] (fun m i wr => ∃ (k : Nat) (x : Int), k ≤ ks.length ∧ i = .int .i64 k ∧ m = .int .i64 x ∧ Hid (x = sizeLim (1 + sizeAll (ks.take k)) l) ∧ Ext (w.alloc (.cells #[.int .i64 op, .int .i64 wd, .int .i64 n, .slice a ks.length cap] 25)) wr) (fun _ i _ => ks.length - (intOf i).toNat)
      case atStart => exact ⟨0, 1, Nat.zero_le _, rfl, rfl, by unfold Hid sizeLim; simp [sizeAll]; omega, Ext.refl _⟩
      case round =>
        obtain ⟨k, x, hk, rfl, rfl, hx, hX⟩ := hrel
        have hbd : 0 ≤ x ∧ x ≤ l := by rw [hx.out]; exact sizeLim_bd _ _ (by omega)
        obtain ⟨hb0, hb1⟩ := hbd
        have c3 : wr.cell? ⟨w.heap.size, 3, none⟩ = some (.slice a ks.length cap) := hX.cell (by simp)
        have HX := Lib.hid hX; clear hX
        by_cases hlt : k < ks.length
        · by_cases hm : x < l
          · rcases HK.out with ⟨_, e⟩ | ⟨b', o', cap', e, _, hk'⟩
            · rw [e] at hlt; simp at hlt
            cases e
            have hE := (hk' k hlt).ext (((Ext.refl w).alloc _).trans HX.out)
            obtain ⟨g0, g1, g2, kv, g3, hkk⟩ := hE.cells
            obtain ⟨ka, kc, rfl⟩ := SliceAt.shape hkk
            have hin : ks[k] ∈ ks := List.getElem_mem hlt
            have hsz : ks[k].size ≤ N := by have := size_kid (op := op) (wd := wd) (n := n) hin; omega
            have HE : Hid (EVal wr (.agg #[.int .i64 ks[k].op, .int .i64 ks[k].wd, .int .i64 ks[k].n, .slice ka ks[k].kids.length kc]) ks[k]) := ⟨_, rfl, hkk⟩
            have HS := Lib.hid (sizeAll_snoc hlt)
            clear hkk hk' hE
            have hd : decide (x < l) = true := by simpa using hm
            go_wp2_with fail
            refine (IH.out _ _ _ _ hsz HE.out (by omega) (by omega)).mono ?_
            rintro r w1 ⟨rfl, hx1⟩
            have hq := sizeLim_bd ks[k].size (l - x) (by omega)
            have HQ : Hid (x + sizeLim ks[k].size (l - x) = sizeLim (1 + sizeAll (ks.take (k + 1))) l) := by
              unfold Hid
              rw [HS.out, ← Nat.add_assoc, sizeLim_step (by rw [← hx.out]; exact hm) (by omega), ← hx.out]
            have HX1 := Lib.hid (HX.out.trans hx1); clear hx1
            generalize sizeLim ks[k].size (l - x) = q at *
            obtain ⟨hq0, hq1⟩ := hq
            go_wp2_with fail
            exact ⟨⟨k + 1, _, by omega, by go_num, rfl, HQ, HX1.out⟩, by simp [intOf]; omega⟩
          · have hd : decide (x < l) = false := by simpa using hm
            have HF : Hid (x = sizeLim (E.mk op wd n ks).size l) := by
              unfold Hid
              have h1 := hx.out
              have h2 := sizeAll_take ks k
              have : (E.mk op wd n ks).size = (1 + sizeAll (ks.take k)) + (sizeAll ks - sizeAll (ks.take k)) := by simp only [E.size]; omega
              rw [this, sizeLim_stay (by rw [← h1]; exact hm) (by omega)]; exact h1
            go_wp2_with fail
            go_ret
            exact ⟨by rw [← HF.out]; rfl, ((Ext.refl w).alloc _).trans HX.out⟩
        · have HF : Hid (x = sizeLim (E.mk op wd n ks).size l) := by
            unfold Hid
            obtain rfl : k = ks.length := by omega
            have := hx.out
            rw [List.take_length] at this
            exact this
          go_wp2_with fail
          go_ret
          exact ⟨by rw [← HF.out]; rfl, ((Ext.refl w).alloc _).trans HX.out⟩

set_option maxHeartbeats 400000 in
theorem RSmall_any (e : E) (v : Value) (w : World) (l : Int) (he : EVal w v e) (h0 : 0 ≤ l) (h1 : l ≤ 1000) :
    Calls Tryz.prog 14 #[v, .int .i64 l] w fun r w' => r = .returned (.bool (decide ((e.size : Int) ≤ l))) ∧ Ext w w' := by
  obtain ⟨kv, rfl, hk⟩ := he
  obtain ⟨a, cap, rfl⟩ := SliceAt.shape hk
  have HK := Lib.hid hk; clear hk
  go_enter Tryz.func14, Tryz.ntmps14
  go_wp2_with fail
  refine (RSize_any e.size e _ _ (l + 1) (Nat.le_refl _) ⟨_, rfl, HK.out.ext ((Ext.refl w).alloc _)⟩ (by omega) (by omega)).mono ?_
  rintro r w1 ⟨rfl, hx1⟩
  have HX := Lib.hid (((Ext.refl w).alloc _).trans hx1)
  have HF : Hid (decide (sizeLim e.size (l + 1) ≤ l) = decide ((e.size : Int) ≤ l)) := by
    unfold Hid sizeLim; rw [if_neg (by omega)]; split <;> simp only [decide_eq_decide] <;> omega
  clear hx1
  go_wp2_with fail
  go_ret
  exact ⟨by rw [← HF.out]; rfl, HX.out⟩
end Go.Proofs.YtlcgbdjmlnjhcaaGreatDoor
namespace Go.Proofs.YtlcgbdjmlnjhcaaGreatDoor
open Go.RowKit

structure BitOk (cs ws : List Int) (k : Nat) : Prop where
  bd : ∀ i, i < k → 0 ≤ cs.getD i 0 ∧ cs.getD i 0 < 32 ∧ 1 ≤ ws.getD i 0 ∧ ws.getD i 0 ≤ 8
  inc : ∀ i, i + 1 < k → cs.getD i 0 < cs.getD (i + 1) 0
/-- What Bits computes. -/
def bitsI (cs ws : List Int) (most : Int) : Int := if shapeB cs ws = true ∧ sumI ws ≤ most then sumI ws else -1
theorem shape_len {cs ws : List Int} (h : shapeB cs ws = true) : cs.length ≤ 32 := by
  obtain ⟨_, h2, h3⟩ := shape_iff.1 h
  have key : ∀ i, i < cs.length → (i : Int) ≤ cs.getD i 0 := by
    intro i
    induction i with
    | zero => intro hi; have := (h3 0 hi).1; omega
    | succ i ih => intro hi; have := ih (by omega); have := inc_iff.1 h2 i hi; omega
  rcases Nat.eq_zero_or_pos cs.length with h0 | h0
  · omega
  · have h4 := key (cs.length - 1) (by omega)
    have h5 := (h3 (cs.length - 1) (by omega)).2.1
    omega
theorem shape_ok {cs ws : List Int} : shapeB cs ws = true ↔ cs.length = ws.length ∧ BitOk cs ws cs.length := by
  rw [shape_iff, inc_iff]
  exact ⟨fun ⟨a, b, c⟩ => ⟨a, c, b⟩, fun ⟨a, c⟩ => ⟨a, c.inc, c.bd⟩⟩
theorem bits_no {cs ws : List Int} {most : Int} (h : ¬ shapeB cs ws = true) : bitsI cs ws most = -1 := by unfold bitsI; rw [if_neg (fun c => h c.1)]
theorem BitOk.zero (cs ws : List Int) : BitOk cs ws 0 := ⟨fun i h => absurd h (by omega), fun i h => absurd h (by omega)⟩
theorem bitok_sum {cs ws : List Int} {k : Nat} (h : BitOk cs ws k) (hk : k ≤ ws.length) : 0 ≤ sumI (ws.take k) ∧ sumI (ws.take k) ≤ 8 * k := by
  have hb : ∀ x ∈ ws.take k, 1 ≤ x ∧ x ≤ 8 := by
    intro x hx
    obtain ⟨i, hi, rfl⟩ := List.getElem_of_mem hx
    have hi2 := hi
    rw [List.length_take] at hi2
    have := h.bd i (by omega)
    have e : (ws.take k)[i] = ws.getD i 0 := by simp [List.getD, show i < ws.length by omega]
    rw [e]; exact this.2.2
  have h2 := sum_bound hb (ws.take k).length (Nat.le_refl _)
  rw [List.take_length, List.length_take] at h2
  have : min k ws.length = k := by omega
  rw [this] at h2; exact h2
theorem shape_sum0 {cs ws : List Int} (h : shapeB cs ws = true) : 0 ≤ sumI ws := by
  have := (sum_bound (shape_widths h).2 ws.length (Nat.le_refl _)).1
  rw [List.take_length] at this; exact this
theorem small_of {cs ws : List Int} (h : shapeB cs ws = true) (h2 : sumI ws ≤ 12) : smallB cs ws = true := by unfold smallB; rw [h, decide_eq_true h2]; rfl
end Go.Proofs.YtlcgbdjmlnjhcaaGreatDoor
namespace Go.Proofs.YtlcgbdjmlnjhcaaGreatDoor
open Go.RowKit

/-- The width of a cell of a shape. -/
def wdOf (cs ws : List Int) (c : Int) : Int := ws.getD (cs.countP fun x => decide (x < c)) 0
def wPr (cs ws list : List Int) : List Int := list.map (wdOf cs ws)
def subB (cs list : List Int) : Bool := list.all fun c => cs.contains c
def prB (cs ws is list : List Int) : Bool := validB cs ws is && incB list && subB cs list
/-- The number of the projection of a state that has a number. -/
def prN (cs ws list : List Int) (n : Nat) : Nat := (numS list (wPr cs ws list) (stN cs ws n)).toNat
def prL (cs ws : List Int) (S : List Nat) (list : List Int) : List Nat := listM (mapL (S.map (prN cs ws list)))
theorem inc_pw {l : List Int} (h : incB l = true) : l.Pairwise (· < ·) := by
  rw [List.pairwise_iff_getElem]
  intro i j hi hj hij
  have := inc_all h i j hij hj
  simpa [List.getD, hi, hj] using this
theorem pw_inc {l : List Int} (h : l.Pairwise (· < ·)) : incB l = true := by
  rw [inc_iff]
  intro i hi
  have := List.pairwise_iff_getElem.1 h i (i + 1) (by omega) hi (by omega)
  simpa [List.getD, hi, show i < l.length by omega] using this
theorem count_none {l : List Int} {x : Int} (h : ∀ y ∈ l, x ≤ y) : (l.countP fun y => decide (y < x)) = 0 := by
  rw [List.countP_eq_zero]
  intro y hy
  have := h y hy
  simp; omega
theorem count_at : ∀ {l : List Int}, l.Pairwise (· < ·) → ∀ {i : Nat}, i < l.length → (l.countP fun y => decide (y < l.getD i 0)) = i := by
  intro l
  induction l with
  | nil => intro _ i hi; simp at hi
  | cons a r ih =>
    intro h i hi
    rw [List.pairwise_cons] at h
    cases i with
    | zero =>
      apply count_none
      intro y hy
      rcases List.mem_cons.1 hy with rfl | hy
      · exact Int.le_refl _
      · exact Int.le_of_lt (h.1 y hy)
    | succ i =>
      have hi' : i < r.length := by simpa using hi
      have e : (a :: r).getD (i + 1) 0 = r.getD i 0 := by simp [List.getD]
      rw [e, List.countP_cons, ih h.2 hi']
      have : a < r.getD i 0 := h.1 _ (by rw [List.getD_eq_getElem?_getD, List.getElem?_eq_getElem hi']; exact List.getElem_mem hi')
      rw [decide_eq_true this]; rfl
theorem wd_at {cs ws : List Int} (h : incB cs = true) {i : Nat} (hi : i < cs.length) : wdOf cs ws (cs.getD i 0) = ws.getD i 0 := by
  unfold wdOf
  rw [count_at (inc_pw h) hi]
theorem mem_idx {cs : List Int} {c : Int} (h : c ∈ cs) : ∃ i, i < cs.length ∧ cs.getD i 0 = c := by
  obtain ⟨i, hi, e⟩ := List.getElem_of_mem h
  exact ⟨i, hi, by simp [List.getD, hi, e]⟩
theorem sub_mem {cs list : List Int} (h : subB cs list = true) {c : Int} (hc : c ∈ list) : c ∈ cs := by
  unfold subB at h
  rw [List.all_eq_true] at h
  exact List.contains_iff_mem.1 (h c hc)
theorem sumI_cons (a : Int) (r : List Int) : sumI (a :: r) = a + sumI r := by
  have key : ∀ (l : List Int) (x : Int), l.foldl (· + ·) x = x + l.foldl (· + ·) 0 := by
    intro l
    induction l with
    | nil => intro x; simp
    | cons b s ih => intro x; simp only [List.foldl_cons]; rw [ih, ih (0 + b)]; omega
  unfold sumI
  rw [List.foldl_cons, key]; omega
theorem sumI_nil : sumI [] = 0 := rfl
theorem sum_sub {f : Int → Int} : ∀ (cs list : List Int), cs.Pairwise (· < ·) → list.Pairwise (· < ·) → (∀ c ∈ cs, 0 ≤ f c) → (∀ c ∈ list, c ∈ cs) → sumI (list.map f) ≤ sumI (cs.map f) := by
  intro cs
  induction cs with
  | nil =>
    intro list _ _ _ h
    cases list with
    | nil => exact Int.le_refl _
    | cons b t => exact absurd (h b (by simp)) (by simp)
  | cons a r ih =>
    intro list hc hl hf h
    rw [List.pairwise_cons] at hc
    have hfa := hf a (by simp)
    cases list with
    | nil =>
      have := ih [] hc.2 List.Pairwise.nil (fun c hcc => hf c (by simp [hcc])) (fun c hcc => absurd hcc (by simp))
      rw [List.map_cons, sumI_cons]; simp only [List.map_nil] at *; omega
    | cons b t =>
      rw [List.pairwise_cons] at hl
      by_cases e : b = a
      · subst e
        have := ih t hc.2 hl.2 (fun c hcc => hf c (by simp [hcc])) (fun c hcc => by
          rcases List.mem_cons.1 (h c (by simp [hcc])) with e | e
          · have := hl.1 c hcc; omega
          · exact e)
        rw [List.map_cons, List.map_cons, sumI_cons, sumI_cons]; omega
      · have hb : b ∈ r := by
          rcases List.mem_cons.1 (h b (by simp)) with e' | e'
          · exact absurd e' e
          · exact e'
        have := ih (b :: t) hc.2 (List.pairwise_cons.2 hl) (fun c hcc => hf c (by simp [hcc])) (fun c hcc => by
          rcases List.mem_cons.1 (h c hcc) with e' | e'
          · exfalso
            have h1 := hc.1 b hb
            rcases List.mem_cons.1 hcc with e2 | e2
            · omega
            · have := hl.1 c e2; omega
          · exact e')
        rw [List.map_cons (l := r), sumI_cons]; omega
theorem map_wd {cs ws : List Int} (h : incB cs = true) (hl : cs.length = ws.length) : cs.map (wdOf cs ws) = ws := by
  apply List.ext_getElem (by simp [hl])
  intro i h1 h2
  have hi : i < cs.length := by simpa using h1
  have := wd_at (ws := ws) h hi
  simpa [List.getD, hi, h2] using this
theorem wPr_len (cs ws list : List Int) : (wPr cs ws list).length = list.length := by simp [wPr]
theorem pr_small {cs ws list : List Int} (h : smallB cs ws = true) (hi : incB list = true) (hs : subB cs list = true) : smallB list (wPr cs ws list) = true := by
  obtain ⟨h1, hw, hs0, hs12⟩ := small_sum h
  obtain ⟨hl, hinc, hin⟩ := shape_iff.1 h1
  refine small_of (shape_iff.2 ⟨(wPr_len _ _ _).symm, hi, fun i hi' => ?_⟩) ?_
  · have hm : list.getD i 0 ∈ list := by rw [List.getD_eq_getElem?_getD, List.getElem?_eq_getElem hi']; exact List.getElem_mem hi'
    obtain ⟨j, hj, e⟩ := mem_idx (sub_mem hs hm)
    have hb := hin j hj
    have hwd : (wPr cs ws list).getD i 0 = wdOf cs ws (list.getD i 0) := by simp [wPr, List.getD, hi']
    rw [hwd, ← e, wd_at hinc hj]
    exact hb
  · have hle := sum_sub (f := wdOf cs ws) cs list (inc_pw hinc) (inc_pw hi) (fun c hc => by
      obtain ⟨j, hj, e⟩ := mem_idx hc
      rw [← e, wd_at hinc hj]; have := hin j hj; omega) (fun c hc => sub_mem hs hc)
    rw [map_wd hinc hl] at hle
    exact Int.le_trans hle hs12
theorem prN_lt {cs ws list : List Int} (h : smallB list (wPr cs ws list) = true) (n : Nat) : prN cs ws list n < 4096 ∧ ((prN cs ws list n : Nat) : Int) = numS list (wPr cs ws list) (stN cs ws n) ∧ ((prN cs ws list n : Nat) : Int) < pw (sumI (wPr cs ws list)) := by
  have h1 := num_lt h (stN cs ws n)
  obtain ⟨_, _, hs0, hs12⟩ := small_sum h
  have h2 := pw_mono hs0 hs12
  have e : pw 12 = 4096 := by decide
  unfold prN
  omega
theorem mem_prL {cs ws list : List Int} (h : smallB list (wPr cs ws list) = true) (S : List Nat) {x : Nat} : x ∈ prL cs ws S list ↔ ∃ n ∈ S, prN cs ws list n = x := by
  unfold prL
  have hb : ∀ y ∈ S.map (prN cs ws list), y < 4096 := fun y hy => by
    obtain ⟨n, _, rfl⟩ := List.mem_map.1 hy
    exact (prN_lt h n).1
  rw [mem_listM, bit_mapL_at hb, decide_eq_true_eq, List.mem_map]
  exact ⟨fun h => h.2, fun h' => ⟨hb x (List.mem_map.2 h'), h'⟩⟩
theorem pr_valid {cs ws list : List Int} (h : smallB list (wPr cs ws list) = true) (S : List Nat) : ValidS list (wPr cs ws list) (prL cs ws S list) :=
  ⟨h, listM_sorted _, fun x hx => by
    obtain ⟨n, _, rfl⟩ := (mem_prL h S).1 hx
    exact (prN_lt h n).2.2⟩
end Go.Proofs.YtlcgbdjmlnjhcaaGreatDoor
