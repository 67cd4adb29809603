/-
  The plain law of Before. No program in sight.
  The walk of ExprBefore. Printed by gen_before.py.
-/
import Derived.Test.YtdancokndklpnaaDoorMReb
import Derived.Test.YtdancokndklpnaaDoorMSup
import Derived.Test.YtdancokndklpnaaDoorMRg
import Derived.Test.YtdancokndklpnaaDoorMLs
namespace Go.Proofs.YtdancokndklpnaaDoor
open Go.RowKit

theorem before_wd (x : E) : (beforeLeaf x).wd = x.wd := by unfold beforeLeaf; split <;> cases x <;> rfl
theorem before_n (x : E) : (beforeLeaf x).n = x.n := by unfold beforeLeaf; split <;> cases x <;> rfl
theorem before_op (x : E) : (beforeLeaf x).op = if x.op = 2 then 3 else x.op := by unfold beforeLeaf; split <;> cases x <;> rfl
theorem reb_wd : (e : E) → (e.rebuild beforeLeaf).wd = e.wd
  | .mk op wd n ks => by
    by_cases h : ks = []
    · subst h; rw [rebuild_nil, before_wd]
    · rw [rebuild_cons _ h]; rfl
theorem deepParts {op wd n : Int} {ks : List E} {d : Nat} (h : (E.mk op wd n ks).deep d = true) : 1 ≤ d ∧ shapedW op wd n (ks.map E.wd) = true ∧ ∀ k ∈ ks, k.deep (d - 1) = true := by
  simp only [E.deep, Bool.and_eq_true, decide_eq_true_eq, deepAll_iff] at h
  exact ⟨h.1.1, h.1.2, h.2⟩
theorem deepMk {op wd n : Int} {ks : List E} {d : Nat} (h1 : 1 ≤ d) (h2 : shapedW op wd n (ks.map E.wd) = true) (h3 : ∀ k ∈ ks, k.deep (d - 1) = true) : (E.mk op wd n ks).deep d = true := by
  simp only [E.deep, Bool.and_eq_true, decide_eq_true_eq, deepAll_iff]
  exact ⟨⟨h1, h2⟩, h3⟩
/-- A shaped node has no kids if and only if its operator is 1, 2 or 3. -/
theorem shaped_kids {op wd n : Int} {ws : List Int} (h : shapedW op wd n ws = true) : ws = [] ↔ (op = 1 ∨ op = 2 ∨ op = 3) := by
  constructor
  · intro e
    subst e
    exact (shapedW_leaf h).1
  · rintro (rfl | rfl | rfl)
    · exact (shapedW_const h).1
    · exact (shapedW_cell h (.inl rfl)).1
    · exact (shapedW_cell h (.inr rfl)).1
theorem shapedW_23 {wd n : Int} {ws : List Int} : shapedW 2 wd n ws = shapedW 3 wd n ws := by simp [shapedW]

mutual
theorem before_all (old now : List Int) : (e : E) → (d : Nat) → e.deep d = true → (e.rebuild beforeLeaf).deep d = true ∧ (e.rebuild beforeLeaf).size = e.size ∧ (e.rebuild beforeLeaf).leaves = e.leaves.map beforeLeaf ∧ (e.rebuild beforeLeaf).val old now = e.val old old
  | .mk op wd n ks, d, h => by
    obtain ⟨h1, h2, h3⟩ := deepParts h
    by_cases hk : ks = []
    · subst hk
      have ho := (shaped_kids h2).1 rfl
      rw [rebuild_nil, leaves_nil]
      rcases ho with rfl | rfl | rfl
      · have e : beforeLeaf (.mk 1 wd n []) = .mk 1 wd n [] := rfl
        rw [e]; exact ⟨h, rfl, by rw [leaves_nil]; simp [e], by simp [E.val]⟩
      · have e : beforeLeaf (.mk 2 wd n []) = .mk 3 wd n [] := rfl
        rw [e]
        refine ⟨deepMk h1 (by rw [← shapedW_23]; exact h2) h3, rfl, by rw [leaves_nil]; simp [e], by simp [E.val]⟩
      · have e : beforeLeaf (.mk 3 wd n []) = .mk 3 wd n [] := rfl
        rw [e]; exact ⟨h, rfl, by rw [leaves_nil]; simp [e], by simp [E.val]⟩
    · have ho : ¬ (op = 1 ∨ op = 2 ∨ op = 3) := fun ho => hk (by have := (shaped_kids h2).2 ho; simpa using this)
      obtain ⟨k1, k2, k3, k4⟩ := before_list old now ks (d - 1) h3
      have hk' : ks.map (E.rebuild beforeLeaf) ≠ [] := by simpa using hk
      rw [rebuild_cons _ hk]
      refine ⟨deepMk h1 ?_ ?_, ?_, ?_, ?_⟩
      · rw [List.map_map, show (E.wd ∘ E.rebuild beforeLeaf) = E.wd from funext reb_wd]; exact h2
      · intro k hk
        obtain ⟨x, hx, rfl⟩ := List.mem_map.1 hk
        exact k1 x hx
      · simp only [E.size, k2]
      · rw [leaves_cons hk', leaves_cons hk, k3]
      · rw [E.val, E.val, if_neg (by omega), if_neg (by omega), if_neg (by omega), if_neg (by omega), if_neg (by omega), if_neg (by omega), k4]
theorem before_list (old now : List Int) : (ks : List E) → (d : Nat) → (∀ k ∈ ks, k.deep d = true) → (∀ k ∈ ks, (k.rebuild beforeLeaf).deep d = true) ∧ sizeAll (ks.map (E.rebuild beforeLeaf)) = sizeAll ks ∧ leavesAll (ks.map (E.rebuild beforeLeaf)) = (leavesAll ks).map beforeLeaf ∧ valAll old now (ks.map (E.rebuild beforeLeaf)) = valAll old old ks
  | [], d, h => by simp [sizeAll, leavesAll, valAll]
  | e :: r, d, h => by
    obtain ⟨a1, a2, a3, a4⟩ := before_all old now e d (h e (by simp))
    obtain ⟨b1, b2, b3, b4⟩ := before_list old now r d (fun k hk => h k (by simp [hk]))
    refine ⟨fun k hk => ?_, ?_, ?_, ?_⟩
    · rcases List.mem_cons.1 hk with rfl | hk
      · exact a1
      · exact b1 k hk
    · simp only [List.map_cons, sizeAll, a2, b2]
    · simp only [List.map_cons, leavesAll, a3, b3, List.map_append]
    · simp only [List.map_cons, valAll, a4, b4]
end

theorem mem_upTo {f : Nat → Bool} {k : Nat} {a : Int} : a ∈ upTo f k ↔ ∃ j : Nat, j < k ∧ a = (j : Int) ∧ f j = true := by
  simp only [upTo, List.mem_map, List.mem_filter, List.mem_range]
  constructor
  · rintro ⟨j, ⟨h1, h2⟩, rfl⟩; exact ⟨j, h1, rfl, h2⟩
  · rintro ⟨j, h1, rfl, h2⟩; exact ⟨j, ⟨h1, h2⟩, rfl⟩
section
variable {e : E} (h : e.wf = true)
include h
theorem before_eq : e.before = e.rebuild beforeLeaf := by rw [E.before, if_pos h]
theorem before_wf : e.before.wf = true := by
  rw [before_eq h]
  obtain ⟨h1, h2, _, _⟩ := before_all [] [] e 40 (wf_deep h)
  simp only [E.wf, Bool.and_eq_true, decide_eq_true_eq] at h ⊢
  exact ⟨by rw [h2]; exact h.1, h1⟩
theorem before_leaves : e.before.leaves = e.leaves.map beforeLeaf := by
  rw [before_eq h]; exact (before_all [] [] e 40 (wf_deep h)).2.2.1
theorem before_eval (old now : List Int) : e.before.eval old now = e.eval old old := by
  rw [E.eval, E.eval, if_pos h, if_pos (before_wf h), before_eq h]; exact (before_all old now e 40 (wf_deep h)).2.2.2
theorem before_supNow : e.before.supNow = [] := by
  rw [E.supNow, if_pos (before_wf h)]
  have : occurs 2 e.before.leaves = fun _ => false := by
    funext j
    unfold occurs
    rw [before_leaves h, List.any_eq_false]
    intro x hx
    obtain ⟨y, hy, rfl⟩ := List.mem_map.1 hx
    rw [before_op]
    split <;> simp_all
  rw [this]; simp [upTo]
theorem before_supOld (a : Int) (ha : a ∈ e.before.supOld) : a ∈ e.supOld ∨ a ∈ e.supNow := by
  rw [E.supOld, if_pos (before_wf h), before_leaves h] at ha
  rw [E.supOld, E.supNow, if_pos h, if_pos h]
  obtain ⟨j, hj, rfl, hf⟩ := mem_upTo.1 ha
  unfold occurs at hf
  rw [List.any_eq_true] at hf
  obtain ⟨x, hx, hx2⟩ := hf
  obtain ⟨y, hy, rfl⟩ := List.mem_map.1 hx
  rw [before_op, before_n] at hx2
  by_cases c : y.op = 2
  · exact .inr (mem_upTo.2 ⟨j, hj, rfl, List.any_eq_true.2 ⟨y, hy, by simp_all⟩⟩)
  · exact .inl (mem_upTo.2 ⟨j, hj, rfl, List.any_eq_true.2 ⟨y, hy, by simp_all⟩⟩)
theorem valid_supOld (cells : List CellD) (hv : e.valid cells false = true) : e.supOld = [] := by
  rw [E.supOld, if_pos h]
  simp only [E.valid, Bool.and_eq_true, List.all_eq_true] at hv
  have : occurs 3 e.leaves = fun _ => false := by
    funext j
    unfold occurs
    rw [List.any_eq_false]
    intro x hx
    have := hv.2 x hx
    simp only [okLeaf, Bool.or_eq_true, Bool.and_eq_true, decide_eq_true_eq, Bool.or_false, Bool.not_eq_true', decide_eq_false_iff_not] at this
    rcases this with h1 | h1
    · simp [h1]
    · simp [h1.2]
  rw [this]; simp [upTo]
theorem before_valid (cells : List CellD) : e.before.valid cells true = e.valid cells true := by
  rw [E.valid, E.valid, h, before_wf h, before_leaves h, Bool.true_and, Bool.true_and, List.all_map]
  have key : ∀ x ∈ e.leaves, okLeaf cells true (beforeLeaf x) = okLeaf cells true x := by
    intro x hx
    have ho := (shapedW_leaf ((leaves_shaped e 40 (wf_deep h) x hx).2)).1
    simp only [okLeaf, before_op, before_n, before_wd]
    rcases ho with ho | ho | ho <;> simp [ho]
  rw [Bool.eq_iff_iff, List.all_eq_true, List.all_eq_true]
  exact ⟨fun H x hx => by rw [← key x hx]; exact H x hx, fun H x hx => by show okLeaf cells true (beforeLeaf x) = true; rw [key x hx]; exact H x hx⟩
end
end Go.Proofs.YtdancokndklpnaaDoor
namespace Go.Proofs.YtdancokndklpnaaDoor
open Go.RowKit

theorem Before_ret (e : E) (v : Value) (w : World) (he : EVal w v e) (hM : Masks w) : Calls Tryd.prog 23 #[v] w (RetE e.before w) :=
  (Before_any e v w he hM).mono fun _ _ ⟨⟨v, hr, hv⟩, hx⟩ => ⟨⟨v, hr, hv.eVal⟩, hx⟩

set_option maxRecDepth 100000 in
set_option maxHeartbeats 16000000 in
theorem ExprBefore_any (e : E) (cells : List CellD) (pair : Bool) (old now : List Int) (ve vc vo vn : Value) (w : World) (he : EVal w ve e) (hC : Cells w vc cells) (hO : Ints w vo old) (hN : Ints w vn now) (hM : Masks w) (hNm : Names w) (hP : Pow10 w) :
    Calls Tryd.prog 7 #[ve, vc, .bool pair, vo, vn] w fun r w' => r = .returned (.bool true) ∧ Ext w w' := by
  obtain ⟨ea, el, ec, rfl, _⟩ := he.shape
  obtain ⟨ca, ccap, rfl⟩ := hC.shape
  obtain ⟨oa, ocap, rfl⟩ := hO.shape
  obtain ⟨na, ncap, rfl⟩ := hN.shape
  obtain ⟨W, hW⟩ : ∃ W, W = w.alloc (.cells #[.int .i64 e.op, .int .i64 e.wd, .int .i64 e.n, .slice ea el ec] 24) := ⟨_, rfl⟩
  have hx : Ext w W := by rw [hW]; exact (Ext.refl w).alloc _
  have HV1 : Hid (VarE W w.heap.size e.op e.wd e.n (.slice ea el ec)) := by rw [hW]; exact VarE.new _ _ _ _ _
  have HW := Lib.hid hW; have HX := Lib.hid hx; have HA := Lib.hid (he.ext hx); have HC := Lib.hid (hC.ext hx); have HO := Lib.hid (hO.ext hx); have HN := Lib.hid (hN.ext hx); have HM := Lib.hid (hM.ext hx); have HNm := Lib.hid (hNm.ext hx); have HP := Lib.hid (hP.ext hx)
  clear hW hx he hC hO hN hM hNm hP
  go_enter Tryd.func7, Tryd.ntmps7
  go_wp2_with fail
  rw [← HW.out]
  clear HW
  generalize w.heap.size = b1 at *
  refine (head_any W HM.out HNm.out HP.out).mono ?_
  rintro r wk1 ⟨rfl, x1⟩
  replace HX := Lib.hid (HX.out.trans x1); replace HV1 := Lib.hid (HV1.out.ext x1); replace HA := Lib.hid (HA.out.ext x1); replace HC := Lib.hid (HC.out.ext x1); replace HO := Lib.hid (HO.out.ext x1); replace HN := Lib.hid (HN.out.ext x1); replace HM := Lib.hid (HM.out.ext x1)
  clear x1
  clear HNm HP
  obtain ⟨cHV10, cHV11, cHV12, cHV13⟩ := HV1.out.cells
  go_wp2_with fail
  refine (sound_any e _ _ 60 HA.out (by omega) (by omega)).mono ?_
  rintro r wk2 ⟨rfl, x1⟩
  replace HX := Lib.hid (HX.out.trans x1); replace HV1 := Lib.hid (HV1.out.ext x1); replace HA := Lib.hid (HA.out.ext x1); replace HC := Lib.hid (HC.out.ext x1); replace HO := Lib.hid (HO.out.ext x1); replace HN := Lib.hid (HN.out.ext x1); replace HM := Lib.hid (HM.out.ext x1)
  clear x1 cHV10 cHV11 cHV12 cHV13
  cases h1 : (decide ((e.size : Int) ≤ 60) && e.wf) with
  | false =>
    clear h1
    go_wp2_with fail
    exact bodyPost_ret (v := .bool true) (by simp [results, Tryd.results7, go_sem]) rfl ⟨rfl, HX.out⟩
  | true =>
  simp only [Bool.and_eq_true, decide_eq_true_eq] at h1
  have HS := Lib.hid h1; clear h1
  by_cases hlc : 40 < cells.length
  · go_wp2_with fail
    exact bodyPost_ret (v := .bool true) (by simp [results, Tryd.results7, go_sem]) rfl ⟨rfl, HX.out⟩
  by_cases hlo : 40 < old.length
  · go_wp2_with fail
    exact bodyPost_ret (v := .bool true) (by simp [results, Tryd.results7, go_sem]) rfl ⟨rfl, HX.out⟩
  by_cases hln : 40 < now.length
  · go_wp2_with fail
    exact bodyPost_ret (v := .bool true) (by simp [results, Tryd.results7, go_sem]) rfl ⟨rfl, HX.out⟩
  have HWF := Lib.hid (before_wf HS.out.2)
  have HEV := Lib.hid (before_eval HS.out.2 old now)
  have HSO := Lib.hid (before_supOld HS.out.2)
  have HSN := Lib.hid (before_supNow HS.out.2)
  have HVA := Lib.hid (before_valid HS.out.2 cells)
  have HVO := Lib.hid (valid_supOld HS.out.2 cells)
  obtain ⟨x, hx⟩ : ∃ x, x = e.before := ⟨_, rfl⟩
  rw [← hx] at HWF HEV HSO HSN HVA
  have EX := Lib.hid hx; clear hx
  obtain ⟨cHV10, cHV11, cHV12, cHV13⟩ := HV1.out.cells
  go_wp2_with fail
  refine (Before_ret e _ _ HA.out HM.out).mono ?_
  rintro r wk3 ⟨⟨v, rfl, e⟩, x1⟩
  rw [← EX.out] at e
  obtain ⟨va3, vl3, vc3, rfl, _⟩ := e.shape
  have HB := Lib.hid e
  replace HX := Lib.hid (HX.out.trans x1); replace HV1 := Lib.hid (HV1.out.ext x1); replace HA := Lib.hid (HA.out.ext x1); replace HC := Lib.hid (HC.out.ext x1); replace HO := Lib.hid (HO.out.ext x1); replace HN := Lib.hid (HN.out.ext x1); replace HM := Lib.hid (HM.out.ext x1)
  clear x1 e cHV10 cHV11 cHV12 cHV13
  go_upto_region 5 with fail
  obtain ⟨Wk3, hWk⟩ : ∃ Wk, Wk = wk3.alloc (.cells #[.int .i64 x.op, .int .i64 x.wd, .int .i64 x.n, .slice va3 vl3 vc3] 24) := ⟨_, rfl⟩
  have x1 : Ext wk3 Wk3 := by rw [hWk]; exact (Ext.refl _).alloc _
  have HV2 : Hid (VarE Wk3 wk3.heap.size x.op x.wd x.n (.slice va3 vl3 vc3)) := by rw [hWk]; exact VarE.new _ _ _ _ _
  rw [← hWk]
  replace HX := Lib.hid (HX.out.trans x1); replace HV1 := Lib.hid (HV1.out.ext x1); replace HA := Lib.hid (HA.out.ext x1); replace HC := Lib.hid (HC.out.ext x1); replace HO := Lib.hid (HO.out.ext x1); replace HN := Lib.hid (HN.out.ext x1); replace HM := Lib.hid (HM.out.ext x1); replace HB := Lib.hid (HB.out.ext x1)
  clear x1 hWk
  generalize wk3.heap.size = b2 at *
  obtain ⟨cHV20, cHV21, cHV22, cHV23⟩ := HV2.out.cells
  go_wp2_with fail
  refine (Support_any x _ _ HB.out HM.out).mono ?_
  rintro r wk4 ⟨v1, v2, rfl, s1, s2, x1⟩
  replace HX := Lib.hid (HX.out.trans x1); replace HV1 := Lib.hid (HV1.out.ext x1); replace HA := Lib.hid (HA.out.ext x1); replace HC := Lib.hid (HC.out.ext x1); replace HO := Lib.hid (HO.out.ext x1); replace HN := Lib.hid (HN.out.ext x1); replace HM := Lib.hid (HM.out.ext x1); replace HB := Lib.hid (HB.out.ext x1); replace HV2 := Lib.hid (HV2.out.ext x1)
  clear x1 cHV20 cHV21 cHV22 cHV23
  obtain ⟨xa, xac, rfl⟩ := s1.shape
  obtain ⟨xb, xbc, rfl⟩ := s2.shape
  have HI1 := Lib.hid s1; have HI2 := Lib.hid s2
  clear s1 s2
  obtain ⟨cHV10, cHV11, cHV12, cHV13⟩ := HV1.out.cells
  go_wp2_with fail
  refine (Support_any e _ _ HA.out HM.out).mono ?_
  rintro r wk5 ⟨v1, v2, rfl, s1, s2, x1⟩
  replace HX := Lib.hid (HX.out.trans x1); replace HV1 := Lib.hid (HV1.out.ext x1); replace HA := Lib.hid (HA.out.ext x1); replace HC := Lib.hid (HC.out.ext x1); replace HO := Lib.hid (HO.out.ext x1); replace HN := Lib.hid (HN.out.ext x1); replace HM := Lib.hid (HM.out.ext x1); replace HB := Lib.hid (HB.out.ext x1); replace HV2 := Lib.hid (HV2.out.ext x1); replace HI1 := Lib.hid (HI1.out.ext x1); replace HI2 := Lib.hid (HI2.out.ext x1)
  clear x1 cHV10 cHV11 cHV12 cHV13
  obtain ⟨xc, xcc, rfl⟩ := s1.shape
  obtain ⟨xd, xdc, rfl⟩ := s2.shape
  have HI3 := Lib.hid s1; have HI4 := Lib.hid s2
  clear s1 s2
  obtain ⟨lx, hlx⟩ : ∃ lx, lx = x.supOld := ⟨_, rfl⟩
  obtain ⟨ly, hly⟩ : ∃ ly, ly = x.supNow := ⟨_, rfl⟩
  obtain ⟨lc, hlc2⟩ : ∃ lc, lc = e.supOld := ⟨_, rfl⟩
  obtain ⟨ld, hld⟩ : ∃ ld, ld = e.supNow := ⟨_, rfl⟩
  rw [← hlx] at HI1 HSO ⊢
  rw [← hly] at HI2 HSN ⊢
  rw [← hlc2] at HI3 HSO HVO ⊢
  rw [← hld] at HI4 HSO ⊢
  clear hlx hly hlc2 hld
  have hlxl := SliceAt.len_le HI1.out
  go_wp2_with fail
  go_loop [17] (fun i => ∃ k : Nat, k ≤ lx.length ∧ i = .int .i64 k) (fun i => lx.length - (intOf i).toNat)
  case atStart => exact ⟨0, Nat.zero_le _, rfl⟩
  case round =>
    obtain ⟨k, hk, rfl⟩ := hrel
    by_cases hlt : k < lx.length
    · rcases HI1.out with ⟨_, e⟩ | ⟨b', o', cap', e, _, hc⟩
      · rw [e] at hlt; simp at hlt
      cases e
      have g : wk5.cell? ⟨b', o' + k, none⟩ = some (.int .i64 lx[k]) := by have := hc k hlt; rw [Nat.mul_one] at this; exact this
      clear hc
      have HH := Lib.hid (HSO.out lx[k] (List.getElem_mem hlt))
      go_wp2_with fail
      refine (has_any lc lx[k] _ _ HI3.out).mono ?_
      rintro r w' ⟨rfl, rfl⟩
      cases hq : hasB lc lx[k] with
      | true =>
        clear hq
        go_wp2_with fail
        exact ⟨⟨k + 1, by omega, by go_num⟩, by simp [intOf]; omega⟩
      | false =>
        have HQ : Hid (hasB ld lx[k] = true) := by
          rcases HH.out with h | h
          · rw [hasB, decide_eq_true h] at hq; cases hq
          · exact decide_eq_true h
        clear hq
        go_wp2_with fail
        refine (has_any ld lx[k] _ _ HI4.out).mono ?_
        rintro r w' ⟨rfl, rfl⟩
        rw [HQ.out]
        go_wp2_with fail
        exact ⟨⟨k + 1, by omega, by go_num⟩, by simp [intOf]; omega⟩
    · clear hk
      obtain rfl := HSN.out
      cases pair with
      | true =>
        go_upto_region 14 with fail
        have HR0 := Lib.hid ((Ext.refl wk5).drew)
        obtain ⟨z00, z01, z02, z03⟩ := HV1.out.cells
        obtain ⟨z10, z11, z12, z13⟩ := HV2.out.cells
        go_region_held3 (fun w' => (w'.cell? ⟨b1, 0, none⟩ = some (.int .i64 e.op) ∧ w'.cell? ⟨b1, 1, none⟩ = some (.int .i64 e.wd) ∧ w'.cell? ⟨b1, 2, none⟩ = some (.int .i64 e.n) ∧ w'.cell? ⟨b1, 3, none⟩ = some (.slice ea el ec)) ∧ (w'.cell? ⟨b2, 0, none⟩ = some (.int .i64 x.op) ∧ w'.cell? ⟨b2, 1, none⟩ = some (.int .i64 x.wd) ∧ w'.cell? ⟨b2, 2, none⟩ = some (.int .i64 x.n) ∧ w'.cell? ⟨b2, 3, none⟩ = some (.slice va3 vl3 vc3)))
          (first | (with_reducible exact hk4) | (with_reducible exact hk3) | (with_reducible exact hk2) | (with_reducible exact hk1) | exact ⟨⟨z00, z01, z02, z03⟩, ⟨z10, z11, z12, z13⟩⟩ | fail)
          ((first
            | (have hgo := HR3.out; clear hgo; go_at_call 26; refine (Valid_any e _ _ cells true _ (HA.out.ext HR3.out) (HC.out.ext HR3.out) (HM.out.ext HR3.out)).mono ?_; rintro r wh4 ⟨rfl, x1⟩; have HR4 := Lib.hid (HR3.out.trans x1); have hk4 := And.intro (HV1.out.ext HR4.out).cells ((HV2.out.ext HR4.out).cells); clear x1)
            | (have hgo := HR2.out; clear hgo; go_at_call 26; refine (Valid_any x _ _ cells true _ (HB.out.ext HR2.out) (HC.out.ext HR2.out) (HM.out.ext HR2.out)).mono ?_; rintro r wh3 ⟨rfl, x1⟩; rw [HVA.out]; have HR3 := Lib.hid (HR2.out.trans x1); have hk3 := And.intro (HV1.out.ext HR3.out).cells ((HV2.out.ext HR3.out).cells); clear x1)
            | (have hgo := HR1.out; clear hgo; go_at_call 15; refine (Eval_any e _ _ _ old old _ (HA.out.ext HR1.out) (HO.out.ext HR1.out) (HO.out.ext HR1.out) (HM.out.ext HR1.out)).mono ?_; rintro r wh2 ⟨rfl, x1⟩; have HR2 := Lib.hid (HR1.out.trans x1); have hk2 := And.intro (HV1.out.ext HR2.out).cells ((HV2.out.ext HR2.out).cells); clear x1)
            | (have hgo := HR0.out; clear hgo; go_at_call 15; refine (Eval_any x _ _ _ old now _ (HB.out.ext HR0.out) (HO.out.ext HR0.out) (HN.out.ext HR0.out) (HM.out.ext HR0.out)).mono ?_; rintro r wh1 ⟨rfl, x1⟩; rw [HEV.out]; have HR1 := Lib.hid (HR0.out.trans x1); have hk1 := And.intro (HV1.out.ext HR1.out).cells ((HV2.out.ext HR1.out).cells); clear x1)))
        replace HX := Lib.hid (HX.out.trans HR4.out)
        go_wp2_with fail
        exact bodyPost_ret (v := .bool true) (by simp [results, Tryd.results7, go_sem]) rfl ⟨rfl, HX.out⟩
      | false =>
        obtain ⟨cHV10, cHV11, cHV12, cHV13⟩ := HV1.out.cells
        go_wp2_with fail
        refine (Valid_any e _ _ cells false _ HA.out HC.out HM.out).mono ?_
        rintro r wk6 ⟨rfl, x1⟩
        replace HX := Lib.hid (HX.out.trans x1); replace HV1 := Lib.hid (HV1.out.ext x1); replace HA := Lib.hid (HA.out.ext x1); replace HC := Lib.hid (HC.out.ext x1); replace HO := Lib.hid (HO.out.ext x1); replace HN := Lib.hid (HN.out.ext x1); replace HM := Lib.hid (HM.out.ext x1); replace HB := Lib.hid (HB.out.ext x1); replace HV2 := Lib.hid (HV2.out.ext x1); replace HI1 := Lib.hid (HI1.out.ext x1); replace HI2 := Lib.hid (HI2.out.ext x1); replace HI3 := Lib.hid (HI3.out.ext x1); replace HI4 := Lib.hid (HI4.out.ext x1)
        clear x1 cHV10 cHV11 cHV12 cHV13
        cases hv : e.valid cells false with
        | false =>
          clear hv
          go_upto_region 14 with fail
          have HR0 := Lib.hid ((Ext.refl wk6).drew)
          obtain ⟨z00, z01, z02, z03⟩ := HV1.out.cells
          obtain ⟨z10, z11, z12, z13⟩ := HV2.out.cells
          go_region_held3 (fun w' => (w'.cell? ⟨b1, 0, none⟩ = some (.int .i64 e.op) ∧ w'.cell? ⟨b1, 1, none⟩ = some (.int .i64 e.wd) ∧ w'.cell? ⟨b1, 2, none⟩ = some (.int .i64 e.n) ∧ w'.cell? ⟨b1, 3, none⟩ = some (.slice ea el ec)) ∧ (w'.cell? ⟨b2, 0, none⟩ = some (.int .i64 x.op) ∧ w'.cell? ⟨b2, 1, none⟩ = some (.int .i64 x.wd) ∧ w'.cell? ⟨b2, 2, none⟩ = some (.int .i64 x.n) ∧ w'.cell? ⟨b2, 3, none⟩ = some (.slice va3 vl3 vc3)))
            (first | (with_reducible exact hk4) | (with_reducible exact hk3) | (with_reducible exact hk2) | (with_reducible exact hk1) | exact ⟨⟨z00, z01, z02, z03⟩, ⟨z10, z11, z12, z13⟩⟩ | fail)
            ((first
              | (have hgo := HR3.out; clear hgo; go_at_call 26; refine (Valid_any e _ _ cells true _ (HA.out.ext HR3.out) (HC.out.ext HR3.out) (HM.out.ext HR3.out)).mono ?_; rintro r wh4 ⟨rfl, x1⟩; have HR4 := Lib.hid (HR3.out.trans x1); have hk4 := And.intro (HV1.out.ext HR4.out).cells ((HV2.out.ext HR4.out).cells); clear x1)
              | (have hgo := HR2.out; clear hgo; go_at_call 26; refine (Valid_any x _ _ cells true _ (HB.out.ext HR2.out) (HC.out.ext HR2.out) (HM.out.ext HR2.out)).mono ?_; rintro r wh3 ⟨rfl, x1⟩; rw [HVA.out]; have HR3 := Lib.hid (HR2.out.trans x1); have hk3 := And.intro (HV1.out.ext HR3.out).cells ((HV2.out.ext HR3.out).cells); clear x1)
              | (have hgo := HR1.out; clear hgo; go_at_call 15; refine (Eval_any e _ _ _ old old _ (HA.out.ext HR1.out) (HO.out.ext HR1.out) (HO.out.ext HR1.out) (HM.out.ext HR1.out)).mono ?_; rintro r wh2 ⟨rfl, x1⟩; have HR2 := Lib.hid (HR1.out.trans x1); have hk2 := And.intro (HV1.out.ext HR2.out).cells ((HV2.out.ext HR2.out).cells); clear x1)
              | (have hgo := HR0.out; clear hgo; go_at_call 15; refine (Eval_any x _ _ _ old now _ (HB.out.ext HR0.out) (HO.out.ext HR0.out) (HN.out.ext HR0.out) (HM.out.ext HR0.out)).mono ?_; rintro r wh1 ⟨rfl, x1⟩; rw [HEV.out]; have HR1 := Lib.hid (HR0.out.trans x1); have hk1 := And.intro (HV1.out.ext HR1.out).cells ((HV2.out.ext HR1.out).cells); clear x1)))
          replace HX := Lib.hid (HX.out.trans HR4.out)
          go_wp2_with fail
          exact bodyPost_ret (v := .bool true) (by simp [results, Tryd.results7, go_sem]) rfl ⟨rfl, HX.out⟩
        | true =>
          obtain rfl := HVO.out hv
          clear hv
          go_upto_region 14 with fail
          have HR0 := Lib.hid ((Ext.refl wk6).drew)
          obtain ⟨z00, z01, z02, z03⟩ := HV1.out.cells
          obtain ⟨z10, z11, z12, z13⟩ := HV2.out.cells
          go_region_held3 (fun w' => (w'.cell? ⟨b1, 0, none⟩ = some (.int .i64 e.op) ∧ w'.cell? ⟨b1, 1, none⟩ = some (.int .i64 e.wd) ∧ w'.cell? ⟨b1, 2, none⟩ = some (.int .i64 e.n) ∧ w'.cell? ⟨b1, 3, none⟩ = some (.slice ea el ec)) ∧ (w'.cell? ⟨b2, 0, none⟩ = some (.int .i64 x.op) ∧ w'.cell? ⟨b2, 1, none⟩ = some (.int .i64 x.wd) ∧ w'.cell? ⟨b2, 2, none⟩ = some (.int .i64 x.n) ∧ w'.cell? ⟨b2, 3, none⟩ = some (.slice va3 vl3 vc3)))
            (first | (with_reducible exact hk4) | (with_reducible exact hk3) | (with_reducible exact hk2) | (with_reducible exact hk1) | exact ⟨⟨z00, z01, z02, z03⟩, ⟨z10, z11, z12, z13⟩⟩ | fail)
            ((first
              | (have hgo := HR3.out; clear hgo; go_at_call 26; refine (Valid_any e _ _ cells true _ (HA.out.ext HR3.out) (HC.out.ext HR3.out) (HM.out.ext HR3.out)).mono ?_; rintro r wh4 ⟨rfl, x1⟩; have HR4 := Lib.hid (HR3.out.trans x1); have hk4 := And.intro (HV1.out.ext HR4.out).cells ((HV2.out.ext HR4.out).cells); clear x1)
              | (have hgo := HR2.out; clear hgo; go_at_call 26; refine (Valid_any x _ _ cells true _ (HB.out.ext HR2.out) (HC.out.ext HR2.out) (HM.out.ext HR2.out)).mono ?_; rintro r wh3 ⟨rfl, x1⟩; rw [HVA.out]; have HR3 := Lib.hid (HR2.out.trans x1); have hk3 := And.intro (HV1.out.ext HR3.out).cells ((HV2.out.ext HR3.out).cells); clear x1)
              | (have hgo := HR1.out; clear hgo; go_at_call 15; refine (Eval_any e _ _ _ old old _ (HA.out.ext HR1.out) (HO.out.ext HR1.out) (HO.out.ext HR1.out) (HM.out.ext HR1.out)).mono ?_; rintro r wh2 ⟨rfl, x1⟩; have HR2 := Lib.hid (HR1.out.trans x1); have hk2 := And.intro (HV1.out.ext HR2.out).cells ((HV2.out.ext HR2.out).cells); clear x1)
              | (have hgo := HR0.out; clear hgo; go_at_call 15; refine (Eval_any x _ _ _ old now _ (HB.out.ext HR0.out) (HO.out.ext HR0.out) (HN.out.ext HR0.out) (HM.out.ext HR0.out)).mono ?_; rintro r wh1 ⟨rfl, x1⟩; rw [HEV.out]; have HR1 := Lib.hid (HR0.out.trans x1); have hk1 := And.intro (HV1.out.ext HR1.out).cells ((HV2.out.ext HR1.out).cells); clear x1)))
          replace HX := Lib.hid (HX.out.trans HR4.out)
          go_wp2_with fail
          exact bodyPost_ret (v := .bool true) (by simp [results, Tryd.results7, go_sem]) rfl ⟨rfl, HX.out⟩
end Go.Proofs.YtdancokndklpnaaDoor
