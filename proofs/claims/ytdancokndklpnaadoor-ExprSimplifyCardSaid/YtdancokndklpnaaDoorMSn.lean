/-
  The walk of Size, for expressions smaller than the limit.
  The walk of ExprSimplify. Printed by gen_simpl.py.
-/
import Derived.Test.YtdancokndklpnaaDoorMOw
import Derived.Deep.LoopGhost
import Derived.Test.YtdancokndklpnaaDoorMSm
namespace Go.Proofs.YtdancokndklpnaaDoor
open Go.RowKit

theorem infoSl : (Tryd.prog.info? 22).map (fun i => (i.zero, i.size, i.bytes)) = some (some (.slice none 0 0), 1, 24) := by kernel_rfl
/-- The work that is left: slices of kids, in a row of the call's own. -/
def Stk (W wr : World) (v : Value) (st : List (Value × List E)) : Prop :=
  wr.ownsRow W.heap.size 22 1 v st.length (st.map (·.1)) ∧ (∃ g cap, v = .slice (some ⟨g, 0, none⟩) st.length cap) ∧ ∀ p ∈ st, Kids W p.1 p.2
def stSum (st : List (Value × List E)) : Nat := (st.map fun p => sizeAll p.2).sum
def stMes (st : List (Value × List E)) : Nat := (st.map fun p => 1 + 2 * sizeAll p.2).sum
theorem stSum_snoc (st : List (Value × List E)) (p : Value × List E) : stSum (st ++ [p]) = stSum st + sizeAll p.2 := by simp [stSum]
theorem stMes_snoc (st : List (Value × List E)) (p : Value × List E) : stMes (st ++ [p]) = stMes st + (1 + 2 * sizeAll p.2) := by simp [stMes]
theorem st_len (st : List (Value × List E)) : st.length ≤ stMes st := by
  induction st with
  | nil => simp
  | cons p r ih => simp only [stMes, List.map_cons, List.sum_cons, List.length_cons] at *; omega
theorem Stk.ext {W wr w' : World} {v : Value} {st : List (Value × List E)} (h : Stk W wr v st) (hx : Ext wr w') : Stk W w' v st := ⟨ownRow_keep h.1 hx, h.2⟩
theorem Stk.pop {W wr : World} {g cap n : Nat} {st : List (Value × List E)} {p : Value × List E} (h : Stk W wr (.slice (some ⟨g, 0, none⟩) n cap) (st ++ [p])) :
    Stk W wr (.slice (some ⟨g, 0, none⟩) st.length cap) st ∧ wr.cell? ⟨g, st.length, none⟩ = some p.1 ∧ Kids W p.1 p.2 ∧ n = st.length + 1 ∧ st.length + 1 ≤ cap ∧ cap ≤ 9223372036854775807 := by
  obtain ⟨h1, ⟨g', cap', e'⟩, h2⟩ := h
  cases e'
  rcases h1.2 with ⟨e, _⟩ | ⟨g', cap', cur, e, hg, hh, hn, hc, hs, ht⟩
  · cases e
  cases e
  simp only [List.length_append, List.length_cons, List.length_nil, List.map_append, List.map_cons, List.map_nil] at *
  refine ⟨⟨⟨by simp, .inr ⟨_, _, cur, rfl, hg, hh, by omega, hc, hs, ?_⟩⟩, ⟨_, _, rfl⟩, fun q hq => h2 q (by simp [hq])⟩, ?_, h2 p (by simp), trivial, by omega, by unfold maxLen at hc; omega⟩
  · have := congrArg (List.take (st.length * 1)) ht
    rw [List.take_take, Nat.min_eq_left (by omega)] at this
    rw [this, List.take_append_of_le_length (by simp), List.take_of_length_le (by simp)]
  · have := congrArg (fun x => x[st.length]?) ht
    rw [List.getElem?_take_of_lt (by omega)] at this
    simp only [World.cell?, hh]
    simpa using this
theorem wpList_append_stk {ops : Array Oper} {rest : List Oper} {o : Oper} {a : Act} {Q : Exit → Act → World → Prop} (hgd : o.guard = none) (s x : Operand)
    (ho : o.op = .call { callee := .builtin .append, args := #[s, x], argTypes := #[95, 95] }) (W wr : World) (v kv : Value) (ks : List E) (st : List (Value × List E))
    (hs : a.eval s = v) (hx : a.eval x = .slice (some ⟨wr.heap.size, 0, none⟩) 1 1) (hown : Stk W wr v st) (hk : Kids W kv ks) (hX : Ext W wr) (hl : st.length ≤ 1000000)
    (h : ∀ g cap w', Stk W w' (.slice (some ⟨g, 0, none⟩) (st.length + 1) cap) (st ++ [(kv, ks)]) → Ext W w' → wpList Tryd.prog ops Q rest (a.put o.dst (.slice (some ⟨g, 0, none⟩) (st.length + 1) cap)) w') :
    wpList Tryd.prog ops Q (o :: rest) a (wr.alloc (.cells #[kv] 22)) := by
  obtain ⟨i0, hi, hz0, hz1, hz2⟩ := info_parts infoSl
  have hx0 : Ext wr (wr.alloc (.cells #[kv] 22)) := (Ext.refl wr).alloc _
  refine wpList_append_lies _ hgd s x 95 ho W.heap.size 22 i0 _ 1 24 Tryd.underlying95 hi hz0 hz1 hz2 rfl (by decide) v st.length (st.map (·.1)) hs (ownRow_keep hown.1 hx0) ⟨wr.heap.size, 0, none⟩ 1 1 [kv] hx rfl ?_ ?_ (by decide) ?_ ?_ ?_ (wr.heap.size + 1) (by simp) ?_
  · intro j u hj
    obtain ⟨rfl, rfl⟩ : j = 0 ∧ u = kv := by
      cases j with
      | zero => simp at hj; exact ⟨rfl, hj.symm⟩
      | succ j => simp at hj
    simp [Addr.add]
  · intro u hu; simp at hu; subst hu; exact hk.one
  · unfold maxLen; omega
  · omega
  · have := hX.size; simp; omega
  · intro g cap w' h1 h2 h3 h4
    have hX' : Ext W w' := (hX.trans hx0).grown h2 fun q hq => (ownA_block hown.1 q hq).1
    refine h g cap w' ⟨by simpa using h1, ⟨g, cap, by simp⟩, fun p hp => ?_⟩ hX'
    rcases List.mem_append.1 hp with hp | hp
    · exact hown.2.2 p hp
    · simp at hp; subst hp; exact hk

def SzRel (W : World) (e : E) (g : Nat) (count work : Value) (wr : World) : Prop :=
  ∃ (st : List (Value × List E)) (c : Nat), g = stMes st ∧ count = .int .i64 c ∧ Ext W wr ∧ Stk W wr work st ∧ c + stSum st = e.size ∧ stMes st ≤ 2 * e.size + 1
def SzIn (W : World) (ks : List E) (st : List (Value × List E)) (work i : Value) (wr : World) : Prop :=
  ∃ (j : Nat) (st2 : List (Value × List E)), j ≤ ks.length ∧ i = .int .i64 j ∧ Ext W wr ∧ Stk W wr work st2 ∧ stSum st2 + j = stSum st + sizeAll (ks.take j) ∧ stMes st2 ≤ stMes st + 2 * sizeAll (ks.take j)

set_option maxHeartbeats 4000000 in
theorem Size_any (e : E) (v : Value) (w : World) (l : Int) (he : EVal w v e) (h0 : (e.size : Int) < l) (h1 : l ≤ 1000) : Calls Tryd.prog 29 #[v, .int .i64 l] w fun r w' => r = .returned (.int .i64 (e.size : Int)) ∧ Ext w w' := by
  obtain ⟨a, al, ac, rfl, hk⟩ := he.shape
  have hpos := e.size_pos
  have hl0 : decide (l ≤ 0) = false := decide_eq_false (by omega)
  obtain ⟨W, hW⟩ : ∃ W, W = w.alloc (.cells #[.int .i64 e.op, .int .i64 e.wd, .int .i64 e.n, .slice a al ac] 24) := ⟨_, rfl⟩
  have hx : Ext w W := by rw [hW]; exact (Ext.refl w).alloc _
  have HV : Hid (VarE W w.heap.size e.op e.wd e.n (.slice a al ac)) := by rw [hW]; exact VarE.new _ _ _ _ _
  have HW := Lib.hid hW; have HX := Lib.hid hx; have HK := Lib.hid (hk.ext hx)
  clear hW hx hk he
  obtain ⟨c0, c1, c2, c3⟩ := HV.out.cells
  have HES : Hid (e.size = 1 + sizeAll e.kids) := by cases e; simp [Hid, E.size]
  go_enter Tryd.func29, Tryd.ntmps29
  go_upto_region 1 with fail
  rw [← HW.out]; clear HW
  generalize w.heap.size = B at *
  go_wp2_with fail
  clear c0 c1 c2 c3
  have HS0 : Hid (SzRel W e (stMes [(Value.slice a al ac, e.kids)]) (.int .i64 1) (.slice (some ⟨W.heap.size, 0, none⟩) 1 1) (W.alloc (.cells #[.slice a al ac] 22))) := by
    refine ⟨_, 1, rfl, rfl, (Ext.refl W).alloc _, ⟨⟨rfl, .inr ⟨_, _, #[.slice a al ac], rfl, Nat.le_refl _, heap_new _ _, Nat.le_refl _, by unfold maxLen; omega, rfl, rfl⟩⟩, ⟨_, _, rfl⟩, fun p hp => ?_⟩, ?_, ?_⟩
    · simp at hp; subst hp; exact HK.out
    · rw [HES.out]; simp [stSum]
    · rw [HES.out]; simp [stMes]; omega
  go_loopg [5, 6] (stMes [(Value.slice a al ac, e.kids)]) (fun g c v wr => SzRel W e g c v wr)
  case atStart => exact HS0.out
  case round =>
    clear HS0
    obtain ⟨st, c, rfl, rfl, hX, hS, hsum, hmb⟩ := hrel
    have HXr := Lib.hid hX
    clear hX
    rcases List.eq_nil_or_concat st with rfl | ⟨st', p, rfl⟩
    · obtain ⟨_, ⟨g, cap, rfl⟩, _⟩ := hS
      have hc : c = e.size := by simpa [stSum] using hsum
      subst hc
      have hmin : min (e.size : Int) l = (e.size : Int) := by omega
      clear hsum hmb
      simp only [List.length_nil]
      go_wp2_with fail
      go_ret
      exact ⟨rfl, HX.out.trans HXr.out⟩
    · rw [List.concat_eq_append] at hS hsum hmb
      obtain ⟨kv, ks⟩ := p
      obtain ⟨g, cap, rfl⟩ := hS.2.1
      obtain ⟨hS', hcell, hkids, hn, hcap, hcap2⟩ := hS.pop
      simp only at hcell hkids
      obtain ⟨ka, kc, rfl⟩ := SliceAt.shape hkids
      have hlen : (st' ++ [(Value.slice ka ks.length kc, ks)]).length = st'.length + 1 := by simp
      rw [hlen]
      rw [stSum_snoc] at hsum
      rw [stMes_snoc] at hmb
      simp only at hsum hmb
      have hkl := length_le_sizeAll ks
      have HS := Lib.hid hS'; have HKK := Lib.hid hkids; have HSUM := Lib.hid hsum; have HMB := Lib.hid hmb
      have hb1 : c + ks.length ≤ e.size := by omega
      have hst : st'.length ≤ 9223372036854775806 := by omega
      clear hS hS' hkids hsum hn hlen hmb
      have hge : decide (l ≤ (c : Int) + (ks.length : Int)) = false := decide_eq_false (by omega)
      have hlt0 : decide ((c : Int) < l) = true := decide_eq_true (by omega)
      go_wp2_with fail
      go_loopw [6, 43] (fun v i wr => SzIn W ks st' v i wr) (fun _ i _ => ks.length - (intOf i).toNat)
      case atStart => exact ⟨0, st', Nat.zero_le _, rfl, HXr.out, HS.out, by simp [sizeAll], by simp⟩
      case round =>
        obtain ⟨j, st2, hj, rfl, hX2, hS2, hsum2, hmes2⟩ := hrel
        obtain ⟨g2, cap2, rfl⟩ := hS2.2.1
        have HX2 := Lib.hid hX2; have HS2 := Lib.hid hS2; have HM2 := Lib.hid hmes2; have HSM2 := Lib.hid hsum2
        clear hX2 hS2 hsum2 hmes2 hcell
        by_cases hlt : j < ks.length
        · rcases HKK.out with ⟨_, e⟩ | ⟨b', o', cap', e, _, hk'⟩
          · rw [e] at hlt; simp at hlt
          cases e
          obtain ⟨e0, e1, e2, kw, e3, hkw⟩ := (hk' j hlt).cells
          obtain ⟨wa, wc, rfl⟩ := SliceAt.shape hkw
          have g0 := HX2.out.cell e0; have g1 := HX2.out.cell e1; have g2 := HX2.out.cell e2; have g3 := HX2.out.cell e3
          have HKW := Lib.hid hkw
          clear hk' e0 e1 e2 e3 hkw
          have HSN : Hid (sizeAll (ks.take (j + 1)) = sizeAll (ks.take j) + (1 + sizeAll ks[j].kids)) := by
            unfold Hid
            rw [sizeAll_snoc hlt]
            generalize ks[j] = q
            cases q; simp [E.size]
          have HL2 : Hid (st2.length ≤ 1000000) := by
            have h1 := st_len st2
            have h2 := HM2.out
            have h3 := HMB.out
            have h4 := sizeAll_take ks j
            unfold Hid; omega
          by_cases hz : ks[j].kids.length = 0
          · have hz1 : ¬ 0 < ks[j].kids.length := by omega
            have HZ : Hid (sizeAll ks[j].kids = 0) := by rw [List.length_eq_zero_iff.1 hz]; rfl
            have hzd : decide (0 < ks[j].kids.length) = false := decide_eq_false hz1
            have HZ0 := Lib.hid hz
            clear hz
            go_wp2_with fail
            refine ⟨⟨j + 1, st2, by omega, by go_num, HX2.out.alloc _, HS2.out.ext ((Ext.refl _).alloc _), ?_, ?_⟩, by simp [intOf]; omega⟩
            · rw [HSN.out, HZ.out]; have := HSM2.out; omega
            · rw [HSN.out]; have := HM2.out; omega
          · have hz1 : 0 < ks[j].kids.length := by omega
            have hzd : decide (0 < ks[j].kids.length) = true := decide_eq_true hz1
            clear hz
            go_upto_region 13 with fail
            obtain ⟨W2, hW2⟩ : ∃ W2, W2 = wr.alloc (.cells #[.int .i64 ks[j].op, .int .i64 ks[j].wd, .int .i64 ks[j].n, .slice wa ks[j].kids.length wc] 24) := ⟨_, rfl⟩
            have hxw : Ext wr W2 := by rw [hW2]; exact (Ext.refl _).alloc _
            have HV2 : Hid (VarE W2 wr.heap.size ks[j].op ks[j].wd ks[j].n (.slice wa ks[j].kids.length wc)) := by rw [hW2]; exact VarE.new _ _ _ _ _
            rw [← hW2]
            have HX3 := Lib.hid (HX2.out.trans hxw); have HS3 := Lib.hid (HS2.out.ext hxw)
            clear hxw hW2 g0 g1 g2 g3
            generalize wr.heap.size = B2 at *
            obtain ⟨g0, g1, g2, g3⟩ := HV2.out.cells
            go_wp2_with (at_builtin; refine wpList_append_stk rfl (.tmp 51) (.tmp 54) rfl W W2 _ _ ks[j].kids st2 rfl rfl HS3.out HKW.out HX3.out HL2.out ?_)
            intro g4 cap4 w4 hS4 hX4
            have HS4 := Lib.hid hS4; have HX4 := Lib.hid hX4
            clear hS4 hX4
            go_wp2_with fail
            refine ⟨⟨j + 1, _, by omega, by go_num, HX4.out, by simpa using HS4.out, ?_, ?_⟩, by simp [intOf]; omega⟩
            · rw [HSN.out, stSum_snoc]; have := HSM2.out; simp only; omega
            · rw [HSN.out, stMes_snoc]; have := HM2.out; simp only; omega
        · have HF : Hid (SzRel W e (stMes st2) (.int .i64 ((c : Int) + (ks.length : Int))) (.slice (some ⟨g2, 0, none⟩) st2.length cap2) wr) := by
            refine ⟨st2, c + ks.length, rfl, by simp, HX2.out, HS2.out, ?_, ?_⟩
            · have h1 := HSM2.out
              have h2 := HSUM.out
              rw [List.take_of_length_le (by omega)] at h1
              omega
            · have h1 := HM2.out
              have h2 := HMB.out
              rw [List.take_of_length_le (by omega)] at h1
              omega
          have HMES : Hid (stMes st2 < stMes (st' ++ [(Value.slice ka ks.length kc, ks)])) := by
            have h1 := HM2.out
            rw [List.take_of_length_le (by omega)] at h1
            unfold Hid
            rw [stMes_snoc]; simp only; omega
          go_wp2_with fail
          go_roundg (stMes st2)
          case measure => rw [List.concat_eq_append]; exact HMES.out
          case rel => exact HF.out
end Go.Proofs.YtdancokndklpnaaDoor
namespace Go.Proofs.YtdancokndklpnaaDoor
open Go.RowKit

theorem Simplify_ret (e : E) (v : Value) (w : World) (he : EVal w v e) (hM : Masks w) : Calls Tryd.prog 27 #[v] w (RetE e.simplified w) :=
  (Simplify_any e v w he hM).mono fun _ _ ⟨⟨v, hr, hv⟩, hx⟩ => ⟨⟨v, hr, hv.eVal⟩, hx⟩
theorem sup_sub {x e : E} (hx : x.wf = true) (he : e.wf = true) (h : ∀ y ∈ x.leaves, y.op = 1 ∨ y ∈ e.leaves) : (∀ a ∈ x.supOld, a ∈ e.supOld) ∧ ∀ a ∈ x.supNow, a ∈ e.supNow := by
  have key : ∀ (op : Int) (a : Int), op ≠ 1 → a ∈ upTo (occurs op x.leaves) 32 → a ∈ upTo (occurs op e.leaves) 32 := by
    intro op a ho ha
    obtain ⟨j, hj, rfl, hf⟩ := mem_upTo.1 ha
    unfold occurs at hf
    rw [List.any_eq_true] at hf
    obtain ⟨y, hy, hf⟩ := hf
    rw [Bool.and_eq_true, decide_eq_true_eq, decide_eq_true_eq] at hf
    refine mem_upTo.2 ⟨j, hj, rfl, List.any_eq_true.2 ⟨y, ?_, by rw [hf.1, hf.2]; simp⟩⟩
    rcases h y hy with h1 | h1
    · exact absurd (hf.1.symm.trans h1) ho
    · exact h1
  rw [E.supOld, E.supOld, E.supNow, E.supNow, if_pos hx, if_pos he, if_pos hx, if_pos he]
  exact ⟨fun a ha => key 3 a (by omega) ha, fun a ha => key 2 a (by omega) ha⟩
theorem simplify_law {e : E} (he : e.wf = true) (old now : List Int) : e.simplified.wf = true ∧ e.simplified.wd = e.wd ∧ e.simplified.size ≤ e.size ∧ e.simplified.eval old now = e.eval old now ∧ e.simplified.simplified = e.simplified ∧
    (∀ a ∈ e.simplified.supOld, a ∈ e.supOld) ∧ ∀ a ∈ e.simplified.supNow, a ∈ e.supNow := by
  obtain ⟨h1, h2, h3, h4, h5, h6⟩ := simp_law old now e 40 (wf_deep he)
  have e0 : e.simplified = e.simp := by rw [E.simplified, if_pos he]
  have hw : e.simp.wf = true := by
    have := wf_size he
    simp only [E.wf, Bool.and_eq_true, decide_eq_true_eq]
    exact ⟨by omega, h1⟩
  rw [e0]
  have hs := sup_sub hw he h5
  refine ⟨hw, h2, h4, ?_, ?_, hs.1, hs.2⟩
  · rw [E.eval, E.eval, if_pos hw, if_pos he, h3]
  · rw [E.simplified, if_pos hw, h6.simp]

set_option maxRecDepth 100000 in
set_option maxHeartbeats 16000000 in
theorem ExprSimplify_any (e : E) (old now : List Int) (ve vo vn : Value) (w : World) (he : EVal w ve e) (hO : Ints w vo old) (hN : Ints w vn now) (hM : Masks w) (hNm : Names w) (hP : Pow10 w) :
    Calls Tryd.prog 8 #[ve, vo, vn] w fun r w' => r = .returned (.bool true) ∧ Ext w w' := by
  obtain ⟨ea, el, ec, rfl, _⟩ := he.shape
  obtain ⟨oa, ocap, rfl⟩ := hO.shape
  obtain ⟨na, ncap, rfl⟩ := hN.shape
  obtain ⟨W, hW⟩ : ∃ W, W = w.alloc (.cells #[.int .i64 e.op, .int .i64 e.wd, .int .i64 e.n, .slice ea el ec] 24) := ⟨_, rfl⟩
  have hx : Ext w W := by rw [hW]; exact (Ext.refl w).alloc _
  have HV1 : Hid (VarE W w.heap.size e.op e.wd e.n (.slice ea el ec)) := by rw [hW]; exact VarE.new _ _ _ _ _
  have HW := Lib.hid hW; have HX := Lib.hid hx; have HA := Lib.hid (he.ext hx); have HO := Lib.hid (hO.ext hx); have HN := Lib.hid (hN.ext hx); have HM := Lib.hid (hM.ext hx); have HNm := Lib.hid (hNm.ext hx); have HP := Lib.hid (hP.ext hx)
  clear hW hx he hO hN hM hNm hP
  go_enter Tryd.func8, Tryd.ntmps8
  go_wp2_with fail
  rw [← HW.out]
  clear HW
  generalize w.heap.size = b1 at *
  refine (head_any W HM.out HNm.out HP.out).mono ?_
  rintro r wk1 ⟨rfl, x1⟩
  replace HX := Lib.hid (HX.out.trans x1); replace HV1 := Lib.hid (HV1.out.ext x1); replace HA := Lib.hid (HA.out.ext x1); replace HO := Lib.hid (HO.out.ext x1); replace HN := Lib.hid (HN.out.ext x1); replace HM := Lib.hid (HM.out.ext x1)
  clear x1
  clear HNm HP
  obtain ⟨cHV10, cHV11, cHV12, cHV13⟩ := HV1.out.cells
  go_wp2_with fail
  refine (sound_any e _ _ 60 HA.out (by omega) (by omega)).mono ?_
  rintro r wk2 ⟨rfl, x1⟩
  replace HX := Lib.hid (HX.out.trans x1); replace HV1 := Lib.hid (HV1.out.ext x1); replace HA := Lib.hid (HA.out.ext x1); replace HO := Lib.hid (HO.out.ext x1); replace HN := Lib.hid (HN.out.ext x1); replace HM := Lib.hid (HM.out.ext x1)
  clear x1 cHV10 cHV11 cHV12 cHV13
  cases h1 : (decide ((e.size : Int) ≤ 60) && e.wf) with
  | false =>
    clear h1
    go_wp2_with fail
    exact bodyPost_ret (v := .bool true) (by simp [results, Tryd.results8, go_sem]) rfl ⟨rfl, HX.out⟩
  | true =>
  simp only [Bool.and_eq_true, decide_eq_true_eq] at h1
  have HS := Lib.hid h1; clear h1
  by_cases hlo : 40 < old.length
  · go_wp2_with fail
    exact bodyPost_ret (v := .bool true) (by simp [results, Tryd.results8, go_sem]) rfl ⟨rfl, HX.out⟩
  by_cases hln : 40 < now.length
  · go_wp2_with fail
    exact bodyPost_ret (v := .bool true) (by simp [results, Tryd.results8, go_sem]) rfl ⟨rfl, HX.out⟩
  have HL := Lib.hid (simplify_law HS.out.2 old now)
  obtain ⟨x, hx⟩ : ∃ x, x = e.simplified := ⟨_, rfl⟩
  rw [← hx] at HL
  have EX := Lib.hid hx; clear hx
  have HL1 := Lib.hid HL.out.1; have HL2 := Lib.hid HL.out.2.1; have HL3 := Lib.hid HL.out.2.2.1; have HL4 := Lib.hid HL.out.2.2.2.1; have HL5 := Lib.hid HL.out.2.2.2.2.1; have HL6 := Lib.hid HL.out.2.2.2.2.2.1; have HL7 := Lib.hid HL.out.2.2.2.2.2.2
  clear HL
  obtain ⟨cHV10, cHV11, cHV12, cHV13⟩ := HV1.out.cells
  go_wp2_with fail
  refine (Simplify_ret e _ _ HA.out HM.out).mono ?_
  rintro r wk3 ⟨⟨v, rfl, e⟩, x1⟩
  rw [← EX.out] at e
  obtain ⟨va3, vl3, vc3, rfl, _⟩ := e.shape
  have HB := Lib.hid e
  replace HX := Lib.hid (HX.out.trans x1); replace HV1 := Lib.hid (HV1.out.ext x1); replace HA := Lib.hid (HA.out.ext x1); replace HO := Lib.hid (HO.out.ext x1); replace HN := Lib.hid (HN.out.ext x1); replace HM := Lib.hid (HM.out.ext x1)
  clear x1 e cHV10 cHV11 cHV12 cHV13
  go_upto_region 5 with fail
  obtain ⟨Wk3, hWk⟩ : ∃ Wk, Wk = wk3.alloc (.cells #[.int .i64 x.op, .int .i64 x.wd, .int .i64 x.n, .slice va3 vl3 vc3] 24) := ⟨_, rfl⟩
  have x1 : Ext wk3 Wk3 := by rw [hWk]; exact (Ext.refl _).alloc _
  have HV2 : Hid (VarE Wk3 wk3.heap.size x.op x.wd x.n (.slice va3 vl3 vc3)) := by rw [hWk]; exact VarE.new _ _ _ _ _
  rw [← hWk]
  replace HX := Lib.hid (HX.out.trans x1); replace HV1 := Lib.hid (HV1.out.ext x1); replace HA := Lib.hid (HA.out.ext x1); replace HO := Lib.hid (HO.out.ext x1); replace HN := Lib.hid (HN.out.ext x1); replace HM := Lib.hid (HM.out.ext x1); replace HB := Lib.hid (HB.out.ext x1)
  clear x1 hWk
  generalize wk3.heap.size = b2 at *
  obtain ⟨cHV10, cHV11, cHV12, cHV13⟩ := HV1.out.cells
  go_wp2_with fail
  refine (Support_any e _ _ HA.out HM.out).mono ?_
  rintro r wk4 ⟨v1, v2, rfl, s1, s2, x1⟩
  replace HX := Lib.hid (HX.out.trans x1); replace HV1 := Lib.hid (HV1.out.ext x1); replace HA := Lib.hid (HA.out.ext x1); replace HO := Lib.hid (HO.out.ext x1); replace HN := Lib.hid (HN.out.ext x1); replace HM := Lib.hid (HM.out.ext x1); replace HB := Lib.hid (HB.out.ext x1); replace HV2 := Lib.hid (HV2.out.ext x1)
  clear x1 cHV10 cHV11 cHV12 cHV13
  obtain ⟨xa, xac, rfl⟩ := s1.shape
  obtain ⟨xb, xbc, rfl⟩ := s2.shape
  have HI1 := Lib.hid s1; have HI2 := Lib.hid s2
  clear s1 s2
  obtain ⟨cHV20, cHV21, cHV22, cHV23⟩ := HV2.out.cells
  go_wp2_with fail
  refine (Support_any x _ _ HB.out HM.out).mono ?_
  rintro r wk5 ⟨v1, v2, rfl, s1, s2, x1⟩
  replace HX := Lib.hid (HX.out.trans x1); replace HV1 := Lib.hid (HV1.out.ext x1); replace HA := Lib.hid (HA.out.ext x1); replace HO := Lib.hid (HO.out.ext x1); replace HN := Lib.hid (HN.out.ext x1); replace HM := Lib.hid (HM.out.ext x1); replace HB := Lib.hid (HB.out.ext x1); replace HV2 := Lib.hid (HV2.out.ext x1); replace HI1 := Lib.hid (HI1.out.ext x1); replace HI2 := Lib.hid (HI2.out.ext x1)
  clear x1 cHV20 cHV21 cHV22 cHV23
  obtain ⟨xc, xcc, rfl⟩ := s1.shape
  obtain ⟨xd, xdc, rfl⟩ := s2.shape
  have HI3 := Lib.hid s1; have HI4 := Lib.hid s2
  clear s1 s2
  obtain ⟨la, hla⟩ : ∃ la, la = e.supOld := ⟨_, rfl⟩
  obtain ⟨lb, hlb⟩ : ∃ lb, lb = e.supNow := ⟨_, rfl⟩
  obtain ⟨lc, hlc⟩ : ∃ lc, lc = x.supOld := ⟨_, rfl⟩
  obtain ⟨ld, hld⟩ : ∃ ld, ld = x.supNow := ⟨_, rfl⟩
  rw [← hla] at HI1 HL6 ⊢
  rw [← hlb] at HI2 HL7 ⊢
  rw [← hlc] at HI3 HL6 ⊢
  rw [← hld] at HI4 HL7 ⊢
  clear hla hlb hlc hld
  have hlcl := SliceAt.len_le HI3.out
  have hldl := SliceAt.len_le HI4.out
  go_wp2_with fail
  go_loop [13] (fun i => ∃ k : Nat, k ≤ lc.length ∧ i = .int .i64 k) (fun i => lc.length - (intOf i).toNat)
  case atStart => exact ⟨0, Nat.zero_le _, rfl⟩
  case round =>
    obtain ⟨k13, hk13, rfl⟩ := hrel
    by_cases hlt13 : k13 < lc.length
    · rcases HI3.out with ⟨_, e⟩ | ⟨b', o', cap', e, _, hc⟩
      · rw [e] at hlt13; simp at hlt13
      cases e
      have g : wk5.cell? ⟨b', o' + k13, none⟩ = some (.int .i64 lc[k13]) := by have := hc k13 hlt13; rw [Nat.mul_one] at this; exact this
      clear hc
      have HQ : Hid (hasB la lc[k13] = true) := decide_eq_true (HL6.out _ (List.getElem_mem hlt13))
      go_wp2_with fail
      refine (has_any la lc[k13] _ _ HI1.out).mono ?_
      rintro r w' ⟨rfl, rfl⟩
      rw [HQ.out]
      go_wp2_with fail
      exact ⟨⟨k13 + 1, by omega, by go_num⟩, by simp [intOf]; omega⟩
    · clear hk13
      go_wp2_with fail
      go_loop [14] (fun i => ∃ k : Nat, k ≤ ld.length ∧ i = .int .i64 k) (fun i => ld.length - (intOf i).toNat)
      case atStart => exact ⟨0, Nat.zero_le _, rfl⟩
      case round =>
        obtain ⟨k14, hk14, rfl⟩ := hrel
        by_cases hlt14 : k14 < ld.length
        · rcases HI4.out with ⟨_, e⟩ | ⟨b', o', cap', e, _, hc⟩
          · rw [e] at hlt14; simp at hlt14
          cases e
          have g : wk5.cell? ⟨b', o' + k14, none⟩ = some (.int .i64 ld[k14]) := by have := hc k14 hlt14; rw [Nat.mul_one] at this; exact this
          clear hc
          have HQ : Hid (hasB lb ld[k14] = true) := decide_eq_true (HL7.out _ (List.getElem_mem hlt14))
          go_wp2_with fail
          refine (has_any lb ld[k14] _ _ HI2.out).mono ?_
          rintro r w' ⟨rfl, rfl⟩
          rw [HQ.out]
          go_wp2_with fail
          exact ⟨⟨k14 + 1, by omega, by go_num⟩, by simp [intOf]; omega⟩
        · clear hk14
          have hwd : (x.wd == e.wd) = true := by rw [HL2.out]; simp
          have hsz : x.size ≤ e.size := HL3.out
          have hszd : decide (x.size ≤ e.size) = true := decide_eq_true hsz
          have HQE : Hid (x.eqB x = true) := (eqB_iff x x).2 rfl
          have he60 : (e.size : Int) < 100 := by have := HS.out.1; omega
          have hx60 : (x.size : Int) < 100 := by omega
          go_upto_region 17 with fail
          have HR0 := Lib.hid ((Ext.refl wk5).drew)
          obtain ⟨z00, z01, z02, z03⟩ := HV1.out.cells
          obtain ⟨z10, z11, z12, z13⟩ := HV2.out.cells
          go_region_held3 (fun w' => (w'.cell? ⟨b1, 0, none⟩ = some (.int .i64 e.op) ∧ w'.cell? ⟨b1, 1, none⟩ = some (.int .i64 e.wd) ∧ w'.cell? ⟨b1, 2, none⟩ = some (.int .i64 e.n) ∧ w'.cell? ⟨b1, 3, none⟩ = some (.slice ea el ec)) ∧ (w'.cell? ⟨b2, 0, none⟩ = some (.int .i64 x.op) ∧ w'.cell? ⟨b2, 1, none⟩ = some (.int .i64 x.wd) ∧ w'.cell? ⟨b2, 2, none⟩ = some (.int .i64 x.n) ∧ w'.cell? ⟨b2, 3, none⟩ = some (.slice va3 vl3 vc3)))
            (first | (with_reducible exact hk7) | (with_reducible exact hk6) | (with_reducible exact hk5) | (with_reducible exact hk4) | (with_reducible exact hk3) | (with_reducible exact hk2) | (with_reducible exact hk1) | exact ⟨⟨z00, z01, z02, z03⟩, ⟨z10, z11, z12, z13⟩⟩ | fail)
            ((first
              | (have hgo := HR6.out; clear hgo; go_at_call 17; refine (RSame_any x.size x x _ _ _ (Nat.le_refl _) HY.out (HB.out.ext HR6.out)).mono ?_; rintro r wh7 ⟨rfl, x1⟩; rw [HQE.out]; have HR7 := Lib.hid (HR6.out.trans x1); have hk7 := And.intro (HV1.out.ext HR7.out).cells ((HV2.out.ext HR7.out).cells); clear x1)
              | (have hgo := HR5.out; clear hgo; go_at_call 27; refine (Simplify_ret x _ _ (HB.out.ext HR5.out) (HM.out.ext HR5.out)).mono ?_; rintro r wh6 ⟨⟨v, rfl, e9⟩, x1⟩; rw [HL5.out] at e9; obtain ⟨ya, yl, yc, rfl, _⟩ := e9.shape; have HY := Lib.hid e9; clear e9; have HR6 := Lib.hid (HR5.out.trans x1); have hk6 := And.intro (HV1.out.ext HR6.out).cells ((HV2.out.ext HR6.out).cells); clear x1)
              | (have hgo := HR4.out; clear hgo; go_at_call 15; refine (Eval_any e _ _ _ old now _ (HA.out.ext HR4.out) (HO.out.ext HR4.out) (HN.out.ext HR4.out) (HM.out.ext HR4.out)).mono ?_; rintro r wh5 ⟨rfl, x1⟩; have HR5 := Lib.hid (HR4.out.trans x1); have hk5 := And.intro (HV1.out.ext HR5.out).cells ((HV2.out.ext HR5.out).cells); clear x1)
              | (have hgo := HR3.out; clear hgo; go_at_call 15; refine (Eval_any x _ _ _ old now _ (HB.out.ext HR3.out) (HO.out.ext HR3.out) (HN.out.ext HR3.out) (HM.out.ext HR3.out)).mono ?_; rintro r wh4 ⟨rfl, x1⟩; rw [HL4.out]; have HR4 := Lib.hid (HR3.out.trans x1); have hk4 := And.intro (HV1.out.ext HR4.out).cells ((HV2.out.ext HR4.out).cells); clear x1)
              | (have hgo := HR2.out; clear hgo; go_at_call 29; refine (Size_any e _ _ 100 (HA.out.ext HR2.out) he60 (by omega)).mono ?_; rintro r wh3 ⟨rfl, x1⟩; have HR3 := Lib.hid (HR2.out.trans x1); have hk3 := And.intro (HV1.out.ext HR3.out).cells ((HV2.out.ext HR3.out).cells); clear x1)
              | (have hgo := HR1.out; clear hgo; go_at_call 29; refine (Size_any x _ _ 100 (HB.out.ext HR1.out) hx60 (by omega)).mono ?_; rintro r wh2 ⟨rfl, x1⟩; have HR2 := Lib.hid (HR1.out.trans x1); have hk2 := And.intro (HV1.out.ext HR2.out).cells ((HV2.out.ext HR2.out).cells); clear x1)
              | (have hgo := HR0.out; clear hgo; go_at_call 28; refine (RFormed_any x _ _ (HB.out.ext HR0.out)).mono ?_; rintro r wh1 ⟨rfl, x1⟩; rw [HL1.out]; have HR1 := Lib.hid (HR0.out.trans x1); have hk1 := And.intro (HV1.out.ext HR1.out).cells ((HV2.out.ext HR1.out).cells); clear x1)))
          replace HX := Lib.hid (HX.out.trans HR7.out)
          go_wp2_with fail
          exact bodyPost_ret (v := .bool true) (by simp [results, Tryd.results8, go_sem]) rfl ⟨rfl, HX.out⟩
end Go.Proofs.YtdancokndklpnaaDoor
