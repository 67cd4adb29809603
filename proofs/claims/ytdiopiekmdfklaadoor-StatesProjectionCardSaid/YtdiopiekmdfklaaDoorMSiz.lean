/-
  The walk of Size for every limit (turned from XSize).
-/
import Derived.Test.YtdiopiekmdfklaaDoorMSam
import Derived.Test.YtdiopiekmdfklaaDoorMQf
import Derived.Deep.AppendLies
import Derived.Maps.AppendAt
import Derived.Deep.Slices
import Derived.Deep.LoopGhost
namespace Go.Proofs.YtdiopiekmdfklaaDoor
open Go.RowKit

def VarS (w : World) (b : Nat) (op wd n : Int) (kv : Value) : Prop := w.heap[b]? = some (.cells #[.int .i64 op, .int .i64 wd, .int .i64 n, kv] 26 (0, 0))
theorem VarS.new (w : World) (op wd n : Int) (kv : Value) : VarS (w.alloc (.cells #[.int .i64 op, .int .i64 wd, .int .i64 n, kv] 26)) w.heap.size op wd n kv := heap_new _ _
theorem VarS.cells {w : World} {b : Nat} {op wd n : Int} {kv : Value} (h : VarS w b op wd n kv) : w.cell? ⟨b, 0, none⟩ = some (.int .i64 op) ∧ w.cell? ⟨b, 1, none⟩ = some (.int .i64 wd) ∧ w.cell? ⟨b, 2, none⟩ = some (.int .i64 n) ∧ w.cell? ⟨b, 3, none⟩ = some kv := by
  unfold VarS at h; simp [World.cell?, h]
theorem own_blockS {w : World} {base e n : Nat} {v : Value} {sz : Nat} {xs : List Value} (h : w.ownsRow base e sz v n xs) (k : Nat) (hk : v.ownBlock = some k) : base ≤ k ∧ k < w.heap.size := by
  rcases h.2 with ⟨rfl, _⟩ | ⟨g, cap, cur, rfl, hg, hh, _⟩
  · cases hk
  · simp [Value.ownBlock] at hk
    subst hk
    exact ⟨hg, (Array.getElem?_eq_some_iff.1 hh).1⟩
theorem ownRow_keepS {w w' : World} {base e n : Nat} {v : Value} {sz : Nat} {xs : List Value} (h : w.ownsRow base e sz v n xs) (hx : Ext w w') : w'.ownsRow base e sz v n xs := by
  refine ⟨h.1, ?_⟩
  rcases h.2 with h2 | ⟨g, cap, cur, hv, hg, hh, r⟩
  · exact .inl h2
  · exact .inr ⟨g, cap, cur, hv, hg, by rw [hx.block g (Array.getElem?_eq_some_iff.1 hh).1]; exact hh, r⟩
theorem Kids.oneS {w : World} {v : Value} {ks : List E} (h : Kids w v ks) : v.oneCell' = true := by
  rcases h with ⟨⟨_, _, rfl⟩, _⟩ | ⟨b, o, cap, rfl, _⟩ <;> rfl
theorem infoSl : (Tryd.prog.info? 24).map (fun i => (i.zero, i.size, i.bytes)) = some (some (.slice none 0 0), 1, 24) := by kernel_rfl
/-- The work that is left: slices of kids, in a row of the call's own. -/
def Stk (W wr : World) (v : Value) (st : List (Value × List E)) : Prop :=
  wr.ownsRow W.heap.size 24 1 v st.length (st.map (·.1)) ∧ (∃ g cap, v = .slice (some ⟨g, 0, none⟩) st.length cap) ∧ ∀ p ∈ st, Kids W p.1 p.2
def stSum (st : List (Value × List E)) : Nat := (st.map fun p => sizeAll p.2).sum
def stMes (st : List (Value × List E)) : Nat := (st.map fun p => 1 + 2 * sizeAll p.2).sum
theorem stSum_snoc (st : List (Value × List E)) (p : Value × List E) : stSum (st ++ [p]) = stSum st + sizeAll p.2 := by simp [stSum]
theorem stMes_snoc (st : List (Value × List E)) (p : Value × List E) : stMes (st ++ [p]) = stMes st + (1 + 2 * sizeAll p.2) := by simp [stMes]
theorem st_len (st : List (Value × List E)) : st.length ≤ stMes st := by
  induction st with
  | nil => simp
  | cons p r ih => simp only [stMes, List.map_cons, List.sum_cons, List.length_cons] at *; omega
theorem Stk.ext {W wr w' : World} {v : Value} {st : List (Value × List E)} (h : Stk W wr v st) (hx : Ext wr w') : Stk W w' v st := ⟨ownRow_keepS h.1 hx, h.2⟩
theorem Stk.pop {W wr : World} {g cap n : Nat} {st : List (Value × List E)} {p : Value × List E} (h : Stk W wr (.slice (some ⟨g, 0, none⟩) n cap) (st ++ [p])) :
    Stk W wr (.slice (some ⟨g, 0, none⟩) st.length cap) st ∧ wr.cell? ⟨g, st.length, none⟩ = some p.1 ∧ Kids W p.1 p.2 ∧ n = st.length + 1 ∧ st.length + 1 ≤ cap ∧ cap ≤ 9223372036854775807 := by
  obtain ⟨h1, ⟨g', cap', e'⟩, h2⟩ := h
  cases e'
  rcases h1.2 with ⟨e, _⟩ | ⟨g', cap', cur, e, hg, hh, hn, hc, hs, ht⟩
  · cases e
  cases e
  simp only [List.length_append, List.length_cons, List.length_nil, List.map_append, List.map_cons, List.map_nil] at *
  refine ⟨⟨⟨by simp, .inr ⟨_, _, cur, rfl, hg, hh, by omega, hc, hs, ?_⟩⟩, ⟨_, _, rfl⟩, fun q hq => h2 q (by simp [hq])⟩, ?_, h2 p (by simp), trivial, by omega, by unfold maxLen at hc; omega⟩
  · have := congrArg (List.take (st.length * 1)) ht
    rw [List.take_take, Nat.min_eq_left (by omega)] at this
    rw [this, List.take_append_of_le_length (by simp), List.take_of_length_le (by simp)]
  · have := congrArg (fun x => x[st.length]?) ht
    rw [List.getElem?_take_of_lt (by omega)] at this
    simp only [World.cell?, hh]
    simpa using this
theorem wpList_append_stk {ops : Array Oper} {rest : List Oper} {o : Oper} {a : Act} {Q : Exit → Act → World → Prop} (hgd : o.guard = none) (s x : Operand)
    (ho : o.op = .call { callee := .builtin .append, args := #[s, x], argTypes := #[120, 120] }) (W wr : World) (v kv : Value) (ks : List E) (st : List (Value × List E))
    (hs : a.eval s = v) (hx : a.eval x = .slice (some ⟨wr.heap.size, 0, none⟩) 1 1) (hown : Stk W wr v st) (hk : Kids W kv ks) (hX : Ext W wr) (hl : st.length ≤ 1000000)
    (h : ∀ g cap w', Stk W w' (.slice (some ⟨g, 0, none⟩) (st.length + 1) cap) (st ++ [(kv, ks)]) → Ext W w' → wpList Tryd.prog ops Q rest (a.put o.dst (.slice (some ⟨g, 0, none⟩) (st.length + 1) cap)) w') :
    wpList Tryd.prog ops Q (o :: rest) a (wr.alloc (.cells #[kv] 24)) := by
  obtain ⟨i0, hi, hz0, hz1, hz2⟩ := info_parts infoSl
  have hx0 : Ext wr (wr.alloc (.cells #[kv] 24)) := (Ext.refl wr).alloc _
  refine wpList_append_lies _ hgd s x 120 ho W.heap.size 24 i0 _ 1 24 Tryd.underlying120 hi hz0 hz1 hz2 rfl (by decide) v st.length (st.map (·.1)) hs (ownRow_keepS hown.1 hx0) ⟨wr.heap.size, 0, none⟩ 1 1 [kv] hx rfl ?_ ?_ (by decide) ?_ ?_ ?_ (wr.heap.size + 1) (by simp) ?_
  · intro j u hj
    obtain ⟨rfl, rfl⟩ : j = 0 ∧ u = kv := by
      cases j with
      | zero => simp at hj; exact ⟨rfl, hj.symm⟩
      | succ j => simp at hj
    simp [Addr.add]
  · intro u hu; simp at hu; subst hu; exact hk.oneS
  · unfold maxLen; omega
  · omega
  · have := hX.size; simp; omega
  · intro g cap w' h1 h2 h3 h4
    have hX' : Ext W w' := (hX.trans hx0).grown h2 fun q hq => (own_blockS hown.1 q hq).1
    refine h g cap w' ⟨by simpa using h1, ⟨g, cap, by simp⟩, fun p hp => ?_⟩ hX'
    rcases List.mem_append.1 hp with hp | hp
    · exact hown.2.2 p hp
    · simp at hp; subst hp; exact hk

def SzRel (W : World) (e : E) (g : Nat) (count work : Value) (wr : World) : Prop :=
  ∃ (st : List (Value × List E)) (c : Nat), g = stMes st ∧ count = .int .i64 c ∧ Ext W wr ∧ Stk W wr work st ∧ c + stSum st = e.size ∧ stMes st ≤ 2 * e.size + 1
def SzIn (W : World) (ks : List E) (st : List (Value × List E)) (work i : Value) (wr : World) : Prop :=
  ∃ (j : Nat) (st2 : List (Value × List E)), j ≤ ks.length ∧ i = .int .i64 j ∧ Ext W wr ∧ Stk W wr work st2 ∧ stSum st2 + j = stSum st + sizeAll (ks.take j) ∧ stMes st2 ≤ stMes st + 2 * sizeAll (ks.take j)

set_option maxHeartbeats 4000000 in
theorem Size_all (e : E) (v : Value) (w : World) (l : Int) (he : EVal w v e) (hes : e.size ≤ 100000) (h0 : 1 ≤ l) (h1 : l ≤ 1000) : Calls Tryd.prog 56 #[v, .int .i64 l] w fun r w' => r = .returned (.int .i64 (min (e.size : Int) l)) ∧ Ext w w' := by
  obtain ⟨a, al, ac, rfl, hk⟩ := he.shape
  have hpos := e.size_pos
  have hl0 : decide (l ≤ 0) = false := decide_eq_false (by omega)
  obtain ⟨W, hW⟩ : ∃ W, W = w.alloc (.cells #[.int .i64 e.op, .int .i64 e.wd, .int .i64 e.n, .slice a al ac] 26) := ⟨_, rfl⟩
  have hx : Ext w W := by rw [hW]; exact (Ext.refl w).alloc _
  have HV : Hid (VarS W w.heap.size e.op e.wd e.n (.slice a al ac)) := by rw [hW]; exact VarS.new _ _ _ _ _
  have HW := Lib.hid hW; have HX := Lib.hid hx; have HK := Lib.hid (hk.ext hx)
  clear hW hx hk he
  obtain ⟨c0, c1, c2, c3⟩ := HV.out.cells
  have HES : Hid (e.size = 1 + sizeAll e.kids) := by cases e; simp [Hid, E.size]
  go_enter Tryd.func56, Tryd.ntmps56
  go_upto_region 1 with fail
  rw [← HW.out]; clear HW
  generalize w.heap.size = B at *
  go_wp2_with fail
  clear c0 c1 c2 c3
  have HS0 : Hid (SzRel W e (stMes [(Value.slice a al ac, e.kids)]) (.int .i64 1) (.slice (some ⟨W.heap.size, 0, none⟩) 1 1) (W.alloc (.cells #[.slice a al ac] 24))) := by
    refine ⟨_, 1, rfl, rfl, (Ext.refl W).alloc _, ⟨⟨rfl, .inr ⟨_, _, #[.slice a al ac], rfl, Nat.le_refl _, heap_new _ _, Nat.le_refl _, by unfold maxLen; omega, rfl, rfl⟩⟩, ⟨_, _, rfl⟩, fun p hp => ?_⟩, ?_, ?_⟩
    · simp at hp; subst hp; exact HK.out
    · rw [HES.out]; simp [stSum]
    · rw [HES.out]; simp [stMes]; omega
  go_loopg [5, 6] (stMes [(Value.slice a al ac, e.kids)]) (fun g c v wr => SzRel W e g c v wr)
  case atStart => exact HS0.out
  case round =>
    clear HS0
    obtain ⟨st, c, rfl, rfl, hX, hS, hsum, hmb⟩ := hrel
    have HXr := Lib.hid hX
    clear hX
    rcases List.eq_nil_or_concat st with rfl | ⟨st', p, rfl⟩
    · obtain ⟨_, ⟨g, cap, rfl⟩, _⟩ := hS
      have hc : c = e.size := by simpa [stSum] using hsum
      subst hc
      clear hsum hmb
      simp only [List.length_nil]
      go_wp2_with fail
      go_ret
      exact ⟨rfl, HX.out.trans HXr.out⟩
    · rw [List.concat_eq_append] at hS hsum hmb
      obtain ⟨kv, ks⟩ := p
      obtain ⟨g, cap, rfl⟩ := hS.2.1
      obtain ⟨hS', hcell, hkids, hn, hcap, hcap2⟩ := hS.pop
      simp only at hcell hkids
      obtain ⟨ka, kc, rfl⟩ := SliceAt.shape hkids
      have hlen : (st' ++ [(Value.slice ka ks.length kc, ks)]).length = st'.length + 1 := by simp
      rw [hlen]
      rw [stSum_snoc] at hsum
      rw [stMes_snoc] at hmb
      simp only at hsum hmb
      have hkl := length_le_sizeAll ks
      have HS := Lib.hid hS'; have HKK := Lib.hid hkids; have HSUM := Lib.hid hsum; have HMB := Lib.hid hmb
      have hb1 : c + ks.length ≤ e.size := by omega
      have hst : st'.length ≤ 9223372036854775806 := by omega
      clear hS hS' hkids hsum hn hlen hmb
      by_cases hcl : l ≤ (c : Int)
      · have hlt0 : decide ((c : Int) < l) = false := decide_eq_false (by omega)
        have hmin : min (c : Int) l = l := by omega
        have HM : Hid (min (e.size : Int) l = l) := by unfold Hid; omega
        clear hcl hb1
        go_wp2_with fail
        go_ret
        exact ⟨by rw [HM.out]; rfl, HX.out.trans HXr.out⟩
      have hlt0 : decide ((c : Int) < l) = true := decide_eq_true (by omega)
      clear hcl
      by_cases hcg : l ≤ (c : Int) + (ks.length : Int)
      · have hge : decide (l ≤ (c : Int) + (ks.length : Int)) = true := decide_eq_true hcg
        have hmin : min ((c : Int) + (ks.length : Int)) l = l := by omega
        have HM : Hid (min (e.size : Int) l = l) := by unfold Hid; omega
        clear hcg
        go_wp2_with fail
        go_ret
        exact ⟨by rw [HM.out]; rfl, HX.out.trans HXr.out⟩
      have hge : decide (l ≤ (c : Int) + (ks.length : Int)) = false := decide_eq_false hcg
      clear hcg
      go_wp2_with fail
      go_loopw [6, 43] (fun v i wr => SzIn W ks st' v i wr) (fun _ i _ => ks.length - (intOf i).toNat)
      case atStart => exact ⟨0, st', Nat.zero_le _, rfl, HXr.out, HS.out, by simp [sizeAll], by simp⟩
      case round =>
        obtain ⟨j, st2, hj, rfl, hX2, hS2, hsum2, hmes2⟩ := hrel
        obtain ⟨g2, cap2, rfl⟩ := hS2.2.1
        have HX2 := Lib.hid hX2; have HS2 := Lib.hid hS2; have HM2 := Lib.hid hmes2; have HSM2 := Lib.hid hsum2
        clear hX2 hS2 hsum2 hmes2 hcell
        by_cases hlt : j < ks.length
        · rcases HKK.out with ⟨_, e⟩ | ⟨b', o', cap', e, _, hk'⟩
          · rw [e] at hlt; simp at hlt
          cases e
          obtain ⟨e0, e1, e2, kw, e3, hkw⟩ := (hk' j hlt).cells
          obtain ⟨wa, wc, rfl⟩ := SliceAt.shape hkw
          have g0 := HX2.out.cell e0; have g1 := HX2.out.cell e1; have g2 := HX2.out.cell e2; have g3 := HX2.out.cell e3
          have HKW := Lib.hid hkw
          clear hk' e0 e1 e2 e3 hkw
          have HSN : Hid (sizeAll (ks.take (j + 1)) = sizeAll (ks.take j) + (1 + sizeAll ks[j].kids)) := by
            unfold Hid
            rw [sizeAll_snoc hlt]
            generalize ks[j] = q
            cases q; simp [E.size]
          have HL2 : Hid (st2.length ≤ 1000000) := by
            have h1 := st_len st2
            have h2 := HM2.out
            have h3 := HMB.out
            have h4 := sizeAll_take ks j
            unfold Hid; omega
          by_cases hz : ks[j].kids.length = 0
          · have hz1 : ¬ 0 < ks[j].kids.length := by omega
            have HZ : Hid (sizeAll ks[j].kids = 0) := by rw [List.length_eq_zero_iff.1 hz]; rfl
            have hzd : decide (0 < ks[j].kids.length) = false := decide_eq_false hz1
            have HZ0 := Lib.hid hz
            clear hz
            go_wp2_with fail
            refine ⟨⟨j + 1, st2, by omega, by go_num, HX2.out.alloc _, HS2.out.ext ((Ext.refl _).alloc _), ?_, ?_⟩, by simp [intOf]; omega⟩
            · rw [HSN.out, HZ.out]; have := HSM2.out; omega
            · rw [HSN.out]; have := HM2.out; omega
          · have hz1 : 0 < ks[j].kids.length := by omega
            have hzd : decide (0 < ks[j].kids.length) = true := decide_eq_true hz1
            clear hz
            go_upto_region 13 with fail
            obtain ⟨W2, hW2⟩ : ∃ W2, W2 = wr.alloc (.cells #[.int .i64 ks[j].op, .int .i64 ks[j].wd, .int .i64 ks[j].n, .slice wa ks[j].kids.length wc] 26) := ⟨_, rfl⟩
            have hxw : Ext wr W2 := by rw [hW2]; exact (Ext.refl _).alloc _
            have HV2 : Hid (VarS W2 wr.heap.size ks[j].op ks[j].wd ks[j].n (.slice wa ks[j].kids.length wc)) := by rw [hW2]; exact VarS.new _ _ _ _ _
            rw [← hW2]
            have HX3 := Lib.hid (HX2.out.trans hxw); have HS3 := Lib.hid (HS2.out.ext hxw)
            clear hxw hW2 g0 g1 g2 g3
            generalize wr.heap.size = B2 at *
            obtain ⟨g0, g1, g2, g3⟩ := HV2.out.cells
            go_wp2_with (at_builtin; refine wpList_append_stk rfl (.tmp 51) (.tmp 54) rfl W W2 _ _ ks[j].kids st2 rfl rfl HS3.out HKW.out HX3.out HL2.out ?_)
            intro g4 cap4 w4 hS4 hX4
            have HS4 := Lib.hid hS4; have HX4 := Lib.hid hX4
            clear hS4 hX4
            go_wp2_with fail
            refine ⟨⟨j + 1, _, by omega, by go_num, HX4.out, by simpa using HS4.out, ?_, ?_⟩, by simp [intOf]; omega⟩
            · rw [HSN.out, stSum_snoc]; have := HSM2.out; simp only; omega
            · rw [HSN.out, stMes_snoc]; have := HM2.out; simp only; omega
        · have HF : Hid (SzRel W e (stMes st2) (.int .i64 ((c : Int) + (ks.length : Int))) (.slice (some ⟨g2, 0, none⟩) st2.length cap2) wr) := by
            refine ⟨st2, c + ks.length, rfl, by simp, HX2.out, HS2.out, ?_, ?_⟩
            · have h1 := HSM2.out
              have h2 := HSUM.out
              rw [List.take_of_length_le (by omega)] at h1
              omega
            · have h1 := HM2.out
              have h2 := HMB.out
              rw [List.take_of_length_le (by omega)] at h1
              omega
          have HMES : Hid (stMes st2 < stMes (st' ++ [(Value.slice ka ks.length kc, ks)])) := by
            have h1 := HM2.out
            rw [List.take_of_length_le (by omega)] at h1
            unfold Hid
            rw [stMes_snoc]; simp only; omega
          go_wp2_with fail
          go_roundg (stMes st2)
          case measure => rw [List.concat_eq_append]; exact HMES.out
          case rel => exact HF.out
end Go.Proofs.YtdiopiekmdfklaaDoor
