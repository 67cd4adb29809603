/-
  The walks of the reference's Const, Cell, Old, Two.
  The walk of Size for every limit (turned from XSize).
  The walk of states.Expr.
-/
import Derived.Test.YtlcgbdjmlnjhcaaGreatDoorG11
import Derived.Test.YtlcgbdjmlnjhcaaGreatDoorG06
import Derived.Test.YtlcgbdjmlnjhcaaGreatDoorG15
import Derived.Deep.AppendLies
import Derived.Maps.AppendAt
import Derived.Deep.Slices
import Derived.Deep.LoopGhost
import Derived.Test.YtlcgbdjmlnjhcaaGreatDoorG04
namespace Go.Proofs.YtlcgbdjmlnjhcaaGreatDoor
open Go.RowKit

set_option maxHeartbeats 400000 in
theorem RConst_any (n wd : Int) (w : World) : Calls Tryz.prog 23 #[.int .i64 n, .int .i64 wd] w fun r w' => r = .returned (.agg #[.int .i64 1, .int .i64 wd, .int .i64 n, .slice none 0 0]) ∧ Ext w w' := by
  go_enter Tryz.func23, Tryz.ntmps23
  go_wp2_with fail
  exact bodyPost_ret (v := .agg #[.int .i64 1, .int .i64 wd, .int .i64 n, .slice none 0 0]) (by simp [results, Tryz.results23, go_sem]) rfl ⟨rfl, (Ext.refl w).alloc _⟩
set_option maxHeartbeats 400000 in
theorem RCell_any (n wd : Int) (w : World) : Calls Tryz.prog 25 #[.int .i64 n, .int .i64 wd] w fun r w' => r = .returned (.agg #[.int .i64 2, .int .i64 wd, .int .i64 n, .slice none 0 0]) ∧ Ext w w' := by
  go_enter Tryz.func25, Tryz.ntmps25
  go_wp2_with fail
  exact bodyPost_ret (v := .agg #[.int .i64 2, .int .i64 wd, .int .i64 n, .slice none 0 0]) (by simp [results, Tryz.results25, go_sem]) rfl ⟨rfl, (Ext.refl w).alloc _⟩
set_option maxHeartbeats 400000 in
theorem ROld_any (n wd : Int) (w : World) : Calls Tryz.prog 26 #[.int .i64 n, .int .i64 wd] w fun r w' => r = .returned (.agg #[.int .i64 3, .int .i64 wd, .int .i64 n, .slice none 0 0]) ∧ Ext w w' := by
  go_enter Tryz.func26, Tryz.ntmps26
  go_wp2_with fail
  exact bodyPost_ret (v := .agg #[.int .i64 3, .int .i64 wd, .int .i64 n, .slice none 0 0]) (by simp [results, Tryz.results26, go_sem]) rfl ⟨rfl, (Ext.refl w).alloc _⟩
/-- What a function leaves that returns an expression. -/
def RetE (e : E) (w : World) (r : Ending) (w' : World) : Prop := (∃ v, r = .returned v ∧ EVal w' v e) ∧ Ext w w'
theorem EVal.shape' {w : World} {v : Value} {e : E} (h : EVal w v e) : ∃ a c, v = .agg #[.int .i64 e.op, .int .i64 e.wd, .int .i64 e.n, .slice a e.kids.length c] ∧ Kids w (.slice a e.kids.length c) e.kids := by
  obtain ⟨k, h1, h2⟩ := h
  obtain ⟨a, c, rfl⟩ := SliceAt.shape h2
  exact ⟨a, c, h1, h2⟩

theorem two_val {w W : World} {K : Nat} {a b : E} {ka kb : Value} (hx : Ext w W) (hk : Kids w ka a.kids) (hk2 : Kids w kb b.kids)
    (hb : W.heap[K]? = some (.cells #[.int .i64 a.op, .int .i64 a.wd, .int .i64 a.n, ka, .int .i64 b.op, .int .i64 b.wd, .int .i64 b.n, kb] 25 (0, 0))) : Kids W (.slice (some ⟨K, 0, none⟩) 2 2) [a, b] := by
  refine .inr ⟨K, 0, 2, rfl, by simp, fun i h => ?_⟩
  have : i = 0 ∨ i = 1 := by simp at h; omega
  rcases this with rfl | rfl
  · exact IsE.of_cells (v := ka) (by simp [World.cell?, hb]) (by simp [World.cell?, hb]) (by simp [World.cell?, hb]) (by simp [World.cell?, hb]) (hk.ext hx)
  · exact IsE.of_cells (v := kb) (by simp [World.cell?, hb]) (by simp [World.cell?, hb]) (by simp [World.cell?, hb]) (by simp [World.cell?, hb]) (hk2.ext hx)

set_option maxHeartbeats 1000000 in
theorem RTwo_any (op wd : Int) (a b : E) (va vb : Value) (w : World) (ha : EVal w va a) (hb : EVal w vb b) :
    Calls Tryz.prog 29 #[.int .i64 op, .int .i64 wd, va, vb] w (RetE (.mk op wd 0 [a, b]) w) := by
  obtain ⟨aa, ac, rfl, hk⟩ := ha.shape'
  obtain ⟨ba, bc, rfl, hk2⟩ := hb.shape'
  have HK := Lib.hid hk; have HK2 := Lib.hid hk2; clear hk hk2 ha hb
  go_enter Tryz.func29, Tryz.ntmps29
  go_wp2_with fail
  refine bodyPost_ret (v := .agg #[.int .i64 op, .int .i64 wd, .int .i64 0, .slice (some ⟨w.heap.size + 1 + 1 + 1, 0, none⟩) 2 2]) (by simp [results, Tryz.results29, go_sem]) rfl ⟨⟨_, rfl, ⟨_, rfl, ?_⟩⟩, (((Ext.refl w).alloc _).alloc _).alloc _ |>.alloc _⟩
  exact two_val ((((Ext.refl w).alloc _).alloc _).alloc _ |>.alloc _) HK.out HK2.out (by simpa using heap_new (((w.alloc _).alloc _).alloc _) _)
end Go.Proofs.YtlcgbdjmlnjhcaaGreatDoor
namespace Go.Proofs.YtlcgbdjmlnjhcaaGreatDoor
open Go.RowKit

def VarS (w : World) (b : Nat) (op wd n : Int) (kv : Value) : Prop := w.heap[b]? = some (.cells #[.int .i64 op, .int .i64 wd, .int .i64 n, kv] 25 (0, 0))
theorem VarS.new (w : World) (op wd n : Int) (kv : Value) : VarS (w.alloc (.cells #[.int .i64 op, .int .i64 wd, .int .i64 n, kv] 25)) w.heap.size op wd n kv := heap_new _ _
theorem VarS.cells {w : World} {b : Nat} {op wd n : Int} {kv : Value} (h : VarS w b op wd n kv) : w.cell? ⟨b, 0, none⟩ = some (.int .i64 op) ∧ w.cell? ⟨b, 1, none⟩ = some (.int .i64 wd) ∧ w.cell? ⟨b, 2, none⟩ = some (.int .i64 n) ∧ w.cell? ⟨b, 3, none⟩ = some kv := by
  unfold VarS at h; simp [World.cell?, h]
theorem own_blockS {w : World} {base e n : Nat} {v : Value} {sz : Nat} {xs : List Value} (h : w.ownsRow base e sz v n xs) (k : Nat) (hk : v.ownBlock = some k) : base ≤ k ∧ k < w.heap.size := by
  rcases h.2 with ⟨rfl, _⟩ | ⟨g, cap, cur, rfl, hg, hh, _⟩
  · cases hk
  · simp [Value.ownBlock] at hk
    subst hk
    exact ⟨hg, (Array.getElem?_eq_some_iff.1 hh).1⟩
theorem ownRow_keepS {w w' : World} {base e n : Nat} {v : Value} {sz : Nat} {xs : List Value} (h : w.ownsRow base e sz v n xs) (hx : Ext w w') : w'.ownsRow base e sz v n xs := by
  refine ⟨h.1, ?_⟩
  rcases h.2 with h2 | ⟨g, cap, cur, hv, hg, hh, r⟩
  · exact .inl h2
  · exact .inr ⟨g, cap, cur, hv, hg, by rw [hx.block g (Array.getElem?_eq_some_iff.1 hh).1]; exact hh, r⟩
theorem Kids.oneS {w : World} {v : Value} {ks : List E} (h : Kids w v ks) : v.oneCell' = true := by
  rcases h with ⟨⟨_, _, rfl⟩, _⟩ | ⟨b, o, cap, rfl, _⟩ <;> rfl
theorem infoSl : (Tryz.prog.info? 23).map (fun i => (i.zero, i.size, i.bytes)) = some (some (.slice none 0 0), 1, 24) := by kernel_rfl
/-- The work that is left: slices of kids, in a row of the call's own. -/
def Stk (W wr : World) (v : Value) (st : List (Value × List E)) : Prop :=
  wr.ownsRow W.heap.size 23 1 v st.length (st.map (·.1)) ∧ (∃ g cap, v = .slice (some ⟨g, 0, none⟩) st.length cap) ∧ ∀ p ∈ st, Kids W p.1 p.2
def stSum (st : List (Value × List E)) : Nat := (st.map fun p => sizeAll p.2).sum
def stMes (st : List (Value × List E)) : Nat := (st.map fun p => 1 + 2 * sizeAll p.2).sum
theorem stSum_snoc (st : List (Value × List E)) (p : Value × List E) : stSum (st ++ [p]) = stSum st + sizeAll p.2 := by simp [stSum]
theorem stMes_snoc (st : List (Value × List E)) (p : Value × List E) : stMes (st ++ [p]) = stMes st + (1 + 2 * sizeAll p.2) := by simp [stMes]
theorem st_len (st : List (Value × List E)) : st.length ≤ stMes st := by
  induction st with
  | nil => simp
  | cons p r ih => simp only [stMes, List.map_cons, List.sum_cons, List.length_cons] at *; omega
theorem Stk.ext {W wr w' : World} {v : Value} {st : List (Value × List E)} (h : Stk W wr v st) (hx : Ext wr w') : Stk W w' v st := ⟨ownRow_keepS h.1 hx, h.2⟩
theorem Stk.pop {W wr : World} {g cap n : Nat} {st : List (Value × List E)} {p : Value × List E} (h : Stk W wr (.slice (some ⟨g, 0, none⟩) n cap) (st ++ [p])) :
    Stk W wr (.slice (some ⟨g, 0, none⟩) st.length cap) st ∧ wr.cell? ⟨g, st.length, none⟩ = some p.1 ∧ Kids W p.1 p.2 ∧ n = st.length + 1 ∧ st.length + 1 ≤ cap ∧ cap ≤ 9223372036854775807 := by
  obtain ⟨h1, ⟨g', cap', e'⟩, h2⟩ := h
  cases e'
  rcases h1.2 with ⟨e, _⟩ | ⟨g', cap', cur, e, hg, hh, hn, hc, hs, ht⟩
  · cases e
  cases e
  simp only [List.length_append, List.length_cons, List.length_nil, List.map_append, List.map_cons, List.map_nil] at *
  refine ⟨⟨⟨by simp, .inr ⟨_, _, cur, rfl, hg, hh, by omega, hc, hs, ?_⟩⟩, ⟨_, _, rfl⟩, fun q hq => h2 q (by simp [hq])⟩, ?_, h2 p (by simp), trivial, by omega, by unfold maxLen at hc; omega⟩
  · have := congrArg (List.take (st.length * 1)) ht
    rw [List.take_take, Nat.min_eq_left (by omega)] at this
    rw [this, List.take_append_of_le_length (by simp), List.take_of_length_le (by simp)]
  · have := congrArg (fun x => x[st.length]?) ht
    rw [List.getElem?_take_of_lt (by omega)] at this
    simp only [World.cell?, hh]
    simpa using this
theorem wpList_append_stk {ops : Array Oper} {rest : List Oper} {o : Oper} {a : Act} {Q : Exit → Act → World → Prop} (hgd : o.guard = none) (s x : Operand)
    (ho : o.op = .call { callee := .builtin .append, args := #[s, x], argTypes := #[105, 105] }) (W wr : World) (v kv : Value) (ks : List E) (st : List (Value × List E))
    (hs : a.eval s = v) (hx : a.eval x = .slice (some ⟨wr.heap.size, 0, none⟩) 1 1) (hown : Stk W wr v st) (hk : Kids W kv ks) (hX : Ext W wr) (hl : st.length ≤ 1000000)
    (h : ∀ g cap w', Stk W w' (.slice (some ⟨g, 0, none⟩) (st.length + 1) cap) (st ++ [(kv, ks)]) → Ext W w' → wpList Tryz.prog ops Q rest (a.put o.dst (.slice (some ⟨g, 0, none⟩) (st.length + 1) cap)) w') :
    wpList Tryz.prog ops Q (o :: rest) a (wr.alloc (.cells #[kv] 23)) := by
  obtain ⟨i0, hi, hz0, hz1, hz2⟩ := info_parts infoSl
  have hx0 : Ext wr (wr.alloc (.cells #[kv] 23)) := (Ext.refl wr).alloc _
  refine wpList_append_lies _ hgd s x 105 ho W.heap.size 23 i0 _ 1 24 Tryz.underlying105 hi hz0 hz1 hz2 rfl (by decide) v st.length (st.map (·.1)) hs (ownRow_keepS hown.1 hx0) ⟨wr.heap.size, 0, none⟩ 1 1 [kv] hx rfl ?_ ?_ (by decide) ?_ ?_ ?_ (wr.heap.size + 1) (by simp) ?_
  · intro j u hj
    obtain ⟨rfl, rfl⟩ : j = 0 ∧ u = kv := by
      cases j with
      | zero => simp at hj; exact ⟨rfl, hj.symm⟩
      | succ j => simp at hj
    simp [Addr.add]
  · intro u hu; simp at hu; subst hu; exact hk.oneS
  · unfold maxLen; omega
  · omega
  · have := hX.size; simp; omega
  · intro g cap w' h1 h2 h3 h4
    have hX' : Ext W w' := (hX.trans hx0).grown h2 fun q hq => (own_blockS hown.1 q hq).1
    refine h g cap w' ⟨by simpa using h1, ⟨g, cap, by simp⟩, fun p hp => ?_⟩ hX'
    rcases List.mem_append.1 hp with hp | hp
    · exact hown.2.2 p hp
    · simp at hp; subst hp; exact hk

def SzRel (W : World) (e : E) (g : Nat) (count work : Value) (wr : World) : Prop :=
  ∃ (st : List (Value × List E)) (c : Nat), g = stMes st ∧ count = .int .i64 c ∧ Ext W wr ∧ Stk W wr work st ∧ c + stSum st = e.size ∧ stMes st ≤ 2 * e.size + 1
def SzIn (W : World) (ks : List E) (st : List (Value × List E)) (work i : Value) (wr : World) : Prop :=
  ∃ (j : Nat) (st2 : List (Value × List E)), j ≤ ks.length ∧ i = .int .i64 j ∧ Ext W wr ∧ Stk W wr work st2 ∧ stSum st2 + j = stSum st + sizeAll (ks.take j) ∧ stMes st2 ≤ stMes st + 2 * sizeAll (ks.take j)

set_option maxHeartbeats 4000000 in
theorem Size_all (e : E) (v : Value) (w : World) (l : Int) (he : EVal w v e) (hes : e.size ≤ 100000) (h0 : 1 ≤ l) (h1 : l ≤ 1000) : Calls Tryz.prog 62 #[v, .int .i64 l] w fun r w' => r = .returned (.int .i64 (min (e.size : Int) l)) ∧ Ext w w' := by
  obtain ⟨a, al, ac, rfl, hk⟩ := he.shape
  have hpos := e.size_pos
  have hl0 : decide (l ≤ 0) = false := decide_eq_false (by omega)
  obtain ⟨W, hW⟩ : ∃ W, W = w.alloc (.cells #[.int .i64 e.op, .int .i64 e.wd, .int .i64 e.n, .slice a al ac] 25) := ⟨_, rfl⟩
  have hx : Ext w W := by rw [hW]; exact (Ext.refl w).alloc _
  have HV : Hid (VarS W w.heap.size e.op e.wd e.n (.slice a al ac)) := by rw [hW]; exact VarS.new _ _ _ _ _
  have HW := Lib.hid hW; have HX := Lib.hid hx; have HK := Lib.hid (hk.ext hx)
  clear hW hx hk he
  obtain ⟨c0, c1, c2, c3⟩ := HV.out.cells
  have HES : Hid (e.size = 1 + sizeAll e.kids) := by cases e; simp [Hid, E.size]
  go_enter Tryz.func62, Tryz.ntmps62
  go_upto_region 1 with fail
  rw [← HW.out]; clear HW
  generalize w.heap.size = B at *
  go_wp2_with fail
  clear c0 c1 c2 c3
  have HS0 : Hid (SzRel W e (stMes [(Value.slice a al ac, e.kids)]) (.int .i64 1) (.slice (some ⟨W.heap.size, 0, none⟩) 1 1) (W.alloc (.cells #[.slice a al ac] 23))) := by
    refine ⟨_, 1, rfl, rfl, (Ext.refl W).alloc _, ⟨⟨rfl, .inr ⟨_, _, #[.slice a al ac], rfl, Nat.le_refl _, heap_new _ _, Nat.le_refl _, by unfold maxLen; omega, rfl, rfl⟩⟩, ⟨_, _, rfl⟩, fun p hp => ?_⟩, ?_, ?_⟩
    · simp at hp; subst hp; exact HK.out
    · rw [HES.out]; simp [stSum]
    · rw [HES.out]; simp [stMes]; omega
  go_loopg [5, 6] (stMes [(Value.slice a al ac, e.kids)]) (fun g c v wr => SzRel W e g c v wr)
  case atStart => exact HS0.out
  case round =>
    clear HS0
    obtain ⟨st, c, rfl, rfl, hX, hS, hsum, hmb⟩ := hrel
    have HXr := Lib.hid hX
    clear hX
    rcases List.eq_nil_or_concat st with rfl | ⟨st', p, rfl⟩
    · obtain ⟨_, ⟨g, cap, rfl⟩, _⟩ := hS
      have hc : c = e.size := by simpa [stSum] using hsum
      subst hc
      clear hsum hmb
      simp only [List.length_nil]
      go_wp2_with fail
      go_ret
      exact ⟨rfl, HX.out.trans HXr.out⟩
    · rw [List.concat_eq_append] at hS hsum hmb
      obtain ⟨kv, ks⟩ := p
      obtain ⟨g, cap, rfl⟩ := hS.2.1
      obtain ⟨hS', hcell, hkids, hn, hcap, hcap2⟩ := hS.pop
      simp only at hcell hkids
      obtain ⟨ka, kc, rfl⟩ := SliceAt.shape hkids
      have hlen : (st' ++ [(Value.slice ka ks.length kc, ks)]).length = st'.length + 1 := by simp
      rw [hlen]
      rw [stSum_snoc] at hsum
      rw [stMes_snoc] at hmb
      simp only at hsum hmb
      have hkl := length_le_sizeAll ks
      have HS := Lib.hid hS'; have HKK := Lib.hid hkids; have HSUM := Lib.hid hsum; have HMB := Lib.hid hmb
      have hb1 : c + ks.length ≤ e.size := by omega
      have hst : st'.length ≤ 9223372036854775806 := by omega
      clear hS hS' hkids hsum hn hlen hmb
      by_cases hcl : l ≤ (c : Int)
      · have hlt0 : decide ((c : Int) < l) = false := decide_eq_false (by omega)
        have hmin : min (c : Int) l = l := by omega
        have HM : Hid (min (e.size : Int) l = l) := by unfold Hid; omega
        clear hcl hb1
        go_wp2_with fail
        go_ret
        exact ⟨by rw [HM.out]; rfl, HX.out.trans HXr.out⟩
      have hlt0 : decide ((c : Int) < l) = true := decide_eq_true (by omega)
      clear hcl
      by_cases hcg : l ≤ (c : Int) + (ks.length : Int)
      · have hge : decide (l ≤ (c : Int) + (ks.length : Int)) = true := decide_eq_true hcg
        have hmin : min ((c : Int) + (ks.length : Int)) l = l := by omega
        have HM : Hid (min (e.size : Int) l = l) := by unfold Hid; omega
        clear hcg
        go_wp2_with fail
        go_ret
        exact ⟨by rw [HM.out]; rfl, HX.out.trans HXr.out⟩
      have hge : decide (l ≤ (c : Int) + (ks.length : Int)) = false := decide_eq_false hcg
      clear hcg
      go_wp2_with fail
      go_loopw [6, 43] (fun v i wr => SzIn W ks st' v i wr) (fun _ i _ => ks.length - (intOf i).toNat)
      case atStart => exact ⟨0, st', Nat.zero_le _, rfl, HXr.out, HS.out, by simp [sizeAll], by simp⟩
      case round =>
        obtain ⟨j, st2, hj, rfl, hX2, hS2, hsum2, hmes2⟩ := hrel
        obtain ⟨g2, cap2, rfl⟩ := hS2.2.1
        have HX2 := Lib.hid hX2; have HS2 := Lib.hid hS2; have HM2 := Lib.hid hmes2; have HSM2 := Lib.hid hsum2
        clear hX2 hS2 hsum2 hmes2 hcell
        by_cases hlt : j < ks.length
        · rcases HKK.out with ⟨_, e⟩ | ⟨b', o', cap', e, _, hk'⟩
          · rw [e] at hlt; simp at hlt
          cases e
          obtain ⟨e0, e1, e2, kw, e3, hkw⟩ := (hk' j hlt).cells
          obtain ⟨wa, wc, rfl⟩ := SliceAt.shape hkw
          have g0 := HX2.out.cell e0; have g1 := HX2.out.cell e1; have g2 := HX2.out.cell e2; have g3 := HX2.out.cell e3
          have HKW := Lib.hid hkw
          clear hk' e0 e1 e2 e3 hkw
          have HSN : Hid (sizeAll (ks.take (j + 1)) = sizeAll (ks.take j) + (1 + sizeAll ks[j].kids)) := by
            unfold Hid
            rw [sizeAll_snoc hlt]
            generalize ks[j] = q
            cases q; simp [E.size]
          have HL2 : Hid (st2.length ≤ 1000000) := by
            have h1 := st_len st2
            have h2 := HM2.out
            have h3 := HMB.out
            have h4 := sizeAll_take ks j
            unfold Hid; omega
          by_cases hz : ks[j].kids.length = 0
          · have hz1 : ¬ 0 < ks[j].kids.length := by omega
            have HZ : Hid (sizeAll ks[j].kids = 0) := by rw [List.length_eq_zero_iff.1 hz]; rfl
            have hzd : decide (0 < ks[j].kids.length) = false := decide_eq_false hz1
            have HZ0 := Lib.hid hz
            clear hz
            go_wp2_with fail
            refine ⟨⟨j + 1, st2, by omega, by go_num, HX2.out.alloc _, HS2.out.ext ((Ext.refl _).alloc _), ?_, ?_⟩, by simp [intOf]; omega⟩
            · rw [HSN.out, HZ.out]; have := HSM2.out; omega
            · rw [HSN.out]; have := HM2.out; omega
          · have hz1 : 0 < ks[j].kids.length := by omega
            have hzd : decide (0 < ks[j].kids.length) = true := decide_eq_true hz1
            clear hz
            go_upto_region 13 with fail
            obtain ⟨W2, hW2⟩ : ∃ W2, W2 = wr.alloc (.cells #[.int .i64 ks[j].op, .int .i64 ks[j].wd, .int .i64 ks[j].n, .slice wa ks[j].kids.length wc] 25) := ⟨_, rfl⟩
            have hxw : Ext wr W2 := by rw [hW2]; exact (Ext.refl _).alloc _
            have HV2 : Hid (VarS W2 wr.heap.size ks[j].op ks[j].wd ks[j].n (.slice wa ks[j].kids.length wc)) := by rw [hW2]; exact VarS.new _ _ _ _ _
            rw [← hW2]
            have HX3 := Lib.hid (HX2.out.trans hxw); have HS3 := Lib.hid (HS2.out.ext hxw)
            clear hxw hW2 g0 g1 g2 g3
            generalize wr.heap.size = B2 at *
            obtain ⟨g0, g1, g2, g3⟩ := HV2.out.cells
            go_wp2_with (at_builtin; refine wpList_append_stk rfl (.tmp 51) (.tmp 54) rfl W W2 _ _ ks[j].kids st2 rfl rfl HS3.out HKW.out HX3.out HL2.out ?_)
            intro g4 cap4 w4 hS4 hX4
            have HS4 := Lib.hid hS4; have HX4 := Lib.hid hX4
            clear hS4 hX4
            go_wp2_with fail
            refine ⟨⟨j + 1, _, by omega, by go_num, HX4.out, by simpa using HS4.out, ?_, ?_⟩, by simp [intOf]; omega⟩
            · rw [HSN.out, stSum_snoc]; have := HSM2.out; simp only; omega
            · rw [HSN.out, stMes_snoc]; have := HM2.out; simp only; omega
        · have HF : Hid (SzRel W e (stMes st2) (.int .i64 ((c : Int) + (ks.length : Int))) (.slice (some ⟨g2, 0, none⟩) st2.length cap2) wr) := by
            refine ⟨st2, c + ks.length, rfl, by simp, HX2.out, HS2.out, ?_, ?_⟩
            · have h1 := HSM2.out
              have h2 := HSUM.out
              rw [List.take_of_length_le (by omega)] at h1
              omega
            · have h1 := HM2.out
              have h2 := HMB.out
              rw [List.take_of_length_le (by omega)] at h1
              omega
          have HMES : Hid (stMes st2 < stMes (st' ++ [(Value.slice ka ks.length kc, ks)])) := by
            have h1 := HM2.out
            rw [List.take_of_length_le (by omega)] at h1
            unfold Hid
            rw [stMes_snoc]; simp only; omega
          go_wp2_with fail
          go_roundg (stMes st2)
          case measure => rw [List.concat_eq_append]; exact HMES.out
          case rel => exact HF.out
end Go.Proofs.YtlcgbdjmlnjhcaaGreatDoor
namespace Go.Proofs.YtlcgbdjmlnjhcaaGreatDoor
open Go.RowKit Go.Shelf
attribute [local go_sem] Oper.semAt_some

theorem bits_le {ws : List Int} (hW : ∀ x ∈ ws, 1 ≤ x ∧ x ≤ 8) (h : sumI ws ≤ 12) : ∀ m, m ≤ ws.length → bitsN ws m ≤ 12 := by
  have key : ∀ d m, m + d = ws.length → bitsN ws m ≤ 12 := by
    intro d
    induction d with
    | zero =>
      intro m hm
      unfold bitsN
      rw [List.take_of_length_le (by omega)]; omega
    | succ d ih =>
      intro m hm
      have h1 := ih (m + 1) (by omega)
      have h2 := (bits_succ hW (show m < ws.length by omega)).1
      omega
  exact fun m hm => key (ws.length - m) m (by omega)
theorem treeF_size {leaf : List Nat → E} {B : Nat} (hB : ∀ x, (leaf x).size ≤ B) (wd c : Int) : ∀ (f : Nat) (l : List (Nat × List Nat)), l.length ≤ f → 0 < l.length → (treeF leaf wd c f l).size + 4 ≤ l.length * (B + 4) := by
  intro f
  induction f with
  | zero => intro l h1 h2; omega
  | succ f ih =>
    intro l h1 h2
    rw [treeF_succ]
    by_cases h : l.length = 1
    · rw [if_pos h, h]
      have := hB (l.getD 0 (0, [])).2
      omega
    · rw [if_neg h]
      have e1 : (l.take ((l.length + 1) / 2)).length = (l.length + 1) / 2 := by simp; omega
      have e2 : (l.drop ((l.length + 1) / 2)).length = l.length - (l.length + 1) / 2 := by simp
      have k1 := ih (l.take ((l.length + 1) / 2)) (by omega) (by omega)
      have k2 := ih (l.drop ((l.length + 1) / 2)) (by omega) (by omega)
      rw [e1] at k1; rw [e2] at k2
      have hs : l.length * (B + 4) = (l.length + 1) / 2 * (B + 4) + (l.length - (l.length + 1) / 2) * (B + 4) := by
        rw [← Nat.add_mul]; congr 1; omega
      rw [hs]
      simp only [E.size, sizeAll]
      omega
theorem mem_size {cs ws : List Int} (hW : ∀ x ∈ ws, 1 ≤ x ∧ x ≤ 8) : ∀ (m : Nat) (is : List Nat), m ≤ ws.length → (memF cs ws m is).size + 8 ≤ 9 * 2 ^ bitsN ws m := by
  intro m
  induction m with
  | zero =>
    intro is _
    have := Nat.two_pow_pos (bitsN ws 0)
    unfold memF
    split
    · simp [E.size, sizeAll]; omega
    · split <;> (simp [E.size, sizeAll]; omega)
  | succ m ih =>
    intro is hm
    have hp := Nat.two_pow_pos (bitsN ws (m + 1))
    have hb := bits_succ hW (show m < ws.length by omega)
    unfold memF
    split
    · simp [E.size, sizeAll]; omega
    · split
      · simp [E.size, sizeAll]; omega
      · have hpm := Nat.two_pow_pos (bitsN ws m)
        have hl := runsL_len (bitsN ws m) (ws.getD m 0).toNat is
        have h1 := treeF_size (leaf := memF cs ws m) (B := 9 * 2 ^ bitsN ws m - 8) (fun x => by have := ih x (by omega); omega) (ws.getD m 0) (cs.getD m 0) (2 ^ (ws.getD m 0).toNat) (runsL (bitsN ws m) (ws.getD m 0).toNat is) hl.1 hl.2
        have h2 : 2 ≤ 2 ^ (ws.getD m 0).toNat := by
          have := Nat.pow_le_pow_right (show 0 < 2 by decide) (show 1 ≤ (ws.getD m 0).toNat by omega)
          simpa using this
        rw [hb.1, Nat.pow_add]
        generalize 2 ^ bitsN ws m = a at *
        generalize 2 ^ (ws.getD m 0).toNat = q at *
        have h3 := Nat.mul_le_mul_right (9 * a - 8 + 4) hl.1
        have h4 : q * (9 * a - 8 + 4) + 4 * q = 9 * (a * q) := by
          have : 9 * a - 8 + 4 + 4 = 9 * a := by omega
          rw [Nat.mul_comm 4 q, ← Nat.mul_add, this, ← Nat.mul_assoc, Nat.mul_comm q, Nat.mul_assoc]
          rw [Nat.mul_comm q a]
        omega
def exprS (cs ws is : List Int) : E := if validB cs ws is = true then (if 600 < (memF cs ws ws.length (natL is)).size then .mk 0 0 0 [] else memF cs ws ws.length (natL is)) else .mk 0 0 0 []
def SetC (w : World) (v : Value) (cs ws is : List Int) : Prop := ∃ vc vw vi, v = .agg #[vc, vw, vi] ∧ IntsC w vc cs ∧ IntsC w vw ws ∧ IntsC w vi is
theorem SetC.setV {w : World} {v : Value} {cs ws is : List Int} (h : SetC w v cs ws is) : SetV w v cs ws is := by
  obtain ⟨a, b, c, h0, h1, h2, h3⟩ := h; exact ⟨a, b, c, h0, h1.1, h2.1, h3.1⟩
set_option maxRecDepth 100000 in
set_option maxHeartbeats 4000000 in
theorem Expr_any (cs ws is : List Int) (v : Value) (w : World) (hv : SetC w v cs ws is) : Calls Tryz.prog 31 #[v] w (NewE (exprS cs ws is) w) := by
  have hV := hv.setV
  obtain ⟨vc, vw, vi, rfl, h1, h2, h3⟩ := hv
  obtain ⟨_, ca, cc, rfl, _⟩ := id h1
  obtain ⟨_, wa, wcc, rfl, _⟩ := id h2
  obtain ⟨_, ia, ic, rfl, _⟩ := id h3
  obtain ⟨W, hW⟩ : ∃ W, W = (w.alloc (.cells #[.slice ca cs.length cc, .slice wa ws.length wcc, .slice ia is.length ic] 60)).alloc (.cells #[.int .i64 0, .int .i64 0, .int .i64 0, .slice none 0 0] 25) := ⟨_, rfl⟩
  have hx : Ext w W := by rw [hW]; exact ((Ext.refl w).alloc _).alloc _
  have HB : Hid (W.heap[w.heap.size]? = some (.cells #[.slice ca cs.length cc, .slice wa ws.length wcc, .slice ia is.length ic] 60 (0, 0))) := by
    unfold Hid; rw [hW, heap_alloc_old _ _ (by simp)]; exact heap_new _ _
  have HR : Hid (W.heap[w.heap.size + 1]? = some (.cells #[.int .i64 0, .int .i64 0, .int .i64 0, .slice none 0 0] 25 (0, 0))) := by
    unfold Hid; rw [hW]
    have := heap_new (w.alloc (.cells #[.slice ca cs.length cc, .slice wa ws.length wcc, .slice ia is.length ic] 60)) (.cells #[.int .i64 0, .int .i64 0, .int .i64 0, .slice none 0 0] 25)
    rw [World.size_alloc] at this
    exact this
  have HZ : Hid (W.heap.size = w.heap.size + 2) := by unfold Hid; rw [hW]; simp
  have HX := Lib.hid hx; have HW := Lib.hid hW; have HV := Lib.hid (hV.ext hx); have H1 := Lib.hid h1; have H2 := Lib.hid h2; have H3 := Lib.hid h3
  clear hx hW hV h1 h2 h3
  obtain ⟨p0, p1, p2⟩ := cells3 HB.out
  cases hval : validB cs ws is with
  | false =>
    have HE : Hid (exprS cs ws is = .mk 0 0 0 []) := by unfold Hid exprS; rw [hval]; rfl
    have HVAL := Lib.hid hval
    clear hval
    go_enter Tryz.func31, Tryz.ntmps31
    go_upto_region 1 with fail
    rw [← HW.out]
    go_wp2_with fail
    refine (valid_any cs ws is _ _ HV.out).mono ?_
    rintro r w1 ⟨rfl, x1⟩
    rw [HVAL.out]
    have HX1 := Lib.hid x1
    have hR1 := (x1.block _ (by rw [HZ.out]; omega)).trans HR.out
    obtain ⟨c0, c1, c2, c3, f0, f1, f2, f3⟩ := cells_of_block hR1
    have HB4 := Lib.hid (put4_new (x := .int .i64 0) (y := .int .i64 0) (z := .int .i64 0) (u := .slice none 0 0) hR1)
    clear x1 hR1
    go_wp2_with fail
    refine bodyPost_ret (v := .agg #[.int .i64 0, .int .i64 0, .int .i64 0, .slice none 0 0]) (results_cell_row Tryz.results31 _ _ (w.heap.size + 1) 25 _ (0, 0) _ rfl HB4.out Tryz.underlying25 rfl sizeExpr) rfl ⟨⟨_, rfl, ?_⟩, Below.trans (HX.out.trans HX1.out) (below_put4 (Nat.le_succ _))⟩
    rw [HE.out]
    exact ⟨_, rfl, kidsB_nil _ _⟩
  | true =>
    obtain ⟨hcast, hvs⟩ := valid_nat hval
    obtain ⟨hsh, hWd, hs0, hs12⟩ := small_sum hvs.small
    have hlen := (shape_iff.1 hsh).1
    have hl32 := shape_len hsh
    have hbits := bits_le hWd.2 hs12
    have hok := member_any cs ws hWd.2 hlen (by omega) hbits ws.length (Nat.le_refl _)
    have hsz := mem_size (cs := cs) hWd.2 ws.length (natL is) (Nat.le_refl _)
    have hsz2 : (memF cs ws ws.length (natL is)).size ≤ 100000 := by
      have h1 := hbits ws.length (Nat.le_refl _)
      have h2 : 2 ^ bitsN ws ws.length ≤ 4096 := by
        have := Nat.pow_le_pow_right (show 0 < 2 by decide) h1
        simpa using this
      omega
    have hlt : ∀ x ∈ natL is, x < 2 ^ bitsN ws ws.length := fun x hx => by
      have h1 := hvs.lt x hx
      have h2 : bitsN ws ws.length = (sumI ws).toNat := by unfold bitsN; rw [List.take_length]
      rw [h2]
      unfold pw at h1
      exact_mod_cast h1
    have hes : exprS cs ws is = if 600 < (memF cs ws ws.length (natL is)).size then .mk 0 0 0 [] else memF cs ws ws.length (natL is) := by unfold exprS; rw [if_pos hval]
    have hsort := hvs.sorted
    have C1 : Hid (∀ V, Ext w V → Calls Tryz.prog 61 #[.slice ca cs.length cc, .slice wa ws.length wcc, .slice ia is.length ic] V (NewE (memF cs ws ws.length (natL is)) V)) := fun V hx =>
      hok (natL is) _ _ _ V (by rw [← hlen, List.take_length]; exact H1.out.ext hx) (by rw [List.take_length]; exact H2.out.ext hx) (by rw [hcast]; exact H3.out.ext hx) hsort hlt
    generalize memF cs ws ws.length (natL is) = e at *
    have HES := Lib.hid hes; have HSZ := Lib.hid hsz2; have HVAL := Lib.hid hval
    clear hcast hvs hsh hWd hs0 hs12 hlen hl32 hbits hok hsz hsz2 hlt hes hsort hval
    go_enter Tryz.func31, Tryz.ntmps31
    go_upto_region 1 with fail
    rw [← HW.out]
    go_wp2_with fail
    refine (valid_any cs ws is _ _ HV.out).mono ?_
    rintro r w1 ⟨rfl, x1⟩
    rw [HVAL.out]
    have HX1 := Lib.hid x1
    have hR1 := (x1.block _ (by rw [HZ.out]; omega)).trans HR.out
    have hB1 := (x1.block _ (by rw [HZ.out]; omega)).trans HB.out
    obtain ⟨r0, r1, r2⟩ := cells3 hB1
    have HR1 := Lib.hid hR1
    clear x1 hR1 hB1
    go_wp2_with fail
    refine (C1.out w1 (HX.out.trans HX1.out)).mono ?_
    rintro r w2 ⟨⟨v2, rfl, he⟩, x2⟩
    obtain ⟨ka, kn, kc, rfl, hk⟩ := he.shape
    have HK := Lib.hid hk; have HX2 := Lib.hid x2
    have HR2 := Lib.hid ((x2.block _ (Array.getElem?_eq_some_iff.1 HR1.out).1).trans HR1.out)
    clear he hk x2 r0 r1 r2
    go_upto_region 4 with fail
    obtain ⟨W3, hW3⟩ : ∃ W3, W3 = w2.alloc (.cells #[.int .i64 e.op, .int .i64 e.wd, .int .i64 e.n, .slice ka kn kc] 25) := ⟨_, rfl⟩
    rw [← hW3]
    have x3 : Ext w2 W3 := by rw [hW3]; exact (Ext.refl w2).alloc _
    have hb3 : W3.heap[w2.heap.size]? = some (.cells #[.int .i64 e.op, .int .i64 e.wd, .int .i64 e.n, .slice ka kn kc] 25 (0, 0)) := by rw [hW3]; exact heap_new _ _
    obtain ⟨b0, b1, b2, b3, _⟩ := cells_of_block hb3
    have HB3 := Lib.hid hb3; have HX3 := Lib.hid x3
    have HKB : Hid (KidsB w1.heap.size W3 (.slice ka kn kc) e.kids) := HK.out.keep (x3.asFrom _)
    clear hW3 x3 hb3
    go_wp2_with fail
    refine (Size_all e _ W3 601 ⟨_, rfl, HKB.out.kids⟩ HSZ.out (by omega) (by omega)).mono ?_
    rintro r w4 ⟨rfl, x4⟩
    have HX4 := Lib.hid x4
    have HR4 := Lib.hid (((HX3.out.trans x4).block _ (Array.getElem?_eq_some_iff.1 HR2.out).1).trans HR2.out)
    have HB4 := Lib.hid ((x4.block _ (Array.getElem?_eq_some_iff.1 HB3.out).1).trans HB3.out)
    clear x4 b0 b1 b2 b3
    obtain ⟨mn, hmn⟩ : ∃ mn, mn = min (e.size : Int) 601 := ⟨_, rfl⟩
    rw [← hmn]
    obtain ⟨c0, c1, c2, c3, f0, f1, f2, f3⟩ := cells_of_block HR4.out
    by_cases hbig : 600 < e.size
    · have hd : decide ((600 : Int) < mn) = true := decide_eq_true (by omega)
      have HE : Hid (exprS cs ws is = .mk 0 0 0 []) := by unfold Hid; rw [HES.out, if_pos hbig]
      have HB5 := Lib.hid (put4_new (x := .int .i64 0) (y := .int .i64 0) (z := .int .i64 0) (u := .slice none 0 0) HR4.out)
      clear hbig hmn
      go_wp2_with fail
      refine bodyPost_ret (v := .agg #[.int .i64 0, .int .i64 0, .int .i64 0, .slice none 0 0]) (results_cell_row Tryz.results31 _ _ (w.heap.size + 1) 25 _ (0, 0) _ rfl HB5.out Tryz.underlying25 rfl sizeExpr) rfl ⟨⟨_, rfl, ?_⟩, Below.trans ((((HX.out.trans HX1.out).trans HX2.out).trans HX3.out).trans HX4.out) (below_put4 (Nat.le_succ _))⟩
      rw [HE.out]
      exact ⟨_, rfl, kidsB_nil _ _⟩
    · have hd : decide ((600 : Int) < mn) = false := decide_eq_false (by omega)
      have HE : Hid (exprS cs ws is = e) := by unfold Hid; rw [HES.out, if_neg hbig]
      have HB5 := Lib.hid (put4_new (x := .int .i64 e.op) (y := .int .i64 e.wd) (z := .int .i64 e.n) (u := .slice ka kn kc) HR4.out)
      obtain ⟨d0, d1, d2, d3, _⟩ := cells_of_block HB4.out
      clear hbig hmn
      go_wp2_with fail
      refine bodyPost_ret (v := .agg #[.int .i64 e.op, .int .i64 e.wd, .int .i64 e.n, .slice ka kn kc]) (results_cell_row Tryz.results31 _ _ (w.heap.size + 1) 25 _ (0, 0) _ rfl HB5.out Tryz.underlying25 rfl sizeExpr) rfl ⟨⟨_, rfl, ?_⟩, Below.trans ((((HX.out.trans HX1.out).trans HX2.out).trans HX3.out).trans HX4.out) (below_put4 (Nat.le_succ _))⟩
      rw [HE.out]
      have hz := HZ.out; have hs1 := HX1.out.size
      exact ⟨_, rfl, ((HKB.out.keep (HX4.out.asFrom _)).keep (fun q h1 _ => put4_heap q (by omega))).mono (by omega)⟩
end Go.Proofs.YtlcgbdjmlnjhcaaGreatDoor
