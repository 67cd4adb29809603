/-
  Stores that keep trees: the kids of a node laid anew elsewhere. slices.Clone of kids.
  The walks of formed, connect and And for any expressions.
  What hint.clone keeps.
-/
import Derived.Test.YtlcgbdjmlnjhcaaGreatDoorG27
import Derived.Test.YtlcgbdjmlnjhcaaGreatDoorG16
import Derived.Laws.Cover3
import Derived.Deep.RegionWith
namespace Go.Proofs.YtlcgbdjmlnjhcaaGreatDoor
open Go.RowKit Go.Shelf

/-- A place in memory tells its tree. -/
theorem IsE.det {w : World} {b o : Nat} {x y : E} (h : IsE w b o x) (k : IsE w b o y) : x = y := by
  induction h generalizing y with
  | leaf h0 h1 h2 h3 =>
    cases k with
    | leaf k0 k1 k2 k3 =>
      rw [h0] at k0; rw [h1] at k1; rw [h2] at k2
      cases k0; cases k1; cases k2; rfl
    | node k0 k1 k2 k3 kl kk =>
      rw [h0] at k0; rw [h1] at k1; rw [h2] at k2; rw [h3] at k3
      cases k0; cases k1; cases k2
      injection k3 with k3
      injection k3 with _ e _
      congr 1
      exact (List.length_eq_zero_iff.1 e.symm).symm
  | node h0 h1 h2 h3 hl hk ih =>
    cases k with
    | leaf k0 k1 k2 k3 =>
      rw [h0] at k0; rw [h1] at k1; rw [h2] at k2; rw [h3] at k3
      cases k0; cases k1; cases k2
      injection k3 with k3
      injection k3 with _ e _
      congr 1
      exact List.length_eq_zero_iff.1 e
    | node k0 k1 k2 k3 kl kk =>
      rw [h0] at k0; rw [h1] at k1; rw [h2] at k2; rw [h3] at k3
      cases k0; cases k1; cases k2
      injection k3 with k3
      injection k3 with ea e _
      injection ea with ea
      injection ea with eb eo _
      subst eb; subst eo
      congr 1
      refine List.ext_getElem e fun i hi1 hi2 => ?_
      exact ih i hi1 (kk i hi2)
theorem Kids.det {w : World} {v : Value} {ks ls : List E} (h : Kids w v ks) (k : Kids w v ls) : ks = ls := by
  rcases h with ⟨⟨a, c, rfl⟩, rfl⟩ | ⟨b, o, cap, rfl, hl, hi⟩
  · rcases k with ⟨_, rfl⟩ | ⟨b', o', cap', e, _, _⟩
    · rfl
    · injection e with _ e _
      exact (List.length_eq_zero_iff.1 e.symm).symm
  · rcases k with ⟨⟨a, c, e⟩, rfl⟩ | ⟨b', o', cap', e, hl', hi'⟩
    · injection e with _ e _
      exact List.length_eq_zero_iff.1 e
    · injection e with ea e _
      injection ea with ea
      injection ea with eb eo _
      subst eb; subst eo
      exact List.ext_getElem e fun i h1 h2 => (hi i h1).det (hi' i h2)
theorem Kids.slice {w : World} {v : Value} {ks : List E} (h : Kids w v ks) : ∃ a c, v = .slice a ks.length c := by
  rcases h with ⟨⟨a, c, rfl⟩, rfl⟩ | ⟨b, o, cap, rfl, _, _⟩
  · exact ⟨_, _, rfl⟩
  · exact ⟨_, _, rfl⟩
theorem cell_set_ne {w : World} {b i g o : Nat} {c : Array Value} {t : TypeId} (hg : w.heap[g]? = some (.cells c t (0, 0))) (v : Value) (h : ¬ (b = g ∧ i = o)) : (w.setCell ⟨g, o, none⟩ v).cell? ⟨b, i, none⟩ = w.cell? ⟨b, i, none⟩ := by
  by_cases hb : b = g
  · subst hb
    rw [Lib.cell_of_heap hg, Lib.cell_of_heap (heap_setCell_same w b o c t v hg)]
    rw [Array.getElem?_setIfInBounds_ne (fun e => h ⟨rfl, e.symm⟩)]
  · exact World.cell?_setCell_far _ _ _ _ (fun e => hb e.symm)
theorem cell_set_same {w : World} {g o : Nat} {c : Array Value} {t : TypeId} {u : Value} (hg : w.heap[g]? = some (.cells c t (0, 0))) (hu : w.cell? ⟨g, o, none⟩ = some u) (v : Value) : (w.setCell ⟨g, o, none⟩ v).cell? ⟨g, o, none⟩ = some v := by
  rw [Lib.cell_of_heap hg] at hu
  have hlt : o < c.size := (Array.getElem?_eq_some_iff.1 hu).1
  rw [Lib.cell_of_heap (heap_setCell_same w g o c t v hg)]
  simp [hlt]
/-- The kids of a place laid anew: every tree says what it said. -/
theorem IsT.store {T T' : Nat → Prop} {w : World} {g o : Nat} {A B : Value} {ks : List E} (hA : w.cell? ⟨g, o, none⟩ = some A) (kA : Kids w A ks) (kB : KidsT T' w B ks) (hT' : ∀ k, T' k → k ≠ g) {c : Array Value} {t : TypeId} (hf : w.heap[g]? = some (.cells c t (0, 0))) :
    ∀ {b o' : Nat} {x : E}, IsT T w b o' x → IsT (fun k => T k ∨ T' k) (w.setCell ⟨g, o, none⟩ B) b o' x := by
  obtain ⟨aA, cA, eA⟩ := kA.slice
  have oth : ∀ {b i : Nat} {v : Value}, w.cell? ⟨b, i, none⟩ = some v → ¬ (b = g ∧ i = o) → (w.setCell ⟨g, o, none⟩ B).cell? ⟨b, i, none⟩ = some v := fun h hne => by
    rw [cell_set_ne hf B hne]; exact h
  have here : (w.setCell ⟨g, o, none⟩ B).cell? ⟨g, o, none⟩ = some B := cell_set_same hf hA B
  have kB' : KidsT T' (w.setCell ⟨g, o, none⟩ B) B ks := kB.keep fun k hk _ => heap_setCell_other _ _ _ _ (hT' k hk)
  have int_ne : ∀ {b i : Nat} {k : Int}, w.cell? ⟨b, i, none⟩ = some (.int .i64 k) → ¬ (b = g ∧ i = o) := fun h => by
    rintro ⟨rfl, rfl⟩
    rw [hA, eA] at h; cases h
  intro b o' x h
  induction h with
  | @leaf b o' op wd n ea ec h0 h1 h2 h3 =>
    have c0 := oth h0 (int_ne h0); have c1 := oth h1 (int_ne h1); have c2 := oth h2 (int_ne h2)
    by_cases c : b = g ∧ o' + 3 = o
    · obtain ⟨rfl, rfl⟩ := c
      rw [h3] at hA
      cases hA
      have hks : ks = [] := (Kids.det (.inl ⟨⟨_, _, rfl⟩, rfl⟩) kA).symm
      subst hks
      rcases kB' with ⟨⟨a, cc, rfl⟩, _⟩ | ⟨b2, o2, cap2, rfl, _, _, _⟩
      · exact .leaf c0 c1 c2 here
      · exact .leaf c0 c1 c2 here
    · exact .leaf c0 c1 c2 (oth h3 c)
  | @node b o' op wd n ks' b' o'' cap h0 h1 h2 h3 hl hs hk ih =>
    have c0 := oth h0 (int_ne h0); have c1 := oth h1 (int_ne h1); have c2 := oth h2 (int_ne h2)
    by_cases c : b = g ∧ o' + 3 = o
    · obtain ⟨rfl, rfl⟩ := c
      rw [h3] at hA
      cases hA
      have hks : ks' = ks := Kids.det (.inr ⟨_, _, _, rfl, hl, fun i hi => (hk i hi).isE⟩) kA
      subst hks
      rcases kB' with ⟨⟨a, cc, rfl⟩, rfl⟩ | ⟨b2, o2, cap2, rfl, hl2, hs2, hk2⟩
      · exact .leaf c0 c1 c2 here
      · exact .node c0 c1 c2 here hl2 (.inr hs2) fun i hi => (hk2 i hi).mono fun k hk => .inr hk
    · exact .node c0 c1 c2 (oth h3 c) hl (.inl hs) ih
/-- The elements of a row of kids, and where their kids lie. -/
theorem kids_ps {S : Nat → Prop} {w : World} {b : Nat} : ∀ (ks : List E) (o : Nat), (∀ i (h : i < ks.length), IsT S w b (o + i * 4) ks[i]) → ∃ ps : List (E × Value), ps.map (·.1) = ks ∧ ∀ i (hi : i < ps.length),
    w.cell? ⟨b, o + i * 4, none⟩ = some (.int .i64 ps[i].1.op) ∧ w.cell? ⟨b, o + i * 4 + 1, none⟩ = some (.int .i64 ps[i].1.wd) ∧ w.cell? ⟨b, o + i * 4 + 2, none⟩ = some (.int .i64 ps[i].1.n) ∧ w.cell? ⟨b, o + i * 4 + 3, none⟩ = some ps[i].2 ∧ KidsT S w ps[i].2 ps[i].1.kids := by
  intro ks
  induction ks with
  | nil => intro o _; exact ⟨[], rfl, fun i hi => by simp at hi⟩
  | cons e r ih =>
    intro o h
    obtain ⟨ps, h1, h2⟩ := ih (o + 4) fun i hi => by
      have := h (i + 1) (by simp; omega)
      rw [show o + 4 + i * 4 = o + (i + 1) * 4 by omega]
      simpa using this
    have h0 := h 0 (by simp)
    rw [Nat.zero_mul, Nat.add_zero] at h0
    obtain ⟨c0, c1, c2, a, l, c, c3, hk⟩ := h0.cells
    refine ⟨(e, .slice a l c) :: ps, by simp [h1], fun i hi => ?_⟩
    cases i with
    | zero => rw [Nat.zero_mul, Nat.add_zero]; exact ⟨c0, c1, c2, c3, hk⟩
    | succ i =>
      have := h2 i (by simpa using hi)
      rw [show o + 4 + i * 4 = o + (i + 1) * 4 by omega] at this
      simpa using this
theorem flat4_cells {w : World} {b : Nat} : ∀ (ps : List (E × Value)) (o : Nat), (∀ i (hi : i < ps.length), w.cell? ⟨b, o + i * 4, none⟩ = some (.int .i64 ps[i].1.op) ∧ w.cell? ⟨b, o + i * 4 + 1, none⟩ = some (.int .i64 ps[i].1.wd) ∧ w.cell? ⟨b, o + i * 4 + 2, none⟩ = some (.int .i64 ps[i].1.n) ∧ w.cell? ⟨b, o + i * 4 + 3, none⟩ = some ps[i].2) →
    ∀ j u, (flat4 ps)[j]? = some u → w.cell? ⟨b, o + j, none⟩ = some u := by
  intro ps
  induction ps with
  | nil => intro o _ j u h; simp [flat4] at h
  | cons p r ih =>
    intro o h j u hj
    have h0 := h 0 (by simp)
    rw [Nat.zero_mul, Nat.add_zero] at h0
    have hfl : flat4 (p :: r) = cells4' p ++ flat4 r := rfl
    rw [hfl] at hj
    have hc4 : (cells4' p).length = 4 := rfl
    by_cases c : j < 4
    · rw [List.getElem?_append_left (by rw [hc4]; exact c)] at hj
      have : j = 0 ∨ j = 1 ∨ j = 2 ∨ j = 3 := by omega
      rcases this with rfl | rfl | rfl | rfl <;> simp [cells4'] at hj <;> subst hj
      · exact h0.1
      · exact h0.2.1
      · exact h0.2.2.1
      · exact h0.2.2.2
    · rw [List.getElem?_append_right (by rw [hc4]; omega), hc4] at hj
      have := ih (o + 4) (fun i hi => by
        have := h (i + 1) (by simp; omega)
        rw [show o + 4 + i * 4 = o + (i + 1) * 4 by omega]
        simpa using this) (j - 4) u hj
      rw [show o + 4 + (j - 4) = o + j by omega] at this
      exact this
theorem flat4_one {S : Nat → Prop} {w : World} {ps : List (E × Value)} (h : ∀ p ∈ ps, KidsT S w p.2 p.1.kids) : ∀ u ∈ flat4 ps, u.oneCell' = true := by
  intro u hu
  induction ps with
  | nil => simp [flat4] at hu
  | cons p r ih =>
    have hfl : flat4 (p :: r) = cells4' p ++ flat4 r := rfl
    rw [hfl, List.mem_append] at hu
    rcases hu with hu | hu
    · simp [cells4'] at hu
      rcases hu with rfl | rfl | rfl | rfl
      · rfl
      · rfl
      · rfl
      · exact (h p (by simp)).one
    · exact ih (fun q hq => h q (by simp [hq])) hu

theorem exprs_nil (w : World) (a : Option Addr) (l c : Nat) : (binOp .eql 23 (.slice a l c) (.slice none 0 0)).run Tryz.prog w = .ok (.bool a.isNone) w := by
  simp only [binOp]
  simp [run_equal_slice_nil w 23 25 a l c Tryz.underlying23]
set_option maxRecDepth 100000 in
set_option maxHeartbeats 2000000 in
theorem CloneE_any (b o cap : Nat) (ps : List (E × Value)) (w : World) (h0 : 0 < ps.length) (hl : ps.length ≤ 100000) (hc : ∀ i (hi : i < ps.length), w.cell? ⟨b, o + i * 4, none⟩ = some (.int .i64 ps[i].1.op) ∧ w.cell? ⟨b, o + i * 4 + 1, none⟩ = some (.int .i64 ps[i].1.wd) ∧ w.cell? ⟨b, o + i * 4 + 2, none⟩ = some (.int .i64 ps[i].1.n) ∧ w.cell? ⟨b, o + i * 4 + 3, none⟩ = some ps[i].2)
    (hk : ∀ p ∈ ps, KidsT (fun k => k < w.heap.size) w p.2 p.1.kids) :
    Calls Tryz.prog 70 #[.slice (some ⟨b, o, none⟩) ps.length cap] w fun r w' => (∃ g cp, r = .returned (.slice (some ⟨g, 0, none⟩) ps.length cp) ∧ w'.ownsRow w.heap.size 25 4 (.slice (some ⟨g, 0, none⟩) ps.length cp) ps.length (flat4 ps)) ∧ Ext w w' := by
  obtain ⟨i0, hi, hz0, hz1, hz2⟩ := info_parts infoExpr
  have HC := Lib.hid hc; have HK := Lib.hid hk
  clear hc hk
  have hnil := exprs_nil w (some ⟨b, o, none⟩) ps.length cap
  go_enter Tryz.func70, Tryz.ntmps70
  have hx0 : Ext w (w.alloc (.cells #[] 25)) := (Ext.refl w).alloc _
  have hown0 : (w.alloc (.cells #[] 25)).ownsRow w.heap.size 25 4 (.slice (some ⟨w.heap.size, 0, none⟩) 0 0) 0 [] := ⟨rfl, .inr ⟨w.heap.size, 0, #[], rfl, Nat.le_refl _, heap_new _ _, Nat.le_refl _, by unfold maxLen; omega, rfl, rfl⟩⟩
  have HX0 := Lib.hid hx0; have HOWN := Lib.hid hown0
  clear hx0 hown0
  go_wp2_with (at_builtin; refine wpList_append_own _ rfl (.tmp 5) (.tmp 6) 23 rfl w.heap.size 25 i0 (.agg #[.int .i64 0, .int .i64 0, .int .i64 0, .slice none 0 0]) 4 48 Tryz.underlying23 hi hz0 hz1 hz2 rfl (by decide) (.slice (some ⟨w.heap.size, 0, none⟩) 0 0) 0 [] rfl HOWN.out ⟨b, o, none⟩ ps.length cap (flat4 ps) rfl (flat4_len ps) (fun j u hj => by rw [addr_add]; exact HX0.out.cell (flat4_cells ps o HC.out j u hj)) (flat4_one HK.out) (by unfold maxLen; omega) (by omega) (by simp) ?_; intro v' w' hown hg hne)
  have hown2 : w'.ownsRow w.heap.size 25 4 v' ps.length (flat4 ps) := by simpa using hown
  have HX' : Hid (Ext w w') := HX0.out.grown hg fun k e => by simp [Value.ownBlock] at e; omega
  have HO' : Hid (∃ g cp, v' = .slice (some ⟨g, 0, none⟩) ps.length cp) := by
    rcases hown2.2 with ⟨rfl, e⟩ | ⟨g, cp, cur, e, _⟩
    · omega
    · exact ⟨g, cp, e⟩
  have HW' := Lib.hid hown2
  clear hown hg hne hown2
  go_wp2_with fail
  go_ret
  obtain ⟨g, cp, rfl⟩ := HO'.out
  exact ⟨⟨g, cp, rfl, HW'.out⟩, HX'.out⟩
end Go.Proofs.YtlcgbdjmlnjhcaaGreatDoor
namespace Go.Proofs.YtlcgbdjmlnjhcaaGreatDoor
open Go.RowKit

def condE (e : E) : Bool := (e.wd == 1) && e.wf
def zeroIf (e : E) : E := if e.wf then e else .mk 0 0 0 []
def connectZ (ks : List E) (op u : Int) : E := if ks.all condE = true then zeroIf (connectS ks op u) else .mk 0 0 0 []
theorem cond_size {e : E} (h : condE e = true) : e.size ≤ 100000 := by
  unfold condE at h
  simp only [Bool.and_eq_true] at h
  have := h.2
  unfold E.wf at this
  simp only [Bool.and_eq_true, decide_eq_true_eq] at this
  omega
theorem zeroIf_const {u : Int} (h0 : 0 ≤ u) (h1 : u ≤ 1) : zeroIf (constE u 1) = constE u 1 := by
  have : u = 0 ∨ u = 1 := by omega
  rcases this with rfl | rfl <;> rfl
def CRelZ (ks : List E) (u : Int) (W : World) (kept dec i : Value) (wr : World) : Prop :=
  ∃ (k : Nat) (ps : List (E × Value)), k ≤ ks.length ∧ i = .int .i64 k ∧ dec = .bool (decOf (ks.take k) u) ∧ Ext W wr ∧ OwnK wr W.heap.size kept ps ∧ ps.map (·.1) = keptOf (ks.take k) u ∧ ∀ x ∈ ks.take k, condE x = true
set_option maxHeartbeats 1000000 in
theorem formed_any {S : Nat → Prop} (e : E) (v : Value) (w : World) (heT : EValT S w v e) (hM : Masks w) : Calls Tryz.prog 94 #[v] w (RetT (fun b => S b ∧ b < w.heap.size) (zeroIf e) w) := by
  have he := heT.eVal
  obtain ⟨a, n, c, rfl, hkT⟩ := heT.shape
  have HKT := Lib.hid hkT.there
  clear heT hkT
  obtain ⟨W, hW⟩ : ∃ W, W = (w.alloc (.cells #[.int .i64 e.op, .int .i64 e.wd, .int .i64 e.n, .slice a n c] 25)).alloc (.cells zeroA 25) := ⟨_, rfl⟩
  have hx : Ext w W := by rw [hW]; exact ((Ext.refl w).alloc _).alloc _
  obtain ⟨hv1, hv2⟩ := heap_of2 w (.cells #[.int .i64 e.op, .int .i64 e.wd, .int .i64 e.n, .slice a n c] 25) (.cells zeroA 25)
  rw [← hW] at hv1 hv2
  have HV1 : Hid (VarE W w.heap.size e.op e.wd e.n (.slice a n c)) := hv1
  have HV2 : Hid (VarE W (w.heap.size + 1) 0 0 0 (.slice none 0 0)) := hv2
  have HX := Lib.hid hx; have HE := Lib.hid (he.ext hx); have HM := Lib.hid (hM.ext hx); have HW := Lib.hid hW
  clear hx hv1 hv2 he hM hW
  obtain ⟨q0, q1, q2, q3⟩ := HV1.out.cells
  go_enter Tryz.func94, Tryz.ntmps94
  go_upto_region 1 with fail
  rw [← HW.out]; clear HW
  go_wp2_with fail
  refine (wellFormed_any e _ _ HE.out HM.out).mono ?_
  rintro r w1 ⟨rfl, x1⟩
  obtain ⟨p0, p1, p2, p3⟩ := (HV1.out.ext x1).cells
  have hR := HV2.out.ext x1
  obtain ⟨c0, c1, c2, c3, f0, f1, f2, f3⟩ := cells_of_block hR
  cases hw : e.wf with
  | true =>
    have HZ : Hid (zeroIf e = e) := by unfold Hid zeroIf; rw [hw]; rfl
    have HB := Lib.hid (put4_new (x := .int .i64 e.op) (y := .int .i64 e.wd) (z := .int .i64 e.n) (u := .slice a n c) hR)
    have HXE : Hid (Ext w (put4 w1 (w.heap.size + 1) 0 (.int .i64 e.op) (.int .i64 e.wd) (.int .i64 e.n) (.slice a n c))) := Below.trans (HX.out.trans x1) (below_put4 (by omega))
    clear x1 hR q0 q1 q2 q3 hw
    go_wp2_with fail
    refine bodyPost_ret (v := .agg #[.int .i64 e.op, .int .i64 e.wd, .int .i64 e.n, .slice a n c]) (results_cell_row Tryz.results94 _ _ (w.heap.size + 1) 25 _ (0, 0) _ rfl HB.out Tryz.underlying25 rfl sizeExpr) rfl ⟨⟨_, rfl, ?_⟩, HXE.out⟩
    rw [HZ.out]
    exact ⟨_, rfl, HKT.out.keep fun q hq _ => HXE.out.block q hq.2⟩
  | false =>
    have HZ : Hid (zeroIf e = .mk 0 0 0 []) := by unfold Hid zeroIf; rw [hw]; rfl
    have HB := Lib.hid (put4_new (x := .int .i64 0) (y := .int .i64 0) (z := .int .i64 0) (u := .slice none 0 0) hR)
    have HXE : Hid (Ext w (put4 w1 (w.heap.size + 1) 0 (.int .i64 0) (.int .i64 0) (.int .i64 0) (.slice none 0 0))) := Below.trans (HX.out.trans x1) (below_put4 (by omega))
    clear x1 hR q0 q1 q2 q3 hw
    go_wp2_with fail
    refine bodyPost_ret (v := .agg #[.int .i64 0, .int .i64 0, .int .i64 0, .slice none 0 0]) (results_cell_row Tryz.results94 _ _ (w.heap.size + 1) 25 _ (0, 0) _ rfl HB.out Tryz.underlying25 rfl sizeExpr) rfl ⟨⟨_, rfl, ?_⟩, HXE.out⟩
    rw [HZ.out]; exact ⟨_, rfl, .inl ⟨⟨_, _, rfl⟩, rfl⟩⟩
set_option maxHeartbeats 16000000 in
theorem connectZ_any (ks : List E) (v : Value) (op u : Int) (w : World) (hk : Kids w v ks) (hM : Masks w) (hu0 : 0 ≤ u) (hu1 : u ≤ 1) (hl : ks.length ≤ 6) :
    Calls Tryz.prog 69 #[v, .int .i64 op, .int .i64 u] w (RetT (fun b => w.heap.size ≤ b) (connectZ ks op u) w) := by
  obtain ⟨sa, scap, rfl⟩ := SliceAt.shape hk
  obtain ⟨W, hW⟩ : ∃ W, W = (w.alloc (.cells #[.int .i64 op] 3)).alloc (.cells zeroA 25) := ⟨_, rfl⟩
  have hx : Ext w W := by rw [hW]; exact ((Ext.refl w).alloc _).alloc _
  obtain ⟨hv1, hv2⟩ := heap_of2 w (.cells #[.int .i64 op] 3) (.cells zeroA 25)
  rw [← hW] at hv1 hv2
  have HO : Hid (W.cell? ⟨w.heap.size, 0, none⟩ = some (.int .i64 op)) := by simp [Hid, World.cell?, hv1]
  have HVR : Hid (VarE W (w.heap.size + 1) 0 0 0 (.slice none 0 0)) := hv2
  have HX := Lib.hid hx; have HK := Lib.hid (hk.ext hx); have HM := Lib.hid (hM.ext hx); have HW := Lib.hid hW
  clear hx hv1 hv2 hk hM hW
  go_enter Tryz.func69, Tryz.ntmps69
  go_upto_region 1 with fail
  rw [← HW.out]; clear HW
  have hwsz : w.heap.size + 1 < W.heap.size := HVR.out.lt
  go_wp2_with fail
  go_loopw [7, 8, 14] (fun kept dec i wr => CRelZ ks u W kept dec i wr) (fun _ _ i _ => ks.length - (intOf i).toNat)
  case atStart => exact ⟨0, [], Nat.zero_le _, rfl, rfl, Ext.refl _, OwnK.nil _ _, rfl, fun _ h => by simp at h⟩
  case round =>
    obtain ⟨k, ps, hkl, rfl, rfl, hX, hO, hps, hcd⟩ := hrel
    obtain ⟨pa, pc, rfl⟩ := hO.shape
    have hpl : ps.length ≤ 6 := by
      have := kept_len (ks.take k) u
      rw [← hps, List.length_map] at this
      have := List.length_take_le k ks
      omega
    have HXr := Lib.hid hX; have HOW := Lib.hid hO; have HPS := Lib.hid hps; have HCD := Lib.hid hcd
    clear hX hO hps hcd
    by_cases hlt : k < ks.length
    · rcases HK.out with ⟨_, e⟩ | ⟨b', o', cap', e, _, hk'⟩
      · rw [e] at hlt; simp at hlt
      cases e
      have hE := (hk' k hlt).ext HXr.out
      obtain ⟨g0, g1, g2, kv, g3, hkk⟩ := hE.cells
      obtain ⟨ka, kc, rfl⟩ := SliceAt.shape hkk
      have hin : ks[k] ∈ ks := List.getElem_mem hlt
      have HKA : Hid (KidsT (fun b => b < W.heap.size) wr (.slice ka ks[k].kids.length kc) ks[k].kids) := by
        obtain ⟨_, _, _, kw, e3, hkw⟩ := (hk' k hlt).cells
        have : kw = .slice ka ks[k].kids.length kc := by have h3 := HXr.out.cell e3; rw [g3] at h3; exact (Option.some.inj h3).symm
        subst this
        exact hkw.t.keep fun q hq _ => HXr.out.block q hq
      have HIN := Lib.hid hin
      have HCS : Hid (condE ks[k] = true → ∀ x ∈ ks.take (k + 1), condE x = true) := fun h x hx => by
        rw [List.take_succ_eq_append_getElem hlt, List.mem_append] at hx
        rcases hx with hx | hx
        · exact HCD.out x hx
        · simp at hx; rw [hx]; exact h
      have HDS := Lib.hid (dec_succ (u := u) hlt); have HKS := Lib.hid (kept_succ (u := u) hlt)
      clear hk' hE hin
      go_upto_region 6 with fail
      obtain ⟨W2, hW2⟩ : ∃ W2, W2 = wr.alloc (.cells #[.int .i64 ks[k].op, .int .i64 ks[k].wd, .int .i64 ks[k].n, .slice ka ks[k].kids.length kc] 25) := ⟨_, rfl⟩
      have hxw : Ext wr W2 := by rw [hW2]; exact (Ext.refl _).alloc _
      have HV2 : Hid (VarE W2 wr.heap.size ks[k].op ks[k].wd ks[k].n (.slice ka ks[k].kids.length kc)) := by rw [hW2]; exact VarE.new _ _ _ _ _
      have HEV : Hid (EVal W2 (.agg #[.int .i64 ks[k].op, .int .i64 ks[k].wd, .int .i64 ks[k].n, .slice ka ks[k].kids.length kc]) ks[k]) := ⟨_, rfl, hkk.ext hxw⟩
      rw [← hW2]
      have HX2 := Lib.hid (HXr.out.trans hxw)
      have HO2 := Lib.hid (HOW.out.ext hxw); have HKA2 := Lib.hid (HKA.out.keep fun q hq hs => hxw.block q hs)
      clear hxw hW2 g0 g1 g2 g3 hkk
      generalize wr.heap.size = B2 at *
      generalize hee : ks[k] = e at *
      clear hee
      obtain ⟨q0, q1, q2, q3⟩ := HV2.out.cells
      go_wp2_with fail
      refine (condition_any e _ _ HEV.out (HM.out.ext HX2.out)).mono ?_
      rintro r w3 ⟨rfl, x1⟩
      cases hC : ((e.wd == 1) && e.wf) with
      | false =>
        have HZ : Hid (connectZ ks op u = .mk 0 0 0 []) := by
          unfold Hid connectZ
          rw [if_neg]
          intro h
          have := List.all_eq_true.1 h e HIN.out
          unfold condE at this; rw [hC] at this; cases this
        clear hC
        have hR := (HVR.out.ext HX2.out).ext x1
        obtain ⟨c0, c1, c2, c3, f0, f1, f2, f3⟩ := cells_of_block hR
        have HB := Lib.hid (put4_new (x := .int .i64 0) (y := .int .i64 0) (z := .int .i64 0) (u := .slice none 0 0) hR)
        have HXE : Hid (Ext w (put4 w3 (w.heap.size + 1) 0 (.int .i64 0) (.int .i64 0) (.int .i64 0) (.slice none 0 0))) := Below.trans (HX.out.trans (HX2.out.trans x1)) (below_put4 (by omega))
        clear x1 hR q0 q1 q2 q3
        go_wp2_with fail
        refine bodyPost_ret (v := .agg #[.int .i64 0, .int .i64 0, .int .i64 0, .slice none 0 0]) (results_cell_row Tryz.results69 _ _ (w.heap.size + 1) 25 _ (0, 0) _ rfl HB.out Tryz.underlying25 rfl sizeExpr) rfl ⟨⟨_, rfl, ?_⟩, HXE.out⟩
        rw [HZ.out]; exact ⟨_, rfl, .inl ⟨⟨_, _, rfl⟩, rfl⟩⟩
      | true =>
      have HCC := Lib.hid (HCS.out hC)
      clear hC
      replace HX2 := Lib.hid (HX2.out.trans x1); replace HV2 := Lib.hid (HV2.out.ext x1); replace HEV := Lib.hid (HEV.out.ext x1); replace HO2 := Lib.hid (HO2.out.ext x1); replace HKA2 := Lib.hid (HKA2.out.keep fun q _ hs => x1.block q hs)
      clear x1 q0 q1 q2 q3
      obtain ⟨q0, q1, q2, q3⟩ := HV2.out.cells
      go_wp2_with fail
      refine (isConst_any e _ _ _ HEV.out).mono ?_
      rintro r w4 ⟨rfl, x1⟩
      replace HX2 := Lib.hid (HX2.out.trans x1); replace HV2 := Lib.hid (HV2.out.ext x1); replace HEV := Lib.hid (HEV.out.ext x1); replace HO2 := Lib.hid (HO2.out.ext x1); replace HKA2 := Lib.hid (HKA2.out.keep fun q _ hs => x1.block q hs)
      clear x1 q0 q1 q2 q3
      cases hA : e.isC (1 - u) with
      | true =>
        have HA := Lib.hid hA; clear hA
        go_wp2_with fail
        refine ⟨⟨k + 1, ps, by omega, by go_num, ?_, HX2.out, HO2.out, ?_, HCC.out⟩, by simp [intOf]; omega⟩
        · rw [HDS.out, HA.out]; simp
        · rw [HKS.out, HA.out, HPS.out]; simp
      | false =>
      have HA := Lib.hid hA; clear hA
      obtain ⟨q0, q1, q2, q3⟩ := HV2.out.cells
      go_wp2_with fail
      refine (isConst_any e _ _ _ HEV.out).mono ?_
      rintro r w5 ⟨rfl, x1⟩
      replace HX2 := Lib.hid (HX2.out.trans x1); replace HV2 := Lib.hid (HV2.out.ext x1); replace HEV := Lib.hid (HEV.out.ext x1); replace HO2 := Lib.hid (HO2.out.ext x1); replace HKA2 := Lib.hid (HKA2.out.keep fun q _ hs => x1.block q hs)
      clear x1 q0 q1 q2 q3
      cases hB : e.isC u with
      | true =>
        have HB := Lib.hid hB; clear hB
        go_wp2_with fail
        refine ⟨⟨k + 1, ps, by omega, by go_num, ?_, HX2.out, HO2.out, ?_, HCC.out⟩, by simp [intOf]; omega⟩
        · rw [HDS.out, HA.out]; simp
        · rw [HKS.out, HA.out, HB.out, HPS.out]; simp
      | false =>
      have HB := Lib.hid hB; clear hB
      have hp40 : ps.length ≤ 40 := by omega
      have hp40d : decide (ps.length ≤ 40) = true := decide_eq_true hp40
      obtain ⟨q0, q1, q2, q3⟩ := HV2.out.cells
      have HKA3 : Hid (KidsT (fun b => some b ≠ (Value.slice pa ps.length pc).ownBlock ∧ b < w5.heap.size) w5 (.slice ka e.kids.length kc) e.kids) := HKA2.out.mono fun q hq => ⟨fun e => by
          have := (ownA_block HO2.out.1 q e.symm).1; omega, by have := HX2.out.size; omega⟩
      go_wp2_with (at_builtin; refine wpList_append_kid rfl (.tmp 38) (.tmp 40) rfl W.heap.size w5 _ ps e _ rfl rfl HO2.out HKA3.out (by omega) HX2.out.size ?_)
      intro g cap w6 hO6 hgr hg
      have HO6 := Lib.hid hO6; have HX6 := Lib.hid (HX2.out.grown hgr fun q hq => (ownA_block HO2.out.1 q hq).1)
      clear hO6 hgr hg
      go_wp2_with fail
      refine ⟨⟨k + 1, _, by omega, by go_num, ?_, HX6.out, HO6.out, ?_, HCC.out⟩, by simp [intOf]; omega⟩
      · rw [HDS.out, HA.out]; simp
      · rw [HKS.out, HA.out, HB.out, List.map_append, HPS.out]; simp
    · have HT : Hid (ks.take k = ks) := List.take_of_length_le (by omega)
      rw [HT.out] at HPS HCD ⊢
      have HALL : Hid (ks.all condE = true) := List.all_eq_true.2 HCD.out
      have HCN : Hid (connectZ ks op u = zeroIf (connectS ks op u)) := by unfold Hid connectZ; rw [if_pos HALL.out]
      clear hkl HCD
      cases hD : decOf ks u with
      | true =>
        have HF : Hid (connectS ks op u = constE (1 - u) 1) := by rw [Hid, connectS, hD]; rfl
        clear hD
        have HVr := Lib.hid (HVR.out.ext HXr.out)
        go_wp2_with fail
        refine (constant_any (1 - u) 1 _).mono ?_
        rintro r w3 ⟨rfl, x1⟩
        have hR := HVr.out.ext x1
        obtain ⟨c0, c1, c2, c3, f0, f1, f2, f3⟩ := cells_of_block hR
        have HB := Lib.hid (put4_new (x := .int .i64 1) (y := .int .i64 1) (z := .int .i64 (1 - u)) (u := .slice none 0 0) hR)
        have HXE : Hid (Ext w (put4 w3 (w.heap.size + 1) 0 (.int .i64 1) (.int .i64 1) (.int .i64 (1 - u)) (.slice none 0 0))) := Below.trans (HX.out.trans (HXr.out.trans x1)) (below_put4 (by omega))
        clear x1 hR
        go_wp2_with fail
        refine bodyPost_ret (v := .agg #[.int .i64 1, .int .i64 1, .int .i64 (1 - u), .slice none 0 0]) (results_cell_row Tryz.results69 _ _ (w.heap.size + 1) 25 _ (0, 0) _ rfl HB.out Tryz.underlying25 rfl sizeExpr) rfl ⟨⟨_, rfl, ?_⟩, HXE.out⟩
        rw [HCN.out, HF.out, zeroIf_const (by omega) (by omega)]; exact ⟨_, rfl, .inl ⟨⟨_, _, rfl⟩, rfl⟩⟩
      | false =>
        have HF : Hid (connectS ks op u = if keptOf ks u = [] then constE u 1 else foldE op (keptOf ks u)) := by rw [Hid, connectS, hD]; rfl
        clear hD
        have HVr := Lib.hid (HVR.out.ext HXr.out)
        rcases Nat.eq_zero_or_pos ps.length with hp | hp
        · have hps0 := List.length_eq_zero_iff.1 hp
          subst hps0
          have HF2 : Hid (connectS ks op u = constE u 1) := by rw [Hid, HF.out, ← HPS.out]; rfl
          clear HF hp
          go_wp2_with fail
          refine (constant_any u 1 _).mono ?_
          rintro r w3 ⟨rfl, x1⟩
          have hR := HVr.out.ext x1
          obtain ⟨c0, c1, c2, c3, f0, f1, f2, f3⟩ := cells_of_block hR
          have HB := Lib.hid (put4_new (x := .int .i64 1) (y := .int .i64 1) (z := .int .i64 u) (u := .slice none 0 0) hR)
          have HXE : Hid (Ext w (put4 w3 (w.heap.size + 1) 0 (.int .i64 1) (.int .i64 1) (.int .i64 u) (.slice none 0 0))) := Below.trans (HX.out.trans (HXr.out.trans x1)) (below_put4 (by omega))
          clear x1 hR
          go_wp2_with fail
          refine bodyPost_ret (v := .agg #[.int .i64 1, .int .i64 1, .int .i64 u, .slice none 0 0]) (results_cell_row Tryz.results69 _ _ (w.heap.size + 1) 25 _ (0, 0) _ rfl HB.out Tryz.underlying25 rfl sizeExpr) rfl ⟨⟨_, rfl, ?_⟩, HXE.out⟩
          rw [HCN.out, HF2.out, zeroIf_const (by omega) (by omega)]; exact ⟨_, rfl, .inl ⟨⟨_, _, rfl⟩, rfl⟩⟩
        · rcases HOW.out.1.2 with ⟨_, e⟩ | ⟨g, cap0, cur, e, _⟩
          · rw [e] at hp; simp at hp
          cases e
          obtain ⟨hrow, _, hpc, hpm, hgW⟩ := HOW.out.row
          rw [HPS.out] at hrow
          have hln : ps.length = (keptOf ks u).length := by rw [← HPS.out, List.length_map]
          have HNE : Hid (connectS ks op u = foldE op (keptOf ks u)) := by 
            rw [Hid, HF.out, if_neg]
            intro h
            have : ps.length = 0 := by rw [hln, h]; rfl
            omega
          have HLM : Hid (∀ x ∈ keptOf ks u, x ∈ ks) := fun x hx => (List.mem_filter.1 hx).1
          clear HF HOW HPS HVr HT
          generalize keptOf ks u = ls at *
          rw [hln] at hpl hp hpc ⊢
          clear hln
          have hp0 : ¬ ls.length = 0 := by omega
          have h40 : ¬ 40 < ls.length := by omega
          have hNW : W.heap.size ≤ wr.heap.size := HXr.out.size
          have HST : Hid (CRel2 ls W g wr.heap.size (.int .i64 0) wr) := ⟨0, Nat.zero_le _, rfl, HXr.out, Nat.le_refl _, hrow, fun j _ h => absurd h (by omega)⟩
          have hgN : g < wr.heap.size := by obtain ⟨_, c, h, _⟩ := hrow; exact heap_lt' h
          clear hrow HXr
          go_wp2_with fail
          generalize wr.heap.size = N at *
          go_loopw [61] (fun i wx => CRel2 ls W g N i wx) (fun i _ => ls.length - (intOf i).toNat)
          case atStart => exact HST.out
          case round =>
            obtain ⟨k2, hk2, rfl, hX2, hN2, hRow2, hT2⟩ := hrel
            have HX2 := Lib.hid hX2; have HR2 := Lib.hid hRow2; have HT2 := Lib.hid hT2
            clear hX2 hRow2 hT2 HST
            by_cases hlt2 : k2 < ls.length
            · obtain ⟨g0, g1, g2, xa, xl, xc, g3, hkx⟩ := (HR2.out.1 k2 hlt2).cells
              have HEV : Hid (EVal wr (.agg #[.int .i64 ls[k2].op, .int .i64 ls[k2].wd, .int .i64 ls[k2].n, .slice xa xl xc]) ls[k2]) := ⟨_, rfl, hkx.kids⟩
              have HSZ := Lib.hid (cond_size (List.all_eq_true.1 HALL.out _ (HLM.out ls[k2] (List.getElem_mem hlt2))))
              clear hkx
              go_wp2_with fail
              refine (clone_any ls[k2] _ _ HEV.out HSZ.out).mono ?_
              rintro r w3 ⟨⟨v, rfl, hv⟩, x1⟩
              obtain ⟨ya, yl, yc, rfl, hky⟩ := hv.t.shape
              have hR3 := HR2.out.ext x1
              obtain ⟨⟨v0, c0⟩, f0⟩ := hR3.cell k2 0 hlt2 (by omega)
              obtain ⟨⟨v1, c1⟩, f1⟩ := hR3.cell k2 1 hlt2 (by omega)
              obtain ⟨⟨v2, c2⟩, f2⟩ := hR3.cell k2 2 hlt2 (by omega)
              obtain ⟨⟨v3, c3⟩, f3⟩ := hR3.cell k2 3 hlt2 (by omega)
              rw [Nat.add_zero] at c0 f0
              have HREL : Hid (CRel2 ls W g N (.int .i64 ((k2 : Int) + 1)) (put4 w3 g (k2 * 4) (.int .i64 ls[k2].op) (.int .i64 ls[k2].wd) (.int .i64 ls[k2].n) (.slice ya yl yc))) := by
                have hsz := x1.size
                refine ⟨k2 + 1, by omega, by go_num, Below.trans (HX2.out.trans x1) (below_put4 hgW), by rw [put4_size]; omega, hR3.put hlt2 (hky.mono fun q hq => by omega), fun j hj hjk => ?_⟩
                by_cases c : j = k2
                · subst c
                  obtain ⟨d0, d1, d2, d3⟩ := put4_here (w := w3) (KB := g) (o := j * 4) (a := .int .i64 ls[j].op) (b := .int .i64 ls[j].wd) (c := .int .i64 ls[j].n) (d := .slice ya yl yc) (fun i hi => (hR3.cell j i hlt2 hi).1)
                  exact .mk' d0 d1 d2 d3 ((hky.keep fun q hq _ => put4_heap q (by omega)).mono fun q hq => by omega)
                · exact ((HT2.out j hj (by omega)).ext x1).keepAt (fun i hi => put4_other _ (.inr (by simp; omega))) fun q hq _ => put4_heap q (by omega)
              clear x1 hv hky hR3 g0 g1 g2 g3
              go_wp2_with fail
              exact ⟨HREL.out, by simp [intOf]; omega⟩
            · obtain ⟨e0, r0, rfl⟩ : ∃ e0 r0, ls = e0 :: r0 := by cases ls with
                | nil => exact absurd rfl hp0
                | cons a b => exact ⟨a, b, rfl⟩
              have HOx := Lib.hid (HX2.out.cell HO.out)
              have HVx := Lib.hid (HVR.out.ext HX2.out); have HMx := Lib.hid (HM.out.ext HX2.out)
              have hszx := HX2.out.size
              have HROW : Hid (∀ (i : Nat) (h : i < (e0 :: r0).length), IsT (fun b => w.heap.size ≤ b ∧ b ≠ w.heap.size + 1) wr g (0 + i * 4) (e0 :: r0)[i]) := fun i h => by
                rw [Nat.zero_add]; exact (HT2.out i h (by omega)).mono fun q hq => by omega
              clear HT2
              simp only [List.length_cons] at *
              go_wp2_with fail
              refine (fold_any (fun b => w.heap.size ≤ b ∧ b ≠ w.heap.size + 1) op w.heap.size e0 r0 g 0 pc _ HROW.out (by omega) hpm (fun q hq => by omega) HOx.out).mono ?_
              rintro r w3 ⟨⟨v, rfl, hv⟩, x1⟩
              generalize foldE op (e0 :: r0) = y at *
              obtain ⟨ya, yl, yc, rfl, hky⟩ := hv.shape
              have HEV := Lib.hid hv.eVal; have HKY := Lib.hid hky
              replace HX2 := Lib.hid (HX2.out.trans x1); replace HVx := Lib.hid (HVx.out.ext x1); replace HMx := Lib.hid (HMx.out.ext x1)
              clear x1 hv hky HROW HOx
              go_wp2_with fail
              refine (formed_any y _ _ ⟨_, rfl, HKY.out⟩ HMx.out).mono ?_
              rintro r w4 ⟨⟨v, rfl, hv⟩, x1⟩
              rw [HNE.out] at HCN
              generalize zeroIf y = z at *
              obtain ⟨za, zl, zc, rfl, hkz⟩ := hv.shape
              have hR := HVx.out.ext x1
              obtain ⟨c0, c1, c2, c3, f0, f1, f2, f3⟩ := cells_of_block hR
              have HB := Lib.hid (put4_new (x := .int .i64 z.op) (y := .int .i64 z.wd) (z := .int .i64 z.n) (u := .slice za zl zc) hR)
              have HXE : Hid (Ext w (put4 w4 (w.heap.size + 1) 0 (.int .i64 z.op) (.int .i64 z.wd) (.int .i64 z.n) (.slice za zl zc))) := Below.trans (HX.out.trans (HX2.out.trans x1)) (below_put4 (by omega))
              have HKE : Hid (KidsT (fun b => w.heap.size ≤ b) (put4 w4 (w.heap.size + 1) 0 (.int .i64 z.op) (.int .i64 z.wd) (.int .i64 z.n) (.slice za zl zc)) (.slice za zl zc) z.kids) := (hkz.keep fun q hq _ => put4_heap q hq.1.2).mono fun q hq => hq.1.1
              clear x1 hR hv hkz
              go_wp2_with fail
              refine bodyPost_ret (v := .agg #[.int .i64 z.op, .int .i64 z.wd, .int .i64 z.n, .slice za zl zc]) (results_cell_row Tryz.results69 _ _ (w.heap.size + 1) 25 _ (0, 0) _ rfl HB.out Tryz.underlying25 rfl sizeExpr) rfl ⟨⟨_, rfl, ?_⟩, HXE.out⟩
              rw [HCN.out]; exact ⟨_, rfl, HKE.out⟩
set_option maxHeartbeats 1000000 in
theorem AndZ_any (ks : List E) (v : Value) (w : World) (hk : Kids w v ks) (hM : Masks w) (hl : ks.length ≤ 6) : Calls Tryz.prog 39 #[v] w (RetT (fun b => w.heap.size ≤ b) (connectZ ks 5 1) w) := by
  have hx0 : Ext w (w.alloc (.cells zeroA 25)) := (Ext.refl w).alloc _
  have hv0 : VarE (w.alloc (.cells zeroA 25)) w.heap.size 0 0 0 (.slice none 0 0) := VarE.new _ _ _ _ _
  have HX := Lib.hid hx0; have HV := Lib.hid hv0; have HK := Lib.hid (hk.ext hx0); have HM := Lib.hid (hM.ext hx0)
  clear hx0 hv0 hk hM
  go_enter Tryz.func39, Tryz.ntmps39
  go_wp2_with fail
  refine (connectZ_any ks _ 5 1 _ HK.out HM.out (by omega) (by omega) hl).mono ?_
  rintro r w1 ⟨⟨v, rfl, hv⟩, x1⟩
  generalize hy : connectZ ks 5 1 = y at *
  have HY := Lib.hid hy
  clear hy
  obtain ⟨ya, yl, yc, rfl, hky⟩ := hv.shape
  have hR := HV.out.ext x1
  obtain ⟨c0, c1, c2, c3, f0, f1, f2, f3⟩ := cells_of_block hR
  have HB := Lib.hid (put4_new (x := .int .i64 y.op) (y := .int .i64 y.wd) (z := .int .i64 y.n) (u := .slice ya yl yc) hR)
  have HXE : Hid (Ext w (put4 w1 w.heap.size 0 (.int .i64 y.op) (.int .i64 y.wd) (.int .i64 y.n) (.slice ya yl yc))) := Below.trans (HX.out.trans x1) (below_put4 (Nat.le_refl _))
  have HKE : Hid (KidsT (fun b => w.heap.size ≤ b) (put4 w1 w.heap.size 0 (.int .i64 y.op) (.int .i64 y.wd) (.int .i64 y.n) (.slice ya yl yc)) (.slice ya yl yc) y.kids) := (hky.keep fun q hq _ => put4_heap q (by simp at hq; omega)).mono fun q hq => by simp at hq; omega
  clear x1 hR hv hky
  go_wp2_with fail
  refine bodyPost_ret (v := .agg #[.int .i64 y.op, .int .i64 y.wd, .int .i64 y.n, .slice ya yl yc]) (results_cell_row Tryz.results39 _ _ w.heap.size 25 _ (0, 0) _ rfl HB.out Tryz.underlying25 rfl sizeExpr) rfl ?_
  unfold RetT
  try rw [HY.out]
  exact ⟨⟨_, rfl, _, rfl, HKE.out⟩, HXE.out⟩

end Go.Proofs.YtlcgbdjmlnjhcaaGreatDoor
namespace Go.Proofs.YtlcgbdjmlnjhcaaGreatDoor
open Go.RowKit Go.Shelf

/-- A row whose kids are still to be laid anew. -/
structure Pend where
  g : Nat
  cap : Nat
  ps : List (E × Value)
def Pend.v (p : Pend) : Value := .slice (some ⟨p.g, 0, none⟩) p.ps.length p.cap
def PRow (S : Nat → Prop) (N0 : Nat) (w : World) (p : Pend) (i0 : Nat) : Prop :=
  ∀ i (hi : i < p.ps.length), i0 ≤ i → w.cell? ⟨p.g, i * 4 + 3, none⟩ = some p.ps[i].2 ∧ KidsT (fun k => S k ∧ k < N0) w p.ps[i].2 p.ps[i].1.kids
def stM (st : List Pend) : Nat := (st.map fun p => 1 + 2 * sizeAll (p.ps.map (·.1))).sum
theorem stM_snoc (st : List Pend) (p : Pend) : stM (st ++ [p]) = stM st + (1 + 2 * sizeAll (p.ps.map (·.1))) := by simp [stM]
theorem stM_len (st : List Pend) : st.length ≤ stM st := by
  induction st with
  | nil => simp
  | cons p r ih => simp only [stM, List.map_cons, List.sum_cons, List.length_cons] at *; omega
structure CloI (S : Nat → Prop) (N0 R : Nat) (e : E) (w0 : World) (G : List Nat) (st : List Pend) (wr : World) : Prop where
  tree : IsT (fun b => (S b ∧ b < N0) ∨ b ∈ G) wr R 0 e
  root : R ∈ G
  typed : ∀ b ∈ G, N0 + 2 ≤ b ∧ ∃ cs, wr.heap[b]? = some (.cells cs 25 (0, 0))
  ext : Ext w0 wr
  rows : ∀ p ∈ st, PRow S N0 wr p 0 ∧ p.g ∈ G ∧ 0 < p.ps.length
  nodup : (st.map Pend.g).Nodup
variable {S : Nat → Prop} {N0 R : Nat} {e : E} {w0 wr w5 : World} {G : List Nat} {st : List Pend}
theorem PRow.keep {p : Pend} {i0 : Nat} (h : PRow S N0 wr p i0) (hc : ∀ i, w5.cell? ⟨p.g, i, none⟩ = wr.cell? ⟨p.g, i, none⟩) (hb : ∀ k, k < N0 → k < wr.heap.size → w5.heap[k]? = wr.heap[k]?) : PRow S N0 w5 p i0 := fun i hi h0 => by
  obtain ⟨h1, h2⟩ := h i hi h0
  exact ⟨(hc _).trans h1, h2.keep fun k hk hs => hb k hk.2 hs⟩
/-- A step that touches neither a row nor older memory. -/
theorem CloI.keep (h : CloI S N0 R e w0 G st wr) (hx : Ext w0 w5) (hb : ∀ k, (k < N0 ∨ k ∈ G) → k < wr.heap.size → w5.heap[k]? = wr.heap[k]?) : CloI S N0 R e w0 G st w5 := by
  have hG : ∀ k ∈ G, w5.heap[k]? = wr.heap[k]? := fun k hk => by
    obtain ⟨_, cs, hc⟩ := h.typed k hk
    exact hb k (.inr hk) (lt_heap hc)
  refine ⟨h.tree.keep (.inr h.root) fun k hk hs => hb k (hk.imp (fun x => x.2) id) hs, h.root, fun b hbG => ⟨(h.typed b hbG).1, by rw [hG b hbG]; exact (h.typed b hbG).2⟩, hx, fun p hp => ?_, h.nodup⟩
  obtain ⟨h1, h2, h3⟩ := h.rows p hp
  exact ⟨h1.keep (fun _ => World.cell?_of_block (hG p.g h2)) (fun k hk hs => hb k (.inl hk) hs), h2, h3⟩
theorem CloI.later (h : CloI S N0 R e w0 G st wr) (hx : Ext wr w5) : CloI S N0 R e w0 G st w5 := h.keep (h.ext.trans hx) fun k _ hk => hx.block k hk
theorem PRow.later {p : Pend} {i0 : Nat} (h : PRow S N0 wr p i0) (hg : p.g < wr.heap.size) (hx : Ext wr w5) : PRow S N0 w5 p i0 := h.keep (fun _ => World.cell?_of_block (hx.block _ hg)) fun k _ hk => hx.block k hk
/-- The kids of an element laid anew. -/
theorem CloI.store (h : CloI S N0 R e w0 G st wr) {p : Pend} {i : Nat} (hi : i < p.ps.length) (hp : PRow S N0 wr p i) (hpG : p.g ∈ G) (hps : p.g ∉ st.map Pend.g) (hw0 : w0.heap.size = N0 + 2)
    {g2 cp : Nat} {qs : List (E × Value)} (hq : qs.map (·.1) = p.ps[i].1.kids) (hn : 0 < qs.length) (hg2 : p.g ≠ g2) (hgG : g2 ∉ G) (hg0 : N0 + 2 ≤ g2) (ho : wr.ownsRow (N0 + 2) 25 4 (.slice (some ⟨g2, 0, none⟩) qs.length cp) qs.length (flat4 qs)) (hk : ∀ q ∈ qs, KidsT (fun k => S k ∧ k < N0) wr q.2 q.1.kids) (hl : qs.length ≤ 100000) :
    CloI S N0 R e w0 (g2 :: G) (st ++ [⟨g2, cp, qs⟩]) (wr.setCell ⟨p.g, i * 4 + 3, none⟩ (.slice (some ⟨g2, 0, none⟩) qs.length cp)) ∧
    PRow S N0 (wr.setCell ⟨p.g, i * 4 + 3, none⟩ (.slice (some ⟨g2, 0, none⟩) qs.length cp)) p (i + 1) := by
  obtain ⟨hA, kA⟩ := hp i hi (Nat.le_refl _)
  obtain ⟨hp0, cs, hcs⟩ := h.typed _ hpG
  -- the new row
  have hrow : ∃ cur : Array Value, wr.heap[g2]? = some (.cells cur 25 (0, 0)) ∧ cur.toList.take (qs.length * 4) = flat4 qs := by
    rcases ho.2 with ⟨e1, _⟩ | ⟨g', cap', cur, e1, _, hh, _, _, _, ht⟩
    · cases e1
    · cases e1; exact ⟨cur, hh, ht⟩
  obtain ⟨cur, hcur, htk⟩ := hrow
  have hcell : ∀ j u, (flat4 qs)[j]? = some u → wr.cell? ⟨g2, j, none⟩ = some u := fun j u hj => by
    have hj4 : j < qs.length * 4 := by have := (List.getElem?_eq_some_iff.1 hj).1; rwa [flat4_len] at this
    rw [Lib.cell_of_heap hcur]
    have := congrArg (fun x => x[j]?) htk
    simp only [List.getElem?_take, if_pos hj4] at this
    rw [hj] at this
    simpa using this
  have hflat : ∀ (l : List (E × Value)) (j : Nat) (hj : j < l.length) (k : Nat), k < 4 → (flat4 l)[j * 4 + k]? = (cells4' l[j])[k]? := by
    intro l
    induction l with
    | nil => intro j hj; simp at hj
    | cons a r ih =>
      intro j hj k hk
      have hfl : flat4 (a :: r) = cells4' a ++ flat4 r := rfl
      have hc4 : (cells4' a).length = 4 := rfl
      rw [hfl]
      cases j with
      | zero => rw [List.getElem?_append_left (by rw [hc4]; omega)]; simp
      | succ j =>
        rw [List.getElem?_append_right (by rw [hc4]; omega), hc4, show (j + 1) * 4 + k - 4 = j * 4 + k by omega]
        exact ih j (by simpa using hj) k hk
  have hnew : KidsT (fun b => (S b ∧ b < N0) ∨ b = g2) wr (.slice (some ⟨g2, 0, none⟩) qs.length cp) p.ps[i].1.kids := by
    refine .inr ⟨g2, 0, cp, by rw [← hq, List.length_map], by rw [← hq, List.length_map]; omega, .inr rfl, fun j hj => ?_⟩
    have hj2 : j < qs.length := by rw [← hq, List.length_map] at hj; exact hj
    have hej : p.ps[i].1.kids[j] = qs[j].1 := by
      have : (qs.map (·.1))[j]? = (p.ps[i].1.kids)[j]? := by rw [hq]
      rw [List.getElem?_map, List.getElem?_eq_getElem hj2, List.getElem?_eq_getElem hj] at this
      simpa using this.symm
    rw [hej, Nat.zero_add]
    have f := fun k hk => hflat qs j hj2 k hk
    have hkk := (hk _ (List.getElem_mem hj2)).mono (S' := fun b => (S b ∧ b < N0) ∨ b = g2) fun k h => .inl h
    exact .mk' (hcell _ _ (by have := f 0 (by omega); rw [Nat.add_zero] at this; exact this)) (hcell _ _ (f 1 (by omega))) (hcell _ _ (f 2 (by omega))) (hcell _ _ (f 3 (by omega))) hkk
  have hne : ∀ k, (S k ∧ k < N0) ∨ k = g2 → k ≠ p.g := fun k hk => by
    rcases hk with hk | hk
    · have := hk.2; omega
    · rw [hk]; exact fun e => hg2 e.symm
  have hoth : ∀ k, k ≠ p.g → (wr.setCell ⟨p.g, i * 4 + 3, none⟩ (.slice (some ⟨g2, 0, none⟩) qs.length cp)).heap[k]? = wr.heap[k]? := fun k hk => heap_setCell_other _ _ _ _ hk
  refine ⟨⟨?_, List.mem_cons_of_mem _ h.root, ?_, ?_, ?_, ?_⟩, ?_⟩
  · exact (IsT.store hA kA.kids hnew hne hcs h.tree).mono fun k hk => by
      rcases hk with (hk | hk) | (hk | hk)
      · exact .inl hk
      · exact .inr (List.mem_cons_of_mem _ hk)
      · exact .inl hk
      · exact .inr (by rw [hk]; exact List.mem_cons_self)
  · intro b hb
    rcases List.mem_cons.1 hb with rfl | hb
    · exact ⟨hg0, by rw [hoth _ (fun e => hg2 e.symm)]; exact ⟨_, hcur⟩⟩
    · refine ⟨(h.typed b hb).1, ?_⟩
      by_cases c : b = p.g
      · subst c; exact ⟨_, heap_setCell_same _ _ _ _ _ _ hcs⟩
      · rw [hoth _ c]; exact (h.typed b hb).2
  · exact h.ext.setCell (p := ⟨p.g, i * 4 + 3, none⟩) (by show w0.heap.size ≤ p.g; omega) _
  · intro q hq'
    rcases List.mem_append.1 hq' with hq' | hq'
    · obtain ⟨h1, h2, h3⟩ := h.rows q hq'
      have hqg : q.g ≠ p.g := fun e => hps (e ▸ List.mem_map_of_mem hq')
      exact ⟨h1.keep (fun _ => World.cell?_of_block (hoth _ hqg)) (fun k hk _ => hoth k (by omega)), List.mem_cons_of_mem _ h2, h3⟩
    · rw [List.mem_singleton] at hq'
      subst hq'
      refine ⟨fun j hj _ => ?_, List.mem_cons_self, hn⟩
      exact ⟨(World.cell?_of_block (hoth _ (fun e => hg2 e.symm))).trans (hcell _ _ (hflat qs j hj 3 (by omega))), (hk _ (List.getElem_mem hj)).keep fun k hk _ => hoth k (by have := hk.2; omega)⟩
  · rw [List.map_append, List.map_cons, List.map_nil, List.nodup_append]
    refine ⟨h.nodup, by simp, fun a ha b hb => ?_⟩
    rw [List.mem_singleton] at hb
    obtain ⟨q, hq', rfl⟩ := List.mem_map.1 ha
    rw [hb]
    intro e
    have e' : q.g = g2 := e
    exact hgG (by rw [← e']; exact (h.rows q hq').2.1)
  · intro j hj h0
    obtain ⟨h1, h2⟩ := hp j hj (by omega)
    exact ⟨(cell_set_ne hcs _ (by omega)).trans h1, h2.keep fun k hk _ => hoth k (by have := hk.2; omega)⟩
end Go.Proofs.YtlcgbdjmlnjhcaaGreatDoor
