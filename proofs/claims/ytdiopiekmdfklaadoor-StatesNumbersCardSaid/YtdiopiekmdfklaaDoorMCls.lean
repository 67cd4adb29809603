/-
  A row of program cells of the call's own: appended to, and written.
  The walk of law10's cells.
-/
import Derived.Test.YtdiopiekmdfklaaDoorMLt
import Derived.Test.YtdiopiekmdfklaaDoorMExx
import Derived.Test.YtdiopiekmdfklaaDoorMStb
namespace Go.Proofs.YtdiopiekmdfklaaDoor
open Go.RowKit

def cellL (c : CellD) : List Value := [.string c.name, .int .i64 c.W, .int .i64 c.init, .int .i64 c.thread, .bool c.ghost, .int .i64 c.module]
def flatC (l : List CellD) : List Value := l.flatMap cellL
theorem flatC_cons (c : CellD) (l : List CellD) : flatC (c :: l) = cellL c ++ flatC l := by simp [flatC]
theorem flatC_snoc (l : List CellD) (c : CellD) : flatC (l ++ [c]) = flatC l ++ cellL c := by simp [flatC]
theorem flatC_len (l : List CellD) : (flatC l).length = l.length * 6 := by
  induction l with
  | nil => rfl
  | cons a r ih => rw [flatC_cons, List.length_append, ih]; simp [cellL]; omega
theorem flatC_get (l : List CellD) (i : Nat) (h : i < l.length) (j : Nat) (hj : j < 6) : (flatC l)[i * 6 + j]? = (cellL l[i])[j]? := by
  induction l generalizing i with
  | nil => simp at h
  | cons a r ih =>
    cases i with
    | zero =>
      rw [flatC_cons, List.getElem?_append_left (by simp [cellL]; omega)]
      simp
    | succ i =>
      rw [flatC_cons, List.getElem?_append_right (by simp [cellL]; omega)]
      have := ih i (by simpa using h)
      rw [show (i + 1) * 6 + j - (cellL a).length = i * 6 + j by simp [cellL]; omega, this]
      simp
theorem flatC_set (l : List CellD) (i : Nat) (h : i < l.length) (x : Int) : (flatC l).set (i * 6 + 1) (.int .i64 x) = flatC (l.set i { l[i] with W := x }) := by
  induction l generalizing i with
  | nil => simp at h
  | cons a r ih =>
    cases i with
    | zero => simp [flatC_cons, cellL]
    | succ i =>
      have := ih i (by simpa using h)
      rw [flatC_cons, List.set_append_right _ _ (by simp [cellL]; omega), show (i + 1) * 6 + 1 - (cellL a).length = i * 6 + 1 by simp [cellL]; omega, this]
      simp [flatC_cons]
theorem infoCell : (Tryd.prog.info? 82).map (fun i => (i.zero, i.size, i.bytes)) = some (some (.agg #[.string ⟨#[]⟩, .int .i64 0, .int .i64 0, .int .i64 0, .bool false, .int .i64 0]), 6, 56) := by kernel_rfl
def OwnCells (w : World) (base : Nat) (v : Value) (l : List CellD) : Prop := w.ownsRow base 82 6 v l.length (flatC l)
theorem OwnCells.cells {w : World} {base : Nat} {v : Value} {l : List CellD} (h : OwnCells w base v l) : Cells w v l := by
  obtain ⟨_, h2⟩ := h
  rcases h2 with ⟨rfl, hl⟩ | ⟨g, cap, cur, rfl, _, hh, hn, hc, hs, ht⟩
  · exact .inl ⟨⟨_, _, rfl⟩, List.length_eq_zero_iff.1 hl⟩
  · refine .inr ⟨g, 0, cap, rfl, by unfold maxLen at hc; omega, fun i hi => ?_⟩
    have e : ∀ j, j < 6 → w.cell? ⟨g, 0 + i * 6 + j, none⟩ = (cellL l[i])[j]? := fun j hj => by
      rw [← flatC_get l i hi j hj]
      have := congrArg (fun x => x[i * 6 + j]?) ht
      simp only [List.getElem?_take, if_pos (show i * 6 + j < l.length * 6 by omega)] at this
      simp only [World.cell?, hh, Nat.zero_add]
      simpa using this
    exact ⟨e 0 (by omega), e 1 (by omega), e 2 (by omega), e 3 (by omega), e 4 (by omega), e 5 (by omega)⟩
theorem OwnCells.shape {w : World} {base : Nat} {v : Value} {l : List CellD} (h : OwnCells w base v l) (h0 : 0 < l.length) : ∃ g cap, v = .slice (some ⟨g, 0, none⟩) l.length cap ∧ base ≤ g := by
  rcases h.2 with ⟨_, e⟩ | ⟨g, cap, cur, hv, hg, _⟩
  · omega
  · exact ⟨g, cap, hv, hg⟩
theorem OwnCells.lt {w : World} {base : Nat} {v : Value} {l : List CellD} (h : OwnCells w base v l) (k : Nat) (hk : v.ownBlock = some k) : base ≤ k ∧ k < w.heap.size := by
  rcases h.2 with ⟨rfl, _⟩ | ⟨g, cap, cur, rfl, hg, hh, _⟩
  · cases hk
  · cases hk; exact ⟨hg, lt_heap hh⟩
theorem OwnCells.keep {w w' : World} {base : Nat} {v : Value} {l : List CellD} (h : OwnCells w base v l) (hk : ∀ k, v.ownBlock = some k → w'.heap[k]? = w.heap[k]?) : OwnCells w' base v l := by
  obtain ⟨h1, h2⟩ := h
  refine ⟨h1, ?_⟩
  rcases h2 with h2 | ⟨g, cap, cur, hv, hg, hh, r⟩
  · exact .inl h2
  · exact .inr ⟨g, cap, cur, hv, hg, by rw [hk g (by rw [hv]; rfl)]; exact hh, r⟩
theorem OwnCells.kept {w w' : World} {base : Nat} {v : Value} {l : List CellD} (h : OwnCells w base v l) (hx : Ext w w') : OwnCells w' base v l := h.keep fun k hk => hx.block k (h.lt k hk).2
/-- The width of an element, and where it lies. -/
theorem OwnCells.at {w : World} {base g cap : Nat} {l : List CellD} (h : OwnCells w base (.slice (some ⟨g, 0, none⟩) l.length cap) l) {i : Nat} (hi : i < l.length) : w.cell? ⟨g, i * 6 + 1, none⟩ = some (.int .i64 l[i].W) ∧ w.frozen? ⟨g, i * 6 + 1, none⟩ = false := by
  constructor
  · rcases h.cells with ⟨⟨_, _, e⟩, _⟩ | ⟨b, o, c, e, _, hc⟩
    · simp only [Value.slice.injEq] at e; omega
    · cases e
      have := (hc i hi).2.1
      rwa [Nat.zero_add] at this
  · rcases h.2 with ⟨e, _⟩ | ⟨g', cap', cur, hv, hg, hh, _⟩
    · cases e
    · cases hv; exact frozen_of_row w g _ _ _ hh
theorem OwnCells.setW {w : World} {base g cap : Nat} {l : List CellD} (h : OwnCells w base (.slice (some ⟨g, 0, none⟩) l.length cap) l) {i : Nat} (hi : i < l.length) (x : Int) : OwnCells (w.setCell ⟨g, i * 6 + 1, none⟩ (.int .i64 x)) base (.slice (some ⟨g, 0, none⟩) l.length cap) (l.set i { l[i] with W := x }) := by
  obtain ⟨h1, h2⟩ := h
  refine ⟨by rw [flatC_len], ?_⟩
  rcases h2 with ⟨e, _⟩ | ⟨g', cap', cur, hv, hg, hh, hn, hc, hs, ht⟩
  · cases e
  · cases hv
    refine .inr ⟨g, cap, cur.setIfInBounds (i * 6 + 1) (.int .i64 x), by rw [List.length_set], hg, heap_setCell_same _ _ _ _ _ _ hh, by rw [List.length_set]; exact hn, hc, by simpa using hs, ?_⟩
    rw [List.length_set, Array.toList_setIfInBounds, List.take_set, ht, flatC_set l i hi]
theorem OwnCells.shape' {w : World} {base : Nat} {v : Value} {l : List CellD} {n : Nat} (h : OwnCells w base v l) (hn : l.length = n) (h0 : 0 < n) : ∃ g cap, v = .slice (some ⟨g, 0, none⟩) n cap ∧ base ≤ g := by
  subst hn; exact h.shape h0
theorem OwnCells.at' {w : World} {base g cap n : Nat} {l : List CellD} (h : OwnCells w base (.slice (some ⟨g, 0, none⟩) n cap) l) (hn : l.length = n) {i : Nat} (hi : i < n) : (∃ x, w.cell? ⟨g, i * 6 + 1, none⟩ = some (.int .i64 x)) ∧ w.frozen? ⟨g, i * 6 + 1, none⟩ = false := by
  subst hn; exact ⟨⟨_, (h.at hi).1⟩, (h.at hi).2⟩
theorem OwnCells.setW' {w : World} {base g cap n : Nat} {l m : List CellD} (h : OwnCells w base (.slice (some ⟨g, 0, none⟩) n cap) l) (hn : l.length = n) {i : Nat} (hi : i < l.length) {x : Int} (hm : l.set i { l[i] with W := x } = m) : OwnCells (w.setCell ⟨g, i * 6 + 1, none⟩ (.int .i64 x)) base (.slice (some ⟨g, 0, none⟩) n cap) m := by
  subst hn hm; exact h.setW hi x
/-- The empty row of a literal. -/
theorem OwnCells.empty (w : World) (base : Nat) (hb : base ≤ w.heap.size) : OwnCells (w.alloc (.cells #[] 82)) base (.slice (some ⟨w.heap.size, 0, none⟩) 0 0) [] :=
  ⟨rfl, .inr ⟨w.heap.size, 0, #[], rfl, hb, heap_new _ _, Nat.le_refl _, Nat.zero_le _, rfl, rfl⟩⟩
theorem cells_new (w : World) (c : CellD) (t : TypeId) : ∀ j u, (cellL c)[j]? = some u → (w.alloc (.cells (cellL c).toArray t)).cell? ((⟨w.heap.size, 0, none⟩ : Addr).add j) = some u := by
  intro j u hj
  have hh : (w.alloc (.cells (cellL c).toArray t)).heap[w.heap.size]? = some (.cells (cellL c).toArray t (0, 0)) := heap_new _ _
  have hadd : (⟨w.heap.size, 0, none⟩ : Addr).add j = ⟨w.heap.size, j, none⟩ := by unfold Addr.add; split <;> simp_all
  rw [hadd, cell_of_row _ _ _ _ _ _ hh]
  simpa using hj
/-- A cell appended to a row of the call's own. -/
theorem wpList_append_cell {W0 wr : World} {ops : Array Oper} {rest : List Oper} {o : Oper} {a : Act} {Q : Exit → Act → World → Prop} (hgd : o.guard = none) (s x : Operand)
    (ho : o.op = .call { callee := .builtin .append, args := #[s, x], argTypes := #[22, 22] }) (v : Value) (l : List CellD) (c : CellD) (hs : a.eval s = v) (hown : OwnCells wr W0.heap.size v l) (hX : Ext W0 wr)
    (hx : a.eval x = .slice (some ⟨wr.heap.size, 0, none⟩) 1 1) (hl : l.length ≤ 1000)
    (h : ∀ v' w', OwnCells w' W0.heap.size v' (l ++ [c]) → Ext W0 w' → wpList Tryd.prog ops Q rest (a.put o.dst v') w') :
    wpList Tryd.prog ops Q (o :: rest) a (wr.alloc (.cells #[.string c.name, .int .i64 c.W, .int .i64 c.init, .int .i64 c.thread, .bool c.ghost, .int .i64 c.module] 82)) := by
  obtain ⟨i0, hi, hz0, hz1, hz2⟩ := info_parts infoCell
  refine wpList_append_own _ hgd s x 22 ho W0.heap.size 82 i0 _ 6 56 Tryd.underlying22 hi hz0 hz1 hz2 rfl (by decide) v l.length (flatC l) hs (hown.kept ((Ext.refl wr).alloc _)) ⟨wr.heap.size, 0, none⟩ 1 1 (cellL c) hx rfl (cells_new wr c 82) ?_ ?_ ?_ ?_ ?_
  · simp [cellL, Value.oneCell']
  · unfold maxLen; omega
  · omega
  · have := hX.size; simp; omega
  · intro v' w' ho' hg _
    refine h v' w' (by unfold OwnCells; rw [flatC_snoc, List.length_append]; exact ho') ?_
    exact (hX.alloc _).grown hg fun k hk => (hown.lt k hk).1
end Go.Proofs.YtdiopiekmdfklaaDoor
namespace Go.Proofs.YtdiopiekmdfklaaDoor
open Go.RowKit

theorem idx_inc : ∀ {cs : List Int}, cs.Pairwise (· < ·) → ∀ {x : Int} (k : Nat), x ∈ cs → idxI cs x k = ((k + cs.countP fun y => decide (y < x) : Nat) : Int) := by
  intro cs
  induction cs with
  | nil => intro _ x k h; simp at h
  | cons a r ih =>
    intro h x k hx
    rw [List.pairwise_cons] at h
    unfold idxI
    rcases List.mem_cons.1 hx with e | e
    · subst e
      rw [if_pos rfl, count_none (fun y hy => by
        rcases List.mem_cons.1 hy with e | e
        · omega
        · exact Int.le_of_lt (h.1 y e))]
      rfl
    · have := h.1 x e
      rw [if_neg (by omega), ih h.2 (k + 1) e, List.countP_cons, if_pos (by simpa using this)]
      omega
theorem idx_none {cs : List Int} {x : Int} (h : x ∉ cs) : ∀ k, idxI cs x k = -1 := by
  induction cs with
  | nil => intro k; rfl
  | cons a r ih =>
    intro k
    rw [List.mem_cons, not_or] at h
    unfold idxI
    rw [if_neg (fun e => h.1 e.symm), ih h.2]
theorem count_in {cs : List Int} (hinc : incB cs = true) {x : Int} (h : x ∈ cs) : (cs.countP fun y => decide (y < x)) < cs.length := by
  obtain ⟨j, hj, e⟩ := mem_idx h
  rw [← e, count_at (inc_pw hinc) hj]; exact hj
theorem cellsF_snoc (cs ws : List Int) {k : Nat} (h : k < 32) : (cellsF cs ws).take (k + 1) = (cellsF cs ws).take k ++ [⟨⟨#[]⟩, if (k : Int) ∈ cs then wdOf cs ws k else 1, 0, -1, false, 0⟩] := by
  rw [List.take_succ_eq_append_getElem (by rw [cellsF_len]; exact h)]
  congr 2
  simp [cellsF]
set_option maxRecDepth 100000 in
set_option maxHeartbeats 2000000 in
theorem cells_any (cs ws is : List Int) (va : Value) (w : World) (ha : SetV w va cs ws is) (hsm : smallB cs ws = true) : Calls Tryd.prog 18 #[va] w fun r w' => ∃ v, r = .returned v ∧ OwnCells w' w.heap.size v (cellsF cs ws) ∧ Ext w w' := by
  obtain ⟨ca, cc, wa, wcp, ia, ic, rfl, a1, a2, a3⟩ := ha.shape
  obtain ⟨h1, hwd, _, _⟩ := small_sum hsm
  obtain ⟨hl, hinc, _⟩ := shape_iff.1 h1
  obtain ⟨W, hW⟩ : ∃ W, W = w.alloc (.cells #[.slice ca cs.length cc, .slice wa ws.length wcp, .slice ia is.length ic] 31) := ⟨_, rfl⟩
  have hx : Ext w W := by rw [hW]; exact (Ext.refl w).alloc _
  have hB1 : W.heap[w.heap.size]? = some (.cells #[.slice ca cs.length cc, .slice wa ws.length wcp, .slice ia is.length ic] 31 (0, 0)) := by rw [hW]; exact heap_new _ _
  obtain ⟨p0, p1, p2⟩ := cells3 hB1
  have P0 := Lib.hid p0; have P1 := Lib.hid p1
  have A1 := Lib.hid (a1.ext hx); have A2 := Lib.hid (a2.ext hx); have HX := Lib.hid hx; have HW := Lib.hid hW
  have HL := Lib.hid hl; have HINC := Lib.hid hinc
  clear ha a1 a2 a3 h1 hwd hl hinc hsm hx hW hB1 p0 p1 p2
  go_enter Tryd.func18, Tryd.ntmps18
  go_upto_region 1 with fail
  rw [← HW.out]
  go_wp2_with fail
  go_loopw [3, 4] (fun v i wr => ∃ k : Nat, k ≤ 32 ∧ i = .int .i64 k ∧ Ext W wr ∧ OwnCells wr W.heap.size v ((cellsF cs ws).take k)) (fun _ i _ => 32 - (intOf i).toNat)
  case atStart => exact ⟨0, Nat.zero_le _, rfl, (Ext.refl _).alloc _, OwnCells.empty _ _ (Nat.le_refl _)⟩
  case round =>
    obtain ⟨k, hk, rfl, hX, hO⟩ := hrel
    have HXr := Lib.hid hX; have HO := Lib.hid hO; clear hX hO
    by_cases hlt : k < 32
    · have HS := Lib.hid (cellsF_snoc cs ws hlt)
      have hlen : ((cellsF cs ws).take k).length ≤ 1000 := by rw [List.length_take, cellsF_len]; omega
      have HLen := Lib.hid hlen
      clear hlen
      have q0 := HXr.out.cell P0.out
      by_cases hm : (k : Int) ∈ cs
      · have hidx : idxI cs (k : Int) 0 = ((cs.countP fun y => decide (y < (k : Int)) : Nat) : Int) := by rw [idx_inc (inc_pw HINC.out) 0 hm, Nat.zero_add]
        have hcl := count_in HINC.out hm
        rw [if_pos hm] at HS
        have hwd : wdOf cs ws (k : Int) = ws.getD (cs.countP fun y => decide (y < (k : Int))) 0 := rfl
        generalize (cs.countP fun y => decide (y < (k : Int))) = j at *
        have hj : j < ws.length := by have := HL.out; omega
        have hwx : wdOf cs ws (k : Int) = ws[j] := by rw [hwd]; simp [List.getD, hj]
        have HIX := Lib.hid hidx
        rcases A2.out with ⟨_, e⟩ | ⟨b2, o2, cap2, e, _, hcl2⟩
        · rw [e] at hj; simp at hj
        cases e
        have g1 : wr.cell? ⟨b2, o2 + j, none⟩ = some (.int .i64 ws[j]) := by have := HXr.out.cell (hcl2 j hj); rw [Nat.mul_one] at this; exact this
        rw [hwx] at HS
        clear hcl2 hidx hwx hwd hm
        generalize ws[j] = x at *
        have q1 := HXr.out.cell P1.out
        go_wp2_with fail
        refine (RIndex_any cs k _ _ (A1.out.ext HXr.out)).mono ?_
        rintro r w3 ⟨rfl, rfl⟩
        rw [HIX.out]
        go_wp2_with (at_builtin; refine wpList_append_cell (W0 := W) rfl (.tmp 23) (.tmp 26) rfl _ ((cellsF cs ws).take k) ⟨⟨#[]⟩, x, 0, -1, false, 0⟩ rfl HO.out HXr.out rfl HLen.out ?_; intro v' w1 ho hx; rw [← HS.out] at ho; have HO1 := Lib.hid ho; have HX1 := Lib.hid hx; clear ho hx)
        exact ⟨⟨k + 1, by omega, by go_num, HX1.out, HO1.out⟩, by simp [intOf]; omega⟩
      · have hidx : idxI cs (k : Int) 0 = -1 := idx_none hm 0
        have HIX := Lib.hid hidx
        rw [if_neg hm] at HS
        clear hm hidx
        go_wp2_with fail
        refine (RIndex_any cs k _ _ (A1.out.ext HXr.out)).mono ?_
        rintro r w3 ⟨rfl, rfl⟩
        rw [HIX.out]
        go_wp2_with (at_builtin; refine wpList_append_cell (W0 := W) rfl (.tmp 23) (.tmp 26) rfl _ ((cellsF cs ws).take k) ⟨⟨#[]⟩, 1, 0, -1, false, 0⟩ rfl HO.out HXr.out rfl HLen.out ?_; intro v' w1 ho hx; rw [← HS.out] at ho; have HO1 := Lib.hid ho; have HX1 := Lib.hid hx; clear ho hx)
        exact ⟨⟨k + 1, by omega, by go_num, HX1.out, HO1.out⟩, by simp [intOf]; omega⟩
    · obtain rfl : k = 32 := by omega
      have HT : Hid ((cellsF cs ws).take 32 = cellsF cs ws) := List.take_of_length_le (by rw [cellsF_len]; omega)
      rw [HT.out] at HO
      go_wp2_with fail
      go_ret
      refine ⟨_, rfl, ?_, HX.out.trans HXr.out⟩
      obtain ⟨h1, h2⟩ := HO.out
      refine ⟨h1, ?_⟩
      rcases h2 with h2 | ⟨g, cap, cur, hv, hg, r⟩
      · exact .inl h2
      · exact .inr ⟨g, cap, cur, hv, by have := HX.out.size; omega, r⟩
end Go.Proofs.YtdiopiekmdfklaaDoor
