/-
  The connectives' small functions: condition, formed, the function that connect hands to fold.
  The walk of fold.
-/
import Derived.Test.YtdancokndklpnaaDoorMOw
namespace Go.Proofs.YtdancokndklpnaaDoor
open Go.RowKit

/-- An expression by value, the blocks of its kids in S. -/
def EValT (S : Nat → Prop) (w : World) (v : Value) (e : E) : Prop := ∃ k, v = .agg #[.int .i64 e.op, .int .i64 e.wd, .int .i64 e.n, k] ∧ KidsT S w k e.kids
theorem EValT.eVal {S : Nat → Prop} {w : World} {v : Value} {e : E} (h : EValT S w v e) : EVal w v e := by obtain ⟨k, h1, h2⟩ := h; exact ⟨k, h1, h2.kids⟩
theorem EValT.keep {S : Nat → Prop} {w w' : World} {v : Value} {e : E} (h : EValT S w v e) (hx : ∀ k, S k → k < w.heap.size → w'.heap[k]? = w.heap[k]?) : EValT S w' v e := by obtain ⟨k, h1, h2⟩ := h; exact ⟨k, h1, h2.keep hx⟩
theorem EValT.ext {S : Nat → Prop} {w w' : World} {v : Value} {e : E} (h : EValT S w v e) (hx : Ext w w') : EValT S w' v e := h.keep fun k _ hk => hx.block k hk
theorem EValT.mono {S S' : Nat → Prop} {w : World} {v : Value} {e : E} (h : EValT S w v e) (hS : ∀ k, S k → S' k) : EValT S' w v e := by obtain ⟨k, h1, h2⟩ := h; exact ⟨k, h1, h2.mono hS⟩
theorem EValT.there {S : Nat → Prop} {w : World} {v : Value} {e : E} (h : EValT S w v e) : EValT (fun k => S k ∧ k < w.heap.size) w v e := by obtain ⟨k, h1, h2⟩ := h; exact ⟨k, h1, h2.there⟩
theorem EValT.shape {S : Nat → Prop} {w : World} {v : Value} {e : E} (h : EValT S w v e) : ∃ a n c, v = .agg #[.int .i64 e.op, .int .i64 e.wd, .int .i64 e.n, .slice a n c] ∧ KidsT S w (.slice a n c) e.kids := by
  obtain ⟨k, h1, h2⟩ := h
  rcases h2 with ⟨⟨a, c, rfl⟩, h3⟩ | ⟨b, o, cap, rfl, h3⟩
  · exact ⟨_, _, _, h1, .inl ⟨⟨_, _, rfl⟩, h3⟩⟩
  · exact ⟨_, _, _, h1, .inr ⟨_, _, _, rfl, h3⟩⟩
theorem IsE.t {w : World} {b o : Nat} {e : E} (h : IsE w b o e) : IsT (fun k => k < w.heap.size) w b o e := by
  induction h with
  | leaf h0 h1 h2 h3 => exact .leaf h0 h1 h2 h3
  | @node b o op wd n ks b' o' cap h0 h1 h2 h3 hl hk ih =>
    rcases Nat.eq_zero_or_pos ks.length with h | h
    · have := List.length_eq_zero_iff.1 h; subst this; exact .leaf h0 h1 h2 h3
    · exact .node h0 h1 h2 h3 hl (block_lt (hk 0 h).cells.1) ih
theorem Kids.t {w : World} {v : Value} {ks : List E} (h : Kids w v ks) : KidsT (fun k => k < w.heap.size) w v ks := by
  rcases h with h | ⟨b, o, cap, h1, hl, h2⟩
  · exact .inl h
  · rcases Nat.eq_zero_or_pos ks.length with h | h
    · have := List.length_eq_zero_iff.1 h; subst this; exact .inl ⟨⟨_, _, h1⟩, rfl⟩
    · exact .inr ⟨b, o, cap, h1, hl, block_lt (h2 0 h).cells.1, fun i hi => (h2 i hi).t⟩
theorem EVal.t {w : World} {v : Value} {e : E} (h : EVal w v e) : EValT (fun k => k < w.heap.size) w v e := by obtain ⟨k, h1, h2⟩ := h; exact ⟨k, h1, h2.t⟩
theorem EValB.t {N : Nat} {w : World} {v : Value} {e : E} (h : EValB N w v e) : EValT (fun k => N ≤ k ∧ k < w.heap.size) w v e := by obtain ⟨k, h1, h2⟩ := h; exact ⟨k, h1, h2.t⟩
def RetT (S : Nat → Prop) (e : E) (w : World) (r : Ending) (w' : World) : Prop := (∃ v, r = .returned v ∧ EValT S w' v e) ∧ Ext w w'

set_option maxHeartbeats 1000000 in
theorem condition_any (e : E) (v : Value) (w : World) (he : EVal w v e) (hM : Masks w) : Calls Tryd.prog 65 #[v] w fun r w' => r = .returned (.bool ((e.wd == 1) && e.wf)) ∧ Ext w w' := by
  obtain ⟨a, n, c, rfl, hk⟩ := he.shape
  have hx0 : Ext w (w.alloc (.cells #[.int .i64 e.op, .int .i64 e.wd, .int .i64 e.n, .slice a n c] 24)) := (Ext.refl w).alloc _
  have HV := Lib.hid (he.ext hx0); have HX := Lib.hid hx0; have HM := Lib.hid (hM.ext hx0)
  clear hx0 he hk hM
  cases hw : (e.wd == 1) with
  | false =>
    go_enter Tryd.func65, Tryd.ntmps65
    go_wp2_with fail
    go_ret
    exact ⟨rfl, HX.out⟩
  | true =>
    go_enter Tryd.func65, Tryd.ntmps65
    go_wp2_with fail
    refine (wellFormed_any e _ _ HV.out HM.out).mono ?_
    rintro r w1 ⟨rfl, x1⟩
    have HX1 := Lib.hid (HX.out.trans x1); clear x1
    go_wp2_with fail
    go_ret
    exact ⟨rfl, HX1.out⟩

theorem heap_of2 (w : World) (o0 o1 : Obj) : ((w.alloc o0).alloc o1).heap[w.heap.size]? = some o0 ∧ ((w.alloc o0).alloc o1).heap[w.heap.size + 1]? = some o1 := by
  have hs1 : (w.alloc o0).heap.size = w.heap.size + 1 := by simp
  refine ⟨?_, ?_⟩
  · rw [Below.heap_alloc _ _ _ (by omega)]; exact heap_new _ _
  · rw [← hs1]; exact heap_new _ _
set_option maxHeartbeats 1000000 in
/-- A well-formed expression comes back as it is. -/
theorem formed_yes (e : E) (v : Value) (w : World) (he : EVal w v e) (hM : Masks w) (hw : e.wf = true) : Calls Tryd.prog 68 #[v] w fun r w' => r = .returned v ∧ Ext w w' := by
  obtain ⟨a, n, c, rfl, hk⟩ := he.shape
  obtain ⟨W, hW⟩ : ∃ W, W = (w.alloc (.cells #[.int .i64 e.op, .int .i64 e.wd, .int .i64 e.n, .slice a n c] 24)).alloc (.cells zeroA 24) := ⟨_, rfl⟩
  have hx : Ext w W := by rw [hW]; exact ((Ext.refl w).alloc _).alloc _
  obtain ⟨hv1, hv2⟩ := heap_of2 w (.cells #[.int .i64 e.op, .int .i64 e.wd, .int .i64 e.n, .slice a n c] 24) (.cells zeroA 24)
  rw [← hW] at hv1 hv2
  have HV1 : Hid (VarE W w.heap.size e.op e.wd e.n (.slice a n c)) := hv1
  have HV2 : Hid (VarE W (w.heap.size + 1) 0 0 0 (.slice none 0 0)) := hv2
  have HX := Lib.hid hx; have HE := Lib.hid (he.ext hx); have HM := Lib.hid (hM.ext hx); have HW := Lib.hid hW; have HWF := Lib.hid hw
  clear hx hv1 hv2 he hk hM hW hw
  obtain ⟨q0, q1, q2, q3⟩ := HV1.out.cells
  go_enter Tryd.func68, Tryd.ntmps68
  go_upto_region 1 with fail
  rw [← HW.out]; clear HW
  go_wp2_with fail
  refine (wellFormed_any e _ _ HE.out HM.out).mono ?_
  rintro r w1 ⟨rfl, x1⟩
  rw [HWF.out]
  obtain ⟨p0, p1, p2, p3⟩ := (HV1.out.ext x1).cells
  have hR := HV2.out.ext x1
  obtain ⟨c0, c1, c2, c3, f0, f1, f2, f3⟩ := cells_of_block hR
  have HB := Lib.hid (put4_new (x := .int .i64 e.op) (y := .int .i64 e.wd) (z := .int .i64 e.n) (u := .slice a n c) hR)
  have HXE : Hid (Ext w (put4 w1 (w.heap.size + 1) 0 (.int .i64 e.op) (.int .i64 e.wd) (.int .i64 e.n) (.slice a n c))) := Below.trans (HX.out.trans x1) (below_put4 (by omega))
  clear x1 hR q0 q1 q2 q3
  go_wp2_with fail
  exact bodyPost_ret (v := .agg #[.int .i64 e.op, .int .i64 e.wd, .int .i64 e.n, .slice a n c]) (results_cell_row Tryd.results68 _ _ (w.heap.size + 1) 24 _ (0, 0) _ rfl HB.out Tryd.underlying24 rfl sizeExpr) rfl ⟨rfl, HXE.out⟩

theorem heap_of4' (w : World) (o0 o1 o2 o3 : Obj) : ((((w.alloc o0).alloc o1).alloc o2).alloc o3).heap[w.heap.size + 1 + 1]? = some o2 ∧ ((((w.alloc o0).alloc o1).alloc o2).alloc o3).heap[w.heap.size + 1 + 1 + 1]? = some o3 := by
  have hs2 : ((w.alloc o0).alloc o1).heap.size = w.heap.size + 1 + 1 := by simp
  have hs3 : (((w.alloc o0).alloc o1).alloc o2).heap.size = w.heap.size + 1 + 1 + 1 := by simp
  refine ⟨?_, ?_⟩
  · rw [Below.heap_alloc _ _ _ (by omega), ← hs2]; exact heap_new _ _
  · rw [← hs3]; exact heap_new _ _
theorem two_valT {S : Nat → Prop} {w W : World} {K : Nat} {a b : E} {ka kb : Value} (hx : Ext w W) (h1 : KidsT S w ka a.kids) (h2 : KidsT S w kb b.kids) (hK : S K)
    (hb : W.heap[K]? = some (.cells #[.int .i64 a.op, .int .i64 a.wd, .int .i64 a.n, ka, .int .i64 b.op, .int .i64 b.wd, .int .i64 b.n, kb] 24 (0, 0))) : KidsT S W (.slice (some ⟨K, 0, none⟩) 2 2) [a, b] := by
  have mk : ∀ (o : Nat) (x : E) (kv : Value), W.cell? ⟨K, o, none⟩ = some (.int .i64 x.op) → W.cell? ⟨K, o + 1, none⟩ = some (.int .i64 x.wd) → W.cell? ⟨K, o + 2, none⟩ = some (.int .i64 x.n) → W.cell? ⟨K, o + 3, none⟩ = some kv → KidsT S w kv x.kids → IsT S W K o x := by
    intro o x kv c0 c1 c2 c3 hk
    have hk' := hk.keep (w' := W) fun k _ hk => hx.block k hk
    obtain ⟨op, wd, n, ks⟩ := x
    rcases hk' with ⟨⟨_, _, rfl⟩, e⟩ | ⟨b', o', cap, rfl, hl, hs, hi⟩
    · simp only [E.kids_mk] at e; subst e; exact .leaf c0 c1 c2 c3
    · exact .node c0 c1 c2 c3 hl hs hi
  refine .inr ⟨K, 0, 2, rfl, by simp, hK, fun i h => ?_⟩
  have : i = 0 ∨ i = 1 := by simp at h; omega
  rcases this with rfl | rfl
  · exact mk _ a ka (by simp [World.cell?, hb]) (by simp [World.cell?, hb]) (by simp [World.cell?, hb]) (by simp [World.cell?, hb]) h1
  · exact mk _ b kb (by simp [World.cell?, hb]) (by simp [World.cell?, hb]) (by simp [World.cell?, hb]) (by simp [World.cell?, hb]) h2
set_option maxHeartbeats 1000000 in
theorem connect1_any (S : Nat → Prop) (op : Int) (O : Nat) (a b : E) (va vb : Value) (w : World) (ha : EValT S w va a) (hb : EValT S w vb b) (hS : ∀ k, w.heap.size ≤ k → S k) (ho : w.cell? ⟨O, 0, none⟩ = some (.int .i64 op)) :
    Calls Tryd.prog 84 #[va, vb, .pointer (some ⟨O, 0, none⟩)] w (RetT S (.mk op 1 0 [a, b]) w) := by
  obtain ⟨aa, al, ac, rfl, hk1⟩ := ha.shape
  obtain ⟨ba, bl, bc, rfl, hk2⟩ := hb.shape
  have hO : O < w.heap.size := block_lt ho
  have hO1 : O < w.heap.size + 1 := by omega
  have hO2 : O < w.heap.size + 1 + 1 := by omega
  have HK1 := Lib.hid hk1; have HK2 := Lib.hid hk2; have HS := Lib.hid hS
  clear ha hb hk1 hk2 hS
  go_enter Tryd.func84, Tryd.ntmps84
  go_wp2_with fail
  obtain ⟨hR, hK⟩ := heap_of4' w (.cells #[.int .i64 a.op, .int .i64 a.wd, .int .i64 a.n, .slice aa al ac] 24) (.cells #[.int .i64 b.op, .int .i64 b.wd, .int .i64 b.n, .slice ba bl bc] 24) (.cells #[.int .i64 op, .int .i64 1, .int .i64 0, .slice (some ⟨w.heap.size + 1 + 1 + 1, 0, none⟩) 2 2] 24) (.cells #[.int .i64 a.op, .int .i64 a.wd, .int .i64 a.n, .slice aa al ac, .int .i64 b.op, .int .i64 b.wd, .int .i64 b.n, .slice ba bl bc] 24)
  have hx : Ext w ((((w.alloc (.cells #[.int .i64 a.op, .int .i64 a.wd, .int .i64 a.n, .slice aa al ac] 24)).alloc (.cells #[.int .i64 b.op, .int .i64 b.wd, .int .i64 b.n, .slice ba bl bc] 24)).alloc (.cells #[.int .i64 op, .int .i64 1, .int .i64 0, .slice (some ⟨w.heap.size + 1 + 1 + 1, 0, none⟩) 2 2] 24)).alloc (.cells #[.int .i64 a.op, .int .i64 a.wd, .int .i64 a.n, .slice aa al ac, .int .i64 b.op, .int .i64 b.wd, .int .i64 b.n, .slice ba bl bc] 24)) := ((((Ext.refl w).alloc _).alloc _).alloc _).alloc _
  exact bodyPost_ret (v := .agg #[.int .i64 op, .int .i64 1, .int .i64 0, .slice (some ⟨w.heap.size + 1 + 1 + 1, 0, none⟩) 2 2]) (results_cell_row Tryd.results84 _ _ (w.heap.size + 1 + 1) 24 _ (0, 0) _ rfl hR Tryd.underlying24 rfl sizeExpr) rfl ⟨⟨_, rfl, _, rfl, two_valT hx HK1.out HK2.out (HS.out _ (by omega)) hK⟩, hx⟩
end Go.Proofs.YtdancokndklpnaaDoor
namespace Go.Proofs.YtdancokndklpnaaDoor
open Go.RowKit

/-- The elements of a list that is not empty, joined from the left. -/
def foldE (op : Int) : List E → E
  | [] => .mk 0 0 0 []
  | e :: r => r.foldl (fun a b => .mk op 1 0 [a, b]) e
theorem foldE_take {op : Int} {e : E} {r : List E} {k : Nat} (h : k < r.length) : foldE op ((e :: r).take (k + 1 + 1)) = .mk op 1 0 [foldE op ((e :: r).take (k + 1)), r[k]] := by
  simp only [List.take_succ_cons, foldE]
  rw [List.take_succ_eq_append_getElem h, List.foldl_append]; rfl
theorem IsT.cells {S : Nat → Prop} {w : World} {b o : Nat} {e : E} (h : IsT S w b o e) : w.cell? ⟨b, o, none⟩ = some (.int .i64 e.op) ∧ w.cell? ⟨b, o + 1, none⟩ = some (.int .i64 e.wd) ∧ w.cell? ⟨b, o + 2, none⟩ = some (.int .i64 e.n) ∧ ∃ a l c, w.cell? ⟨b, o + 3, none⟩ = some (.slice a l c) ∧ KidsT S w (.slice a l c) e.kids := by
  cases h with
  | leaf h0 h1 h2 h3 => exact ⟨h0, h1, h2, _, _, _, h3, .inl ⟨⟨_, _, rfl⟩, rfl⟩⟩
  | node h0 h1 h2 h3 hl hs hk => exact ⟨h0, h1, h2, _, _, _, h3, .inr ⟨_, _, _, rfl, hl, hs, hk⟩⟩

/-- What holds while the elements are joined. -/
def FoldRel (S : Nat → Prop) (op : Int) (e : E) (r : List E) (w : World) (R0 R1 : Nat) (i : Value) (wr : World) : Prop :=
  ∃ (k : Nat) (a : Option Addr) (l c : Nat), k ≤ r.length ∧ i = .int .i64 k ∧ Ext w wr ∧ VarE wr R0 0 0 0 (.slice none 0 0) ∧
    VarE wr R1 (foldE op ((e :: r).take (k + 1))).op (foldE op ((e :: r).take (k + 1))).wd (foldE op ((e :: r).take (k + 1))).n (.slice a l c) ∧ KidsT (fun b => S b ∧ b ≠ R0 ∧ b ≠ R1) wr (.slice a l c) (foldE op ((e :: r).take (k + 1))).kids

set_option maxHeartbeats 4000000 in
theorem fold_any (S : Nat → Prop) (op : Int) (O : Nat) (e : E) (r : List E) (g o cap : Nat) (w : World) (hrow : ∀ (i : Nat) (h : i < (e :: r).length), IsT S w g (o + i * 4) (e :: r)[i]) (hlen : r.length + 1 ≤ cap) (hcap : cap ≤ 9223372036854775807) (hS : ∀ k, w.heap.size ≤ k → S k) (ho : w.cell? ⟨O, 0, none⟩ = some (.int .i64 op)) :
    Calls Tryd.prog 83 #[.slice (some ⟨g, o, none⟩) (r.length + 1) cap, .func (.func 84) #[] #[.pointer (some ⟨O, 0, none⟩)]] w (RetT S (foldE op (e :: r)) w) := by
  have h0 := hrow 0 (by simp)
  rw [Nat.zero_mul, Nat.add_zero] at h0
  obtain ⟨c0, c1, c2, ea, el, ec, c3, hk0⟩ := h0.cells
  simp only [List.getElem_cons_zero] at c0 c1 c2 hk0
  have hg : g < w.heap.size := block_lt c0
  have hg1 : g < w.heap.size + 1 := by omega
  have hR1 : 1 ≤ cap := by omega
  have i0 : (0 : Int) < ((r.length + 1 : Nat) : Int) := by omega
  have HROW := Lib.hid hrow; have HS := Lib.hid hS; have HO := Lib.hid ho
  obtain ⟨W, hW⟩ : ∃ W, W = (w.alloc (.cells zeroA 24)).alloc (.cells #[.int .i64 e.op, .int .i64 e.wd, .int .i64 e.n, .slice ea el ec] 24) := ⟨_, rfl⟩
  have hx : Ext w W := by rw [hW]; exact ((Ext.refl w).alloc _).alloc _
  obtain ⟨hv1, hv2⟩ := heap_of2 w (.cells zeroA 24) (.cells #[.int .i64 e.op, .int .i64 e.wd, .int .i64 e.n, .slice ea el ec] 24)
  rw [← hW] at hv1 hv2
  have HST : Hid (FoldRel S op e r w w.heap.size (w.heap.size + 1) (.int .i64 0) W) :=
    ⟨0, ea, el, ec, Nat.zero_le _, rfl, hx, hv1, hv2, (hk0.there.keep fun k _ hk => hx.block k hk).mono fun k hk => ⟨hk.1, by omega, by omega⟩⟩
  have HW := Lib.hid hW
  clear hrow hS ho h0 hk0 hx hv1 hv2 hW
  go_enter Tryd.func83, Tryd.ntmps83
  go_upto_region 2 with fail
  rw [← HW.out]; clear HW c0 c1 c2 c3
  have hd1 : (1 : Int) ≤ ((r.length + 1 : Nat) : Int) := by omega
  have hd2 : ((r.length + 1 : Nat) : Int) ≤ (cap : Int) := by omega
  by_cases hc1 : cap = 1
  · have hr0 : r = [] := List.length_eq_zero_iff.1 (by omega)
    subst hr0
    subst hc1
    go_wp2_with fail
    go_loopw [14] (fun i wr => FoldRel S op e [] w w.heap.size (w.heap.size + 1) i wr) (fun i _ => 0 - (intOf i).toNat)
    case atStart => exact HST.out
    case round =>
      obtain ⟨k, a, l, c, hk, rfl, hX, hV0, hV1, hK⟩ := hrel
      have hk0 : k = 0 := by simpa using hk
      subst hk0
      have HX := Lib.hid hX; have HV0 := Lib.hid hV0; have HV1 := Lib.hid hV1; have HK := Lib.hid hK
      clear hX hV0 hV1 hK hk HST
      have hk : ¬ 0 < ([] : List E).length := by simp
      go_upto_region 7 with fail
      have HF : Hid (foldE op ((e :: []).take (0 + 1)) = foldE op (e :: [])) := by rw [Hid, List.take_of_length_le (by simp)]
      rw [HF.out] at HV1 HK
      obtain ⟨q0, q1, q2, q3⟩ := HV1.out.cells
      obtain ⟨c0, c1, c2, c3, f0, f1, f2, f3⟩ := cells_of_block HV0.out
      generalize foldE op (e :: []) = y at *
      have HB := Lib.hid (put4_new (x := .int .i64 y.op) (y := .int .i64 y.wd) (z := .int .i64 y.n) (u := .slice a l c) HV0.out)
      have HXE : Hid (Ext w (put4 wr w.heap.size 0 (.int .i64 y.op) (.int .i64 y.wd) (.int .i64 y.n) (.slice a l c))) := Below.trans HX.out (below_put4 (Nat.le_refl _))
      have HKE : Hid (KidsT S (put4 wr w.heap.size 0 (.int .i64 y.op) (.int .i64 y.wd) (.int .i64 y.n) (.slice a l c)) (.slice a l c) y.kids) := (HK.out.keep fun q hq _ => put4_heap q hq.2.1).mono fun q hq => hq.1
      go_wp2_with fail
      exact bodyPost_ret (v := .agg #[.int .i64 y.op, .int .i64 y.wd, .int .i64 y.n, .slice a l c]) (results_cell_row Tryd.results83 _ _ w.heap.size 24 _ (0, 0) _ rfl HB.out Tryd.underlying24 rfl sizeExpr) rfl ⟨⟨_, rfl, _, rfl, HKE.out⟩, HXE.out⟩
  · go_wp2_with fail
    go_loopw [14] (fun i wr => FoldRel S op e r w w.heap.size (w.heap.size + 1) i wr) (fun i _ => r.length - (intOf i).toNat)
    case atStart => exact HST.out
    case round =>
      obtain ⟨k, a, l, c, hk, rfl, hX, hV0, hV1, hK⟩ := hrel
      have HX := Lib.hid hX; have HV0 := Lib.hid hV0; have HV1 := Lib.hid hV1; have HK := Lib.hid hK
      clear hX hV0 hV1 hK HST
      by_cases hlt : k < r.length
      · have hE := HROW.out (k + 1) (by simpa using hlt)
        rw [List.getElem_cons_succ, show o + (k + 1) * 4 = o + 4 + k * 4 by omega] at hE
        obtain ⟨e0, e1, e2, xa, xl, xc, e3, hkx⟩ := hE.cells
        have g0 := HX.out.cell e0; have g1 := HX.out.cell e1; have g2 := HX.out.cell e2; have g3 := HX.out.cell e3
        have HKX : Hid (KidsT (fun b => S b ∧ b ≠ w.heap.size ∧ b ≠ w.heap.size + 1) wr (.slice xa xl xc) r[k].kids) := (hkx.there.keep fun q _ hq => HX.out.block q hq).mono fun q hq => ⟨hq.1, by omega, by omega⟩
        clear hE e0 e1 e2 e3 hkx
        have HFT := Lib.hid (foldE_take (op := op) (e := e) hlt)
        generalize foldE op ((e :: r).take (k + 1)) = y at *
        go_upto_region 5 with fail
        obtain ⟨W2, hW2⟩ : ∃ W2, W2 = wr.alloc (.cells #[.int .i64 r[k].op, .int .i64 r[k].wd, .int .i64 r[k].n, .slice xa xl xc] 24) := ⟨_, rfl⟩
        have hxw : Ext wr W2 := by rw [hW2]; exact (Ext.refl _).alloc _
        have HV2 : Hid (VarE W2 wr.heap.size r[k].op r[k].wd r[k].n (.slice xa xl xc)) := by rw [hW2]; exact VarE.new _ _ _ _ _
        rw [← hW2]
        replace HV0 := Lib.hid (HV0.out.ext hxw); replace HV1 := Lib.hid (HV1.out.ext hxw); replace HX := Lib.hid (HX.out.trans hxw)
        replace HK := Lib.hid (HK.out.keep fun q _ hq => hxw.block q hq); replace HKX := Lib.hid (HKX.out.keep fun q _ hq => hxw.block q hq)
        have hsz : w.heap.size + 1 < W2.heap.size := HV1.out.lt
        have HOO := Lib.hid (HX.out.cell HO.out)
        clear hxw hW2 g0 g1 g2 g3
        generalize wr.heap.size = B2 at *
        obtain ⟨q0, q1, q2, q3⟩ := HV1.out.cells
        obtain ⟨p0, p1, p2, p3⟩ := HV2.out.cells
        go_wp2_with fail
        refine (connect1_any (fun b => S b ∧ b ≠ w.heap.size ∧ b ≠ w.heap.size + 1) op O y r[k] _ _ _ ⟨_, rfl, HK.out⟩ ⟨_, rfl, HKX.out⟩ (fun q hq => ⟨HS.out q (by omega), by omega, by omega⟩) HOO.out).mono ?_
        rintro r1 w3 ⟨⟨v, rfl, hv⟩, x1⟩
        obtain ⟨ya, yl, yc, rfl, hky⟩ := hv.shape
        have hR := HV1.out.ext x1
        obtain ⟨c0, c1, c2, c3, f0, f1, f2, f3⟩ := cells_of_block hR
        have HREL : Hid (FoldRel S op e r w w.heap.size (w.heap.size + 1) (.int .i64 ((k : Int) + 1)) (put4 w3 (w.heap.size + 1) 0 (.int .i64 op) (.int .i64 1) (.int .i64 0) (.slice ya yl yc))) := by
          refine ⟨k + 1, ya, yl, yc, by omega, by go_num, Below.trans (HX.out.trans x1) (below_put4 (by omega)), ?_, ?_, ?_⟩
          · have := HV0.out.ext x1
            unfold VarE at this ⊢
            rw [put4_heap _ (by omega)]; exact this
          · rw [HFT.out]; exact put4_new hR
          · rw [HFT.out]; exact hky.keep fun q hq _ => put4_heap q hq.2.2
        clear x1 hv hky hR q0 q1 q2 q3 p0 p1 p2 p3
        simp only [E.op_mk, E.wd_mk, E.n_mk]
        go_wp2_with fail
        exact ⟨HREL.out, by simp [intOf]; omega⟩
      · go_upto_region 7 with fail
        have HF : Hid (foldE op ((e :: r).take (k + 1)) = foldE op (e :: r)) := by rw [Hid, List.take_of_length_le (by simp; omega)]
        rw [HF.out] at HV1 HK
        obtain ⟨q0, q1, q2, q3⟩ := HV1.out.cells
        obtain ⟨c0, c1, c2, c3, f0, f1, f2, f3⟩ := cells_of_block HV0.out
        generalize foldE op (e :: r) = y at *
        have HB := Lib.hid (put4_new (x := .int .i64 y.op) (y := .int .i64 y.wd) (z := .int .i64 y.n) (u := .slice a l c) HV0.out)
        have HXE : Hid (Ext w (put4 wr w.heap.size 0 (.int .i64 y.op) (.int .i64 y.wd) (.int .i64 y.n) (.slice a l c))) := Below.trans HX.out (below_put4 (Nat.le_refl _))
        have HKE : Hid (KidsT S (put4 wr w.heap.size 0 (.int .i64 y.op) (.int .i64 y.wd) (.int .i64 y.n) (.slice a l c)) (.slice a l c) y.kids) := (HK.out.keep fun q hq _ => put4_heap q hq.2.1).mono fun q hq => hq.1
        go_wp2_with fail
        exact bodyPost_ret (v := .agg #[.int .i64 y.op, .int .i64 y.wd, .int .i64 y.n, .slice a l c]) (results_cell_row Tryd.results83 _ _ w.heap.size 24 _ (0, 0) _ rfl HB.out Tryd.underlying24 rfl sizeExpr) rfl ⟨⟨_, rfl, _, rfl, HKE.out⟩, HXE.out⟩
end Go.Proofs.YtdancokndklpnaaDoor
