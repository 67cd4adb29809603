/-
  The walk of simplify: what its loop keeps. (Written by wip/gen_simplify.py.)
  The walk of simplify at a node with kids.
  The walk of Simplify.
-/
import Derived.Test.YtdancokndklpnaaDoorMSj
import Derived.Test.YtdancokndklpnaaDoorMSo
import Derived.Test.YtdancokndklpnaaDoorMSp
import Derived.Test.YtdancokndklpnaaDoorMCm
import Derived.Test.YtdancokndklpnaaDoorMCh
import Derived.Deep.DeepCutAuto
import Derived.Deep.RegionHeld3
namespace Go.Proofs.YtdancokndklpnaaDoor
open Go.RowKit

/-- The contract of 'simplify' at expressions of at most N nodes. -/
def SimpC (N : Nat) : Prop := ∀ (e : E) (w : World) (b o d : Nat), e.size ≤ N → IsE w b o e → e.deep d = true → Masks w → Calls Tryd.prog 62 #[.pointer (some ⟨b, o, none⟩)] w (NewN w.heap.size e.simp w)

/-- What holds when simplify has come through k kids; NB: the block of the node, KB: of its kids. -/
def SfLoop (w : World) (op wd : Int) (NB KB L : Nat) (ks : List E) (k : Nat) (wr : World) : Prop :=
  Ext w wr ∧ (w.heap.size < NB ∧ w.heap.size < KB ∧ NB ≠ KB) ∧ Filled wr KB L (ks.map E.simp) k ∧ wr.heap[NB]? = some (.cells #[.int .i64 op, .int .i64 wd, .int .i64 0, .slice (some ⟨KB, 0, none⟩) L L] 24 (0, 0)) ∧
    wr.heap[w.heap.size]? = some (.cells zero4 24 (0, 0))
theorem Filled.new {w : World} {KB n : Nat} {l : List E} {cur : Array Value} (h : w.heap[KB]? = some (.cells cur 24 (0, 0))) (hs : cur.size = n * 4) : Filled w KB n l 0 :=
  ⟨fun _ _ h => absurd h (Nat.not_lt_zero _), cur, h, hs⟩
theorem SfLoop.lt {w : World} {op wd : Int} {NB KB L : Nat} {ks : List E} {k : Nat} {wr : World} (h : SfLoop w op wd NB KB L ks k wr) : NB < wr.heap.size ∧ KB < wr.heap.size ∧ w.heap.size < wr.heap.size := ⟨heap_lt h.2.2.2.1, h.2.2.1.lt, heap_lt h.2.2.2.2⟩
/-- One kid more. -/
theorem SfLoop.step {w : World} {op wd : Int} {NB KB L : Nat} {ks : List E} {k : Nat} {wr w1 : World} (h : SfLoop w op wd NB KB L ks k wr) (hx : Ext wr w1) (hk : k < ks.length) (hL : ks.length = L) {v : Value} (hv : KidsB wr.heap.size w1 v ks[k].simp.kids) :
    SfLoop w op wd NB KB L ks (k + 1) (put4 w1 KB (k * 4) (.int .i64 ks[k].simp.op) (.int .i64 ks[k].simp.wd) (.int .i64 ks[k].simp.n) v) := by
  have hlt := h.lt
  obtain ⟨h1, h2, h3, h4, h5⟩ := h
  refine ⟨Below.trans (h1.trans hx) (below_put4 (by omega)), h2, ?_, ?_, ?_⟩
  · have hF := h3.keep (hx.asFrom KB)
    have hk' : k < (ks.map E.simp).length := by simpa using hk
    have := hF.step hk' (by simpa using hL) (v := v) (by simpa using hv.mono (by omega))
    simpa using this
  · rw [put4_heap _ (by omega)]; exact hx.heap h4
  · rw [put4_heap _ (by omega)]; exact hx.heap h5
/-- The node is in memory. -/
theorem SfLoop.node {w : World} {op wd : Int} {NB KB L : Nat} {ks : List E} {wr : World} (h : SfLoop w op wd NB KB L ks ks.length wr) (hL : ks.length = L) (hl : L ≤ 9223372036854775807) : EValB w.heap.size wr (.agg #[.int .i64 op, .int .i64 wd, .int .i64 0, .slice (some ⟨KB, 0, none⟩) L L]) (.mk op wd 0 (ks.map E.simp)) := by
  obtain ⟨h1, h2, h3, h4, h5⟩ := h
  subst hL
  have h6 : Filled wr KB ks.length (ks.map E.simp) (ks.map E.simp).length := by rw [List.length_map]; exact h3
  have h7 := h6.kids (cap := ks.length) (by rw [List.length_map]; exact hl)
  rw [List.length_map] at h7
  exact ⟨_, rfl, h7.mono (by omega)⟩
theorem SfLoop.node1 {w : World} {op wd : Int} {NB KB L : Nat} {ks : List E} {wr : World} (h : SfLoop w op wd NB KB L ks ks.length wr) (hL : ks.length = L) (hl : L ≤ 9223372036854775807) : KidsB (w.heap.size + 1) wr (.slice (some ⟨KB, 0, none⟩) L L) (ks.map E.simp) := by
  obtain ⟨h1, h2, h3, h4, h5⟩ := h
  subst hL
  have h6 : Filled wr KB ks.length (ks.map E.simp) (ks.map E.simp).length := by rw [List.length_map]; exact h3
  have h7 := h6.kids (cap := ks.length) (by rw [List.length_map]; exact hl)
  rw [List.length_map] at h7
  exact h7.mono (by omega)
theorem SfLoop.isE {w : World} {op wd : Int} {NB KB L : Nat} {ks : List E} {wr : World} (h : SfLoop w op wd NB KB L ks ks.length wr) (hL : ks.length = L) (hl : L ≤ 9223372036854775807) : IsE wr NB 0 (.mk op wd 0 (ks.map E.simp)) := by
  obtain ⟨k, e, hk⟩ := h.node hL hl
  cases e
  obtain ⟨c0, c1, c2, c3, _⟩ := cells_of_block h.2.2.2.1
  exact IsE.of_cells c0 c1 c2 c3 hk.kids
/-- The end: the result's variable is written. -/
theorem sfy_end {N : Nat} {w W : World} {e' s : E} {u : Value} {act : Act} (hd : act.defers = []) (hp : act.tmps.getD 2 undef = .pointer (some ⟨w.heap.size, 0, none⟩)) (hN : N ≤ w.heap.size) (hx : Ext w W) (hR : W.heap[w.heap.size]? = some (.cells zero4 24 (0, 0))) (hr : s = e') (hk : KidsB (w.heap.size + 1) W u e'.kids) :
    bodyPost Tryd.prog Tryd.f62 (NewN N s w) .ret act (put4 W w.heap.size 0 (.int .i64 e'.op) (.int .i64 e'.wd) (.int .i64 e'.n) u) := by
  have hx' : Ext w (put4 W w.heap.size 0 (.int .i64 e'.op) (.int .i64 e'.wd) (.int .i64 e'.n) u) := Below.trans hx (below_put4 (by omega))
  exact bodyPost_ret (v := .agg #[.int .i64 e'.op, .int .i64 e'.wd, .int .i64 e'.n, u]) (results_cell_row Tryd.results62 _ _ w.heap.size 24 _ (0, 0) _ hp (put4_new hR) Tryd.underlying24 rfl sizeExpr) hd
    ⟨⟨_, rfl, by rw [hr]; exact ⟨u, rfl, (hk.keep (fun q hq _ => put4_heap q (by omega))).mono (by omega)⟩⟩, hx'⟩
theorem operation_any (N : Nat) (op wd : Int) (a b : E) (v : Value) (w : World) (ho : op = 5 ∨ op = 6 ∨ op = 7 ∨ op = 8 ∨ op = 9 ∨ op = 10) (he : EValB N w v (.mk op wd 0 [a, b])) (hM : Masks w) (h1 : 1 ≤ wd) (h8 : wd ≤ 8) (ha : a.wd = wd) (hb : b.wd = wd) :
    Calls Tryd.prog 81 #[v] w (NewN N (opS (.mk op wd 0 [a, b]) a b) w) := by
  rcases ho with rfl | rfl | rfl | rfl | rfl | rfl
  · exact operation_5 N wd a b v w he hM h1 h8 ha hb
  · exact operation_6 N wd a b v w he hM h1 h8 ha hb
  · exact operation_7 N wd a b v w he
  · exact operation_8 N wd a b v w he
  · exact operation_9 N wd a b v w he
  · exact operation_10 N wd a b v w he
theorem comparison_any (N : Nat) (op wd : Int) (a b : E) (v : Value) (w : World) (hN : N ≤ w.heap.size) (ho : op = 11 ∨ op = 12 ∨ op = 13) (he : EValB N w v (.mk op wd 0 [a, b])) (hM : Masks w) (h4a : a.op = 4 → a.kids ≠ []) (h4b : b.op = 4 → b.kids ≠ []) (hbw : 1 ≤ b.wd ∧ b.wd ≤ 8) :
    Calls Tryd.prog 79 #[v] w (NewN N (cmpS (.mk op wd 0 [a, b]) a b) w) := by
  rcases ho with rfl | rfl | rfl
  · exact comparison_11 N wd a b v w hN he h4a h4b
  · exact comparison_12 N wd a b v w he
  · exact comparison_13 N wd a b v w he hM hbw
end Go.Proofs.YtdancokndklpnaaDoor
namespace Go.Proofs.YtdancokndklpnaaDoor
open Go.RowKit

theorem make_exprs (L : Nat) (h1 : 1 ≤ L) (h3 : L ≤ 3) : ∃ Z : Array Value, Z.size = L * 4 ∧ ∀ u : World, (Instr.makeSlice 22 (.int .i64 (L : Int)) (.int .i64 (L : Int))).run Tryd.prog u = .ok (.slice (some ⟨u.heap.size, 0, none⟩) L L) (u.alloc (.cells Z 24)) := by
  have : L = 1 ∨ L = 2 ∨ L = 3 := by omega
  rcases this with rfl | rfl | rfl
  · exact ⟨#[.int .i64 0, .int .i64 0, .int .i64 0, .slice none 0 0], rfl, fun _ => by kernel_rfl⟩
  · exact ⟨#[.int .i64 0, .int .i64 0, .int .i64 0, .slice none 0 0, .int .i64 0, .int .i64 0, .int .i64 0, .slice none 0 0], rfl, fun _ => by kernel_rfl⟩
  · exact ⟨#[.int .i64 0, .int .i64 0, .int .i64 0, .slice none 0 0, .int .i64 0, .int .i64 0, .int .i64 0, .slice none 0 0, .int .i64 0, .int .i64 0, .int .i64 0, .slice none 0 0], rfl, fun _ => by kernel_rfl⟩

theorem sf_start1 {w : World} {op wd : Int} {L : Nat} {ks : List E} {Z : Array Value} (hZ : Z.size = L * 4) :
    SfLoop w op wd (w.heap.size + 1 + 1) (w.heap.size + 1) L ks 0 ((((w.alloc (.cells zero4 24)).alloc (.cells Z 24)).alloc (.cells #[.int .i64 op, .int .i64 wd, .int .i64 0, .slice (some ⟨w.heap.size + 1, 0, none⟩) L L] 24)).drew) := by
  obtain ⟨a, b, c⟩ := heap_of3 w (.cells zero4 24) (.cells Z 24) (.cells #[.int .i64 op, .int .i64 wd, .int .i64 0, .slice (some ⟨w.heap.size + 1, 0, none⟩) L L] 24)
  exact ⟨((((Ext.refl w).alloc _).alloc _).alloc _).drew, ⟨by omega, by omega, by omega⟩, Filled.new b hZ, c, a⟩
theorem sf_start2 {w : World} {op wd : Int} {L : Nat} {ks : List E} {Z : Array Value} (hZ : Z.size = L * 4) :
    SfLoop w op wd (w.heap.size + 1) (w.heap.size + 1 + 1) L ks 0 ((((w.alloc (.cells zero4 24)).alloc (.cells #[.int .i64 op, .int .i64 wd, .int .i64 0, .slice (some ⟨w.heap.size + 1 + 1, 0, none⟩) L L] 24)).alloc (.cells Z 24)).drew) := by
  obtain ⟨a, b, c⟩ := heap_of3 w (.cells zero4 24) (.cells #[.int .i64 op, .int .i64 wd, .int .i64 0, .slice (some ⟨w.heap.size + 1 + 1, 0, none⟩) L L] 24) (.cells Z 24)
  exact ⟨((((Ext.refl w).alloc _).alloc _).alloc _).drew, ⟨by omega, by omega, by omega⟩, Filled.new c hZ, b, a⟩

theorem keep_call {wr w1 : World} {p q : Addr} {u v : Value} (hx : Ext wr.drew w1) (h : wr.cell? p = some u) (k : wr.cell? q = some v) : w1.cell? p = some u ∧ w1.cell? q = some v := ⟨hx.cell h, hx.cell k⟩
theorem keep1 {wr w1 : World} {p : Addr} {u : Value} (hx : Ext wr.drew w1) (h : wr.cell? p = some u) : w1.cell? p = some u := hx.cell h
theorem keep_put {wr w1 : World} {p q : Addr} {u v : Value} {KB o : Nat} {a b c d : Value} (hx : Ext wr.drew w1) (h : wr.cell? p = some u) (k : wr.cell? q = some v) (hp : p.block ≠ KB) (hq : q.block ≠ KB) : (put4 w1 KB o a b c d).cell? p = some u ∧ (put4 w1 KB o a b c d).cell? q = some v :=
  ⟨(put4_other _ (.inl hp)).trans (hx.cell h), (put4_other _ (.inl hq)).trans (hx.cell k)⟩
/-- The first k kids are simplified to constants. -/
def constAll (ks : List E) (k : Nat) : Bool := (ks.take k).all fun x => decide (x.simp.op = 1)
theorem constAll_succ {ks : List E} {k : Nat} (h : k < ks.length) : constAll ks (k + 1) = (constAll ks k && decide (ks[k].simp.op = 1)) := by
  unfold constAll
  rw [List.take_succ_eq_append_getElem h]
  simp only [List.all_append, List.all_cons, List.all_nil, Bool.and_true]

theorem constAll_map (ks : List E) : ((ks.map E.simp).all fun k => decide (k.op = 1)) = constAll ks ks.length := by
  unfold constAll; rw [List.take_length, List.all_map]; rfl
theorem simpNode_const {op wd n : Int} {ks : List E} (h : constAll ks ks.length = true) : simpNode op wd n (ks.map E.simp) = .mk 1 wd ((E.mk op wd n (ks.map E.simp)).val [] []) [] := by
  unfold simpNode; rw [constAll_map, if_pos h]
theorem simpNode_other {op wd n : Int} {ks ks' : List E} (h : constAll ks ks.length = false) (e : ks.map E.simp = ks') : simpNode op wd n ks' =
    if op = 4 then (if (ks'.getD 0 zeroE).op = 4 then (ks'.getD 0 zeroE).kids.getD 0 zeroE else .mk op wd n ks')
    else if op = 11 ∨ op = 12 ∨ op = 13 then cmpS (.mk op wd n ks') (ks'.getD 0 zeroE) (ks'.getD 1 zeroE)
    else if op = 14 then choS (.mk op wd n ks') (ks'.getD 0 zeroE) (ks'.getD 1 zeroE) (ks'.getD 2 zeroE)
    else opS (.mk op wd n ks') (ks'.getD 0 zeroE) (ks'.getD 1 zeroE) := by
  unfold simpNode; rw [← e, constAll_map, h, if_neg (by simp)]
theorem nilInts (w : World) : Ints w (.slice none 0 0) [] := .inl ⟨⟨_, _, rfl⟩, rfl⟩

set_option maxRecDepth 100000 in
set_option maxHeartbeats 8000000 in
theorem simplify_node (N : Nat) (hIH : SimpC N) (op wd : Int) (ks : List E) (w : World) (bb oo d : Nat) (hne : ks ≠ []) (hN : (E.mk op wd 0 ks).size ≤ N + 1) (hE : IsE w bb oo (.mk op wd 0 ks)) (hd : (E.mk op wd 0 ks).deep d = true) (hM : Masks w) :
    Calls Tryd.prog 62 #[.pointer (some ⟨bb, oo, none⟩)] w (NewN w.heap.size (E.mk op wd 0 ks).simp w) := by
  have IH := Lib.hid hIH; clear hIH
  obtain ⟨h0, h1, h2, _⟩ := hE.cells
  simp only [E.op_mk, E.wd_mk, E.n_mk] at h0 h1 h2
  obtain ⟨b', o', cap, h3, _, hk⟩ := hE.kid hne
  have hl : 1 ≤ ks.length ∧ ks.length ≤ 3 := by
    rcases (deep_kids hne hd).2.2.2.2 with ⟨_, a, e, _⟩ | ⟨_, a, b, e, _⟩ | ⟨_, _, a, b, e, _⟩ | ⟨_, x, a, b, e, _⟩ <;> rw [e] <;> simp
  obtain ⟨hl1, hl3⟩ := hl
  have HDK : Hid (∀ (i : Nat) (h : i < ks.length), ks[i].deep (d - 1) = true) := fun i h => (deep_mk.1 hd).2.2 _ (List.getElem_mem h)
  have HSK : Hid (∀ (i : Nat) (h : i < ks.length), ks[i].size ≤ N) := fun i h => by have := size_kid (op := op) (wd := wd) (n := 0) (List.getElem_mem h); omega
  have HDS := Lib.hid (deep_simp hd)
  rw [simp_cons hne]
  have HK := Lib.hid hk; have HM := Lib.hid hM; have HD := Lib.hid hd; have HNE := Lib.hid hne
  clear hk hM hd hE hN hne
  obtain ⟨L, hL⟩ : ∃ L, L = ks.length := ⟨_, rfl⟩
  have HL := Lib.hid hL
  rw [← hL] at h3 hl1 hl3
  clear hL
  obtain ⟨Z, hZ, hmk⟩ := make_exprs L hl1 hl3
  have HZ := Lib.hid hZ; clear hZ
  have hbs : bb < w.heap.size := block_lt h0
  have hbs1 : bb < w.heap.size + 1 := by omega
  have hbs2 : bb < w.heap.size + 1 + 1 := by omega
  have hne0 : ((L : Int) == 0) = false := by rw [beq_eq_false_iff_ne]; omega
  go_enter Tryd.func62, Tryd.ntmps62
  go_upto_region 3 with fail
  go_cut [3] (fun s3 W => ∃ NB KB : Nat, s3 = .pointer (some ⟨NB, 0, none⟩) ∧ SfLoop w op wd NB KB L ks 0 W)
  case first =>
    go_region
    all_goals
      go_wp2_with fail
      go_meet
      first | exact ⟨_, _, rfl, sf_start1 HZ.out⟩ | exact ⟨_, _, rfl, sf_start2 HZ.out⟩
  case rest =>
    obtain ⟨NB, KB, rfl, hF⟩ := hcut
    clear hmk HZ hbs1 hbs2
    have n3 := (cells_of_block hF.2.2.2.1).2.2.2.1
    have HF0 := Lib.hid hF; clear hF
    go_wp2_with fail
    go_loopw [4, 5, 36] (fun kn _ i wr => ∃ k : Nat, k ≤ L ∧ i = .int .i64 k ∧ kn = .bool (constAll ks k) ∧ SfLoop w op wd NB KB L ks k wr) (fun _ _ i _ => L - (intOf i).toNat)
    case atStart => exact ⟨0, Nat.zero_le _, rfl, by simp [constAll], HF0.out⟩
    case round =>
      obtain ⟨k, hk, rfl, rfl, hS⟩ := hrel
      clear n3
      have n3 := (cells_of_block hS.2.2.2.1).2.2.2.1
      have e3 := hS.1.cell h3
      by_cases hlt : k < L
      · have hltk : k < ks.length := by rw [← HL.out]; exact hlt
        have HKk := Lib.hid ((HK.out k hltk).ext hS.1.drew)
        have HMk := Lib.hid (HM.out.ext hS.1.drew)
        have hNK : NB ≠ KB := hS.2.1.2.2
        have hbK : bb ≠ KB := by have := hS.2.1.2.1; omega
        have HS := Lib.hid hS; clear hS
        go_wp2_with fail
        go_region_held3 (fun w' => w'.cell? ⟨NB, 3, none⟩ = some (.slice (some ⟨KB, 0, none⟩) L L) ∧ w'.cell? ⟨bb, oo + 3, none⟩ = some (.slice (some ⟨b', o', none⟩) L cap))
          (first | exact ⟨n3, e3⟩ | (with_reducible exact keep_call hx1 n3 e3) | exact keep_put hx1 n3 e3 hNK hbK)
          ((go_at_call 62; refine (IH.out ks[k] _ b' (o' + k * 4) (d - 1) (HSK.out k hltk) HKk.out (HDK.out k hltk) HMk.out).mono ?_; rintro r w1 ⟨⟨v, rfl, hv⟩, hx1⟩; obtain ⟨ka, kl, kc, rfl, hkv⟩ := hv.shape; have hF1 := (HS.out.2.2.1).keep ((((Ext.refl wr).drew).trans hx1).asFrom KB); obtain ⟨⟨x0, c0⟩, f0⟩ := hF1.cell (k * 4) (by omega); obtain ⟨⟨x1, c1⟩, f1⟩ := hF1.cell (k * 4 + 1) (by omega); obtain ⟨⟨x2, c2⟩, f2⟩ := hF1.cell (k * 4 + 2) (by omega); obtain ⟨⟨x3, c3⟩, f3⟩ := hF1.cell (k * 4 + 3) (by omega)))
        have HS1 := Lib.hid (HS.out.step (((Ext.refl wr).drew).trans hx1) hltk HL.out.symm hkv)
        generalize hw2 : (((w1.setCell ⟨KB, k * 4, none⟩ _).setCell _ _).setCell _ _).setCell _ _ = w2
        have hS2 : SfLoop w op wd NB KB L ks (k + 1) w2 := by rw [← hw2]; exact HS1.out
        have m3 := (cells_of_block hS2.2.2.2.1).2.2.2.1
        have q0 : w2.cell? ⟨KB, k * 4, none⟩ = some (.int .i64 ks[k].simp.op) := by
          rw [← hw2]
          exact (put4_here (w := w1) (KB := KB) (o := k * 4) (a := .int .i64 ks[k].simp.op) (b := .int .i64 ks[k].simp.wd) (c := .int .i64 ks[k].simp.n) (d := .slice ka kl kc) (fun j hj => (hF1.cell (k * 4 + j) (by omega)).1)).1
        have HS2 := Lib.hid hS2
        have HCA := Lib.hid (constAll_succ hltk)
        clear hw2 HS1 hF1 hkv hx1 c0 c1 c2 c3 f0 f1 f2 f3 n3 e3 hS2 hv
        cases hq : constAll ks k with
        | true =>
          cases hq2 : (ks[k].simp.op == 1) with
          | true =>
            have HC : Hid (constAll ks (k + 1) = true) := by unfold Hid; rw [HCA.out, hq, Bool.true_and]; simpa using hq2
            clear hq
            go_wp2_with fail
            exact ⟨⟨k + 1, by omega, by go_num, by rw [HC.out], HS2.out⟩, by simp [intOf]; omega⟩
          | false =>
            have HC : Hid (constAll ks (k + 1) = false) := by unfold Hid; rw [HCA.out, hq, Bool.true_and]; simpa using hq2
            clear hq
            go_wp2_with fail
            exact ⟨⟨k + 1, by omega, by go_num, by rw [HC.out], HS2.out⟩, by simp [intOf]; omega⟩
        | false =>
          have HC : Hid (constAll ks (k + 1) = false) := by unfold Hid; rw [HCA.out, hq, Bool.false_and]
          clear hq
          go_wp2_with fail
          exact ⟨⟨k + 1, by omega, by go_num, by rw [HC.out], HS2.out⟩, by simp [intOf]; omega⟩
      · obtain rfl : L = k := by omega
        have hS' : SfLoop w op wd NB KB L ks ks.length wr := by rw [← HL.out]; exact hS
        have HIS := Lib.hid (hS'.isE HL.out.symm (by omega))
        have HNV := Lib.hid (hS'.node1 HL.out.symm (by omega))
        obtain ⟨n0, n1, n2, n3', _⟩ := cells_of_block hS.2.2.2.1
        obtain ⟨r0, r1, r2, r3, g0, g1, g2, g3⟩ := cells_of_block hS.2.2.2.2
        have HX := Lib.hid hS.1; have HR := Lib.hid hS.2.2.2.2
        have hws : w.heap.size < wr.heap.size := heap_lt hS.2.2.2.2
        have hNBw : w.heap.size < NB := hS.2.1.1
        have hNBne : NB ≠ w.heap.size := by omega
        have HML := Lib.hid (HM.out.ext hS.1)
        have hK3 : ∀ W : World, Ext wr W → W.heap[w.heap.size]? = some (.cells zero4 24 (0, 0)) := fun W h => h.heap HR.out
        have HK3 := Lib.hid hK3
        clear hS hS' hK3 n3' e3
        cases hq : constAll ks L with
        | true =>
          have HCN := Lib.hid (simpNode_const (op := op) (wd := wd) (n := 0) (ks := ks) (by rw [← HL.out]; exact hq))
          clear hq
          generalize hval : (E.mk op wd 0 (ks.map E.simp)).val [] [] = vl at *
          have HVL := Lib.hid hval; clear hval
          go_wp2_with fail
          go_region_held3 (fun w' => w'.cell? ⟨NB, 1, none⟩ = some (.int .i64 wd))
            (first | exact n1 | (with_reducible exact keep1 hx1 n1) | (with_reducible exact Ext.cell hx2 n1) | exact (put4_other _ (.inl hNBne)).trans (Ext.cell hx2 n1))
            (first | (go_at_call 37; refine (value_any [] [] _ _ (E.mk op wd 0 (ks.map E.simp)).size (E.mk op wd 0 (ks.map E.simp)) _ NB 0 d (Nat.le_refl _) (HIS.out.ext (Ext.refl wr).drew) HDS.out (nilInts _) (nilInts _) (HML.out.ext (Ext.refl wr).drew)).mono ?_; rintro r w1 ⟨rfl, hx1⟩; rw [HVL.out]) | (go_at_call 67; refine (constant_any _ _ _).mono ?_; rintro r w2 ⟨rfl, hx2'⟩; have hx2 : Ext wr w2 := ((Ext.refl wr).drew).trans (hx1.trans hx2'); clear hx2'; obtain ⟨s0, s1, s2, s3, t0, t1, t2, t3⟩ := cells_of_block (HK3.out _ hx2)))
          go_wp2_with fail
          exact sfy_end (e' := .mk 1 wd vl []) rfl rfl (Nat.le_refl _) (HX.out.trans hx2) (HK3.out _ hx2) HCN.out (kidsB_nil _ _)
        | false =>
          have hq' : constAll ks ks.length = false := by rw [← HL.out]; exact hq
          clear hq
          obtain ⟨ks', hks'⟩ : ∃ ks', ks.map E.simp = ks' := ⟨_, rfl⟩
          have HSN := Lib.hid (simpNode_other (op := op) (wd := wd) (n := 0) hq' hks')
          have hlk : L = ks'.length := by rw [← hks', List.length_map]; exact HL.out
          rw [hks'] at HNV HDS
          have HKS := Lib.hid hks'
          have hne' : ks' ≠ [] := by intro e; rw [e] at hlk; simp at hlk; omega
          have hkb := HNV.out
          obtain ⟨_, _, hw1, hw8, hc⟩ := deep_kids hne' HDS.out
          have hL2 := HL.out
          clear hks' hq' HNV hne' HIS HF0
          rcases hc with ⟨rfl, a, rfl, ha, da⟩ | ⟨ho, a, b, rfl, ha, hb, da, db⟩ | ⟨ho, rfl, a, b, rfl, hab, da, db⟩ | ⟨rfl, x, a, b, rfl, hx, ha, hb, dx, da, db⟩
          · obtain rfl : L = 1 := by simpa using hlk
            obtain ⟨xa, xl, xc, k0, k1, k2, k3, hka⟩ := hkb.get 0 (by simp)
            simp only [Nat.zero_mul, Nat.zero_add, List.getElem_cons_zero] at k0 k1 k2 k3 hka
            have HKB := Lib.hid hkb; clear hkb hlk hL2
            by_cases h4 : a.op = 4
            · have hb4 : (a.op == 4) = true := by simpa using h4
              obtain ⟨y, hy, hyw, hyd, hyn⟩ := not_kid da h4
              clear hyw hyd hyn
              rw [hy] at hka
              rcases hka with ⟨_, h⟩ | ⟨b2, o2, cap2, h, _, hbb, hk2⟩
              · cases h
              cases h
              have hk3 : KidsB (w.heap.size + 1) wr (.slice (some ⟨b2, o2, none⟩) 1 xc) [y] := .inr ⟨b2, o2, _, rfl, by simp, hbb, hk2⟩
              obtain ⟨ya, yl, yc, z0, z1, z2, z3, hkz⟩ := hk3.get 0 (by simp)
              simp only [Nat.zero_mul, Nat.add_zero, List.getElem_cons_zero] at z0 z1 z2 z3 hkz
              have HSY : Hid (simpNode 4 wd 0 (ks.map E.simp) = y) := by unfold Hid; rw [HKS.out, HSN.out, if_pos rfl, List.getD_cons_zero, if_pos h4, hy]; rfl
              have HKZ := Lib.hid hkz
              simp only [List.length_singleton] at k3
              clear hkz hk3 hk2 hy h4 da ha
              go_wp2_with fail
              exact sfy_end (e' := y) rfl rfl (Nat.le_refl _) HX.out HR.out HSY.out HKZ.out
            · have hb4 : (a.op == 4) = false := by rw [beq_eq_false_iff_ne]; exact h4
              have HSY : Hid (simpNode 4 wd 0 (ks.map E.simp) = .mk 4 wd 0 [a]) := by unfold Hid; rw [HKS.out, HSN.out, if_pos rfl, List.getD_cons_zero, if_neg h4]
              clear hka h4 da ha
              go_wp2_with fail
              exact sfy_end (e' := .mk 4 wd 0 [a]) rfl rfl (Nat.le_refl _) HX.out HR.out HSY.out HKB.out
          · obtain rfl : L = 2 := by simpa using hlk
            have HSY : Hid (simpNode op wd 0 (ks.map E.simp) = opS (.mk op wd 0 [a, b]) a b) := by unfold Hid; rw [HKS.out, HSN.out, if_neg (by omega), if_neg (by omega), if_neg (by omega)]; rfl
            have e4 : (op == 4) = false := by rw [beq_eq_false_iff_ne]; omega
            have e11 : (op == 11) = false := by rw [beq_eq_false_iff_ne]; omega
            have e12 : (op == 12) = false := by rw [beq_eq_false_iff_ne]; omega
            have e13 : (op == 13) = false := by rw [beq_eq_false_iff_ne]; omega
            have e14 : (op == 14) = false := by rw [beq_eq_false_iff_ne]; omega
            have HCL := Lib.hid (operation_any (w.heap.size + 1) op wd a b (.agg #[.int .i64 op, .int .i64 wd, .int .i64 0, .slice (some ⟨KB, 0, none⟩) 2 2]) wr ho ⟨_, rfl, hkb⟩ HML.out hw1 hw8 ha hb)
            clear hkb hlk hL2 ho ha hb da db HSN HDS HKS
            go_wp2_with fail
            refine HCL.out.mono ?_
            rintro r w1 ⟨⟨v, rfl, hv⟩, hx1⟩
            obtain ⟨ka, kl, kc, rfl, hkv⟩ := hv.shape
            obtain ⟨s0, s1, s2, s3, t0, t1, t2, t3⟩ := cells_of_block (HK3.out _ hx1)
            have HX1 := Lib.hid hx1; clear hx1 hv
            have HKV := Lib.hid hkv; clear hkv
            generalize opS (.mk op wd 0 [a, b]) a b = y at *
            go_wp2_with fail
            exact sfy_end (e' := y) rfl rfl (Nat.le_refl _) (HX.out.trans HX1.out) (HK3.out _ HX1.out) HSY.out HKV.out
          · obtain rfl : L = 2 := by simpa using hlk
            have HSY : Hid (simpNode op 1 0 (ks.map E.simp) = cmpS (.mk op 1 0 [a, b]) a b) := by unfold Hid; rw [HKS.out, HSN.out, if_neg (by omega), if_pos ho]; rfl
            have hbw := deep_wd db
            have HCL := Lib.hid (comparison_any (w.heap.size + 1) op 1 a b (.agg #[.int .i64 op, .int .i64 1, .int .i64 0, .slice (some ⟨KB, 0, none⟩) 2 2]) wr (by omega) ho ⟨_, rfl, hkb⟩ HML.out (fun h => not_ne da h) (fun h => not_ne db h) hbw)
            clear hkb hlk hL2 hab da db HSN HDS hbw HKS
            rcases ho with rfl | rfl | rfl
            all_goals
              go_wp2_with fail
              refine HCL.out.mono ?_
              rintro r w1 ⟨⟨v, rfl, hv⟩, hx1⟩
              obtain ⟨ka, kl, kc, rfl, hkv⟩ := hv.shape
              obtain ⟨s0, s1, s2, s3, t0, t1, t2, t3⟩ := cells_of_block (HK3.out _ hx1)
              have HX1 := Lib.hid hx1; clear hx1 hv
              have HKV := Lib.hid hkv; clear hkv
              generalize cmpS _ a b = y at *
              go_wp2_with fail
              exact sfy_end (e' := y) rfl rfl (Nat.le_refl _) (HX.out.trans HX1.out) (HK3.out _ HX1.out) HSY.out HKV.out
          · obtain rfl : L = 3 := by simpa using hlk
            have HSY : Hid (simpNode 14 wd 0 (ks.map E.simp) = choS (.mk 14 wd 0 [x, a, b]) x a b) := by unfold Hid; rw [HKS.out, HSN.out, if_neg (by omega), if_neg (by omega), if_pos rfl]; rfl
            have HCL := Lib.hid (choice_any (w.heap.size + 1) wd x a b (.agg #[.int .i64 14, .int .i64 wd, .int .i64 0, .slice (some ⟨KB, 0, none⟩) 3 3]) wr (by omega) ⟨_, rfl, hkb⟩ (fun h => not_ne dx h))
            clear hkb hlk hL2 hx ha hb dx da db HSN HDS HKS
            go_wp2_with fail
            refine HCL.out.mono ?_
            rintro r w1 ⟨⟨v, rfl, hv⟩, hx1⟩
            obtain ⟨ka, kl, kc, rfl, hkv⟩ := hv.shape
            obtain ⟨s0, s1, s2, s3, t0, t1, t2, t3⟩ := cells_of_block (HK3.out _ hx1)
            have HX1 := Lib.hid hx1; clear hx1 hv
            have HKV := Lib.hid hkv; clear hkv
            generalize choS (.mk 14 wd 0 [x, a, b]) x a b = y at *
            go_wp2_with fail
            exact sfy_end (e' := y) rfl rfl (Nat.le_refl _) (HX.out.trans HX1.out) (HK3.out _ HX1.out) HSY.out HKV.out

set_option maxHeartbeats 2000000 in
theorem simplify_any (N : Nat) : SimpC N := by
  induction N with
  | zero => intro e w b o d h; have := e.size_pos; omega
  | succ N ih =>
    intro e w b o d hN hE hd hM
    obtain ⟨op, wd, n, ks⟩ := e
    by_cases hks : ks = []
    · subst hks
      rw [simp_nil]
      obtain ⟨_, _, _, kv, h3, hk⟩ := hE.cells
      obtain ⟨a, cap, rfl⟩ := SliceAt.shape hk
      have hbs : b < w.heap.size := block_lt h3
      simp only [E.kids_mk, List.length_nil] at h3
      have HE := Lib.hid hE
      clear hk hE hM ih hd
      go_enter Tryd.func62, Tryd.ntmps62
      go_wp2_with fail
      generalize hw1 : w.alloc _ = w1
      have hx1 : Ext w w1 := by rw [← hw1]; exact (Ext.refl w).alloc _
      have hR : w1.heap[w.heap.size]? = some (.cells zero4 24 (0, 0)) := by rw [← hw1]; exact heap_new _ _
      clear hw1
      refine (same_any (.mk op wd n []) w1 b o (HE.out.ext hx1)).mono ?_
      rintro r w2 ⟨rfl, hx2⟩
      have hR2 := hx2.heap hR
      obtain ⟨s0, s1, s2, s3, t0, t1, t2, t3⟩ := cells_of_block hR2
      have HX := Lib.hid (hx1.trans hx2); have HR := Lib.hid hR2
      clear hx1 hx2 hR hR2
      simp only [E.op_mk, E.wd_mk, E.n_mk]
      go_wp2_with fail
      exact sfy_end (e' := .mk op wd n []) rfl rfl (Nat.le_refl _) HX.out HR.out rfl (kidsB_nil _ _)
    · obtain ⟨hn, _⟩ := deep_kids hks hd
      subst hn
      exact simplify_node N ih op wd ks w b o d hks hN hE hd hM

/-- What Simplify gives back. -/
def E.simplified (e : E) : E := if e.wf then e.simp else zeroE
end Go.Proofs.YtdancokndklpnaaDoor
namespace Go.Proofs.YtdancokndklpnaaDoor
open Go.RowKit

set_option maxHeartbeats 1000000 in
theorem Simplify_any (e : E) (v : Value) (w : World) (he : EVal w v e) (hM : Masks w) : Calls Tryd.prog 27 #[v] w (NewE e.simplified w) := by
  obtain ⟨a, n, c, rfl, hk⟩ := he.shape
  have hE := IsE.box (w := w) (e := e) (t := 24) hk
  generalize hw0 : w.alloc (.cells #[.int .i64 e.op, .int .i64 e.wd, .int .i64 e.n, .slice a n c] 24) = w0 at hE
  have hx0 : Ext w w0 := by rw [← hw0]; exact (Ext.refl w).alloc _
  have hs0 : w0.heap.size = w.heap.size + 1 := by rw [← hw0]; simp
  have hv0 : EVal w0 (.agg #[.int .i64 e.op, .int .i64 e.wd, .int .i64 e.n, .slice a n c]) e := ⟨_, rfl, hk.ext hx0⟩
  have H0 := Lib.hid hw0; have HX0 := Lib.hid hx0; have HS0 := Lib.hid hs0; have HE := Lib.hid hE; have HV0 := Lib.hid hv0; have HM0 := Lib.hid (hM.ext hx0)
  clear hw0 hx0 hs0 hE hk hv0 hM
  cases hw : e.wf with
  | false =>
    have HW := Lib.hid hw; clear hw
    have HB : Hid (e.simplified = .mk 0 0 0 []) := by simp [Hid, E.simplified, zeroE, HW.out]
    go_enter Tryd.func27, Tryd.ntmps27
    go_wp2_with fail
    rw [H0.out]
    have e1 : w.heap.size + 1 = w0.heap.size := HS0.out.symm
    rw [e1]
    refine (wellFormed_any e _ _ (HV0.out.ext ((Ext.refl w0).alloc _)) (HM0.out.ext ((Ext.refl w0).alloc _))).mono ?_
    rintro r w1 ⟨rfl, hx1⟩
    rw [HW.out]
    have hR : w1.heap[w0.heap.size]? = some (.cells #[.int .i64 0, .int .i64 0, .int .i64 0, .slice none 0 0] 24 (0, 0)) := by
      rw [hx1.block w0.heap.size (by simp)]; exact heap_new _ _
    obtain ⟨c0, c1, c2, c3, f0, f1, f2, f3⟩ := cells_of_block hR
    have HZ : Hid (NewE (.mk 0 0 0 []) w (.returned (.agg #[.int .i64 0, .int .i64 0, .int .i64 0, .slice none 0 0])) (put4 w1 w0.heap.size 0 (.int .i64 0) (.int .i64 0) (.int .i64 0) (.slice none 0 0))) :=
      ⟨⟨_, rfl, _, rfl, kidsB_nil _ _⟩, Below.trans (HX0.out.trans (((Ext.refl w0).alloc _).trans hx1)) (below_put4 (by omega))⟩
    have HB2 := Lib.hid (put4_new (x := .int .i64 0) (y := .int .i64 0) (z := .int .i64 0) (u := .slice none 0 0) hR)
    clear hx1 hR e1
    go_wp2_with fail
    exact bodyPost_ret (v := .agg #[.int .i64 0, .int .i64 0, .int .i64 0, .slice none 0 0]) (results_cell_row Tryd.results27 _ _ w0.heap.size 24 _ (0, 0) _ rfl HB2.out Tryd.underlying24 rfl sizeExpr) rfl (by rw [HB.out]; exact HZ.out)
  | true =>
    have HW := Lib.hid hw; clear hw
    have HB : Hid (e.simplified = e.simp) := by simp [Hid, E.simplified, HW.out]
    go_enter Tryd.func27, Tryd.ntmps27
    go_wp2_with fail
    rw [H0.out]
    have e1 : w.heap.size + 1 = w0.heap.size := HS0.out.symm
    rw [e1]
    refine (wellFormed_any e _ _ (HV0.out.ext ((Ext.refl w0).alloc _)) (HM0.out.ext ((Ext.refl w0).alloc _))).mono ?_
    rintro r w1 ⟨rfl, hx1⟩
    rw [HW.out]
    have hR : w1.heap[w0.heap.size]? = some (.cells #[.int .i64 0, .int .i64 0, .int .i64 0, .slice none 0 0] 24 (0, 0)) := by
      rw [hx1.block w0.heap.size (by simp)]; exact heap_new _ _
    have hx01 : Ext w0 w1 := ((Ext.refl w0).alloc _).trans hx1
    have hs01 : w0.heap.size < w1.heap.size := by have := hx1.size; simp at this; omega
    have HX1 := Lib.hid hx01; have HR := Lib.hid hR
    clear hx1 hR e1 hx01
    go_wp2_with fail
    refine (simplify_any e.size e w1 w.heap.size 0 40 (Nat.le_refl _) (HE.out.ext HX1.out) (wf_deep HW.out) (HM0.out.ext HX1.out)).mono ?_
    rintro r w2 ⟨⟨v1, rfl, hv1⟩, hx2⟩
    have hR2 : w2.heap[w0.heap.size]? = some (.cells #[.int .i64 0, .int .i64 0, .int .i64 0, .slice none 0 0] 24 (0, 0)) := hx2.heap HR.out
    rw [← HB.out] at hv1
    obtain ⟨ka, kn, kc, rfl, hkv⟩ := hv1.shape
    have HF : Hid (NewE e.simplified w (.returned (.agg #[.int .i64 e.simplified.op, .int .i64 e.simplified.wd, .int .i64 e.simplified.n, .slice ka kn kc])) (put4 w2 w0.heap.size 0 (.int .i64 e.simplified.op) (.int .i64 e.simplified.wd) (.int .i64 e.simplified.n) (.slice ka kn kc))) := by
      refine ⟨⟨_, rfl, _, rfl, (((hkv.mono (by omega) : KidsB (w0.heap.size + 1) _ _ _)).keep (fun q hq _ => put4_heap q (by omega))).mono (by have := HS0.out; omega)⟩, ?_⟩
      exact Below.trans (HX0.out.trans (HX1.out.trans hx2)) (below_put4 (by have := HS0.out; omega))
    have HB2 := Lib.hid (put4_new (x := .int .i64 e.simplified.op) (y := .int .i64 e.simplified.wd) (z := .int .i64 e.simplified.n) (u := .slice ka kn kc) hR2)
    obtain ⟨c0, c1, c2, c3, f0, f1, f2, f3⟩ := cells_of_block hR2
    clear hR2 hx2 hv1 hkv
    go_wp2_with fail
    exact bodyPost_ret (v := .agg #[.int .i64 e.simplified.op, .int .i64 e.simplified.wd, .int .i64 e.simplified.n, .slice ka kn kc]) (results_cell_row Tryd.results27 _ _ w0.heap.size 24 _ (0, 0) _ rfl HB2.out Tryd.underlying24 rfl sizeExpr) rfl HF.out
end Go.Proofs.YtdancokndklpnaaDoor
