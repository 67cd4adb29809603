/-
  The first check of law32: the walk. Printed by gen_head32.py.
  The arguments of a law, opened: what reads as an expression is one, and so on. Behind the call they read as before.
  What every card of this seat shares: the listed tables, the law's post, the world of the witness.
-/
import Derived.Test.YtlcgbdjmlnjhcaaGreatDoorG37
import Derived.Test.YtlcgbdjmlnjhcaaGreatDoorG38
import Derived.Test.YtlcgbdjmlnjhcaaGreatDoorG06
import Derived.Test.YtlcgbdjmlnjhcaaGreatDoorRows
import Derived.Lib.SmallJoins
import Derived.Deep.Slices
import Derived.Carry
import Derived.ChangeSame
import Derived.Test.YtlcgbdjmlnjhcaaGreatDoorG17
import Derived.Test.YtlcgbdjmlnjhcaaGreatDoorCards
import Derived.Test.YtlcgbdjmlnjhcaaGreatDoorTie
import Derived.WalkKit
import Derived.ProofKit
import Derived.OpenShut
import Derived.Deep.DeepHandedRow
import Derived.Lib.LaidTab
namespace Go.Proofs.YtlcgbdjmlnjhcaaGreatDoor
open Go.RowKit
attribute [local go_sem] Oper.semAt_some

theorem leafV (w : World) (op wd n : Int) : EVal w (.agg #[.int .i64 op, .int .i64 wd, .int .i64 n, .slice none 0 0]) (.mk op wd n []) := ⟨_, rfl, .inl ⟨⟨_, _, rfl⟩, rfl⟩⟩
theorem text_eq {f : FuncId} {args : Array Value} {w : World} {h g : E} {l : List UInt8} (e : textR h g = l) (hh : Calls Tryz.prog f args w fun r w' => r = .returned (.string ⟨(textR h g).toArray⟩) ∧ Ext w w') : Calls Tryz.prog f args w fun r w' => r = .returned (.string ⟨l.toArray⟩) ∧ Ext w w' := by rw [← e]; exact hh
theorem results_row1 {P : Program} {fn : Func} {p : Tmp} {ty : TypeId} (h : fn.results = #[.cell p ty]) (tmps : Array Value) (w : World) (g : Nat) (t : TypeId) (cs : Array Value) (fr : Nat × Nat) (d : TypeDesc)
    (hp : tmps.getD p undef = .pointer (some ⟨g, 0, none⟩)) (hg : w.heap[g]? = some (.cells cs t fr)) (hu : P.underlying ty = some d) (hd : (match d with | .struct _ | .array _ _ => true | _ => false) = true) (hi : (P.info? ty).map (·.size) = some cs.size) :
    (results fn tmps).run P w = .ok (.agg cs) w := by
  have hp' : tmps[p]?.getD undef = .pointer (some ⟨g, 0, none⟩) := by simpa using hp
  simp [results, h, hp', asAddr, run_loadVar_row w g t ty cs fr d hg hu hd hi]
def StH (bone bx : Nat) (w' : World) : Prop := w'.cell? ⟨bone, 0, none⟩ = some (.int .i64 1) ∧ w'.cell? ⟨bone, 1, none⟩ = some (.int .i64 1) ∧ w'.cell? ⟨bone, 2, none⟩ = some (.int .i64 1) ∧ w'.cell? ⟨bone, 3, none⟩ = some (.slice none 0 0) ∧ w'.cell? ⟨bx, 0, none⟩ = some (.int .i64 2) ∧ w'.cell? ⟨bx, 1, none⟩ = some (.int .i64 2) ∧ w'.cell? ⟨bx, 2, none⟩ = some (.int .i64 0) ∧ w'.cell? ⟨bx, 3, none⟩ = some (.slice none 0 0) ∧ w'.cell? ⟨bx + 1, 0, none⟩ = some (.int .i64 2) ∧ w'.cell? ⟨bx + 1, 1, none⟩ = some (.int .i64 2) ∧ w'.cell? ⟨bx + 1, 2, none⟩ = some (.int .i64 1) ∧ w'.cell? ⟨bx + 1, 3, none⟩ = some (.slice none 0 0)
def StK (bx bc : Nat) (ha : Option Addr) (hl hcp : Nat) (ga : Option Addr) (gl gc : Nat) (w' : World) : Prop := w'.cell? ⟨bx, 0, none⟩ = some (.int .i64 2) ∧ w'.cell? ⟨bx, 1, none⟩ = some (.int .i64 2) ∧ w'.cell? ⟨bx, 2, none⟩ = some (.int .i64 0) ∧ w'.cell? ⟨bx, 3, none⟩ = some (.slice none 0 0) ∧ w'.cell? ⟨bx + 1, 0, none⟩ = some (.int .i64 2) ∧ w'.cell? ⟨bx + 1, 1, none⟩ = some (.int .i64 2) ∧ w'.cell? ⟨bx + 1, 2, none⟩ = some (.int .i64 1) ∧ w'.cell? ⟨bx + 1, 3, none⟩ = some (.slice none 0 0) ∧ w'.cell? ⟨bc, 0, none⟩ = some (.string ⟨#[97]⟩) ∧ w'.cell? ⟨bc, 1, none⟩ = some (.int .i64 0) ∧ w'.cell? ⟨bc, 2, none⟩ = some (.int .i64 0) ∧ w'.cell? ⟨bc, 3, none⟩ = some (.int .i64 0) ∧ w'.cell? ⟨bc, 4, none⟩ = some (.int .i64 0) ∧ w'.cell? ⟨bc, 5, none⟩ = some (.int .i64 0) ∧ w'.cell? ⟨bc, 6, none⟩ = some (.int .i64 11) ∧ w'.cell? ⟨bc, 7, none⟩ = some (.int .i64 1) ∧ w'.cell? ⟨bc, 8, none⟩ = some (.int .i64 0) ∧ w'.cell? ⟨bc, 9, none⟩ = some (.slice ha hl hcp) ∧ w'.cell? ⟨bc, 10, none⟩ = some (.int .i64 1) ∧ w'.cell? ⟨bc, 11, none⟩ = some (.int .i64 1) ∧ w'.cell? ⟨bc, 12, none⟩ = some (.int .i64 1) ∧ w'.cell? ⟨bc, 13, none⟩ = some (.slice ga gl gc)
theorem old_at' {w w' : World} {b : Nat} {o : Obj} (h : w.heap[b]? = some o) (hx : Ext w w') : w'.heap[b]? = some o := (hx.block b (lt_heap h)).trans h
theorem KidsT.shapeS {S : Nat → Prop} {w : World} {v : Value} {ks : List E} (h : KidsT S w v ks) : ∃ a n c, v = .slice a n c := by
  obtain ⟨a, c, e⟩ := h.kids.slice
  exact ⟨_, _, _, e⟩
set_option maxHeartbeats 1000000 in
/-- Two of leaves: the result's blocks are new. -/
theorem RTwoT_any (op wd : Int) (a b : E) (ha0 : a.kids = []) (hb0 : b.kids = []) (va vb : Value) (w : World) (ha : EVal w va a) (hb : EVal w vb b) :
    Calls Tryz.prog 29 #[.int .i64 op, .int .i64 wd, va, vb] w (RetT (fun k => w.heap.size ≤ k) (.mk op wd 0 [a, b]) w) := by
  obtain ⟨aa, ac, rfl, hk⟩ := ha.shape'
  obtain ⟨ba, bc, rfl, hk2⟩ := hb.shape'
  rw [ha0] at hk ⊢
  rw [hb0] at hk2 ⊢
  have hA := Lib.hid ha0; have hB := Lib.hid hb0
  clear hk hk2 ha hb ha0 hb0
  go_enter Tryz.func29, Tryz.ntmps29
  go_wp2_with fail
  refine bodyPost_ret (v := .agg #[.int .i64 op, .int .i64 wd, .int .i64 0, .slice (some ⟨w.heap.size + 1 + 1 + 1, 0, none⟩) 2 2]) (by simp [results, Tryz.results29, go_sem]) rfl ⟨⟨_, rfl, ⟨_, rfl, ?_⟩⟩, (((Ext.refl w).alloc _).alloc _).alloc _ |>.alloc _⟩
  refine two_valT (w := w) (S := fun k => w.heap.size ≤ k) ((((Ext.refl w).alloc _).alloc _).alloc _ |>.alloc _) (ka := .slice aa 0 ac) (kb := .slice ba 0 bc) (by rw [hA.out]; exact .inl ⟨⟨_, _, rfl⟩, rfl⟩) (by rw [hB.out]; exact .inl ⟨⟨_, _, rfl⟩, rfl⟩) (by omega) ?_
  simpa using heap_new (((w.alloc _).alloc _).alloc _) _
theorem fieldC (s : ByteArray) (v1 v2 v3 v4 v5 v6 v7 v8 v9 v10 v11 v12 v13 : Value) : ∀ w : World, (Instr.field 27 (.agg #[.string s, v1, v2, v3, v4, v5, v6, v7, v8, v9, v10, v11, v12, v13]) 0).run Tryz.prog w = .ok (.string s) w := fun _ => by kernel_rfl
theorem textE {f : FuncId} {args : Array Value} {w : World} {e : E} {l : List UInt8} (h : e.textTop = l) (hh : Calls Tryz.prog f args w fun r w' => r = .returned (.string ⟨e.textTop.toArray⟩) ∧ Ext w w') : Calls Tryz.prog f args w fun r w' => r = .returned (.string ⟨l.toArray⟩) ∧ Ext w w' := by rw [← h]; exact hh
set_option maxRecDepth 100000 in
set_option maxHeartbeats 1000000 in
theorem head1_any (k : Int) (w : World) : Calls Tryz.prog 27 #[.int .i64 k] w fun r w' => r = .returned (.agg #[.int .i64 1, .int .i64 2, .int .i64 k, .slice none 0 0]) ∧ Ext w w' := by
  obtain ⟨V, hV⟩ : ∃ V, V = w.alloc (.cells #[.int .i64 0, .int .i64 0, .int .i64 0, .slice none 0 0] 25) := ⟨_, rfl⟩
  have hb : V.heap[w.heap.size]? = some (.cells #[.int .i64 0, .int .i64 0, .int .i64 0, .slice none 0 0] 25 (0, 0)) := by rw [hV]; exact heap_new _ _
  have hx : Ext w V := by rw [hV]; exact (Ext.refl _).alloc _
  have HV := Lib.hid hV; have HX := Lib.hid hx; have HB := Lib.hid hb
  clear hV hx hb
  go_enter Tryz.func27, Tryz.ntmps27
  go_wp2_with fail
  rw [← HV.out]
  clear HV
  refine (RConst_any k 2 _).mono ?_
  rintro r w1 ⟨rfl, x1⟩
  have hR := (x1.block _ (lt_heap HB.out)).trans HB.out
  obtain ⟨c0, c1, c2, c3, f0, f1, f2, f3⟩ := cells_of_block hR
  have HP := Lib.hid (put4_new (x := .int .i64 1) (y := .int .i64 2) (z := .int .i64 k) (u := .slice none 0 0) hR)
  have HXE : Hid (Ext w (put4 w1 w.heap.size 0 (.int .i64 1) (.int .i64 2) (.int .i64 k) (.slice none 0 0))) := Below.trans (HX.out.trans x1) (below_put4 (Nat.le_refl _))
  clear x1 hR HX HB
  go_wp2_with fail
  exact bodyPost_ret (results_row1 Tryz.results27 _ _ w.heap.size 25 _ (0, 0) _ rfl HP.out Tryz.underlying25 rfl sizeExpr) rfl ⟨rfl, HXE.out⟩
set_option maxRecDepth 100000 in
set_option maxHeartbeats 8000000 in
theorem head_any (w : World) (hM : Masks w) (hN : Names w) (hP : Pow10 w) : Calls Tryz.prog 8 #[] w fun r w' => r = .returned (.bool true) ∧ Ext w w' := by
  have HM := Lib.hid hM; have HN := Lib.hid hN; have HP := Lib.hid hP
  have X0 : Hid (Ext w w) := Ext.refl w
  clear hM hN hP
  go_enter Tryz.func8, Tryz.ntmps8
  have XC : Hid (Ext w w) := Ext.refl w
  go_wp2_with fail
  refine (RConst_any 1 1 _).mono ?_
  rintro r w1 ⟨rfl, xs⟩
  replace XC := Lib.hid (XC.out.trans xs)
  clear xs
  go_wp2_with fail
  obtain ⟨Vone, hV⟩ : ∃ V, V = w1.alloc (.cells #[.int .i64 1, .int .i64 1, .int .i64 1, .slice none 0 0] 25) := ⟨_, rfl⟩
  have Hone : Hid (Vone.heap[w1.heap.size]? = some (.cells #[.int .i64 1, .int .i64 1, .int .i64 1, .slice none 0 0] 25 (0, 0))) := by rw [hV]; exact heap_new _ _
  have xV : Ext w1 Vone := by rw [hV]; exact (Ext.refl _).alloc _
  rw [← hV]
  clear hV
  replace XC := Lib.hid (XC.out.trans xV)
  clear xV
  generalize w1.heap.size = bone at *
  refine (RCell_any 0 2 _).mono ?_
  rintro r w2 ⟨rfl, xs⟩
  replace XC := Lib.hid (XC.out.trans xs)
  replace Hone := Lib.hid ((xs.block _ (lt_heap Hone.out)).trans Hone.out)
  clear xs
  obtain ⟨one0, one1, one2, one3⟩ := blocks4 Hone.out
  go_wp2_with fail
  refine (RCell_any 1 2 _).mono ?_
  rintro r w3 ⟨rfl, xs⟩
  replace XC := Lib.hid (XC.out.trans xs)
  replace Hone := Lib.hid ((xs.block _ (lt_heap Hone.out)).trans Hone.out)
  clear xs
  obtain ⟨one0, one1, one2, one3⟩ := blocks4 Hone.out
  go_wp2_with fail
  refine (ROld_any 0 2 _).mono ?_
  rintro r w4 ⟨rfl, xs⟩
  replace XC := Lib.hid (XC.out.trans xs)
  replace Hone := Lib.hid ((xs.block _ (lt_heap Hone.out)).trans Hone.out)
  clear xs
  obtain ⟨one0, one1, one2, one3⟩ := blocks4 Hone.out
  go_wp2_with fail
  obtain ⟨V3, hV3⟩ : ∃ V3, Boxes3 w4 V3 (.cells #[.int .i64 2, .int .i64 2, .int .i64 0, .slice none 0 0] 25) (.cells #[.int .i64 2, .int .i64 2, .int .i64 1, .slice none 0 0] 25) (.cells #[.int .i64 3, .int .i64 2, .int .i64 0, .slice none 0 0] 25) := ⟨_, Boxes3.mk' _ _ _ _⟩
  rw [← hV3.eq]
  have HBX := Lib.hid hV3.b0; have HBY := Lib.hid hV3.b1; have HBO := Lib.hid hV3.b2
  have HBn := Lib.hid ((hV3.ext.block _ (lt_heap Hone.out)).trans Hone.out)
  replace XC := Lib.hid (XC.out.trans hV3.ext)
  clear hV3
  generalize w4.heap.size = bx at *
  have K1 : Hid (∀ w', Ext V3 w' → (w'.cell? ⟨bone, 0, none⟩ = some (.int .i64 1) ∧ w'.cell? ⟨bone, 1, none⟩ = some (.int .i64 1) ∧ w'.cell? ⟨bone, 2, none⟩ = some (.int .i64 1) ∧ w'.cell? ⟨bone, 3, none⟩ = some (.slice none 0 0) ∧ w'.cell? ⟨bx, 0, none⟩ = some (.int .i64 2) ∧ w'.cell? ⟨bx, 1, none⟩ = some (.int .i64 2) ∧ w'.cell? ⟨bx, 2, none⟩ = some (.int .i64 0) ∧ w'.cell? ⟨bx, 3, none⟩ = some (.slice none 0 0))) := fun w' h => ⟨h.cell (by rw [Lib.cell_of_heap HBn.out]; rfl), h.cell (by rw [Lib.cell_of_heap HBn.out]; rfl), h.cell (by rw [Lib.cell_of_heap HBn.out]; rfl), h.cell (by rw [Lib.cell_of_heap HBn.out]; rfl), h.cell (by rw [Lib.cell_of_heap HBX.out]; rfl), h.cell (by rw [Lib.cell_of_heap HBX.out]; rfl), h.cell (by rw [Lib.cell_of_heap HBX.out]; rfl), h.cell (by rw [Lib.cell_of_heap HBX.out]; rfl)⟩
  go_region_held3 (fun w' => w'.cell? ⟨bone, 0, none⟩ = some (.int .i64 1) ∧ w'.cell? ⟨bone, 1, none⟩ = some (.int .i64 1) ∧ w'.cell? ⟨bone, 2, none⟩ = some (.int .i64 1) ∧ w'.cell? ⟨bone, 3, none⟩ = some (.slice none 0 0) ∧ w'.cell? ⟨bx, 0, none⟩ = some (.int .i64 2) ∧ w'.cell? ⟨bx, 1, none⟩ = some (.int .i64 2) ∧ w'.cell? ⟨bx, 2, none⟩ = some (.int .i64 0) ∧ w'.cell? ⟨bx, 3, none⟩ = some (.slice none 0 0))
    ((first
      | assumption
      | (refine K1.out _ ?_; repeat (first | exact Ext.refl _ | exact Y3.out | apply Ext.drew | apply Ext.alloc)
         done)
      | (refine K1.out _ ?_; repeat (first | exact Ext.refl _ | exact Y2.out | apply Ext.drew | apply Ext.alloc)
         done)
      | (refine K1.out _ ?_; repeat (first | exact Ext.refl _ | exact Y1.out | apply Ext.drew | apply Ext.alloc)
         done)
      | (refine K1.out _ ?_; repeat (first | exact Ext.refl _ | apply Ext.drew | apply Ext.alloc)
         done)
      | fail))
    ((first
      | (go_at_call 28
         have hg0 := Y2.out
         clear hg0
         refine (text_eq hd_t1 (text_any gOne (gTwo 12 gX (gN 2)) _ _ _ (leafV _ _ _ _) (HT1.out.ext (by repeat (first | exact Ext.refl _ | apply Ext.drew | apply Ext.alloc))) (HM.out.ext (XC.out.trans (by repeat (first | exact Y2.out | apply Ext.drew | apply Ext.alloc)))) (HN.out.ext (XC.out.trans (by repeat (first | exact Y2.out | apply Ext.drew | apply Ext.alloc)))) (HP.out.ext (XC.out.trans (by repeat (first | exact Y2.out | apply Ext.drew | apply Ext.alloc)))) (fun _ _ => by have := hd_s1; unfold bitsH at this; omega))).mono ?_
         rintro r y3 ⟨rfl, x3⟩
         have Y3 : Hid (Ext V3 y3) := Ext.trans (by repeat (first | exact Y2.out | apply Ext.drew | apply Ext.alloc)) x3
         clear x3)
      | (go_at_call 29
         have hg0 := Y1.out
         clear hg0
         refine (RTwo_any 12 1 gX (gN 2) _ _ _ (leafV _ _ _ _) (leafV _ _ _ _)).mono ?_
         rintro r y2 ⟨⟨v, rfl, hv⟩, x2⟩
         have Y2 : Hid (Ext V3 y2) := Ext.trans (by repeat (first | exact Y1.out | apply Ext.drew | apply Ext.alloc)) x2
         have HT1 := Lib.hid hv
         obtain ⟨k, rfl, hk⟩ := hv
         obtain ⟨ta1, tc1, rfl⟩ := SliceAt.shape hk
         clear hk
         clear x2)
      | (go_at_call 27
         refine (head1_any 2 _).mono ?_
         rintro r y1 ⟨rfl, x1⟩
         have Y1 : Hid (Ext V3 y1) := Ext.trans (by repeat (first | exact Ext.refl _ | apply Ext.drew | apply Ext.alloc)) x1
         clear x1)
      | fail))
  replace XC := Lib.hid (XC.out.trans Y3.out)
  replace HBn := Lib.hid ((Y3.out.block _ (lt_heap HBn.out)).trans HBn.out)
  replace HBX := Lib.hid ((Y3.out.block _ (lt_heap HBX.out)).trans HBX.out)
  replace HBY := Lib.hid ((Y3.out.block _ (lt_heap HBY.out)).trans HBY.out)
  replace HBO := Lib.hid ((Y3.out.block _ (lt_heap HBO.out)).trans HBO.out)
  clear Y1 Y2 Y3 K1
  generalize y3 = U1 at *
  clear HT1
  have K1 : Hid (∀ w', Ext U1 w' → (w'.cell? ⟨bx, 0, none⟩ = some (.int .i64 2) ∧ w'.cell? ⟨bx, 1, none⟩ = some (.int .i64 2) ∧ w'.cell? ⟨bx, 2, none⟩ = some (.int .i64 0) ∧ w'.cell? ⟨bx, 3, none⟩ = some (.slice none 0 0) ∧ w'.cell? ⟨bx + 1 + 1, 0, none⟩ = some (.int .i64 3) ∧ w'.cell? ⟨bx + 1 + 1, 1, none⟩ = some (.int .i64 2) ∧ w'.cell? ⟨bx + 1 + 1, 2, none⟩ = some (.int .i64 0) ∧ w'.cell? ⟨bx + 1 + 1, 3, none⟩ = some (.slice none 0 0))) := fun w' h => ⟨h.cell (by rw [Lib.cell_of_heap HBX.out]; rfl), h.cell (by rw [Lib.cell_of_heap HBX.out]; rfl), h.cell (by rw [Lib.cell_of_heap HBX.out]; rfl), h.cell (by rw [Lib.cell_of_heap HBX.out]; rfl), h.cell (by rw [Lib.cell_of_heap HBO.out]; rfl), h.cell (by rw [Lib.cell_of_heap HBO.out]; rfl), h.cell (by rw [Lib.cell_of_heap HBO.out]; rfl), h.cell (by rw [Lib.cell_of_heap HBO.out]; rfl)⟩
  go_wp2_with fail
  go_region_held3 (fun w' => w'.cell? ⟨bx, 0, none⟩ = some (.int .i64 2) ∧ w'.cell? ⟨bx, 1, none⟩ = some (.int .i64 2) ∧ w'.cell? ⟨bx, 2, none⟩ = some (.int .i64 0) ∧ w'.cell? ⟨bx, 3, none⟩ = some (.slice none 0 0) ∧ w'.cell? ⟨bx + 1 + 1, 0, none⟩ = some (.int .i64 3) ∧ w'.cell? ⟨bx + 1 + 1, 1, none⟩ = some (.int .i64 2) ∧ w'.cell? ⟨bx + 1 + 1, 2, none⟩ = some (.int .i64 0) ∧ w'.cell? ⟨bx + 1 + 1, 3, none⟩ = some (.slice none 0 0))
    ((first
      | assumption
      | (refine K1.out _ ?_; repeat (first | exact Ext.refl _ | exact Y4.out | apply Ext.drew | apply Ext.alloc)
         done)
      | (refine K1.out _ ?_; repeat (first | exact Ext.refl _ | exact Y3.out | apply Ext.drew | apply Ext.alloc)
         done)
      | (refine K1.out _ ?_; repeat (first | exact Ext.refl _ | exact Y2.out | apply Ext.drew | apply Ext.alloc)
         done)
      | (refine K1.out _ ?_; repeat (first | exact Ext.refl _ | exact Y1.out | apply Ext.drew | apply Ext.alloc)
         done)
      | (refine K1.out _ ?_; repeat (first | exact Ext.refl _ | apply Ext.drew | apply Ext.alloc)
         done)
      | fail))
    ((first
      | (go_at_call 28
         have hg0 := Y3.out
         clear hg0
         refine (text_eq hd_t2 (text_any (gTwo 13 gO gX) (gTwo 13 (gN 1) gX) _ _ _ (HT1.out.ext (by repeat (first | exact Ext.refl _ | apply Ext.drew | apply Ext.alloc))) (HT2.out.ext (by repeat (first | exact Ext.refl _ | apply Ext.drew | apply Ext.alloc))) (HM.out.ext (XC.out.trans (by repeat (first | exact Y3.out | apply Ext.drew | apply Ext.alloc)))) (HN.out.ext (XC.out.trans (by repeat (first | exact Y3.out | apply Ext.drew | apply Ext.alloc)))) (HP.out.ext (XC.out.trans (by repeat (first | exact Y3.out | apply Ext.drew | apply Ext.alloc)))) (fun _ _ => by have := hd_s2; unfold bitsH at this; omega))).mono ?_
         rintro r y4 ⟨rfl, x4⟩
         have Y4 : Hid (Ext U1 y4) := Ext.trans (by repeat (first | exact Y3.out | apply Ext.drew | apply Ext.alloc)) x4
         clear x4)
      | (go_at_call 29
         have hg0 := Y2.out
         clear hg0
         refine (RTwo_any 13 1 (gN 1) gX _ _ _ (leafV _ _ _ _) (leafV _ _ _ _)).mono ?_
         rintro r y3 ⟨⟨v, rfl, hv⟩, x3⟩
         have Y3 : Hid (Ext U1 y3) := Ext.trans (by repeat (first | exact Y2.out | apply Ext.drew | apply Ext.alloc)) x3
         replace HT1 := Lib.hid (HT1.out.ext (Ext.trans (by repeat (first | exact Ext.refl _ | apply Ext.drew | apply Ext.alloc)) x3))
         have HT2 := Lib.hid hv
         obtain ⟨k, rfl, hk⟩ := hv
         obtain ⟨ta2, tc2, rfl⟩ := SliceAt.shape hk
         clear hk
         clear x3)
      | (go_at_call 27
         have hg0 := Y1.out
         clear hg0
         refine (head1_any 1 _).mono ?_
         rintro r y2 ⟨rfl, x2⟩
         have Y2 : Hid (Ext U1 y2) := Ext.trans (by repeat (first | exact Y1.out | apply Ext.drew | apply Ext.alloc)) x2
         replace HT1 := Lib.hid (HT1.out.ext (Ext.trans (by repeat (first | exact Ext.refl _ | apply Ext.drew | apply Ext.alloc)) x2))
         clear x2)
      | (go_at_call 29
         refine (RTwo_any 13 1 gO gX _ _ _ (leafV _ _ _ _) (leafV _ _ _ _)).mono ?_
         rintro r y1 ⟨⟨v, rfl, hv⟩, x1⟩
         have Y1 : Hid (Ext U1 y1) := Ext.trans (by repeat (first | exact Ext.refl _ | apply Ext.drew | apply Ext.alloc)) x1
         have HT1 := Lib.hid hv
         obtain ⟨k, rfl, hk⟩ := hv
         obtain ⟨ta1, tc1, rfl⟩ := SliceAt.shape hk
         clear hk
         clear x1)
      | fail))
  replace XC := Lib.hid (XC.out.trans Y4.out)
  replace HBn := Lib.hid ((Y4.out.block _ (lt_heap HBn.out)).trans HBn.out)
  replace HBX := Lib.hid ((Y4.out.block _ (lt_heap HBX.out)).trans HBX.out)
  replace HBY := Lib.hid ((Y4.out.block _ (lt_heap HBY.out)).trans HBY.out)
  replace HBO := Lib.hid ((Y4.out.block _ (lt_heap HBO.out)).trans HBO.out)
  clear Y1 Y2 Y3 Y4 K1
  generalize y4 = U2 at *
  clear HT1 HT2
  have K1 : Hid (∀ w', Ext U2 w' → (w'.cell? ⟨bone, 0, none⟩ = some (.int .i64 1) ∧ w'.cell? ⟨bone, 1, none⟩ = some (.int .i64 1) ∧ w'.cell? ⟨bone, 2, none⟩ = some (.int .i64 1) ∧ w'.cell? ⟨bone, 3, none⟩ = some (.slice none 0 0) ∧ w'.cell? ⟨bx, 0, none⟩ = some (.int .i64 2) ∧ w'.cell? ⟨bx, 1, none⟩ = some (.int .i64 2) ∧ w'.cell? ⟨bx, 2, none⟩ = some (.int .i64 0) ∧ w'.cell? ⟨bx, 3, none⟩ = some (.slice none 0 0) ∧ w'.cell? ⟨bx + 1, 0, none⟩ = some (.int .i64 2) ∧ w'.cell? ⟨bx + 1, 1, none⟩ = some (.int .i64 2) ∧ w'.cell? ⟨bx + 1, 2, none⟩ = some (.int .i64 1) ∧ w'.cell? ⟨bx + 1, 3, none⟩ = some (.slice none 0 0) ∧ w'.cell? ⟨bx + 1 + 1, 0, none⟩ = some (.int .i64 3) ∧ w'.cell? ⟨bx + 1 + 1, 1, none⟩ = some (.int .i64 2) ∧ w'.cell? ⟨bx + 1 + 1, 2, none⟩ = some (.int .i64 0) ∧ w'.cell? ⟨bx + 1 + 1, 3, none⟩ = some (.slice none 0 0))) := fun w' h => ⟨h.cell (by rw [Lib.cell_of_heap HBn.out]; rfl), h.cell (by rw [Lib.cell_of_heap HBn.out]; rfl), h.cell (by rw [Lib.cell_of_heap HBn.out]; rfl), h.cell (by rw [Lib.cell_of_heap HBn.out]; rfl), h.cell (by rw [Lib.cell_of_heap HBX.out]; rfl), h.cell (by rw [Lib.cell_of_heap HBX.out]; rfl), h.cell (by rw [Lib.cell_of_heap HBX.out]; rfl), h.cell (by rw [Lib.cell_of_heap HBX.out]; rfl), h.cell (by rw [Lib.cell_of_heap HBY.out]; rfl), h.cell (by rw [Lib.cell_of_heap HBY.out]; rfl), h.cell (by rw [Lib.cell_of_heap HBY.out]; rfl), h.cell (by rw [Lib.cell_of_heap HBY.out]; rfl), h.cell (by rw [Lib.cell_of_heap HBO.out]; rfl), h.cell (by rw [Lib.cell_of_heap HBO.out]; rfl), h.cell (by rw [Lib.cell_of_heap HBO.out]; rfl), h.cell (by rw [Lib.cell_of_heap HBO.out]; rfl)⟩
  go_wp2_with fail
  go_region_held3 (fun w' => w'.cell? ⟨bone, 0, none⟩ = some (.int .i64 1) ∧ w'.cell? ⟨bone, 1, none⟩ = some (.int .i64 1) ∧ w'.cell? ⟨bone, 2, none⟩ = some (.int .i64 1) ∧ w'.cell? ⟨bone, 3, none⟩ = some (.slice none 0 0) ∧ w'.cell? ⟨bx, 0, none⟩ = some (.int .i64 2) ∧ w'.cell? ⟨bx, 1, none⟩ = some (.int .i64 2) ∧ w'.cell? ⟨bx, 2, none⟩ = some (.int .i64 0) ∧ w'.cell? ⟨bx, 3, none⟩ = some (.slice none 0 0) ∧ w'.cell? ⟨bx + 1, 0, none⟩ = some (.int .i64 2) ∧ w'.cell? ⟨bx + 1, 1, none⟩ = some (.int .i64 2) ∧ w'.cell? ⟨bx + 1, 2, none⟩ = some (.int .i64 1) ∧ w'.cell? ⟨bx + 1, 3, none⟩ = some (.slice none 0 0) ∧ w'.cell? ⟨bx + 1 + 1, 0, none⟩ = some (.int .i64 3) ∧ w'.cell? ⟨bx + 1 + 1, 1, none⟩ = some (.int .i64 2) ∧ w'.cell? ⟨bx + 1 + 1, 2, none⟩ = some (.int .i64 0) ∧ w'.cell? ⟨bx + 1 + 1, 3, none⟩ = some (.slice none 0 0))
    ((first
      | assumption
      | (refine K1.out _ ?_; repeat (first | exact Ext.refl _ | exact Y5.out | apply Ext.drew | apply Ext.alloc)
         done)
      | (refine K1.out _ ?_; repeat (first | exact Ext.refl _ | exact Y4.out | apply Ext.drew | apply Ext.alloc)
         done)
      | (refine K1.out _ ?_; repeat (first | exact Ext.refl _ | exact Y3.out | apply Ext.drew | apply Ext.alloc)
         done)
      | (refine K1.out _ ?_; repeat (first | exact Ext.refl _ | exact Y2.out | apply Ext.drew | apply Ext.alloc)
         done)
      | (refine K1.out _ ?_; repeat (first | exact Ext.refl _ | exact Y1.out | apply Ext.drew | apply Ext.alloc)
         done)
      | (refine K1.out _ ?_; repeat (first | exact Ext.refl _ | apply Ext.drew | apply Ext.alloc)
         done)
      | fail))
    ((first
      | (go_at_call 28
         have hg0 := Y4.out
         clear hg0
         refine (text_eq hd_t4 (text_any (gTwo 11 gX gY) (gTwo 11 gY gX) _ _ _ (HT2.out.ext (by repeat (first | exact Ext.refl _ | apply Ext.drew | apply Ext.alloc))) (HT3.out.ext (by repeat (first | exact Ext.refl _ | apply Ext.drew | apply Ext.alloc))) (HM.out.ext (XC.out.trans (by repeat (first | exact Y4.out | apply Ext.drew | apply Ext.alloc)))) (HN.out.ext (XC.out.trans (by repeat (first | exact Y4.out | apply Ext.drew | apply Ext.alloc)))) (HP.out.ext (XC.out.trans (by repeat (first | exact Y4.out | apply Ext.drew | apply Ext.alloc)))) (fun _ _ => by have := hd_s4; unfold bitsH at this; omega))).mono ?_
         rintro r y5 ⟨rfl, x5⟩
         have Y5 : Hid (Ext U2 y5) := Ext.trans (by repeat (first | exact Y4.out | apply Ext.drew | apply Ext.alloc)) x5
         clear x5)
      | (go_at_call 29
         have hg0 := Y3.out
         clear hg0
         refine (RTwo_any 11 1 gY gX _ _ _ (leafV _ _ _ _) (leafV _ _ _ _)).mono ?_
         rintro r y4 ⟨⟨v, rfl, hv⟩, x4⟩
         have Y4 : Hid (Ext U2 y4) := Ext.trans (by repeat (first | exact Y3.out | apply Ext.drew | apply Ext.alloc)) x4
         replace HT2 := Lib.hid (HT2.out.ext (Ext.trans (by repeat (first | exact Ext.refl _ | apply Ext.drew | apply Ext.alloc)) x4))
         have HT3 := Lib.hid hv
         obtain ⟨k, rfl, hk⟩ := hv
         obtain ⟨ta3, tc3, rfl⟩ := SliceAt.shape hk
         clear hk
         clear x4)
      | (go_at_call 29
         have hg0 := Y2.out
         clear hg0
         refine (RTwo_any 11 1 gX gY _ _ _ (leafV _ _ _ _) (leafV _ _ _ _)).mono ?_
         rintro r y3 ⟨⟨v, rfl, hv⟩, x3⟩
         have Y3 : Hid (Ext U2 y3) := Ext.trans (by repeat (first | exact Y2.out | apply Ext.drew | apply Ext.alloc)) x3
         have HT2 := Lib.hid hv
         obtain ⟨k, rfl, hk⟩ := hv
         obtain ⟨ta2, tc2, rfl⟩ := SliceAt.shape hk
         clear hk
         clear x3)
      | (go_at_call 28
         have hg0 := Y1.out
         clear hg0
         refine (text_eq hd_t3 (text_any gOne (gTwo 11 gO gX) _ _ _ (leafV _ _ _ _) (HT1.out.ext (by repeat (first | exact Ext.refl _ | apply Ext.drew | apply Ext.alloc))) (HM.out.ext (XC.out.trans (by repeat (first | exact Y1.out | apply Ext.drew | apply Ext.alloc)))) (HN.out.ext (XC.out.trans (by repeat (first | exact Y1.out | apply Ext.drew | apply Ext.alloc)))) (HP.out.ext (XC.out.trans (by repeat (first | exact Y1.out | apply Ext.drew | apply Ext.alloc)))) (fun _ _ => by have := hd_s3; unfold bitsH at this; omega))).mono ?_
         rintro r y2 ⟨rfl, x2⟩
         have Y2 : Hid (Ext U2 y2) := Ext.trans (by repeat (first | exact Y1.out | apply Ext.drew | apply Ext.alloc)) x2
         clear x2)
      | (go_at_call 29
         refine (RTwo_any 11 1 gO gX _ _ _ (leafV _ _ _ _) (leafV _ _ _ _)).mono ?_
         rintro r y1 ⟨⟨v, rfl, hv⟩, x1⟩
         have Y1 : Hid (Ext U2 y1) := Ext.trans (by repeat (first | exact Ext.refl _ | apply Ext.drew | apply Ext.alloc)) x1
         have HT1 := Lib.hid hv
         obtain ⟨k, rfl, hk⟩ := hv
         obtain ⟨ta1, tc1, rfl⟩ := SliceAt.shape hk
         clear hk
         clear x1)
      | fail))
  replace XC := Lib.hid (XC.out.trans Y5.out)
  replace HBn := Lib.hid ((Y5.out.block _ (lt_heap HBn.out)).trans HBn.out)
  replace HBX := Lib.hid ((Y5.out.block _ (lt_heap HBX.out)).trans HBX.out)
  replace HBY := Lib.hid ((Y5.out.block _ (lt_heap HBY.out)).trans HBY.out)
  replace HBO := Lib.hid ((Y5.out.block _ (lt_heap HBO.out)).trans HBO.out)
  clear Y1 Y2 Y3 Y4 Y5 K1
  generalize y5 = U3 at *
  clear HT1 HT2 HT3
  have K1 : Hid (∀ w', Ext U3 w' → StH bone bx w') := fun w' h => ⟨h.cell (by rw [Lib.cell_of_heap HBn.out]; rfl), h.cell (by rw [Lib.cell_of_heap HBn.out]; rfl), h.cell (by rw [Lib.cell_of_heap HBn.out]; rfl), h.cell (by rw [Lib.cell_of_heap HBn.out]; rfl), h.cell (by rw [Lib.cell_of_heap HBX.out]; rfl), h.cell (by rw [Lib.cell_of_heap HBX.out]; rfl), h.cell (by rw [Lib.cell_of_heap HBX.out]; rfl), h.cell (by rw [Lib.cell_of_heap HBX.out]; rfl), h.cell (by rw [Lib.cell_of_heap HBY.out]; rfl), h.cell (by rw [Lib.cell_of_heap HBY.out]; rfl), h.cell (by rw [Lib.cell_of_heap HBY.out]; rfl), h.cell (by rw [Lib.cell_of_heap HBY.out]; rfl)⟩
  go_upto_region 7 with fail
  go_cut [7] (fun s7 W => ∃ b : Nat, s7 = .pointer (some ⟨b, 0, none⟩) ∧ CondIn W b gC ∧ Ext U3 W)
  case first =>
    refine wp_normal2 ?_
    refine wp_region_held (S := (StH bone bx)) (by kernel_rfl) ?_
    change wpAnyH _ _ _ _ _ _ _ _ U3.drew
    have Y0 : Hid (Ext U3 U3.drew) := (Ext.refl _).drew
    have HS0 := Lib.hid (K1.out _ Y0.out)
    generalize U3.drew = y0 at *
    refine wpAnyH_take (i := 0) (v := .agg #[.int .i64 2, .int .i64 2, .int .i64 0, .slice none 0 0]) rfl (by kernel_rfl) (by kernel_rfl) (by kernel_rfl) (fun _ _ _ h => h) (.inl ⟨rfl, fun w' hx' => by obtain ⟨q0, q1, q2, q3, q4, q5, q6, q7, q8, q9, q10, q11⟩ := hx'; go_simp⟩) HS0.out ?_
    refine wpAnyH_take (i := 1) (v := .agg #[.int .i64 2, .int .i64 2, .int .i64 1, .slice none 0 0]) rfl (by kernel_rfl) (by kernel_rfl) (by kernel_rfl) (fun _ _ _ h => h) (.inl ⟨rfl, fun w' hx' => by obtain ⟨q0, q1, q2, q3, q4, q5, q6, q7, q8, q9, q10, q11⟩ := hx'; go_simp⟩) HS0.out ?_
    refine wpAnyH_take (i := 3) (v := .agg #[.int .i64 1, .int .i64 1, .int .i64 1, .slice none 0 0]) rfl (by kernel_rfl) (by kernel_rfl) (by kernel_rfl) (fun _ _ _ h => h) (.inl ⟨rfl, fun w' hx' => by obtain ⟨q0, q1, q2, q3, q4, q5, q6, q7, q8, q9, q10, q11⟩ := hx'; go_simp⟩) HS0.out ?_
    refine wpAnyH_all (rs := [2, 5]) (by kernel_rfl) (by simp) ?_
    intro i hi
    have hi' : i = 2 ∨ i = 5 := by simpa using hi
    clear hi
    rcases hi' with rfl | rfl
    · unfold wpOp
      go_simp
      refine .inl ((RTwoT_any 11 1 gX gY rfl rfl _ _ _ (leafV _ _ _ _) (leafV _ _ _ _)).mono ?_)
      rintro r y1 ⟨⟨v, rfl, hv⟩, x1⟩
      have Y1 := Lib.hid (Y0.out.trans x1)
      have HS1 := Lib.hid (K1.out _ Y1.out)
      obtain ⟨ta, tn, tc, rfl, hk⟩ := hv.shape
      clear hv
      have HFt1 : Hid (KidsT (fun k => (k < U3.heap.size ∨ y0.heap.size ≤ k) ∧ k < y1.heap.size) y1 (.slice ta tn tc) [gX, gY]) := hk.there.mono fun k hk => ⟨.inr hk.1, hk.2⟩
      have HXt1 : Hid (y1.heap.size ≤ y1.heap.size) := Nat.le_refl _
      clear hk
      clear x1
      refine ⟨HS1.out, ?_⟩
      refine wpAnyH_take (i := 4) (v := .agg #[.string ⟨#[97]⟩, .int .i64 0, .int .i64 0, .int .i64 0, .int .i64 0, .int .i64 0, .int .i64 11, .int .i64 1, .int .i64 0, .slice ta tn tc, .int .i64 1, .int .i64 1, .int .i64 1, .slice none 0 0]) rfl (by kernel_rfl) (by kernel_rfl) (by kernel_rfl) (fun _ _ _ h => h) (.inl ⟨rfl, fun w' hx' => by obtain ⟨q0, q1, q2, q3, q4, q5, q6, q7, q8, q9, q10, q11⟩ := hx'; go_simp⟩) HS1.out ?_
      refine wpAnyH_all (rs := [5]) (by kernel_rfl) (by simp) ?_
      intro i hi
      obtain rfl : i = 5 := by simpa using hi
      clear hi
      unfold wpOp
      go_simp
      obtain ⟨y2, hy⟩ : ∃ y2, y2 = y1.alloc (.cells #[.string ⟨#[]⟩, .int .i64 0, .int .i64 0, .int .i64 0, .int .i64 0, .int .i64 0, .int .i64 0, .int .i64 0, .int .i64 0, .slice none 0 0, .int .i64 0, .int .i64 0, .int .i64 0, .slice none 0 0] 27) := ⟨_, rfl⟩
      have x2 : Ext y1 y2 := by rw [hy]; exact (Ext.refl _).alloc _
      have HZc2 : Hid (y2.heap[y1.heap.size]? = some (.cells #[.string ⟨#[]⟩, .int .i64 0, .int .i64 0, .int .i64 0, .int .i64 0, .int .i64 0, .int .i64 0, .int .i64 0, .int .i64 0, .slice none 0 0, .int .i64 0, .int .i64 0, .int .i64 0, .slice none 0 0] 27 (0, 0))) := by rw [hy]; exact heap_new _ _
      have HGc : Hid (U3.heap.size ≤ y1.heap.size) := Y1.out.size
      rw [← hy]
      clear hy
      have Y2 := Lib.hid (Y1.out.trans x2)
      have HS2 := Lib.hid (K1.out _ Y2.out)
      have HFt2 := Lib.hid (HFt1.out.keep (w' := y2) fun k _ hk => x2.block k hk)
      have HXt2 : Hid (y1.heap.size ≤ y2.heap.size) := Nat.le_trans HXt1.out x2.size
      obtain ⟨bc, hb⟩ : ∃ bc, bc = y1.heap.size := ⟨_, rfl⟩
      have HLtc : Hid (y1.heap.size ≤ bc) := by rw [hb]; exact HXt1.out
      rw [← hb] at HZc2 HGc ⊢
      clear hb x2
      refine .inl ⟨HS2.out, ?_⟩
      refine wpAnyH_all (rs := [6]) (by kernel_rfl) (by simp) ?_
      intro i hi
      obtain rfl : i = 6 := by simpa using hi
      clear hi
      obtain ⟨⟨d0, d1, d2, d3, d4, d5, d6, d7, d8, d9, d10, d11, d12, d13⟩, f0, f1, f2, f3, f4, f5, f6, f7, f8, f9, f10, f11, f12, f13⟩ := blocks14 HZc2.out
      unfold wpOp
      go_simp
      obtain ⟨y3, hy⟩ : ∃ y3, y3 = ((((((((((((((y2).setCell ⟨bc, 0, none⟩ (.string ⟨#[97]⟩)).setCell ⟨bc, 1, none⟩ (.int .i64 0)).setCell ⟨bc, 2, none⟩ (.int .i64 0)).setCell ⟨bc, 3, none⟩ (.int .i64 0)).setCell ⟨bc, 4, none⟩ (.int .i64 0)).setCell ⟨bc, 5, none⟩ (.int .i64 0)).setCell ⟨bc, 6, none⟩ (.int .i64 11)).setCell ⟨bc, 7, none⟩ (.int .i64 1)).setCell ⟨bc, 8, none⟩ (.int .i64 0)).setCell ⟨bc, 9, none⟩ (.slice ta tn tc)).setCell ⟨bc, 10, none⟩ (.int .i64 1)).setCell ⟨bc, 11, none⟩ (.int .i64 1)).setCell ⟨bc, 12, none⟩ (.int .i64 1)).setCell ⟨bc, 13, none⟩ (.slice none 0 0) := ⟨_, rfl⟩
      rw [← hy]
      obtain ⟨k1, k2, k3⟩ := set14 hy HZc2.out
      have Y3 := Lib.hid (k3 _ Y2.out HGc.out)
      have HS3 := Lib.hid (K1.out _ Y3.out)
      have HZc3 := Lib.hid k1
      have HFt3 := Lib.hid (HFt2.out.keep (w' := y3) fun k hk _ => k2 k (by have h1 := HGc.out; have h2 := HLtc.out; have h3 := hk.2; rcases hk.1 with h4 | h4 <;> omega))
      have HXt3 := HXt2
      clear hy k1 k2 k3 d0 d1 d2 d3 d4 d5 d6 d7 d8 d9 d10 d11 d12 d13 f0 f1 f2 f3 f4 f5 f6 f7 f8 f9 f10 f11 f12 f13
      refine .inl ⟨HS3.out, ?_⟩
      refine wpAnyH_done (by kernel_rfl) ?_ _
      unfold onlyNormal
      go_wp2_with fail
      go_meet
      exact ⟨_, rfl, ⟨_, _, _, _, _, _, HZc3.out, ⟨_, rfl, HFt3.out.kids⟩, ⟨_, rfl, .inl ⟨⟨_, _, rfl⟩, rfl⟩⟩⟩, Y3.out⟩
    · unfold wpOp
      go_simp
      obtain ⟨y1, hy⟩ : ∃ y1, y1 = y0.alloc (.cells #[.string ⟨#[]⟩, .int .i64 0, .int .i64 0, .int .i64 0, .int .i64 0, .int .i64 0, .int .i64 0, .int .i64 0, .int .i64 0, .slice none 0 0, .int .i64 0, .int .i64 0, .int .i64 0, .slice none 0 0] 27) := ⟨_, rfl⟩
      have x1 : Ext y0 y1 := by rw [hy]; exact (Ext.refl _).alloc _
      have HZc1 : Hid (y1.heap[y0.heap.size]? = some (.cells #[.string ⟨#[]⟩, .int .i64 0, .int .i64 0, .int .i64 0, .int .i64 0, .int .i64 0, .int .i64 0, .int .i64 0, .int .i64 0, .slice none 0 0, .int .i64 0, .int .i64 0, .int .i64 0, .slice none 0 0] 27 (0, 0))) := by rw [hy]; exact heap_new _ _
      have HGc : Hid (U3.heap.size ≤ y0.heap.size) := Y0.out.size
      rw [← hy]
      clear hy
      have Y1 := Lib.hid (Y0.out.trans x1)
      have HS1 := Lib.hid (K1.out _ Y1.out)
      obtain ⟨bc, hb⟩ : ∃ bc, bc = y0.heap.size := ⟨_, rfl⟩
      rw [← hb] at HZc1 HGc ⊢
      clear hb x1
      refine .inl ⟨HS1.out, ?_⟩
      refine wpAnyH_all (rs := [2]) (by kernel_rfl) (by simp) ?_
      intro i hi
      obtain rfl : i = 2 := by simpa using hi
      clear hi
      unfold wpOp
      go_simp
      refine .inl ((RTwoT_any 11 1 gX gY rfl rfl _ _ _ (leafV _ _ _ _) (leafV _ _ _ _)).mono ?_)
      rintro r y2 ⟨⟨v, rfl, hv⟩, x2⟩
      have Y2 := Lib.hid (Y1.out.trans x2)
      have HS2 := Lib.hid (K1.out _ Y2.out)
      have HZc2 := Lib.hid ((x2.block _ (lt_heap HZc1.out)).trans HZc1.out)
      obtain ⟨ta, tn, tc, rfl, hk⟩ := hv.shape
      clear hv
      have HFt2 : Hid (KidsT (fun k => (k < U3.heap.size ∨ y1.heap.size ≤ k) ∧ k < y2.heap.size) y2 (.slice ta tn tc) [gX, gY]) := hk.there.mono fun k hk => ⟨.inr hk.1, hk.2⟩
      have HXt2 : Hid (y2.heap.size ≤ y2.heap.size) := Nat.le_refl _
      have HLtc : Hid (bc < y1.heap.size) := lt_heap HZc1.out
      clear hk
      clear x2
      refine ⟨HS2.out, ?_⟩
      refine wpAnyH_take (i := 4) (v := .agg #[.string ⟨#[97]⟩, .int .i64 0, .int .i64 0, .int .i64 0, .int .i64 0, .int .i64 0, .int .i64 11, .int .i64 1, .int .i64 0, .slice ta tn tc, .int .i64 1, .int .i64 1, .int .i64 1, .slice none 0 0]) rfl (by kernel_rfl) (by kernel_rfl) (by kernel_rfl) (fun _ _ _ h => h) (.inl ⟨rfl, fun w' hx' => by obtain ⟨q0, q1, q2, q3, q4, q5, q6, q7, q8, q9, q10, q11⟩ := hx'; go_simp⟩) HS2.out ?_
      refine wpAnyH_all (rs := [6]) (by kernel_rfl) (by simp) ?_
      intro i hi
      obtain rfl : i = 6 := by simpa using hi
      clear hi
      obtain ⟨⟨d0, d1, d2, d3, d4, d5, d6, d7, d8, d9, d10, d11, d12, d13⟩, f0, f1, f2, f3, f4, f5, f6, f7, f8, f9, f10, f11, f12, f13⟩ := blocks14 HZc2.out
      unfold wpOp
      go_simp
      obtain ⟨y3, hy⟩ : ∃ y3, y3 = ((((((((((((((y2).setCell ⟨bc, 0, none⟩ (.string ⟨#[97]⟩)).setCell ⟨bc, 1, none⟩ (.int .i64 0)).setCell ⟨bc, 2, none⟩ (.int .i64 0)).setCell ⟨bc, 3, none⟩ (.int .i64 0)).setCell ⟨bc, 4, none⟩ (.int .i64 0)).setCell ⟨bc, 5, none⟩ (.int .i64 0)).setCell ⟨bc, 6, none⟩ (.int .i64 11)).setCell ⟨bc, 7, none⟩ (.int .i64 1)).setCell ⟨bc, 8, none⟩ (.int .i64 0)).setCell ⟨bc, 9, none⟩ (.slice ta tn tc)).setCell ⟨bc, 10, none⟩ (.int .i64 1)).setCell ⟨bc, 11, none⟩ (.int .i64 1)).setCell ⟨bc, 12, none⟩ (.int .i64 1)).setCell ⟨bc, 13, none⟩ (.slice none 0 0) := ⟨_, rfl⟩
      rw [← hy]
      obtain ⟨k1, k2, k3⟩ := set14 hy HZc2.out
      have Y3 := Lib.hid (k3 _ Y2.out HGc.out)
      have HS3 := Lib.hid (K1.out _ Y3.out)
      have HZc3 := Lib.hid k1
      have HFt3 := Lib.hid (HFt2.out.keep (w' := y3) fun k hk _ => k2 k (by have h1 := HGc.out; have h2 := HLtc.out; have h3 := hk.2; rcases hk.1 with h4 | h4 <;> omega))
      have HXt3 := HXt2
      clear hy k1 k2 k3 d0 d1 d2 d3 d4 d5 d6 d7 d8 d9 d10 d11 d12 d13 f0 f1 f2 f3 f4 f5 f6 f7 f8 f9 f10 f11 f12 f13
      refine .inl ⟨HS3.out, ?_⟩
      refine wpAnyH_done (by kernel_rfl) ?_ _
      unfold onlyNormal
      go_wp2_with fail
      go_meet
      exact ⟨_, rfl, ⟨_, _, _, _, _, _, HZc3.out, ⟨_, rfl, HFt3.out.kids⟩, ⟨_, rfl, .inl ⟨⟨_, _, rfl⟩, rfl⟩⟩⟩, Y3.out⟩
  case rest =>
    obtain ⟨bc, rfl, hI, x1⟩ := hcut
    generalize wc = U4 at *
    obtain ⟨ha, hl, hcp, ga, gl, gc, hat, he1, he2⟩ := hI
    have HAC := Lib.hid hat; have HEH := Lib.hid he1; have HEG := Lib.hid he2
    replace HBn := Lib.hid ((x1.block _ (lt_heap HBn.out)).trans HBn.out); replace HBX := Lib.hid ((x1.block _ (lt_heap HBX.out)).trans HBX.out); replace HBY := Lib.hid ((x1.block _ (lt_heap HBY.out)).trans HBY.out); replace HBO := Lib.hid ((x1.block _ (lt_heap HBO.out)).trans HBO.out)
    replace XC := Lib.hid (XC.out.trans x1)
    clear x1 hat he1 he2 K1
    have HCT : Hid (∀ (P : Nat → Prop) (w' : World), Ext U4 w' → (∀ k, k < U4.heap.size → P k) → CondT P w' (.agg #[.string ⟨#[97]⟩, .int .i64 0, .int .i64 0, .int .i64 0, .int .i64 0, .int .i64 0, .int .i64 11, .int .i64 1, .int .i64 0, .slice ha hl hcp, .int .i64 1, .int .i64 1, .int .i64 1, .slice ga gl gc]) gC) := fun P w' h hP => ⟨ha, hl, hcp, ga, gl, gc, rfl, (HEH.out.t.keep fun k _ hk => h.block k hk).mono hP, (HEG.out.t.keep fun k _ hk => h.block k hk).mono hP⟩
    have K2 : Hid (∀ w', Ext U4 w' → StK bx bc ha hl hcp ga gl gc w') := fun w' h => ⟨h.cell (by rw [Lib.cell_of_heap HBX.out]; rfl), h.cell (by rw [Lib.cell_of_heap HBX.out]; rfl), h.cell (by rw [Lib.cell_of_heap HBX.out]; rfl), h.cell (by rw [Lib.cell_of_heap HBX.out]; rfl), h.cell (by rw [Lib.cell_of_heap HBY.out]; rfl), h.cell (by rw [Lib.cell_of_heap HBY.out]; rfl), h.cell (by rw [Lib.cell_of_heap HBY.out]; rfl), h.cell (by rw [Lib.cell_of_heap HBY.out]; rfl), h.cell (by rw [Lib.cell_of_heap HAC.out]; rfl), h.cell (by rw [Lib.cell_of_heap HAC.out]; rfl), h.cell (by rw [Lib.cell_of_heap HAC.out]; rfl), h.cell (by rw [Lib.cell_of_heap HAC.out]; rfl), h.cell (by rw [Lib.cell_of_heap HAC.out]; rfl), h.cell (by rw [Lib.cell_of_heap HAC.out]; rfl), h.cell (by rw [Lib.cell_of_heap HAC.out]; rfl), h.cell (by rw [Lib.cell_of_heap HAC.out]; rfl), h.cell (by rw [Lib.cell_of_heap HAC.out]; rfl), h.cell (by rw [Lib.cell_of_heap HAC.out]; rfl), h.cell (by rw [Lib.cell_of_heap HAC.out]; rfl), h.cell (by rw [Lib.cell_of_heap HAC.out]; rfl), h.cell (by rw [Lib.cell_of_heap HAC.out]; rfl), h.cell (by rw [Lib.cell_of_heap HAC.out]; rfl)⟩
    obtain ⟨d, hd⟩ : ∃ d, d = strC gC (gTwo 12 gX gY) := ⟨_, rfl⟩
    have HD1 : Hid (d.id = [97]) := by rw [hd]; exact hd_d1
    have HD2 : Hid (d.hyp.textTop = [97, 110, 100, 40, 101, 113, 40, 99, 48, 58, 50, 44, 99, 49, 58, 50, 41, 44, 108, 116, 40, 99, 48, 58, 50, 44, 99, 49, 58, 50, 41, 41]) := by rw [hd]; exact hd_d2
    have HDD := Lib.hid hd
    clear hd
    go_upto_region 8 with fail
    go_cut [8] (fun s8 W => ∃ b : Nat, s8 = .pointer (some ⟨b, 0, none⟩) ∧ CondIn W b d ∧ Ext U4 W)
    case first =>
      refine wp_normal2 ?_
      refine wp_region_held (S := (StK bx bc ha hl hcp ga gl gc)) (by kernel_rfl) ?_
      change wpAnyH _ _ _ _ _ _ _ _ U4.drew
      have Y0 : Hid (Ext U4 U4.drew) := (Ext.refl _).drew
      have HS0 := Lib.hid (K2.out _ Y0.out)
      generalize U4.drew = y0 at *
      refine wpAnyH_take (i := 0) (v := .agg #[.string ⟨#[97]⟩, .int .i64 0, .int .i64 0, .int .i64 0, .int .i64 0, .int .i64 0, .int .i64 11, .int .i64 1, .int .i64 0, .slice ha hl hcp, .int .i64 1, .int .i64 1, .int .i64 1, .slice ga gl gc]) rfl (by kernel_rfl) (by kernel_rfl) (by kernel_rfl) (fun _ _ _ h => h) (.inl ⟨rfl, fun w' hx' => by obtain ⟨q0, q1, q2, q3, q4, q5, q6, q7, q8, q9, q10, q11, q12, q13, q14, q15, q16, q17, q18, q19, q20, q21⟩ := hx'; go_simp⟩) HS0.out ?_
      refine wpAnyH_take (i := 1) (v := .agg #[.int .i64 2, .int .i64 2, .int .i64 0, .slice none 0 0]) rfl (by kernel_rfl) (by kernel_rfl) (by kernel_rfl) (fun _ _ _ h => h) (.inl ⟨rfl, fun w' hx' => by obtain ⟨q0, q1, q2, q3, q4, q5, q6, q7, q8, q9, q10, q11, q12, q13, q14, q15, q16, q17, q18, q19, q20, q21⟩ := hx'; go_simp⟩) HS0.out ?_
      refine wpAnyH_take (i := 2) (v := .agg #[.int .i64 2, .int .i64 2, .int .i64 1, .slice none 0 0]) rfl (by kernel_rfl) (by kernel_rfl) (by kernel_rfl) (fun _ _ _ h => h) (.inl ⟨rfl, fun w' hx' => by obtain ⟨q0, q1, q2, q3, q4, q5, q6, q7, q8, q9, q10, q11, q12, q13, q14, q15, q16, q17, q18, q19, q20, q21⟩ := hx'; go_simp⟩) HS0.out ?_
      refine wpAnyH_all (rs := [3, 5]) (by kernel_rfl) (by simp) ?_
      intro i hi
      have hi' : i = 3 ∨ i = 5 := by simpa using hi
      clear hi
      rcases hi' with rfl | rfl
      · unfold wpOp
        go_simp
        refine .inl ((RTwoT_any 12 1 gX gY rfl rfl _ _ _ (leafV _ _ _ _) (leafV _ _ _ _)).mono ?_)
        rintro r y1 ⟨⟨v, rfl, hv⟩, x1⟩
        have Y1 := Lib.hid (Y0.out.trans x1)
        have HS1 := Lib.hid (K2.out _ Y1.out)
        obtain ⟨ua, un, uc, rfl, hk⟩ := hv.shape
        clear hv
        have HFu1 : Hid (KidsT (fun k => (k < U4.heap.size ∨ y0.heap.size ≤ k) ∧ k < y1.heap.size) y1 (.slice ua un uc) [gX, gY]) := hk.there.mono fun k hk => ⟨.inr hk.1, hk.2⟩
        have HXu1 : Hid (y1.heap.size ≤ y1.heap.size) := Nat.le_refl _
        clear hk
        clear x1
        refine ⟨HS1.out, ?_⟩
        refine wpAnyH_all (rs := [4, 5]) (by kernel_rfl) (by simp) ?_
        intro i hi
        have hi' : i = 4 ∨ i = 5 := by simpa using hi
        clear hi
        rcases hi' with rfl | rfl
        · unfold wpOp
          go_simp
          refine .inl ((Strengthen_anyT (fun k => k < U4.heap.size ∨ y1.heap.size ≤ k) gC (gTwo 12 gX gY) _ _ _ (HCT.out _ _ Y1.out fun k hk => .inl hk) ⟨_, rfl, HFu1.out.kids⟩ (HM.out.ext (XC.out.trans Y1.out)) (by decide) (fun k hk => .inr hk)).mono ?_)
          rintro r y2 ⟨⟨v, rfl, hv⟩, x2⟩
          have Y2 := Lib.hid (Y1.out.trans x2)
          have HS2 := Lib.hid (K2.out _ Y2.out)
          have HFu2 := Lib.hid (HFu1.out.keep (w' := y2) fun k _ hk => x2.block k hk)
          have HXu2 : Hid (y1.heap.size ≤ y2.heap.size) := Nat.le_trans HXu1.out x2.size
          rw [← HDD.out] at hv
          obtain ⟨a1, l1, c1, a2, l2, c2, rfl, hv1, hv2⟩ := hv
          unfold condCells
          have HFh2 : Hid (EValT (fun k => (k < U4.heap.size ∨ y1.heap.size ≤ k) ∧ k < y2.heap.size) y2 (.agg #[.int .i64 d.hyp.op, .int .i64 d.hyp.wd, .int .i64 d.hyp.n, .slice a1 l1 c1]) d.hyp) := hv1.there
          have HXh2 : Hid (y2.heap.size ≤ y2.heap.size) := Nat.le_refl _
          have HFg2 : Hid (EValT (fun k => (k < U4.heap.size ∨ y1.heap.size ≤ k) ∧ k < y2.heap.size) y2 (.agg #[.int .i64 d.goal.op, .int .i64 d.goal.wd, .int .i64 d.goal.n, .slice a2 l2 c2]) d.goal) := hv2.there
          have HXg2 : Hid (y2.heap.size ≤ y2.heap.size) := Nat.le_refl _
          clear hv1 hv2
          clear x2
          refine ⟨HS2.out, ?_⟩
          refine wpAnyH_all (rs := [5]) (by kernel_rfl) (by simp) ?_
          intro i hi
          obtain rfl : i = 5 := by simpa using hi
          clear hi
          unfold wpOp
          go_simp
          obtain ⟨y3, hy⟩ : ∃ y3, y3 = y2.alloc (.cells #[.string ⟨#[]⟩, .int .i64 0, .int .i64 0, .int .i64 0, .int .i64 0, .int .i64 0, .int .i64 0, .int .i64 0, .int .i64 0, .slice none 0 0, .int .i64 0, .int .i64 0, .int .i64 0, .slice none 0 0] 27) := ⟨_, rfl⟩
          have x3 : Ext y2 y3 := by rw [hy]; exact (Ext.refl _).alloc _
          have HZe3 : Hid (y3.heap[y2.heap.size]? = some (.cells #[.string ⟨#[]⟩, .int .i64 0, .int .i64 0, .int .i64 0, .int .i64 0, .int .i64 0, .int .i64 0, .int .i64 0, .int .i64 0, .slice none 0 0, .int .i64 0, .int .i64 0, .int .i64 0, .slice none 0 0] 27 (0, 0))) := by rw [hy]; exact heap_new _ _
          have HGe : Hid (U4.heap.size ≤ y2.heap.size) := Y2.out.size
          rw [← hy]
          clear hy
          have Y3 := Lib.hid (Y2.out.trans x3)
          have HS3 := Lib.hid (K2.out _ Y3.out)
          have HFu3 := Lib.hid (HFu2.out.keep (w' := y3) fun k _ hk => x3.block k hk)
          have HXu3 : Hid (y1.heap.size ≤ y3.heap.size) := Nat.le_trans HXu2.out x3.size
          have HFh3 := Lib.hid (HFh2.out.keep (w' := y3) fun k _ hk => x3.block k hk)
          have HXh3 : Hid (y2.heap.size ≤ y3.heap.size) := Nat.le_trans HXh2.out x3.size
          have HFg3 := Lib.hid (HFg2.out.keep (w' := y3) fun k _ hk => x3.block k hk)
          have HXg3 : Hid (y2.heap.size ≤ y3.heap.size) := Nat.le_trans HXg2.out x3.size
          obtain ⟨be, hb⟩ : ∃ be, be = y2.heap.size := ⟨_, rfl⟩
          have HLue : Hid (y1.heap.size ≤ be) := by rw [hb]; exact HXu2.out
          have HLhe : Hid (y2.heap.size ≤ be) := by rw [hb]; exact HXh2.out
          have HLge : Hid (y2.heap.size ≤ be) := by rw [hb]; exact HXg2.out
          rw [← hb] at HZe3 HGe ⊢
          clear hb x3
          refine .inl ⟨HS3.out, ?_⟩
          refine wpAnyH_all (rs := [6]) (by kernel_rfl) (by simp) ?_
          intro i hi
          obtain rfl : i = 6 := by simpa using hi
          clear hi
          obtain ⟨⟨d0, d1, d2, d3, d4, d5, d6, d7, d8, d9, d10, d11, d12, d13⟩, f0, f1, f2, f3, f4, f5, f6, f7, f8, f9, f10, f11, f12, f13⟩ := blocks14 HZe3.out
          unfold wpOp
          go_simp
          obtain ⟨y4, hy⟩ : ∃ y4, y4 = ((((((((((((((y3).setCell ⟨be, 0, none⟩ (.string ⟨d.id.toArray⟩)).setCell ⟨be, 1, none⟩ (.int .i64 d.k1)).setCell ⟨be, 2, none⟩ (.int .i64 d.k2)).setCell ⟨be, 3, none⟩ (.int .i64 d.k3)).setCell ⟨be, 4, none⟩ (.int .i64 d.k4)).setCell ⟨be, 5, none⟩ (.int .i64 d.k5)).setCell ⟨be, 6, none⟩ (.int .i64 d.hyp.op)).setCell ⟨be, 7, none⟩ (.int .i64 d.hyp.wd)).setCell ⟨be, 8, none⟩ (.int .i64 d.hyp.n)).setCell ⟨be, 9, none⟩ (.slice a1 l1 c1)).setCell ⟨be, 10, none⟩ (.int .i64 d.goal.op)).setCell ⟨be, 11, none⟩ (.int .i64 d.goal.wd)).setCell ⟨be, 12, none⟩ (.int .i64 d.goal.n)).setCell ⟨be, 13, none⟩ (.slice a2 l2 c2) := ⟨_, rfl⟩
          rw [← hy]
          obtain ⟨k1, k2, k3⟩ := set14 hy HZe3.out
          have Y4 := Lib.hid (k3 _ Y3.out HGe.out)
          have HS4 := Lib.hid (K2.out _ Y4.out)
          have HZe4 := Lib.hid k1
          have HFu4 := Lib.hid (HFu3.out.keep (w' := y4) fun k hk _ => k2 k (by have h1 := HGe.out; have h2 := HLue.out; have h3 := hk.2; rcases hk.1 with h4 | h4 <;> omega))
          have HXu4 := HXu3
          have HFh4 := Lib.hid (HFh3.out.keep (w' := y4) fun k hk _ => k2 k (by have h1 := HGe.out; have h2 := HLhe.out; have h3 := hk.2; rcases hk.1 with h4 | h4 <;> omega))
          have HXh4 := HXh3
          have HFg4 := Lib.hid (HFg3.out.keep (w' := y4) fun k hk _ => k2 k (by have h1 := HGe.out; have h2 := HLge.out; have h3 := hk.2; rcases hk.1 with h4 | h4 <;> omega))
          have HXg4 := HXg3
          clear hy k1 k2 k3 d0 d1 d2 d3 d4 d5 d6 d7 d8 d9 d10 d11 d12 d13 f0 f1 f2 f3 f4 f5 f6 f7 f8 f9 f10 f11 f12 f13
          refine .inl ⟨HS4.out, ?_⟩
          refine wpAnyH_done (by kernel_rfl) ?_ _
          unfold onlyNormal
          go_wp2_with fail
          go_meet
          exact ⟨_, rfl, ⟨_, _, _, _, _, _, HZe4.out, HFh4.out.eVal, HFg4.out.eVal⟩, Y4.out⟩
        · unfold wpOp
          go_simp
          obtain ⟨y2, hy⟩ : ∃ y2, y2 = y1.alloc (.cells #[.string ⟨#[]⟩, .int .i64 0, .int .i64 0, .int .i64 0, .int .i64 0, .int .i64 0, .int .i64 0, .int .i64 0, .int .i64 0, .slice none 0 0, .int .i64 0, .int .i64 0, .int .i64 0, .slice none 0 0] 27) := ⟨_, rfl⟩
          have x2 : Ext y1 y2 := by rw [hy]; exact (Ext.refl _).alloc _
          have HZe2 : Hid (y2.heap[y1.heap.size]? = some (.cells #[.string ⟨#[]⟩, .int .i64 0, .int .i64 0, .int .i64 0, .int .i64 0, .int .i64 0, .int .i64 0, .int .i64 0, .int .i64 0, .slice none 0 0, .int .i64 0, .int .i64 0, .int .i64 0, .slice none 0 0] 27 (0, 0))) := by rw [hy]; exact heap_new _ _
          have HGe : Hid (U4.heap.size ≤ y1.heap.size) := Y1.out.size
          rw [← hy]
          clear hy
          have Y2 := Lib.hid (Y1.out.trans x2)
          have HS2 := Lib.hid (K2.out _ Y2.out)
          have HFu2 := Lib.hid (HFu1.out.keep (w' := y2) fun k _ hk => x2.block k hk)
          have HXu2 : Hid (y1.heap.size ≤ y2.heap.size) := Nat.le_trans HXu1.out x2.size
          obtain ⟨be, hb⟩ : ∃ be, be = y1.heap.size := ⟨_, rfl⟩
          have HLue : Hid (y1.heap.size ≤ be) := by rw [hb]; exact HXu1.out
          rw [← hb] at HZe2 HGe ⊢
          clear hb x2
          refine .inl ⟨HS2.out, ?_⟩
          refine wpAnyH_all (rs := [4]) (by kernel_rfl) (by simp) ?_
          intro i hi
          obtain rfl : i = 4 := by simpa using hi
          clear hi
          unfold wpOp
          go_simp
          refine .inl ((Strengthen_anyT (fun k => k < U4.heap.size ∨ y2.heap.size ≤ k) gC (gTwo 12 gX gY) _ _ _ (HCT.out _ _ Y2.out fun k hk => .inl hk) ⟨_, rfl, HFu2.out.kids⟩ (HM.out.ext (XC.out.trans Y2.out)) (by decide) (fun k hk => .inr hk)).mono ?_)
          rintro r y3 ⟨⟨v, rfl, hv⟩, x3⟩
          have Y3 := Lib.hid (Y2.out.trans x3)
          have HS3 := Lib.hid (K2.out _ Y3.out)
          have HZe3 := Lib.hid ((x3.block _ (lt_heap HZe2.out)).trans HZe2.out)
          have HFu3 := Lib.hid (HFu2.out.keep (w' := y3) fun k _ hk => x3.block k hk)
          have HXu3 : Hid (y1.heap.size ≤ y3.heap.size) := Nat.le_trans HXu2.out x3.size
          rw [← HDD.out] at hv
          obtain ⟨a1, l1, c1, a2, l2, c2, rfl, hv1, hv2⟩ := hv
          unfold condCells
          have HFh3 : Hid (EValT (fun k => (k < U4.heap.size ∨ y2.heap.size ≤ k) ∧ k < y3.heap.size) y3 (.agg #[.int .i64 d.hyp.op, .int .i64 d.hyp.wd, .int .i64 d.hyp.n, .slice a1 l1 c1]) d.hyp) := hv1.there
          have HXh3 : Hid (y3.heap.size ≤ y3.heap.size) := Nat.le_refl _
          have HLhe : Hid (be < y2.heap.size) := lt_heap HZe2.out
          have HFg3 : Hid (EValT (fun k => (k < U4.heap.size ∨ y2.heap.size ≤ k) ∧ k < y3.heap.size) y3 (.agg #[.int .i64 d.goal.op, .int .i64 d.goal.wd, .int .i64 d.goal.n, .slice a2 l2 c2]) d.goal) := hv2.there
          have HXg3 : Hid (y3.heap.size ≤ y3.heap.size) := Nat.le_refl _
          have HLge : Hid (be < y2.heap.size) := lt_heap HZe2.out
          clear hv1 hv2
          clear x3
          refine ⟨HS3.out, ?_⟩
          refine wpAnyH_all (rs := [6]) (by kernel_rfl) (by simp) ?_
          intro i hi
          obtain rfl : i = 6 := by simpa using hi
          clear hi
          obtain ⟨⟨d0, d1, d2, d3, d4, d5, d6, d7, d8, d9, d10, d11, d12, d13⟩, f0, f1, f2, f3, f4, f5, f6, f7, f8, f9, f10, f11, f12, f13⟩ := blocks14 HZe3.out
          unfold wpOp
          go_simp
          obtain ⟨y4, hy⟩ : ∃ y4, y4 = ((((((((((((((y3).setCell ⟨be, 0, none⟩ (.string ⟨d.id.toArray⟩)).setCell ⟨be, 1, none⟩ (.int .i64 d.k1)).setCell ⟨be, 2, none⟩ (.int .i64 d.k2)).setCell ⟨be, 3, none⟩ (.int .i64 d.k3)).setCell ⟨be, 4, none⟩ (.int .i64 d.k4)).setCell ⟨be, 5, none⟩ (.int .i64 d.k5)).setCell ⟨be, 6, none⟩ (.int .i64 d.hyp.op)).setCell ⟨be, 7, none⟩ (.int .i64 d.hyp.wd)).setCell ⟨be, 8, none⟩ (.int .i64 d.hyp.n)).setCell ⟨be, 9, none⟩ (.slice a1 l1 c1)).setCell ⟨be, 10, none⟩ (.int .i64 d.goal.op)).setCell ⟨be, 11, none⟩ (.int .i64 d.goal.wd)).setCell ⟨be, 12, none⟩ (.int .i64 d.goal.n)).setCell ⟨be, 13, none⟩ (.slice a2 l2 c2) := ⟨_, rfl⟩
          rw [← hy]
          obtain ⟨k1, k2, k3⟩ := set14 hy HZe3.out
          have Y4 := Lib.hid (k3 _ Y3.out HGe.out)
          have HS4 := Lib.hid (K2.out _ Y4.out)
          have HZe4 := Lib.hid k1
          have HFu4 := Lib.hid (HFu3.out.keep (w' := y4) fun k hk _ => k2 k (by have h1 := HGe.out; have h2 := HLue.out; have h3 := hk.2; rcases hk.1 with h4 | h4 <;> omega))
          have HXu4 := HXu3
          have HFh4 := Lib.hid (HFh3.out.keep (w' := y4) fun k hk _ => k2 k (by have h1 := HGe.out; have h2 := HLhe.out; have h3 := hk.2; rcases hk.1 with h4 | h4 <;> omega))
          have HXh4 := HXh3
          have HFg4 := Lib.hid (HFg3.out.keep (w' := y4) fun k hk _ => k2 k (by have h1 := HGe.out; have h2 := HLge.out; have h3 := hk.2; rcases hk.1 with h4 | h4 <;> omega))
          have HXg4 := HXg3
          clear hy k1 k2 k3 d0 d1 d2 d3 d4 d5 d6 d7 d8 d9 d10 d11 d12 d13 f0 f1 f2 f3 f4 f5 f6 f7 f8 f9 f10 f11 f12 f13
          refine .inl ⟨HS4.out, ?_⟩
          refine wpAnyH_done (by kernel_rfl) ?_ _
          unfold onlyNormal
          go_wp2_with fail
          go_meet
          exact ⟨_, rfl, ⟨_, _, _, _, _, _, HZe4.out, HFh4.out.eVal, HFg4.out.eVal⟩, Y4.out⟩
      · unfold wpOp
        go_simp
        obtain ⟨y1, hy⟩ : ∃ y1, y1 = y0.alloc (.cells #[.string ⟨#[]⟩, .int .i64 0, .int .i64 0, .int .i64 0, .int .i64 0, .int .i64 0, .int .i64 0, .int .i64 0, .int .i64 0, .slice none 0 0, .int .i64 0, .int .i64 0, .int .i64 0, .slice none 0 0] 27) := ⟨_, rfl⟩
        have x1 : Ext y0 y1 := by rw [hy]; exact (Ext.refl _).alloc _
        have HZe1 : Hid (y1.heap[y0.heap.size]? = some (.cells #[.string ⟨#[]⟩, .int .i64 0, .int .i64 0, .int .i64 0, .int .i64 0, .int .i64 0, .int .i64 0, .int .i64 0, .int .i64 0, .slice none 0 0, .int .i64 0, .int .i64 0, .int .i64 0, .slice none 0 0] 27 (0, 0))) := by rw [hy]; exact heap_new _ _
        have HGe : Hid (U4.heap.size ≤ y0.heap.size) := Y0.out.size
        rw [← hy]
        clear hy
        have Y1 := Lib.hid (Y0.out.trans x1)
        have HS1 := Lib.hid (K2.out _ Y1.out)
        obtain ⟨be, hb⟩ : ∃ be, be = y0.heap.size := ⟨_, rfl⟩
        rw [← hb] at HZe1 HGe ⊢
        clear hb x1
        refine .inl ⟨HS1.out, ?_⟩
        refine wpAnyH_all (rs := [3]) (by kernel_rfl) (by simp) ?_
        intro i hi
        obtain rfl : i = 3 := by simpa using hi
        clear hi
        unfold wpOp
        go_simp
        refine .inl ((RTwoT_any 12 1 gX gY rfl rfl _ _ _ (leafV _ _ _ _) (leafV _ _ _ _)).mono ?_)
        rintro r y2 ⟨⟨v, rfl, hv⟩, x2⟩
        have Y2 := Lib.hid (Y1.out.trans x2)
        have HS2 := Lib.hid (K2.out _ Y2.out)
        have HZe2 := Lib.hid ((x2.block _ (lt_heap HZe1.out)).trans HZe1.out)
        obtain ⟨ua, un, uc, rfl, hk⟩ := hv.shape
        clear hv
        have HFu2 : Hid (KidsT (fun k => (k < U4.heap.size ∨ y1.heap.size ≤ k) ∧ k < y2.heap.size) y2 (.slice ua un uc) [gX, gY]) := hk.there.mono fun k hk => ⟨.inr hk.1, hk.2⟩
        have HXu2 : Hid (y2.heap.size ≤ y2.heap.size) := Nat.le_refl _
        have HLue : Hid (be < y1.heap.size) := lt_heap HZe1.out
        clear hk
        clear x2
        refine ⟨HS2.out, ?_⟩
        refine wpAnyH_all (rs := [4]) (by kernel_rfl) (by simp) ?_
        intro i hi
        obtain rfl : i = 4 := by simpa using hi
        clear hi
        unfold wpOp
        go_simp
        refine .inl ((Strengthen_anyT (fun k => k < U4.heap.size ∨ y2.heap.size ≤ k) gC (gTwo 12 gX gY) _ _ _ (HCT.out _ _ Y2.out fun k hk => .inl hk) ⟨_, rfl, HFu2.out.kids⟩ (HM.out.ext (XC.out.trans Y2.out)) (by decide) (fun k hk => .inr hk)).mono ?_)
        rintro r y3 ⟨⟨v, rfl, hv⟩, x3⟩
        have Y3 := Lib.hid (Y2.out.trans x3)
        have HS3 := Lib.hid (K2.out _ Y3.out)
        have HZe3 := Lib.hid ((x3.block _ (lt_heap HZe2.out)).trans HZe2.out)
        have HFu3 := Lib.hid (HFu2.out.keep (w' := y3) fun k _ hk => x3.block k hk)
        have HXu3 : Hid (y2.heap.size ≤ y3.heap.size) := Nat.le_trans HXu2.out x3.size
        rw [← HDD.out] at hv
        obtain ⟨a1, l1, c1, a2, l2, c2, rfl, hv1, hv2⟩ := hv
        unfold condCells
        have HFh3 : Hid (EValT (fun k => (k < U4.heap.size ∨ y2.heap.size ≤ k) ∧ k < y3.heap.size) y3 (.agg #[.int .i64 d.hyp.op, .int .i64 d.hyp.wd, .int .i64 d.hyp.n, .slice a1 l1 c1]) d.hyp) := hv1.there
        have HXh3 : Hid (y3.heap.size ≤ y3.heap.size) := Nat.le_refl _
        have HLhe : Hid (be < y2.heap.size) := lt_heap HZe2.out
        have HFg3 : Hid (EValT (fun k => (k < U4.heap.size ∨ y2.heap.size ≤ k) ∧ k < y3.heap.size) y3 (.agg #[.int .i64 d.goal.op, .int .i64 d.goal.wd, .int .i64 d.goal.n, .slice a2 l2 c2]) d.goal) := hv2.there
        have HXg3 : Hid (y3.heap.size ≤ y3.heap.size) := Nat.le_refl _
        have HLge : Hid (be < y2.heap.size) := lt_heap HZe2.out
        clear hv1 hv2
        clear x3
        refine ⟨HS3.out, ?_⟩
        refine wpAnyH_all (rs := [6]) (by kernel_rfl) (by simp) ?_
        intro i hi
        obtain rfl : i = 6 := by simpa using hi
        clear hi
        obtain ⟨⟨d0, d1, d2, d3, d4, d5, d6, d7, d8, d9, d10, d11, d12, d13⟩, f0, f1, f2, f3, f4, f5, f6, f7, f8, f9, f10, f11, f12, f13⟩ := blocks14 HZe3.out
        unfold wpOp
        go_simp
        obtain ⟨y4, hy⟩ : ∃ y4, y4 = ((((((((((((((y3).setCell ⟨be, 0, none⟩ (.string ⟨d.id.toArray⟩)).setCell ⟨be, 1, none⟩ (.int .i64 d.k1)).setCell ⟨be, 2, none⟩ (.int .i64 d.k2)).setCell ⟨be, 3, none⟩ (.int .i64 d.k3)).setCell ⟨be, 4, none⟩ (.int .i64 d.k4)).setCell ⟨be, 5, none⟩ (.int .i64 d.k5)).setCell ⟨be, 6, none⟩ (.int .i64 d.hyp.op)).setCell ⟨be, 7, none⟩ (.int .i64 d.hyp.wd)).setCell ⟨be, 8, none⟩ (.int .i64 d.hyp.n)).setCell ⟨be, 9, none⟩ (.slice a1 l1 c1)).setCell ⟨be, 10, none⟩ (.int .i64 d.goal.op)).setCell ⟨be, 11, none⟩ (.int .i64 d.goal.wd)).setCell ⟨be, 12, none⟩ (.int .i64 d.goal.n)).setCell ⟨be, 13, none⟩ (.slice a2 l2 c2) := ⟨_, rfl⟩
        rw [← hy]
        obtain ⟨k1, k2, k3⟩ := set14 hy HZe3.out
        have Y4 := Lib.hid (k3 _ Y3.out HGe.out)
        have HS4 := Lib.hid (K2.out _ Y4.out)
        have HZe4 := Lib.hid k1
        have HFu4 := Lib.hid (HFu3.out.keep (w' := y4) fun k hk _ => k2 k (by have h1 := HGe.out; have h2 := HLue.out; have h3 := hk.2; rcases hk.1 with h4 | h4 <;> omega))
        have HXu4 := HXu3
        have HFh4 := Lib.hid (HFh3.out.keep (w' := y4) fun k hk _ => k2 k (by have h1 := HGe.out; have h2 := HLhe.out; have h3 := hk.2; rcases hk.1 with h4 | h4 <;> omega))
        have HXh4 := HXh3
        have HFg4 := Lib.hid (HFg3.out.keep (w' := y4) fun k hk _ => k2 k (by have h1 := HGe.out; have h2 := HLge.out; have h3 := hk.2; rcases hk.1 with h4 | h4 <;> omega))
        have HXg4 := HXg3
        clear hy k1 k2 k3 d0 d1 d2 d3 d4 d5 d6 d7 d8 d9 d10 d11 d12 d13 f0 f1 f2 f3 f4 f5 f6 f7 f8 f9 f10 f11 f12 f13
        refine .inl ⟨HS4.out, ?_⟩
        refine wpAnyH_done (by kernel_rfl) ?_ _
        unfold onlyNormal
        go_wp2_with fail
        go_meet
        exact ⟨_, rfl, ⟨_, _, _, _, _, _, HZe4.out, HFh4.out.eVal, HFg4.out.eVal⟩, Y4.out⟩
    case rest =>
      obtain ⟨bd, rfl, hI, x1⟩ := hcut
      generalize wc = U5 at *
      obtain ⟨da, dl, dc, ea, el, ec, hat, he1, he2⟩ := hI
      have HAD := Lib.hid hat; have HDH := Lib.hid he1
      replace HBn := Lib.hid ((x1.block _ (lt_heap HBn.out)).trans HBn.out); replace HBX := Lib.hid ((x1.block _ (lt_heap HBX.out)).trans HBX.out); replace HBY := Lib.hid ((x1.block _ (lt_heap HBY.out)).trans HBY.out); replace HBO := Lib.hid ((x1.block _ (lt_heap HBO.out)).trans HBO.out); replace HAC := Lib.hid ((x1.block _ (lt_heap HAC.out)).trans HAC.out)
      replace XC := Lib.hid (XC.out.trans x1)
      have HCV : Hid (∀ w', Ext U5 w' → CondV w' (.agg #[.string ⟨#[97]⟩, .int .i64 0, .int .i64 0, .int .i64 0, .int .i64 0, .int .i64 0, .int .i64 11, .int .i64 1, .int .i64 0, .slice ha hl hcp, .int .i64 1, .int .i64 1, .int .i64 1, .slice ga gl gc]) gC) := fun w' h => (HCT.out (fun _ => True) w' (x1.trans h) fun _ _ => trivial).condV
      clear x1 hat he1 he2 K2 HCT HEH HEG
      have q0 : U5.cell? ⟨bd, 0, none⟩ = some (.string ⟨#[97]⟩) := by have := HAD.out.id; rw [HD1.out] at this; exact this
      obtain ⟨q6, q7, q8, q9⟩ := HAD.out.hyp
      go_wp2_with fail
      refine (textE HD2.out (Text_any d.hyp _ _ HDH.out (HM.out.ext XC.out) (HN.out.ext XC.out) (HP.out.ext XC.out))).mono ?_
      rintro r w1 ⟨rfl, x1⟩
      replace HBn := Lib.hid ((x1.block _ (lt_heap HBn.out)).trans HBn.out); replace HBX := Lib.hid ((x1.block _ (lt_heap HBX.out)).trans HBX.out); replace HBY := Lib.hid ((x1.block _ (lt_heap HBY.out)).trans HBY.out); replace HBO := Lib.hid ((x1.block _ (lt_heap HBO.out)).trans HBO.out); replace HAC := Lib.hid ((x1.block _ (lt_heap HAC.out)).trans HAC.out)
      replace XC := Lib.hid (XC.out.trans x1)
      have X5 := Lib.hid x1
      clear x1 q0 q6 q7 q8 q9
      obtain ⟨d0, d1, d2, d3, d4, d5, d6, d7, d8, d9, d10, d11, d12, d13⟩ := CondAt.all HAC.out
      obtain ⟨p0, p1, p2, p3⟩ := blocks4 HBX.out
      go_wp2_with fail
      refine (Strengthen_any gC gX _ _ w1 (HCV.out _ X5.out) (leafV _ _ _ _) (HM.out.ext XC.out) (by decide)).mono ?_
      rintro r w2 ⟨⟨v, rfl, hv⟩, x1⟩
      obtain ⟨dd, hdd⟩ : ∃ dd, dd = strC gC gX := ⟨_, rfl⟩
      rw [← hdd] at hv
      have hid : dd.id = [] := by rw [hdd]; exact hd_d3
      obtain ⟨a1, l1, c1, a2, l2, c2, rfl, _, _⟩ := hv
      unfold condCells
      rw [hid]
      replace HBn := Lib.hid ((x1.block _ (lt_heap HBn.out)).trans HBn.out); replace HBX := Lib.hid ((x1.block _ (lt_heap HBX.out)).trans HBX.out); replace HBY := Lib.hid ((x1.block _ (lt_heap HBY.out)).trans HBY.out); replace HBO := Lib.hid ((x1.block _ (lt_heap HBO.out)).trans HBO.out); replace HAC := Lib.hid ((x1.block _ (lt_heap HAC.out)).trans HAC.out)
      replace XC := Lib.hid (XC.out.trans x1); replace X5 := Lib.hid (X5.out.trans x1)
      clear x1 hid hdd d0 d1 d2 d3 d4 d5 d6 d7 d8 d9 d10 d11 d12 d13 p0 p1 p2 p3
      obtain ⟨d0, d1, d2, d3, d4, d5, d6, d7, d8, d9, d10, d11, d12, d13⟩ := CondAt.all HAC.out
      have hfd := fieldC ⟨#[]⟩ (.int .i64 dd.k1) (.int .i64 dd.k2) (.int .i64 dd.k3) (.int .i64 dd.k4) (.int .i64 dd.k5) (.int .i64 dd.hyp.op) (.int .i64 dd.hyp.wd) (.int .i64 dd.hyp.n) (.slice a1 l1 c1) (.int .i64 dd.goal.op) (.int .i64 dd.goal.wd) (.int .i64 dd.goal.n) (.slice a2 l2 c2)
      obtain ⟨g0, g1, g2, g3, g4, g5, g6, g7, g8, g9, g10, g11, g12, g13⟩ := CondAt.all (w := w2.alloc (.cells #[.string ⟨#[]⟩, .int .i64 2, .int .i64 0, .int .i64 0, .bool false, .int .i64 0, .string ⟨#[]⟩, .int .i64 2, .int .i64 0, .int .i64 0, .bool false, .int .i64 0] 57)) ((((Ext.refl w2).alloc _).block _ (lt_heap HAC.out)).trans HAC.out)
      go_wp2_with fail
      clear hfd g0 g1 g2 g3 g4 g5 g6 g7 g8 g9 g10 g11 g12 g13
      obtain ⟨V, hV⟩ : ∃ V, V = w2.alloc (.cells #[.string ⟨#[]⟩, .int .i64 2, .int .i64 0, .int .i64 0, .bool false, .int .i64 0, .string ⟨#[]⟩, .int .i64 2, .int .i64 0, .int .i64 0, .bool false, .int .i64 0] 57) := ⟨_, rfl⟩
      have x1 : Ext w2 V := by rw [hV]; exact (Ext.refl _).alloc _
      have hc := cells_twoH (W := V) (B := w2.heap.size) (by rw [hV]; exact heap_new _ _)
      rw [← hV]
      clear hV
      have hcf := hd_c1
      simp only [Bool.and_eq_true] at hcf
      refine (Dec_yes (c := gC) (cells := cellsN) (condF_form hcf.1) (condF_form hcf.2) (by have := hd_c2; omega) hd_v (by decide) _ _ V (HCV.out _ (X5.out.trans x1)) hc (HM.out.ext (XC.out.trans x1))).mono ?_
      rintro r w3 ⟨rfl, x2⟩
      have x3 := x1.trans x2
      replace HBn := Lib.hid ((x3.block _ (lt_heap HBn.out)).trans HBn.out); replace HBX := Lib.hid ((x3.block _ (lt_heap HBX.out)).trans HBX.out); replace HBY := Lib.hid ((x3.block _ (lt_heap HBY.out)).trans HBY.out); replace HBO := Lib.hid ((x3.block _ (lt_heap HBO.out)).trans HBO.out)
      replace XC := Lib.hid (XC.out.trans x3)
      clear x1 x2 x3 hc hcf d0 d1 d2 d3 d4 d5 d6 d7 d8 d9 d10 d11 d12 d13
      go_wp2_with fail
      obtain ⟨V, hV⟩ : ∃ V, Boxes3 w3 V (.cells #[.int .i64 0] 3) (.cells #[.int .i64 1] 3) (.cells #[.int .i64 0, .int .i64 1] 3) := ⟨_, Boxes3.mk' _ _ _ _⟩
      rw [← hV.eq]
      have x1 := hV.ext
      have i1 : IntsC V (.slice (some ⟨w3.heap.size, 0, none⟩) 1 1) [0] := ⟨ints_row hV.b0 rfl (by omega), _, _, rfl, Nat.le_refl _⟩
      have i2 : IntsC V (.slice (some ⟨w3.heap.size + 1, 0, none⟩) 1 1) [1] := ⟨ints_row hV.b1 rfl (by omega), _, _, rfl, Nat.le_refl _⟩
      have i3 : IntsC V (.slice (some ⟨w3.heap.size + 1 + 1, 0, none⟩) 2 2) [0, 1] := ⟨ints_row hV.b2 rfl (by omega), _, _, rfl, Nat.le_refl _⟩
      refine (Expr_any [0] [1] [0, 1] _ V ⟨_, _, _, rfl, i1, i2, i3⟩).mono ?_
      rintro r w4 ⟨⟨v, rfl, hv⟩, x2⟩
      rw [hd_e] at hv
      obtain ⟨sa, sn, sc, rfl, hk⟩ := hv.shape
      have x3 := x1.trans x2
      replace HBn := Lib.hid ((x3.block _ (lt_heap HBn.out)).trans HBn.out); replace HBX := Lib.hid ((x3.block _ (lt_heap HBX.out)).trans HBX.out); replace HBY := Lib.hid ((x3.block _ (lt_heap HBY.out)).trans HBY.out); replace HBO := Lib.hid ((x3.block _ (lt_heap HBO.out)).trans HBO.out)
      replace XC := Lib.hid (XC.out.trans x3)
      have HSV : Hid (EVal w4 (.agg #[.int .i64 1, .int .i64 1, .int .i64 1, .slice sa sn sc]) gOne) := ⟨_, rfl, hk.t.kids⟩
      clear x1 x2 x3 hv hk i1 i2 i3 hV
      go_upto_region 12 with fail
      obtain ⟨V, hV⟩ : ∃ V, V = w4.alloc (.cells #[.int .i64 gOne.op, .int .i64 gOne.wd, .int .i64 gOne.n, .slice sa sn sc] 25) := ⟨_, rfl⟩
      have hb : V.heap[w4.heap.size]? = some (.cells #[.int .i64 1, .int .i64 1, .int .i64 1, .slice sa sn sc] 25 (0, 0)) := by rw [hV]; exact heap_new _ _
      have x1 : Ext w4 V := by rw [hV]; exact (Ext.refl _).alloc _
      rw [← hV]
      clear hV
      replace HSV := Lib.hid (HSV.out.ext x1)
      replace HBn := Lib.hid ((x1.block _ (lt_heap HBn.out)).trans HBn.out); replace HBX := Lib.hid ((x1.block _ (lt_heap HBX.out)).trans HBX.out); replace HBY := Lib.hid ((x1.block _ (lt_heap HBY.out)).trans HBY.out); replace HBO := Lib.hid ((x1.block _ (lt_heap HBO.out)).trans HBO.out)
      replace XC := Lib.hid (XC.out.trans x1)
      clear x1
      obtain ⟨s0, s1, s2, s3⟩ := blocks4 hb
      obtain ⟨o0, o1, o2, o3⟩ := blocks4 HBn.out
      go_wp2_with fail
      refine (RSame_any gOne.size gOne gOne _ _ V (Nat.le_refl _) HSV.out (leafV _ _ _ _)).mono ?_
      rintro r w5 ⟨rfl, x1⟩
      rw [(eqB_iff gOne gOne).2 rfl]
      replace HBn := Lib.hid ((x1.block _ (lt_heap HBn.out)).trans HBn.out); replace HBX := Lib.hid ((x1.block _ (lt_heap HBX.out)).trans HBX.out); replace HBY := Lib.hid ((x1.block _ (lt_heap HBY.out)).trans HBY.out); replace HBO := Lib.hid ((x1.block _ (lt_heap HBO.out)).trans HBO.out)
      replace XC := Lib.hid (XC.out.trans x1)
      clear x1 s0 s1 s2 s3 o0 o1 o2 o3 hb
      obtain ⟨p0, p1, p2, p3⟩ := blocks4 HBX.out
      obtain ⟨o0, o1, o2, o3⟩ := blocks4 HBn.out
      go_wp2_with fail
      refine (text_eq hd_t5 (text_any gX gOne _ _ w5 (leafV _ _ _ _) (leafV _ _ _ _) (HM.out.ext XC.out) (HN.out.ext XC.out) (HP.out.ext XC.out) (fun _ _ => by have := hd_s5; unfold bitsH at this; omega))).mono ?_
      rintro r w6 ⟨rfl, x1⟩
      replace XC := Lib.hid (XC.out.trans x1)
      clear x1 p0 p1 p2 p3 o0 o1 o2 o3
      go_wp2_with fail
      refine bodyPost_ret (v := .bool true) (by simp [results, Tryz.results8, go_sem]) rfl ⟨rfl, XC.out⟩
end Go.Proofs.YtlcgbdjmlnjhcaaGreatDoor
namespace Go.Proofs.YtlcgbdjmlnjhcaaGreatDoor
open Go.RowKit Go.WideShapes Go.ChangeShapes
set_option maxRecDepth 100000

section
variable {H : Type} {enc : TypeId × Value → H} {w : World} {base : Nat} {spare : Nat → Bool} {held : Bool}

theorem cellsInt : Tryz.prog.cellsOf 3 = 1 := by kernel_rfl
theorem cellsExpr : Tryz.prog.cellsOf 25 = 4 := by kernel_rfl
theorem cellsKids : Tryz.prog.cellsOf 23 = 1 := by kernel_rfl

/-- An address that reads has no spot. -/
theorem spot_none {a : Addr} {n : Nat} {cs : List Value} (h : w.cells? base a n = some cs) (hn : 0 < n) : a.spot = none := by
  obtain ⟨_, hl, hc⟩ := World.cells?_some h
  have h0 := hc 0 hn
  rw [show a.add 0 = a from rfl] at h0
  cases hs : a.spot with
  | none => rfl
  | some k =>
    have : cs[0]? ≠ none := by rw [List.getElem?_eq_getElem (by omega)]; simp
    rw [← h0] at this
    exfalso; apply this
    unfold World.cell?
    split <;> simp [hs]
theorem add_at (b o k : Nat) : (Addr.mk b o none).add k = ⟨b, o + k, none⟩ := by
  unfold Addr.add; split
  · next h => subst h; rfl
  · rfl

/-- A slice that reads, its elements of sz cells. -/
theorem slice_at {α : Type} [Inhabited α] {t e : TypeId} {sz fuel : Nat} {cs : List Value} {x : DataW H × List MemPlace} {Q : World → Nat → Nat → α → Prop} (ht : Tryz.prog.underlying t = some (.slice e)) (hz : Tryz.prog.cellsOf e = sz) (hz0 : 0 < sz)
    (hQ : ∀ (n : Nat), n < fuel → ∀ (cs' : List Value) (y : DataW H × List MemPlace) (b o : Nat), DataW.trod enc Tryz.prog w base spare held n e cs' = some y → cs'.length = sz → (∀ i, i < sz → w.cell? ⟨b, o + i, none⟩ = cs'[i]?) → ∃ a, Q w b o a)
    (h : DataW.trod enc Tryz.prog w base spare held fuel t cs = some x) : ∃ (v : Value) (l : List α), cs = [v] ∧ SliceAt sz Q w v l := by
  rcases DataW.trod_slice ht h with ⟨rfl, _⟩ | ⟨a, len, cap, elems, rest, n, rfl, rfl, rfl, hb, hl, hm, hlen, hel, _, _⟩
  · exact ⟨_, [], rfl, .inl ⟨⟨_, _, rfl⟩, rfl⟩⟩
  · rw [hz] at hel
    rcases Nat.eq_zero_or_pos len with h0 | h0
    · subst h0; exact ⟨_, [], rfl, .inl ⟨⟨_, _, rfl⟩, rfl⟩⟩
    have one : ∀ i, i < len → ∃ cs', w.cells? base (a.add (i * sz)) sz = some cs' ∧ ∃ y, DataW.trod enc Tryz.prog w base spare held n e cs' = some y := fun i hi => by
      have := hel i hi
      rw [List.getElem?_eq_getElem (by omega)] at this
      obtain ⟨cs', h1, h2⟩ := Option.bind_eq_some_iff.1 this
      exact ⟨cs', h1, _, h2⟩
    obtain ⟨cs0, h00, _⟩ := one 0 h0
    rw [Nat.zero_mul] at h00
    have hs := spot_none h00 hz0
    obtain ⟨b, o, sp⟩ := a
    have hs : sp = none := hs
    subst hs
    have key : ∀ i, i < len → ∃ q, Q w b (o + i * sz) q := fun i hi => by
      obtain ⟨cs', h1, y, h2⟩ := one i hi
      obtain ⟨_, hcl, hc⟩ := World.cells?_some h1
      refine hQ n (by omega) cs' y b (o + i * sz) h2 hcl fun j hj => ?_
      rw [← hc j hj, Deep.add_add, add_at, Nat.add_assoc]
    obtain ⟨f, hf⟩ := Deep.choose_lt key
    refine ⟨_, (List.range len).map f, rfl, .inr ⟨b, o, cap, by simp, ?_, fun i hi => ?_⟩⟩
    · have : maxLen ≤ 9223372036854775807 := by decide
      simp; omega
    · simp at hi; simpa using hf i hi

instance : Inhabited E := ⟨.mk 0 0 0 []⟩
instance : Inhabited CellD := ⟨⟨⟨#[]⟩, 0, 0, 0, false, 0⟩⟩

theorem len4 {cs : List Value} (h : cs.length = 4) : ∃ a b c d, cs = [a, b, c, d] := by
  match cs, h with
  | [a, b, c, d], _ => exact ⟨a, b, c, d, rfl⟩
theorem len5 {cs : List Value} (h : cs.length = 5) : ∃ a b c d e, cs = [a, b, c, d, e] := by
  match cs, h with
  | [a, b, c, d, e], _ => exact ⟨a, b, c, d, e, rfl⟩
theorem len6 {cs : List Value} (h : cs.length = 6) : ∃ a b c d e f, cs = [a, b, c, d, e, f] := by
  match cs, h with
  | [a, b, c, d, e, f], _ => exact ⟨a, b, c, d, e, f, rfl⟩

/-- The cells of what reads as an expression. -/
theorem open_e : ∀ (fuel : Nat) (cs : List Value) (x : DataW H × List MemPlace), DataW.trod enc Tryz.prog w base spare held fuel 25 cs = some x →
    ∃ (e : E) (kv : Value), cs = [.int .i64 e.op, .int .i64 e.wd, .int .i64 e.n, kv] ∧ Kids w kv e.kids := by
  intro fuel
  induction fuel using Nat.strongRecOn with
  | ind fuel ih =>
    intro cs x h
    obtain ⟨xs, n, rfl, rfl, hl, hlen, hf⟩ := DataW.trod_struct Tryz.underlying25 h
    rw [cellsExpr] at hl
    obtain ⟨v0, v1, v2, v3, rfl⟩ := len4 hl
    have h0 : DataW.trod enc Tryz.prog w base spare held n 3 (List.take (Tryz.prog.cellsOf 3) (List.drop 0 [v0, v1, v2, v3])) = xs[0]? := hf 0 _ rfl
    have h1 : DataW.trod enc Tryz.prog w base spare held n 3 (List.take (Tryz.prog.cellsOf 3) (List.drop 1 [v0, v1, v2, v3])) = xs[1]? := hf 1 _ rfl
    have h2 : DataW.trod enc Tryz.prog w base spare held n 3 (List.take (Tryz.prog.cellsOf 3) (List.drop 2 [v0, v1, v2, v3])) = xs[2]? := hf 2 _ rfl
    have h3 : DataW.trod enc Tryz.prog w base spare held n 23 (List.take (Tryz.prog.cellsOf 23) (List.drop 3 [v0, v1, v2, v3])) = xs[3]? := hf 3 _ rfl
    simp only [cellsInt, cellsKids, List.drop, List.take] at h0 h1 h2 h3
    match xs, (show xs.length = 4 from hlen) with
    | [y0, y1, y2, y3], _ =>
    simp only [List.getElem?_cons_zero, List.getElem?_cons_succ] at h0 h1 h2 h3
    obtain ⟨op, e0, _, _⟩ := DataW.trod_int Tryz.underlying3 h0
    obtain ⟨wd, e1, _, _⟩ := DataW.trod_int Tryz.underlying3 h1
    obtain ⟨nn, e2, _, _⟩ := DataW.trod_int Tryz.underlying3 h2
    obtain ⟨kv, ks, e3, hk⟩ := slice_at (Q := IsE) Tryz.underlying23 cellsExpr (by omega) (fun m hm cs' y b o ht hcl hc => by
      obtain ⟨e, kv, rfl, hk⟩ := ih m (by omega) cs' y ht
      exact ⟨e, IsE.of_cells (hc 0 (by omega)) (hc 1 (by omega)) (hc 2 (by omega)) (hc 3 (by omega)) hk⟩) h3
    simp only [List.cons.injEq, and_true] at e0 e1 e2 e3
    subst e0 e1 e2 e3
    exact ⟨.mk op wd nn ks, _, rfl, hk⟩

theorem open_E {r : Reach} {b0 : Nat} {v : Value} {d : DataW H} {p : List MemPlace} (hv : Value.okWide Tryz.prog w r b0 25 v) (h : DataW.Trod enc Tryz.prog w base spare held 25 v d p) : ∃ e, EVal w v e := by
  obtain ⟨cs, rfl, _⟩ := okWide_struct Tryz.underlying25 hv
  obtain ⟨fuel, hf⟩ := h
  obtain ⟨e, kv, hc, hk⟩ := open_e fuel _ _ hf
  refine ⟨e, kv, ?_, hk⟩
  obtain ⟨l⟩ := cs
  simp only [Value.cells] at hc
  rw [show l = _ from hc]

/-- A value of a type of one cell. -/
theorem one_cell {v u : Value} {r : Reach} {b0 : Nat} {t : TypeId} {e : TypeId} (ht : Tryz.prog.underlying t = some (.slice e)) (hv : Value.okWide Tryz.prog w r b0 t v) (h : v.cells.toList = [u]) : v = u := by
  simp only [Value.okWide, ht, Cell.okWide, Cell.ok] at hv
  split at hv
  all_goals first | (simp [Value.cells] at h; exact h) | exact hv.elim | skip
theorem open_Ints {r : Reach} {b0 : Nat} {v : Value} {d : DataW H} {p : List MemPlace} (hv : Value.okWide Tryz.prog w r b0 35 v) (h : DataW.Trod enc Tryz.prog w base spare held 35 v d p) : ∃ l, Ints w v l := by
  obtain ⟨fuel, hf⟩ := h
  obtain ⟨u, l, hc, hl⟩ := slice_at (Q := IntAt) Tryz.underlying35 cellsInt (by omega) (fun m hm cs' y b o ht hcl hc => by
    obtain ⟨z, rfl, _, _⟩ := DataW.trod_int Tryz.underlying3 ht
    exact ⟨z, hc 0 (by omega)⟩) hf
  rw [one_cell Tryz.underlying35 hv hc]; exact ⟨l, hl⟩
theorem open_Kids {r : Reach} {b0 : Nat} {v : Value} {d : DataW H} {p : List MemPlace} (hv : Value.okWide Tryz.prog w r b0 23 v) (h : DataW.Trod enc Tryz.prog w base spare held 23 v d p) : ∃ l, Kids w v l := by
  obtain ⟨fuel, hf⟩ := h
  obtain ⟨u, l, hc, hl⟩ := slice_at (Q := IsE) Tryz.underlying23 cellsExpr (by omega) (fun m hm cs' y b o ht hcl hc => by
    obtain ⟨e, kv, rfl, hk⟩ := open_e m cs' y ht
    exact ⟨e, IsE.of_cells (hc 0 (by omega)) (hc 1 (by omega)) (hc 2 (by omega)) (hc 3 (by omega)) hk⟩) hf
  rw [one_cell Tryz.underlying23 hv hc]; exact ⟨l, hl⟩
theorem cellsStr : Tryz.prog.cellsOf 9 = 1 := by kernel_rfl
theorem cellsBool : Tryz.prog.cellsOf 4 = 1 := by kernel_rfl
theorem cellsCell : Tryz.prog.cellsOf 57 = 6 := by kernel_rfl
theorem open_Cells {r : Reach} {b0 : Nat} {v : Value} {d : DataW H} {p : List MemPlace} (hv : Value.okWide Tryz.prog w r b0 22 v) (h : DataW.Trod enc Tryz.prog w base spare held 22 v d p) : ∃ l, Cells w v l := by
  obtain ⟨fuel, hf⟩ := h
  obtain ⟨u, l, hc, hl⟩ := slice_at (Q := CellAt) Tryz.underlying22 cellsCell (by omega) (fun m hm cs' y b o ht hcl hc => by
    obtain ⟨xs, n, rfl, rfl, hl, hlen, hg⟩ := DataW.trod_struct Tryz.underlying57 ht
    obtain ⟨v0, v1, v2, v3, v4, v5, rfl⟩ := len6 hcl
    have h0 : DataW.trod enc Tryz.prog w base spare held n 9 (List.take (Tryz.prog.cellsOf 9) (List.drop 0 [v0, v1, v2, v3, v4, v5])) = xs[0]? := hg 0 _ rfl
    have h1 : DataW.trod enc Tryz.prog w base spare held n 3 (List.take (Tryz.prog.cellsOf 3) (List.drop 1 [v0, v1, v2, v3, v4, v5])) = xs[1]? := hg 1 _ rfl
    have h2 : DataW.trod enc Tryz.prog w base spare held n 3 (List.take (Tryz.prog.cellsOf 3) (List.drop 2 [v0, v1, v2, v3, v4, v5])) = xs[2]? := hg 2 _ rfl
    have h3 : DataW.trod enc Tryz.prog w base spare held n 3 (List.take (Tryz.prog.cellsOf 3) (List.drop 3 [v0, v1, v2, v3, v4, v5])) = xs[3]? := hg 3 _ rfl
    have h4 : DataW.trod enc Tryz.prog w base spare held n 4 (List.take (Tryz.prog.cellsOf 4) (List.drop 4 [v0, v1, v2, v3, v4, v5])) = xs[4]? := hg 4 _ rfl
    have h5 : DataW.trod enc Tryz.prog w base spare held n 3 (List.take (Tryz.prog.cellsOf 3) (List.drop 5 [v0, v1, v2, v3, v4, v5])) = xs[5]? := hg 5 _ rfl
    simp only [cellsInt, cellsStr, cellsBool, List.drop, List.take] at h0 h1 h2 h3 h4 h5
    match xs, (show xs.length = 6 from hlen) with
    | [y0, y1, y2, y3, y4, y5], _ =>
    simp only [List.getElem?_cons_zero, List.getElem?_cons_succ] at h0 h1 h2 h3 h4 h5
    obtain ⟨s, e0, _, _⟩ := DataW.trod_string Tryz.underlying9 h0
    obtain ⟨z1, e1, _, _⟩ := DataW.trod_int Tryz.underlying3 h1
    obtain ⟨z2, e2, _, _⟩ := DataW.trod_int Tryz.underlying3 h2
    obtain ⟨z3, e3, _, _⟩ := DataW.trod_int Tryz.underlying3 h3
    obtain ⟨z4, e4, _⟩ := DataW.trod_bool Tryz.underlying4 h4
    obtain ⟨z5, e5, _, _⟩ := DataW.trod_int Tryz.underlying3 h5
    simp only [List.cons.injEq, and_true] at e0 e1 e2 e3 e4 e5
    subst e0 e1 e2 e3 e4 e5
    exact ⟨⟨s, z1, z2, z3, z4, z5⟩, hc 0 (by omega), hc 1 (by omega), hc 2 (by omega), hc 3 (by omega), hc 4 (by omega), hc 5 (by omega)⟩) hf
  rw [one_cell Tryz.underlying22 hv hc]; exact ⟨l, hl⟩
end
end Go.Proofs.YtlcgbdjmlnjhcaaGreatDoor
namespace Go.Proofs.YtlcgbdjmlnjhcaaGreatDoor
open Go.ChangeShapes Go.WideShapes Go.ChangeAt Go.RowKit
set_option maxRecDepth 100000

theorem ownK : ownKnob Tryz.prog.godebug = none := by kernel_rfl
theorem laidOutP : laidOutB Tryz.prog = true := by kernel_rfl

/-- A law's answer: true; the arguments read as before. -/
def LawSpec (s : ChangeSpec) (k : Nat) : Prop := s.vars = [] ∧ ∀ (H : Type) (ds : List (DataW H)), ds.length = k → s.fn H ds = { results := [.lit (.bool true)], args := ds }

section
variable {H : Type} {enc : TypeId × Value → H}
theorem trodAll_len {P : Program} {w : World} {base : Nat} {sp : Nat → Bool} {hd : Bool} : ∀ {ts : List TypeId} {vs : List Value} {ds : List (DataW H)} {ps : List MemPlace}, DataW.TrodAll enc P w base sp hd ts vs ds ps → ds.length = ts.length ∧ vs.length = ts.length
  | [], [], [], _, _ => ⟨rfl, rfl⟩
  | _ :: _, _ :: _, _ :: _, _, ⟨_, _, _, h, _⟩ => by
    have := trodAll_len h
    simp [this]
  | [], [], _ :: _, _, h => h.elim
  | [], _ :: _, _, _, h => h.elim
  | _ :: _, [], _, _, h => h.elim
  | _ :: _, _ :: _, [], _, h => h.elim
theorem trodAll_stays {W W' : World} {sp' : Nat → Bool} (hx : Ext W W') : ∀ {ts : List TypeId} {vs : List Value} {ds : List (DataW H)} {ps : List MemPlace},
    (∀ t ∈ ts, Tryz.prog.readableRec t = true ∧ t < Tryz.prog.types.size) → (∀ p ∈ ps, p.block < W.heap.size ∧ sp' p.block = true) →
    DataW.TrodAll enc Tryz.prog W 0 (fun _ => true) true ts vs ds ps → DataW.TrodAll enc Tryz.prog W' 0 sp' true ts vs ds ps
  | [], [], [], _, _, _, h => h
  | t :: _, _ :: _, _ :: _, ps, hr, hp, ⟨p, q, h1, h2, e⟩ => by
    subst e
    exact ⟨p, q, WideElems.Trod_stays laidOutP (hr t (by simp)).1 (hr t (by simp)).2 h1 (fun x hx' => Below.same hx (hp x (by simp [hx'])).1) (fun x hx' => (hp x (by simp [hx'])).2),
      trodAll_stays hx (fun t' ht' => hr t' (by simp [ht'])) (fun x hx' => hp x (by simp [hx'])) h2, rfl⟩
  | [], [], _ :: _, _, _, _, h => h.elim
  | [], _ :: _, _, _, _, _, h => h.elim
  | _ :: _, [], _, _, _, _, h => h.elim
  | _ :: _, _ :: _, [], _, _, _, h => h.elim

theorem law_post {f : Func} {s : ChangeSpec} {W W' : World} {args : Array Value} {ds gs : List (DataW H)} {before : List MemPlace} (hres : f.resultTypes = #[4]) (hs : LawSpec s f.params.size)
    (hr : ∀ t ∈ f.params.toList, Tryz.prog.readableRec t = true ∧ t < Tryz.prog.types.size) (hW : DataW.Whole enc Tryz.prog f.params.toList s.vars false W args.toList ds gs before) (hx : Ext W W') :
    s.post enc Tryz.prog f false true false false W args (.bool true) W' := by
  obtain ⟨p, q, hA, hV, rfl, hz, hn⟩ := hW
  have hV0 := hV
  rw [hs.1] at hV0
  obtain ⟨rfl, rfl⟩ := trodVars_none hV0
  have hlt : ∀ x ∈ p ++ [], x.block < W.heap.size := DataW.Whole.lt (ts := f.params.toList) (vars := s.vars) (apart := false) (vs := args.toList) (ds := ds) (gs := []) (enc := enc) (P := Tryz.prog) ⟨p, [], hA, hV, rfl, hz, hn⟩
  have hfn := hs.2 H ds (by rw [(trodAll_len hA).1]; simp)
  refine ⟨ds, [], p ++ [], [], p, [], ⟨p, [], hA, hV, rfl, hz, hn⟩, ?_, ?_, ?_, World.keptBut_mono (fun x hx => ⟨hx, .inr (by simpa using hx)⟩) (Below.frame hx (· ∈ p ++ [])), fun h => by cases h⟩
  · rw [List.append_nil, hfn, hres]; exact trodAll_cons_mk (shut_bool Tryz.underlying4 _) trodAll_mk0
  · rw [List.append_nil, hfn]; exact trodAll_stays hx hr (fun x hx' => ⟨hlt x (by simpa using hx'), by simpa using hlt x (by simpa using hx')⟩) hA
  · rw [List.append_nil, hfn, hs.1]; rfl
end

/-- An array of strings that reads as a list of strings holds them. -/
theorem cells_of_strs {H : Type} {enc : TypeId × Value → H} {P : Program} {w : World} {base : Nat} {sp : Nat → Bool} {held : Bool} {fuel : Nat} {t e : TypeId} {n : Nat} {cs : List Value} {zs : List (List UInt8)} {p : List MemPlace}
    (ht : P.underlying t = some (.array n e)) (he : P.underlying e = some .string) (hce : P.cellsOf e = 1) (hct : P.cellsOf t = n)
    (h : DataW.trod enc P w base sp held fuel t cs = some (.agg (zs.map fun z => .lit (.string z)), p)) : cs = zs.map fun z => Value.string ⟨z.toArray⟩ := by
  cases fuel with
  | zero => simp [DataW.trod] at h
  | succ fuel =>
    simp only [DataW.trod, ht, hce, hct, Nat.mul_one] at h
    split at h
    · rename_i hl
      obtain ⟨xs, hm, hx⟩ := Option.map_eq_some_iff.1 h
      have hxs : xs.map (·.1) = zs.map fun z => (DataW.lit (.string z) : DataW H) := by
        have := congrArg Prod.fst hx
        simpa using this
      have hxl : xs.length = n := by simpa using Lib.mapM_length hm
      have hzl : zs.length = n := by
        have := congrArg List.length hxs
        simp at this
        omega
      apply List.ext_getElem?
      intro i
      by_cases hi : i < n
      · obtain ⟨b, hb, hf⟩ := Lib.mapM_at hm i i (by simp [hi])
        obtain ⟨z, hc, rfl, _⟩ := DataW.trod_string he hf
        have h1 : cs[i]? = some (.string z) := by
          have := congrArg (·[0]?) hc
          simpa [List.getElem?_take, List.getElem?_drop] using this
        have h2 : (xs.map (·.1))[i]? = some (DataW.lit (.string z.data.toList) : DataW H) := by simp [hb]
        rw [hxs] at h2
        simp only [List.getElem?_map, Option.map_eq_some_iff, DataW.lit.injEq, Lit.string.injEq] at h2
        obtain ⟨z', hz', rfl⟩ := h2
        simp [h1, hz']
      · rw [List.getElem?_eq_none (by omega), List.getElem?_eq_none (by simp; omega)]
    · cases h

/-- The tables that every row of this seat lists. -/
def tables : List (String × DataW Unit) := [("math/bits.deBruijn32tab", Rows.laid_math_bits_deBruijn32tab), ("math/bits.deBruijn64tab", Rows.laid_math_bits_deBruijn64tab), ("internal/strconv.uint64pow10", Rows.laid_internal_strconv_uint64pow10), ("relyguard/expr.masks", Rows.laid_relyguard_expr_masks), ("relyguard/expr.names", Rows.laid_relyguard_expr_names)]

theorem gPow : Tryz.prog.globalNamed "internal/strconv.uint64pow10" = some 2 := by kernel_rfl
theorem gMasks : Tryz.prog.globalNamed "relyguard/expr.masks" = some 1 := by kernel_rfl
theorem gNames : Tryz.prog.globalNamed "relyguard/expr.names" = some 0 := by kernel_rfl
theorem masks_data {H : Type} : (Rows.laid_relyguard_expr_masks : DataW H) = Lib.tabData .i64 [0, 1, 3, 7, 15, 31, 63, 127, 255] := rfl
theorem pow_data {H : Type} : (Rows.laid_internal_strconv_uint64pow10 : DataW H) = Lib.tabData .u64 Lib.pow10Tab := rfl
theorem names_data {H : Type} : (Rows.laid_relyguard_expr_names : DataW H) = .agg (namesL.map fun z => .lit (.string z)) := rfl

theorem tables_met {W : World} (h : laidMetH Tryz.prog tables W) : Masks W ∧ Names W ∧ Pow10 W := by
  have h' : laidMet Tryz.prog tables W := h
  obtain ⟨ps, ⟨_, _, _, _, _, _, _, _, _, _, ⟨_, _, _, _, _, _, _, _, _, _, ⟨g2, t2, c2, f2, p2, q2, hg2, ht2, hv2, hd2, ⟨g3, t3, c3, f3, p3, q3, hg3, ht3, hv3, hd3, ⟨g4, t4, c4, f4, p4, q4, hg4, ht4, hv4, hd4, _, _⟩, _⟩, _⟩, _⟩, _⟩, _⟩ := h'
  obtain rfl := Option.some.inj (gPow.symm.trans hg2)
  obtain rfl := Option.some.inj (gMasks.symm.trans hg3)
  obtain rfl := Option.some.inj (gNames.symm.trans hg4)
  obtain rfl := Option.some.inj ((show (Tryz.prog.globals[2]?).map (·.type) = some 161 by kernel_rfl).symm.trans ht2)
  obtain rfl := Option.some.inj ((show (Tryz.prog.globals[1]?).map (·.type) = some 111 by kernel_rfl).symm.trans ht3)
  obtain rfl := Option.some.inj ((show (Tryz.prog.globals[0]?).map (·.type) = some 96 by kernel_rfl).symm.trans ht4)
  rw [pow_data] at hd2; rw [masks_data] at hd3; rw [names_data] at hd4
  have e2 := Lib.cells_of_tab Tryz.underlying161 Tryz.underlying145 (by kernel_rfl) (by kernel_rfl) hd2
  have e3 := Lib.cells_of_tab Tryz.underlying111 Tryz.underlying3 (by kernel_rfl) (by kernel_rfl) hd3
  have e4 := cells_of_strs Tryz.underlying96 Tryz.underlying9 (by kernel_rfl) (by kernel_rfl) hd4
  refine ⟨fun k h0 h8 => ?_, ?_, ?_⟩
  · rw [World.var?_cell gMasks hv3]
    obtain ⟨l⟩ := c3
    rw [show l = _ from e3]
    obtain ⟨j, rfl⟩ := Int.eq_ofNat_of_zero_le h0
    have : j = 0 ∨ j = 1 ∨ j = 2 ∨ j = 3 ∨ j = 4 ∨ j = 5 ∨ j = 6 ∨ j = 7 ∨ j = 8 := by omega
    rcases this with rfl | rfl | rfl | rfl | rfl | rfl | rfl | rfl | rfl <;> rfl
  · simp only [World.var?, gNames, Option.bind_some] at hv4
    split at hv4
    · rename_i cs t fr hb
      obtain rfl := Option.some.inj hv4
      obtain ⟨l⟩ := cs
      rw [show l = _ from e4] at hb
      exact ⟨t, fr, hb⟩
    · cases hv4
  · unfold Pow10 Lib.TabIs
    rw [hv2]
    obtain ⟨l⟩ := c2
    rw [show l = _ from e2]

/-- A world for the witness: the settled one, the tables holding what their initialisers lay. -/
noncomputable def setRow (g : Nat) (cs : Array Value) (w : World) : World :=
  { w with heap := w.heap.modify g fun
      | .cells _ t frozen => .cells cs t frozen
      | o => o }
noncomputable def laidWorld (os : Os) : World :=
  setRow 0 namesA (setRow 1 (([0, 1, 3, 7, 15, 31, 63, 127, 255] : List Int).map fun z => Value.int .i64 z).toArray (setRow 2 (Lib.pow10Tab.map fun z => Value.int .u64 z).toArray
    (setRow 3 (([0, 1, 28, 2, 29, 14, 24, 3, 30, 22, 20, 15, 25, 17, 4, 8, 31, 27, 13, 23, 21, 19, 16, 7, 26, 12, 18, 6, 11, 5, 10, 9] : List Int).map fun z => Value.int .u8 z).toArray
      (setRow 4 (([0, 1, 56, 2, 57, 49, 28, 3, 61, 58, 42, 50, 38, 29, 17, 4, 62, 47, 59, 36, 45, 43, 51, 22, 53, 39, 33, 30, 24, 18, 12, 5, 63, 55, 48, 27, 60, 41, 37, 16, 46, 35, 44, 21, 52, 32, 23, 11, 54, 26, 40, 15, 34, 20, 31, 10, 25, 14, 19, 9, 13, 8, 7, 6] : List Int).map fun z => Value.int .u8 z).toArray
        (World.holding Tryz.prog os ⟨#[], #[], []⟩)))))
def zeroV : Value := .agg #[.int .i64 0, .int .i64 0, .int .i64 0, .slice none 0 0]
end Go.Proofs.YtlcgbdjmlnjhcaaGreatDoor
