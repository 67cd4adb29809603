/-
  The walk of operation at the operator 6. (Written by wip/gen_simp3.py.)
-/
import Derived.Test.YtdancokndklpnaaDoorMSj
namespace Go.Proofs.YtdancokndklpnaaDoor
open Go.RowKit

set_option maxRecDepth 100000 in
set_option maxHeartbeats 4000000 in
theorem operation_6 (N : Nat) (wd : Int) (a b : E) (v : Value) (w : World) (he : EValB N w v (.mk 6 wd 0 [a, b])) (hM : Masks w) (h1 : 1 ≤ wd) (h8 : wd ≤ 8) (ha : a.wd = wd) (hb : b.wd = wd) :
    Calls Tryd.prog 81 #[v] w (NewN N (opS (.mk 6 wd 0 [a, b]) a b) w) := by
  obtain ⟨ea, l, c, rfl, hk⟩ := he.shape
  obtain ⟨b0, o0, rfl, rfl⟩ : ∃ b o, ea = some ⟨b, o, none⟩ ∧ l = 2 := by
    rcases hk with ⟨_, h⟩ | ⟨b, o, cap, h, _⟩
    · cases h
    · cases h; exact ⟨b, o, rfl, rfl⟩
  obtain ⟨aa, al, ac, a0, a1, a2, a3, hka⟩ := hk.get 0 (by simp)
  obtain ⟨ba, bl, bc, p0, p1, p2, p3, hkb⟩ := hk.get 1 (by simp)
  simp only [E.kids_mk, List.getElem_cons_zero, List.getElem_cons_succ, Nat.zero_mul, Nat.add_zero, Nat.one_mul] at a0 a1 a2 a3 p0 p1 p2 p3 hka hkb
  have HKA := Lib.hid hka; have HKB := Lib.hid hkb; have HKN := Lib.hid hk
  have hbs : b0 < w.heap.size := block_lt a0
  have hbs1 : b0 < w.heap.size + 1 := by omega
  have hbs2 : b0 < w.heap.size + 1 + 1 := by omega
  have hbs3 : b0 < w.heap.size + 1 + 1 + 1 := by omega
  have HA := Lib.hid ha; have HB := Lib.hid hb
  clear hka hkb hk he ha hb
  simp only [E.op_mk, E.wd_mk, E.n_mk]
  go_enter Tryd.func81, Tryd.ntmps81
  go_upto_region 1 with fail
  go_cut [3, 4] (fun s3 s4 W => ∃ A B : Nat, s3 = .pointer (some ⟨A, 0, none⟩) ∧ s4 = .pointer (some ⟨B, 0, none⟩) ∧ OpVars w W A B 6 wd a b (.slice (some ⟨b0, o0, none⟩) 2 c) (.slice aa al ac) (.slice ba bl bc))
  case first =>
    go_region
    · go_wp2_with fail
      go_meet
      obtain ⟨q0, q1, q2, q3⟩ := heap_of4 w (.cells #[.int .i64 6, .int .i64 wd, .int .i64 0, .slice (some ⟨b0, o0, none⟩) 2 c] 24) (.cells zero4 24) (.cells (cells4 a (.slice aa al ac)) 24) (.cells (cells4 b (.slice ba bl bc)) 24)
      exact ⟨_, _, rfl, rfl, ⟨((((((Ext.refl w).alloc _).alloc _).alloc _).alloc _).drew), HKA.out.kids, HKB.out.kids⟩, q0, q1, q2, q3⟩
    · go_wp2_with fail
      go_meet
      obtain ⟨q0, q1, q2, q3⟩ := heap_of4 w (.cells #[.int .i64 6, .int .i64 wd, .int .i64 0, .slice (some ⟨b0, o0, none⟩) 2 c] 24) (.cells zero4 24) (.cells (cells4 b (.slice ba bl bc)) 24) (.cells (cells4 a (.slice aa al ac)) 24)
      exact ⟨_, _, rfl, rfl, ⟨((((((Ext.refl w).alloc _).alloc _).alloc _).alloc _).drew), HKA.out.kids, HKB.out.kids⟩, q0, q1, q3, q2⟩
  case rest =>
    obtain ⟨A, B, rfl, rfl, hV⟩ := hcut
    clear a0 a1 a2 a3 p0 p1 p2 p3 hbs hbs1 hbs2 hbs3
    go_wp2_with fail
    refine (equal_any a.size a b _ A 0 B 0 (Nat.le_refl _) hV.ia hV.ib).mono ?_
    rintro r w1 ⟨rfl, hx1⟩
    have hV1 := hV.ext hx1
    obtain ⟨n0, n1, n2, n3, _, _, _, _⟩ := cells_of_block hV1.2.1
    clear hx1 hV
    go_wp2_with fail
    refine (constant_any 0 wd _).mono ?_
    rintro r w2 ⟨rfl, hx2⟩
    have hV2 := hV1.ext hx2
    have hZ := OpVarsZ.mk' hV2
    clear n0 n1 n2 n3 hx2 hV1
    have hbw : 1 ≤ b.wd ∧ b.wd ≤ 8 := by rw [HB.out]; omega
    have haw : 1 ≤ a.wd ∧ a.wd ≤ 8 := by rw [HA.out]; omega
    obtain ⟨z1, z2, z3, z4, z5, z6, z7, z8, z9, z10, z11, z12, z13, z14, z15, z16, z17, z18, z19, z20, z21, z22⟩ := hZ.cells
    cases h_aO : a.isC (pw a.wd - 1) with
    | true =>
      go_wp2_with (first
        | (go_at_call 66; (first | (with_reducible refine (isConst_any a (.agg #[.int .i64 a.op, .int .i64 a.wd, .int .i64 a.n, .slice aa al ac]) _ _ (OpVarsZ.va (by assumption))).mono ?_) | (with_reducible refine (isConst_any b (.agg #[.int .i64 b.op, .int .i64 b.wd, .int .i64 b.n, .slice ba bl bc]) _ _ (OpVarsZ.vb (by assumption))).mono ?_)); rintro r w3 ⟨rfl, hx3⟩; have hZ3 := OpVarsZ.ext (by assumption) hx3; clear hx3; obtain ⟨y1, y2, y3, y4, y5, y6, y7, y8, y9, y10, y11, y12, y13, y14, y15, y16, y17, y18, y19, y20, y21, y22⟩ := OpVarsZ.cells hZ3)
        | (go_at_call 90; (first | (with_reducible refine (isOnes_any a (.agg #[.int .i64 a.op, .int .i64 a.wd, .int .i64 a.n, .slice aa al ac]) _ (OpVarsZ.va (by assumption)) (hM.ext (OpVarsZ.ext0 (by assumption))) haw.1 haw.2).mono ?_) | (with_reducible refine (isOnes_any b (.agg #[.int .i64 b.op, .int .i64 b.wd, .int .i64 b.n, .slice ba bl bc]) _ (OpVarsZ.vb (by assumption)) (hM.ext (OpVarsZ.ext0 (by assumption))) hbw.1 hbw.2).mono ?_)); rintro r w3 ⟨rfl, hx3⟩; have hZ3 := OpVarsZ.ext (by assumption) hx3; clear hx3; obtain ⟨y1, y2, y3, y4, y5, y6, y7, y8, y9, y10, y11, y12, y13, y14, y15, y16, y17, y18, y19, y20, y21, y22⟩ := OpVarsZ.cells hZ3))
      have hJ : OpVarsZ w w3 A B _ 6 wd a b _ _ _ := hZ3
      have hm3 := (hM.ext hJ.ext0) wd (by omega) h8
      have hw0 : 0 ≤ wd := by omega
      have hw9 : wd < 9 := by omega
      go_region_held3 (fun w' => w'.cell? ⟨w.heap.size, 1, none⟩ = some (.int .i64 wd) ∧ w'.cell? ⟨1, wd.toNat, none⟩ = some (.int .i64 (pw wd - 1)))
        (first | exact ⟨y2, hm3⟩ | exact ⟨Ext.cell ‹Ext w3.drew _› y2, Ext.cell ‹Ext w3.drew _› hm3⟩ | exact ⟨(put4_other (w := w4) (KB := w.heap.size + 1) (o := 0) ⟨w.heap.size, 1, none⟩ (.inl (by simp))).trans x2, (put4_other (w := w4) (KB := w.heap.size + 1) (o := 0) ⟨1, wd.toNat, none⟩ (.inl (show (1 : Nat) ≠ w.heap.size + 1 by omega))).trans hm4⟩)
        ((go_at_call 67; refine (constant_any _ _ _).mono ?_; rintro r w4 ⟨rfl, hx4⟩; have hZ4 := OpVarsZ.ext hJ (((Ext.refl w3).drew).trans hx4); have hm4 := (((Ext.refl w3).drew).trans hx4).cell hm3; have hms : 1 < w.heap.size := block_lt (hM 0 (by decide) (by decide)); obtain ⟨x1, x2, x3, x4, x5, x6, x7, x8, x9, x10, x11, x12, x13, x14, x15, x16, x17, x18, x19, x20, x21, x22⟩ := OpVarsZ.cells hZ4))
      go_wp2_with fail
      exact op_end (e' := constE (pw wd - 1) wd) rfl rfl hZ4 (by simp [opS, opCode, opPick, h_aO]) (kidsB_nil _ _)
    | false =>
      cases h_bO : b.isC (pw b.wd - 1) with
      | true =>
        go_wp2_with (first
          | (go_at_call 66; (first | (with_reducible refine (isConst_any a (.agg #[.int .i64 a.op, .int .i64 a.wd, .int .i64 a.n, .slice aa al ac]) _ _ (OpVarsZ.va (by assumption))).mono ?_) | (with_reducible refine (isConst_any b (.agg #[.int .i64 b.op, .int .i64 b.wd, .int .i64 b.n, .slice ba bl bc]) _ _ (OpVarsZ.vb (by assumption))).mono ?_)); rintro r w3 ⟨rfl, hx3⟩; have hZ3 := OpVarsZ.ext (by assumption) hx3; clear hx3; obtain ⟨y1, y2, y3, y4, y5, y6, y7, y8, y9, y10, y11, y12, y13, y14, y15, y16, y17, y18, y19, y20, y21, y22⟩ := OpVarsZ.cells hZ3)
          | (go_at_call 90; (first | (with_reducible refine (isOnes_any a (.agg #[.int .i64 a.op, .int .i64 a.wd, .int .i64 a.n, .slice aa al ac]) _ (OpVarsZ.va (by assumption)) (hM.ext (OpVarsZ.ext0 (by assumption))) haw.1 haw.2).mono ?_) | (with_reducible refine (isOnes_any b (.agg #[.int .i64 b.op, .int .i64 b.wd, .int .i64 b.n, .slice ba bl bc]) _ (OpVarsZ.vb (by assumption)) (hM.ext (OpVarsZ.ext0 (by assumption))) hbw.1 hbw.2).mono ?_)); rintro r w3 ⟨rfl, hx3⟩; have hZ3 := OpVarsZ.ext (by assumption) hx3; clear hx3; obtain ⟨y1, y2, y3, y4, y5, y6, y7, y8, y9, y10, y11, y12, y13, y14, y15, y16, y17, y18, y19, y20, y21, y22⟩ := OpVarsZ.cells hZ3))
        have hJ : OpVarsZ w w3 A B _ 6 wd a b _ _ _ := hZ3
        have hm3 := (hM.ext hJ.ext0) wd (by omega) h8
        have hw0 : 0 ≤ wd := by omega
        have hw9 : wd < 9 := by omega
        go_region_held3 (fun w' => w'.cell? ⟨w.heap.size, 1, none⟩ = some (.int .i64 wd) ∧ w'.cell? ⟨1, wd.toNat, none⟩ = some (.int .i64 (pw wd - 1)))
          (first | exact ⟨y2, hm3⟩ | exact ⟨Ext.cell ‹Ext w3.drew _› y2, Ext.cell ‹Ext w3.drew _› hm3⟩ | exact ⟨(put4_other (w := w4) (KB := w.heap.size + 1) (o := 0) ⟨w.heap.size, 1, none⟩ (.inl (by simp))).trans x2, (put4_other (w := w4) (KB := w.heap.size + 1) (o := 0) ⟨1, wd.toNat, none⟩ (.inl (show (1 : Nat) ≠ w.heap.size + 1 by omega))).trans hm4⟩)
          ((go_at_call 67; refine (constant_any _ _ _).mono ?_; rintro r w4 ⟨rfl, hx4⟩; have hZ4 := OpVarsZ.ext hJ (((Ext.refl w3).drew).trans hx4); have hm4 := (((Ext.refl w3).drew).trans hx4).cell hm3; have hms : 1 < w.heap.size := block_lt (hM 0 (by decide) (by decide)); obtain ⟨x1, x2, x3, x4, x5, x6, x7, x8, x9, x10, x11, x12, x13, x14, x15, x16, x17, x18, x19, x20, x21, x22⟩ := OpVarsZ.cells hZ4))
        go_wp2_with fail
        exact op_end (e' := constE (pw wd - 1) wd) rfl rfl hZ4 (by simp [opS, opCode, opPick, h_aO, h_bO]) (kidsB_nil _ _)
      | false =>
        cases h_a0 : a.isC 0 with
        | true =>
          go_wp2_with (first
            | (go_at_call 66; (first | (with_reducible refine (isConst_any a (.agg #[.int .i64 a.op, .int .i64 a.wd, .int .i64 a.n, .slice aa al ac]) _ _ (OpVarsZ.va (by assumption))).mono ?_) | (with_reducible refine (isConst_any b (.agg #[.int .i64 b.op, .int .i64 b.wd, .int .i64 b.n, .slice ba bl bc]) _ _ (OpVarsZ.vb (by assumption))).mono ?_)); rintro r w3 ⟨rfl, hx3⟩; have hZ3 := OpVarsZ.ext (by assumption) hx3; clear hx3; obtain ⟨y1, y2, y3, y4, y5, y6, y7, y8, y9, y10, y11, y12, y13, y14, y15, y16, y17, y18, y19, y20, y21, y22⟩ := OpVarsZ.cells hZ3)
            | (go_at_call 90; (first | (with_reducible refine (isOnes_any a (.agg #[.int .i64 a.op, .int .i64 a.wd, .int .i64 a.n, .slice aa al ac]) _ (OpVarsZ.va (by assumption)) (hM.ext (OpVarsZ.ext0 (by assumption))) haw.1 haw.2).mono ?_) | (with_reducible refine (isOnes_any b (.agg #[.int .i64 b.op, .int .i64 b.wd, .int .i64 b.n, .slice ba bl bc]) _ (OpVarsZ.vb (by assumption)) (hM.ext (OpVarsZ.ext0 (by assumption))) hbw.1 hbw.2).mono ?_)); rintro r w3 ⟨rfl, hx3⟩; have hZ3 := OpVarsZ.ext (by assumption) hx3; clear hx3; obtain ⟨y1, y2, y3, y4, y5, y6, y7, y8, y9, y10, y11, y12, y13, y14, y15, y16, y17, y18, y19, y20, y21, y22⟩ := OpVarsZ.cells hZ3))
          exact op_end (e' := b) rfl rfl (by assumption) (by simp [opS, opCode, opPick, h_aO, h_bO, h_a0]) HKB.out
        | false =>
          cases h_b0 : b.isC 0 with
          | true =>
            go_wp2_with (first
              | (go_at_call 66; (first | (with_reducible refine (isConst_any a (.agg #[.int .i64 a.op, .int .i64 a.wd, .int .i64 a.n, .slice aa al ac]) _ _ (OpVarsZ.va (by assumption))).mono ?_) | (with_reducible refine (isConst_any b (.agg #[.int .i64 b.op, .int .i64 b.wd, .int .i64 b.n, .slice ba bl bc]) _ _ (OpVarsZ.vb (by assumption))).mono ?_)); rintro r w3 ⟨rfl, hx3⟩; have hZ3 := OpVarsZ.ext (by assumption) hx3; clear hx3; obtain ⟨y1, y2, y3, y4, y5, y6, y7, y8, y9, y10, y11, y12, y13, y14, y15, y16, y17, y18, y19, y20, y21, y22⟩ := OpVarsZ.cells hZ3)
              | (go_at_call 90; (first | (with_reducible refine (isOnes_any a (.agg #[.int .i64 a.op, .int .i64 a.wd, .int .i64 a.n, .slice aa al ac]) _ (OpVarsZ.va (by assumption)) (hM.ext (OpVarsZ.ext0 (by assumption))) haw.1 haw.2).mono ?_) | (with_reducible refine (isOnes_any b (.agg #[.int .i64 b.op, .int .i64 b.wd, .int .i64 b.n, .slice ba bl bc]) _ (OpVarsZ.vb (by assumption)) (hM.ext (OpVarsZ.ext0 (by assumption))) hbw.1 hbw.2).mono ?_)); rintro r w3 ⟨rfl, hx3⟩; have hZ3 := OpVarsZ.ext (by assumption) hx3; clear hx3; obtain ⟨y1, y2, y3, y4, y5, y6, y7, y8, y9, y10, y11, y12, y13, y14, y15, y16, y17, y18, y19, y20, y21, y22⟩ := OpVarsZ.cells hZ3))
            exact op_end (e' := a) rfl rfl (by assumption) (by simp [opS, opCode, opPick, h_aO, h_bO, h_a0, h_b0]) HKA.out
          | false =>
            cases h_al : a.eqB b with
            | true =>
              go_wp2_with (first
                | (go_at_call 66; (first | (with_reducible refine (isConst_any a (.agg #[.int .i64 a.op, .int .i64 a.wd, .int .i64 a.n, .slice aa al ac]) _ _ (OpVarsZ.va (by assumption))).mono ?_) | (with_reducible refine (isConst_any b (.agg #[.int .i64 b.op, .int .i64 b.wd, .int .i64 b.n, .slice ba bl bc]) _ _ (OpVarsZ.vb (by assumption))).mono ?_)); rintro r w3 ⟨rfl, hx3⟩; have hZ3 := OpVarsZ.ext (by assumption) hx3; clear hx3; obtain ⟨y1, y2, y3, y4, y5, y6, y7, y8, y9, y10, y11, y12, y13, y14, y15, y16, y17, y18, y19, y20, y21, y22⟩ := OpVarsZ.cells hZ3)
                | (go_at_call 90; (first | (with_reducible refine (isOnes_any a (.agg #[.int .i64 a.op, .int .i64 a.wd, .int .i64 a.n, .slice aa al ac]) _ (OpVarsZ.va (by assumption)) (hM.ext (OpVarsZ.ext0 (by assumption))) haw.1 haw.2).mono ?_) | (with_reducible refine (isOnes_any b (.agg #[.int .i64 b.op, .int .i64 b.wd, .int .i64 b.n, .slice ba bl bc]) _ (OpVarsZ.vb (by assumption)) (hM.ext (OpVarsZ.ext0 (by assumption))) hbw.1 hbw.2).mono ?_)); rintro r w3 ⟨rfl, hx3⟩; have hZ3 := OpVarsZ.ext (by assumption) hx3; clear hx3; obtain ⟨y1, y2, y3, y4, y5, y6, y7, y8, y9, y10, y11, y12, y13, y14, y15, y16, y17, y18, y19, y20, y21, y22⟩ := OpVarsZ.cells hZ3))
              exact op_end (e' := a) rfl rfl (by assumption) (by simp [opS, opCode, opPick, h_aO, h_bO, h_a0, h_b0, h_al]) HKA.out
            | false =>
              go_wp2_with (first
                | (go_at_call 66; (first | (with_reducible refine (isConst_any a (.agg #[.int .i64 a.op, .int .i64 a.wd, .int .i64 a.n, .slice aa al ac]) _ _ (OpVarsZ.va (by assumption))).mono ?_) | (with_reducible refine (isConst_any b (.agg #[.int .i64 b.op, .int .i64 b.wd, .int .i64 b.n, .slice ba bl bc]) _ _ (OpVarsZ.vb (by assumption))).mono ?_)); rintro r w3 ⟨rfl, hx3⟩; have hZ3 := OpVarsZ.ext (by assumption) hx3; clear hx3; obtain ⟨y1, y2, y3, y4, y5, y6, y7, y8, y9, y10, y11, y12, y13, y14, y15, y16, y17, y18, y19, y20, y21, y22⟩ := OpVarsZ.cells hZ3)
                | (go_at_call 90; (first | (with_reducible refine (isOnes_any a (.agg #[.int .i64 a.op, .int .i64 a.wd, .int .i64 a.n, .slice aa al ac]) _ (OpVarsZ.va (by assumption)) (hM.ext (OpVarsZ.ext0 (by assumption))) haw.1 haw.2).mono ?_) | (with_reducible refine (isOnes_any b (.agg #[.int .i64 b.op, .int .i64 b.wd, .int .i64 b.n, .slice ba bl bc]) _ (OpVarsZ.vb (by assumption)) (hM.ext (OpVarsZ.ext0 (by assumption))) hbw.1 hbw.2).mono ?_)); rintro r w3 ⟨rfl, hx3⟩; have hZ3 := OpVarsZ.ext (by assumption) hx3; clear hx3; obtain ⟨y1, y2, y3, y4, y5, y6, y7, y8, y9, y10, y11, y12, y13, y14, y15, y16, y17, y18, y19, y20, y21, y22⟩ := OpVarsZ.cells hZ3))
              exact op_end (e' := .mk 6 wd 0 [a, b]) rfl rfl (by assumption) (by simp [opS, opCode, opPick, h_aO, h_bO, h_a0, h_b0, h_al]) HKN.out
end Go.Proofs.YtdancokndklpnaaDoor
