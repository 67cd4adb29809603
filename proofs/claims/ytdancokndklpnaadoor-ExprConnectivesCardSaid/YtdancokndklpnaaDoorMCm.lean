/-
  The walk of comparison at the operator 11. (Written by wip/gen_cmp.py.)
  The walk of comparison at the operator 12. (Written by wip/gen_cmp.py.)
  The walk of comparison at the operator 13. (Written by wip/gen_cmp.py.)
-/
import Derived.Test.YtdancokndklpnaaDoorMSj
namespace Go.Proofs.YtdancokndklpnaaDoor
open Go.RowKit

set_option maxRecDepth 100000 in
set_option maxHeartbeats 4000000 in
theorem comparison_11 (N : Nat) (wd : Int) (a b : E) (v : Value) (w : World) (hN : N ≤ w.heap.size) (he : EValB N w v (.mk 11 wd 0 [a, b])) (h4a : a.op = 4 → a.kids ≠ []) (h4b : b.op = 4 → b.kids ≠ []) :
    Calls Tryd.prog 79 #[v] w (NewN N (cmpS (.mk 11 wd 0 [a, b]) a b) w) := by
  obtain ⟨ea, l, c, rfl, hk⟩ := he.shape
  obtain ⟨b0, o0, rfl, rfl⟩ : ∃ b o, ea = some ⟨b, o, none⟩ ∧ l = 2 := by
    rcases hk with ⟨_, h⟩ | ⟨b, o, cap, h, _⟩
    · cases h
    · cases h; exact ⟨b, o, rfl, rfl⟩
  obtain ⟨aa, al, ac, a0, a1, a2, a3, hka⟩ := hk.get 0 (by simp)
  obtain ⟨ba, bl, bc, p0, p1, p2, p3, hkb⟩ := hk.get 1 (by simp)
  simp only [E.kids_mk, List.getElem_cons_zero, List.getElem_cons_succ, Nat.zero_mul, Nat.add_zero, Nat.one_mul] at a0 a1 a2 a3 p0 p1 p2 p3 hka hkb
  have HKA := Lib.hid hka; have HKB := Lib.hid hkb; have HKN := Lib.hid hk
  have hbs : b0 < w.heap.size := block_lt a0
  have hbs1 : b0 < w.heap.size + 1 := by omega
  have hbs2 : b0 < w.heap.size + 1 + 1 := by omega
  have hbs3 : b0 < w.heap.size + 1 + 1 + 1 := by omega
  clear hka hkb hk he
  simp only [E.op_mk, E.wd_mk, E.n_mk]
  go_enter Tryd.func79, Tryd.ntmps79
  go_upto_region 1 with fail
  go_cut [3, 4] (fun s3 s4 W => ∃ A B : Nat, s3 = .pointer (some ⟨A, 0, none⟩) ∧ s4 = .pointer (some ⟨B, 0, none⟩) ∧ OpVars w W A B 11 wd a b (.slice (some ⟨b0, o0, none⟩) 2 c) (.slice aa al ac) (.slice ba bl bc))
  case first =>
    go_region
    · go_wp2_with fail
      go_meet
      obtain ⟨q0, q1, q2, q3⟩ := heap_of4 w (.cells #[.int .i64 11, .int .i64 wd, .int .i64 0, .slice (some ⟨b0, o0, none⟩) 2 c] 24) (.cells zero4 24) (.cells (cells4 a (.slice aa al ac)) 24) (.cells (cells4 b (.slice ba bl bc)) 24)
      exact ⟨_, _, rfl, rfl, ⟨((((((Ext.refl w).alloc _).alloc _).alloc _).alloc _).drew), HKA.out.kids, HKB.out.kids⟩, q0, q1, q2, q3⟩
    · go_wp2_with fail
      go_meet
      obtain ⟨q0, q1, q2, q3⟩ := heap_of4 w (.cells #[.int .i64 11, .int .i64 wd, .int .i64 0, .slice (some ⟨b0, o0, none⟩) 2 c] 24) (.cells zero4 24) (.cells (cells4 b (.slice ba bl bc)) 24) (.cells (cells4 a (.slice aa al ac)) 24)
      exact ⟨_, _, rfl, rfl, ⟨((((((Ext.refl w).alloc _).alloc _).alloc _).alloc _).drew), HKA.out.kids, HKB.out.kids⟩, q0, q1, q3, q2⟩
  case rest =>
    obtain ⟨A, B, rfl, rfl, hV⟩ := hcut
    clear a0 a1 a2 a3 p0 p1 p2 p3 hbs hbs1 hbs2 hbs3
    go_wp2_with fail
    refine (equal_any a.size a b _ A 0 B 0 (Nat.le_refl _) hV.ia hV.ib).mono ?_
    rintro r w3 ⟨rfl, hx1⟩
    have hV1 := hV.ext hx1
    clear hx1 hV
    have hZ3 := hV1; clear hV1
    obtain ⟨y1, y2, y3, y4, y5, y6, y7, y8, y9, y10, y11, y12, y13, y14, y15, y16, y17, y18, y19, y20⟩ := OpVars.cells hZ3
    cases h_al : a.eqB b with
    | true =>
      go_wp2_with (first
        | (go_at_call 66; (first | (with_reducible refine (isConst_any a (.agg #[.int .i64 a.op, .int .i64 a.wd, .int .i64 a.n, .slice aa al ac]) _ _ (OpVars.va (by assumption))).mono ?_) | (with_reducible refine (isConst_any b (.agg #[.int .i64 b.op, .int .i64 b.wd, .int .i64 b.n, .slice ba bl bc]) _ _ (OpVars.vb (by assumption))).mono ?_)); rintro r w3 ⟨rfl, hx3⟩; have hZ3 := OpVars.ext (by assumption) hx3; clear hx3; obtain ⟨y1, y2, y3, y4, y5, y6, y7, y8, y9, y10, y11, y12, y13, y14, y15, y16, y17, y18, y19, y20⟩ := OpVars.cells hZ3)
        | (go_at_call 67; refine (constant_any _ _ _).mono ?_; rintro r w3 ⟨rfl, hx3⟩; have hZ3 := OpVars.ext (by assumption) hx3; clear hx3; obtain ⟨y1, y2, y3, y4, y5, y6, y7, y8, y9, y10, y11, y12, y13, y14, y15, y16, y17, y18, y19, y20⟩ := OpVars.cells hZ3))
      exact cmp_end (e' := constE 1 1) rfl rfl (by assumption) (by simp [cmpS, h_al]) (kidsB_nil _ _)
    | false =>
      by_cases h_W : 1 < a.wd
      · have h_Wd : decide (1 < a.wd) = true := by simpa using h_W
        have h_Wn := Lib.hid h_W
        go_wp2_with (first
          | (go_at_call 66; (first | (with_reducible refine (isConst_any a (.agg #[.int .i64 a.op, .int .i64 a.wd, .int .i64 a.n, .slice aa al ac]) _ _ (OpVars.va (by assumption))).mono ?_) | (with_reducible refine (isConst_any b (.agg #[.int .i64 b.op, .int .i64 b.wd, .int .i64 b.n, .slice ba bl bc]) _ _ (OpVars.vb (by assumption))).mono ?_)); rintro r w3 ⟨rfl, hx3⟩; have hZ3 := OpVars.ext (by assumption) hx3; clear hx3; obtain ⟨y1, y2, y3, y4, y5, y6, y7, y8, y9, y10, y11, y12, y13, y14, y15, y16, y17, y18, y19, y20⟩ := OpVars.cells hZ3)
          | (go_at_call 67; refine (constant_any _ _ _).mono ?_; rintro r w3 ⟨rfl, hx3⟩; have hZ3 := OpVars.ext (by assumption) hx3; clear hx3; obtain ⟨y1, y2, y3, y4, y5, y6, y7, y8, y9, y10, y11, y12, y13, y14, y15, y16, y17, y18, y19, y20⟩ := OpVars.cells hZ3))
        exact cmp_end (e' := .mk 11 wd 0 [a, b]) rfl rfl (by assumption) (by simp [cmpS, h_al, h_Wn.out]) HKN.out
      · have h_Wd : decide (1 < a.wd) = false := by simpa using h_W
        have h_Wn : Hid ((1 < a.wd) = False) := by simp only [Hid, eq_iff_iff, iff_false]; exact h_W
        cases h_a1 : a.isC 1 with
        | true =>
          go_wp2_with (first
            | (go_at_call 66; (first | (with_reducible refine (isConst_any a (.agg #[.int .i64 a.op, .int .i64 a.wd, .int .i64 a.n, .slice aa al ac]) _ _ (OpVars.va (by assumption))).mono ?_) | (with_reducible refine (isConst_any b (.agg #[.int .i64 b.op, .int .i64 b.wd, .int .i64 b.n, .slice ba bl bc]) _ _ (OpVars.vb (by assumption))).mono ?_)); rintro r w3 ⟨rfl, hx3⟩; have hZ3 := OpVars.ext (by assumption) hx3; clear hx3; obtain ⟨y1, y2, y3, y4, y5, y6, y7, y8, y9, y10, y11, y12, y13, y14, y15, y16, y17, y18, y19, y20⟩ := OpVars.cells hZ3)
            | (go_at_call 67; refine (constant_any _ _ _).mono ?_; rintro r w3 ⟨rfl, hx3⟩; have hZ3 := OpVars.ext (by assumption) hx3; clear hx3; obtain ⟨y1, y2, y3, y4, y5, y6, y7, y8, y9, y10, y11, y12, y13, y14, y15, y16, y17, y18, y19, y20⟩ := OpVars.cells hZ3))
          exact cmp_end (e' := b) rfl rfl (by assumption) (by simp [cmpS, h_al, h_Wn.out, h_a1]) HKB.out
        | false =>
          cases h_b1 : b.isC 1 with
          | true =>
            go_wp2_with (first
              | (go_at_call 66; (first | (with_reducible refine (isConst_any a (.agg #[.int .i64 a.op, .int .i64 a.wd, .int .i64 a.n, .slice aa al ac]) _ _ (OpVars.va (by assumption))).mono ?_) | (with_reducible refine (isConst_any b (.agg #[.int .i64 b.op, .int .i64 b.wd, .int .i64 b.n, .slice ba bl bc]) _ _ (OpVars.vb (by assumption))).mono ?_)); rintro r w3 ⟨rfl, hx3⟩; have hZ3 := OpVars.ext (by assumption) hx3; clear hx3; obtain ⟨y1, y2, y3, y4, y5, y6, y7, y8, y9, y10, y11, y12, y13, y14, y15, y16, y17, y18, y19, y20⟩ := OpVars.cells hZ3)
              | (go_at_call 67; refine (constant_any _ _ _).mono ?_; rintro r w3 ⟨rfl, hx3⟩; have hZ3 := OpVars.ext (by assumption) hx3; clear hx3; obtain ⟨y1, y2, y3, y4, y5, y6, y7, y8, y9, y10, y11, y12, y13, y14, y15, y16, y17, y18, y19, y20⟩ := OpVars.cells hZ3))
            exact cmp_end (e' := a) rfl rfl (by assumption) (by simp [cmpS, h_al, h_Wn.out, h_a1, h_b1]) HKA.out
          | false =>
            cases h_a0 : a.isC 0 with
            | true =>
              by_cases h4 : b.op = 4
              · have hne := h4b h4
                have hlen : 0 < b.kids.length := List.length_pos_iff.2 hne
                obtain ⟨zb, zo, rfl, rfl⟩ : ∃ zb zo, ba = some ⟨zb, zo, none⟩ ∧ bl = b.kids.length := by
                  rcases HKB.out with ⟨_, h⟩ | ⟨zb, zo, cap, h, _⟩
                  · exact absurd h hne
                  · cases h; exact ⟨zb, zo, rfl, rfl⟩
                obtain ⟨ka, kl, kc, k0, k1, k2, k3, hkk⟩ := HKB.out.get 0 hlen
                simp only [Nat.zero_mul, Nat.add_zero] at k0 k1 k2 k3
                have HN : Hid (b.neg = b.kids[0]) := by simp [Hid, E.neg, h4, List.getD_eq_getElem?_getD, hlen]
                have H4 := Lib.hid h4; have HKK := Lib.hid hkk
                clear h4 hkk hne
                generalize b.kids[0] = kid at *
                go_wp2_with (first
                  | (go_at_call 66; (first | (with_reducible refine (isConst_any a (.agg #[.int .i64 a.op, .int .i64 a.wd, .int .i64 a.n, .slice aa al ac]) _ _ (OpVars.va (by assumption))).mono ?_) | (with_reducible refine (isConst_any b (.agg #[.int .i64 b.op, .int .i64 b.wd, .int .i64 b.n, .slice (some ⟨zb, zo, none⟩) b.kids.length bc]) _ _ (OpVars.vb (by assumption))).mono ?_)); rintro r w3 ⟨rfl, hx3⟩; have hZ3 := OpVars.ext (by assumption) hx3; clear hx3; obtain ⟨y1, y2, y3, y4, y5, y6, y7, y8, y9, y10, y11, y12, y13, y14, y15, y16, y17, y18, y19, y20⟩ := OpVars.cells hZ3)
                  | (go_at_call 67; refine (constant_any _ _ _).mono ?_; rintro r w3 ⟨rfl, hx3⟩; have hZ3 := OpVars.ext (by assumption) hx3; clear hx3; obtain ⟨y1, y2, y3, y4, y5, y6, y7, y8, y9, y10, y11, y12, y13, y14, y15, y16, y17, y18, y19, y20⟩ := OpVars.cells hZ3))
                have hJ : OpVars w w3 A B 11 wd a b _ _ _ := hZ3
                refine (negation_kid b.op _ _ H4.out zb zo _ _ kid.op kid.wd kid.n ka kl kc _ hlen (hJ.ext0.cell k0) (hJ.ext0.cell k1) (hJ.ext0.cell k2) (hJ.ext0.cell k3)).mono ?_
                rintro r w4 ⟨rfl, hx4⟩
                have hZ4 := hJ.ext hx4
                obtain ⟨x1, x2, x3, x4, x5, x6, x7, x8, x9, x10, x11, x12, x13, x14, x15, x16, x17, x18, x19, x20⟩ := OpVars.cells hZ4
                clear hx4
                go_wp2_with fail
                exact cmp_end (e' := kid) rfl rfl hZ4 (by simp [cmpS, HN.out, h_al, h_Wn.out, h_a1, h_b1, h_a0]) HKK.out
              · have h4' := Lib.hid h4
                clear h4
                go_wp2_with (first
                  | (go_at_call 66; (first | (with_reducible refine (isConst_any a (.agg #[.int .i64 a.op, .int .i64 a.wd, .int .i64 a.n, .slice aa al ac]) _ _ (OpVars.va (by assumption))).mono ?_) | (with_reducible refine (isConst_any b (.agg #[.int .i64 b.op, .int .i64 b.wd, .int .i64 b.n, .slice ba bl bc]) _ _ (OpVars.vb (by assumption))).mono ?_)); rintro r w3 ⟨rfl, hx3⟩; have hZ3 := OpVars.ext (by assumption) hx3; clear hx3; obtain ⟨y1, y2, y3, y4, y5, y6, y7, y8, y9, y10, y11, y12, y13, y14, y15, y16, y17, y18, y19, y20⟩ := OpVars.cells hZ3)
                  | (go_at_call 67; refine (constant_any _ _ _).mono ?_; rintro r w3 ⟨rfl, hx3⟩; have hZ3 := OpVars.ext (by assumption) hx3; clear hx3; obtain ⟨y1, y2, y3, y4, y5, y6, y7, y8, y9, y10, y11, y12, y13, y14, y15, y16, y17, y18, y19, y20⟩ := OpVars.cells hZ3))
                refine (negation_new b ba bl bc _ h4'.out).mono ?_
                rintro r w4 ⟨rfl, hx4, hb4⟩
                have hJ : OpVars w w3 A B 11 wd a b _ _ _ := hZ3
                obtain ⟨x1, x2, x3, x4, x5, x6, x7, x8, x9, x10, x11, x12, x13, x14, x15, x16, x17, x18, x19, x20⟩ := OpVars.cells (hJ.ext hx4)
                have HX4 := Lib.hid hx4; have HB4 := Lib.hid hb4; have hs3 : w.heap.size + 1 < w3.heap.size := heap_lt hJ.2.2.1
                clear hx4 hb4
                go_wp2_with fail
                exact cmp_end_new (e := b) rfl rfl hN hJ HX4.out (by omega) HB4.out (by simp [cmpS, E.neg, h4'.out, h_al, h_Wn.out, h_a1, h_b1, h_a0]) HKB.out
            | false =>
              cases h_b0 : b.isC 0 with
              | true =>
                by_cases h4 : a.op = 4
                · have hne := h4a h4
                  have hlen : 0 < a.kids.length := List.length_pos_iff.2 hne
                  obtain ⟨zb, zo, rfl, rfl⟩ : ∃ zb zo, aa = some ⟨zb, zo, none⟩ ∧ al = a.kids.length := by
                    rcases HKA.out with ⟨_, h⟩ | ⟨zb, zo, cap, h, _⟩
                    · exact absurd h hne
                    · cases h; exact ⟨zb, zo, rfl, rfl⟩
                  obtain ⟨ka, kl, kc, k0, k1, k2, k3, hkk⟩ := HKA.out.get 0 hlen
                  simp only [Nat.zero_mul, Nat.add_zero] at k0 k1 k2 k3
                  have HN : Hid (a.neg = a.kids[0]) := by simp [Hid, E.neg, h4, List.getD_eq_getElem?_getD, hlen]
                  have H4 := Lib.hid h4; have HKK := Lib.hid hkk
                  clear h4 hkk hne
                  generalize a.kids[0] = kid at *
                  go_wp2_with (first
                    | (go_at_call 66; (first | (with_reducible refine (isConst_any a (.agg #[.int .i64 a.op, .int .i64 a.wd, .int .i64 a.n, .slice (some ⟨zb, zo, none⟩) a.kids.length ac]) _ _ (OpVars.va (by assumption))).mono ?_) | (with_reducible refine (isConst_any b (.agg #[.int .i64 b.op, .int .i64 b.wd, .int .i64 b.n, .slice ba bl bc]) _ _ (OpVars.vb (by assumption))).mono ?_)); rintro r w3 ⟨rfl, hx3⟩; have hZ3 := OpVars.ext (by assumption) hx3; clear hx3; obtain ⟨y1, y2, y3, y4, y5, y6, y7, y8, y9, y10, y11, y12, y13, y14, y15, y16, y17, y18, y19, y20⟩ := OpVars.cells hZ3)
                    | (go_at_call 67; refine (constant_any _ _ _).mono ?_; rintro r w3 ⟨rfl, hx3⟩; have hZ3 := OpVars.ext (by assumption) hx3; clear hx3; obtain ⟨y1, y2, y3, y4, y5, y6, y7, y8, y9, y10, y11, y12, y13, y14, y15, y16, y17, y18, y19, y20⟩ := OpVars.cells hZ3))
                  have hJ : OpVars w w3 A B 11 wd a b _ _ _ := hZ3
                  refine (negation_kid a.op _ _ H4.out zb zo _ _ kid.op kid.wd kid.n ka kl kc _ hlen (hJ.ext0.cell k0) (hJ.ext0.cell k1) (hJ.ext0.cell k2) (hJ.ext0.cell k3)).mono ?_
                  rintro r w4 ⟨rfl, hx4⟩
                  have hZ4 := hJ.ext hx4
                  obtain ⟨x1, x2, x3, x4, x5, x6, x7, x8, x9, x10, x11, x12, x13, x14, x15, x16, x17, x18, x19, x20⟩ := OpVars.cells hZ4
                  clear hx4
                  go_wp2_with fail
                  exact cmp_end (e' := kid) rfl rfl hZ4 (by simp [cmpS, HN.out, h_al, h_Wn.out, h_a1, h_b1, h_a0, h_b0]) HKK.out
                · have h4' := Lib.hid h4
                  clear h4
                  go_wp2_with (first
                    | (go_at_call 66; (first | (with_reducible refine (isConst_any a (.agg #[.int .i64 a.op, .int .i64 a.wd, .int .i64 a.n, .slice aa al ac]) _ _ (OpVars.va (by assumption))).mono ?_) | (with_reducible refine (isConst_any b (.agg #[.int .i64 b.op, .int .i64 b.wd, .int .i64 b.n, .slice ba bl bc]) _ _ (OpVars.vb (by assumption))).mono ?_)); rintro r w3 ⟨rfl, hx3⟩; have hZ3 := OpVars.ext (by assumption) hx3; clear hx3; obtain ⟨y1, y2, y3, y4, y5, y6, y7, y8, y9, y10, y11, y12, y13, y14, y15, y16, y17, y18, y19, y20⟩ := OpVars.cells hZ3)
                    | (go_at_call 67; refine (constant_any _ _ _).mono ?_; rintro r w3 ⟨rfl, hx3⟩; have hZ3 := OpVars.ext (by assumption) hx3; clear hx3; obtain ⟨y1, y2, y3, y4, y5, y6, y7, y8, y9, y10, y11, y12, y13, y14, y15, y16, y17, y18, y19, y20⟩ := OpVars.cells hZ3))
                  refine (negation_new a aa al ac _ h4'.out).mono ?_
                  rintro r w4 ⟨rfl, hx4, hb4⟩
                  have hJ : OpVars w w3 A B 11 wd a b _ _ _ := hZ3
                  obtain ⟨x1, x2, x3, x4, x5, x6, x7, x8, x9, x10, x11, x12, x13, x14, x15, x16, x17, x18, x19, x20⟩ := OpVars.cells (hJ.ext hx4)
                  have HX4 := Lib.hid hx4; have HB4 := Lib.hid hb4; have hs3 : w.heap.size + 1 < w3.heap.size := heap_lt hJ.2.2.1
                  clear hx4 hb4
                  go_wp2_with fail
                  exact cmp_end_new (e := a) rfl rfl hN hJ HX4.out (by omega) HB4.out (by simp [cmpS, E.neg, h4'.out, h_al, h_Wn.out, h_a1, h_b1, h_a0, h_b0]) HKA.out
              | false =>
                go_wp2_with (first
                  | (go_at_call 66; (first | (with_reducible refine (isConst_any a (.agg #[.int .i64 a.op, .int .i64 a.wd, .int .i64 a.n, .slice aa al ac]) _ _ (OpVars.va (by assumption))).mono ?_) | (with_reducible refine (isConst_any b (.agg #[.int .i64 b.op, .int .i64 b.wd, .int .i64 b.n, .slice ba bl bc]) _ _ (OpVars.vb (by assumption))).mono ?_)); rintro r w3 ⟨rfl, hx3⟩; have hZ3 := OpVars.ext (by assumption) hx3; clear hx3; obtain ⟨y1, y2, y3, y4, y5, y6, y7, y8, y9, y10, y11, y12, y13, y14, y15, y16, y17, y18, y19, y20⟩ := OpVars.cells hZ3)
                  | (go_at_call 67; refine (constant_any _ _ _).mono ?_; rintro r w3 ⟨rfl, hx3⟩; have hZ3 := OpVars.ext (by assumption) hx3; clear hx3; obtain ⟨y1, y2, y3, y4, y5, y6, y7, y8, y9, y10, y11, y12, y13, y14, y15, y16, y17, y18, y19, y20⟩ := OpVars.cells hZ3))
                exact cmp_end (e' := .mk 11 wd 0 [a, b]) rfl rfl (by assumption) (by simp [cmpS, h_al, h_Wn.out, h_a1, h_b1, h_a0, h_b0]) HKN.out
end Go.Proofs.YtdancokndklpnaaDoor
namespace Go.Proofs.YtdancokndklpnaaDoor
open Go.RowKit

set_option maxRecDepth 100000 in
set_option maxHeartbeats 4000000 in
theorem comparison_12 (N : Nat) (wd : Int) (a b : E) (v : Value) (w : World) (he : EValB N w v (.mk 12 wd 0 [a, b])) :
    Calls Tryd.prog 79 #[v] w (NewN N (cmpS (.mk 12 wd 0 [a, b]) a b) w) := by
  obtain ⟨ea, l, c, rfl, hk⟩ := he.shape
  obtain ⟨b0, o0, rfl, rfl⟩ : ∃ b o, ea = some ⟨b, o, none⟩ ∧ l = 2 := by
    rcases hk with ⟨_, h⟩ | ⟨b, o, cap, h, _⟩
    · cases h
    · cases h; exact ⟨b, o, rfl, rfl⟩
  obtain ⟨aa, al, ac, a0, a1, a2, a3, hka⟩ := hk.get 0 (by simp)
  obtain ⟨ba, bl, bc, p0, p1, p2, p3, hkb⟩ := hk.get 1 (by simp)
  simp only [E.kids_mk, List.getElem_cons_zero, List.getElem_cons_succ, Nat.zero_mul, Nat.add_zero, Nat.one_mul] at a0 a1 a2 a3 p0 p1 p2 p3 hka hkb
  have HKA := Lib.hid hka; have HKB := Lib.hid hkb; have HKN := Lib.hid hk
  have hbs : b0 < w.heap.size := block_lt a0
  have hbs1 : b0 < w.heap.size + 1 := by omega
  have hbs2 : b0 < w.heap.size + 1 + 1 := by omega
  have hbs3 : b0 < w.heap.size + 1 + 1 + 1 := by omega
  clear hka hkb hk he
  simp only [E.op_mk, E.wd_mk, E.n_mk]
  go_enter Tryd.func79, Tryd.ntmps79
  go_upto_region 1 with fail
  go_cut [3, 4] (fun s3 s4 W => ∃ A B : Nat, s3 = .pointer (some ⟨A, 0, none⟩) ∧ s4 = .pointer (some ⟨B, 0, none⟩) ∧ OpVars w W A B 12 wd a b (.slice (some ⟨b0, o0, none⟩) 2 c) (.slice aa al ac) (.slice ba bl bc))
  case first =>
    go_region
    · go_wp2_with fail
      go_meet
      obtain ⟨q0, q1, q2, q3⟩ := heap_of4 w (.cells #[.int .i64 12, .int .i64 wd, .int .i64 0, .slice (some ⟨b0, o0, none⟩) 2 c] 24) (.cells zero4 24) (.cells (cells4 a (.slice aa al ac)) 24) (.cells (cells4 b (.slice ba bl bc)) 24)
      exact ⟨_, _, rfl, rfl, ⟨((((((Ext.refl w).alloc _).alloc _).alloc _).alloc _).drew), HKA.out.kids, HKB.out.kids⟩, q0, q1, q2, q3⟩
    · go_wp2_with fail
      go_meet
      obtain ⟨q0, q1, q2, q3⟩ := heap_of4 w (.cells #[.int .i64 12, .int .i64 wd, .int .i64 0, .slice (some ⟨b0, o0, none⟩) 2 c] 24) (.cells zero4 24) (.cells (cells4 b (.slice ba bl bc)) 24) (.cells (cells4 a (.slice aa al ac)) 24)
      exact ⟨_, _, rfl, rfl, ⟨((((((Ext.refl w).alloc _).alloc _).alloc _).alloc _).drew), HKA.out.kids, HKB.out.kids⟩, q0, q1, q3, q2⟩
  case rest =>
    obtain ⟨A, B, rfl, rfl, hV⟩ := hcut
    clear a0 a1 a2 a3 p0 p1 p2 p3 hbs hbs1 hbs2 hbs3
    go_wp2_with fail
    refine (equal_any a.size a b _ A 0 B 0 (Nat.le_refl _) hV.ia hV.ib).mono ?_
    rintro r w3 ⟨rfl, hx1⟩
    have hV1 := hV.ext hx1
    clear hx1 hV
    have hZ3 := hV1; clear hV1
    obtain ⟨y1, y2, y3, y4, y5, y6, y7, y8, y9, y10, y11, y12, y13, y14, y15, y16, y17, y18, y19, y20⟩ := OpVars.cells hZ3
    cases h_al : a.eqB b with
    | true =>
      go_wp2_with (first
        | (go_at_call 66; (first | (with_reducible refine (isConst_any a (.agg #[.int .i64 a.op, .int .i64 a.wd, .int .i64 a.n, .slice aa al ac]) _ _ (OpVars.va (by assumption))).mono ?_) | (with_reducible refine (isConst_any b (.agg #[.int .i64 b.op, .int .i64 b.wd, .int .i64 b.n, .slice ba bl bc]) _ _ (OpVars.vb (by assumption))).mono ?_)); rintro r w3 ⟨rfl, hx3⟩; have hZ3 := OpVars.ext (by assumption) hx3; clear hx3; obtain ⟨y1, y2, y3, y4, y5, y6, y7, y8, y9, y10, y11, y12, y13, y14, y15, y16, y17, y18, y19, y20⟩ := OpVars.cells hZ3)
        | (go_at_call 67; refine (constant_any _ _ _).mono ?_; rintro r w3 ⟨rfl, hx3⟩; have hZ3 := OpVars.ext (by assumption) hx3; clear hx3; obtain ⟨y1, y2, y3, y4, y5, y6, y7, y8, y9, y10, y11, y12, y13, y14, y15, y16, y17, y18, y19, y20⟩ := OpVars.cells hZ3))
      exact cmp_end (e' := constE 0 1) rfl rfl (by assumption) (by simp [cmpS, h_al]) (kidsB_nil _ _)
    | false =>
      cases h_b0 : b.isC 0 with
      | true =>
        go_wp2_with (first
          | (go_at_call 66; (first | (with_reducible refine (isConst_any a (.agg #[.int .i64 a.op, .int .i64 a.wd, .int .i64 a.n, .slice aa al ac]) _ _ (OpVars.va (by assumption))).mono ?_) | (with_reducible refine (isConst_any b (.agg #[.int .i64 b.op, .int .i64 b.wd, .int .i64 b.n, .slice ba bl bc]) _ _ (OpVars.vb (by assumption))).mono ?_)); rintro r w3 ⟨rfl, hx3⟩; have hZ3 := OpVars.ext (by assumption) hx3; clear hx3; obtain ⟨y1, y2, y3, y4, y5, y6, y7, y8, y9, y10, y11, y12, y13, y14, y15, y16, y17, y18, y19, y20⟩ := OpVars.cells hZ3)
          | (go_at_call 67; refine (constant_any _ _ _).mono ?_; rintro r w3 ⟨rfl, hx3⟩; have hZ3 := OpVars.ext (by assumption) hx3; clear hx3; obtain ⟨y1, y2, y3, y4, y5, y6, y7, y8, y9, y10, y11, y12, y13, y14, y15, y16, y17, y18, y19, y20⟩ := OpVars.cells hZ3))
        exact cmp_end (e' := constE 0 1) rfl rfl (by assumption) (by simp [cmpS, h_al, h_b0]) (kidsB_nil _ _)
      | false =>
        go_wp2_with (first
          | (go_at_call 66; (first | (with_reducible refine (isConst_any a (.agg #[.int .i64 a.op, .int .i64 a.wd, .int .i64 a.n, .slice aa al ac]) _ _ (OpVars.va (by assumption))).mono ?_) | (with_reducible refine (isConst_any b (.agg #[.int .i64 b.op, .int .i64 b.wd, .int .i64 b.n, .slice ba bl bc]) _ _ (OpVars.vb (by assumption))).mono ?_)); rintro r w3 ⟨rfl, hx3⟩; have hZ3 := OpVars.ext (by assumption) hx3; clear hx3; obtain ⟨y1, y2, y3, y4, y5, y6, y7, y8, y9, y10, y11, y12, y13, y14, y15, y16, y17, y18, y19, y20⟩ := OpVars.cells hZ3)
          | (go_at_call 67; refine (constant_any _ _ _).mono ?_; rintro r w3 ⟨rfl, hx3⟩; have hZ3 := OpVars.ext (by assumption) hx3; clear hx3; obtain ⟨y1, y2, y3, y4, y5, y6, y7, y8, y9, y10, y11, y12, y13, y14, y15, y16, y17, y18, y19, y20⟩ := OpVars.cells hZ3))
        exact cmp_end (e' := .mk 12 wd 0 [a, b]) rfl rfl (by assumption) (by simp [cmpS, h_al, h_b0]) HKN.out
end Go.Proofs.YtdancokndklpnaaDoor
namespace Go.Proofs.YtdancokndklpnaaDoor
open Go.RowKit

set_option maxRecDepth 100000 in
set_option maxHeartbeats 4000000 in
theorem comparison_13 (N : Nat) (wd : Int) (a b : E) (v : Value) (w : World) (he : EValB N w v (.mk 13 wd 0 [a, b])) (hM : Masks w) (hbw : 1 ≤ b.wd ∧ b.wd ≤ 8) :
    Calls Tryd.prog 79 #[v] w (NewN N (cmpS (.mk 13 wd 0 [a, b]) a b) w) := by
  obtain ⟨ea, l, c, rfl, hk⟩ := he.shape
  obtain ⟨b0, o0, rfl, rfl⟩ : ∃ b o, ea = some ⟨b, o, none⟩ ∧ l = 2 := by
    rcases hk with ⟨_, h⟩ | ⟨b, o, cap, h, _⟩
    · cases h
    · cases h; exact ⟨b, o, rfl, rfl⟩
  obtain ⟨aa, al, ac, a0, a1, a2, a3, hka⟩ := hk.get 0 (by simp)
  obtain ⟨ba, bl, bc, p0, p1, p2, p3, hkb⟩ := hk.get 1 (by simp)
  simp only [E.kids_mk, List.getElem_cons_zero, List.getElem_cons_succ, Nat.zero_mul, Nat.add_zero, Nat.one_mul] at a0 a1 a2 a3 p0 p1 p2 p3 hka hkb
  have HKA := Lib.hid hka; have HKB := Lib.hid hkb; have HKN := Lib.hid hk
  have hbs : b0 < w.heap.size := block_lt a0
  have hbs1 : b0 < w.heap.size + 1 := by omega
  have hbs2 : b0 < w.heap.size + 1 + 1 := by omega
  have hbs3 : b0 < w.heap.size + 1 + 1 + 1 := by omega
  clear hka hkb hk he
  simp only [E.op_mk, E.wd_mk, E.n_mk]
  go_enter Tryd.func79, Tryd.ntmps79
  go_upto_region 1 with fail
  go_cut [3, 4] (fun s3 s4 W => ∃ A B : Nat, s3 = .pointer (some ⟨A, 0, none⟩) ∧ s4 = .pointer (some ⟨B, 0, none⟩) ∧ OpVars w W A B 13 wd a b (.slice (some ⟨b0, o0, none⟩) 2 c) (.slice aa al ac) (.slice ba bl bc))
  case first =>
    go_region
    · go_wp2_with fail
      go_meet
      obtain ⟨q0, q1, q2, q3⟩ := heap_of4 w (.cells #[.int .i64 13, .int .i64 wd, .int .i64 0, .slice (some ⟨b0, o0, none⟩) 2 c] 24) (.cells zero4 24) (.cells (cells4 a (.slice aa al ac)) 24) (.cells (cells4 b (.slice ba bl bc)) 24)
      exact ⟨_, _, rfl, rfl, ⟨((((((Ext.refl w).alloc _).alloc _).alloc _).alloc _).drew), HKA.out.kids, HKB.out.kids⟩, q0, q1, q2, q3⟩
    · go_wp2_with fail
      go_meet
      obtain ⟨q0, q1, q2, q3⟩ := heap_of4 w (.cells #[.int .i64 13, .int .i64 wd, .int .i64 0, .slice (some ⟨b0, o0, none⟩) 2 c] 24) (.cells zero4 24) (.cells (cells4 b (.slice ba bl bc)) 24) (.cells (cells4 a (.slice aa al ac)) 24)
      exact ⟨_, _, rfl, rfl, ⟨((((((Ext.refl w).alloc _).alloc _).alloc _).alloc _).drew), HKA.out.kids, HKB.out.kids⟩, q0, q1, q3, q2⟩
  case rest =>
    obtain ⟨A, B, rfl, rfl, hV⟩ := hcut
    clear a0 a1 a2 a3 p0 p1 p2 p3 hbs hbs1 hbs2 hbs3
    go_wp2_with fail
    refine (equal_any a.size a b _ A 0 B 0 (Nat.le_refl _) hV.ia hV.ib).mono ?_
    rintro r w3 ⟨rfl, hx1⟩
    have hV1 := hV.ext hx1
    clear hx1 hV
    have hZ3 := hV1; clear hV1
    obtain ⟨y1, y2, y3, y4, y5, y6, y7, y8, y9, y10, y11, y12, y13, y14, y15, y16, y17, y18, y19, y20⟩ := OpVars.cells hZ3
    cases h_al : a.eqB b with
    | true =>
      go_wp2_with (first
        | (go_at_call 66; (first | (with_reducible refine (isConst_any a (.agg #[.int .i64 a.op, .int .i64 a.wd, .int .i64 a.n, .slice aa al ac]) _ _ (OpVars.va (by assumption))).mono ?_) | (with_reducible refine (isConst_any b (.agg #[.int .i64 b.op, .int .i64 b.wd, .int .i64 b.n, .slice ba bl bc]) _ _ (OpVars.vb (by assumption))).mono ?_)); rintro r w3 ⟨rfl, hx3⟩; have hZ3 := OpVars.ext (by assumption) hx3; clear hx3; obtain ⟨y1, y2, y3, y4, y5, y6, y7, y8, y9, y10, y11, y12, y13, y14, y15, y16, y17, y18, y19, y20⟩ := OpVars.cells hZ3)
        | (go_at_call 90; (with_reducible refine (isOnes_any b (.agg #[.int .i64 b.op, .int .i64 b.wd, .int .i64 b.n, .slice ba bl bc]) _ (OpVars.vb (by assumption)) (hM.ext (OpVars.ext0 (by assumption))) hbw.1 hbw.2).mono ?_); rintro r w3 ⟨rfl, hx3⟩; have hZ3 := OpVars.ext (by assumption) hx3; clear hx3; obtain ⟨y1, y2, y3, y4, y5, y6, y7, y8, y9, y10, y11, y12, y13, y14, y15, y16, y17, y18, y19, y20⟩ := OpVars.cells hZ3)
        | (go_at_call 67; refine (constant_any _ _ _).mono ?_; rintro r w3 ⟨rfl, hx3⟩; have hZ3 := OpVars.ext (by assumption) hx3; clear hx3; obtain ⟨y1, y2, y3, y4, y5, y6, y7, y8, y9, y10, y11, y12, y13, y14, y15, y16, y17, y18, y19, y20⟩ := OpVars.cells hZ3))
      exact cmp_end (e' := constE 1 1) rfl rfl (by assumption) (by simp [cmpS, h_al]) (kidsB_nil _ _)
    | false =>
      cases h_a0 : a.isC 0 with
      | true =>
        go_wp2_with (first
          | (go_at_call 66; (first | (with_reducible refine (isConst_any a (.agg #[.int .i64 a.op, .int .i64 a.wd, .int .i64 a.n, .slice aa al ac]) _ _ (OpVars.va (by assumption))).mono ?_) | (with_reducible refine (isConst_any b (.agg #[.int .i64 b.op, .int .i64 b.wd, .int .i64 b.n, .slice ba bl bc]) _ _ (OpVars.vb (by assumption))).mono ?_)); rintro r w3 ⟨rfl, hx3⟩; have hZ3 := OpVars.ext (by assumption) hx3; clear hx3; obtain ⟨y1, y2, y3, y4, y5, y6, y7, y8, y9, y10, y11, y12, y13, y14, y15, y16, y17, y18, y19, y20⟩ := OpVars.cells hZ3)
          | (go_at_call 90; (with_reducible refine (isOnes_any b (.agg #[.int .i64 b.op, .int .i64 b.wd, .int .i64 b.n, .slice ba bl bc]) _ (OpVars.vb (by assumption)) (hM.ext (OpVars.ext0 (by assumption))) hbw.1 hbw.2).mono ?_); rintro r w3 ⟨rfl, hx3⟩; have hZ3 := OpVars.ext (by assumption) hx3; clear hx3; obtain ⟨y1, y2, y3, y4, y5, y6, y7, y8, y9, y10, y11, y12, y13, y14, y15, y16, y17, y18, y19, y20⟩ := OpVars.cells hZ3)
          | (go_at_call 67; refine (constant_any _ _ _).mono ?_; rintro r w3 ⟨rfl, hx3⟩; have hZ3 := OpVars.ext (by assumption) hx3; clear hx3; obtain ⟨y1, y2, y3, y4, y5, y6, y7, y8, y9, y10, y11, y12, y13, y14, y15, y16, y17, y18, y19, y20⟩ := OpVars.cells hZ3))
        exact cmp_end (e' := constE 1 1) rfl rfl (by assumption) (by simp [cmpS, h_al, h_a0]) (kidsB_nil _ _)
      | false =>
        cases h_bO : b.isC (pw b.wd - 1) with
        | true =>
          go_wp2_with (first
            | (go_at_call 66; (first | (with_reducible refine (isConst_any a (.agg #[.int .i64 a.op, .int .i64 a.wd, .int .i64 a.n, .slice aa al ac]) _ _ (OpVars.va (by assumption))).mono ?_) | (with_reducible refine (isConst_any b (.agg #[.int .i64 b.op, .int .i64 b.wd, .int .i64 b.n, .slice ba bl bc]) _ _ (OpVars.vb (by assumption))).mono ?_)); rintro r w3 ⟨rfl, hx3⟩; have hZ3 := OpVars.ext (by assumption) hx3; clear hx3; obtain ⟨y1, y2, y3, y4, y5, y6, y7, y8, y9, y10, y11, y12, y13, y14, y15, y16, y17, y18, y19, y20⟩ := OpVars.cells hZ3)
            | (go_at_call 90; (with_reducible refine (isOnes_any b (.agg #[.int .i64 b.op, .int .i64 b.wd, .int .i64 b.n, .slice ba bl bc]) _ (OpVars.vb (by assumption)) (hM.ext (OpVars.ext0 (by assumption))) hbw.1 hbw.2).mono ?_); rintro r w3 ⟨rfl, hx3⟩; have hZ3 := OpVars.ext (by assumption) hx3; clear hx3; obtain ⟨y1, y2, y3, y4, y5, y6, y7, y8, y9, y10, y11, y12, y13, y14, y15, y16, y17, y18, y19, y20⟩ := OpVars.cells hZ3)
            | (go_at_call 67; refine (constant_any _ _ _).mono ?_; rintro r w3 ⟨rfl, hx3⟩; have hZ3 := OpVars.ext (by assumption) hx3; clear hx3; obtain ⟨y1, y2, y3, y4, y5, y6, y7, y8, y9, y10, y11, y12, y13, y14, y15, y16, y17, y18, y19, y20⟩ := OpVars.cells hZ3))
          exact cmp_end (e' := constE 1 1) rfl rfl (by assumption) (by simp [cmpS, h_al, h_a0, h_bO]) (kidsB_nil _ _)
        | false =>
          go_wp2_with (first
            | (go_at_call 66; (first | (with_reducible refine (isConst_any a (.agg #[.int .i64 a.op, .int .i64 a.wd, .int .i64 a.n, .slice aa al ac]) _ _ (OpVars.va (by assumption))).mono ?_) | (with_reducible refine (isConst_any b (.agg #[.int .i64 b.op, .int .i64 b.wd, .int .i64 b.n, .slice ba bl bc]) _ _ (OpVars.vb (by assumption))).mono ?_)); rintro r w3 ⟨rfl, hx3⟩; have hZ3 := OpVars.ext (by assumption) hx3; clear hx3; obtain ⟨y1, y2, y3, y4, y5, y6, y7, y8, y9, y10, y11, y12, y13, y14, y15, y16, y17, y18, y19, y20⟩ := OpVars.cells hZ3)
            | (go_at_call 90; (with_reducible refine (isOnes_any b (.agg #[.int .i64 b.op, .int .i64 b.wd, .int .i64 b.n, .slice ba bl bc]) _ (OpVars.vb (by assumption)) (hM.ext (OpVars.ext0 (by assumption))) hbw.1 hbw.2).mono ?_); rintro r w3 ⟨rfl, hx3⟩; have hZ3 := OpVars.ext (by assumption) hx3; clear hx3; obtain ⟨y1, y2, y3, y4, y5, y6, y7, y8, y9, y10, y11, y12, y13, y14, y15, y16, y17, y18, y19, y20⟩ := OpVars.cells hZ3)
            | (go_at_call 67; refine (constant_any _ _ _).mono ?_; rintro r w3 ⟨rfl, hx3⟩; have hZ3 := OpVars.ext (by assumption) hx3; clear hx3; obtain ⟨y1, y2, y3, y4, y5, y6, y7, y8, y9, y10, y11, y12, y13, y14, y15, y16, y17, y18, y19, y20⟩ := OpVars.cells hZ3))
          exact cmp_end (e' := .mk 13 wd 0 [a, b]) rfl rfl (by assumption) (by simp [cmpS, h_al, h_a0, h_bO]) HKN.out
end Go.Proofs.YtdancokndklpnaaDoor
