/-
  law32's text.
  What the first check of law32 computes: plain.
  The plain laws of law32's statements. No program in sight.
-/
import Derived.Test.YtlcgbdjmlnjhcaaGreatDoorG36
import Derived.Test.YtlcgbdjmlnjhcaaGreatDoorG17
namespace Go.Proofs.YtlcgbdjmlnjhcaaGreatDoor
open Go.RowKit
attribute [local go_sem] Oper.semAt_some

def cells2 : List CellD := [⟨⟨#[120]⟩, 2, 0, -1, false, 0⟩, ⟨⟨#[121]⟩, 2, 0, -1, false, 0⟩]
theorem cells_twoH {W : World} {B : Nat} {t : TypeId} {s1 s2 : ByteArray} {x1 x2 y1 y2 : Int} (hb : W.heap[B]? = some (.cells #[.string s1, .int .i64 x1, .int .i64 0, .int .i64 y1, .bool false, .int .i64 0, .string s2, .int .i64 x2, .int .i64 0, .int .i64 y2, .bool false, .int .i64 0] t (0, 0))) : Cells W (.slice (some ⟨B, 0, none⟩) 2 2) [⟨s1, x1, 0, y1, false, 0⟩, ⟨s2, x2, 0, y2, false, 0⟩] := by
  refine .inr ⟨B, 0, 2, rfl, by simp, fun i h => ?_⟩
  have : i = 0 ∨ i = 1 := by simp at h; omega
  rcases this with rfl | rfl <;> simp [CellAt, World.cell?, hb]
def errText : List UInt8 := [101, 114, 114, 111, 114]
def textR (h g : E) : List UInt8 := if (weakR cells2 h g).2 = 0 then (weakR cells2 h g).1.textTop else errText

set_option maxRecDepth 100000 in
set_option maxHeartbeats 4000000 in
theorem text_any (h g : E) (v1 v2 : Value) (w : World) (h1 : EVal w v1 h) (h2 : EVal w v2 g) (hM : Masks w) (hN : Names w) (hP : Pow10 w) (hsm : condF cells2 h = true → condF cells2 g = true → sumI (wOf cells2 (hOld cells2 h g)) + sumI (wOf cells2 (hNow cells2 h g)) ≤ 12) :
    Calls Tryz.prog 28 #[v1, v2] w fun r w' => r = .returned (.string ⟨(textR h g).toArray⟩) ∧ Ext w w' := by
  obtain ⟨k1, rfl, e1⟩ := h1
  obtain ⟨k2, rfl, e2⟩ := h2
  obtain ⟨a1, c1, rfl⟩ := SliceAt.shape e1
  obtain ⟨a2, c2, rfl⟩ := SliceAt.shape e2
  have HE1 := Lib.hid e1; have HE2 := Lib.hid e2; have HM := Lib.hid hM; have HN := Lib.hid hN; have HP := Lib.hid hP; have HSM := Lib.hid hsm
  clear e1 e2 hM hN hP hsm
  obtain ⟨W, hW⟩ : ∃ W, Boxes3 w W (.cells #[.int .i64 h.op, .int .i64 h.wd, .int .i64 h.n, .slice a1 h.kids.length c1] 25) (.cells #[.int .i64 g.op, .int .i64 g.wd, .int .i64 g.n, .slice a2 g.kids.length c2] 25)
    (.cells #[.string ⟨#[120]⟩, .int .i64 2, .int .i64 0, .int .i64 (-1), .bool false, .int .i64 0, .string ⟨#[121]⟩, .int .i64 2, .int .i64 0, .int .i64 (-1), .bool false, .int .i64 0] 57) := ⟨_, Boxes3.mk' _ _ _ _⟩
  have HC : Hid (Cells W (.slice (some ⟨w.heap.size + 1 + 1, 0, none⟩) 2 2) cells2) := cells_twoH hW.b2
  have HV : Hid (CondV W (.agg #[.string ⟨#[]⟩, .int .i64 0, .int .i64 0, .int .i64 0, .int .i64 0, .int .i64 0, .int .i64 h.op, .int .i64 h.wd, .int .i64 h.n, .slice a1 h.kids.length c1, .int .i64 g.op, .int .i64 g.wd, .int .i64 g.n, .slice a2 g.kids.length c2]) ⟨[], 0, 0, 0, 0, 0, h, g⟩) :=
    ⟨_, _, _, _, _, _, rfl, ⟨_, rfl, HE1.out.ext hW.ext⟩, ⟨_, rfl, HE2.out.ext hW.ext⟩⟩
  have HX := Lib.hid hW.ext; have HW := Lib.hid hW.eq
  have HWK := Lib.hid (Weakest_any ⟨[], 0, 0, 0, 0, 0, h, g⟩ cells2 _ _ W HV.out HC.out (HM.out.ext hW.ext) HSM.out)
  have HT : Hid (textR h g = if (weakR cells2 h g).2 = 0 then (weakR cells2 h g).1.textTop else errText) := rfl
  have HN1 := Lib.hid (HN.out.ext hW.ext); have HP1 := Lib.hid (HP.out.ext hW.ext); have HM1 := Lib.hid (HM.out.ext hW.ext)
  clear hW
  go_enter Tryz.func28, Tryz.ntmps28
  go_wp2_with fail
  rw [← HW.out]
  clear HW
  refine HWK.out.mono ?_
  rintro r w1 ⟨⟨v, rfl, hv⟩, x1⟩
  simp only [] at hv ⊢
  generalize weakR cells2 h g = q at *
  obtain ⟨qe, qn⟩ := q
  simp only [] at hv HT ⊢
  obtain ⟨k3, rfl, e3⟩ := hv
  obtain ⟨a3, c3, rfl⟩ := SliceAt.shape e3
  have HE3 := Lib.hid e3; have X1 := Lib.hid x1
  clear e3 x1 HWK HV HSM
  by_cases hq : qn = 0
  · subst hq
    rw [if_pos rfl] at HT
    have HX3 : Hid (∀ x, Ext w1 (w1.alloc x)) := fun x => (Ext.refl _).alloc x
    go_wp2_with fail
    refine (Text_any qe _ _ ⟨_, rfl, HE3.out.ext (by first | exact HX3.out _ | exact Ext.refl _)⟩ ((HM1.out.ext X1.out).ext (by first | exact HX3.out _ | exact Ext.refl _)) ((HN1.out.ext X1.out).ext (by first | exact HX3.out _ | exact Ext.refl _)) ((HP1.out.ext X1.out).ext (by first | exact HX3.out _ | exact Ext.refl _))).mono ?_
    rintro r w2 ⟨rfl, x2⟩
    have X2 : Hid (Ext w1 w2) := by first | exact (HX3.out _).trans x2 | exact x2
    clear x2
    go_wp2_with fail
    go_ret
    exact ⟨by rw [HT.out]; rfl, HX.out.trans (X1.out.trans X2.out)⟩
  · rw [if_neg hq] at HT
    have hb : (qn != 0) = true := by rw [bne_iff_ne]; exact hq
    have HX3 : Hid (∀ x, Ext w1 (w1.alloc x)) := fun x => (Ext.refl _).alloc x
    clear hq
    go_wp2_with fail
    go_ret
    exact ⟨by rw [HT.out]; rfl, HX.out.trans (by first | exact X1.out.trans (HX3.out _) | exact X1.out)⟩
end Go.Proofs.YtlcgbdjmlnjhcaaGreatDoor
namespace Go.Proofs.YtlcgbdjmlnjhcaaGreatDoor
open Go.RowKit

def gOne : E := .mk 1 1 1 []
def gX : E := .mk 2 2 0 []
def gY : E := .mk 2 2 1 []
def gO : E := .mk 3 2 0 []
def gN (k : Int) : E := .mk 1 2 k []
def gTwo (op : Int) (a b : E) : E := .mk op 1 0 [a, b]
theorem hd_t1 : textR gOne (gTwo 12 gX (gN 2)) = [105, 116, 101, 40, 108, 101, 40, 99, 48, 58, 50, 44, 49, 58, 50, 41, 44, 49, 58, 49, 44, 48, 58, 49, 41] := by kernel_rfl
theorem hd_t2 : textR (gTwo 13 gO gX) (gTwo 13 (gN 1) gX) = [105, 116, 101, 40, 108, 101, 40, 111, 48, 58, 50, 44, 48, 58, 50, 41, 44, 48, 58, 49, 44, 49, 58, 49, 41] := by kernel_rfl
theorem hd_t3 : textR gOne (gTwo 11 gO gX) = [48, 58, 49] := by kernel_rfl
theorem hd_t4 : textR (gTwo 11 gX gY) (gTwo 11 gY gX) = [49, 58, 49] := by kernel_rfl
theorem hd_t5 : textR gX gOne = [101, 114, 114, 111, 114] := by kernel_rfl
def bitsH (h g : E) : Int := sumI (wOf cells2 (hOld cells2 h g)) + sumI (wOf cells2 (hNow cells2 h g))
theorem hd_s1 : bitsH gOne (gTwo 12 gX (gN 2)) = 2 := by kernel_rfl
theorem hd_s2 : bitsH (gTwo 13 gO gX) (gTwo 13 (gN 1) gX) = 4 := by kernel_rfl
theorem hd_s3 : bitsH gOne (gTwo 11 gO gX) = 4 := by kernel_rfl
theorem hd_s4 : bitsH (gTwo 11 gX gY) (gTwo 11 gY gX) = 4 := by kernel_rfl
theorem hd_s5 : bitsH gX gOne = 2 := by kernel_rfl
def gC : CondS := ⟨[97], 0, 0, 0, 0, 0, gTwo 11 gX gY, gOne⟩
theorem hd_d1 : (strC gC (gTwo 12 gX gY)).id = [97] := by kernel_rfl
theorem hd_d2 : (strC gC (gTwo 12 gX gY)).hyp.textTop = [97, 110, 100, 40, 101, 113, 40, 99, 48, 58, 50, 44, 99, 49, 58, 50, 41, 44, 108, 116, 40, 99, 48, 58, 50, 44, 99, 49, 58, 50, 41, 41] := by kernel_rfl
theorem hd_d3 : (strC gC gX).id = [] := by kernel_rfl
theorem hd_e : exprS [0] [1] [0, 1] = gOne := by kernel_rfl
def cellsN : List CellD := [⟨⟨#[]⟩, 2, 0, 0, false, 0⟩, ⟨⟨#[]⟩, 2, 0, 0, false, 0⟩]
theorem hd_c1 : (condF cellsN gC.hyp && condF cellsN gC.goal) = true := by kernel_rfl
theorem hd_c2 : sumI (wOf cellsN (hOld cellsN gC.hyp gC.goal)) + sumI (wOf cellsN (hNow cellsN gC.hyp gC.goal)) = 4 := by kernel_rfl
theorem hd_v (old now : List Int) : violB gC.hyp gC.goal old now = false := by
  have h : gC.goal.eval old now = 1 := by rfl
  unfold violB
  rw [h]; simp
end Go.Proofs.YtlcgbdjmlnjhcaaGreatDoor
namespace Go.Proofs.YtlcgbdjmlnjhcaaGreatDoor
open Go.RowKit

/-! ### The join of two conditions -/
theorem condE_iff {e : E} : condE e = true ↔ e.wf = true ∧ e.wd = 1 := by
  unfold condE
  rw [Bool.and_eq_true, beq_iff_eq]
  exact ⟨fun h => ⟨h.2, h.1⟩, fun h => ⟨h.2, h.1⟩⟩
theorem form_condE {cells : List CellD} {e : E} (h : formC cells e) : condE e = true := by
  obtain ⟨h1, h2⟩ := h
  simp only [E.valid, Bool.and_eq_true] at h1
  exact condE_iff.2 ⟨h1.1, h2⟩
theorem wf_deep40 {e : E} (h : e.wf = true) : e.deep 40 = true := by
  simp only [E.wf, Bool.and_eq_true] at h
  exact h.2
theorem bit_of {e : E} (h : condE e = true) (old now : List Int) : e.eval old now = e.val old now ∧ (e.val old now = 0 ∨ e.val old now = 1) := by
  obtain ⟨h1, h2⟩ := condE_iff.1 h
  have := val_range old now e 40 (wf_deep40 h1)
  rw [h2, show pw 1 = 2 by simp [pw]] at this
  refine ⟨by unfold E.eval; rw [if_pos h1], by omega⟩
theorem isC_iff1 {e : E} {c : Int} : e.isC c = true ↔ e.op = 1 ∧ e.n = c := by simp [E.isC]
theorem isC_eq {e : E} {u : Int} (hw : condE e = true) (h : e.isC u = true) : e = constE u 1 := by
  obtain ⟨h1, h2⟩ := condE_iff.1 hw
  have hd := wf_deep40 h1
  obtain ⟨op, wd, n, ks⟩ := e
  obtain ⟨h3, h4⟩ := isC_iff1.1 h
  simp only [E.op_mk, E.n_mk] at h3 h4
  subst h3 h4
  simp only [E.wd_mk] at h2
  subst h2
  have := (deepParts hd).2.1
  have hk : ks = [] := by
    have := (shaped_kids this).2 (.inl rfl)
    simpa using this
  subst hk; rfl
theorem const_wf {u : Int} (h0 : 0 ≤ u) (h1 : u ≤ 1) : (constE u 1).wf = true := by
  have : u = 0 ∨ u = 1 := by omega
  rcases this with rfl | rfl <;> rfl
theorem const_eval (u : Int) (h0 : 0 ≤ u) (h1 : u ≤ 1) (old now : List Int) : (constE u 1).eval old now = u := by
  unfold E.eval; rw [if_pos (const_wf h0 h1)]; simp [constE, E.val]
theorem wf_op {e : E} (h : e.wf = true) : e.op ≠ 0 := by
  have hd := wf_deep40 h
  obtain ⟨op, wd, n, ks⟩ := e
  simp only [E.op_mk]
  rintro rfl
  simp [E.deep, shapedW] at hd
/-- What connect makes of two conditions. -/
theorem two_cases (a b : E) : ((a.isC 0 = true ∨ b.isC 0 = true) ∧ connectS [a, b] 5 1 = constE 0 1) ∨ (a.isC 0 = false ∧ b.isC 0 = false ∧
    ((a.isC 1 = true ∧ b.isC 1 = true ∧ connectS [a, b] 5 1 = constE 1 1) ∨ (a.isC 1 = true ∧ b.isC 1 = false ∧ connectS [a, b] 5 1 = b) ∨
     (a.isC 1 = false ∧ b.isC 1 = true ∧ connectS [a, b] 5 1 = a) ∨ (a.isC 1 = false ∧ b.isC 1 = false ∧ connectS [a, b] 5 1 = .mk 5 1 0 [a, b]))) := by
  have e0 : (1 : Int) - 1 = 0 := by omega
  unfold connectS decOf keptOf
  rw [e0]
  cases h1 : a.isC 0 <;> cases h2 : b.isC 0 <;> cases h3 : a.isC 1 <;> cases h4 : b.isC 1 <;> simp [h1, h2, h3, h4, foldE]
/-- A join of two conditions. -/
structure JoinS (a b z : E) : Prop where
  wf : z.wf = true
  wd : z.wd = 1
  ca : condE a = true
  cb : condE b = true
  ev : ∀ old now, z.eval old now = 1 ↔ a.eval old now = 1 ∧ b.eval old now = 1
  sub : ∀ x ∈ z.leaves, x.op = 1 ∨ x ∈ a.leaves ∨ x ∈ b.leaves
  zero : z.isC 0 = (a.isC 0 || b.isC 0)
  all : z.isC 0 = false → ∀ x : E, x.op ≠ 1 → (x ∈ z.leaves ↔ x ∈ a.leaves ∨ x ∈ b.leaves)
theorem const_leaf {u : Int} {x : E} (h : x ∈ (constE u 1).leaves) : x.op = 1 := by
  rw [constE, leaves_nil, List.mem_singleton] at h
  rw [h]; rfl
theorem const_leaf' {e : E} {u : Int} (hw : condE e = true) (h : e.isC u = true) {x : E} (hx : x.op ≠ 1) : x ∉ e.leaves := fun hm => hx (const_leaf (u := u) (by rw [← isC_eq hw h]; exact hm))
theorem isC_const (u v : Int) : (constE u 1).isC v = decide (u = v) := by
  rw [Bool.eq_iff_iff, isC_iff1, decide_eq_true_iff]
  exact ⟨fun h => h.2, fun h => ⟨rfl, h⟩⟩
theorem connectZ_two {a b : E} (h : (connectZ [a, b] 5 1).op ≠ 0) : condE a = true ∧ condE b = true ∧ (connectS [a, b] 5 1).wf = true ∧ connectZ [a, b] 5 1 = connectS [a, b] 5 1 := by
  unfold connectZ at h ⊢
  by_cases hc : [a, b].all condE = true
  · rw [if_pos hc] at h ⊢
    simp only [List.all_cons, List.all_nil, Bool.and_true, Bool.and_eq_true] at hc
    unfold zeroIf at h ⊢
    by_cases hw : (connectS [a, b] 5 1).wf = true
    · rw [if_pos hw]; exact ⟨hc.1, hc.2, hw, rfl⟩
    · rw [if_neg hw] at h; exact absurd rfl h
  · rw [if_neg hc] at h; exact absurd rfl h
theorem join_law {a b : E} (h : (connectZ [a, b] 5 1).op ≠ 0) : JoinS a b (connectZ [a, b] 5 1) := by
  obtain ⟨ca, cb, hw, e⟩ := connectZ_two h
  rw [e]
  have va := fun old now => bit_of ca old now
  have vb := fun old now => bit_of cb old now
  have i1 : ∀ {e : E} {u : Int} (_ : condE e = true) (_ : e.isC u = true) (_ : 0 ≤ u ∧ u ≤ 1) (old now : List Int), e.eval old now = u := fun hc hi hu old now => by
    rw [isC_eq hc hi]; exact const_eval _ hu.1 hu.2 old now
  have l1 : ∀ {e : E} {u : Int} (_ : condE e = true) (_ : e.isC u = true) (x : E), x.op ≠ 1 → x ∉ e.leaves := fun hc hi x hx => const_leaf' hc hi hx
  rcases two_cases a b with ⟨h0, hz⟩ | ⟨n1, n2, h1⟩
  · rw [hz]
    refine ⟨const_wf (by omega) (by omega), rfl, ca, cb, fun old now => ?_, fun x hx => .inl (const_leaf hx), ?_, fun hf => by rw [isC_const] at hf; simp at hf⟩
    · rw [const_eval 0 (by omega) (by omega)]
      constructor
      · intro h; omega
      · rintro ⟨h1, h2⟩
        rcases h0 with h0 | h0
        · rw [i1 ca h0 (by omega)] at h1; exact h1
        · rw [i1 cb h0 (by omega)] at h2; exact h2
    · rw [isC_const]
      rcases h0 with h0 | h0 <;> simp [h0]
  · have hzf : (a.isC 0 || b.isC 0) = false := by rw [n1, n2]; rfl
    rcases h1 with ⟨h3, h4, hz⟩ | ⟨h3, h4, hz⟩ | ⟨h3, h4, hz⟩ | ⟨h3, h4, hz⟩
    · rw [hz]
      refine ⟨const_wf (by omega) (by omega), rfl, ca, cb, fun old now => ?_, fun x hx => .inl (const_leaf hx), by rw [hzf, isC_const]; rfl, fun _ x hx => ?_⟩
      · rw [const_eval 1 (by omega) (by omega), i1 ca h3 (by omega), i1 cb h4 (by omega)]; simp
      · exact ⟨fun hm => absurd (const_leaf hm) hx, fun hm => by rcases hm with hm | hm; exact absurd hm (l1 ca h3 x hx); exact absurd hm (l1 cb h4 x hx)⟩
    · rw [hz] at hw ⊢
      refine ⟨hw, (condE_iff.1 cb).2, ca, cb, fun old now => ?_, fun x hx => .inr (.inr hx), by rw [hzf, n2], fun _ x hx => ?_⟩
      · rw [i1 ca h3 (by omega)]; simp
      · exact ⟨fun hm => .inr hm, fun hm => hm.elim (fun hm => absurd hm (l1 ca h3 x hx)) id⟩
    · rw [hz] at hw ⊢
      refine ⟨hw, (condE_iff.1 ca).2, ca, cb, fun old now => ?_, fun x hx => .inr (.inl hx), by rw [hzf, n1], fun _ x hx => ?_⟩
      · rw [i1 cb h4 (by omega)]; simp
      · exact ⟨fun hm => .inl hm, fun hm => hm.elim id (fun hm => absurd hm (l1 cb h4 x hx))⟩
    · rw [hz] at hw ⊢
      have hl : (E.mk 5 1 0 [a, b]).leaves = a.leaves ++ b.leaves := by rw [leaves_cons (by simp)]; simp [leavesAll]
      refine ⟨hw, rfl, ca, cb, fun old now => ?_, fun x hx => ?_, by rw [hzf]; rfl, fun _ x hx => ?_⟩
      · have e1 : (E.mk 5 1 0 [a, b]).eval old now = applyS 5 (a.val old now) (b.val old now) 0 % pw 1 := by
          unfold E.eval
          rw [if_pos hw, E.val, if_neg (by omega), if_neg (by omega), if_neg (by omega)]; simp [valAll]
        obtain ⟨q1, q2⟩ := va old now
        obtain ⟨q3, q4⟩ := vb old now
        rw [e1, q1, q3, show pw 1 = 2 by simp [pw]]
        rcases q2 with q2 | q2 <;> rcases q4 with q4 | q4 <;> rw [q2, q4] <;> decide
      · rw [hl, List.mem_append] at hx; exact .inr hx
      · rw [hl, List.mem_append]
theorem strC_law {c : CondS} {e : E} (h : (strC c e).hyp.op ≠ 0) : strC c e = { c with hyp := connectZ [c.hyp, e] 5 1 } ∧ JoinS c.hyp e (connectZ [c.hyp, e] 5 1) := by
  unfold strC at h ⊢
  by_cases hz : (connectZ [c.hyp, e] 5 1).op = 0
  · rw [if_pos hz] at h; exact absurd rfl h
  · rw [if_neg hz]; exact ⟨rfl, join_law hz⟩
theorem strC_no {c : CondS} {e : E} (h : condE e = false) : strC c e = zeroC := by
  unfold strC connectZ
  rw [if_neg (c := [c.hyp, e].all condE = true) (by simp [h])]; rfl
theorem strC_one {c : CondS} (h : condE c.hyp = true) : strC c (constE 1 1) = c := by
  have hz : connectZ [c.hyp, constE 1 1] 5 1 = c.hyp := by
    have h1 : condE (constE 1 1) = true := rfl
    have hs : connectS [c.hyp, constE 1 1] 5 1 = c.hyp := by
      rcases two_cases c.hyp (constE 1 1) with ⟨h0, hz⟩ | ⟨_, _, h2⟩
      · rcases h0 with h0 | h0
        · rw [hz, isC_eq h h0]
        · rw [isC_const] at h0; simp at h0
      · have hb : (constE 1 1).isC 1 = true := rfl
        rcases h2 with ⟨h3, _, hz⟩ | ⟨_, h4, _⟩ | ⟨_, _, hz⟩ | ⟨_, h4, _⟩
        · rw [hz, isC_eq h h3]
        · rw [hb] at h4; cases h4
        · exact hz
        · rw [hb] at h4; cases h4
    unfold connectZ
    rw [if_pos (by simp [h, h1]), hs]
    unfold zeroIf
    rw [if_pos (condE_iff.1 h).1]
  unfold strC
  rw [hz, if_neg (wf_op (condE_iff.1 h).1)]
theorem join_bits {a b z : E} (h : JoinS a b z) (old now : List Int) : bits .and .i64 (a.eval old now) (b.eval old now) = z.eval old now := by
  obtain ⟨e1, v1⟩ := bit_of h.ca old now
  obtain ⟨e2, v2⟩ := bit_of h.cb old now
  obtain ⟨e3, v3⟩ := bit_of (condE_iff.2 ⟨h.wf, h.wd⟩) old now
  have hev := h.ev old now
  rw [e1, e2, e3] at hev ⊢
  rw [and_eq _ _ (by omega) (by omega) (by omega) (by omega)]
  rcases v1 with v1 | v1 <;> rcases v2 with v2 | v2 <;> rcases v3 with v3 | v3 <;> rw [v1, v2, v3] at hev ⊢ <;> simp at hev ⊢

/-! ### Supports -/
theorem supOld_iff {e : E} (h : e.wf = true) {j : Nat} (hj : j < 32) : ((j : Nat) : Int) ∈ e.supOld ↔ ∃ x ∈ e.leaves, x.op = 3 ∧ x.n = (j : Int) := by
  constructor
  · exact fun hm => sup_leaf.2 hm
  · rintro ⟨x, hx, h3, hn⟩
    unfold E.supOld; rw [if_pos h]; exact mem_upTo' hj (occurs_of hx h3 hn)
theorem supNow_iff {e : E} (h : e.wf = true) {j : Nat} (hj : j < 32) : ((j : Nat) : Int) ∈ e.supNow ↔ ∃ x ∈ e.leaves, x.op = 2 ∧ x.n = (j : Int) := by
  constructor
  · exact fun hm => sup_leaf.1 hm
  · rintro ⟨x, hx, h3, hn⟩
    unfold E.supNow; rw [if_pos h]; exact mem_upTo' hj (occurs_of hx h3 hn)
theorem sup32 {e : E} {c : Int} (h : c ∈ e.supOld ∨ c ∈ e.supNow) : ∃ j : Nat, c = (j : Int) ∧ j < 32 := by
  unfold E.supOld E.supNow at h
  rcases h with h | h
  all_goals
    split at h
    · obtain ⟨j, hj, rfl, _⟩ := mem_upTo.1 h; exact ⟨j, rfl, hj⟩
    · cases h
theorem upTo_sub {f g : Nat → Bool} {k : Nat} (h : ∀ j, j < k → f j = true → g j = true) : (upTo f k).Sublist (upTo g k) := by
  unfold upTo
  refine List.Sublist.map _ ?_
  have : (List.range k).filter f = ((List.range k).filter g).filter f := by
    rw [List.filter_filter]
    refine List.filter_congr fun j hj => ?_
    have := h j (List.mem_range.1 hj)
    cases hf : f j with
    | false => rfl
    | true => rw [this hf]; rfl
  rw [this]
  exact List.filter_sublist
theorem choose_sub {cells : List CellD} {a b a' b' : List Int} (h : ∀ j : Nat, j < 32 → j < cells.length → ((j : Int) ∈ a' ∨ (j : Int) ∈ b') → ((j : Int) ∈ a ∨ (j : Int) ∈ b)) : (chooseL cells a' b').Sublist (chooseL cells a b) := by
  refine upTo_sub fun j hj hf => ?_
  simp only [Bool.and_eq_true, Bool.or_eq_true, decide_eq_true_eq, List.contains_iff_mem] at hf ⊢
  exact ⟨hf.1, h j hj hf.1 hf.2⟩
theorem sum_subl {cells : List CellD} {l m : List Int} (h : l.Sublist m) (hp : ∀ c ∈ m, 1 ≤ wAt cells c) : sumI (wOf cells l) ≤ sumI (wOf cells m) := by
  induction h with
  | slnil => exact Int.le_refl _
  | cons a _ ih =>
    have h1 := ih fun c hc => hp c (by simp [hc])
    have h2 := hp a (by simp)
    rw [show ∀ r, wOf cells (a :: r) = wAt cells a :: wOf cells r from fun _ => rfl, sumI_cons]; omega
  | cons_cons a _ ih =>
    have h1 := ih fun c hc => hp c (by simp [hc])
    rw [show ∀ r, wOf cells (a :: r) = wAt cells a :: wOf cells r from fun _ => rfl, show ∀ r, wOf cells (a :: r) = wAt cells a :: wOf cells r from fun _ => rfl, sumI_cons, sumI_cons]; omega
/-- The cells of z lie among those of the condition h, g. -/
def InSup (cells : List CellD) (h g z : E) : Prop := (∀ c ∈ z.supOld, c ∈ hOld cells h g) ∧ ∀ c ∈ z.supNow, c ∈ hNow cells h g
theorem insup_sub {cells : List CellD} {h g h' g' : E} (h1 : InSup cells h g h') (h2 : InSup cells h g g') : (hOld cells h' g').Sublist (hOld cells h g) ∧ (hNow cells h' g').Sublist (hNow cells h g) := by
  refine ⟨choose_sub fun j _ _ hm => ?_, choose_sub fun j _ _ hm => ?_⟩
  · have : (j : Int) ∈ hOld cells h g := hm.elim (h1.1 _) (h2.1 _)
    obtain ⟨k, _, _, _, h3⟩ := choose_mem.1 this
    exact h3
  · have : (j : Int) ∈ hNow cells h g := hm.elim (h1.2 _) (h2.2 _)
    obtain ⟨k, _, _, _, h3⟩ := choose_mem.1 this
    exact h3
section
variable {cells : List CellD} {h g : E} (hh : formC cells h) (hg : formC cells g)
include hh hg
theorem insup_sums {h' g' : E} (h1 : InSup cells h g h') (h2 : InSup cells h g g') : sumI (wOf cells (hOld cells h' g')) ≤ sumI (wOf cells (hOld cells h g)) ∧ sumI (wOf cells (hNow cells h' g')) ≤ sumI (wOf cells (hNow cells h g)) := by
  obtain ⟨s1, s2⟩ := insup_sub h1 h2
  exact ⟨sum_subl s1 fun c hc => (old_w hh hg hc).2.2.2.1, sum_subl s2 fun c hc => (now_w hh hg hc).2.2.2.1⟩
theorem insup_self : InSup cells h g h ∧ InSup cells h g g := by
  have key : ∀ e : E, e = h ∨ e = g → InSup cells h g e := fun e he => by
    have hf : formC cells e := by rcases he with rfl | rfl <;> assumption
    refine ⟨fun c hc => ?_, fun c hc => ?_⟩
    · obtain ⟨x, hx, h3, hn⟩ := sup_leaf.2 hc
      obtain ⟨j, hj, h32, hl, _⟩ := form_leaf hf hx (.inr h3)
      refine choose_mem.2 ⟨j, by rw [← hn, hj], h32, hl, ?_⟩
      rcases he with rfl | rfl
      · exact .inl hc
      · exact .inr hc
    · obtain ⟨x, hx, h3, hn⟩ := sup_leaf.1 hc
      obtain ⟨j, hj, h32, hl, _⟩ := form_leaf hf hx (.inl h3)
      refine choose_mem.2 ⟨j, by rw [← hn, hj], h32, hl, ?_⟩
      rcases he with rfl | rfl
      · exact .inl hc
      · exact .inr hc
  exact ⟨key h (.inl rfl), key g (.inr rfl)⟩
end
/-- A join of formulas whose cells lie in the condition. -/
theorem join_insup {cells : List CellD} {h g : E} {a b z : E} (hj : JoinS a b z) (h1 : InSup cells h g a) (h2 : InSup cells h g b) : InSup cells h g z := by
  have wa := (condE_iff.1 hj.ca).1
  have wb := (condE_iff.1 hj.cb).1
  refine ⟨fun c hc => ?_, fun c hc => ?_⟩
  · obtain ⟨j, rfl, h32⟩ := sup32 (.inl hc)
    obtain ⟨x, hx, h3, hn⟩ := sup_leaf.2 hc
    rcases hj.sub x hx with h0 | h0 | h0
    · omega
    · exact h1.1 _ ((supOld_iff wa h32).2 ⟨x, h0, h3, hn⟩)
    · exact h2.1 _ ((supOld_iff wb h32).2 ⟨x, h0, h3, hn⟩)
  · obtain ⟨j, rfl, h32⟩ := sup32 (.inr hc)
    obtain ⟨x, hx, h3, hn⟩ := sup_leaf.1 hc
    rcases hj.sub x hx with h0 | h0 | h0
    · omega
    · exact h1.2 _ ((supNow_iff wa h32).2 ⟨x, h0, h3, hn⟩)
    · exact h2.2 _ ((supNow_iff wb h32).2 ⟨x, h0, h3, hn⟩)
theorem join_form {cells : List CellD} {a b z : E} (hj : JoinS a b z) (h1 : formC cells a) (h2 : formC cells b) : formC cells z := by
  refine ⟨?_, hj.wd⟩
  simp only [E.valid, Bool.and_eq_true, List.all_eq_true] at *
  have k1 := h1.1
  have k2 := h2.1
  simp only [E.valid, Bool.and_eq_true, List.all_eq_true] at k1 k2
  refine ⟨hj.wf, fun x hx => ?_⟩
  rcases hj.sub x hx with h0 | h0 | h0
  · unfold okLeaf; simp [h0]
  · exact k1.2 x h0
  · exact k2.2 x h0
end Go.Proofs.YtlcgbdjmlnjhcaaGreatDoor
