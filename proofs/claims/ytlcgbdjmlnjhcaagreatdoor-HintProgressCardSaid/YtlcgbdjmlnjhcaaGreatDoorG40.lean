/-
  law32's text.
  What the first check of law32 computes: plain.
  The plain laws of law32's statements. No program in sight.
  The plain laws of law32's statements, second part: small conditions, their weakest expressions.
-/
import Derived.Test.YtlcgbdjmlnjhcaaGreatDoorG39
import Derived.Test.YtlcgbdjmlnjhcaaGreatDoorG18
namespace Go.Proofs.YtlcgbdjmlnjhcaaGreatDoor
open Go.RowKit
attribute [local go_sem] Oper.semAt_some

def cells2 : List CellD := [⟨⟨#[120]⟩, 2, 0, -1, false, 0⟩, ⟨⟨#[121]⟩, 2, 0, -1, false, 0⟩]
theorem cells_twoH {W : World} {B : Nat} {t : TypeId} {s1 s2 : ByteArray} {x1 x2 y1 y2 : Int} (hb : W.heap[B]? = some (.cells #[.string s1, .int .i64 x1, .int .i64 0, .int .i64 y1, .bool false, .int .i64 0, .string s2, .int .i64 x2, .int .i64 0, .int .i64 y2, .bool false, .int .i64 0] t (0, 0))) : Cells W (.slice (some ⟨B, 0, none⟩) 2 2) [⟨s1, x1, 0, y1, false, 0⟩, ⟨s2, x2, 0, y2, false, 0⟩] := by
  refine .inr ⟨B, 0, 2, rfl, by simp, fun i h => ?_⟩
  have : i = 0 ∨ i = 1 := by simp at h; omega
  rcases this with rfl | rfl <;> simp [CellAt, World.cell?, hb]
def errText : List UInt8 := [101, 114, 114, 111, 114]
def textR (h g : E) : List UInt8 := if (weakR cells2 h g).2 = 0 then (weakR cells2 h g).1.textTop else errText

set_option maxRecDepth 100000 in
set_option maxHeartbeats 4000000 in
theorem text_any (h g : E) (v1 v2 : Value) (w : World) (h1 : EVal w v1 h) (h2 : EVal w v2 g) (hM : Masks w) (hN : Names w) (hP : Pow10 w) (hsm : condF cells2 h = true → condF cells2 g = true → sumI (wOf cells2 (hOld cells2 h g)) + sumI (wOf cells2 (hNow cells2 h g)) ≤ 12) :
    Calls Tryz.prog 28 #[v1, v2] w fun r w' => r = .returned (.string ⟨(textR h g).toArray⟩) ∧ Ext w w' := by
  obtain ⟨k1, rfl, e1⟩ := h1
  obtain ⟨k2, rfl, e2⟩ := h2
  obtain ⟨a1, c1, rfl⟩ := SliceAt.shape e1
  obtain ⟨a2, c2, rfl⟩ := SliceAt.shape e2
  have HE1 := Lib.hid e1; have HE2 := Lib.hid e2; have HM := Lib.hid hM; have HN := Lib.hid hN; have HP := Lib.hid hP; have HSM := Lib.hid hsm
  clear e1 e2 hM hN hP hsm
  obtain ⟨W, hW⟩ : ∃ W, Boxes3 w W (.cells #[.int .i64 h.op, .int .i64 h.wd, .int .i64 h.n, .slice a1 h.kids.length c1] 25) (.cells #[.int .i64 g.op, .int .i64 g.wd, .int .i64 g.n, .slice a2 g.kids.length c2] 25)
    (.cells #[.string ⟨#[120]⟩, .int .i64 2, .int .i64 0, .int .i64 (-1), .bool false, .int .i64 0, .string ⟨#[121]⟩, .int .i64 2, .int .i64 0, .int .i64 (-1), .bool false, .int .i64 0] 57) := ⟨_, Boxes3.mk' _ _ _ _⟩
  have HC : Hid (Cells W (.slice (some ⟨w.heap.size + 1 + 1, 0, none⟩) 2 2) cells2) := cells_twoH hW.b2
  have HV : Hid (CondV W (.agg #[.string ⟨#[]⟩, .int .i64 0, .int .i64 0, .int .i64 0, .int .i64 0, .int .i64 0, .int .i64 h.op, .int .i64 h.wd, .int .i64 h.n, .slice a1 h.kids.length c1, .int .i64 g.op, .int .i64 g.wd, .int .i64 g.n, .slice a2 g.kids.length c2]) ⟨[], 0, 0, 0, 0, 0, h, g⟩) :=
    ⟨_, _, _, _, _, _, rfl, ⟨_, rfl, HE1.out.ext hW.ext⟩, ⟨_, rfl, HE2.out.ext hW.ext⟩⟩
  have HX := Lib.hid hW.ext; have HW := Lib.hid hW.eq
  have HWK := Lib.hid (Weakest_any ⟨[], 0, 0, 0, 0, 0, h, g⟩ cells2 _ _ W HV.out HC.out (HM.out.ext hW.ext) HSM.out)
  have HT : Hid (textR h g = if (weakR cells2 h g).2 = 0 then (weakR cells2 h g).1.textTop else errText) := rfl
  have HN1 := Lib.hid (HN.out.ext hW.ext); have HP1 := Lib.hid (HP.out.ext hW.ext); have HM1 := Lib.hid (HM.out.ext hW.ext)
  clear hW
  go_enter Tryz.func28, Tryz.ntmps28
  go_wp2_with fail
  rw [← HW.out]
  clear HW
  refine HWK.out.mono ?_
  rintro r w1 ⟨⟨v, rfl, hv⟩, x1⟩
  simp only [] at hv ⊢
  generalize weakR cells2 h g = q at *
  obtain ⟨qe, qn⟩ := q
  simp only [] at hv HT ⊢
  obtain ⟨k3, rfl, e3⟩ := hv
  obtain ⟨a3, c3, rfl⟩ := SliceAt.shape e3
  have HE3 := Lib.hid e3; have X1 := Lib.hid x1
  clear e3 x1 HWK HV HSM
  by_cases hq : qn = 0
  · subst hq
    rw [if_pos rfl] at HT
    have HX3 : Hid (∀ x, Ext w1 (w1.alloc x)) := fun x => (Ext.refl _).alloc x
    go_wp2_with fail
    refine (Text_any qe _ _ ⟨_, rfl, HE3.out.ext (by first | exact HX3.out _ | exact Ext.refl _)⟩ ((HM1.out.ext X1.out).ext (by first | exact HX3.out _ | exact Ext.refl _)) ((HN1.out.ext X1.out).ext (by first | exact HX3.out _ | exact Ext.refl _)) ((HP1.out.ext X1.out).ext (by first | exact HX3.out _ | exact Ext.refl _))).mono ?_
    rintro r w2 ⟨rfl, x2⟩
    have X2 : Hid (Ext w1 w2) := by first | exact (HX3.out _).trans x2 | exact x2
    clear x2
    go_wp2_with fail
    go_ret
    exact ⟨by rw [HT.out]; rfl, HX.out.trans (X1.out.trans X2.out)⟩
  · rw [if_neg hq] at HT
    have hb : (qn != 0) = true := by rw [bne_iff_ne]; exact hq
    have HX3 : Hid (∀ x, Ext w1 (w1.alloc x)) := fun x => (Ext.refl _).alloc x
    clear hq
    go_wp2_with fail
    go_ret
    exact ⟨by rw [HT.out]; rfl, HX.out.trans (by first | exact X1.out.trans (HX3.out _) | exact X1.out)⟩
end Go.Proofs.YtlcgbdjmlnjhcaaGreatDoor
namespace Go.Proofs.YtlcgbdjmlnjhcaaGreatDoor
open Go.RowKit

def gOne : E := .mk 1 1 1 []
def gX : E := .mk 2 2 0 []
def gY : E := .mk 2 2 1 []
def gO : E := .mk 3 2 0 []
def gN (k : Int) : E := .mk 1 2 k []
def gTwo (op : Int) (a b : E) : E := .mk op 1 0 [a, b]
theorem hd_t1 : textR gOne (gTwo 12 gX (gN 2)) = [105, 116, 101, 40, 108, 101, 40, 99, 48, 58, 50, 44, 49, 58, 50, 41, 44, 49, 58, 49, 44, 48, 58, 49, 41] := by kernel_rfl
theorem hd_t2 : textR (gTwo 13 gO gX) (gTwo 13 (gN 1) gX) = [105, 116, 101, 40, 108, 101, 40, 111, 48, 58, 50, 44, 48, 58, 50, 41, 44, 48, 58, 49, 44, 49, 58, 49, 41] := by kernel_rfl
theorem hd_t3 : textR gOne (gTwo 11 gO gX) = [48, 58, 49] := by kernel_rfl
theorem hd_t4 : textR (gTwo 11 gX gY) (gTwo 11 gY gX) = [49, 58, 49] := by kernel_rfl
theorem hd_t5 : textR gX gOne = [101, 114, 114, 111, 114] := by kernel_rfl
def bitsH (h g : E) : Int := sumI (wOf cells2 (hOld cells2 h g)) + sumI (wOf cells2 (hNow cells2 h g))
theorem hd_s1 : bitsH gOne (gTwo 12 gX (gN 2)) = 2 := by kernel_rfl
theorem hd_s2 : bitsH (gTwo 13 gO gX) (gTwo 13 (gN 1) gX) = 4 := by kernel_rfl
theorem hd_s3 : bitsH gOne (gTwo 11 gO gX) = 4 := by kernel_rfl
theorem hd_s4 : bitsH (gTwo 11 gX gY) (gTwo 11 gY gX) = 4 := by kernel_rfl
theorem hd_s5 : bitsH gX gOne = 2 := by kernel_rfl
def gC : CondS := ⟨[97], 0, 0, 0, 0, 0, gTwo 11 gX gY, gOne⟩
theorem hd_d1 : (strC gC (gTwo 12 gX gY)).id = [97] := by kernel_rfl
theorem hd_d2 : (strC gC (gTwo 12 gX gY)).hyp.textTop = [97, 110, 100, 40, 101, 113, 40, 99, 48, 58, 50, 44, 99, 49, 58, 50, 41, 44, 108, 116, 40, 99, 48, 58, 50, 44, 99, 49, 58, 50, 41, 41] := by kernel_rfl
theorem hd_d3 : (strC gC gX).id = [] := by kernel_rfl
theorem hd_e : exprS [0] [1] [0, 1] = gOne := by kernel_rfl
def cellsN : List CellD := [⟨⟨#[]⟩, 2, 0, 0, false, 0⟩, ⟨⟨#[]⟩, 2, 0, 0, false, 0⟩]
theorem hd_c1 : (condF cellsN gC.hyp && condF cellsN gC.goal) = true := by kernel_rfl
theorem hd_c2 : sumI (wOf cellsN (hOld cellsN gC.hyp gC.goal)) + sumI (wOf cellsN (hNow cellsN gC.hyp gC.goal)) = 4 := by kernel_rfl
theorem hd_v (old now : List Int) : violB gC.hyp gC.goal old now = false := by
  have h : gC.goal.eval old now = 1 := by rfl
  unfold violB
  rw [h]; simp
end Go.Proofs.YtlcgbdjmlnjhcaaGreatDoor
namespace Go.Proofs.YtlcgbdjmlnjhcaaGreatDoor
open Go.RowKit

/-! ### The join of two conditions -/
theorem condE_iff {e : E} : condE e = true ↔ e.wf = true ∧ e.wd = 1 := by
  unfold condE
  rw [Bool.and_eq_true, beq_iff_eq]
  exact ⟨fun h => ⟨h.2, h.1⟩, fun h => ⟨h.2, h.1⟩⟩
theorem form_condE {cells : List CellD} {e : E} (h : formC cells e) : condE e = true := by
  obtain ⟨h1, h2⟩ := h
  simp only [E.valid, Bool.and_eq_true] at h1
  exact condE_iff.2 ⟨h1.1, h2⟩
theorem wf_deep40 {e : E} (h : e.wf = true) : e.deep 40 = true := by
  simp only [E.wf, Bool.and_eq_true] at h
  exact h.2
theorem bit_of {e : E} (h : condE e = true) (old now : List Int) : e.eval old now = e.val old now ∧ (e.val old now = 0 ∨ e.val old now = 1) := by
  obtain ⟨h1, h2⟩ := condE_iff.1 h
  have := val_range old now e 40 (wf_deep40 h1)
  rw [h2, show pw 1 = 2 by simp [pw]] at this
  refine ⟨by unfold E.eval; rw [if_pos h1], by omega⟩
theorem isC_iff1 {e : E} {c : Int} : e.isC c = true ↔ e.op = 1 ∧ e.n = c := by simp [E.isC]
theorem isC_eq {e : E} {u : Int} (hw : condE e = true) (h : e.isC u = true) : e = constE u 1 := by
  obtain ⟨h1, h2⟩ := condE_iff.1 hw
  have hd := wf_deep40 h1
  obtain ⟨op, wd, n, ks⟩ := e
  obtain ⟨h3, h4⟩ := isC_iff1.1 h
  simp only [E.op_mk, E.n_mk] at h3 h4
  subst h3 h4
  simp only [E.wd_mk] at h2
  subst h2
  have := (deepParts hd).2.1
  have hk : ks = [] := by
    have := (shaped_kids this).2 (.inl rfl)
    simpa using this
  subst hk; rfl
theorem const_wf {u : Int} (h0 : 0 ≤ u) (h1 : u ≤ 1) : (constE u 1).wf = true := by
  have : u = 0 ∨ u = 1 := by omega
  rcases this with rfl | rfl <;> rfl
theorem const_eval (u : Int) (h0 : 0 ≤ u) (h1 : u ≤ 1) (old now : List Int) : (constE u 1).eval old now = u := by
  unfold E.eval; rw [if_pos (const_wf h0 h1)]; simp [constE, E.val]
theorem wf_op {e : E} (h : e.wf = true) : e.op ≠ 0 := by
  have hd := wf_deep40 h
  obtain ⟨op, wd, n, ks⟩ := e
  simp only [E.op_mk]
  rintro rfl
  simp [E.deep, shapedW] at hd
/-- What connect makes of two conditions. -/
theorem two_cases (a b : E) : ((a.isC 0 = true ∨ b.isC 0 = true) ∧ connectS [a, b] 5 1 = constE 0 1) ∨ (a.isC 0 = false ∧ b.isC 0 = false ∧
    ((a.isC 1 = true ∧ b.isC 1 = true ∧ connectS [a, b] 5 1 = constE 1 1) ∨ (a.isC 1 = true ∧ b.isC 1 = false ∧ connectS [a, b] 5 1 = b) ∨
     (a.isC 1 = false ∧ b.isC 1 = true ∧ connectS [a, b] 5 1 = a) ∨ (a.isC 1 = false ∧ b.isC 1 = false ∧ connectS [a, b] 5 1 = .mk 5 1 0 [a, b]))) := by
  have e0 : (1 : Int) - 1 = 0 := by omega
  unfold connectS decOf keptOf
  rw [e0]
  cases h1 : a.isC 0 <;> cases h2 : b.isC 0 <;> cases h3 : a.isC 1 <;> cases h4 : b.isC 1 <;> simp [h1, h2, h3, h4, foldE]
/-- A join of two conditions. -/
structure JoinS (a b z : E) : Prop where
  wf : z.wf = true
  wd : z.wd = 1
  ca : condE a = true
  cb : condE b = true
  ev : ∀ old now, z.eval old now = 1 ↔ a.eval old now = 1 ∧ b.eval old now = 1
  sub : ∀ x ∈ z.leaves, x.op = 1 ∨ x ∈ a.leaves ∨ x ∈ b.leaves
  zero : z.isC 0 = (a.isC 0 || b.isC 0)
  all : z.isC 0 = false → ∀ x : E, x.op ≠ 1 → (x ∈ z.leaves ↔ x ∈ a.leaves ∨ x ∈ b.leaves)
theorem const_leaf {u : Int} {x : E} (h : x ∈ (constE u 1).leaves) : x.op = 1 := by
  rw [constE, leaves_nil, List.mem_singleton] at h
  rw [h]; rfl
theorem const_leaf' {e : E} {u : Int} (hw : condE e = true) (h : e.isC u = true) {x : E} (hx : x.op ≠ 1) : x ∉ e.leaves := fun hm => hx (const_leaf (u := u) (by rw [← isC_eq hw h]; exact hm))
theorem isC_const (u v : Int) : (constE u 1).isC v = decide (u = v) := by
  rw [Bool.eq_iff_iff, isC_iff1, decide_eq_true_iff]
  exact ⟨fun h => h.2, fun h => ⟨rfl, h⟩⟩
theorem connectZ_two {a b : E} (h : (connectZ [a, b] 5 1).op ≠ 0) : condE a = true ∧ condE b = true ∧ (connectS [a, b] 5 1).wf = true ∧ connectZ [a, b] 5 1 = connectS [a, b] 5 1 := by
  unfold connectZ at h ⊢
  by_cases hc : [a, b].all condE = true
  · rw [if_pos hc] at h ⊢
    simp only [List.all_cons, List.all_nil, Bool.and_true, Bool.and_eq_true] at hc
    unfold zeroIf at h ⊢
    by_cases hw : (connectS [a, b] 5 1).wf = true
    · rw [if_pos hw]; exact ⟨hc.1, hc.2, hw, rfl⟩
    · rw [if_neg hw] at h; exact absurd rfl h
  · rw [if_neg hc] at h; exact absurd rfl h
theorem join_law {a b : E} (h : (connectZ [a, b] 5 1).op ≠ 0) : JoinS a b (connectZ [a, b] 5 1) := by
  obtain ⟨ca, cb, hw, e⟩ := connectZ_two h
  rw [e]
  have va := fun old now => bit_of ca old now
  have vb := fun old now => bit_of cb old now
  have i1 : ∀ {e : E} {u : Int} (_ : condE e = true) (_ : e.isC u = true) (_ : 0 ≤ u ∧ u ≤ 1) (old now : List Int), e.eval old now = u := fun hc hi hu old now => by
    rw [isC_eq hc hi]; exact const_eval _ hu.1 hu.2 old now
  have l1 : ∀ {e : E} {u : Int} (_ : condE e = true) (_ : e.isC u = true) (x : E), x.op ≠ 1 → x ∉ e.leaves := fun hc hi x hx => const_leaf' hc hi hx
  rcases two_cases a b with ⟨h0, hz⟩ | ⟨n1, n2, h1⟩
  · rw [hz]
    refine ⟨const_wf (by omega) (by omega), rfl, ca, cb, fun old now => ?_, fun x hx => .inl (const_leaf hx), ?_, fun hf => by rw [isC_const] at hf; simp at hf⟩
    · rw [const_eval 0 (by omega) (by omega)]
      constructor
      · intro h; omega
      · rintro ⟨h1, h2⟩
        rcases h0 with h0 | h0
        · rw [i1 ca h0 (by omega)] at h1; exact h1
        · rw [i1 cb h0 (by omega)] at h2; exact h2
    · rw [isC_const]
      rcases h0 with h0 | h0 <;> simp [h0]
  · have hzf : (a.isC 0 || b.isC 0) = false := by rw [n1, n2]; rfl
    rcases h1 with ⟨h3, h4, hz⟩ | ⟨h3, h4, hz⟩ | ⟨h3, h4, hz⟩ | ⟨h3, h4, hz⟩
    · rw [hz]
      refine ⟨const_wf (by omega) (by omega), rfl, ca, cb, fun old now => ?_, fun x hx => .inl (const_leaf hx), by rw [hzf, isC_const]; rfl, fun _ x hx => ?_⟩
      · rw [const_eval 1 (by omega) (by omega), i1 ca h3 (by omega), i1 cb h4 (by omega)]; simp
      · exact ⟨fun hm => absurd (const_leaf hm) hx, fun hm => by rcases hm with hm | hm; exact absurd hm (l1 ca h3 x hx); exact absurd hm (l1 cb h4 x hx)⟩
    · rw [hz] at hw ⊢
      refine ⟨hw, (condE_iff.1 cb).2, ca, cb, fun old now => ?_, fun x hx => .inr (.inr hx), by rw [hzf, n2], fun _ x hx => ?_⟩
      · rw [i1 ca h3 (by omega)]; simp
      · exact ⟨fun hm => .inr hm, fun hm => hm.elim (fun hm => absurd hm (l1 ca h3 x hx)) id⟩
    · rw [hz] at hw ⊢
      refine ⟨hw, (condE_iff.1 ca).2, ca, cb, fun old now => ?_, fun x hx => .inr (.inl hx), by rw [hzf, n1], fun _ x hx => ?_⟩
      · rw [i1 cb h4 (by omega)]; simp
      · exact ⟨fun hm => .inl hm, fun hm => hm.elim id (fun hm => absurd hm (l1 cb h4 x hx))⟩
    · rw [hz] at hw ⊢
      have hl : (E.mk 5 1 0 [a, b]).leaves = a.leaves ++ b.leaves := by rw [leaves_cons (by simp)]; simp [leavesAll]
      refine ⟨hw, rfl, ca, cb, fun old now => ?_, fun x hx => ?_, by rw [hzf]; rfl, fun _ x hx => ?_⟩
      · have e1 : (E.mk 5 1 0 [a, b]).eval old now = applyS 5 (a.val old now) (b.val old now) 0 % pw 1 := by
          unfold E.eval
          rw [if_pos hw, E.val, if_neg (by omega), if_neg (by omega), if_neg (by omega)]; simp [valAll]
        obtain ⟨q1, q2⟩ := va old now
        obtain ⟨q3, q4⟩ := vb old now
        rw [e1, q1, q3, show pw 1 = 2 by simp [pw]]
        rcases q2 with q2 | q2 <;> rcases q4 with q4 | q4 <;> rw [q2, q4] <;> decide
      · rw [hl, List.mem_append] at hx; exact .inr hx
      · rw [hl, List.mem_append]
theorem strC_law {c : CondS} {e : E} (h : (strC c e).hyp.op ≠ 0) : strC c e = { c with hyp := connectZ [c.hyp, e] 5 1 } ∧ JoinS c.hyp e (connectZ [c.hyp, e] 5 1) := by
  unfold strC at h ⊢
  by_cases hz : (connectZ [c.hyp, e] 5 1).op = 0
  · rw [if_pos hz] at h; exact absurd rfl h
  · rw [if_neg hz]; exact ⟨rfl, join_law hz⟩
theorem strC_no {c : CondS} {e : E} (h : condE e = false) : strC c e = zeroC := by
  unfold strC connectZ
  rw [if_neg (c := [c.hyp, e].all condE = true) (by simp [h])]; rfl
theorem strC_one {c : CondS} (h : condE c.hyp = true) : strC c (constE 1 1) = c := by
  have hz : connectZ [c.hyp, constE 1 1] 5 1 = c.hyp := by
    have h1 : condE (constE 1 1) = true := rfl
    have hs : connectS [c.hyp, constE 1 1] 5 1 = c.hyp := by
      rcases two_cases c.hyp (constE 1 1) with ⟨h0, hz⟩ | ⟨_, _, h2⟩
      · rcases h0 with h0 | h0
        · rw [hz, isC_eq h h0]
        · rw [isC_const] at h0; simp at h0
      · have hb : (constE 1 1).isC 1 = true := rfl
        rcases h2 with ⟨h3, _, hz⟩ | ⟨_, h4, _⟩ | ⟨_, _, hz⟩ | ⟨_, h4, _⟩
        · rw [hz, isC_eq h h3]
        · rw [hb] at h4; cases h4
        · exact hz
        · rw [hb] at h4; cases h4
    unfold connectZ
    rw [if_pos (by simp [h, h1]), hs]
    unfold zeroIf
    rw [if_pos (condE_iff.1 h).1]
  unfold strC
  rw [hz, if_neg (wf_op (condE_iff.1 h).1)]
theorem join_bits {a b z : E} (h : JoinS a b z) (old now : List Int) : bits .and .i64 (a.eval old now) (b.eval old now) = z.eval old now := by
  obtain ⟨e1, v1⟩ := bit_of h.ca old now
  obtain ⟨e2, v2⟩ := bit_of h.cb old now
  obtain ⟨e3, v3⟩ := bit_of (condE_iff.2 ⟨h.wf, h.wd⟩) old now
  have hev := h.ev old now
  rw [e1, e2, e3] at hev ⊢
  rw [and_eq _ _ (by omega) (by omega) (by omega) (by omega)]
  rcases v1 with v1 | v1 <;> rcases v2 with v2 | v2 <;> rcases v3 with v3 | v3 <;> rw [v1, v2, v3] at hev ⊢ <;> simp at hev ⊢

/-! ### Supports -/
theorem supOld_iff {e : E} (h : e.wf = true) {j : Nat} (hj : j < 32) : ((j : Nat) : Int) ∈ e.supOld ↔ ∃ x ∈ e.leaves, x.op = 3 ∧ x.n = (j : Int) := by
  constructor
  · exact fun hm => sup_leaf.2 hm
  · rintro ⟨x, hx, h3, hn⟩
    unfold E.supOld; rw [if_pos h]; exact mem_upTo' hj (occurs_of hx h3 hn)
theorem supNow_iff {e : E} (h : e.wf = true) {j : Nat} (hj : j < 32) : ((j : Nat) : Int) ∈ e.supNow ↔ ∃ x ∈ e.leaves, x.op = 2 ∧ x.n = (j : Int) := by
  constructor
  · exact fun hm => sup_leaf.1 hm
  · rintro ⟨x, hx, h3, hn⟩
    unfold E.supNow; rw [if_pos h]; exact mem_upTo' hj (occurs_of hx h3 hn)
theorem sup32 {e : E} {c : Int} (h : c ∈ e.supOld ∨ c ∈ e.supNow) : ∃ j : Nat, c = (j : Int) ∧ j < 32 := by
  unfold E.supOld E.supNow at h
  rcases h with h | h
  all_goals
    split at h
    · obtain ⟨j, hj, rfl, _⟩ := mem_upTo.1 h; exact ⟨j, rfl, hj⟩
    · cases h
theorem upTo_sub {f g : Nat → Bool} {k : Nat} (h : ∀ j, j < k → f j = true → g j = true) : (upTo f k).Sublist (upTo g k) := by
  unfold upTo
  refine List.Sublist.map _ ?_
  have : (List.range k).filter f = ((List.range k).filter g).filter f := by
    rw [List.filter_filter]
    refine List.filter_congr fun j hj => ?_
    have := h j (List.mem_range.1 hj)
    cases hf : f j with
    | false => rfl
    | true => rw [this hf]; rfl
  rw [this]
  exact List.filter_sublist
theorem choose_sub {cells : List CellD} {a b a' b' : List Int} (h : ∀ j : Nat, j < 32 → j < cells.length → ((j : Int) ∈ a' ∨ (j : Int) ∈ b') → ((j : Int) ∈ a ∨ (j : Int) ∈ b)) : (chooseL cells a' b').Sublist (chooseL cells a b) := by
  refine upTo_sub fun j hj hf => ?_
  simp only [Bool.and_eq_true, Bool.or_eq_true, decide_eq_true_eq, List.contains_iff_mem] at hf ⊢
  exact ⟨hf.1, h j hj hf.1 hf.2⟩
theorem sum_subl {cells : List CellD} {l m : List Int} (h : l.Sublist m) (hp : ∀ c ∈ m, 1 ≤ wAt cells c) : sumI (wOf cells l) ≤ sumI (wOf cells m) := by
  induction h with
  | slnil => exact Int.le_refl _
  | cons a _ ih =>
    have h1 := ih fun c hc => hp c (by simp [hc])
    have h2 := hp a (by simp)
    rw [show ∀ r, wOf cells (a :: r) = wAt cells a :: wOf cells r from fun _ => rfl, sumI_cons]; omega
  | cons_cons a _ ih =>
    have h1 := ih fun c hc => hp c (by simp [hc])
    rw [show ∀ r, wOf cells (a :: r) = wAt cells a :: wOf cells r from fun _ => rfl, show ∀ r, wOf cells (a :: r) = wAt cells a :: wOf cells r from fun _ => rfl, sumI_cons, sumI_cons]; omega
/-- The cells of z lie among those of the condition h, g. -/
def InSup (cells : List CellD) (h g z : E) : Prop := (∀ c ∈ z.supOld, c ∈ hOld cells h g) ∧ ∀ c ∈ z.supNow, c ∈ hNow cells h g
theorem insup_sub {cells : List CellD} {h g h' g' : E} (h1 : InSup cells h g h') (h2 : InSup cells h g g') : (hOld cells h' g').Sublist (hOld cells h g) ∧ (hNow cells h' g').Sublist (hNow cells h g) := by
  refine ⟨choose_sub fun j _ _ hm => ?_, choose_sub fun j _ _ hm => ?_⟩
  · have : (j : Int) ∈ hOld cells h g := hm.elim (h1.1 _) (h2.1 _)
    obtain ⟨k, _, _, _, h3⟩ := choose_mem.1 this
    exact h3
  · have : (j : Int) ∈ hNow cells h g := hm.elim (h1.2 _) (h2.2 _)
    obtain ⟨k, _, _, _, h3⟩ := choose_mem.1 this
    exact h3
section
variable {cells : List CellD} {h g : E} (hh : formC cells h) (hg : formC cells g)
include hh hg
theorem insup_sums {h' g' : E} (h1 : InSup cells h g h') (h2 : InSup cells h g g') : sumI (wOf cells (hOld cells h' g')) ≤ sumI (wOf cells (hOld cells h g)) ∧ sumI (wOf cells (hNow cells h' g')) ≤ sumI (wOf cells (hNow cells h g)) := by
  obtain ⟨s1, s2⟩ := insup_sub h1 h2
  exact ⟨sum_subl s1 fun c hc => (old_w hh hg hc).2.2.2.1, sum_subl s2 fun c hc => (now_w hh hg hc).2.2.2.1⟩
theorem insup_self : InSup cells h g h ∧ InSup cells h g g := by
  have key : ∀ e : E, e = h ∨ e = g → InSup cells h g e := fun e he => by
    have hf : formC cells e := by rcases he with rfl | rfl <;> assumption
    refine ⟨fun c hc => ?_, fun c hc => ?_⟩
    · obtain ⟨x, hx, h3, hn⟩ := sup_leaf.2 hc
      obtain ⟨j, hj, h32, hl, _⟩ := form_leaf hf hx (.inr h3)
      refine choose_mem.2 ⟨j, by rw [← hn, hj], h32, hl, ?_⟩
      rcases he with rfl | rfl
      · exact .inl hc
      · exact .inr hc
    · obtain ⟨x, hx, h3, hn⟩ := sup_leaf.1 hc
      obtain ⟨j, hj, h32, hl, _⟩ := form_leaf hf hx (.inl h3)
      refine choose_mem.2 ⟨j, by rw [← hn, hj], h32, hl, ?_⟩
      rcases he with rfl | rfl
      · exact .inl hc
      · exact .inr hc
  exact ⟨key h (.inl rfl), key g (.inr rfl)⟩
end
/-- A join of formulas whose cells lie in the condition. -/
theorem join_insup {cells : List CellD} {h g : E} {a b z : E} (hj : JoinS a b z) (h1 : InSup cells h g a) (h2 : InSup cells h g b) : InSup cells h g z := by
  have wa := (condE_iff.1 hj.ca).1
  have wb := (condE_iff.1 hj.cb).1
  refine ⟨fun c hc => ?_, fun c hc => ?_⟩
  · obtain ⟨j, rfl, h32⟩ := sup32 (.inl hc)
    obtain ⟨x, hx, h3, hn⟩ := sup_leaf.2 hc
    rcases hj.sub x hx with h0 | h0 | h0
    · omega
    · exact h1.1 _ ((supOld_iff wa h32).2 ⟨x, h0, h3, hn⟩)
    · exact h2.1 _ ((supOld_iff wb h32).2 ⟨x, h0, h3, hn⟩)
  · obtain ⟨j, rfl, h32⟩ := sup32 (.inr hc)
    obtain ⟨x, hx, h3, hn⟩ := sup_leaf.1 hc
    rcases hj.sub x hx with h0 | h0 | h0
    · omega
    · exact h1.2 _ ((supNow_iff wa h32).2 ⟨x, h0, h3, hn⟩)
    · exact h2.2 _ ((supNow_iff wb h32).2 ⟨x, h0, h3, hn⟩)
theorem join_form {cells : List CellD} {a b z : E} (hj : JoinS a b z) (h1 : formC cells a) (h2 : formC cells b) : formC cells z := by
  refine ⟨?_, hj.wd⟩
  simp only [E.valid, Bool.and_eq_true, List.all_eq_true] at *
  have k1 := h1.1
  have k2 := h2.1
  simp only [E.valid, Bool.and_eq_true, List.all_eq_true] at k1 k2
  refine ⟨hj.wf, fun x hx => ?_⟩
  rcases hj.sub x hx with h0 | h0 | h0
  · unfold okLeaf; simp [h0]
  · exact k1.2 x h0
  · exact k2.2 x h0
end Go.Proofs.YtlcgbdjmlnjhcaaGreatDoor
namespace Go.Proofs.YtlcgbdjmlnjhcaaGreatDoor
open Go.RowKit

/-- A small formed condition. -/
structure Sm (cells : List CellD) (c : CondS) : Prop where
  len : cells.length ≤ 40
  s1 : c.hyp.size ≤ 60
  s2 : c.goal.size ≤ 60
  f1 : formC cells c.hyp
  f2 : formC cells c.goal
  bits : sumI (wOf cells (hOld cells c.hyp c.goal)) + sumI (wOf cells (hNow cells c.hyp c.goal)) ≤ 10
theorem form_condF {cells : List CellD} {e : E} (h : formC cells e) : condF cells e = true := by
  unfold condF; rw [h.1, h.2]; rfl
theorem sm_of {cells : List CellD} {c : CondS} (h : small32 cells c = true) : Sm cells c := by
  unfold small32 small22S at h
  simp only [Bool.and_eq_true, decide_eq_true_eq] at h
  obtain ⟨⟨h1, h2, h3⟩, h4, h5⟩ := h
  obtain ⟨f1, f2⟩ := formCC_iff.1 h4
  obtain ⟨p1, p2, _⟩ := parts_eq f1 f2
  refine ⟨h1, by omega, by omega, f1, f2, ?_⟩
  rw [p1, p2] at h5
  unfold cP cQ at h5
  cases hs : stepB cells c.hyp c.goal with
  | true => rw [hs] at h5; simpa using h5
  | false => rw [hs] at h5; simp only [Bool.false_eq_true, if_false] at h5; omega
/-- Expressions over the state before. -/
theorem overP {cells : List CellD} {c : CondS} {z : E} (h : (∀ x ∈ z.supOld, stepB cells c.hyp c.goal = true ∧ x ∈ cP cells c.hyp c.goal) ∧ (∀ x ∈ z.supNow, stepB cells c.hyp c.goal = false ∧ x ∈ cP cells c.hyp c.goal)) : InSup cells c.hyp c.goal z := by
  refine ⟨fun x hx => ?_, fun x hx => ?_⟩
  · obtain ⟨h1, h2⟩ := h.1 x hx
    unfold cP at h2; rw [h1] at h2; exact h2
  · obtain ⟨h1, h2⟩ := h.2 x hx
    unfold cP at h2; rw [h1] at h2; exact h2
section
variable {cells : List CellD} {c : CondS} (S : Sm cells c)
include S
theorem Sm.sums : 0 ≤ sumI (wOf cells (hOld cells c.hyp c.goal)) ∧ 0 ≤ sumI (wOf cells (hNow cells c.hyp c.goal)) := sums_pos S.f1 S.f2
theorem Sm.b12 : sumI (wOf cells (hOld cells c.hyp c.goal)) ≤ 12 ∧ sumI (wOf cells (hNow cells c.hyp c.goal)) ≤ 12 := by
  have := S.sums; have := S.bits; omega
theorem Sm.condF2 : (condF cells c.hyp && condF cells c.goal) = true := by rw [form_condF S.f1, form_condF S.f2]; rfl
theorem Sm.weak : weakR cells c.hyp c.goal = if (weak0 cells c.hyp c.goal).op = 0 then (.mk 0 0 0 [], 2) else (weakE cells c.hyp c.goal, 0) := by
  unfold weakR; rw [S.condF2]; rfl
theorem Sm.cond1 : condE c.hyp = true := form_condE S.f1
theorem Sm.law (hz : (weak0 cells c.hyp c.goal).op ≠ 0) : (weakE cells c.hyp c.goal).wf = true ∧ (weakE cells c.hyp c.goal).wd = 1 ∧ (∀ old now, (weakE cells c.hyp c.goal).eval old now = 1 ↔ holdsAt cells c.hyp c.goal old now) ∧ ∀ old now, (weakE cells c.hyp c.goal).eval old now = 0 ∨ (weakE cells c.hyp c.goal).eval old now = 1 :=
  weak_law S.f1 S.f2 S.b12.1 S.b12.2 hz
theorem Sm.leaves0 (hz : (weak0 cells c.hyp c.goal).op ≠ 0) : (weak0 cells c.hyp c.goal).wf = true ∧ ∀ x ∈ (weak0 cells c.hyp c.goal).leaves, x.op = 1 ∨ ∃ p ∈ cP cells c.hyp c.goal, x = .mk 2 (wAt cells p) p [] := by
  rcases hexp_law (good_valid S.f1 S.f2 S.b12.1 S.b12.2) with h0 | ⟨hwf, _, _, hl, _⟩
  · exact absurd h0 hz
  · refine ⟨hwf, fun x hx => (hl x hx).imp id ?_⟩
    rintro ⟨i, hi, rfl⟩
    have hi' : i < (cP cells c.hyp c.goal).length := by simpa [wOf] using hi
    refine ⟨(cP cells c.hyp c.goal)[i], List.getElem_mem _, ?_⟩
    rw [show (wOf cells (cP cells c.hyp c.goal)).getD i 0 = wAt cells (cP cells c.hyp c.goal)[i] by unfold wOf; simp [List.getD, hi'], show (cP cells c.hyp c.goal).getD i 0 = (cP cells c.hyp c.goal)[i] by simp [List.getD, hi']]
theorem Sm.inP {p : Int} (hp : p ∈ cP cells c.hyp c.goal) : 0 ≤ p ∧ p < 32 ∧ p < (cells.length : Int) := by
  unfold cP at hp
  split at hp
  · have := old_w S.f1 S.f2 hp; omega
  · have := now_w S.f1 S.f2 hp; omega
theorem Sm.valid0 (hz : (weak0 cells c.hyp c.goal).op ≠ 0) : (weak0 cells c.hyp c.goal).valid cells true = true := by
  obtain ⟨hw, hl⟩ := S.leaves0 hz
  simp only [E.valid, Bool.and_eq_true, List.all_eq_true]
  refine ⟨hw, fun x hx => ?_⟩
  rcases hl x hx with h1 | ⟨p, hp, rfl⟩
  · unfold okLeaf; simp [h1]
  · obtain ⟨h0, _, h2⟩ := S.inP hp
    unfold okLeaf
    have : (cells.map CellD.W).getD p.toNat 0 = wAt cells p := by unfold wAt; simp [List.getD, List.getElem?_map]
    have hlt : p.toNat < cells.length := by omega
    rw [Bool.or_eq_true, Bool.and_eq_true, Bool.and_eq_true]
    exact .inr ⟨⟨decide_eq_true hlt, decide_eq_true this⟩, rfl⟩
theorem Sm.formW (hz : (weak0 cells c.hyp c.goal).op ≠ 0) : formC cells (weakE cells c.hyp c.goal) := by
  refine ⟨?_, (S.law hz).2.1⟩
  unfold weakE
  split
  · rw [before_valid (S.leaves0 hz).1]; exact S.valid0 hz
  · exact S.valid0 hz
theorem Sm.supW (hz : (weak0 cells c.hyp c.goal).op ≠ 0) :
    (∀ x ∈ (weakE cells c.hyp c.goal).supOld, stepB cells c.hyp c.goal = true ∧ x ∈ cP cells c.hyp c.goal) ∧ (∀ x ∈ (weakE cells c.hyp c.goal).supNow, stepB cells c.hyp c.goal = false ∧ x ∈ cP cells c.hyp c.goal) := by
  obtain ⟨hw, hl⟩ := S.leaves0 hz
  have ho : ∀ x, x ∉ (weak0 cells c.hyp c.goal).supOld := fun x hx => by
    obtain ⟨y, hy, h3, _⟩ := sup_leaf.2 hx
    rcases hl y hy with h1 | ⟨p, _, rfl⟩
    · omega
    · simp only [E.op_mk] at h3; omega
  have hn : ∀ x ∈ (weak0 cells c.hyp c.goal).supNow, x ∈ cP cells c.hyp c.goal := fun x hx => by
    obtain ⟨y, hy, h3, h4⟩ := sup_leaf.1 hx
    rcases hl y hy with h1 | ⟨p, hp, rfl⟩
    · omega
    · simp only [E.n_mk] at h4; rw [← h4]; exact hp
  unfold weakE
  cases hs : stepB cells c.hyp c.goal with
  | true =>
    rw [if_pos rfl]
    refine ⟨fun x hx => ⟨rfl, ?_⟩, fun x hx => ?_⟩
    · rcases before_supOld hw x hx with h1 | h1
      · exact absurd h1 (ho x)
      · exact hn x h1
    · rw [before_supNow hw] at hx; cases hx
  | false =>
    rw [if_neg (by simp)]
    exact ⟨fun x hx => absurd hx (ho x), fun x hx => ⟨rfl, hn x hx⟩⟩
theorem Sm.insupW (hz : (weak0 cells c.hyp c.goal).op ≠ 0) : InSup cells c.hyp c.goal (weakE cells c.hyp c.goal) := overP (S.supW hz)
theorem Sm.le12 {h' g' : E} (h1 : InSup cells c.hyp c.goal h') (h2 : InSup cells c.hyp c.goal g') : sumI (wOf cells (hOld cells h' g')) + sumI (wOf cells (hNow cells h' g')) ≤ 12 := by
  have := insup_sums S.f1 S.f2 h1 h2
  have := S.bits; omega
end
/-- Decide's answer on formed formulas. -/
theorem dec_form {cells : List CellD} {h g : E} {w : World} {r : Ending} {w' : World} (f1 : formC cells h) (f2 : formC cells g) (hp : DecPost cells h g w r w') :
    (((∀ old now, violB h g old now = false) ∧ r = .returned (.tuple #[.int .i64 1, .slice none 0 0, .slice none 0 0, .int .i64 0])) ∨
      ∃ st1 st2 v1 v2, violB h g st1 st2 = true ∧ Ints w' v1 st1 ∧ Ints w' v2 st2 ∧ r = .returned (.tuple #[.int .i64 2, v1, v2, .int .i64 0])) ∧ Ext w w' := by
  obtain ⟨h1, hx⟩ := hp
  refine ⟨?_, hx⟩
  have hc : (condF cells h && condF cells g) = true := by rw [form_condF f1, form_condF f2]; rfl
  rcases h1 with ⟨h1, _⟩ | ⟨_, h1⟩
  · rw [hc] at h1; cases h1
  · exact h1
theorem dec_yes {cells : List CellD} {h g : E} {w : World} {r : Ending} {w' : World} (f1 : formC cells h) (f2 : formC cells g) (hv : ∀ old now, violB h g old now = false) (hp : DecPost cells h g w r w') :
    r = .returned (.tuple #[.int .i64 1, .slice none 0 0, .slice none 0 0, .int .i64 0]) ∧ Ext w w' := by
  obtain ⟨h1, hx⟩ := dec_form f1 f2 hp
  rcases h1 with ⟨_, h1⟩ | ⟨s1, s2, _, _, h1, _⟩
  · exact ⟨h1, hx⟩
  · rw [hv] at h1; cases h1
theorem viol_iff {h g : E} {old now : List Int} : violB h g old now = false ↔ (h.eval old now = 1 → g.eval old now ≠ 0) := by
  unfold violB
  by_cases h1 : h.eval old now = 1 <;> by_cases h2 : g.eval old now = 0 <;> simp [h1, h2]
theorem holds_now {cells : List CellD} {h g : E} {old now : List Int} (hh : holdsAt cells h g old now) : violB h g old now = false := by
  unfold holdsAt at hh
  split at hh
  · exact hh now
  · exact hh
/-- The hypothesis grown stronger. -/
theorem viol_mono {h h' g : E} {old now : List Int} (hi : h'.eval old now = 1 → h.eval old now = 1) (hv : violB h g old now = false) : violB h' g old now = false :=
  viol_iff.2 fun h1 => viol_iff.1 hv (hi h1)

/-! ### P32.2 -/
theorem suff_law {cells : List CellD} {c : CondS} (S : Sm cells c) (hz : (weak0 cells c.hyp c.goal).op ≠ 0) :
    (weakE cells c.hyp c.goal).valid cells true = true ∧ ((strC c (weakE cells c.hyp c.goal)).hyp.op ≠ 0 →
      (formC cells (strC c (weakE cells c.hyp c.goal)).hyp ∧ formC cells (strC c (weakE cells c.hyp c.goal)).goal) ∧
      sumI (wOf cells (hOld cells (strC c (weakE cells c.hyp c.goal)).hyp (strC c (weakE cells c.hyp c.goal)).goal)) + sumI (wOf cells (hNow cells (strC c (weakE cells c.hyp c.goal)).hyp (strC c (weakE cells c.hyp c.goal)).goal)) ≤ 12 ∧
      ∀ old now, violB (strC c (weakE cells c.hyp c.goal)).hyp (strC c (weakE cells c.hyp c.goal)).goal old now = false) := by
  have hF := S.formW hz
  refine ⟨hF.1, fun hop => ?_⟩
  obtain ⟨e, J⟩ := strC_law hop
  rw [e]
  refine ⟨⟨join_form J S.f1 hF, S.f2⟩, S.le12 (join_insup J (insup_self S.f1 S.f2).1 (S.insupW hz)) (insup_self S.f1 S.f2).2, fun old now => ?_⟩
  by_cases h1 : (connectZ [c.hyp, weakE cells c.hyp c.goal] 5 1).eval old now = 1
  · obtain ⟨k1, k2⟩ := (J.ev old now).1 h1
    exact viol_mono (fun _ => k1) (holds_now (((S.law hz).2.2.1 old now).1 k2))
  · exact viol_iff.2 fun h => absurd h h1
/-! ### P32.4 -/
theorem old_free {cells : List CellD} {c : CondS} (S : Sm cells c) (hs : stepB cells c.hyp c.goal = false) {e : E} (he : e = c.hyp ∨ e = c.goal) (o1 o2 now : List Int) : e.eval o1 now = e.eval o2 now := by
  have hnil : hOld cells c.hyp c.goal = [] := by unfold stepB at hs; simpa using hs
  have h1 := form_eval S.f1 S.f2 he S.b12.1 S.b12.2 o1 now
  have h2 := form_eval S.f1 S.f2 he S.b12.1 S.b12.2 o2 now
  have hsm : ∀ o : List Int, numS (hOld cells c.hyp c.goal) (wOf cells (hOld cells c.hyp c.goal)) o = numS (hOld cells c.hyp c.goal) (wOf cells (hOld cells c.hyp c.goal)) [] := fun o => by
    rw [hnil]; rfl
  rw [hsm o1] at h1
  rw [hsm o2] at h2
  rw [← h1, ← h2]
theorem none_yes {cells : List CellD} {c : CondS} (S : Sm cells c) (hv : ∀ old now, violB c.hyp c.goal old now = false) : (weak0 cells c.hyp c.goal).op ≠ 0 ∧ weakE cells c.hyp c.goal = .mk 1 1 1 [] := by
  have hV := good_valid S.f1 S.f2 S.b12.1 S.b12.2
  have h0 : weak0 cells c.hyp c.goal = .mk 1 1 1 [] := by
    refine hexp_all hV fun n hn => ?_
    unfold goodL
    rw [List.mem_filter, List.mem_range]
    refine ⟨by omega, ?_⟩
    unfold goodB
    rw [List.all_eq_true]
    intro m _
    unfold violN
    split <;> simp [hv]
  rw [h0]
  refine ⟨by decide, ?_⟩
  unfold weakE
  rw [h0]
  split
  · rfl
  · rfl
theorem none_no {cells : List CellD} {c : CondS} (S : Sm cells c) (hz : (weak0 cells c.hyp c.goal).op ≠ 0) {o n : List Int} (hv : violB c.hyp c.goal o n = true) :
    (((weakE cells c.hyp c.goal).op == 1) && ((weakE cells c.hyp c.goal).n == 1) && ((weakE cells c.hyp c.goal).wd == 1)) = false ∧
      (weakE cells c.hyp c.goal).eval (if stepB cells c.hyp c.goal then o else n) (if stepB cells c.hyp c.goal then o else n) = 0 := by
  obtain ⟨w1, w2, w3, w4⟩ := S.law hz
  have hc : condE (weakE cells c.hyp c.goal) = true := condE_iff.2 ⟨w1, w2⟩
  constructor
  · cases hq : (((weakE cells c.hyp c.goal).op == 1) && ((weakE cells c.hyp c.goal).n == 1) && ((weakE cells c.hyp c.goal).wd == 1)) with
    | false => rfl
    | true =>
      simp only [Bool.and_eq_true, beq_iff_eq] at hq
      have h1 : (weakE cells c.hyp c.goal).isC 1 = true := by unfold E.isC; rw [hq.1.1, hq.1.2]; rfl
      have h2 : (weakE cells c.hyp c.goal).eval o n = 1 := by rw [isC_eq hc h1]; exact const_eval 1 (by omega) (by omega) _ _
      rw [holds_now ((w3 o n).1 h2)] at hv; cases hv
  · rcases w4 (if stepB cells c.hyp c.goal then o else n) (if stepB cells c.hyp c.goal then o else n) with h | h
    · exact h
    · exfalso
      have h1 := (w3 _ _).1 h
      unfold holdsAt at h1
      cases hs : stepB cells c.hyp c.goal with
      | true =>
        rw [hs] at h1
        simp only [if_true] at h1
        rw [h1 n] at hv; cases hv
      | false =>
        rw [hs] at h1
        simp only [Bool.false_eq_true, if_false] at h1
        have e1 := old_free S hs (.inl rfl) o n n
        have e2 := old_free S hs (.inr rfl) o n n
        unfold violB at hv h1
        rw [e1, e2, h1] at hv; cases hv
/-! ### P32.3 -/
/-- The expression that is added: over the state before. -/
def befIf (s : Bool) (e : E) : E := if s then e.before else e
theorem before_wd' {e : E} (h : e.wf = true) : e.before.wd = e.wd := by rw [before_eq h, reb_wd]
theorem bef_form {cells : List CellD} {s : Bool} {e : E} (hv : e.valid cells false = true) (hw : e.wd = 1) : formC cells (befIf s e) ∧ e.wf = true := by
  have hwf : e.wf = true := by simp only [E.valid, Bool.and_eq_true] at hv; exact hv.1
  have ht : e.valid cells true = true := by
    simp only [E.valid, Bool.and_eq_true, List.all_eq_true] at hv ⊢
    refine ⟨hv.1, fun x hx => ?_⟩
    have := hv.2 x hx
    unfold okLeaf at this ⊢
    simp only [Bool.or_eq_true, Bool.and_eq_true, decide_eq_true_eq, Bool.not_eq_true', decide_eq_false_iff_not, or_false, Bool.false_eq_true, or_true, and_true] at this ⊢
    exact this.imp id fun h => h.1
  refine ⟨?_, hwf⟩
  unfold befIf
  split
  · exact ⟨by rw [before_valid hwf]; exact ht, by rw [before_wd' hwf]; exact hw⟩
  · exact ⟨ht, hw⟩
theorem bef_over {cells : List CellD} {c : CondS} {e : E} (hv : e.valid cells false = true) (hl : ∀ x ∈ e.supNow, x ∈ cP cells c.hyp c.goal) :
    (∀ x ∈ (befIf (stepB cells c.hyp c.goal) e).supOld, stepB cells c.hyp c.goal = true ∧ x ∈ cP cells c.hyp c.goal) ∧ (∀ x ∈ (befIf (stepB cells c.hyp c.goal) e).supNow, stepB cells c.hyp c.goal = false ∧ x ∈ cP cells c.hyp c.goal) := by
  have hwf : e.wf = true := by have := hv; simp only [E.valid, Bool.and_eq_true] at this; exact this.1
  have ho := valid_supOld hwf cells hv
  unfold befIf
  cases hs : stepB cells c.hyp c.goal with
  | true =>
    rw [if_pos rfl]
    refine ⟨fun x hx => ⟨rfl, ?_⟩, fun x hx => ?_⟩
    · rcases before_supOld hwf x hx with h1 | h1
      · rw [ho] at h1; cases h1
      · exact hl x h1
    · rw [before_supNow hwf] at hx; cases hx
  | false =>
    rw [if_neg (by simp)]
    exact ⟨fun x hx => (by rw [ho] at hx; cases hx), fun x hx => ⟨rfl, hl x hx⟩⟩
theorem bef_now {s : Bool} {e : E} (hwf : e.wf = true) (hs : s = true) (old n1 n2 : List Int) : (befIf s e).eval old n1 = (befIf s e).eval old n2 := by
  unfold befIf; rw [if_pos hs, before_eval hwf, before_eval hwf]
theorem weak_dec {cells : List CellD} {c : CondS} (S : Sm cells c) {e : E} (hv : e.valid cells false = true) (hw : e.wd = 1) (hl : ∀ x ∈ e.supNow, x ∈ cP cells c.hyp c.goal)
    (hop : (strC c (befIf (stepB cells c.hyp c.goal) e)).hyp.op ≠ 0) :
    (formC cells (strC c (befIf (stepB cells c.hyp c.goal) e)).hyp ∧ formC cells (strC c (befIf (stepB cells c.hyp c.goal) e)).goal) ∧
      sumI (wOf cells (hOld cells (strC c (befIf (stepB cells c.hyp c.goal) e)).hyp (strC c (befIf (stepB cells c.hyp c.goal) e)).goal)) + sumI (wOf cells (hNow cells (strC c (befIf (stepB cells c.hyp c.goal) e)).hyp (strC c (befIf (stepB cells c.hyp c.goal) e)).goal)) ≤ 12 := by
  have hF := (bef_form (cells := cells) (s := stepB cells c.hyp c.goal) hv hw).1
  obtain ⟨e1, J⟩ := strC_law hop
  rw [e1]
  exact ⟨⟨join_form J S.f1 hF, S.f2⟩, S.le12 (join_insup J (insup_self S.f1 S.f2).1 (overP (bef_over hv hl))) (insup_self S.f1 S.f2).2⟩
theorem weak_imp {cells : List CellD} {c : CondS} (S : Sm cells c) (hz : (weak0 cells c.hyp c.goal).op ≠ 0) {e : E} (hv : e.valid cells false = true) (hw : e.wd = 1) (hl : ∀ x ∈ e.supNow, x ∈ cP cells c.hyp c.goal)
    (hop : (strC c (befIf (stepB cells c.hyp c.goal) e)).hyp.op ≠ 0) (hy : ∀ old now, violB (strC c (befIf (stepB cells c.hyp c.goal) e)).hyp (strC c (befIf (stepB cells c.hyp c.goal) e)).goal old now = false) :
    formC cells (befIf (stepB cells c.hyp c.goal) e) ∧ formC cells (weakE cells c.hyp c.goal) ∧
      sumI (wOf cells (hOld cells (befIf (stepB cells c.hyp c.goal) e) (weakE cells c.hyp c.goal))) + sumI (wOf cells (hNow cells (befIf (stepB cells c.hyp c.goal) e) (weakE cells c.hyp c.goal))) ≤ 12 ∧
      ∀ old now, violB (befIf (stepB cells c.hyp c.goal) e) (weakE cells c.hyp c.goal) old now = false := by
  obtain ⟨hF, hwf⟩ := bef_form (cells := cells) (s := stepB cells c.hyp c.goal) hv hw
  obtain ⟨e1, J⟩ := strC_law hop
  rw [e1] at hy
  refine ⟨hF, S.formW hz, S.le12 (overP (bef_over hv hl)) (S.insupW hz), fun old now => viol_iff.2 fun h1 => ?_⟩
  have hh : holdsAt cells c.hyp c.goal old now := by
    unfold holdsAt
    split
    · next hs =>
      intro now'
      refine viol_iff.2 fun h2 => ?_
      have h3 : (befIf (stepB cells c.hyp c.goal) e).eval old now' = 1 := (bef_now hwf hs old now' now).trans h1
      exact viol_iff.1 (hy old now') ((J.ev old now').2 ⟨h2, h3⟩)
    · refine viol_iff.2 fun h2 => ?_
      exact viol_iff.1 (hy old now) ((J.ev old now).2 ⟨h2, h1⟩)
  rw [((S.law hz).2.2.1 old now).2 hh]; omega
/-! ### P32.5 -/
theorem zeroC_no {cells : List CellD} {c : CondS} (S : Sm cells c) : c.hyp.op ≠ 0 := wf_op (condE_iff.1 S.cond1).1
/-- Conditions with the same cells and the same violations have the same weakest expression. -/
theorem weak_same {cells : List CellD} {h h' g : E} (h1 : condF cells h = condF cells h') (ho : hOld cells h g = hOld cells h' g) (hn : hNow cells h g = hNow cells h' g) (hv : ∀ old now, violB h g old now = violB h' g old now) : weakR cells h g = weakR cells h' g := by
  have hs : stepB cells h g = stepB cells h' g := by unfold stepB; rw [ho]
  have hp : cP cells h g = cP cells h' g := by unfold cP; rw [hs, ho, hn]
  have hq : cQ cells h g = cQ cells h' g := by unfold cQ; rw [hs, ho, hn]
  have hN : ∀ n m, violN cells h g n m = violN cells h' g n m := fun n m => by unfold violN; rw [hs, hp, hq]; simp only [hv]
  have hG : goodL cells h g = goodL cells h' g := by
    unfold goodL
    rw [hp]
    congr 1
    funext n
    unfold goodB
    rw [hq]
    simp only [hN]
  have hW : weak0 cells h g = weak0 cells h' g := by unfold weak0; rw [hp, hG]
  unfold weakR weakE
  rw [h1, hW, hs]
theorem choose_same {cells : List CellD} {a b a' b' : List Int} (h : ∀ j : Nat, j < 32 → (((j : Int) ∈ a ∨ (j : Int) ∈ b) ↔ ((j : Int) ∈ a' ∨ (j : Int) ∈ b'))) : chooseL cells a b = chooseL cells a' b' := by
  unfold chooseL upTo
  congr 1
  refine List.filter_congr fun j hj => ?_
  have := h j (List.mem_range.1 hj)
  rw [Bool.eq_iff_iff]
  simp only [Bool.and_eq_true, Bool.or_eq_true, decide_eq_true_eq, List.contains_iff_mem, this]
theorem or_left {x y z : Bool} (h : z = (x || y)) (hz : z = false) : x = false := by cases x <;> cases y <;> cases z <;> first | rfl | (exact absurd h (by decide)) | (exact absurd hz (by decide))
theorem swap_law {cells : List CellD} {c : CondS} {a b : E} (hd : (strC c a).hyp.op ≠ 0) (Sy : Sm cells (strC (strC c a) b)) (Sz : Sm cells (strC (strC c b) a)) :
    weakR cells (strC (strC c a) b).hyp (strC (strC c a) b).goal = weakR cells (strC (strC c b) a).hyp (strC (strC c b) a).goal := by
  obtain ⟨e1, J1⟩ := strC_law hd
  obtain ⟨e2, J2⟩ := strC_law (zeroC_no Sy)
  obtain ⟨e4, J4⟩ := strC_law (zeroC_no Sz)
  have hd2 : (strC c b).hyp.op ≠ 0 := wf_op (condE_iff.1 J4.ca).1
  obtain ⟨e3, J3⟩ := strC_law hd2
  have fy := Sy.f1
  have fz := Sz.f1
  rw [e2] at fy ⊢
  rw [e4] at fz ⊢
  rw [e1] at J2 fy ⊢
  rw [e3] at J4 fz ⊢
  simp only at J2 J4 fy fz ⊢
  generalize connectZ [c.hyp, a] 5 1 = p at *
  generalize connectZ [c.hyp, b] 5 1 = q at *
  generalize connectZ [p, b] 5 1 = y at *
  generalize connectZ [q, a] 5 1 = z at *
  have h0 : y.isC 0 = z.isC 0 := by rw [J2.zero, J4.zero, J1.zero, J3.zero]; cases c.hyp.isC 0 <;> cases a.isC 0 <;> cases b.isC 0 <;> rfl
  have hl : ∀ x : E, x.op ≠ 1 → (x ∈ y.leaves ↔ x ∈ z.leaves) := fun x hx => by
    cases hy : y.isC 0 with
    | true =>
      have hz : z.isC 0 = true := by rw [← h0]; exact hy
      exact ⟨fun hm => absurd hm (const_leaf' (form_condE fy) hy hx), fun hm => absurd hm (const_leaf' (form_condE fz) hz hx)⟩
    | false =>
      have hz : z.isC 0 = false := by rw [← h0]; exact hy
      have hp : p.isC 0 = false := or_left J2.zero hy
      have hq : q.isC 0 = false := or_left J4.zero hz
      rw [J2.all hy x hx, J4.all hz x hx, J1.all hp x hx, J3.all hq x hx]
      constructor
      · rintro ((h | h) | h)
        · exact .inl (.inl h)
        · exact .inr h
        · exact .inl (.inr h)
      · rintro ((h | h) | h)
        · exact .inl (.inl h)
        · exact .inr h
        · exact .inl (.inr h)
  have hyz : ∀ old now, y.eval old now = 1 ↔ z.eval old now = 1 := fun old now => by
    rw [J2.ev, J4.ev, J1.ev, J3.ev]
    constructor
    · rintro ⟨⟨h1, h2⟩, h3⟩; exact ⟨⟨h1, h3⟩, h2⟩
    · rintro ⟨⟨h1, h2⟩, h3⟩; exact ⟨⟨h1, h3⟩, h2⟩
  refine weak_same (by rw [form_condF fy, form_condF fz]) ?_ ?_ fun old now => ?_
  · refine choose_same fun j hj => ?_
    rw [supOld_iff J2.wf hj, supOld_iff J4.wf hj]
    have : (∃ x ∈ y.leaves, x.op = 3 ∧ x.n = (j : Int)) ↔ (∃ x ∈ z.leaves, x.op = 3 ∧ x.n = (j : Int)) :=
      ⟨fun ⟨x, hx, h3, hn⟩ => ⟨x, (hl x (by omega)).1 hx, h3, hn⟩, fun ⟨x, hx, h3, hn⟩ => ⟨x, (hl x (by omega)).2 hx, h3, hn⟩⟩
    rw [this]
  · refine choose_same fun j hj => ?_
    rw [supNow_iff J2.wf hj, supNow_iff J4.wf hj]
    have : (∃ x ∈ y.leaves, x.op = 2 ∧ x.n = (j : Int)) ↔ (∃ x ∈ z.leaves, x.op = 2 ∧ x.n = (j : Int)) :=
      ⟨fun ⟨x, hx, h3, hn⟩ => ⟨x, (hl x (by omega)).1 hx, h3, hn⟩, fun ⟨x, hx, h3, hn⟩ => ⟨x, (hl x (by omega)).2 hx, h3, hn⟩⟩
    rw [this]
  · unfold violB
    by_cases h1 : y.eval old now = 1
    · rw [h1, (hyz old now).1 h1]
    · rw [decide_eq_false h1, decide_eq_false fun h => h1 ((hyz old now).2 h)]
/-! ### P32.6 -/
theorem own_law {cells : List CellD} {c : CondS} (S : Sm cells c) (hz : (weak0 cells c.hyp c.goal).op ≠ 0) (So : Sm cells (strC c (weakE cells c.hyp c.goal))) :
    weakR cells (strC c (weakE cells c.hyp c.goal)).hyp (strC c (weakE cells c.hyp c.goal)).goal = (.mk 1 1 1 [], 0) := by
  have hv := ((suff_law S hz).2 (zeroC_no So)).2.2
  obtain ⟨h1, h2⟩ := none_yes So hv
  rw [So.weak, if_neg h1, h2]
theorem sub_len {f g : Nat → Bool} {k : Nat} (h : (upTo f k).Sublist (upTo g k)) (hl : (upTo f k).length = (upTo g k).length) : upTo f k = upTo g k := h.eq_of_length hl
theorem prog_law {cells : List CellD} {c : CondS} {a : E} (S : Sm cells c) (hz : (weak0 cells c.hyp c.goal).op ≠ 0) (Sd : Sm cells (strC c a)) (hzd : (weak0 cells (strC c a).hyp (strC c a).goal).op ≠ 0)
    (hst : stepB cells c.hyp c.goal = stepB cells (strC c a).hyp (strC c a).goal) (hl : (cP cells c.hyp c.goal).length = (cP cells (strC c a).hyp (strC c a).goal).length) :
    formC cells (weakE cells c.hyp c.goal) ∧ formC cells (weakE cells (strC c a).hyp (strC c a).goal) ∧
      sumI (wOf cells (hOld cells (weakE cells c.hyp c.goal) (weakE cells (strC c a).hyp (strC c a).goal))) + sumI (wOf cells (hNow cells (weakE cells c.hyp c.goal) (weakE cells (strC c a).hyp (strC c a).goal))) ≤ 12 ∧
      ∀ old now, violB (weakE cells c.hyp c.goal) (weakE cells (strC c a).hyp (strC c a).goal) old now = false := by
  obtain ⟨e1, J⟩ := strC_law (zeroC_no Sd)
  have hw := S.law hz
  have hwd := Sd.law hzd
  have hfd := Sd.formW hzd
  have hsd := Sd.supW hzd
  have fd := Sd.f1
  rw [e1] at hwd hfd hsd hst hl fd ⊢
  simp only at hwd hfd hsd hst hl fd ⊢
  generalize connectZ [c.hyp, a] 5 1 = d at *
  -- the cells before are the same
  have hP : cP cells d c.goal = cP cells c.hyp c.goal := by
    have key : ∀ l : E → List Int, (∀ (e : E) (j : Nat), j < 32 → e.wf = true → ((j : Int) ∈ l e ↔ ∃ x ∈ e.leaves, x.op ≠ 1 ∧ x.n = (j : Int) ∧ (∀ y : E, y.op = x.op → y.n = x.n → y ∈ e.leaves → (j : Int) ∈ l e))) → True := fun _ _ => trivial
    clear key
    have wh := (condE_iff.1 J.ca).1
    have wg := (condE_iff.1 (form_condE S.f2)).1
    cases hd0 : d.isC 0 with
    | true =>
      -- no cells of its own: the goal's alone
      have hno : ∀ x : E, x.op ≠ 1 → x ∉ d.leaves := fun x hx => const_leaf' (form_condE fd) hd0 hx
      have so : (hOld cells d c.goal).Sublist (hOld cells c.hyp c.goal) := choose_sub fun j hj _ hm => by
        refine hm.elim (fun hm => ?_) .inr
        obtain ⟨x, hx, h3, _⟩ := (supOld_iff J.wf hj).1 hm
        exact absurd hx (hno x (by omega))
      have sn : (hNow cells d c.goal).Sublist (hNow cells c.hyp c.goal) := choose_sub fun j hj _ hm => by
        refine hm.elim (fun hm => ?_) .inr
        obtain ⟨x, hx, h3, _⟩ := (supNow_iff J.wf hj).1 hm
        exact absurd hx (hno x (by omega))
      unfold cP at hl ⊢
      rw [← hst] at hl ⊢
      cases hs : stepB cells c.hyp c.goal with
      | true => rw [hs] at hl; exact so.eq_of_length hl.symm
      | false => rw [hs] at hl; exact sn.eq_of_length hl.symm
    | false =>
      have so : (hOld cells c.hyp c.goal).Sublist (hOld cells d c.goal) := choose_sub fun j hj _ hm => by
        refine hm.imp (fun hm => ?_) id
        obtain ⟨x, hx, h3, hn⟩ := (supOld_iff wh hj).1 hm
        exact (supOld_iff J.wf hj).2 ⟨x, (J.all hd0 x (by omega)).2 (.inl hx), h3, hn⟩
      have sn : (hNow cells c.hyp c.goal).Sublist (hNow cells d c.goal) := choose_sub fun j hj _ hm => by
        refine hm.imp (fun hm => ?_) id
        obtain ⟨x, hx, h3, hn⟩ := (supNow_iff wh hj).1 hm
        exact (supNow_iff J.wf hj).2 ⟨x, (J.all hd0 x (by omega)).2 (.inl hx), h3, hn⟩
      unfold cP at hl ⊢
      rw [← hst] at hl ⊢
      cases hs : stepB cells c.hyp c.goal with
      | true => rw [hs] at hl; exact (so.eq_of_length hl).symm
      | false => rw [hs] at hl; exact (sn.eq_of_length hl).symm
  rw [hP, ← hst] at hsd
  refine ⟨S.formW hz, hfd, S.le12 (S.insupW hz) (overP hsd), fun old now => viol_iff.2 fun h1 => ?_⟩
  have h2 := (hw.2.2.1 old now).1 h1
  have h3 : holdsAt cells d c.goal old now := by
    unfold holdsAt at h2 ⊢
    rw [← hst]
    split at h2
    · next hs =>
      rw [if_pos hs]
      exact fun now' => viol_mono (fun h => ((J.ev old now').1 h).1) (h2 now')
    · next hs =>
      rw [if_neg hs]
      exact viol_mono (fun h => ((J.ev old now).1 h).1) h2
  rw [(hwd.2.2.1 old now).2 h3]; omega
end Go.Proofs.YtlcgbdjmlnjhcaaGreatDoor
