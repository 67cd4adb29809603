/-
  The walks of relation.applies, checked (of sets).
  The walks of the builders of Image and Inside.
  What a valid relation is; the walks of relation.Image and Inside. Printed by gen_image.py.
-/
import Derived.Test.YtlnahhlddekhoaaDoorMRla
namespace Go.Proofs.YtlnahhlddekhoaaDoor
open Go.RowKit

theorem comb_self' (cs ws is : List Int) : combB cs ws is cs ws is = validB cs ws is := by simp [combB]
noncomputable def appliesB (cs ws : List Int) (P : List (Int × Int)) (cs2 ws2 is : List Int) : Bool := validB cs2 ws2 is && rvalidB cs ws P && decide (cs = cs2) && decide (ws = ws2)
/-- Two boxes. -/
structure Boxes (w0 W : World) (x y : Obj) : Prop where
  eq : W = (w0.alloc x).alloc y
  ext : Ext w0 W
  size : W.heap.size = w0.heap.size + 2
  b0 : W.heap[w0.heap.size]? = some x
  b1 : W.heap[w0.heap.size + 1]? = some y
theorem Boxes.mk' (w0 : World) (x y : Obj) : Boxes w0 ((w0.alloc x).alloc y) x y :=
  ⟨rfl, ((Ext.refl w0).alloc _).alloc _, by simp, by rw [heap_alloc_old _ _ (by simp)]; exact heap_new _ _, by have := heap_new (w0.alloc x) y; rw [World.size_alloc] at this; exact this⟩
/-- Three. -/
structure Boxes3 (w0 W : World) (x y z : Obj) : Prop where
  eq : W = ((w0.alloc x).alloc y).alloc z
  ext : Ext w0 W
  size : W.heap.size = w0.heap.size + 3
  b0 : W.heap[w0.heap.size]? = some x
  b1 : W.heap[w0.heap.size + 1]? = some y
  b2 : W.heap[w0.heap.size + 2]? = some z
theorem Boxes3.mk' (w0 : World) (x y z : Obj) : Boxes3 w0 (((w0.alloc x).alloc y).alloc z) x y z :=
  ⟨rfl, (((Ext.refl w0).alloc _).alloc _).alloc _, by simp, by rw [heap_alloc_old _ _ (by simp; omega)]; exact (Boxes.mk' w0 x y).b0, by rw [heap_alloc_old _ _ (by simp)]; exact (Boxes.mk' w0 x y).b1,
    by have := heap_new ((w0.alloc x).alloc y) z; rw [World.size_alloc, World.size_alloc] at this; exact this⟩

set_option maxRecDepth 100000 in
set_option maxHeartbeats 2000000 in
theorem applies_any (cs ws : List Int) (P : List (Int × Int)) (cs2 ws2 is : List Int) (va vs : Value) (w : World) (ha : RelV w va cs ws P) (hs : SetV w vs cs2 ws2 is) (hT : DeB w) : Calls Tryd.prog 45 #[va, vs] w fun r w' => r = .returned (.bool (appliesB cs ws P cs2 ws2 is)) ∧ Ext w w' := by
  obtain ⟨ca, cc, wa, wcp, ia, ic, rfl, a1, a2, a3⟩ := ha.shape
  obtain ⟨ca2, cc2, wa2, wc2, ia2, ic2, rfl, b1, b2, b3⟩ := hs.shape
  obtain ⟨W, hW⟩ : ∃ W, Boxes w W (.cells #[.slice ca cs.length cc, .slice wa ws.length wcp, .slice ia P.length ic] 25) (.cells #[.slice ca2 cs2.length cc2, .slice wa2 ws2.length wc2, .slice ia2 is.length ic2] 27) := ⟨_, Boxes.mk' _ _ _⟩
  obtain ⟨p0, p1, p2⟩ := cells3 hW.b0
  obtain ⟨q0, q1, q2⟩ := cells3 hW.b1
  have HA := Lib.hid (ha.ext hW.ext); have HS := Lib.hid (hs.ext hW.ext); have HT := Lib.hid (hT.ext hW.ext)
  have A1 := Lib.hid (a1.ext hW.ext); have A2 := Lib.hid (a2.ext hW.ext); have C1 := Lib.hid (b1.ext hW.ext); have C2 := Lib.hid (b2.ext hW.ext)
  have HW := Lib.hid hW
  have HF : Hid (appliesB cs ws P cs2 ws2 is = (validB cs2 ws2 is && rvalidB cs ws P && decide (cs = cs2) && decide (ws = ws2))) := rfl
  clear ha hs hT a1 a2 a3 b1 b2 b3 hW
  go_enter Tryd.func45, Tryd.ntmps45
  go_upto_region 1 with fail
  rw [← HW.out.eq]
  go_wp2_with fail
  refine (Meet_any cs2 ws2 is cs2 ws2 is _ _ _ HS.out HS.out HT.out).mono ?_
  intro r w1 h1
  unfold CombPost at h1
  rw [comb_self'] at h1
  cases hsm : validB cs2 ws2 is with
  | false =>
    rw [hsm] at h1
    obtain ⟨v, rfl, hv, x1⟩ := h1
    obtain ⟨sa, sb, sc, sd, se, sf, rfl⟩ := hv.shape
    have HN : Hid (appliesB cs ws P cs2 ws2 is = false) := by unfold Hid; rw [HF.out, hsm]; rfl
    have X1 := Lib.hid (HW.out.ext.trans x1)
    clear hv x1 hsm
    go_wp2_with fail
    go_ret
    exact ⟨by rw [HN.out]; rfl, X1.out.alloc _⟩
  | true =>
    rw [hsm] at h1
    obtain ⟨v, rfl, hv, x1⟩ := h1
    obtain ⟨sa, sb, sc, sd, se, sf, rfl⟩ := hv.shape
    have HSM := Lib.hid hsm
    obtain ⟨w2, hw2⟩ : ∃ w2, w2 = w1.alloc (.cells #[.slice sa cs2.length sb, .slice sc ws2.length sd, .slice se (combL (· &&& ·) is is).length sf] 27) := ⟨_, rfl⟩
    have x2 : Ext W w2 := by rw [hw2]; exact x1.alloc _
    have X2 := Lib.hid x2; have HW2 := Lib.hid hw2
    have p02 := x2.cell p0; have p12 := x2.cell p1; have p22 := x2.cell p2
    have q02 := x2.cell q0; have q12 := x2.cell q1
    clear hv x1 hsm x2 hw2 p0 p1 p2 q0 q1 q2
    go_upto_region 2 with fail
    rw [← HW2.out]
    go_wp2_with fail
    refine (rvalid_any cs ws P _ _ (HA.out.ext X2.out) (HT.out.ext X2.out)).mono ?_
    rintro r w3 ⟨rfl, x3⟩
    cases hrv : rvalidB cs ws P with
    | false =>
      have HN : Hid (appliesB cs ws P cs2 ws2 is = false) := by unfold Hid; rw [HF.out, HSM.out, hrv]; rfl
      have X3 := Lib.hid (HW.out.ext.trans (X2.out.trans x3))
      clear hrv x3
      go_wp2_with fail
      go_ret
      exact ⟨by rw [HN.out]; rfl, X3.out⟩
    | true =>
      have HRV := Lib.hid hrv
      have p03 := x3.cell p02; have p13 := x3.cell p12; have q03 := x3.cell q02; have q13 := x3.cell q12
      have X3 := Lib.hid (X2.out.trans x3)
      clear hrv x3 p02 p12 p22 q02 q12
      go_wp2_with fail
      refine (Equal_any cs cs2 _ _ _ (A1.out.ext X3.out) (C1.out.ext X3.out)).mono ?_
      rintro r w4 ⟨rfl, x4⟩
      cases hce : decide (cs = cs2) with
      | false =>
        have HN : Hid (appliesB cs ws P cs2 ws2 is = false) := by unfold Hid; rw [HF.out, HSM.out, HRV.out, hce]; rfl
        have X4 := Lib.hid (HW.out.ext.trans (X3.out.trans x4))
        clear hce x4
        go_wp2_with fail
        go_ret
        exact ⟨by rw [HN.out]; rfl, X4.out⟩
      | true =>
        have HCE := Lib.hid hce
        have p14 := x4.cell p13; have q14 := x4.cell q13
        have X4 := Lib.hid (X3.out.trans x4)
        clear hce x4 p03 p13 q03 q13
        go_wp2_with fail
        refine (Equal_any ws ws2 _ _ _ (A2.out.ext X4.out) (C2.out.ext X4.out)).mono ?_
        rintro r w5 ⟨rfl, x5⟩
        have HN : Hid (appliesB cs ws P cs2 ws2 is = decide (ws = ws2)) := by unfold Hid; rw [HF.out, HSM.out, HRV.out, HCE.out]; rfl
        have X5 := Lib.hid (HW.out.ext.trans (X4.out.trans x5))
        clear x5
        generalize decide (ws = ws2) = bb at *
        go_wp2_with fail
        go_ret
        exact ⟨by rw [HN.out]; rfl, X5.out⟩

/-- What the builder of a set promises. -/
def BuildsS (K : Nat) (caps : Array Value) (C D I : List Int) (w : World) : Prop := (∀ (args : Array Value) (w : World), (callFunc K args).run Tryd.prog w = .ok (.enter K args) w) ∧
  ∀ w', Ext w w' → Calls Tryd.prog K caps w' fun r w2 => ∃ v', r = .returned v' ∧ SetO w2 w'.heap.size v' C D I ∧ Ext w' w2
set_option maxHeartbeats 1000000 in
theorem checkedS_no (f : Value) (w : World) : Calls Tryd.prog 44 #[.bool false, f] w (SetRes 1 [] [] [] w) := by
  have HF : Hid (SetRes 1 [] [] [] w (.returned (.tuple #[.agg #[.slice none 0 0, .slice none 0 0, .slice none 0 0], .int .i64 1])) ((w.alloc (.cells #[.slice none 0 0, .slice none 0 0, .slice none 0 0] 27)).alloc (.cells #[.slice none 0 0, .slice none 0 0, .slice none 0 0] 27))) :=
    ⟨_, rfl, SetO.nil _ _, ((Ext.refl w).alloc _).alloc _⟩
  have HR : Hid (((w.alloc (.cells #[.slice none 0 0, .slice none 0 0, .slice none 0 0] 27)).alloc (.cells #[.slice none 0 0, .slice none 0 0, .slice none 0 0] 27)).heap[w.heap.size]? = some (.cells #[.slice none 0 0, .slice none 0 0, .slice none 0 0] 27 (0, 0))) := (Boxes.mk' w _ _).b0
  go_enter Tryd.func44, Tryd.ntmps44
  go_wp2_with fail
  exact bodyPost_ret (v := .tuple #[.agg #[.slice none 0 0, .slice none 0 0, .slice none 0 0], .int .i64 1]) (results_row_tmp Tryd.results44 _ _ w.heap.size 27 _ (0, 0) _ rfl HR.out Tryd.underlying27 rfl sizeSet) rfl HF.out
set_option maxHeartbeats 1000000 in
theorem checkedS_yes (K : Nat) (caps : Array Value) (C D I : List Int) (w : World) (h : BuildsS K caps C D I w) : Calls Tryd.prog 44 #[.bool true, .func (.func K) #[] caps] w (SetRes 0 C D I w) := by
  have HB := Lib.hid h; clear h
  have cf := HB.out.1 caps
  go_enter Tryd.func44, Tryd.ntmps44
  go_wp2_with fail
  clear cf
  refine (HB.out.2 _ ((Ext.refl w).alloc _)).mono ?_
  rintro r w1 ⟨v, rfl, hv, x1⟩
  obtain ⟨sa, sb, sc, sd, se, sf, rfl⟩ := hv.shape
  have hR := x1.block w.heap.size (by simp)
  rw [heap_new] at hR
  obtain ⟨z0, z1, z2, f0, f1, f2⟩ := block3 hR
  have HR := Lib.hid (put3_new (x := .slice sa C.length sb) (y := .slice sc D.length sd) (z := .slice se I.length sf) hR)
  have HF : Hid (SetRes 0 C D I w (.returned (.tuple #[.agg #[.slice sa C.length sb, .slice sc D.length sd, .slice se I.length sf], .int .i64 0])) (put3 w1 w.heap.size (.slice sa C.length sb) (.slice sc D.length sd) (.slice se I.length sf))) := by
    rw [World.size_alloc] at hv
    exact ⟨_, rfl, (hv.put3 (by omega) _ _ _).mono (by omega), (((Ext.refl w).alloc _).trans x1).put3 (Nat.le_refl _) _ _ _⟩
  clear hR hv x1
  go_wp2_with fail
  exact bodyPost_ret (v := .tuple #[.agg #[.slice sa C.length sb, .slice sc D.length sd, .slice se I.length sf], .int .i64 0]) (results_row_tmp Tryd.results44 _ _ w.heap.size 27 _ (0, 0) _ rfl HR.out Tryd.underlying27 rfl sizeSet) rfl HF.out
end Go.Proofs.YtlnahhlddekhoaaDoor
namespace Go.Proofs.YtlnahhlddekhoaaDoor
open Go.RowKit

theorem image_snoc (M l : List Nat) {k : Nat} (h : k < l.length) : imageW M (l.take (k + 1)) = imageW M (l.take k) ||| rowM M l[k] := by
  unfold imageW
  rw [List.take_succ_eq_append_getElem h, List.foldl_append]; rfl
theorem image_lt {M : List Nat} (hM : ∀ i, rowM M i < 18446744073709551616) (l : List Nat) : imageW M l < 18446744073709551616 := by
  have key : ∀ (l : List Nat) (w : Nat), w < 2 ^ 64 → l.foldl (fun w x => w ||| rowM M x) w < 2 ^ 64 := by
    intro l
    induction l with
    | nil => intro w h; exact h
    | cons a r ih => intro w h; exact ih _ (Nat.or_lt_two_pow h (hM a))
  exact key l 0 (by omega)
/-- A relation and a set in their variables. -/
structure Vars (w : World) (A B : Nat) (cs ws : List Int) (P : List (Nat × Nat)) (cs2 ws2 : List Int) (l : List Nat) (ca wa ia : Option Addr) (cc wcp ic : Nat) (ca2 wa2 ia2 : Option Addr) (cc2 wc2 ic2 : Nat) : Prop where
  ba : w.heap[A]? = some (.cells #[.slice ca cs.length cc, .slice wa ws.length wcp, .slice ia P.length ic] 25 (0, 0))
  bb : w.heap[B]? = some (.cells #[.slice ca2 cs2.length cc2, .slice wa2 ws2.length wc2, .slice ia2 l.length ic2] 27 (0, 0))
  va : RelV w (.agg #[.slice ca cs.length cc, .slice wa ws.length wcp, .slice ia P.length ic]) cs ws (castP P)
  vb : SetV w (.agg #[.slice ca2 cs2.length cc2, .slice wa2 ws2.length wc2, .slice ia2 l.length ic2]) cs2 ws2 (castL l)
  vl : Ints w (.slice ia2 l.length ic2) (castL l)
  p64 : ∀ p ∈ P, p.1 < 64 ∧ p.2 < 64
  l64 : ∀ x ∈ l, x < 64
  lc : cs2.length ≤ 1000000000
  lw : ws2.length ≤ 1000000000
theorem Vars.ext {w w' : World} {A B : Nat} {cs ws : List Int} {P : List (Nat × Nat)} {cs2 ws2 : List Int} {l : List Nat} {ca wa ia : Option Addr} {cc wcp ic : Nat} {ca2 wa2 ia2 : Option Addr} {cc2 wc2 ic2 : Nat}
    (h : Vars w A B cs ws P cs2 ws2 l ca wa ia cc wcp ic ca2 wa2 ia2 cc2 wc2 ic2) (hx : Ext w w') : Vars w' A B cs ws P cs2 ws2 l ca wa ia cc wcp ic ca2 wa2 ia2 cc2 wc2 ic2 :=
  ⟨by rw [hx.block _ (lt_heap h.ba)]; exact h.ba, by rw [hx.block _ (lt_heap h.bb)]; exact h.bb, h.va.ext hx, h.vb.ext hx, h.vl.ext hx, h.p64, h.l64, h.lc, h.lw⟩

set_option maxRecDepth 100000 in
set_option maxHeartbeats 2000000 in
theorem Image1_any (w : World) (A B : Nat) (cs ws : List Int) (P : List (Nat × Nat)) (cs2 ws2 : List Int) (l : List Nat) (ca wa ia : Option Addr) (cc wcp ic : Nat) (ca2 wa2 ia2 : Option Addr) (cc2 wc2 ic2 : Nat)
    (hV : Vars w A B cs ws P cs2 ws2 l ca wa ia cc wcp ic ca2 wa2 ia2 cc2 wc2 ic2) :
    Calls Tryd.prog 46 #[.pointer (some ⟨A, 0, none⟩), .pointer (some ⟨B, 0, none⟩)] w fun r w' => ∃ v', r = .returned v' ∧ SetO w' w.heap.size v' cs2 ws2 (castL (inWord (imageW (rowsL P) l))) ∧ Ext w w' := by
  obtain ⟨W, hW⟩ : ∃ W, W = w.alloc (.cells #[.slice none 0 0, .slice none 0 0, .slice none 0 0] 27) := ⟨_, rfl⟩
  have hx : Ext w W := by rw [hW]; exact (Ext.refl w).alloc _
  have hz : W.heap.size = w.heap.size + 1 := by rw [hW]; simp
  have hB1 : W.heap[w.heap.size]? = some (.cells #[.slice none 0 0, .slice none 0 0, .slice none 0 0] 27 (0, 0)) := by rw [hW]; exact heap_new _ _
  have hV1 := hV.ext hx
  have hlen : l.length ≤ 9223372036854775807 := by have := SliceAt.len_le hV.vl; rw [castL_len] at this; exact this
  obtain ⟨p0, p1, p2⟩ := cells3 hV1.ba
  have HV := Lib.hid hV1; have HX := Lib.hid hx; have HZ := Lib.hid hz; have HW := Lib.hid hW; have B1 := Lib.hid hB1
  clear hV hV1 hx hz hW hB1
  go_enter Tryd.func46, Tryd.ntmps46
  go_upto_region 1 with fail
  rw [← HW.out]
  go_wp2_with fail
  refine (rows_any cs ws P _ _ HV.out.va HV.out.p64).mono ?_
  rintro r w1 ⟨b, rfl, hb, hM, x1⟩
  have HM := Lib.hid hM; have X1 := Lib.hid x1; have V1 := Lib.hid (HV.out.ext x1)
  clear hM x1 p0 p1 p2
  generalize hMM : rowsL P = M at *
  have HMM := Lib.hid hMM; clear hMM
  obtain ⟨q0, q1, q2⟩ := cells3 V1.out.bb
  go_wp2_with fail
  go_loop [4, 12] (fun x i => ∃ k : Nat, k ≤ l.length ∧ i = .int .i64 k ∧ x = .int .u64 (imageW M (l.take k))) (fun _ i => l.length - (intOf i).toNat)
  case atStart => exact ⟨0, Nat.zero_le _, rfl, rfl⟩
  case round =>
    obtain ⟨k, hk, rfl, rfl⟩ := hrel
    by_cases hlt : k < l.length
    · rcases V1.out.vl with ⟨_, e⟩ | ⟨g, o, cap', e, _, hc⟩
      · have := castL_len l; rw [e] at this; simp at this; omega
      rw [castL_len] at e
      cases e
      have g0 : w1.cell? ⟨g, o + k, none⟩ = some (.int .i64 l[k]) := by
        have := hc k (by rw [castL_len]; exact hlt); rw [Nat.mul_one, castL_get l hlt] at this; exact this
      clear hc
      have h64 : l[k] < 64 := V1.out.l64 _ (List.getElem_mem hlt)
      have HS := Lib.hid (image_snoc M l hlt)
      have HL := Lib.hid (image_lt HM.out.lt (l.take k))
      generalize l[k] = n at *
      have c1 := HM.out.cell h64
      have HB64 := Lib.hid (u64_or HL.out (HM.out.lt n))
      generalize rowM M n = y at *
      generalize imageW M (l.take k) = z at *
      have i0 : (0 : Int) ≤ (n : Int) := by omega
      have i1 : (n : Int) < 64 := by omega
      go_wp2_with fail
      exact ⟨⟨k + 1, by omega, by go_num, by rw [HS.out, HB64.out]⟩, by simp [intOf]; omega⟩
    · have HT : Hid (l.take k = l) := List.take_of_length_le (by omega)
      rw [HT.out]
      have HL := Lib.hid (image_lt HM.out.lt l)
      generalize hzi : imageW M l = z at *
      have HZI := Lib.hid hzi; clear hzi
      go_wp2_with fail
      refine (rset_any cs2 ws2 (castL l) z _ _ V1.out.vb HL.out V1.out.lc V1.out.lw).mono ?_
      rintro r w2 ⟨v, rfl, hv, x2⟩
      obtain ⟨sa, sb, sc, sd, se, sf, rfl⟩ := hv.shape
      have hR := (X1.out.trans x2).block w.heap.size (by have := HZ.out; omega)
      rw [B1.out] at hR
      obtain ⟨z0, z1, z2, f0, f1, f2⟩ := block3 hR
      have HR := Lib.hid (put3_new (x := .slice sa cs2.length sb) (y := .slice sc ws2.length sd) (z := .slice se (castL (inWord z)).length sf) hR)
      have HF : Hid (SetO (put3 w2 w.heap.size (.slice sa cs2.length sb) (.slice sc ws2.length sd) (.slice se (castL (inWord z)).length sf)) w.heap.size (.agg #[.slice sa cs2.length sb, .slice sc ws2.length sd, .slice se (castL (inWord z)).length sf]) cs2 ws2 (castL (inWord z)) ∧ Ext w (put3 w2 w.heap.size (.slice sa cs2.length sb) (.slice sc ws2.length sd) (.slice se (castL (inWord z)).length sf))) := by
        have h1 := HZ.out; have h2 := X1.out.size
        exact ⟨(hv.put3 (by omega) _ _ _).mono (by omega), (HX.out.trans (X1.out.trans x2)).put3 (Nat.le_refl _) _ _ _⟩
      clear hR hv x2
      go_wp2_with fail
      exact bodyPost_ret (v := .agg #[.slice sa cs2.length sb, .slice sc ws2.length sd, .slice se (castL (inWord z)).length sf]) (results_cell_row Tryd.results46 _ _ w.heap.size 27 _ (0, 0) _ rfl HR.out Tryd.underlying27 rfl sizeSet) rfl ⟨_, rfl, by rw [HMM.out, HZI.out]; exact HF.out.1, HF.out.2⟩

theorem u64_andNot {x y : Nat} (hx : x < 18446744073709551616) (hy : y < 18446744073709551616) : (bits .andNot .u64 x y == 0) = (x &&& y == x) := by
  have h1 : (BitVec.ofInt 64 (x : Int)).toNat = x := by rw [BitVec.ofInt_natCast, BitVec.toNat_ofNat]; exact Nat.mod_eq_of_lt hx
  have h2 : (BitVec.ofInt 64 (y : Int)).toNat = y := by rw [BitVec.ofInt_natCast, BitVec.toNat_ofNat]; exact Nat.mod_eq_of_lt hy
  have e : bits .andNot .u64 x y = IntKind.u64.wrap ((BitVec.ofInt 64 (x : Int) &&& ~~~ BitVec.ofInt 64 (y : Int)).toNat : Nat) := rfl
  rw [e, u64_id _ (Int.natCast_nonneg _) (by exact_mod_cast (BitVec.ofInt 64 (x : Int) &&& ~~~ BitVec.ofInt 64 (y : Int)).isLt)]
  generalize hA : BitVec.ofInt 64 (x : Int) = A at *
  generalize hB : BitVec.ofInt 64 (y : Int) = B at *
  subst h1 h2
  rw [Bool.eq_iff_iff, beq_iff_eq, beq_iff_eq, sub_word]
  constructor
  · intro h i hi
    have h0 : (A &&& ~~~B) = 0 := BitVec.eq_of_toNat_eq (by simpa using (Int.natCast_eq_zero.1 h))
    have := congrArg (fun v : BitVec 64 => v.getLsbD i) h0
    simp only [BitVec.getLsbD_and, BitVec.getLsbD_not] at this
    have hi' : A.getLsbD i = true := hi
    have hlt : i < 64 := BitVec.lt_of_getLsbD hi'
    show B.getLsbD i = true
    rw [hi'] at this
    simpa [hlt] using this
  · intro h
    have h0 : (A &&& ~~~B) = 0 := by
      apply BitVec.eq_of_getLsbD_eq
      intro i hi
      simp only [BitVec.getLsbD_and, BitVec.getLsbD_not]
      cases c : A.getLsbD i with
      | false => simp
      | true => have := h i c; have h' : B.getLsbD i = true := this; simp [h']
    rw [h0]; rfl
/-- What is found when k numbers are done. -/
def insideTo (M : List Nat) (x : Nat) (l : List Nat) : Nat := wordL (l.filter fun n => rowM M n &&& x == rowM M n)
theorem insideTo_snoc (M : List Nat) (x : Nat) (l : List Nat) {k : Nat} (h : k < l.length) : insideTo M x (l.take (k + 1)) = if rowM M l[k] &&& x == rowM M l[k] then insideTo M x (l.take k) ||| 1 <<< l[k] else insideTo M x (l.take k) := by
  unfold insideTo
  rw [List.take_succ_eq_append_getElem h, List.filter_append]
  by_cases c : (rowM M l[k] &&& x == rowM M l[k]) = true
  · rw [if_pos c]
    simp only [List.filter_cons, c, if_true, List.filter_nil]
    unfold wordL; rw [List.foldl_append]; rfl
  · rw [if_neg c]
    simp only [List.filter_cons, c, List.filter_nil]
    simp
theorem insideTo_lt (M : List Nat) (x : Nat) {l : List Nat} (h : ∀ n ∈ l, n < 64) : insideTo M x l < 18446744073709551616 := wordL_lt fun n hn => h n (List.mem_filter.1 hn).1

set_option maxRecDepth 100000 in
set_option maxHeartbeats 2000000 in
theorem Inside1_any (w : World) (A B : Nat) (cs ws : List Int) (P : List (Nat × Nat)) (cs2 ws2 : List Int) (l : List Nat) (ca wa ia : Option Addr) (cc wcp ic : Nat) (ca2 wa2 ia2 : Option Addr) (cc2 wc2 ic2 : Nat)
    (hV : Vars w A B cs ws P cs2 ws2 l ca wa ia cc wcp ic ca2 wa2 ia2 cc2 wc2 ic2) :
    Calls Tryd.prog 49 #[.pointer (some ⟨A, 0, none⟩), .pointer (some ⟨B, 0, none⟩)] w fun r w' => ∃ v', r = .returned v' ∧ SetO w' w.heap.size v' cs2 ws2 (castL (inWord (insideW (rowsL P) l))) ∧ Ext w w' := by
  obtain ⟨W, hW⟩ : ∃ W, W = w.alloc (.cells #[.slice none 0 0, .slice none 0 0, .slice none 0 0] 27) := ⟨_, rfl⟩
  have hx : Ext w W := by rw [hW]; exact (Ext.refl w).alloc _
  have hz : W.heap.size = w.heap.size + 1 := by rw [hW]; simp
  have hB1 : W.heap[w.heap.size]? = some (.cells #[.slice none 0 0, .slice none 0 0, .slice none 0 0] 27 (0, 0)) := by rw [hW]; exact heap_new _ _
  have hV1 := hV.ext hx
  have hlen : l.length ≤ 9223372036854775807 := by have := SliceAt.len_le hV.vl; rw [castL_len] at this; exact this
  obtain ⟨p0, p1, p2⟩ := cells3 hV1.ba
  obtain ⟨r0, r1, r2⟩ := cells3 hV1.bb
  have HV := Lib.hid hV1; have HX := Lib.hid hx; have HZ := Lib.hid hz; have HW := Lib.hid hW; have B1 := Lib.hid hB1
  clear hV hV1 hx hz hW hB1
  go_enter Tryd.func49, Tryd.ntmps49
  go_upto_region 1 with fail
  rw [← HW.out]
  refine wp_region_held (S := fun w' => Ext W w') (by kernel_rfl) ?_
  refine wpAnyH_take (i := 0) (v := .agg #[.slice ca cs.length cc, .slice wa ws.length wcp, .slice ia P.length ic]) rfl (by kernel_rfl) (by kernel_rfl) (by kernel_rfl) (fun _ _ _ h => h) (.inl ⟨rfl, fun w' hx' => by have c0 := hx'.cell p0; have c1 := hx'.cell p1; have c2 := hx'.cell p2; go_simp⟩) (Ext.refl W).drew ?_
  refine wpAnyH_take (i := 2) (v := .agg #[.slice ca2 cs2.length cc2, .slice wa2 ws2.length wc2, .slice ia2 l.length ic2]) rfl (by kernel_rfl) (by kernel_rfl) (by kernel_rfl) (fun _ _ _ h => h) (.inl ⟨rfl, fun w' hx' => by have c0 := hx'.cell r0; have c1 := hx'.cell r1; have c2 := hx'.cell r2; go_simp⟩) (Ext.refl W).drew ?_
  refine wpAnyH_all (rs := [1]) (by kernel_rfl) (by simp) ?_
  intro i hi
  obtain rfl : i = 1 := by simpa using hi
  unfold wpOp
  go_simp
  refine .inl ((rows_any cs ws P _ _ (HV.out.va.ext (Ext.refl W).drew) HV.out.p64).mono ?_)
  rintro r v1 ⟨b, rfl, hb, hM, y1⟩
  have E1 : Ext W v1 := (Ext.refl W).drew.trans y1
  refine ⟨E1, ?_⟩
  refine wpAnyH_all (rs := [3]) (by kernel_rfl) (by simp) ?_
  intro i hi
  obtain rfl : i = 3 := by simpa using hi
  unfold wpOp
  go_simp
  refine .inl ((wordOf_any cs2 ws2 l _ _ (HV.out.vb.ext E1) HV.out.l64).mono ?_)
  rintro r w1 ⟨rfl, y2⟩
  have E2 : Ext W w1 := E1.trans y2
  refine ⟨E2, ?_⟩
  refine wpAnyH_take (i := 4) (v := .pointer (some ⟨b, 0, none⟩)) rfl (by kernel_rfl) (by kernel_rfl) (by kernel_rfl) (fun _ _ _ h => h) (.inl ⟨rfl, fun _ _ => rfl⟩) E2 ?_
  refine wpAnyH_take (i := 5) (v := .int .u64 (wordL l)) rfl (by kernel_rfl) (by kernel_rfl) (by kernel_rfl) (fun _ _ _ h => h) (.inl ⟨rfl, fun _ _ => rfl⟩) E2 ?_
  refine wpAnyH_done (by kernel_rfl) ?_ _
  have HM := Lib.hid (hM.ext y2); have X1 := Lib.hid E2; have V1 := Lib.hid (HV.out.ext E2)
  have LW0 := Lib.hid (wordL_lt HV.out.l64)
  have HIW : Hid (insideW (rowsL P) l = insideTo (rowsL P) (wordL l) l) := rfl
  clear hM y1 y2 E1 E2 p0 p1 p2 r0 r1 r2 hb
  generalize hMM : rowsL P = M at *
  generalize hLL : wordL l = X at *
  have HMM := Lib.hid hMM; have HLL := Lib.hid hLL; clear hMM hLL
  obtain ⟨q0, q1, q2⟩ := cells3 V1.out.bb
  go_wp2_with fail
  go_loop [5, 15] (fun x i => ∃ k : Nat, k ≤ l.length ∧ i = .int .i64 k ∧ x = .int .u64 (insideTo M X (l.take k))) (fun _ i => l.length - (intOf i).toNat)
  case atStart => exact ⟨0, Nat.zero_le _, rfl, rfl⟩
  case round =>
    obtain ⟨k, hk, rfl, rfl⟩ := hrel
    by_cases hlt : k < l.length
    · rcases V1.out.vl with ⟨_, e⟩ | ⟨g, o, cap', e, _, hc⟩
      · have := castL_len l; rw [e] at this; simp at this; omega
      rw [castL_len] at e
      cases e
      have g0 : w1.cell? ⟨g, o + k, none⟩ = some (.int .i64 l[k]) := by
        have := hc k (by rw [castL_len]; exact hlt); rw [Nat.mul_one, castL_get l hlt] at this; exact this
      clear hc
      have h64 : l[k] < 64 := V1.out.l64 _ (List.getElem_mem hlt)
      have hsn := insideTo_snoc M X l hlt
      have HL := Lib.hid (insideTo_lt M X (l := l.take k) fun x hx => V1.out.l64 x (List.mem_of_mem_take hx))
      generalize l[k] = n at *
      have c1 := HM.out.cell h64
      have han := u64_andNot (HM.out.lt n) LW0.out
      generalize rowM M n = y at *
      generalize insideTo M X (l.take k) = z at *
      have i0 : (0 : Int) ≤ (n : Int) := by omega
      have i1 : (n : Int) < 64 := by omega
      have HB64 : Hid (bits .or .u64 z (IntKind.u64.wrap (2 ^ n)) = ((z ||| 1 <<< n : Nat) : Int)) := by unfold Hid; rw [u64_pow h64, u64_or HL.out (shl_lt h64)]
      cases ht : (y &&& X == y) with
      | true =>
        rw [ht] at han hsn
        have HS : Hid (insideTo M X (l.take (k + 1)) = z ||| 1 <<< n) := by unfold Hid; rw [hsn]; rfl
        clear hsn ht
        go_wp2_with fail
        exact ⟨⟨k + 1, by omega, by go_num, by rw [HS.out, HB64.out]⟩, by simp [intOf]; omega⟩
      | false =>
        rw [ht] at han hsn
        have HS : Hid (insideTo M X (l.take (k + 1)) = z) := by unfold Hid; rw [hsn]; rfl
        clear hsn ht
        go_wp2_with fail
        exact ⟨⟨k + 1, by omega, by go_num, by rw [HS.out]⟩, by simp [intOf]; omega⟩
    · have HT : Hid (l.take k = l) := List.take_of_length_le (by omega)
      rw [HT.out, ← HIW.out]
      have HL : Hid (insideW M l < 18446744073709551616) := by unfold Hid; rw [HIW.out]; exact insideTo_lt M X V1.out.l64
      clear HIW
      generalize hzi : insideW M l = z at *
      have HZI := Lib.hid hzi; clear hzi
      go_wp2_with fail
      refine (rset_any cs2 ws2 (castL l) z _ _ V1.out.vb HL.out V1.out.lc V1.out.lw).mono ?_
      rintro r w2 ⟨v, rfl, hv, x2⟩
      obtain ⟨sa, sb, sc, sd, se, sf, rfl⟩ := hv.shape
      have hR := (X1.out.trans x2).block w.heap.size (by have := HZ.out; omega)
      rw [B1.out] at hR
      obtain ⟨z0, z1, z2, f0, f1, f2⟩ := block3 hR
      have HR := Lib.hid (put3_new (x := .slice sa cs2.length sb) (y := .slice sc ws2.length sd) (z := .slice se (castL (inWord z)).length sf) hR)
      have HF : Hid (SetO (put3 w2 w.heap.size (.slice sa cs2.length sb) (.slice sc ws2.length sd) (.slice se (castL (inWord z)).length sf)) w.heap.size (.agg #[.slice sa cs2.length sb, .slice sc ws2.length sd, .slice se (castL (inWord z)).length sf]) cs2 ws2 (castL (inWord z)) ∧ Ext w (put3 w2 w.heap.size (.slice sa cs2.length sb) (.slice sc ws2.length sd) (.slice se (castL (inWord z)).length sf))) := by
        have h1 := HZ.out; have h2 := X1.out.size
        exact ⟨(hv.put3 (by omega) _ _ _).mono (by omega), (HX.out.trans (X1.out.trans x2)).put3 (Nat.le_refl _) _ _ _⟩
      clear hR hv x2
      go_wp2_with fail
      exact bodyPost_ret (v := .agg #[.slice sa cs2.length sb, .slice sc ws2.length sd, .slice se (castL (inWord z)).length sf]) (results_cell_row Tryd.results49 _ _ w.heap.size 27 _ (0, 0) _ rfl HR.out Tryd.underlying27 rfl sizeSet) rfl ⟨_, rfl, by rw [HMM.out, HZI.out]; exact HF.out.1, HF.out.2⟩
end Go.Proofs.YtlnahhlddekhoaaDoor
namespace Go.Proofs.YtlnahhlddekhoaaDoor
open Go.RowKit

structure ValidR (cs ws : List Int) (P : List (Nat × Nat)) : Prop where
  small : smallB cs ws = true
  six : sumI ws ≤ 6
  sorted : P.Pairwise ltP
  lt : ∀ p ∈ P, (p.1 : Int) < pw (sumI ws) ∧ (p.2 : Int) < pw (sumI ws)
theorem ValidR.pw64 {cs ws : List Int} {P : List (Nat × Nat)} (h : ValidR cs ws P) : pw (sumI ws) ≤ 64 := by
  obtain ⟨_, _, h2, h3⟩ := small_sum h.small
  have h4 := pw_mono h2 h.six
  have h5 : pw 6 = 64 := by decide
  omega
theorem ValidR.lt64 {cs ws : List Int} {P : List (Nat × Nat)} (h : ValidR cs ws P) : ∀ p ∈ P, p.1 < 64 ∧ p.2 < 64 := by
  intro p hp
  have h1 := h.lt p hp
  have h2 := h.pw64
  omega
theorem ltP_trans {a b c : Nat × Nat} (h1 : ltP a b) (h2 : ltP b c) : ltP a c := by unfold ltP at *; omega
theorem rvalid_nat {cs ws : List Int} {P : List (Int × Int)} (h : rvalidB cs ws P = true) : castP (natP P) = P ∧ ValidR cs ws (natP P) := by
  obtain ⟨h1, h2, h3⟩ := rvalid_iff.1 h
  have h0 : ∀ p ∈ P, 0 ≤ p.1 ∧ p.1 < pw (sumI ws) ∧ 0 ≤ p.2 ∧ p.2 < pw (sumI ws) := fun p hp => by
    obtain ⟨i, hi, rfl⟩ := List.getElem_of_mem hp; exact h3.bd i hi hi
  have hc : castP (natP P) = P := cast_natP fun p hp => ⟨(h0 p hp).1, (h0 p hp).2.2.1⟩
  refine ⟨hc, h1, h2, ?_, fun p hp => ?_⟩
  · rw [List.pairwise_iff_getElem]
    have hlen : (natP P).length = P.length := by simp [natP]
    have step : ∀ i (hi : i + 1 < P.length), ltP ((natP P)[i]'(by omega)) ((natP P)[i + 1]'(by omega)) := by
      intro i hi
      have h4 := h3.inc i hi hi
      have h5 := h3.bd i (by omega) (by omega)
      have h6 := h3.bd (i + 1) hi hi
      simp only [natP, List.getElem_map]
      unfold ltI at h4
      unfold ltP
      omega
    have all : ∀ (j i : Nat) (hi : i < j) (hj : j < P.length), ltP ((natP P)[i]'(by omega)) ((natP P)[j]'(by omega)) := by
      intro j
      induction j with
      | zero => intro i hi; omega
      | succ j ih =>
        intro i hi hj
        rcases Nat.lt_or_ge i j with c | c
        · exact ltP_trans (ih i c (by omega)) (step j hj)
        · obtain rfl : i = j := by omega
          exact step i hj
    intro i j hi hj hij
    exact all j i hij (by omega)
  · obtain ⟨q, hq, rfl⟩ := List.mem_map.1 hp
    have := h0 q hq
    simp only
    omega
theorem rvalid_of {cs ws : List Int} {P : List (Nat × Nat)} (h : ValidR cs ws P) : rvalidB cs ws (castP P) = true := by
  refine rvalid_iff.2 ⟨h.small, h.six, ⟨fun i hi _ => ?_, fun i hi _ => ?_⟩⟩
  · rw [castP_len] at hi
    rw [castP_get P hi]
    have := h.lt _ (List.getElem_mem hi)
    simp only
    omega
  · rw [castP_len] at hi
    rw [castP_get P hi, castP_get P (show i < P.length by omega)]
    have := List.pairwise_iff_getElem.1 h.sorted i (i + 1) (by omega) hi (by omega)
    unfold ltP at this
    unfold ltI
    simp only
    omega
theorem natP_len (P : List (Int × Int)) : (natP P).length = P.length := by simp [natP]
theorem natL_len (l : List Int) : (natL l).length = l.length := by simp [natL]
def OpPost (ok : Bool) (C D I : List Int) (w : World) (r : Ending) (w' : World) : Prop := if ok then SetRes 0 C D I w r w' else SetRes 1 [] [] [] w r w'
theorem OpPost.res {ok : Bool} {C D I : List Int} {w : World} {r : Ending} {w' : World} (h : OpPost ok C D I w r w') : ∃ e C' D' I', SetRes e C' D' I' w r w' ∧ ∀ w0 r2 w2, SetRes e C' D' I' w0 r2 w2 → OpPost ok C D I w0 r2 w2 := by
  unfold OpPost at *
  cases ok with
  | true => exact ⟨_, _, _, _, h, fun _ _ _ h => h⟩
  | false => exact ⟨_, _, _, _, h, fun _ _ _ h => h⟩
theorem applies_parts {cs ws : List Int} {P : List (Int × Int)} {cs2 ws2 is : List Int} (h : appliesB cs ws P cs2 ws2 is = true) : cs = cs2 ∧ ws = ws2 ∧ castP (natP P) = P ∧ ValidR cs ws (natP P) ∧ castL (natL is) = is ∧ ValidS cs2 ws2 (natL is) := by
  unfold appliesB at h
  simp only [Bool.and_eq_true, decide_eq_true_eq] at h
  obtain ⟨⟨⟨h1, h2⟩, h3⟩, h4⟩ := h
  exact ⟨h3, h4, (rvalid_nat h2).1, (rvalid_nat h2).2, (valid_nat h1).1, (valid_nat h1).2⟩

theorem Image_cf (args : Array Value) (w : World) : (callFunc 46 args).run Tryd.prog w = .ok (.enter 46 args) w := by go_simp
set_option maxRecDepth 100000 in
set_option maxHeartbeats 2000000 in
theorem Image_any (cs ws : List Int) (P : List (Int × Int)) (cs2 ws2 is : List Int) (va vs : Value) (w : World) (ha : RelV w va cs ws P) (hs : SetV w vs cs2 ws2 is) (hT : DeB w) :
    Calls Tryd.prog 14 #[va, vs] w (OpPost (appliesB cs ws P cs2 ws2 is) cs2 ws2 (castL (inWord (imageW (rowsL (natP P)) (natL is)))) w) := by
  obtain ⟨ca, cc, wa, wcp, ia, ic, rfl, a1, a2, a3⟩ := ha.shape
  obtain ⟨ca2, cc2, wa2, wc2, ia2, ic2, rfl, b1, b2, b3⟩ := hs.shape
  obtain ⟨W, hW⟩ : ∃ W, Boxes3 w W (.cells #[.slice ca cs.length cc, .slice wa ws.length wcp, .slice ia P.length ic] 25) (.cells #[.slice ca2 cs2.length cc2, .slice wa2 ws2.length wc2, .slice ia2 is.length ic2] 27) (.cells #[.slice none 0 0, .slice none 0 0, .slice none 0 0] 27) := ⟨_, Boxes3.mk' _ _ _ _⟩
  obtain ⟨p0, p1, p2⟩ := cells3 hW.b0
  obtain ⟨q0, q1, q2⟩ := cells3 hW.b1
  have HA := Lib.hid (ha.ext hW.ext); have HS := Lib.hid (hs.ext hW.ext); have HT := Lib.hid (hT.ext hW.ext); have B3 := Lib.hid (b3.ext hW.ext)
  have HW := Lib.hid hW
  clear ha hs hT a1 a2 a3 b1 b2 b3 hW
  go_enter Tryd.func14, Tryd.ntmps14
  go_upto_region 1 with fail
  rw [← HW.out.eq]
  go_wp2_with fail
  refine (applies_any cs ws P cs2 ws2 is _ _ _ HA.out HS.out HT.out).mono ?_
  rintro r w1 ⟨rfl, x1⟩
  have hcall : ∀ f, f = .func (.func 46) #[] #[.pointer (some ⟨w.heap.size, 0, none⟩), .pointer (some ⟨w.heap.size + 1, 0, none⟩)] → Calls Tryd.prog 44 #[.bool (appliesB cs ws P cs2 ws2 is), f] w1 (OpPost (appliesB cs ws P cs2 ws2 is) cs2 ws2 (castL (inWord (imageW (rowsL (natP P)) (natL is)))) w1) := by
    rintro f rfl
    cases hap : appliesB cs ws P cs2 ws2 is with
    | false => exact checkedS_no _ _
    | true =>
      obtain ⟨e1, e2, e3, e4, e5, e6⟩ := applies_parts hap
      have hsh := small_sum e6.small
      have hV : Vars W w.heap.size (w.heap.size + 1) cs ws (natP P) cs2 ws2 (natL is) ca wa ia cc wcp ic ca2 wa2 ia2 cc2 wc2 ic2 :=
        ⟨by rw [natP_len]; exact HW.out.b0, by rw [natL_len]; exact HW.out.b1, by rw [natP_len, e3]; exact HA.out, by rw [natL_len, e5]; exact HS.out, by rw [natL_len, e5]; exact B3.out, e4.lt64,
          fun x hx => by have h1 := e6.lt x hx; have h2 := e4.pw64; rw [e2] at h2; omega, by have := (shape_iff.1 hsh.1).1; have := hsh.2.1.1; omega, by have := hsh.2.1.1; omega⟩
      exact checkedS_yes _ _ _ _ _ _ ⟨Image_cf, fun w' hx' => Image1_any w' _ _ cs ws (natP P) cs2 ws2 (natL is) ca wa ia cc wcp ic ca2 wa2 ia2 cc2 wc2 ic2 (hV.ext (x1.trans hx'))⟩
  have HC := Lib.hid hcall; have X1 := Lib.hid x1
  clear hcall x1
  generalize appliesB cs ws P cs2 ws2 is = ok at *
  generalize castL (inWord (imageW (rowsL (natP P)) (natL is))) = I at *
  go_wp2_with fail
  refine (HC.out _ rfl).mono ?_
  intro r w2 h2
  obtain ⟨e, C', D', I', ⟨v, rfl, hv, x2⟩, hback⟩ := h2.res
  obtain ⟨sa, sb, sc, sd, se, sf, rfl⟩ := hv.shape
  clear h2
  have hR := (X1.out.trans x2).block (w.heap.size + 2) (by have := HW.out.size; omega)
  rw [HW.out.b2] at hR
  obtain ⟨z0, z1, z2, f0, f1, f2⟩ := block3 hR
  have HR := Lib.hid (put3_new (x := .slice sa C'.length sb) (y := .slice sc D'.length sd) (z := .slice se I'.length sf) hR)
  have HF : Hid (OpPost ok cs2 ws2 I w (.returned (.tuple #[.agg #[.slice sa C'.length sb, .slice sc D'.length sd, .slice se I'.length sf], .int .i64 e])) (put3 w2 (w.heap.size + 2) (.slice sa C'.length sb) (.slice sc D'.length sd) (.slice se I'.length sf))) := by
    have hz := HW.out.size
    have hz1 := X1.out.size
    exact hback _ _ _ ⟨_, rfl, (hv.put3 (by omega) _ _ _).mono (by omega), (HW.out.ext.trans (X1.out.trans x2)).put3 (by omega) _ _ _⟩
  clear hR hback hv x2
  go_wp2_with fail
  exact bodyPost_ret (v := .tuple #[.agg #[.slice sa C'.length sb, .slice sc D'.length sd, .slice se I'.length sf], .int .i64 e]) (results_row_tmp Tryd.results14 _ _ (w.heap.size + 2) 27 _ (0, 0) _ rfl HR.out Tryd.underlying27 rfl sizeSet) rfl HF.out

theorem Inside_cf (args : Array Value) (w : World) : (callFunc 49 args).run Tryd.prog w = .ok (.enter 49 args) w := by go_simp
set_option maxRecDepth 100000 in
set_option maxHeartbeats 2000000 in
theorem Inside_any (cs ws : List Int) (P : List (Int × Int)) (cs2 ws2 is : List Int) (va vs : Value) (w : World) (ha : RelV w va cs ws P) (hs : SetV w vs cs2 ws2 is) (hT : DeB w) :
    Calls Tryd.prog 15 #[va, vs] w (OpPost (appliesB cs ws P cs2 ws2 is) cs2 ws2 (castL (inWord (insideW (rowsL (natP P)) (natL is)))) w) := by
  obtain ⟨ca, cc, wa, wcp, ia, ic, rfl, a1, a2, a3⟩ := ha.shape
  obtain ⟨ca2, cc2, wa2, wc2, ia2, ic2, rfl, b1, b2, b3⟩ := hs.shape
  obtain ⟨W, hW⟩ : ∃ W, Boxes3 w W (.cells #[.slice ca cs.length cc, .slice wa ws.length wcp, .slice ia P.length ic] 25) (.cells #[.slice ca2 cs2.length cc2, .slice wa2 ws2.length wc2, .slice ia2 is.length ic2] 27) (.cells #[.slice none 0 0, .slice none 0 0, .slice none 0 0] 27) := ⟨_, Boxes3.mk' _ _ _ _⟩
  obtain ⟨p0, p1, p2⟩ := cells3 hW.b0
  obtain ⟨q0, q1, q2⟩ := cells3 hW.b1
  have HA := Lib.hid (ha.ext hW.ext); have HS := Lib.hid (hs.ext hW.ext); have HT := Lib.hid (hT.ext hW.ext); have B3 := Lib.hid (b3.ext hW.ext)
  have HW := Lib.hid hW
  clear ha hs hT a1 a2 a3 b1 b2 b3 hW
  go_enter Tryd.func15, Tryd.ntmps15
  go_upto_region 1 with fail
  rw [← HW.out.eq]
  go_wp2_with fail
  refine (applies_any cs ws P cs2 ws2 is _ _ _ HA.out HS.out HT.out).mono ?_
  rintro r w1 ⟨rfl, x1⟩
  have hcall : ∀ f, f = .func (.func 49) #[] #[.pointer (some ⟨w.heap.size, 0, none⟩), .pointer (some ⟨w.heap.size + 1, 0, none⟩)] → Calls Tryd.prog 44 #[.bool (appliesB cs ws P cs2 ws2 is), f] w1 (OpPost (appliesB cs ws P cs2 ws2 is) cs2 ws2 (castL (inWord (insideW (rowsL (natP P)) (natL is)))) w1) := by
    rintro f rfl
    cases hap : appliesB cs ws P cs2 ws2 is with
    | false => exact checkedS_no _ _
    | true =>
      obtain ⟨e1, e2, e3, e4, e5, e6⟩ := applies_parts hap
      have hsh := small_sum e6.small
      have hV : Vars W w.heap.size (w.heap.size + 1) cs ws (natP P) cs2 ws2 (natL is) ca wa ia cc wcp ic ca2 wa2 ia2 cc2 wc2 ic2 :=
        ⟨by rw [natP_len]; exact HW.out.b0, by rw [natL_len]; exact HW.out.b1, by rw [natP_len, e3]; exact HA.out, by rw [natL_len, e5]; exact HS.out, by rw [natL_len, e5]; exact B3.out, e4.lt64,
          fun x hx => by have h1 := e6.lt x hx; have h2 := e4.pw64; rw [e2] at h2; omega, by have := (shape_iff.1 hsh.1).1; have := hsh.2.1.1; omega, by have := hsh.2.1.1; omega⟩
      exact checkedS_yes _ _ _ _ _ _ ⟨Inside_cf, fun w' hx' => Inside1_any w' _ _ cs ws (natP P) cs2 ws2 (natL is) ca wa ia cc wcp ic ca2 wa2 ia2 cc2 wc2 ic2 (hV.ext (x1.trans hx'))⟩
  have HC := Lib.hid hcall; have X1 := Lib.hid x1
  clear hcall x1
  generalize appliesB cs ws P cs2 ws2 is = ok at *
  generalize castL (inWord (insideW (rowsL (natP P)) (natL is))) = I at *
  go_wp2_with fail
  refine (HC.out _ rfl).mono ?_
  intro r w2 h2
  obtain ⟨e, C', D', I', ⟨v, rfl, hv, x2⟩, hback⟩ := h2.res
  obtain ⟨sa, sb, sc, sd, se, sf, rfl⟩ := hv.shape
  clear h2
  have hR := (X1.out.trans x2).block (w.heap.size + 2) (by have := HW.out.size; omega)
  rw [HW.out.b2] at hR
  obtain ⟨z0, z1, z2, f0, f1, f2⟩ := block3 hR
  have HR := Lib.hid (put3_new (x := .slice sa C'.length sb) (y := .slice sc D'.length sd) (z := .slice se I'.length sf) hR)
  have HF : Hid (OpPost ok cs2 ws2 I w (.returned (.tuple #[.agg #[.slice sa C'.length sb, .slice sc D'.length sd, .slice se I'.length sf], .int .i64 e])) (put3 w2 (w.heap.size + 2) (.slice sa C'.length sb) (.slice sc D'.length sd) (.slice se I'.length sf))) := by
    have hz := HW.out.size
    have hz1 := X1.out.size
    exact hback _ _ _ ⟨_, rfl, (hv.put3 (by omega) _ _ _).mono (by omega), (HW.out.ext.trans (X1.out.trans x2)).put3 (by omega) _ _ _⟩
  clear hR hback hv x2
  go_wp2_with fail
  exact bodyPost_ret (v := .tuple #[.agg #[.slice sa C'.length sb, .slice sc D'.length sd, .slice se I'.length sf], .int .i64 e]) (results_row_tmp Tryd.results15 _ _ (w.heap.size + 2) 27 _ (0, 0) _ rfl HR.out Tryd.underlying27 rfl sizeSet) rfl HF.out

end Go.Proofs.YtlnahhlddekhoaaDoor
