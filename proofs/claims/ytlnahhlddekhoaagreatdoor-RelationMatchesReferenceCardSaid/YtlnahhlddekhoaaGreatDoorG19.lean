/-
  Relations and an error; the walks of checked (of relations), alike. Printed by gen_rg1.py.
  The walks of the builders of Union and Closure.
  The walk of the builder of Closure.
-/
import Derived.Test.YtlnahhlddekhoaaGreatDoorG18
namespace Go.Proofs.YtlnahhlddekhoaaGreatDoor
open Go.RowKit

def RelRes (e : Int) (cs ws : List Int) (P : List (Int × Int)) (w : World) (r : Ending) (w' : World) : Prop := ∃ v, r = .returned (.tuple #[v, .int .i64 e]) ∧ RelO w' w.heap.size v cs ws P ∧ Ext w w'
/-- What the builder of a relation promises. -/
def BuildsR (K : Nat) (caps : Array Value) (C D : List Int) (I : List (Int × Int)) (w : World) : Prop := (∀ (args : Array Value) (w : World), (callFunc K args).run Tryz.prog w = .ok (.enter K args) w) ∧
  ∀ w', Ext w w' → Calls Tryz.prog K caps w' fun r w2 => ∃ v', r = .returned v' ∧ RelO w2 w'.heap.size v' C D I ∧ Ext w' w2
set_option maxHeartbeats 1000000 in
theorem checkedR_no (f : Value) (w : World) : Calls Tryz.prog 48 #[.bool false, f] w (RelRes 1 [] [] [] w) := by
  have HF : Hid (RelRes 1 [] [] [] w (.returned (.tuple #[.agg #[.slice none 0 0, .slice none 0 0, .slice none 0 0], .int .i64 1])) ((w.alloc (.cells #[.slice none 0 0, .slice none 0 0, .slice none 0 0] 29)).alloc (.cells #[.slice none 0 0, .slice none 0 0, .slice none 0 0] 29))) :=
    ⟨_, rfl, RelO.nil _ _, ((Ext.refl w).alloc _).alloc _⟩
  have HR : Hid (((w.alloc (.cells #[.slice none 0 0, .slice none 0 0, .slice none 0 0] 29)).alloc (.cells #[.slice none 0 0, .slice none 0 0, .slice none 0 0] 29)).heap[w.heap.size]? = some (.cells #[.slice none 0 0, .slice none 0 0, .slice none 0 0] 29 (0, 0))) := (Boxes.mk' w _ _).b0
  go_enter Tryz.func48, Tryz.ntmps48
  go_wp2_with fail
  exact bodyPost_ret (v := .tuple #[.agg #[.slice none 0 0, .slice none 0 0, .slice none 0 0], .int .i64 1]) (results_row_tmp Tryz.results48 _ _ w.heap.size 29 _ (0, 0) _ rfl HR.out Tryz.underlying29 rfl sizeRel) rfl HF.out
set_option maxHeartbeats 1000000 in
theorem checkedR_yes (K : Nat) (caps : Array Value) (C D : List Int) (I : List (Int × Int)) (w : World) (h : BuildsR K caps C D I w) : Calls Tryz.prog 48 #[.bool true, .func (.func K) #[] caps] w (RelRes 0 C D I w) := by
  have HB := Lib.hid h; clear h
  have cf := HB.out.1 caps
  go_enter Tryz.func48, Tryz.ntmps48
  go_wp2_with fail
  clear cf
  refine (HB.out.2 _ ((Ext.refl w).alloc _)).mono ?_
  rintro r w1 ⟨v, rfl, hv, x1⟩
  obtain ⟨sa, sb, sc, sd, se, sf, rfl⟩ := hv.shape
  have hR := x1.block w.heap.size (by simp)
  rw [heap_new] at hR
  obtain ⟨z0, z1, z2, f0, f1, f2⟩ := block3 hR
  have HR := Lib.hid (put3_new (x := .slice sa C.length sb) (y := .slice sc D.length sd) (z := .slice se I.length sf) hR)
  have HF : Hid (RelRes 0 C D I w (.returned (.tuple #[.agg #[.slice sa C.length sb, .slice sc D.length sd, .slice se I.length sf], .int .i64 0])) (put3 w1 w.heap.size (.slice sa C.length sb) (.slice sc D.length sd) (.slice se I.length sf))) := by
    rw [World.size_alloc] at hv
    exact ⟨_, rfl, (hv.put3 (by omega) _ _ _).mono (by omega), (((Ext.refl w).alloc _).trans x1).put3 (Nat.le_refl _) _ _ _⟩
  clear hR hv x1
  go_wp2_with fail
  exact bodyPost_ret (v := .tuple #[.agg #[.slice sa C.length sb, .slice sc D.length sd, .slice se I.length sf], .int .i64 0]) (results_row_tmp Tryz.results48 _ _ w.heap.size 29 _ (0, 0) _ rfl HR.out Tryz.underlying29 rfl sizeRel) rfl HF.out

noncomputable def alikeB (cs ws : List Int) (P : List (Int × Int)) (cs2 ws2 : List Int) (Q : List (Int × Int)) : Bool := rvalidB cs ws P && rvalidB cs2 ws2 Q && decide (cs = cs2) && decide (ws = ws2)
set_option maxRecDepth 100000 in
set_option maxHeartbeats 2000000 in
theorem alike_any (cs ws : List Int) (P : List (Int × Int)) (cs2 ws2 : List Int) (Q : List (Int × Int)) (va vs : Value) (w : World) (ha : RelV w va cs ws P) (hs : RelV w vs cs2 ws2 Q) (hT : DeB w) : Calls Tryz.prog 49 #[va, vs] w fun r w' => r = .returned (.bool (alikeB cs ws P cs2 ws2 Q)) ∧ Ext w w' := by
  obtain ⟨ca, cc, wa, wcp, ia, ic, rfl, a1, a2, a3⟩ := ha.shape
  obtain ⟨ca2, cc2, wa2, wc2, ia2, ic2, rfl, b1, b2, b3⟩ := hs.shape
  obtain ⟨W, hW⟩ : ∃ W, Boxes w W (.cells #[.slice ca cs.length cc, .slice wa ws.length wcp, .slice ia P.length ic] 29) (.cells #[.slice ca2 cs2.length cc2, .slice wa2 ws2.length wc2, .slice ia2 Q.length ic2] 29) := ⟨_, Boxes.mk' _ _ _⟩
  obtain ⟨p0, p1, p2⟩ := cells3 hW.b0
  obtain ⟨q0, q1, q2⟩ := cells3 hW.b1
  have HA := Lib.hid (ha.ext hW.ext); have HS := Lib.hid (hs.ext hW.ext); have HT := Lib.hid (hT.ext hW.ext)
  have A1 := Lib.hid (a1.ext hW.ext); have A2 := Lib.hid (a2.ext hW.ext); have C1 := Lib.hid (b1.ext hW.ext); have C2 := Lib.hid (b2.ext hW.ext)
  have HW := Lib.hid hW
  have HF : Hid (alikeB cs ws P cs2 ws2 Q = (rvalidB cs ws P && rvalidB cs2 ws2 Q && decide (cs = cs2) && decide (ws = ws2))) := rfl
  clear ha hs hT a1 a2 a3 b1 b2 b3 hW
  go_enter Tryz.func49, Tryz.ntmps49
  go_upto_region 1 with fail
  rw [← HW.out.eq]
  go_wp2_with fail
  refine (rvalid_any cs ws P _ _ HA.out HT.out).mono ?_
  rintro r w1 ⟨rfl, x1⟩
  cases h1 : rvalidB cs ws P with
  | false =>
    have HN : Hid (alikeB cs ws P cs2 ws2 Q = false) := by unfold Hid; rw [HF.out, h1]; rfl
    have X1 := Lib.hid (HW.out.ext.trans x1)
    clear h1 x1
    go_wp2_with fail
    go_ret
    exact ⟨by rw [HN.out]; rfl, X1.out⟩
  | true =>
    have H1 := Lib.hid h1; have X1 := Lib.hid x1
    have p01 := x1.cell p0; have p11 := x1.cell p1; have q01 := x1.cell q0; have q11 := x1.cell q1; have q21 := x1.cell q2
    clear h1 x1 p0 p1 p2 q0 q1 q2
    go_wp2_with fail
    refine (rvalid_any cs2 ws2 Q _ _ (HS.out.ext X1.out) (HT.out.ext X1.out)).mono ?_
    rintro r w2 ⟨rfl, x2⟩
    cases h2 : rvalidB cs2 ws2 Q with
    | false =>
      have HN : Hid (alikeB cs ws P cs2 ws2 Q = false) := by unfold Hid; rw [HF.out, H1.out, h2]; rfl
      have X2 := Lib.hid (HW.out.ext.trans (X1.out.trans x2))
      clear h2 x2
      go_wp2_with fail
      go_ret
      exact ⟨by rw [HN.out]; rfl, X2.out⟩
    | true =>
      have H2 := Lib.hid h2; have X2 := Lib.hid (X1.out.trans x2)
      have p02 := x2.cell p01; have p12 := x2.cell p11; have q02 := x2.cell q01; have q12 := x2.cell q11
      clear h2 x2 p01 p11 q01 q11 q21
      go_wp2_with fail
      refine (Equal_any cs cs2 _ _ _ (A1.out.ext X2.out) (C1.out.ext X2.out)).mono ?_
      rintro r w4 ⟨rfl, x4⟩
      cases hce : decide (cs = cs2) with
      | false =>
        have HN : Hid (alikeB cs ws P cs2 ws2 Q = false) := by unfold Hid; rw [HF.out, H1.out, H2.out, hce]; rfl
        have X4 := Lib.hid (HW.out.ext.trans (X2.out.trans x4))
        clear hce x4
        go_wp2_with fail
        go_ret
        exact ⟨by rw [HN.out]; rfl, X4.out⟩
      | true =>
        have HCE := Lib.hid hce
        have p14 := x4.cell p12; have q14 := x4.cell q12
        have X4 := Lib.hid (X2.out.trans x4)
        clear hce x4 p02 p12 q02 q12
        go_wp2_with fail
        refine (Equal_any ws ws2 _ _ _ (A2.out.ext X4.out) (C2.out.ext X4.out)).mono ?_
        rintro r w5 ⟨rfl, x5⟩
        have HN : Hid (alikeB cs ws P cs2 ws2 Q = decide (ws = ws2)) := by unfold Hid; rw [HF.out, H1.out, H2.out, HCE.out]; rfl
        have X5 := Lib.hid (HW.out.ext.trans (X4.out.trans x5))
        clear x5
        generalize decide (ws = ws2) = bb at *
        go_wp2_with fail
        go_ret
        exact ⟨by rw [HN.out]; rfl, X5.out⟩
end Go.Proofs.YtlnahhlddekhoaaGreatDoor
namespace Go.Proofs.YtlnahhlddekhoaaGreatDoor
open Go.RowKit

/-- A relation in its variable. -/
structure RelBox (w : World) (A : Nat) (cs ws : List Int) (P : List (Nat × Nat)) (ca wa ia : Option Addr) (cc wcp ic : Nat) : Prop where
  ba : w.heap[A]? = some (.cells #[.slice ca cs.length cc, .slice wa ws.length wcp, .slice ia P.length ic] 29 (0, 0))
  va : RelV w (.agg #[.slice ca cs.length cc, .slice wa ws.length wcp, .slice ia P.length ic]) cs ws (castP P)
  vc : Ints w (.slice ca cs.length cc) cs
  vw : Ints w (.slice wa ws.length wcp) ws
  ok : ValidR cs ws P
theorem RelBox.ext {w w' : World} {A : Nat} {cs ws : List Int} {P : List (Nat × Nat)} {ca wa ia : Option Addr} {cc wcp ic : Nat} (h : RelBox w A cs ws P ca wa ia cc wcp ic) (hx : Ext w w') : RelBox w' A cs ws P ca wa ia cc wcp ic :=
  ⟨by rw [hx.block _ (lt_heap h.ba)]; exact h.ba, h.va.ext hx, h.vc.ext hx, h.vw.ext hx, h.ok⟩
theorem RelBox.lens {w : World} {A : Nat} {cs ws : List Int} {P : List (Nat × Nat)} {ca wa ia : Option Addr} {cc wcp ic : Nat} (h : RelBox w A cs ws P ca wa ia cc wcp ic) : cs.length ≤ 1000000000 ∧ ws.length ≤ 1000000000 := by
  have hsh := small_sum h.ok.small
  have := (shape_iff.1 hsh.1).1; have := hsh.2.1.1; omega
/-- A new relation, stored into the result. -/
theorem RelO.fin {w w1 w2 : World} {cs ws : List Int} {P : List (Int × Int)} {sa sc se : Option Addr} {sb sd sf : Nat} (hx : Ext w w1) (hz : w.heap.size < w1.heap.size) (hv : RelO w2 w1.heap.size (.agg #[.slice sa cs.length sb, .slice sc ws.length sd, .slice se P.length sf]) cs ws P) (x2 : Ext w1 w2) :
    RelO (Proofs.YtlnahhlddekhoaaGreatDoor.put3 w2 w.heap.size (.slice sa cs.length sb) (.slice sc ws.length sd) (.slice se P.length sf)) w.heap.size (.agg #[.slice sa cs.length sb, .slice sc ws.length sd, .slice se P.length sf]) cs ws P ∧ Ext w (Proofs.YtlnahhlddekhoaaGreatDoor.put3 w2 w.heap.size (.slice sa cs.length sb) (.slice sc ws.length sd) (.slice se P.length sf)) :=
  ⟨(hv.put3 hz _ _ _).mono (Nat.le_of_lt hz), (hx.trans x2).put3 (Nat.le_refl _) _ _ _⟩

set_option maxRecDepth 100000 in
set_option maxHeartbeats 2000000 in
theorem Union1_any (w : World) (A B : Nat) (cs ws : List Int) (P : List (Nat × Nat)) (cs2 ws2 : List Int) (Q : List (Nat × Nat)) (ca wa ia : Option Addr) (cc wcp ic : Nat) (ca2 wa2 ia2 : Option Addr) (cc2 wc2 ic2 : Nat)
    (hA : RelBox w A cs ws P ca wa ia cc wcp ic) (hB : RelBox w B cs2 ws2 Q ca2 wa2 ia2 cc2 wc2 ic2) :
    Calls Tryz.prog 50 #[.pointer (some ⟨A, 0, none⟩), .pointer (some ⟨B, 0, none⟩)] w fun r w' => ∃ v', r = .returned v' ∧ RelO w' w.heap.size v' cs ws (castP (pairsM (unionM (rowsL P) (rowsL Q)))) ∧ Ext w w' := by
  obtain ⟨W, hW⟩ : ∃ W, W = w.alloc (.cells #[.slice none 0 0, .slice none 0 0, .slice none 0 0] 29) := ⟨_, rfl⟩
  have hx : Ext w W := by rw [hW]; exact (Ext.refl w).alloc _
  have hz : W.heap.size = w.heap.size + 1 := by rw [hW]; simp
  have hB1 : W.heap[w.heap.size]? = some (.cells #[.slice none 0 0, .slice none 0 0, .slice none 0 0] 29 (0, 0)) := by rw [hW]; exact heap_new _ _
  have hA1 := hA.ext hx; have hB2 := hB.ext hx
  obtain ⟨p0, p1, p2⟩ := cells3 hA1.ba
  obtain ⟨r0, r1, r2⟩ := cells3 hB2.ba
  have HA := Lib.hid hA1; have HB := Lib.hid hB2; have HX := Lib.hid hx; have HZ := Lib.hid hz; have HW := Lib.hid hW; have B1 := Lib.hid hB1
  clear hA hB hA1 hB2 hx hz hW hB1
  go_enter Tryz.func50, Tryz.ntmps50
  go_upto_region 1 with fail
  rw [← HW.out]
  refine wp_region_held (S := fun w' => Ext W w') (by kernel_rfl) ?_
  refine wpAnyH_take (i := 0) (v := .agg #[.slice ca cs.length cc, .slice wa ws.length wcp, .slice ia P.length ic]) rfl (by kernel_rfl) (by kernel_rfl) (by kernel_rfl) (fun _ _ _ h => h) (.inl ⟨rfl, fun w' hx' => by have c0 := hx'.cell p0; have c1 := hx'.cell p1; have c2 := hx'.cell p2; go_simp⟩) (Ext.refl W).drew ?_
  refine wpAnyH_take (i := 2) (v := .agg #[.slice ca2 cs2.length cc2, .slice wa2 ws2.length wc2, .slice ia2 Q.length ic2]) rfl (by kernel_rfl) (by kernel_rfl) (by kernel_rfl) (fun _ _ _ h => h) (.inl ⟨rfl, fun w' hx' => by have c0 := hx'.cell r0; have c1 := hx'.cell r1; have c2 := hx'.cell r2; go_simp⟩) (Ext.refl W).drew ?_
  refine wpAnyH_all (rs := [1]) (by kernel_rfl) (by simp) ?_
  intro i hi
  obtain rfl : i = 1 := by simpa using hi
  unfold wpOp
  go_simp
  refine .inl ((rows_any cs ws P _ _ (HA.out.va.ext (Ext.refl W).drew) HA.out.ok.lt64).mono ?_)
  rintro r v1 ⟨b, rfl, hb, hM, y1⟩
  have E1 : Ext W v1 := (Ext.refl W).drew.trans y1
  refine ⟨E1, ?_⟩
  refine wpAnyH_all (rs := [3]) (by kernel_rfl) (by simp) ?_
  intro i hi
  obtain rfl : i = 3 := by simpa using hi
  unfold wpOp
  go_simp
  refine .inl ((rows_any cs2 ws2 Q _ _ (HB.out.va.ext E1) HB.out.ok.lt64).mono ?_)
  rintro r w1 ⟨c, rfl, hc, hN, y2⟩
  have E2 : Ext W w1 := E1.trans y2
  refine ⟨E2, ?_⟩
  refine wpAnyH_take (i := 4) (v := .pointer (some ⟨b, 0, none⟩)) rfl (by kernel_rfl) (by kernel_rfl) (by kernel_rfl) (fun _ _ _ h => h) (.inl ⟨rfl, fun _ _ => rfl⟩) E2 ?_
  refine wpAnyH_take (i := 5) (v := .pointer (some ⟨c, 0, none⟩)) rfl (by kernel_rfl) (by kernel_rfl) (by kernel_rfl) (fun _ _ _ h => h) (.inl ⟨rfl, fun _ _ => rfl⟩) E2 ?_
  refine wpAnyH_done (by kernel_rfl) ?_ _
  have hbc : b ≠ c := by have := hM.lt_size; omega
  have hbW : W.heap.size ≤ b := hb
  have HM := Lib.hid (hM.ext y2); have HN := Lib.hid hN; have X1 := Lib.hid E2; have NE := Lib.hid hbc
  clear hM hN y1 y2 E1 E2 p0 p1 p2 r0 r1 r2 hb hc hbc
  generalize hm : rowsL P = M at *
  generalize hn : rowsL Q = N at *
  have HMM := Lib.hid hm; have HNN := Lib.hid hn
  clear hm hn
  have HUM : Hid (unionM M N = zipTo (· ||| ·) M N 64) := (zipTo_all (· ||| ·) M N).symm
  go_wp2_with fail
  go_loopw [10] (fun i wr => ∃ k : Nat, k ≤ 64 ∧ i = .int .i64 k ∧ Ext W wr ∧ WordsAt 67 wr b (zipTo (· ||| ·) M N k) ∧ WordsAt 67 wr c N) (fun i _ => 64 - (intOf i).toNat)
  case atStart => exact ⟨0, Nat.zero_le _, rfl, X1.out, by rw [zipTo_zero _ N HM.out.len]; exact HM.out, HN.out⟩
  case round =>
    obtain ⟨k, hk, rfl, hX, hP, hO⟩ := hrel
    have HX5 := Lib.hid hX; have HP := Lib.hid hP; have HO := Lib.hid hO; clear hX hP hO
    by_cases hlt : k < 64
    · have c8 := HP.out.cell hlt
      have c9 := HO.out.cell hlt
      have f8 := HP.out.frozen k
      have hrow := row_zipTo (· ||| ·) M N k hlt
      rw [if_neg (Nat.lt_irrefl k)] at hrow
      rw [hrow] at c8
      have HSET := Lib.hid (zipTo_set (· ||| ·) M N hlt)
      have LA : Hid (rowM M k < 18446744073709551616) := by have := HP.out.lt k; rw [hrow] at this; exact this
      have LB := Lib.hid (HO.out.lt k)
      have i0 : (0 : Int) ≤ (k : Int) := by omega
      have i1 : (k : Int) < 64 := by omega
      clear hrow
      generalize rowM M k = x at *
      generalize rowM N k = y at *
      have HOR := Lib.hid (u64_or LA.out LB.out)
      have P1 := Lib.hid (HP.out.set hlt (v := x ||| y) (Nat.or_lt_two_pow (n := 64) LA.out LB.out))
      have O1 := Lib.hid (HO.out.other (p := ⟨b, k, none⟩) (Ne.symm NE.out) (.int .u64 (x ||| y : Nat)))
      have Y1 := Lib.hid (HX5.out.setCell (p := ⟨b, k, none⟩) hbW (.int .u64 (x ||| y : Nat)))
      rw [← HOR.out] at P1 O1 Y1
      go_upto_region 5 with fail
      go_still_tail 13, (by kernel_rfl)
      go_wp2_with fail
      exact ⟨⟨k + 1, by omega, by go_num, Y1.out.drew, by rw [← HSET.out]; exact P1.out.drewN 1, O1.out.drewN 1⟩, by simp [intOf]; omega⟩
    · obtain rfl : k = 64 := by omega
      generalize hu : zipTo (· ||| ·) M N 64 = U at *
      have HUU := Lib.hid hu; clear hu
      have A5 := Lib.hid (HA.out.ext HX5.out)
      obtain ⟨p0, p1, p2⟩ := cells3 A5.out.ba
      obtain ⟨l1, l2⟩ := A5.out.lens
      go_wp2_with fail
      refine (relation_any cs ws U b _ _ _ A5.out.vc A5.out.vw HP.out l1 l2).mono ?_
      rintro r w2 ⟨v, rfl, hv, x2⟩
      obtain ⟨sa, sb, sc, sd, se, sf, rfl⟩ := hv.shape
      have hR := (HX5.out.trans x2).block w.heap.size (by have := HZ.out; omega)
      rw [B1.out] at hR
      obtain ⟨z0, z1, z2, f0, f1, f2⟩ := block3 hR
      have HR := Lib.hid (put3_new (x := .slice sa cs.length sb) (y := .slice sc ws.length sd) (z := .slice se (castP (pairsM U)).length sf) hR)
      have HF := Lib.hid (RelO.fin (HX.out.trans HX5.out) (by have := HZ.out; have := HX5.out.size; omega) hv x2)
      clear hR hv x2
      go_wp2_with fail
      exact bodyPost_ret (v := .agg #[.slice sa cs.length sb, .slice sc ws.length sd, .slice se (castP (pairsM U)).length sf]) (results_cell_row Tryz.results50 _ _ w.heap.size 29 _ (0, 0) _ rfl HR.out Tryz.underlying29 rfl sizeRel) rfl ⟨_, rfl, by rw [HMM.out, HNN.out, HUM.out]; exact HF.out.1, HF.out.2⟩
end Go.Proofs.YtlnahhlddekhoaaGreatDoor
namespace Go.Proofs.YtlnahhlddekhoaaGreatDoor
open Go.RowKit

theorem pw_nat {s : Int} (h0 : 0 ≤ s) (h6 : s ≤ 6) : ∃ n : Nat, pw s = (n : Int) ∧ n ≤ 64 := by
  refine ⟨(pw s).toNat, ?_, ?_⟩
  · have : 0 ≤ pw s := by unfold pw; exact Int.pow_nonneg (by decide)
    omega
  · have h1 := pw_mono h0 h6
    have e : pw 6 = 64 := by decide
    omega
def diagTo (k : Nat) (M : List Nat) : List Nat := (List.range k).foldl (fun M x => orAt M x (1 <<< x)) M
theorem diagTo_succ (k : Nat) (M : List Nat) : diagTo (k + 1) M = orAt (diagTo k M) k (1 <<< k) := by unfold diagTo; rw [List.range_succ, List.foldl_append]; rfl
def warTo (y k : Nat) (M : List Nat) : List Nat := (List.range k).foldl (warRow y) M
theorem warTo_succ (y k : Nat) (M : List Nat) : warTo y (k + 1) M = warRow y (warTo y k M) k := by unfold warTo; rw [List.range_succ, List.foldl_append]; rfl
def closeTo (n k : Nat) (M : List Nat) : List Nat := (List.range k).foldl (warStep n) (diagM n M)
theorem closeTo_succ (n k : Nat) (M : List Nat) : closeTo n (k + 1) M = warTo k n (closeTo n k M) := by unfold closeTo; rw [List.range_succ, List.foldl_append]; rfl

set_option maxRecDepth 100000 in
set_option maxHeartbeats 4000000 in
theorem Closure1_any (w : World) (A : Nat) (cs ws : List Int) (P : List (Nat × Nat)) (ca wa ia : Option Addr) (cc wcp ic : Nat) (hA : RelBox w A cs ws P ca wa ia cc wcp ic) :
    Calls Tryz.prog 58 #[.pointer (some ⟨A, 0, none⟩)] w fun r w' => ∃ v', r = .returned v' ∧ RelO w' w.heap.size v' cs ws (castP (pairsM (closeM (pw (sumI ws)).toNat (rowsL P)))) ∧ Ext w w' := by
  obtain ⟨W, hW⟩ : ∃ W, W = w.alloc (.cells #[.slice none 0 0, .slice none 0 0, .slice none 0 0] 29) := ⟨_, rfl⟩
  have hx : Ext w W := by rw [hW]; exact (Ext.refl w).alloc _
  have hz : W.heap.size = w.heap.size + 1 := by rw [hW]; simp
  have hB1 : W.heap[w.heap.size]? = some (.cells #[.slice none 0 0, .slice none 0 0, .slice none 0 0] 29 (0, 0)) := by rw [hW]; exact heap_new _ _
  have hA1 := hA.ext hx
  obtain ⟨p0, p1, p2⟩ := cells3 hA1.ba
  have HA := Lib.hid hA1; have HX := Lib.hid hx; have HZ := Lib.hid hz; have HW := Lib.hid hW; have B1 := Lib.hid hB1
  clear hA hA1 hx hz hW hB1
  obtain ⟨hsh, hwd, hs0, hs12⟩ := small_sum HA.out.ok.small
  have hs6 := HA.out.ok.six
  obtain ⟨n, hn, hn64⟩ := pw_nat hs0 hs6
  have HPW := Lib.hid (pow_wrap hs0 hs12)
  have HN := Lib.hid hn; have HWD := Lib.hid hwd
  clear hn hsh hwd
  go_enter Tryz.func58, Tryz.ntmps58
  go_upto_region 1 with fail
  rw [← HW.out]
  go_wp2_with fail
  refine (rows_any cs ws P _ _ HA.out.va HA.out.ok.lt64).mono ?_
  rintro r w1 ⟨b, rfl, hb, hM, x1⟩
  have HM := Lib.hid hM; have X1 := Lib.hid x1; have A1 := Lib.hid (HA.out.ext x1)
  clear hM x1 p0 p1 p2
  generalize hm : rowsL P = M at *
  have HMM := Lib.hid hm; clear hm
  obtain ⟨q0, q1, q2⟩ := cells3 A1.out.ba
  go_wp2_with fail
  refine (rsum_any ws _ _ A1.out.vw HWD.out).mono ?_
  rintro r w2 ⟨rfl, rfl⟩
  go_upto_region 3 with fail
  rw [HPW.out, HN.out]
  clear HPW hs0 hs12 hs6
  go_wp2_with fail
  go_loopw [14] (fun i wr => ∃ k : Nat, k ≤ n ∧ i = .int .i64 k ∧ Ext W wr ∧ WordsAt 67 wr b (diagTo k M)) (fun i _ => n - (intOf i).toNat)
  case atStart => exact ⟨0, Nat.zero_le _, rfl, X1.out, HM.out⟩
  case round =>
    obtain ⟨k, hk, rfl, hX, hP⟩ := hrel
    have HX5 := Lib.hid hX; have HP := Lib.hid hP; clear hX hP
    by_cases hlt : k < n
    · have hk64 : k < 64 := by omega
      have c8 := HP.out.cell hk64
      have f8 := HP.out.frozen k
      have HSET := Lib.hid (diagTo_succ k M)
      have HSO := Lib.hid (row_or (diagTo k M) k (1 <<< k))
      have LA := Lib.hid (HP.out.lt k)
      have i0 : (0 : Int) ≤ (k : Int) := by omega
      have i1 : (k : Int) < 64 := by omega
      generalize rowM (diagTo k M) k = x at *
      have HOR : Hid (bits .or .u64 x (IntKind.u64.wrap (2 ^ k)) = ((x ||| 1 <<< k : Nat) : Int)) := by unfold Hid; rw [u64_pow hk64, u64_or LA.out (shl_lt hk64)]
      have P1 := Lib.hid (HP.out.set hk64 (v := x ||| 1 <<< k) (Nat.or_lt_two_pow (n := 64) LA.out (shl_lt hk64)))
      have Y1 := Lib.hid (HX5.out.setCell (p := ⟨b, k, none⟩) hb (.int .u64 (x ||| 1 <<< k : Nat)))
      rw [← HOR.out] at P1 Y1
      go_upto_region 6 with fail
      go_still_tail 10, (by kernel_rfl)
      go_wp2_with fail
      exact ⟨⟨k + 1, by omega, by go_num, Y1.out.drew, by rw [HSET.out, HSO.out]; exact P1.out.drewN 1⟩, by simp [intOf]; omega⟩
    · obtain rfl : k = n := by omega
      have HD : Hid (diagTo k M = closeTo k 0 M) := rfl
      rw [HD.out] at HP
      clear HD
      generalize k = n at *
      go_wp2_with fail
      have X6 := Lib.hid HX5.out; have P6 := Lib.hid HP.out
      clear HX5 HP X1 HM
      go_loopw [29] (fun i wr => ∃ k : Nat, k ≤ n ∧ i = .int .i64 k ∧ Ext W wr ∧ WordsAt 67 wr b (closeTo n k M)) (fun i _ => n - (intOf i).toNat)
      case atStart => exact ⟨0, Nat.zero_le _, rfl, X6.out, P6.out⟩
      case round =>
        obtain ⟨y, hy, rfl, hX, hP⟩ := hrel
        have HX7 := Lib.hid hX; have HP7 := Lib.hid hP; clear hX hP
        by_cases hly : y < n
        · have hy64 : y < 64 := by omega
          have j0 : (0 : Int) ≤ (y : Int) := by omega
          have j1 : (y : Int) < 64 := by omega
          have HCS := Lib.hid (closeTo_succ n y M)
          generalize closeTo n y M = C at *
          go_wp2_with fail
          go_loopw [33] (fun i wr => ∃ k : Nat, k ≤ n ∧ i = .int .i64 k ∧ Ext W wr ∧ WordsAt 67 wr b (warTo y k C)) (fun i _ => n - (intOf i).toNat)
          case atStart => exact ⟨0, Nat.zero_le _, rfl, HX7.out, HP7.out⟩
          case round =>
            obtain ⟨k, hk, rfl, hX, hP⟩ := hrel
            have HX8 := Lib.hid hX; have HP8 := Lib.hid hP; clear hX hP
            by_cases hlk : k < n
            · have hk64 : k < 64 := by omega
              have c8 := HP8.out.cell hk64
              have c9 := HP8.out.cell hy64
              have f8 := HP8.out.frozen k
              have hws := warTo_succ y k C
              unfold warRow at hws
              have LA := Lib.hid (HP8.out.lt k)
              have LB := Lib.hid (HP8.out.lt y)
              have hbt := bit_test LA.out y
              have i0 : (0 : Int) ≤ (k : Int) := by omega
              have i1 : (k : Int) < 64 := by omega
              have hbit : bitM (warTo y k C) k y = (rowM (warTo y k C) k).testBit y := rfl
              rw [hbit, row_or] at hws
              clear hbit
              generalize rowM (warTo y k C) k = x at *
              generalize rowM (warTo y k C) y = z at *
              cases ht : x.testBit y with
              | true =>
                rw [ht] at hbt hws
                have HWS : Hid (warTo y (k + 1) C = (warTo y k C).set k (x ||| z)) := by unfold Hid; rw [hws]; rfl
                have HOR := Lib.hid (u64_or LA.out LB.out)
                have P1 := Lib.hid (HP8.out.set hk64 (v := x ||| z) (Nat.or_lt_two_pow (n := 64) LA.out LB.out))
                have Y1 := Lib.hid (HX8.out.setCell (p := ⟨b, k, none⟩) hb (.int .u64 (x ||| z : Nat)))
                rw [← HOR.out] at P1 Y1
                clear hws ht
                go_upto_region 15 with fail
                go_still_tail 13, (by kernel_rfl)
                go_wp2_with fail
                exact ⟨⟨k + 1, by omega, by go_num, Y1.out.drew, by rw [HWS.out]; exact P1.out.drewN 1⟩, by simp [intOf]; omega⟩
              | false =>
                rw [ht] at hbt hws
                have HWS : Hid (warTo y (k + 1) C = warTo y k C) := by unfold Hid; rw [hws]; rfl
                clear hws ht
                go_wp2_with fail
                exact ⟨⟨k + 1, by omega, by go_num, HX8.out, by rw [HWS.out]; exact HP8.out⟩, by simp [intOf]; omega⟩
            · obtain rfl : k = n := by omega
              rw [← HCS.out] at HP8
              clear HCS
              go_wp2_with fail
              exact ⟨⟨y + 1, by omega, by go_num, HX8.out, HP8.out⟩, by simp [intOf]; omega⟩
        · obtain rfl : y = n := by omega
          have HCE : Hid (closeTo y y M = closeM y M) := rfl
          rw [HCE.out] at HP7
          clear HCE
          have HNN : Hid ((pw (sumI ws)).toNat = y) := by unfold Hid; rw [HN.out]; simp
          generalize hu : closeM y M = U at *
          have HUU := Lib.hid hu; clear hu
          have A5 := Lib.hid (HA.out.ext HX7.out)
          obtain ⟨p0, p1, p2⟩ := cells3 A5.out.ba
          obtain ⟨l1, l2⟩ := A5.out.lens
          go_wp2_with fail
          refine (relation_any cs ws U b _ _ _ A5.out.vc A5.out.vw HP7.out l1 l2).mono ?_
          rintro r w2 ⟨v, rfl, hv, x2⟩
          obtain ⟨sa, sb, sc, sd, se, sf, rfl⟩ := hv.shape
          have hR := (HX7.out.trans x2).block w.heap.size (by have := HZ.out; omega)
          rw [B1.out] at hR
          obtain ⟨z0, z1, z2, f0, f1, f2⟩ := block3 hR
          have HR := Lib.hid (put3_new (x := .slice sa cs.length sb) (y := .slice sc ws.length sd) (z := .slice se (castP (pairsM U)).length sf) hR)
          have HF := Lib.hid (RelO.fin (HX.out.trans HX7.out) (by have := HZ.out; have := HX7.out.size; omega) hv x2)
          clear hR hv x2
          go_wp2_with fail
          exact bodyPost_ret (v := .agg #[.slice sa cs.length sb, .slice sc ws.length sd, .slice se (castP (pairsM U)).length sf]) (results_cell_row Tryz.results58 _ _ w.heap.size 29 _ (0, 0) _ rfl HR.out Tryz.underlying29 rfl sizeRel) rfl ⟨_, rfl, by rw [HMM.out, HNN.out, HUU.out]; exact HF.out.1, HF.out.2⟩
end Go.Proofs.YtlnahhlddekhoaaGreatDoor
