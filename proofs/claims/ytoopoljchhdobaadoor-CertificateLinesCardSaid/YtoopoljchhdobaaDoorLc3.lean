/-
  The walk of the law CertificateLines. (Printed by gen_law27.py.)
-/
import Derived.Test.YtoopoljchhdobaaDoorOpenT
namespace Go.Proofs.YtoopoljchhdobaaDoor
open Go.RowKit

/-- Where the first line ends, and how many lines there are. -/
def atLine (u : List UInt8) (k0 i n f : Nat) : Prop := (i ≤ k0 ∧ n = 0 ∧ f = u.length) ∨ (k0 < i ∧ n = (u.take i).count 10 ∧ 0 < n ∧ f = k0 + 1)
theorem line_step {u a t : List UInt8} (hu : u = a ++ 10 :: t) (ha : ∀ y ∈ a, y ≠ 10) {i n f : Nat} (hi : i < u.length) (h : atLine u a.length i n f) :
    (u[i].toNat = 10 → atLine u a.length (i + 1) (n + 1) (if n = 0 then i + 1 else f)) ∧ (u[i].toNat ≠ 10 → atLine u a.length (i + 1) n f) := by
  have hget : ∀ j, (hj : j < a.length) → u[j]? = some a[j] := fun j hj => by rw [hu, List.getElem?_append_left hj, List.getElem?_eq_getElem hj]
  have hk : u[a.length]? = some 10 := by rw [hu]; simp
  have hc : (u.take (i + 1)).count 10 = (u.take i).count 10 + if u[i] = 10 then 1 else 0 := by
    rw [List.take_succ_eq_append_getElem hi, List.count_append, List.count_singleton]
    simp
  have hin : u[i]? = some u[i] := List.getElem?_eq_getElem hi
  have h10 : ∀ y : UInt8, y.toNat = 10 ↔ y = 10 := fun y => ⟨fun e => UInt8.toNat_inj.1 e, fun e => by rw [e]; rfl⟩
  have hz : (u.take a.length).count 10 = 0 := by
    rw [hu, List.take_left]
    exact List.count_eq_zero.2 fun hm => ha 10 hm rfl
  rcases h with ⟨h1, rfl, rfl⟩ | ⟨h1, h2, h3, rfl⟩
  · rcases Nat.lt_or_ge i a.length with hl | hl
    · have hne : u[i] ≠ 10 := by
        have := hget i hl
        rw [hin] at this; injection this with this
        rw [this]; exact ha _ (List.getElem_mem hl)
      exact ⟨fun e => absurd ((h10 _).1 e) hne, fun _ => .inl ⟨by omega, rfl, rfl⟩⟩
    · obtain rfl : i = a.length := by omega
      have he : u[a.length] = 10 := by rw [hin] at hk; injection hk
      refine ⟨fun _ => .inr ⟨by omega, ?_, by omega, by rw [if_pos rfl]⟩, fun e => absurd ((h10 _).2 he) e⟩
      rw [hc, hz, if_pos he]
  · refine ⟨fun e => .inr ⟨by omega, ?_, by omega, by rw [if_neg (by omega)]⟩, fun e => .inr ⟨by omega, ?_, h3, rfl⟩⟩
    · rw [hc, ← h2, if_pos ((h10 _).1 e)]
    · rw [hc, ← h2, if_neg fun q => e ((h10 _).2 q)]; rfl
theorem text_shape {x : CertS} (h : usableB x = true) : textC x = firstC x ++ 10 :: tailC x := by unfold textC; rw [if_pos h]; rfl
theorem want_lines {x : CertS} (h : usableB x = true) : (textC x).count 10 = 1 + x.prf.length + (if x.ver = 2 then 2 else 0) := by
  rw [text_lines h]
  obtain ⟨_, _, u3⟩ := usable_parts h
  unfold nlC
  rcases rest_cases u3 with ⟨e, p, _⟩ | ⟨e, _⟩ | ⟨e, p, _⟩
  · rw [e, p]; simp
  · rw [e]; simp
  · rw [e, p]; simp

set_option maxRecDepth 100000 in
set_option maxHeartbeats 8000000 in
theorem CertificateLines_any (x : CertS) (vx : Value) (w : World) (hx : CertV w vx x) (hL : LTab w) :
    Calls Tryd.prog 5 #[vx] w fun r w' => r = .returned (.bool true) ∧ Ext w w' := by
  obtain ⟨pa, pc, oa, oc, na, nc, rfl, hin⟩ := hx
  obtain ⟨W, hW⟩ : ∃ W, W = w.alloc (.cells (certCells x pa pc oa oc na nc) 25) := ⟨_, rfl⟩
  have hX : Ext w W := by rw [hW]; exact (Ext.refl _).alloc _
  have hC : CertAt W w.heap.size x pa pc oa oc na nc := by rw [hW]; exact heap_new _ _
  have HC := Lib.hid hC; have HX := Lib.hid hX; have HWE := Lib.hid hW; have HIN := Lib.hid (hin.ext hX); have HL := Lib.hid (hL.ext hX)
  obtain ⟨q0, q1, q2, q3, q4, q5⟩ := hC.cells
  clear hC hX hW hin hL
  unfold certCells at HWE ⊢
  go_enter Tryd.func5, Tryd.ntmps5
  go_upto_region 1 with fail
  rw [← HWE.out]
  clear HWE
  generalize w.heap.size = b at *
  go_wp2_with fail
  refine (headL W HL.out).mono ?_
  rintro r w1 ⟨rfl, x1⟩
  replace HX := Lib.hid (HX.out.trans x1); replace HC := Lib.hid (HC.out.ext x1); replace HIN := Lib.hid (HIN.out.ext x1); replace HL := Lib.hid (HL.out.ext x1); replace q0 := x1.cell q0; replace q1 := x1.cell q1; replace q2 := x1.cell q2; replace q3 := x1.cell q3; replace q4 := x1.cell q4; replace q5 := x1.cell q5
  clear x1
  go_wp2_with fail
  refine (RSmallC_any x _ w1 ⟨pa, pc, oa, oc, na, nc, rfl, HIN.out⟩).mono ?_
  rintro r w2 ⟨rfl, x1⟩
  replace HX := Lib.hid (HX.out.trans x1); replace HC := Lib.hid (HC.out.ext x1); replace HIN := Lib.hid (HIN.out.ext x1); replace HL := Lib.hid (HL.out.ext x1); replace q0 := x1.cell q0; replace q1 := x1.cell q1; replace q2 := x1.cell q2; replace q3 := x1.cell q3; replace q4 := x1.cell q4; replace q5 := x1.cell q5
  clear x1
  cases hs : smallC x with
  | false =>
    go_wp2_with fail
    go_ret
    exact ⟨rfl, HX.out⟩
  | true =>
  have HS := Lib.hid (smallC_parts hs)
  clear hs
  go_wp2_with fail
  refine (RUsable_any x _ w2 ⟨pa, pc, oa, oc, na, nc, rfl, HIN.out⟩ HS.out).mono ?_
  rintro r w3 ⟨rfl, x1⟩
  replace HX := Lib.hid (HX.out.trans x1); replace HC := Lib.hid (HC.out.ext x1); replace HIN := Lib.hid (HIN.out.ext x1); replace HL := Lib.hid (HL.out.ext x1); replace q0 := x1.cell q0; replace q1 := x1.cell q1; replace q2 := x1.cell q2; replace q3 := x1.cell q3; replace q4 := x1.cell q4; replace q5 := x1.cell q5
  clear x1
  cases hu : usableB x with
  | false =>
    go_wp2_with fail
    go_ret
    exact ⟨rfl, HX.out⟩
  | true =>
  go_wp2_with fail
  refine (textL27 x HS.out _ w3 ⟨pa, pc, oa, oc, na, nc, rfl, HIN.out⟩ HL.out).mono ?_
  rintro r w4 ⟨rfl, x1⟩
  replace HX := Lib.hid (HX.out.trans x1); replace HC := Lib.hid (HC.out.ext x1); replace HIN := Lib.hid (HIN.out.ext x1); replace HL := Lib.hid (HL.out.ext x1); replace q0 := x1.cell q0; replace q1 := x1.cell q1; replace q2 := x1.cell q2; replace q3 := x1.cell q3; replace q4 := x1.cell q4; replace q5 := x1.cell q5
  clear x1 q0 q1 q4 q5
  have hpl := HS.out.len
  have htl := certText_small HS.out.len HS.out.prf
  have HTC := Lib.hid (small_count HS.out)
  have HSH := Lib.hid (text_shape hu)
  have HFC := Lib.hid (first_chars hu)
  have HWT := Lib.hid (want_lines hu)
  have HLA := Lib.hid (text_last hu)
  have HNE := Lib.hid (text_ne hu)
  have HU := Lib.hid hu
  clear hu
  generalize hux : textC x = u at *
  have HUX := Lib.hid hux; clear hux
  obtain ⟨k0, hk0⟩ : ∃ k0, k0 = (firstC x).length := ⟨_, rfl⟩
  have HK0 := Lib.hid hk0
  have HST : Hid (∀ {i n f : Nat}, (hi : i < u.length) → atLine u k0 i n f → (u[i].toNat = 10 → atLine u k0 (i + 1) (n + 1) (if n = 0 then i + 1 else f)) ∧ (u[i].toNat ≠ 10 → atLine u k0 (i + 1) n f)) := by
    intro i n f hi h
    rw [hk0] at h ⊢
    exact line_step HSH.out HFC.out hi h
  have HK1 : Hid (k0 < u.length) := by unfold Hid; rw [HSH.out, hk0]; simp
  clear hk0
  go_wp2_with fail
  go_loopw [5, 6, 7] (fun n f i wr => ∃ (k nn ff : Nat), k ≤ u.length ∧ i = .int .i64 k ∧ n = .int .i64 nn ∧ f = .int .i64 ff ∧ wr = w4 ∧ nn ≤ k ∧ ff ≤ u.length ∧ atLine u k0 k nn ff) (fun _ _ i _ => u.length - (intOf i).toNat)
  case atStart => exact ⟨0, 0, u.length, Nat.zero_le _, rfl, rfl, rfl, rfl, Nat.le_refl _, Nat.le_refl _, .inl ⟨Nat.zero_le _, rfl, rfl⟩⟩
  case round =>
    obtain ⟨k, nn, ff, hk, rfl, rfl, rfl, rfl, hnk, hfl, hat⟩ := hrel
    have HAT := Lib.hid hat; clear hat
    by_cases hlt : k < u.length
    · obtain ⟨s1, s2⟩ := HST.out hlt HAT.out
      have S1 := Lib.hid s1; have S2 := Lib.hid s2
      clear s1 s2
      have j1 : (k : Int) < (u.length : Int) := by omega
      have h255 := u[k].toNat_lt
      by_cases c0 : u[k].toNat = 10
      · have b0 : ((((⟨u.toArray⟩ : ByteArray)[k]).toNat : Int) == 10) = true := by show (((u[k].toNat : Nat) : Int) == 10) = true; rw [c0]; rfl
        have S3 := Lib.hid (S1.out c0)
        by_cases n0 : nn = 0
        · rw [if_pos n0] at S3
          subst n0
          clear c0
          go_wp2_with fail
          exact ⟨⟨k + 1, 1, k + 1, by omega, by go_num, rfl, by go_num, trivial, by omega, by omega, S3.out⟩, by simp [intOf]; omega⟩
        · rw [if_neg n0] at S3
          have b1 : ((nn : Int) == 0) = false := by rw [beq_eq_false_iff_ne]; omega
          clear c0 n0
          go_wp2_with fail
          exact ⟨⟨k + 1, nn + 1, ff, by omega, by go_num, by go_num, rfl, trivial, by omega, by omega, S3.out⟩, by simp [intOf]; omega⟩
      · have b0 : ((((⟨u.toArray⟩ : ByteArray)[k]).toNat : Int) == 10) = false := by show (((u[k].toNat : Nat) : Int) == 10) = false; rw [beq_eq_false_iff_ne]; omega
        have S3 := Lib.hid (S2.out c0)
        clear c0
        go_wp2_with fail
        exact ⟨⟨k + 1, nn, ff, by omega, by go_num, rfl, rfl, trivial, by omega, by omega, S3.out⟩, by simp [intOf]; omega⟩
    · obtain rfl : k = u.length := by omega
      obtain ⟨hn1, hf1⟩ : nn = u.count 10 ∧ ff = k0 + 1 := by
        rcases HAT.out with ⟨h1, _⟩ | ⟨_, h2, _, h4⟩
        · have := HK1.out; omega
        · rw [List.take_length] at h2; exact ⟨h2, h4⟩
      have HWN : Hid (nn = 1 + x.prf.length + (if x.ver = 2 then 2 else 0)) := by rw [Hid, hn1]; exact HWT.out
      obtain ⟨r1, hr1⟩ : ∃ r1, u.length = r1 + 1 := ⟨u.length - 1, by have := HK1.out; omega⟩
      have hrl : r1 < u.length := by omega
      have h10 : u[r1] = 10 := by
        have h := HLA.out
        rw [List.getLast?_eq_getElem?, hr1, Nat.add_sub_cancel, List.getElem?_eq_getElem hrl] at h
        injection h
      have hb10 : ((((⟨u.toArray⟩ : ByteArray)[r1]).toNat : Int) != 10) = false := by show (((u[r1].toNat : Nat) : Int) != 10) = false; rw [h10]; rfl
      have hw1 : (u.length : Int) - 1 = (r1 : Int) := by omega
      have i0 : (0 : Int) ≤ (r1 : Int) := by omega
      have i1 : (r1 : Int) < (u.length : Int) := by omega
      have hz : ((u.length : Int) == 0) = false := by rw [beq_eq_false_iff_ne]; omega
      have HFF : Hid (ff = k0 + 1) := hf1
      have hr1l : r1 ≤ 600000 := by omega
      clear hn1 hf1 h10 hr1 hlt HAT
      by_cases v1 : x.ver = 1
      case neg =>
        have hv1 : (x.ver != 1) = true := by simpa using v1
        by_cases v2 : x.ver = 2
        · have hv2 : (x.ver == 2) = true := by simpa using v2
          have hq : ((nn : Int) != 1 + (x.prf.length : Int) + 2) = false := by
            have h := HWN.out
            rw [if_pos v2] at h
            rw [bne_eq_false_iff_eq]; omega
          clear v1 v2
          go_wp2_with fail
          go_ret
          exact ⟨rfl, HX.out⟩
        · have hv2 : (x.ver == 2) = false := by simpa using v2
          have hq : ((nn : Int) != 1 + (x.prf.length : Int)) = false := by
            have h := HWN.out
            rw [if_neg v2] at h
            rw [bne_eq_false_iff_eq]; omega
          clear v1 v2
          go_wp2_with fail
          go_ret
          exact ⟨rfl, HX.out⟩
      have hv1 : (x.ver != 1) = false := by rw [v1]; rfl
      have hv2 : (x.ver == 2) = false := by rw [v1]; rfl
      have hq : ((nn : Int) != 1 + (x.prf.length : Int)) = false := by
        have h := HWN.out
        rw [if_neg (by rw [v1]; decide)] at h
        rw [bne_eq_false_iff_eq]; omega
      have hpb : prfB x.prf = true := by
        obtain ⟨_, _, u3⟩ := usable_parts HU.out
        rcases rest_cases u3 with ⟨e, _⟩ | ⟨_, p, _⟩ | ⟨e, _⟩
        · rw [v1] at e; exact absurd e (by decide)
        · exact p
        · rw [v1] at e; exact absurd e (by decide)
      have htail : tailC x = textL x.prf := by unfold tailC; rw [if_pos v1]
      have hex : ((⟨u.toArray⟩ : ByteArray).extract ff u.length) = ⟨(textL x.prf).toArray⟩ := by
        rw [← htail]
        have hd : u.drop (k0 + 1) = tailC x := by rw [HSH.out, HK0.out]; simp
        rw [HFF.out, ← hd]; apply ByteArray.ext; simp [List.extract_eq_take_drop]
        rw [List.take_of_length_le]; simp
      have htl2 : (textL x.prf).length ≤ 600000 := by
        rw [← htail]; have := congrArg List.length HSH.out; simp at this; omega
      have htc2 : (textL x.prf).count 10 ≤ 20000 := by rw [textL_count]; omega
      have HRG := Lib.hid (prf_ranged hpb)
      have HPL := Lib.hid (parse_text x.prf HRG.out.1)
      have f0 : (0 : Int) ≤ (ff : Int) := by omega
      have f1 : (ff : Int) ≤ (u.length : Int) := by omega
      have HSTP := Lib.hid HIN.out.1
      have HEX := Lib.hid hex
      clear v1 hpb htail hex
      go_wp2_with fail
      rw [HEX.out]
      refine (Parse_any (textL x.prf) wr (by omega) htc2 HL.out.p).mono ?_
      rintro r w6 ⟨x1, hpp⟩
      obtain ⟨l, v, hl, rfl, hown⟩ := hpp.resolve_left (fun ⟨h, _⟩ => by rw [HPL.out, if_pos HRG.out.2.1] at h; cases h)
      obtain rfl : x.prf = l := by rw [HPL.out, if_pos HRG.out.2.1] at hl; cases hl; rfl
      obtain ⟨va, vc, rfl⟩ := SliceAt.shape hown.steps
      have HV := Lib.hid hown.steps
      replace HX := Lib.hid (HX.out.trans x1); replace HL := Lib.hid (HL.out.ext x1); replace HSTP := Lib.hid (HSTP.out.ext x1); replace HC := Lib.hid (HC.out.ext x1)
      have q3 := x1.cell q3
      clear x1 hl hown hpp
      have hex := HEX.out
      have HSM : Hid (∀ w', Ext w6 w' → Calls Tryd.prog 14 #[.slice va x.prf.length vc, .slice pa x.prf.length pc] w' fun r w2 => r = .returned (.bool true) ∧ Ext w' w2) := fun w' he => by
        refine (RSame_any x.prf x.prf _ _ w' (HV.out.ext he) (HSTP.out.ext he)).mono ?_
        rintro r w2 ⟨rfl, h⟩
        exact ⟨by rw [sameP_iff.2 rfl], h⟩
      have HTX : Hid (∀ w', Ext w6 w' → Calls Tryd.prog 15 #[.slice pa x.prf.length pc] w' fun e w3 => e = .returned (.string ⟨(textL x.prf).toArray⟩) ∧ Ext w' w3) := fun w' he => PText_any x.prf _ w' (HSTP.out.ext he) HRG.out.1 (by omega) (HL.out.ext he).c.pow
      go_upto_region 22 with fail
      have HX0 := Lib.hid ((Ext.refl w6).drew)
      go_region_held3 (fun w' => w'.cell? ⟨b, 3, none⟩ = some (.slice pa x.prf.length pc))
        (first | exact q3 | (with_reducible exact hk2) | (with_reducible exact hk1) | fail)
        ((first
          | (go_at_call 15; refine (HTX.out _ HX1.out).mono ?_; rintro r w2 ⟨rfl, x2⟩; have HX2 := Lib.hid (HX1.out.trans x2); have hk2 := (HC.out.ext HX2.out).cells.2.2.2.1; clear x2)
          | (go_at_call 14; refine (HSM.out _ HX0.out).mono ?_; rintro r w1 ⟨rfl, x1⟩; have HX1 := Lib.hid (HX0.out.trans x1); have hk1 := (HC.out.ext HX1.out).cells.2.2.2.1; clear x1)))
      go_wp2_with fail
      go_ret
      exact ⟨rfl, HX.out.trans HX2.out⟩
theorem CertificateLines_card (x : CertS) (vx : Value) (w : World) (hx : CertV w vx x) (hT : LTab w) :
    Calls Tryd.prog 5 #[vx] w fun r w' => r = .returned (.bool true) ∧ Ext w w' := CertificateLines_any x vx w hx hT
end Go.Proofs.YtoopoljchhdobaaDoor
