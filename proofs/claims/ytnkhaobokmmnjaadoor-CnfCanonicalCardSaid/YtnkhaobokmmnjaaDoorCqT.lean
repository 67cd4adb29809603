/-
  The walk of cnf.Text.
-/
import Derived.Test.YtnkhaobokmmnjaaDoorCnA
import Derived.Test.YtnkhaobokmmnjaaDoorPx2
import Derived.Test.YtnkhaobokmmnjaaDoorCp2
import Derived.Test.YtnkhaobokmmnjaaDoorOl1
namespace Go.Proofs.YtnkhaobokmmnjaaDoor
open Go.RowKit
attribute [local go_sem] Oper.semAt_some

theorem clsText_take {l : List (List Int)} {k : Nat} (h : k < l.length) : clsText (l.take (k + 1)) = clsText (l.take k) ++ litText l[k] ++ [48, 10] := by
  unfold clsText
  rw [List.take_succ_eq_append_getElem h, List.flatMap_append]
  simp only [List.flatMap_cons, List.flatMap_nil, clText, List.append_nil, List.append_assoc]
theorem clsText_le (l : List (List Int)) (k : Nat) : (clsText (l.take k)).length ≤ (clsText l).length := by
  have : clsText l = clsText (l.take k) ++ clsText (l.drop k) := by
    unfold clsText; rw [← List.flatMap_append, List.take_append_drop]
  rw [this, List.length_append]; omega
theorem litText_le (l : List Int) (k : Nat) : (litText (l.take k)).length ≤ (litText l).length := by
  have : litText l = litText (l.take k) ++ litText (l.drop k) := by
    unfold litText; rw [← List.flatMap_append, List.take_append_drop]
  rw [this, List.length_append]; omega
theorem litText_take {l : List Int} {k : Nat} (h : k < l.length) : litText (l.take (k + 1)) = litText (l.take k) ++ Lib.itoa l[k] ++ [32] := by
  rw [List.take_succ_eq_append_getElem h, litText_snoc]
theorem ints_at {w : World} {a : Option Addr} {n c : Nat} {l : List Int} (h : Ints w (.slice a n c) l) (k : Nat) (hk : k < l.length) : ∃ b o, a = some ⟨b, o, none⟩ ∧ w.cell? ⟨b, o + k, none⟩ = some (.int .i64 (l.getD k 0)) := by
  rcases h with ⟨_, e⟩ | ⟨b, o, cc, e, hm, hcell⟩
  · subst e; simp at hk
  · cases e
    refine ⟨b, o, rfl, ?_⟩
    have := hcell k hk
    rw [List.getD_eq_getElem?_getD, List.getElem?_eq_getElem hk]
    simpa [IntAt] using this
set_option maxHeartbeats 1000000 in
theorem ba_append (a b : List UInt8) : ((⟨a.toArray⟩ : ByteArray) ++ ⟨b.toArray⟩) = ⟨(a ++ b).toArray⟩ := by
  apply ByteArray.ext; simp

set_option maxRecDepth 100000 in
set_option maxHeartbeats 4000000 in
theorem CText_any (vars : Int) (cl : List (List Int)) (vf : Value) (w : World) (hf : CnfV w vf vars cl) (ht : TameC vars cl) (hv : validC vars cl = true) (hb : (textC vars cl).length ≤ 1000000) (hP : Pow10 w) :
    Calls Tryd.prog 19 #[vf] w fun r w' => r = .returned (.string ⟨(textC vars cl).toArray⟩) ∧ Ext w w' := by
  obtain ⟨fa, fc, rfl, hcl⟩ := hf.shape
  have HT := Lib.hid ht; have HV := Lib.hid hv; have HB := Lib.hid hb; have HP := Lib.hid hP
  obtain ⟨W, hW⟩ : ∃ W, W = w.alloc (.cells #[.int .i64 vars, .slice fa cl.length fc] 24) := ⟨_, rfl⟩
  have hx : Ext w W := by rw [hW]; exact (Ext.refl w).alloc _
  have hA : Kept w.heap.size (.cells #[.int .i64 vars, .slice fa cl.length fc] 24 (0, 0)) W := by rw [hW]; exact heap_new _ _
  obtain ⟨p0, p1⟩ := CnfAt.cells hA
  have HX := Lib.hid hx; have HW := Lib.hid hW; have HA := Lib.hid hA; have HL := Lib.hid (hcl.ext hx)
  clear hf hcl ht hv hb hP hx hW hA
  go_enter Tryd.func19, Tryd.ntmps19
  go_upto_region 1 with fail
  rw [← HW.out]
  clear HW
  go_upto_region 3 with (go_at_call 15; refine (CValid_any vars cl _ W ⟨_, rfl, HL.out⟩ HT.out).mono ?_; rintro r w2 ⟨rfl, x2⟩; rw [HV.out])
  have hsz2 : W.heap.size ≤ w2.heap.size := x2.size
  have hbW : w.heap.size < W.heap.size := lt_heap HA.out
  have hA2 : Kept w.heap.size (.cells #[.int .i64 vars, .slice fa cl.length fc] 24 (0, 0)) w2 := (x2.block _ hbW).trans HA.out
  have HX2 := Lib.hid (HX.out.trans x2)
  have HL2 := Lib.hid (HL.out.ext x2)
  have HT0 : Hid (TEnv w2 w2.heap.size [] (w2.alloc (.cells #[.pointer none, .slice none 0 0] 57))) := ⟨Lib.IsBuilderF.of (Lib.fresh_isBuilder _ _ w2), (Ext.refl w2).alloc _⟩
  have HNE : Hid (w.heap.size ≠ w2.heap.size) := by unfold Hid; omega
  clear x2 p0 p1 HL HX
  go_upto_region 4 with fail
  have hx3 : Ext w2 (w2.alloc (.cells #[.pointer none, .slice none 0 0] 57)).drew := ((Ext.refl w2).alloc _).drew
  have HA3 := Lib.hid ((hx3.block _ (lt_heap hA2)).trans hA2)
  have HT3 : Hid (TEnv w2 w2.heap.size [] (w2.alloc (.cells #[.pointer none, .slice none 0 0] 57)).drew) := HT0.out.ext (Ext.refl _).drew
  have HK : Hid (∀ w' : World, w'.heap[w.heap.size]? = some (.cells #[.int .i64 vars, .slice fa cl.length fc] 24 (0, 0)) → w'.cell? ⟨w.heap.size, 0, none⟩ = some (.int .i64 vars) ∧ w'.cell? ⟨w.heap.size, 1, none⟩ = some (.slice fa cl.length fc)) := fun w' h => CnfAt.cells h
  have hlen := SliceAt.len_le HL2.out
  clear hA2 HT0
  refine wp_normal2 ?_
  refine wp_region_held (S := fun w' => w'.cell? ⟨w.heap.size, 0, none⟩ = some (.int .i64 vars) ∧ w'.cell? ⟨w.heap.size, 1, none⟩ = some (.slice fa cl.length fc)) (by kernel_rfl) ?_
  change wpAnyH _ _ _ _ _ _ _ _ (w2.alloc (.cells #[.pointer none, .slice none 0 0] 57)).drew
  generalize (w2.alloc (.cells #[.pointer none, .slice none 0 0] 57)).drew = w3 at *
  have HS := Lib.hid (HK.out w3 HA3.out)
  refine wpAnyH_take (i := 0) (v := .pointer (some ⟨w.heap.size, 0, none⟩)) rfl (by kernel_rfl) (by kernel_rfl) (by kernel_rfl) (fun _ _ _ h => h) (.inl ⟨rfl, fun w' hx' => by obtain ⟨h0, h1⟩ := hx'; go_simp⟩) HS.out ?_
  refine wpAnyH_take (i := 1) (v := .int .i64 vars) rfl (by kernel_rfl) (by kernel_rfl) (by kernel_rfl) (fun _ _ _ h => h) (.inl ⟨rfl, fun w' hx' => by obtain ⟨h0, h1⟩ := hx'; go_simp⟩) HS.out ?_
  refine wpAnyH_take (i := 5) (v := .pointer (some ⟨w.heap.size, 1, none⟩)) rfl (by kernel_rfl) (by kernel_rfl) (by kernel_rfl) (fun _ _ _ h => h) (.inl ⟨rfl, fun w' hx' => by obtain ⟨h0, h1⟩ := hx'; go_simp⟩) HS.out ?_
  refine wpAnyH_take (i := 6) (v := .slice fa cl.length fc) rfl (by kernel_rfl) (by kernel_rfl) (by kernel_rfl) (fun _ _ _ h => h) (.inl ⟨rfl, fun w' hx' => by obtain ⟨h0, h1⟩ := hx'; go_simp⟩) HS.out ?_
  refine wpAnyH_take (i := 7) (v := .int .i64 (cl.length : Nat)) rfl (by kernel_rfl) (by kernel_rfl) (by kernel_rfl) (fun _ _ _ h => h) (.inl ⟨rfl, fun w' hx' => by obtain ⟨h0, h1⟩ := hx'; go_simp⟩) HS.out ?_
  refine wpAnyH_all (rs := [2]) (by kernel_rfl) (by simp) ?_
  intro i hi
  obtain rfl : i = 2 := by simpa using hi
  clear hi
  unfold wpOp
  go_simp
  have hvr := HT.out.vars; have hln := HT.out.len
  unfold InI at hvr
  refine .inl ((Itoa_any vars w3 hvr.1 (by omega) ((HP.out.ext HX2.out).ext hx3)).mono ?_)
  rintro r w4 ⟨rfl, x4⟩
  have HA4 := Lib.hid ((x4.block _ (lt_heap HA3.out)).trans HA3.out)
  have HT4 := Lib.hid (HT3.out.ext x4)
  have HP4 := Lib.hid (((HP.out.ext HX2.out).ext hx3).ext x4)
  have HS4 := Lib.hid (HK.out w4 HA4.out)
  clear x4 HT3 HA3 HS
  refine ⟨HS4.out, ?_⟩
  have hl1 := Lib.itoa_length_le vars hvr.1 (by omega)
  have hl2 := Lib.itoa_length_le (cl.length : Int) (by omega) (by omega)
  have n1 : ¬ 9223372036854775807 < 6 + (Lib.itoa vars).length := by omega
  have n2 : ¬ 9223372036854775807 < 6 + (Lib.itoa vars).length + 1 := by omega
  have n3 : ¬ 9223372036854775807 < 6 + (Lib.itoa vars).length + 1 + (Lib.itoa (cl.length : Int)).length := by omega
  have n4 : ¬ 9223372036854775807 < 6 + (Lib.itoa vars).length + 1 + (Lib.itoa (cl.length : Int)).length + 1 := by omega
  refine wpAnyH_take (i := 3) (v := .string ((⟨#[112, 32, 99, 110, 102, 32]⟩ : ByteArray) ++ ⟨(Lib.itoa vars).toArray⟩)) rfl (by kernel_rfl) (by kernel_rfl) (by kernel_rfl) (fun _ _ _ h => h) (.inl ⟨rfl, fun w' hx' => by obtain ⟨h0, h1⟩ := hx'; go_simp⟩) HS4.out ?_
  refine wpAnyH_take (i := 4) (v := .string (((⟨#[112, 32, 99, 110, 102, 32]⟩ : ByteArray) ++ ⟨(Lib.itoa vars).toArray⟩) ++ (⟨#[32]⟩ : ByteArray))) rfl (by kernel_rfl) (by kernel_rfl) (by kernel_rfl) (fun _ _ _ h => h) (.inl ⟨rfl, fun w' hx' => by obtain ⟨h0, h1⟩ := hx'; go_simp⟩) HS4.out ?_
  refine wpAnyH_all (rs := [8]) (by kernel_rfl) (by simp) ?_
  intro i hi
  obtain rfl : i = 8 := by simpa using hi
  clear hi
  unfold wpOp
  go_simp
  refine .inl ((Itoa_any (cl.length : Int) w4 (by omega) (by omega) HP4.out).mono ?_)
  rintro r w5 ⟨rfl, x5⟩
  have HA5 := Lib.hid ((x5.block _ (lt_heap HA4.out)).trans HA4.out)
  have HT5 := Lib.hid (HT4.out.ext x5)
  have HP5 := Lib.hid (HP4.out.ext x5)
  have HS5 := Lib.hid (HK.out w5 HA5.out)
  clear x5 HT4 HA4 HS4 HP4
  refine ⟨HS5.out, ?_⟩
  refine wpAnyH_take (i := 9) (v := .string ((((⟨#[112, 32, 99, 110, 102, 32]⟩ : ByteArray) ++ ⟨(Lib.itoa vars).toArray⟩) ++ (⟨#[32]⟩ : ByteArray)) ++ (⟨(Lib.itoa cl.length).toArray⟩ : ByteArray))) rfl (by kernel_rfl) (by kernel_rfl) (by kernel_rfl) (fun _ _ _ h => h) (.inl ⟨rfl, fun w' hx' => by obtain ⟨h0, h1⟩ := hx'; go_simp⟩) HS5.out ?_
  refine wpAnyH_take (i := 10) (v := .string (((((⟨#[112, 32, 99, 110, 102, 32]⟩ : ByteArray) ++ ⟨(Lib.itoa vars).toArray⟩) ++ (⟨#[32]⟩ : ByteArray)) ++ (⟨(Lib.itoa cl.length).toArray⟩ : ByteArray)) ++ (⟨#[10]⟩ : ByteArray))) rfl (by kernel_rfl) (by kernel_rfl) (by kernel_rfl) (fun _ _ _ h => h) (.inl ⟨rfl, fun w' hx' => by obtain ⟨h0, h1⟩ := hx'; go_simp⟩) HS5.out ?_
  refine wpAnyH_all (rs := [11]) (by kernel_rfl) (by simp) ?_
  intro i hi
  obtain rfl : i = 11 := by simpa using hi
  clear hi
  unfold wpOp
  go_simp
  have hstr : (⟨#[112, 32, 99, 110, 102, 32]⟩ : ByteArray) ++ ⟨(Lib.itoa vars).toArray⟩ ++ ⟨#[32]⟩ ++ ⟨(Lib.itoa (cl.length : Int)).toArray⟩ ++ ⟨#[10]⟩ = ⟨(headText vars cl.length ++ [10]).toArray⟩ := by
    rw [show (⟨#[112, 32, 99, 110, 102, 32]⟩ : ByteArray) = ⟨([112, 32, 99, 110, 102, 32] : List UInt8).toArray⟩ from rfl, show (⟨#[32]⟩ : ByteArray) = ⟨([32] : List UInt8).toArray⟩ from rfl, show (⟨#[10]⟩ : ByteArray) = ⟨([10] : List UInt8).toArray⟩ from rfl, ba_append, ba_append, ba_append, ba_append]
    rfl
  rw [hstr]
  have HTX : Hid (textC vars cl = headText vars cl.length ++ [10] ++ clsText cl) := by unfold Hid textC; simp
  have hTL : (headText vars cl.length ++ [10]).length + (clsText cl).length ≤ 1000000 := by have := HB.out; rw [HTX.out, List.length_append] at this; exact this
  have HTL := Lib.hid hTL
  clear n1 n2 n3 n4 hl1 hl2 hstr
  generalize headText vars cl.length ++ [10] = H0 at *
  refine .inl ((write_strP w2 w2.heap.size w.heap.size _ [] H0 w5 HNE.out HT5.out HA5.out (by simp; omega)).mono ?_)
  rintro r w6 ⟨rfl, e6, k6⟩
  rw [List.nil_append] at e6
  have HE6 := Lib.hid e6; have HA6 := Lib.hid k6
  have HS6 := Lib.hid (HK.out w6 k6)
  clear e6 k6 HT5 HA5 HS5
  refine ⟨HS6.out, ?_⟩
  refine wpAnyH_done (by kernel_rfl) ?_ _
  unfold onlyNormal
  obtain ⟨p0, p1⟩ := HS6.out
  clear hTL
  go_wp2_with fail
  go_loopw [26] (fun i wr => ∃ k : Nat, k ≤ cl.length ∧ i = .int .i64 k ∧ TEnv w2 w2.heap.size (H0 ++ clsText (cl.take k)) wr ∧ Kept w.heap.size (.cells #[.int .i64 vars, .slice fa cl.length fc] 24 (0, 0)) wr) (fun i _ => cl.length - (intOf i).toNat)
  case atStart => exact ⟨0, Nat.zero_le _, rfl, by simpa [clsText] using HE6.out, HA6.out⟩
  case round =>
    obtain ⟨k, hk, rfl, hE, hK⟩ := hrel
    have HE := Lib.hid hE; have HKR := Lib.hid hK; clear hE hK p0 p1
    by_cases hlt : k < cl.length
    · rcases HL2.out with ⟨_, e⟩ | ⟨b, o, cap, e, _, hc⟩
      · rw [e] at hlt; simp at hlt
      cases e
      obtain ⟨v1, g1, i1⟩ := hc k hlt
      rw [Nat.mul_one] at g1
      replace g1 := HE.out.2.cell g1
      obtain ⟨a1, c1, rfl⟩ := i1.shape
      have hlit : ∀ x ∈ cl[k], InI x := (HT.out.lits _ (List.getElem_mem hlt)).2
      have HTT := Lib.hid (clsText_take hlt)
      have HTL2 : Hid (H0.length + (clsText (cl.take k)).length + (litText cl[k]).length + 2 ≤ 1000000) := by
        have h1 := clsText_le cl (k + 1); have h2 := HTL.out
        rw [clsText_take hlt] at h1
        simp only [List.length_append, List.length_cons, List.length_nil] at h1
        unfold Hid; omega
      have I1 := Lib.hid i1; have HLIT := Lib.hid hlit
      clear hc i1 hlit
      have lb1 := SliceAt.len_le I1.out
      generalize cl[k] = lits at *
      generalize clsText (cl.take k) = t0 at *
      go_upto_region 9 with fail
      clear g1
      go_loopw [32] (fun i wr => ∃ j : Nat, j ≤ lits.length ∧ i = .int .i64 j ∧ TEnv w2 w2.heap.size (H0 ++ t0 ++ litText (lits.take j)) wr ∧ Kept w.heap.size (.cells #[.int .i64 vars, .slice (some ⟨b, o, none⟩) cl.length fc] 24 (0, 0)) wr) (fun i _ => lits.length - (intOf i).toNat)
      case atStart => exact ⟨0, Nat.zero_le _, rfl, by simpa [litText] using HE.out, HKR.out⟩
      case round =>
        obtain ⟨j, hj, rfl, hE2, hK2⟩ := hrel
        have HE2 := Lib.hid hE2; have HK2 := Lib.hid hK2
        clear hE2 hK2
        by_cases hlj : j < lits.length
        · obtain ⟨bh, oh, rfl, ch⟩ := ints_at (I1.out.ext HE2.out.2) j hlj
          have hgd : lits.getD j 0 = lits[j] := by simp [List.getD, hlj]
          rw [hgd] at ch
          have hx := HLIT.out _ (List.getElem_mem hlj)
          have hxl := Lib.itoa_length_le lits[j] hx.1 (by have := hx.2; omega)
          have hle := litText_le lits (j + 1)
          rw [litText_take hlj] at hle
          simp only [List.length_append, List.length_cons, List.length_nil] at hle
          have HTK := Lib.hid (litText_take hlj)
          have HLE := Lib.hid hle; have HX := Lib.hid hx; have HXL := Lib.hid hxl
          clear hgd hle hx hxl
          generalize lits[j] = x at *
          generalize litText (lits.take j) = t1 at *
          go_wp2_with fail
          refine (Itoa_any x _ HX.out.1 (by have := HX.out.2; omega) ((HP.out.ext HX2.out).ext HE2.out.2)).mono ?_
          rintro r w7 ⟨rfl, x2⟩
          have HE3 := Lib.hid (HE2.out.ext x2)
          have HK3 : Hid (Kept w.heap.size _ w7) := (x2.block _ (lt_heap HK2.out)).trans HK2.out
          clear x2 ch
          go_wp2_with fail
          refine (write_strP w2 w2.heap.size w.heap.size _ (H0 ++ t0 ++ t1) (Lib.itoa x) _ HNE.out HE3.out HK3.out (by have h1 := HTL2.out; have h2 := HLE.out; rw [List.length_append, List.length_append]; omega)).mono ?_
          rintro r w8 ⟨rfl, e3, k3⟩
          have HE4 := Lib.hid e3; have HK4 := Lib.hid k3
          clear e3 k3
          go_wp2_with fail
          refine (write_byteP w2 w2.heap.size w.heap.size _ (H0 ++ t0 ++ t1 ++ Lib.itoa x) 32 32 rfl _ HNE.out HE4.out HK4.out (by have h1 := HTL2.out; have h2 := HLE.out; rw [List.length_append, List.length_append, List.length_append]; omega)).mono ?_
          rintro r w9 ⟨rfl, e4, k4⟩
          have HE5 := Lib.hid e4; have HK5 := Lib.hid k4
          clear e4 k4
          go_wp2_with fail
          refine ⟨⟨j + 1, by omega, by go_num, ?_, HK5.out⟩, by simp [intOf]; omega⟩
          rw [HTK.out]
          have := HE5.out
          simpa [List.append_assoc] using this
        · obtain rfl : j = lits.length := by omega
          rw [List.take_length] at HE2
          go_wp2_with fail
          refine (write_strP w2 w2.heap.size w.heap.size _ (H0 ++ t0 ++ litText lits) [48, 10] _ HNE.out HE2.out HK2.out (by have h1 := HTL2.out; rw [List.length_append, List.length_append]; simp; omega)).mono ?_
          rintro r w8 ⟨rfl, e3, k3⟩
          have HE3 := Lib.hid e3; have HK3 := Lib.hid k3
          clear e3 k3
          go_wp2_with fail
          refine ⟨⟨k + 1, by omega, by go_num, ?_, HK3.out⟩, by simp [intOf]; omega⟩
          rw [HTT.out]
          have := HE3.out
          simpa [List.append_assoc] using this
    · have hkl : k = cl.length := by omega
      subst hkl
      rw [List.take_length, ← HTX.out] at HE
      go_wp2_with fail
      refine (Tryd.Builder_String_any_k w2.heap.size w2.heap.size (textC vars cl) wr HE.out.1 HE.out.2.size).mono ?_
      rintro r w7 ⟨rfl, _, hb3, _⟩
      have HX3 := Lib.hid (Below.trans HE.out.2 hb3); clear hb3
      go_wp2_with fail
      go_ret
      exact ⟨rfl, HX2.out.trans HX3.out⟩
end Go.Proofs.YtnkhaobokmmnjaaDoor
