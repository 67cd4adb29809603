/-
  The walk of proof.Text.
-/
import Derived.Test.YtoopoljchhdobaaDoorPx2
import Derived.Test.YtoopoljchhdobaaDoorPtA
import Derived.Test.YtoopoljchhdobaaDoorPq1
namespace Go.Proofs.YtoopoljchhdobaaDoor
open Go.RowKit

theorem textL_take {l : List St} {k : Nat} (h : k < l.length) : textL (l.take (k + 1)) = textL (l.take k) ++ stepText l[k] ++ [10] := by
  rw [List.take_succ_eq_append_getElem h, textL_snoc]
theorem textL_le (l : List St) (k : Nat) : (textL (l.take k)).length ≤ (textL l).length := by
  have : textL l = textL (l.take k) ++ textL (l.drop k) := by
    unfold textL; rw [← List.flatMap_append, List.take_append_drop]
  rw [this, List.length_append]; omega
theorem litText_le (l : List Int) (k : Nat) : (litText (l.take k)).length ≤ (litText l).length := by
  have : litText l = litText (l.take k) ++ litText (l.drop k) := by
    unfold litText; rw [← List.flatMap_append, List.take_append_drop]
  rw [this, List.length_append]; omega
theorem hintText_le (l : List Int) (k : Nat) : (hintText (l.take k)).length ≤ (hintText l).length := by
  have : hintText l = hintText (l.take k) ++ hintText (l.drop k) := by
    unfold hintText; rw [← List.flatMap_append, List.take_append_drop]
  rw [this, List.length_append]; omega
theorem litText_take {l : List Int} {k : Nat} (h : k < l.length) : litText (l.take (k + 1)) = litText (l.take k) ++ Lib.itoa l[k] ++ [32] := by
  rw [List.take_succ_eq_append_getElem h, litText_snoc]
theorem hintText_take {l : List Int} {k : Nat} (h : k < l.length) : hintText (l.take (k + 1)) = hintText (l.take k) ++ [32] ++ Lib.itoa l[k] := by
  rw [List.take_succ_eq_append_getElem h, hintText_snoc]
set_option maxRecDepth 100000 in
set_option maxHeartbeats 4000000 in
theorem PText_any (l : List St) (v : Value) (w : World) (hl : Steps w v l) (hn : ∀ s ∈ l, (∀ x ∈ s.lits, InI x) ∧ ∀ x ∈ s.hints, InI x) (hb : (textL l).length ≤ 1000000) (hP : Pow10 w) :
    Calls Tryd.prog 15 #[v] w fun r w' => r = .returned (.string ⟨(textL l).toArray⟩) ∧ Ext w w' := by
  obtain ⟨la, lc, rfl⟩ := SliceAt.shape hl
  have hlen := SliceAt.len_le hl
  have hT0 : TEnv w w.heap.size (textL (l.take 0)) (w.alloc (.cells #[.pointer none, .slice none 0 0] 72)) := ⟨Lib.IsBuilderF.of (Lib.fresh_isBuilder _ _ w), (Ext.refl w).alloc _⟩
  have HT0 := Lib.hid hT0; have HL := Lib.hid hl; have HN := Lib.hid hn; have HB := Lib.hid hb; have HP := Lib.hid hP
  clear hT0 hl hn hb hP
  go_enter Tryd.func15, Tryd.ntmps15
  go_wp2_with fail
  go_loopw [12] (fun i wr => ∃ k : Nat, k ≤ l.length ∧ i = .int .i64 k ∧ TEnv w w.heap.size (textL (l.take k)) wr) (fun i _ => l.length - (intOf i).toNat)
  case atStart => exact ⟨0, Nat.zero_le _, rfl, HT0.out⟩
  case round =>
    obtain ⟨k, hk, rfl, hE⟩ := hrel
    have HE := Lib.hid hE; clear hE
    by_cases hlt : k < l.length
    · obtain ⟨b, o, a1, c1, a2, c2, hla, g0, g1, i1, i2⟩ := HL.out.at hlt
      subst hla
      replace g0 := HE.out.2.cell g0; replace g1 := HE.out.2.cell g1
      have hmem : l[k] ∈ l := List.getElem_mem hlt
      obtain ⟨hl1, hl2⟩ := HN.out _ hmem
      have HTT := Lib.hid (textL_take hlt)
      have HTL : Hid ((textL (l.take k)).length + (litText l[k].lits).length + (hintText l[k].hints).length + 2 ≤ 1000000) := by
        have h1 := textL_le l (k + 1); have h2 := HB.out
        rw [textL_take hlt] at h1
        unfold stepText at h1
        simp only [List.length_append, List.length_cons, List.length_nil] at h1
        unfold Hid; omega
      have I1 := Lib.hid i1; have I2 := Lib.hid i2; have HL1 := Lib.hid hl1; have HL2 := Lib.hid hl2
      have HST : Hid (stepText l[k] = litText l[k].lits ++ [58] ++ hintText l[k].hints) := by unfold Hid stepText; simp
      clear hmem i1 i2 hl1 hl2
      have lb1 := SliceAt.len_le I1.out; have lb2 := SliceAt.len_le I2.out
      generalize stepText l[k] = tx at *
      generalize l[k].lits = lits at *
      generalize l[k].hints = hints at *
      generalize textL (l.take k) = t0 at *
      have hx1 : Ext wr (wr.alloc (.cells #[.slice a1 lits.length c1, .slice a2 hints.length c2] 54)) := (Ext.refl _).alloc _
      have hK0 : Kept wr.heap.size (.cells #[.slice a1 lits.length c1, .slice a2 hints.length c2] 54 (0, 0)) (wr.alloc (.cells #[.slice a1 lits.length c1, .slice a2 hints.length c2] 54)) := heap_new _ _
      have hV : wr.heap.size ≠ w.heap.size := by
        have h1 : w.heap.size < wr.heap.size := by
          rcases HE.out.1 with h | h <;> exact h.lt
        omega
      have HE1 := Lib.hid (HE.out.ext hx1); have HK0 := Lib.hid hK0; have HV := Lib.hid hV
      obtain ⟨W1, hW1⟩ : ∃ W1, W1 = wr.alloc (.cells #[.slice a1 lits.length c1, .slice a2 hints.length c2] 54) := ⟨_, rfl⟩
      have HW1 := Lib.hid hW1
      clear hx1 hK0 hV hW1
      go_upto_region 5 with fail
      rw [← HW1.out] at HE1 HK0 ⊢
      clear HW1 g0 g1 HE
      generalize wr.heap.size = V at *
      have q0 : W1.cell? ⟨V, 0, none⟩ = some (.slice a1 lits.length c1) := by rw [Lib.cell_of_heap HK0.out]; rfl
      go_wp2_with fail
      go_loopw [19] (fun i wr => ∃ j : Nat, j ≤ lits.length ∧ i = .int .i64 j ∧ TEnv w w.heap.size (t0 ++ litText (lits.take j)) wr ∧ Kept V (.cells #[.slice a1 lits.length c1, .slice a2 hints.length c2] 54 (0, 0)) wr) (fun i _ => lits.length - (intOf i).toNat)
      case atStart => exact ⟨0, Nat.zero_le _, rfl, by simpa [litText] using HE1.out, HK0.out⟩
      case round =>
        obtain ⟨j, hj, rfl, hE2, hK2⟩ := hrel
        have HE2 := Lib.hid hE2; have HK2 := Lib.hid hK2
        clear hE2 hK2 q0
        by_cases hlj : j < lits.length
        · obtain ⟨bh, oh, rfl, ch⟩ := ints_at (I1.out.ext HE2.out.2) j hlj
          have hgd : lits.getD j 0 = lits[j] := by simp [List.getD, hlj]
          rw [hgd] at ch
          have hx := HL1.out _ (List.getElem_mem hlj)
          have hxl := Lib.itoa_length_le lits[j] hx.1 (by have := hx.2; omega)
          have hle := litText_le lits (j + 1)
          rw [litText_take hlj] at hle
          simp only [List.length_append, List.length_cons, List.length_nil] at hle
          have HTK := Lib.hid (litText_take hlj)
          have HLE := Lib.hid hle; have HX := Lib.hid hx; have HXL := Lib.hid hxl
          clear hgd hle hx hxl
          generalize lits[j] = x at *
          generalize litText (lits.take j) = t1 at *
          go_wp2_with fail
          refine (Itoa_any x _ HX.out.1 (by have := HX.out.2; omega) (HP.out.ext HE2.out.2)).mono ?_
          rintro r w2 ⟨rfl, x2⟩
          have HE3 := Lib.hid (HE2.out.ext x2)
          have HK3 : Hid (Kept V _ w2) := (x2.block _ (lt_heap HK2.out)).trans HK2.out
          clear x2 ch
          go_wp2_with fail
          refine (write_strP w w.heap.size V _ (t0 ++ t1) (Lib.itoa x) _ HV.out HE3.out HK3.out (by have h1 := HTL.out; have h2 := HLE.out; rw [List.length_append]; omega)).mono ?_
          rintro r w3 ⟨rfl, e3, k3⟩
          have HE4 := Lib.hid e3; have HK4 := Lib.hid k3
          clear e3 k3
          go_wp2_with fail
          refine (write_byteP w w.heap.size V _ (t0 ++ t1 ++ Lib.itoa x) 32 32 rfl _ HV.out HE4.out HK4.out (by have h1 := HTL.out; have h2 := HLE.out; rw [List.length_append, List.length_append]; omega)).mono ?_
          rintro r w4 ⟨rfl, e4, k4⟩
          have HE5 := Lib.hid e4; have HK5 := Lib.hid k4
          clear e4 k4
          go_wp2_with fail
          refine ⟨⟨j + 1, by omega, by go_num, ?_, HK5.out⟩, by simp [intOf]; omega⟩
          rw [HTK.out]
          have := HE5.out
          simpa [List.append_assoc] using this
        · obtain rfl : j = lits.length := by omega
          rw [List.take_length] at HE2
          go_wp2_with fail
          refine (write_byteP w w.heap.size V _ (t0 ++ litText lits) 58 58 rfl _ HV.out HE2.out HK2.out (by have h1 := HTL.out; rw [List.length_append]; omega)).mono ?_
          rintro r w3 ⟨rfl, e3, k3⟩
          have HE3 := Lib.hid e3; have HK3 := Lib.hid k3
          clear e3 k3
          have q1 : w3.cell? ⟨V, 1, none⟩ = some (.slice a2 hints.length c2) := by rw [Lib.cell_of_heap HK3.out]; rfl
          go_wp2_with fail
          go_loopw [32] (fun i wr => ∃ j : Nat, j ≤ hints.length ∧ i = .int .i64 j ∧ TEnv w w.heap.size (t0 ++ litText lits ++ [58] ++ hintText (hints.take j)) wr ∧ Kept V (.cells #[.slice a1 lits.length c1, .slice a2 hints.length c2] 54 (0, 0)) wr) (fun i _ => hints.length - (intOf i).toNat)
          case atStart => exact ⟨0, Nat.zero_le _, rfl, by simpa [hintText] using HE3.out, HK3.out⟩
          case round =>
            obtain ⟨j, hj, rfl, hE2, hK2⟩ := hrel
            have HE4 := Lib.hid hE2; have HK4 := Lib.hid hK2
            clear hE2 hK2 q1
            by_cases hlj : j < hints.length
            · obtain ⟨bh, oh, rfl, ch⟩ := ints_at (I2.out.ext HE4.out.2) j hlj
              have hgd : hints.getD j 0 = hints[j] := by simp [List.getD, hlj]
              rw [hgd] at ch
              have hx := HL2.out _ (List.getElem_mem hlj)
              have hxl := Lib.itoa_length_le hints[j] hx.1 (by have := hx.2; omega)
              have hle := hintText_le hints (j + 1)
              rw [hintText_take hlj] at hle
              simp only [List.length_append, List.length_cons, List.length_nil] at hle
              have HTK := Lib.hid (hintText_take hlj)
              have HLE := Lib.hid hle; have HX := Lib.hid hx; have HXL := Lib.hid hxl
              clear hgd hle hx hxl
              generalize hints[j] = x at *
              generalize hintText (hints.take j) = t1 at *
              go_wp2_with fail
              refine (write_byteP w w.heap.size V _ (t0 ++ litText lits ++ [58] ++ t1) 32 32 rfl _ HV.out HE4.out HK4.out (by have h1 := HTL.out; have h2 := HLE.out; simp only [List.length_append, List.length_cons, List.length_nil]; omega)).mono ?_
              rintro r w4 ⟨rfl, e4, k4⟩
              have HE5 := Lib.hid e4; have HK5 := Lib.hid k4
              clear e4 k4 ch
              go_wp2_with fail
              refine (Itoa_any x _ HX.out.1 (by have := HX.out.2; omega) (HP.out.ext HE5.out.2)).mono ?_
              rintro r w5 ⟨rfl, x5⟩
              have HE6 := Lib.hid (HE5.out.ext x5)
              have HK6 : Hid (Kept V _ w5) := (x5.block _ (lt_heap HK5.out)).trans HK5.out
              clear x5
              go_wp2_with fail
              refine (write_strP w w.heap.size V _ (t0 ++ litText lits ++ [58] ++ t1 ++ [32]) (Lib.itoa x) _ HV.out HE6.out HK6.out (by have h1 := HTL.out; have h2 := HLE.out; simp only [List.length_append, List.length_cons, List.length_nil]; omega)).mono ?_
              rintro r w6 ⟨rfl, e6, k6⟩
              have HE7 := Lib.hid e6; have HK7 := Lib.hid k6
              clear e6 k6
              go_wp2_with fail
              refine ⟨⟨j + 1, by omega, by go_num, ?_, HK7.out⟩, by simp [intOf]; omega⟩
              rw [HTK.out]
              have := HE7.out
              simpa [List.append_assoc] using this
            · obtain rfl : j = hints.length := by omega
              rw [List.take_length] at HE4
              go_wp2_with fail
              refine (write_byteP w w.heap.size V _ (t0 ++ litText lits ++ [58] ++ hintText hints) 10 10 rfl _ HV.out HE4.out HK4.out (by have h1 := HTL.out; simp only [List.length_append, List.length_cons, List.length_nil]; omega)).mono ?_
              rintro r w4 ⟨rfl, e4, k4⟩
              have HE5 := Lib.hid e4
              clear e4 k4
              go_wp2_with fail
              refine ⟨⟨k + 1, by omega, by go_num, ?_⟩, by simp [intOf]; omega⟩
              rw [HTT.out, HST.out]
              have := HE5.out
              simpa [List.append_assoc] using this
    · have hkl : k = l.length := by omega
      subst hkl
      rw [List.take_length] at HE
      go_wp2_with fail
      refine (Tryd.Builder_String_any_k w.heap.size w.heap.size (textL l) wr HE.out.1 HE.out.2.size).mono ?_
      rintro r w3 ⟨rfl, _, hb3, _⟩
      have HX3 := Lib.hid (Below.trans HE.out.2 hb3); clear hb3
      go_wp2_with fail
      go_ret
      exact ⟨rfl, HX3.out⟩
end Go.Proofs.YtoopoljchhdobaaDoor
