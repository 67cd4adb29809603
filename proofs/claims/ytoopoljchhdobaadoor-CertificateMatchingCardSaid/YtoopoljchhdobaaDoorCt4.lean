/-
  The walks of stateLine and of certificate.Text.
-/
import Derived.Test.YtoopoljchhdobaaDoorCt3
import Derived.Test.YtoopoljchhdobaaDoorPx3
import Derived.Test.YtoopoljchhdobaaDoorYc2
import Derived.StillTailTactics
namespace Go.Proofs.YtoopoljchhdobaaDoor
open Go.RowKit

theorem hint_take (l : List Int) {k : Nat} (h : k < l.length) : hintText (l.take (k + 1)) = hintText (l.take k) ++ 32 :: Lib.itoa l[k] := by
  unfold hintText
  rw [List.take_succ_eq_append_getElem h, List.flatMap_append]; simp
theorem hint_len : ∀ l : List Int, (∀ x ∈ l, InI x) → (hintText l).length ≤ 22 * l.length
  | [], _ => by simp [hintText]
  | x :: r, h => by
    have ih := hint_len r fun y hy => h y (List.mem_cons_of_mem _ hy)
    have hx := h x (List.mem_cons_self ..)
    have := Lib.itoa_length_le x hx.1 (by have := hx.2; omega)
    have e : hintText (x :: r) = (32 :: Lib.itoa x) ++ hintText r := rfl
    rw [e, List.length_append]; simp; omega

set_option maxHeartbeats 1000000 in
theorem stateLine_any (name : List UInt8) (l : List Int) (v : Value) (w : World) (hl : Ints w v l) (hI : ∀ x ∈ l, InI x) (hb : l.length ≤ 1000) (hn : name.length ≤ 1000) (hP : Pow10 w) :
    Calls Tryd.prog 24 #[.string ⟨name.toArray⟩, v] w fun e w' => e = .returned (.string ⟨(lineS name l).toArray⟩) ∧ Ext w w' := by
  obtain ⟨a, cap, rfl⟩ := hl.shape
  have HL := Lib.hid hl; have HI := Lib.hid hI; have HP := Lib.hid hP; clear hl hI hP
  go_enter Tryd.func24, Tryd.ntmps24
  go_wp2_with fail
  go_loopw [0, 9] (fun s i wr => ∃ k : Nat, k ≤ l.length ∧ i = .int .i64 k ∧ s = .string ⟨(name ++ hintText (l.take k)).toArray⟩ ∧ Ext w wr) (fun _ i _ => l.length - (intOf i).toNat)
  case atStart => exact ⟨0, Nat.zero_le _, rfl, by simp [hintText], Ext.refl _⟩
  case round =>
    obtain ⟨k, hk, rfl, rfl, hX⟩ := hrel
    have HX := Lib.hid hX; clear hX
    have hlen := hint_len (l.take k) fun x hx => HI.out x (List.mem_of_mem_take hx)
    rw [List.length_take] at hlen
    by_cases hlt : k < l.length
    · obtain ⟨b, o, rfl, g0⟩ := ints_cell (HL.out.ext HX.out) hlt
      have i0 : (0 : Int) ≤ (k : Int) := by omega
      have j1 : (k : Int) < (l.length : Int) := by omega
      have hx := HI.out _ (List.getElem_mem hlt)
      have HS := Lib.hid (hint_take l hlt)
      generalize l[k] = x at *
      have hi := Lib.itoa_length_le x hx.1 (by have := hx.2; omega)
      have HC : Hid (∀ w1, Ext w w1 → Calls Tryd.prog 23 #[.int .i64 x] w1 fun e w' => e = .returned (.string ⟨(Lib.itoa x).toArray⟩) ∧ Ext w1 w') := fun w1 he => Itoa_any x w1 hx.1 hx.2 (HP.out.ext he)
      generalize Lib.itoa x = t at *
      generalize hintText (l.take k) = p at *
      have f1 : ¬ (9223372036854775807 < 1 + t.length) := by omega
      have f2 : ¬ (9223372036854775807 < name.length + p.length + (1 + t.length)) := by omega
      go_wp2_with (go_at_call 23; refine (HC.out _ HX.out).mono ?_; rintro r w2 ⟨rfl, x2⟩; replace HX := Lib.hid (HX.out.trans x2); clear x2)
      have HE : Hid ((⟨(name ++ p).toArray⟩ ++ (⟨#[32]⟩ ++ ⟨t.toArray⟩) : ByteArray) = ⟨(name ++ (p ++ 32 :: t)).toArray⟩) := by
        unfold Hid; rw [show (⟨#[32]⟩ : ByteArray) = ⟨[32].toArray⟩ from rfl, ByteArray.mk_append_mk, ByteArray.mk_append_mk, List.append_assoc]; rfl
      rw [HE.out]
      exact ⟨⟨k + 1, by omega, by go_num, by rw [HS.out], HX.out⟩, by simp [intOf]; omega⟩
    · have e1 : l.take k = l := List.take_of_length_le (by omega)
      rw [e1] at hlen ⊢
      have f1 : ¬ (9223372036854775807 < name.length + (hintText l).length + 1) := by omega
      go_wp2_with fail
      go_ret
      have HE : Hid ((⟨(name ++ hintText l).toArray⟩ ++ ⟨#[10]⟩ : ByteArray) = ⟨(lineS name l).toArray⟩) := by
        unfold Hid lineS; rw [show (⟨#[10]⟩ : ByteArray) = ⟨[10].toArray⟩ from rfl, ByteArray.mk_append_mk]
      rw [HE.out]
      exact ⟨rfl, HX.out⟩

/-- The words of the verdicts, in memory. -/
def Words (w : World) : Prop := ∀ v, (v = 0 ∨ v = 1 ∨ v = 2) → w.cell? ⟨0, v, none⟩ = some (.string ⟨(wordC v).toArray⟩)
theorem Words.ext {w w' : World} (h : Words w) (he : Ext w w') : Words w' := fun v hv => he.cell (h v hv)

set_option maxHeartbeats 4000000 in
set_option maxRecDepth 100000 in
theorem CText_any (x : CertS) (vx : Value) (w : World) (hx : CertV w vx x) (hf : Few x) (ht : (textC x).length ≤ 1000000) (hP : Pow10 w) (hW : Words w) : Calls Tryd.prog 9 #[vx] w fun r w' => r = .returned (.string ⟨(textC x).toArray⟩) ∧ Ext w w' := by
  have HUA : Hid (∀ w', Ext w w' → Calls Tryd.prog 22 #[vx] w' fun r w2 => r = .returned (.bool (usableB x)) ∧ Ext w' w2) := fun w' he => usable_any x vx w' (hx.ext he) hf
  obtain ⟨pa, pc, oa, oc, na, nc, rfl, hx⟩ := hx
  have HIN := Lib.hid hx; have HF := Lib.hid hf; have HP := Lib.hid hP; have HWD := Lib.hid hW; have HTL := Lib.hid ht
  have hl1 := SliceAt.len_le hx.1
  clear hx hf hP hW ht
  obtain ⟨W, hW⟩ : ∃ W, W = w.alloc (.cells (certCells x pa pc oa oc na nc) 25) := ⟨_, rfl⟩
  have hX : Ext w W := by rw [hW]; exact (Ext.refl _).alloc _
  have hC : CertAt W w.heap.size x pa pc oa oc na nc := by rw [hW]; exact heap_new _ _
  obtain ⟨lc, hlc⟩ := underCert
  have HLC := Lib.hid hlc
  have HG : Hid (W.heap[w.heap.size]? = some (.cells (certCells x pa pc oa oc na nc) 25 (0, 0))) := hC
  have HSZ : Hid ((Tryd.prog.info? 25).map (·.size) = some (certCells x pa pc oa oc na nc).size) := sizeCert
  have HC := Lib.hid hC; have HX := Lib.hid hX; have HWE := Lib.hid hW
  clear hC hX hW hlc
  go_enter Tryd.func9, Tryd.ntmps9
  go_upto_region 1 with fail
  have HW2 : Hid (w.alloc (.cells (certCells x pa pc oa oc na nc) 25) = W) := HWE.out.symm
  rw [HW2.out]
  clear HWE HW2
  generalize w.heap.size = b at *
  cases hu : usableB x with
  | false =>
    have HT0 : Hid (textC x = []) := by unfold Hid textC; rw [if_neg (by rw [hu]; decide)]
    rw [hu] at HUA
    go_wp2_with (first
      | (with_reducible refine wpList_load_row rfl 25 (.tmp 1) rfl b rfl 25 (certCells x pa pc oa oc na nc) (0, 0) (.struct lc) HG.out HLC.out rfl HSZ.out ?_)
      | (go_at_call 22; refine (HUA.out _ HX.out).mono ?_; rintro r w1 ⟨rfl, x1⟩))
    go_ret
    rw [HT0.out]; exact ⟨rfl, HX.out.trans x1⟩
  | true =>
  rw [hu] at HUA
  obtain ⟨u1, u2, u3⟩ := usable_parts hu
  have hid : x.id.length ≤ 64 := by unfold idB at u1; simp only [Bool.and_eq_true, decide_eq_true_eq] at u1; exact u1.1.2
  have hdg : x.dig.length = 16 := by unfold digB at u2; simp only [Bool.and_eq_true, decide_eq_true_eq] at u2; exact u2.1
  have HT0 : Hid (textC x = textU x) := by unfold Hid textC; rw [if_pos hu]
  have HRC := Lib.hid (rest_cases u3)
  go_upto_region 3 with (first
      | (with_reducible refine wpList_load_row rfl 25 (.tmp 1) rfl b rfl 25 (certCells x pa pc oa oc na nc) (0, 0) (.struct lc) HG.out HLC.out rfl HSZ.out ?_)
      | (go_at_call 22; refine (HUA.out _ HX.out).mono ?_; rintro r w1 ⟨rfl, x1⟩))
  clear hu u1 u2 u3 HLC HG HSZ HUA
  replace HC := Lib.hid (HC.out.ext x1); replace HX := Lib.hid (HX.out.trans x1)
  clear x1
  replace HIN := Lib.hid (HIN.out.ext HX.out); replace HP := Lib.hid (HP.out.ext HX.out); replace HWD := Lib.hid (HWD.out.ext HX.out)
  obtain ⟨q0, q1, q2, q3, q4, q5⟩ := HC.out.cells
  have f1 : ¬ (9223372036854775807 < 5 + x.id.length) := by omega
  have f2 : ¬ (9223372036854775807 < 5 + x.id.length + 1) := by omega
  have f3 : ¬ (9223372036854775807 < 5 + x.id.length + 1 + x.dig.length) := by omega
  have f4 : ¬ (9223372036854775807 < 5 + x.id.length + 1 + x.dig.length + 1) := by omega
  have HDG := Lib.hid hdg; clear hdg
  obtain ⟨n, hn, hn3, hnw⟩ : ∃ n : Nat, x.ver = (n : Int) ∧ n < 3 ∧ (n = 0 ∨ n = 1 ∨ n = 2) := by
    rcases HRC.out with ⟨hv, _⟩ | ⟨hv, _⟩ | ⟨hv, _⟩
    · exact ⟨0, hv, by omega, by omega⟩
    · exact ⟨1, hv, by omega, by omega⟩
    · exact ⟨2, hv, by omega, by omega⟩
  have g0 := HWD.out n hnw
  rw [hn] at q2
  have HWL : Hid ((wordC (n : Int)).length ≤ 6) := by unfold Hid; rcases hnw with rfl | rfl | rfl <;> decide
  obtain ⟨wv, hwv⟩ : ∃ wv, wv = wordC (n : Int) := ⟨_, rfl⟩
  rw [← hwv] at g0 HWL
  have i0 : (0 : Int) ≤ (n : Int) := by omega
  have i3 : (n : Int) < 3 := by omega
  have f5 : ¬ (9223372036854775807 < 5 + x.id.length + 1 + x.dig.length + 1 + wv.length) := by have := HDG.out; have := HWL.out; omega
  have HN := Lib.hid hn; have HWV := Lib.hid hwv
  clear hn hwv hnw
  go_quiet (fail)
  have HHE : Hid ((⟨#[99, 101, 114, 116, 32]⟩ ++ ⟨x.id.toArray⟩ ++ ⟨#[32]⟩ ++ ⟨x.dig.toArray⟩ ++ ⟨#[32]⟩ ++ ⟨wv.toArray⟩ : ByteArray) = ⟨(headC x).toArray⟩) := by
    unfold Hid headC
    rw [HN.out, ← HWV.out, show (⟨#[99, 101, 114, 116, 32]⟩ : ByteArray) = ⟨(certW ++ [32]).toArray⟩ from rfl, show (⟨#[32]⟩ : ByteArray) = ⟨[32].toArray⟩ from rfl]
    simp only [ByteArray.mk_append_mk]
  rw [HHE.out]
  have hhl : (headC x).length ≤ 94 := by
    have := HDG.out; have := HWL.out
    unfold headC; rw [HN.out, ← HWV.out]; simp [certW]; omega
  have HTU : Hid (textU x = headC x ++ (if x.ver = 1 then [32] ++ Lib.itoa x.prf.length else []) ++ 10 :: tailC x) := rfl
  have HTL2 : Hid ((tailC x).length ≤ 1000000) := by
    have h := HTL.out
    rw [HT0.out, HTU.out, List.length_append, List.length_cons] at h
    unfold Hid; omega
  have xd : Ext w1 (w1.drewN nq) := (Ext.refl _).drewN nq
  replace HC := Lib.hid (HC.out.ext xd); replace HX := Lib.hid (HX.out.trans xd); replace HIN := Lib.hid (HIN.out.ext xd); replace HP := Lib.hid (HP.out.ext xd)
  clear xd f1 f2 f3 f4 f5 g0 q0 q1 q2 q3 q4 q5 i0 i3 hid HHE HWV HWL HDG HTL HWD
  generalize w1.drewN nq = w2 at *
  obtain ⟨q0, q1, q2, q3, q4, q5⟩ := HC.out.cells
  generalize hh : headC x = hd at *
  have HH := Lib.hid hh; clear hh
  rcases HRC.out with ⟨hv, hp, ho, hn⟩ | ⟨hv, hp, ho, hn⟩ | ⟨hv, hp, ho, hn1, hn2⟩
  · obtain rfl : n = 0 := by have := HN.out; omega
    have HTT : Hid (textC x = hd ++ [10]) := by
      unfold Hid; rw [HT0.out, HTU.out, if_neg (by rw [hv]; decide)]
      unfold tailC; rw [if_neg (by rw [hv]; decide), if_neg (by rw [hv]; decide)]; simp
    rw [hv] at q2
    clear hv hp ho hn
    have f1 : ¬ (9223372036854775807 < hd.length + 1) := by omega
    go_wp2_with fail
    go_ret
    rw [HTT.out, show (⟨#[10]⟩ : ByteArray) = ⟨[10].toArray⟩ from rfl, ByteArray.mk_append_mk]
    exact ⟨rfl, HX.out⟩
  · obtain rfl : n = 1 := by have := HN.out; omega
    have HTT : Hid (textC x = hd ++ [32] ++ Lib.itoa x.prf.length ++ [10] ++ textL x.prf) := by
      unfold Hid; rw [HT0.out, HTU.out, if_pos hv]
      unfold tailC; rw [if_pos hv]; simp
    have HTL3 : Hid ((textL x.prf).length ≤ 1000000) := by
      have h := HTL2.out
      unfold tailC at h; rw [if_pos hv] at h; exact h
    rw [hv] at q2
    obtain ⟨r1, _, r3⟩ := prf_ranged hp
    have HR1 := Lib.hid r1
    have ht3 := HTL3.out
    have hil := Lib.itoa_length_le (x.prf.length : Int) (by omega) (by omega)
    have HI : Hid (∀ w', Ext w2 w' → Calls Tryd.prog 23 #[.int .i64 x.prf.length] w' fun e w3 => e = .returned (.string ⟨(Lib.itoa x.prf.length).toArray⟩) ∧ Ext w' w3) := fun w' he => Itoa_any _ w' (by omega) (by omega) (HP.out.ext he)
    have HTX : Hid (∀ w', Ext w2 w' → Calls Tryd.prog 15 #[.slice pa x.prf.length pc] w' fun e w3 => e = .returned (.string ⟨(textL x.prf).toArray⟩) ∧ Ext w' w3) := fun w' he => PText_any x.prf _ w' (HIN.out.1.ext he) HR1.out HTL3.out (HP.out.ext he)
    generalize Lib.itoa x.prf.length = t at *
    generalize textL x.prf = u at *
    clear hv hp ho hn r1 r3
    have f1 : ¬ (9223372036854775807 < hd.length + 1) := by omega
    have f2 : ¬ (9223372036854775807 < hd.length + 1 + t.length) := by omega
    have f3 : ¬ (9223372036854775807 < hd.length + 1 + t.length + 1) := by omega
    have f4 : ¬ (9223372036854775807 < hd.length + 1 + t.length + 1 + u.length) := by omega
    go_upto_region 6 with fail
    have HX0 := Lib.hid ((Ext.refl w2).drew)
    go_region_held3 (fun w' => w'.cell? ⟨b, 3, none⟩ = some (.slice pa x.prf.length pc))
      (first | exact q3 | (with_reducible exact hk2) | (with_reducible exact hk1) | fail)
      ((first
        | (have hgo := HX1.out; clear hgo; go_at_call 15; refine (HTX.out _ HX1.out).mono ?_; rintro r w2 ⟨rfl, x2⟩; have HX2 := Lib.hid (HX1.out.trans x2); have hk2 := (HC.out.ext HX2.out).cells.2.2.2.1; clear x2)
        | (go_at_call 23; refine (HI.out _ HX0.out).mono ?_; rintro r w1 ⟨rfl, x1⟩; have HX1 := Lib.hid (HX0.out.trans x1); have hk1 := (HC.out.ext HX1.out).cells.2.2.2.1; clear x1)))
    have HXE := Lib.hid (HX.out.trans HX2.out)
    go_wp2_with fail
    go_ret
    rw [HTT.out, show (⟨#[10]⟩ : ByteArray) = ⟨[10].toArray⟩ from rfl, show (⟨#[32]⟩ : ByteArray) = ⟨[32].toArray⟩ from rfl]
    simp only [ByteArray.mk_append_mk]
    exact ⟨rfl, HXE.out⟩
  · obtain rfl : n = 2 := by have := HN.out; omega
    have HTT : Hid (textC x = hd ++ [10] ++ lineS oldW x.old ++ lineS nowW x.now) := by
      unfold Hid; rw [HT0.out, HTU.out, if_neg (by rw [hv]; decide)]
      unfold tailC; rw [if_neg (by rw [hv]; decide), if_pos hv]; simp
    have HTL3 : Hid ((lineS oldW x.old).length ≤ 1000000 ∧ (lineS nowW x.now).length ≤ 1000000) := by
      have h := HTL2.out
      unfold tailC at h; rw [if_neg (by rw [hv]; decide), if_pos hv, List.length_append] at h
      exact ⟨by omega, by omega⟩
    rw [hv] at q2
    obtain ⟨ht1, ht2⟩ := HTL3.out
    unfold stB at hn1 hn2
    rw [Bool.and_eq_true, decide_eq_true_eq] at hn1 hn2
    have HS1 : Hid (∀ w', Ext w2 w' → Calls Tryd.prog 24 #[.string ⟨#[111, 108, 100]⟩, .slice oa x.old.length oc] w' fun e w3 => e = .returned (.string ⟨(lineS oldW x.old).toArray⟩) ∧ Ext w' w3) := fun w' he => stateLine_any oldW x.old _ w' (HIN.out.2.1.ext he) (fun y hy => within_i64 hn1.1 (by decide) (by decide) y hy) (by omega) (by decide) (HP.out.ext he)
    have HS2 : Hid (∀ w', Ext w2 w' → Calls Tryd.prog 24 #[.string ⟨#[110, 111, 119]⟩, .slice na x.now.length nc] w' fun e w3 => e = .returned (.string ⟨(lineS nowW x.now).toArray⟩) ∧ Ext w' w3) := fun w' he => stateLine_any nowW x.now _ w' (HIN.out.2.2.ext he) (fun y hy => within_i64 hn2.1 (by decide) (by decide) y hy) (by omega) (by decide) (HP.out.ext he)
    generalize lineS oldW x.old = t at *
    generalize lineS nowW x.now = u at *
    clear hv hp ho hn1 hn2
    have f1 : ¬ (9223372036854775807 < hd.length + 1) := by omega
    have f2 : ¬ (9223372036854775807 < hd.length + 1 + t.length) := by omega
    have f4 : ¬ (9223372036854775807 < hd.length + 1 + t.length + u.length) := by omega
    go_upto_region 8 with fail
    have HX0 := Lib.hid ((Ext.refl w2).drew)
    go_region_held3 (fun w' => w'.cell? ⟨b, 4, none⟩ = some (.slice oa x.old.length oc) ∧ w'.cell? ⟨b, 5, none⟩ = some (.slice na x.now.length nc))
      (first | exact ⟨q4, q5⟩ | (with_reducible exact hk2) | (with_reducible exact hk1) | fail)
      ((first
        | (have hgo := HX1.out; clear hgo; go_at_call 24; refine (HS2.out _ HX1.out).mono ?_; rintro r w2 ⟨rfl, x2⟩; have HX2 := Lib.hid (HX1.out.trans x2); have hk2 := (HC.out.ext HX2.out).cells.2.2.2.2; clear x2)
        | (go_at_call 24; refine (HS1.out _ HX0.out).mono ?_; rintro r w1 ⟨rfl, x1⟩; have HX1 := Lib.hid (HX0.out.trans x1); have hk1 := (HC.out.ext HX1.out).cells.2.2.2.2; clear x1)))
    have HXE := Lib.hid (HX.out.trans HX2.out)
    go_wp2_with fail
    go_ret
    rw [HTT.out, show (⟨#[10]⟩ : ByteArray) = ⟨[10].toArray⟩ from rfl]
    simp only [ByteArray.mk_append_mk]
    exact ⟨rfl, HXE.out⟩
end Go.Proofs.YtoopoljchhdobaaDoor
