/-
  The walks of stateLine and of certificate.Text.
  Strings in memory; stores into one block; the walk of readHead.
  A range over a function that keeps its place in a box of its own: the law of the statement.
  The iterator pieces.
-/
import Derived.Test.YtoopoljchhdobaaGreatDoorMMi
import Derived.Test.YtoopoljchhdobaaGreatDoorMMj
import Derived.StillTailTactics
import Derived.Deep.RegionHeld3
import Derived.RangeFuncNested
import Derived.RangeFuncBound
import Derived.RangeFuncCalls
import Derived.RangeFuncLeaves
import Derived.Shelf.Abstract
import Derived.Shelf.RegionOpen
import Derived.OwnWalkIn
import Derived.TacticsInMore
import Derived.LoopNIn
import Derived.LoopIn
import Derived.BigQuiet
import Derived.Test.YtoopoljchhdobaaGreatDoorProg
import Derived.Test.YtoopoljchhdobaaGreatDoorMMa
import Derived.Test.YtoopoljchhdobaaGreatDoorMMb
import Derived.Test.YtoopoljchhdobaaGreatDoorShelf
namespace Go.Proofs.YtoopoljchhdobaaGreatDoor
open Go.RowKit

theorem hint_take (l : List Int) {k : Nat} (h : k < l.length) : hintText (l.take (k + 1)) = hintText (l.take k) ++ 32 :: Lib.itoa l[k] := by
  unfold hintText
  rw [List.take_succ_eq_append_getElem h, List.flatMap_append]; simp
theorem hint_len : ∀ l : List Int, (∀ x ∈ l, InI x) → (hintText l).length ≤ 22 * l.length
  | [], _ => by simp [hintText]
  | x :: r, h => by
    have ih := hint_len r fun y hy => h y (List.mem_cons_of_mem _ hy)
    have hx := h x (List.mem_cons_self ..)
    have := Lib.itoa_length_le x hx.1 (by have := hx.2; omega)
    have e : hintText (x :: r) = (32 :: Lib.itoa x) ++ hintText r := rfl
    rw [e, List.length_append]; simp; omega

set_option maxHeartbeats 1000000 in
theorem stateLine_any (name : List UInt8) (l : List Int) (v : Value) (w : World) (hl : Ints w v l) (hI : ∀ x ∈ l, InI x) (hb : l.length ≤ 1000) (hn : name.length ≤ 1000) (hP : Pow10 w) :
    Calls Tryz.prog 35 #[.string ⟨name.toArray⟩, v] w fun e w' => e = .returned (.string ⟨(lineS name l).toArray⟩) ∧ Ext w w' := by
  obtain ⟨a, cap, rfl⟩ := hl.shape
  have HL := Lib.hid hl; have HI := Lib.hid hI; have HP := Lib.hid hP; clear hl hI hP
  go_enter Tryz.func35, Tryz.ntmps35
  go_wp2_with fail
  go_loopw [0, 9] (fun s i wr => ∃ k : Nat, k ≤ l.length ∧ i = .int .i64 k ∧ s = .string ⟨(name ++ hintText (l.take k)).toArray⟩ ∧ Ext w wr) (fun _ i _ => l.length - (intOf i).toNat)
  case atStart => exact ⟨0, Nat.zero_le _, rfl, by simp [hintText], Ext.refl _⟩
  case round =>
    obtain ⟨k, hk, rfl, rfl, hX⟩ := hrel
    have HX := Lib.hid hX; clear hX
    have hlen := hint_len (l.take k) fun x hx => HI.out x (List.mem_of_mem_take hx)
    rw [List.length_take] at hlen
    by_cases hlt : k < l.length
    · obtain ⟨b, o, rfl, g0⟩ := ints_cell (HL.out.ext HX.out) hlt
      have i0 : (0 : Int) ≤ (k : Int) := by omega
      have j1 : (k : Int) < (l.length : Int) := by omega
      have hx := HI.out _ (List.getElem_mem hlt)
      have HS := Lib.hid (hint_take l hlt)
      generalize l[k] = x at *
      have hi := Lib.itoa_length_le x hx.1 (by have := hx.2; omega)
      have HC : Hid (∀ w1, Ext w w1 → Calls Tryz.prog 29 #[.int .i64 x] w1 fun e w' => e = .returned (.string ⟨(Lib.itoa x).toArray⟩) ∧ Ext w1 w') := fun w1 he => Itoa_any x w1 hx.1 hx.2 (HP.out.ext he)
      generalize Lib.itoa x = t at *
      generalize hintText (l.take k) = p at *
      have f1 : ¬ (9223372036854775807 < 1 + t.length) := by omega
      have f2 : ¬ (9223372036854775807 < name.length + p.length + (1 + t.length)) := by omega
      go_wp2_with (go_at_call 29; refine (HC.out _ HX.out).mono ?_; rintro r w2 ⟨rfl, x2⟩; replace HX := Lib.hid (HX.out.trans x2); clear x2)
      have HE : Hid ((⟨(name ++ p).toArray⟩ ++ (⟨#[32]⟩ ++ ⟨t.toArray⟩) : ByteArray) = ⟨(name ++ (p ++ 32 :: t)).toArray⟩) := by
        unfold Hid; rw [show (⟨#[32]⟩ : ByteArray) = ⟨[32].toArray⟩ from rfl, ByteArray.mk_append_mk, ByteArray.mk_append_mk, List.append_assoc]; rfl
      rw [HE.out]
      exact ⟨⟨k + 1, by omega, by go_num, by rw [HS.out], HX.out⟩, by simp [intOf]; omega⟩
    · have e1 : l.take k = l := List.take_of_length_le (by omega)
      rw [e1] at hlen ⊢
      have f1 : ¬ (9223372036854775807 < name.length + (hintText l).length + 1) := by omega
      go_wp2_with fail
      go_ret
      have HE : Hid ((⟨(name ++ hintText l).toArray⟩ ++ ⟨#[10]⟩ : ByteArray) = ⟨(lineS name l).toArray⟩) := by
        unfold Hid lineS; rw [show (⟨#[10]⟩ : ByteArray) = ⟨[10].toArray⟩ from rfl, ByteArray.mk_append_mk]
      rw [HE.out]
      exact ⟨rfl, HX.out⟩

/-- The words of the verdicts, in memory. -/
def Words (w : World) : Prop := ∀ v, (v = 0 ∨ v = 1 ∨ v = 2) → w.cell? ⟨1, v, none⟩ = some (.string ⟨(wordC v).toArray⟩)
theorem Words.ext {w w' : World} (h : Words w) (he : Ext w w') : Words w' := fun v hv => he.cell (h v hv)

set_option maxHeartbeats 4000000 in
set_option maxRecDepth 100000 in
theorem CText_any (x : CertS) (vx : Value) (w : World) (hx : CertV w vx x) (hf : Few x) (ht : (textC x).length ≤ 1000000) (hP : Pow10 w) (hW : Words w) : Calls Tryz.prog 13 #[vx] w fun r w' => r = .returned (.string ⟨(textC x).toArray⟩) ∧ Ext w w' := by
  have HUA : Hid (∀ w', Ext w w' → Calls Tryz.prog 34 #[vx] w' fun r w2 => r = .returned (.bool (usableB x)) ∧ Ext w' w2) := fun w' he => usable_any x vx w' (hx.ext he) hf
  obtain ⟨pa, pc, oa, oc, na, nc, rfl, hx⟩ := hx
  have HIN := Lib.hid hx; have HF := Lib.hid hf; have HP := Lib.hid hP; have HWD := Lib.hid hW; have HTL := Lib.hid ht
  have hl1 := SliceAt.len_le hx.1
  clear hx hf hP hW ht
  obtain ⟨W, hW⟩ : ∃ W, W = w.alloc (.cells (certCells x pa pc oa oc na nc) 41) := ⟨_, rfl⟩
  have hX : Ext w W := by rw [hW]; exact (Ext.refl _).alloc _
  have hC : CertAt W w.heap.size x pa pc oa oc na nc := by rw [hW]; exact heap_new _ _
  obtain ⟨lc, hlc⟩ := underCert
  have HLC := Lib.hid hlc
  have HG : Hid (W.heap[w.heap.size]? = some (.cells (certCells x pa pc oa oc na nc) 41 (0, 0))) := hC
  have HSZ : Hid ((Tryz.prog.info? 41).map (·.size) = some (certCells x pa pc oa oc na nc).size) := sizeCert
  have HC := Lib.hid hC; have HX := Lib.hid hX; have HWE := Lib.hid hW
  clear hC hX hW hlc
  go_enter Tryz.func13, Tryz.ntmps13
  go_upto_region 1 with fail
  have HW2 : Hid (w.alloc (.cells (certCells x pa pc oa oc na nc) 41) = W) := HWE.out.symm
  rw [HW2.out]
  clear HWE HW2
  generalize w.heap.size = b at *
  cases hu : usableB x with
  | false =>
    have HT0 : Hid (textC x = []) := by unfold Hid textC; rw [if_neg (by rw [hu]; decide)]
    rw [hu] at HUA
    go_wp2_with (first
      | (with_reducible refine wpList_load_row rfl 41 (.tmp 1) rfl b rfl 41 (certCells x pa pc oa oc na nc) (0, 0) (.struct lc) HG.out HLC.out rfl HSZ.out ?_)
      | (go_at_call 34; refine (HUA.out _ HX.out).mono ?_; rintro r w1 ⟨rfl, x1⟩))
    go_ret
    rw [HT0.out]; exact ⟨rfl, HX.out.trans x1⟩
  | true =>
  rw [hu] at HUA
  obtain ⟨u1, u2, u3⟩ := usable_parts hu
  have hid : x.id.length ≤ 64 := by unfold idB at u1; simp only [Bool.and_eq_true, decide_eq_true_eq] at u1; exact u1.1.2
  have hdg : x.dig.length = 16 := by unfold digB at u2; simp only [Bool.and_eq_true, decide_eq_true_eq] at u2; exact u2.1
  have HT0 : Hid (textC x = textU x) := by unfold Hid textC; rw [if_pos hu]
  have HRC := Lib.hid (rest_cases u3)
  go_upto_region 3 with (first
      | (with_reducible refine wpList_load_row rfl 41 (.tmp 1) rfl b rfl 41 (certCells x pa pc oa oc na nc) (0, 0) (.struct lc) HG.out HLC.out rfl HSZ.out ?_)
      | (go_at_call 34; refine (HUA.out _ HX.out).mono ?_; rintro r w1 ⟨rfl, x1⟩))
  clear hu u1 u2 u3 HLC HG HSZ HUA
  replace HC := Lib.hid (HC.out.ext x1); replace HX := Lib.hid (HX.out.trans x1)
  clear x1
  replace HIN := Lib.hid (HIN.out.ext HX.out); replace HP := Lib.hid (HP.out.ext HX.out); replace HWD := Lib.hid (HWD.out.ext HX.out)
  obtain ⟨q0, q1, q2, q3, q4, q5⟩ := HC.out.cells
  have f1 : ¬ (9223372036854775807 < 5 + x.id.length) := by omega
  have f2 : ¬ (9223372036854775807 < 5 + x.id.length + 1) := by omega
  have f3 : ¬ (9223372036854775807 < 5 + x.id.length + 1 + x.dig.length) := by omega
  have f4 : ¬ (9223372036854775807 < 5 + x.id.length + 1 + x.dig.length + 1) := by omega
  have HDG := Lib.hid hdg; clear hdg
  obtain ⟨n, hn, hn3, hnw⟩ : ∃ n : Nat, x.ver = (n : Int) ∧ n < 3 ∧ (n = 0 ∨ n = 1 ∨ n = 2) := by
    rcases HRC.out with ⟨hv, _⟩ | ⟨hv, _⟩ | ⟨hv, _⟩
    · exact ⟨0, hv, by omega, by omega⟩
    · exact ⟨1, hv, by omega, by omega⟩
    · exact ⟨2, hv, by omega, by omega⟩
  have g0 := HWD.out n hnw
  rw [hn] at q2
  have HWL : Hid ((wordC (n : Int)).length ≤ 6) := by unfold Hid; rcases hnw with rfl | rfl | rfl <;> decide
  obtain ⟨wv, hwv⟩ : ∃ wv, wv = wordC (n : Int) := ⟨_, rfl⟩
  rw [← hwv] at g0 HWL
  have i0 : (0 : Int) ≤ (n : Int) := by omega
  have i3 : (n : Int) < 3 := by omega
  have f5 : ¬ (9223372036854775807 < 5 + x.id.length + 1 + x.dig.length + 1 + wv.length) := by have := HDG.out; have := HWL.out; omega
  have HN := Lib.hid hn; have HWV := Lib.hid hwv
  clear hn hwv hnw
  go_quiet (fail)
  have HHE : Hid ((⟨#[99, 101, 114, 116, 32]⟩ ++ ⟨x.id.toArray⟩ ++ ⟨#[32]⟩ ++ ⟨x.dig.toArray⟩ ++ ⟨#[32]⟩ ++ ⟨wv.toArray⟩ : ByteArray) = ⟨(headC x).toArray⟩) := by
    unfold Hid headC
    rw [HN.out, ← HWV.out, show (⟨#[99, 101, 114, 116, 32]⟩ : ByteArray) = ⟨(certW ++ [32]).toArray⟩ from rfl, show (⟨#[32]⟩ : ByteArray) = ⟨[32].toArray⟩ from rfl]
    simp only [ByteArray.mk_append_mk]
  rw [HHE.out]
  have hhl : (headC x).length ≤ 94 := by
    have := HDG.out; have := HWL.out
    unfold headC; rw [HN.out, ← HWV.out]; simp [certW]; omega
  have HTU : Hid (textU x = headC x ++ (if x.ver = 1 then [32] ++ Lib.itoa x.prf.length else []) ++ 10 :: tailC x) := rfl
  have HTL2 : Hid ((tailC x).length ≤ 1000000) := by
    have h := HTL.out
    rw [HT0.out, HTU.out, List.length_append, List.length_cons] at h
    unfold Hid; omega
  have xd : Ext w1 (w1.drewN nq) := (Ext.refl _).drewN nq
  replace HC := Lib.hid (HC.out.ext xd); replace HX := Lib.hid (HX.out.trans xd); replace HIN := Lib.hid (HIN.out.ext xd); replace HP := Lib.hid (HP.out.ext xd)
  clear xd f1 f2 f3 f4 f5 g0 q0 q1 q2 q3 q4 q5 i0 i3 hid HHE HWV HWL HDG HTL HWD
  generalize w1.drewN nq = w2 at *
  obtain ⟨q0, q1, q2, q3, q4, q5⟩ := HC.out.cells
  generalize hh : headC x = hd at *
  have HH := Lib.hid hh; clear hh
  rcases HRC.out with ⟨hv, hp, ho, hn⟩ | ⟨hv, hp, ho, hn⟩ | ⟨hv, hp, ho, hn1, hn2⟩
  · obtain rfl : n = 0 := by have := HN.out; omega
    have HTT : Hid (textC x = hd ++ [10]) := by
      unfold Hid; rw [HT0.out, HTU.out, if_neg (by rw [hv]; decide)]
      unfold tailC; rw [if_neg (by rw [hv]; decide), if_neg (by rw [hv]; decide)]; simp
    rw [hv] at q2
    clear hv hp ho hn
    have f1 : ¬ (9223372036854775807 < hd.length + 1) := by omega
    go_wp2_with fail
    go_ret
    rw [HTT.out, show (⟨#[10]⟩ : ByteArray) = ⟨[10].toArray⟩ from rfl, ByteArray.mk_append_mk]
    exact ⟨rfl, HX.out⟩
  · obtain rfl : n = 1 := by have := HN.out; omega
    have HTT : Hid (textC x = hd ++ [32] ++ Lib.itoa x.prf.length ++ [10] ++ textL x.prf) := by
      unfold Hid; rw [HT0.out, HTU.out, if_pos hv]
      unfold tailC; rw [if_pos hv]; simp
    have HTL3 : Hid ((textL x.prf).length ≤ 1000000) := by
      have h := HTL2.out
      unfold tailC at h; rw [if_pos hv] at h; exact h
    rw [hv] at q2
    obtain ⟨r1, _, r3⟩ := prf_ranged hp
    have HR1 := Lib.hid r1
    have ht3 := HTL3.out
    have hil := Lib.itoa_length_le (x.prf.length : Int) (by omega) (by omega)
    have HI : Hid (∀ w', Ext w2 w' → Calls Tryz.prog 29 #[.int .i64 x.prf.length] w' fun e w3 => e = .returned (.string ⟨(Lib.itoa x.prf.length).toArray⟩) ∧ Ext w' w3) := fun w' he => Itoa_any _ w' (by omega) (by omega) (HP.out.ext he)
    have HTX : Hid (∀ w', Ext w2 w' → Calls Tryz.prog 15 #[.slice pa x.prf.length pc] w' fun e w3 => e = .returned (.string ⟨(textL x.prf).toArray⟩) ∧ Ext w' w3) := fun w' he => PText_any x.prf _ w' (HIN.out.1.ext he) HR1.out HTL3.out (HP.out.ext he)
    generalize Lib.itoa x.prf.length = t at *
    generalize textL x.prf = u at *
    clear hv hp ho hn r1 r3
    have f1 : ¬ (9223372036854775807 < hd.length + 1) := by omega
    have f2 : ¬ (9223372036854775807 < hd.length + 1 + t.length) := by omega
    have f3 : ¬ (9223372036854775807 < hd.length + 1 + t.length + 1) := by omega
    have f4 : ¬ (9223372036854775807 < hd.length + 1 + t.length + 1 + u.length) := by omega
    go_upto_region 6 with fail
    have HX0 := Lib.hid ((Ext.refl w2).drew)
    go_region_held3 (fun w' => w'.cell? ⟨b, 3, none⟩ = some (.slice pa x.prf.length pc))
      (first | exact q3 | (with_reducible exact hk2) | (with_reducible exact hk1) | fail)
      ((first
        | (have hgo := HX1.out; clear hgo; go_at_call 15; refine (HTX.out _ HX1.out).mono ?_; rintro r w2 ⟨rfl, x2⟩; have HX2 := Lib.hid (HX1.out.trans x2); have hk2 := (HC.out.ext HX2.out).cells.2.2.2.1; clear x2)
        | (go_at_call 29; refine (HI.out _ HX0.out).mono ?_; rintro r w1 ⟨rfl, x1⟩; have HX1 := Lib.hid (HX0.out.trans x1); have hk1 := (HC.out.ext HX1.out).cells.2.2.2.1; clear x1)))
    have HXE := Lib.hid (HX.out.trans HX2.out)
    go_wp2_with fail
    go_ret
    rw [HTT.out, show (⟨#[10]⟩ : ByteArray) = ⟨[10].toArray⟩ from rfl, show (⟨#[32]⟩ : ByteArray) = ⟨[32].toArray⟩ from rfl]
    simp only [ByteArray.mk_append_mk]
    exact ⟨rfl, HXE.out⟩
  · obtain rfl : n = 2 := by have := HN.out; omega
    have HTT : Hid (textC x = hd ++ [10] ++ lineS oldW x.old ++ lineS nowW x.now) := by
      unfold Hid; rw [HT0.out, HTU.out, if_neg (by rw [hv]; decide)]
      unfold tailC; rw [if_neg (by rw [hv]; decide), if_pos hv]; simp
    have HTL3 : Hid ((lineS oldW x.old).length ≤ 1000000 ∧ (lineS nowW x.now).length ≤ 1000000) := by
      have h := HTL2.out
      unfold tailC at h; rw [if_neg (by rw [hv]; decide), if_pos hv, List.length_append] at h
      exact ⟨by omega, by omega⟩
    rw [hv] at q2
    obtain ⟨ht1, ht2⟩ := HTL3.out
    unfold stB at hn1 hn2
    rw [Bool.and_eq_true, decide_eq_true_eq] at hn1 hn2
    have HS1 : Hid (∀ w', Ext w2 w' → Calls Tryz.prog 35 #[.string ⟨#[111, 108, 100]⟩, .slice oa x.old.length oc] w' fun e w3 => e = .returned (.string ⟨(lineS oldW x.old).toArray⟩) ∧ Ext w' w3) := fun w' he => stateLine_any oldW x.old _ w' (HIN.out.2.1.ext he) (fun y hy => within_i64 hn1.1 (by decide) (by decide) y hy) (by omega) (by decide) (HP.out.ext he)
    have HS2 : Hid (∀ w', Ext w2 w' → Calls Tryz.prog 35 #[.string ⟨#[110, 111, 119]⟩, .slice na x.now.length nc] w' fun e w3 => e = .returned (.string ⟨(lineS nowW x.now).toArray⟩) ∧ Ext w' w3) := fun w' he => stateLine_any nowW x.now _ w' (HIN.out.2.2.ext he) (fun y hy => within_i64 hn2.1 (by decide) (by decide) y hy) (by omega) (by decide) (HP.out.ext he)
    generalize lineS oldW x.old = t at *
    generalize lineS nowW x.now = u at *
    clear hv hp ho hn1 hn2
    have f1 : ¬ (9223372036854775807 < hd.length + 1) := by omega
    have f2 : ¬ (9223372036854775807 < hd.length + 1 + t.length) := by omega
    have f4 : ¬ (9223372036854775807 < hd.length + 1 + t.length + u.length) := by omega
    go_upto_region 8 with fail
    have HX0 := Lib.hid ((Ext.refl w2).drew)
    go_region_held3 (fun w' => w'.cell? ⟨b, 4, none⟩ = some (.slice oa x.old.length oc) ∧ w'.cell? ⟨b, 5, none⟩ = some (.slice na x.now.length nc))
      (first | exact ⟨q4, q5⟩ | (with_reducible exact hk2) | (with_reducible exact hk1) | fail)
      ((first
        | (have hgo := HX1.out; clear hgo; go_at_call 35; refine (HS2.out _ HX1.out).mono ?_; rintro r w2 ⟨rfl, x2⟩; have HX2 := Lib.hid (HX1.out.trans x2); have hk2 := (HC.out.ext HX2.out).cells.2.2.2.2; clear x2)
        | (go_at_call 35; refine (HS1.out _ HX0.out).mono ?_; rintro r w1 ⟨rfl, x1⟩; have HX1 := Lib.hid (HX0.out.trans x1); have hk1 := (HC.out.ext HX1.out).cells.2.2.2.2; clear x1)))
    have HXE := Lib.hid (HX.out.trans HX2.out)
    go_wp2_with fail
    go_ret
    rw [HTT.out, show (⟨#[10]⟩ : ByteArray) = ⟨[10].toArray⟩ from rfl]
    simp only [ByteArray.mk_append_mk]
    exact ⟨rfl, HXE.out⟩
end Go.Proofs.YtoopoljchhdobaaGreatDoor
namespace Go.Proofs.YtoopoljchhdobaaGreatDoor
open Go.RowKit

def StrAt (w : World) (b o : Nat) (s : List UInt8) : Prop := w.cell? ⟨b, o, none⟩ = some (.string ⟨s.toArray⟩)
theorem StrAt.keeps : Keeps StrAt := fun _ _ _ _ _ he h => he.cell h
def Strs (w : World) (v : Value) (l : List (List UInt8)) : Prop := SliceAt 1 StrAt w v l
theorem strs_cell {w : World} {a : Option Addr} {n c : Nat} {l : List (List UInt8)} (h : Strs w (.slice a n c) l) {k : Nat} (hk : k < l.length) : ∃ b o, a = some ⟨b, o, none⟩ ∧ w.cell? ⟨b, o + k, none⟩ = some (.string ⟨l[k].toArray⟩) := by
  rcases h with ⟨_, e⟩ | ⟨b, o, cap, e, _, hc⟩
  · subst e; simp at hk
  · cases e
    have := hc k hk
    rw [Nat.mul_one] at this
    exact ⟨b, o, rfl, this⟩
/-- Of the older blocks b alone is written. -/
structure But (b : Nat) (w w' : World) : Prop where
  os : w'.os = w.os
  tape : w'.tape = w.tape
  output : w'.output = w.output
  size : w.heap.size ≤ w'.heap.size
  block : ∀ k, k < w.heap.size → k ≠ b → w'.heap[k]? = w.heap[k]?
theorem Ext.but {w w' : World} (h : Ext w w') (b : Nat) : But b w w' := ⟨h.os, h.tape, h.output, h.size, fun k hk _ => h.block k hk⟩
theorem But.refl (b : Nat) (w : World) : But b w w := (Ext.refl w).but b
theorem But.trans {b : Nat} {w w1 w2 : World} (h : But b w w1) (k : But b w1 w2) : But b w w2 :=
  ⟨k.os.trans h.os, k.tape.trans h.tape, k.output.trans h.output, Nat.le_trans h.size k.size, fun i hi hne => (k.block i (Nat.lt_of_lt_of_le hi h.size) hne).trans (h.block i hi hne)⟩
theorem But.set (w : World) (b i : Nat) (v : Value) : But b w (w.setCell ⟨b, i, none⟩ v) := ⟨rfl, rfl, rfl, by simp [World.setCell], fun k _ hne => Below.heap_setCell _ _ _ _ hne⟩
theorem But.ext {b : Nat} {a w w' : World} (h : Ext a w) (k : But b w w') (hb : a.heap.size ≤ b) : Ext a w' :=
  ⟨k.os.trans h.os, k.tape.trans h.tape, k.output.trans h.output, Nat.le_trans h.size k.size, fun i hi => (k.block i (Nat.lt_of_lt_of_le hi h.size) (by omega)).trans (h.block i hi)⟩
theorem But.cell {b : Nat} {w w' : World} (h : But b w w') {g o : Nat} {v : Value} (hne : g ≠ b) (hc : w.cell? ⟨g, o, none⟩ = some v) : w'.cell? ⟨g, o, none⟩ = some v := by
  have hlt : g < w.heap.size := by
    rcases Nat.lt_or_ge g w.heap.size with h' | h'
    · exact h'
    · simp [World.cell?, Array.getElem?_eq_none h'] at hc
  unfold World.cell? at *
  rw [h.block g hlt hne]; exact hc
/-- The three cells that a first line sets. -/
def putHead (w : World) (b : Nat) (id dig : List UInt8) (v : Int) : World := ((w.setCell ⟨b, 0, none⟩ (.string ⟨id.toArray⟩)).setCell ⟨b, 1, none⟩ (.string ⟨dig.toArray⟩)).setCell ⟨b, 2, none⟩ (.int .i64 v)
theorem putHead_at {w : World} {b : Nat} {x : CertS} {pa : Option Addr} {pc : Nat} {oa : Option Addr} {oc : Nat} {na : Option Addr} {nc : Nat} (h : CertAt w b x pa pc oa oc na nc) (id dig : List UInt8) (v : Int) :
    CertAt (putHead w b id dig v) b { x with id := id, dig := dig, ver := v } pa pc oa oc na nc := by
  have h1 := heap_setCell_same w b 0 _ _ (.string ⟨id.toArray⟩) h
  have h2 := heap_setCell_same _ b 1 _ _ (.string ⟨dig.toArray⟩) h1
  have h3 := heap_setCell_same _ b 2 _ _ (.int .i64 v) h2
  exact h3
theorem putHead_but (w : World) (b : Nat) (id dig : List UInt8) (v : Int) : But b w (putHead w b id dig v) := ((But.set w b 0 _).trans (But.set _ b 1 _)).trans (But.set _ b 2 _)
def HeadPost (x : CertS) (b : Nat) (pa : Option Addr) (pc : Nat) (oa : Option Addr) (oc : Nat) (na : Option Addr) (nc : Nat) (w : World) (o : Option CertS) (r : Ending) (w' : World) : Prop :=
  But b w w' ∧ match o with
    | none => r = .returned (.bool false) ∧ CertAt w' b x pa pc oa oc na nc
    | some y => r = .returned (.bool true) ∧ CertAt w' b y pa pc oa oc na nc

theorem head_none {x : CertS} {ws : List (List UInt8)} (h : ws.length < 4) : headW x ws = none := by unfold headW; rw [if_pos h]
theorem head_some {x : CertS} {ws : List (List UInt8)} (h : ¬ ws.length < 4) {n : Nat} (hn : n = 0 ∨ n = 1 ∨ n = 2) (he : ws.getD 3 [] = wordC (n : Nat)) : headW x ws = some { x with id := ws.getD 1 [], dig := ws.getD 2 [], ver := (n : Nat) } := by
  unfold headW
  rw [if_neg h, he, verW_word (by rcases hn with rfl | rfl | rfl <;> simp)]; rfl
theorem head_miss {x : CertS} {ws : List (List UInt8)} (h : ¬ ws.length < 4) (h0 : ws.getD 3 [] ≠ wordC 0) (h1 : ws.getD 3 [] ≠ wordC 1) (h2 : ws.getD 3 [] ≠ wordC 2) : headW x ws = none := by
  unfold headW verW
  rw [if_neg h, if_neg h0, if_neg h1, if_neg h2]; rfl

def wordsA : Value := .agg #[.string ⟨(wordC 0).toArray⟩, .string ⟨(wordC 1).toArray⟩, .string ⟨(wordC 2).toArray⟩]
theorem index_words0 (w : World) : (Instr.index 82 wordsA (.int .i64 (0 : Nat))).run Tryz.prog w = .ok (.string ⟨(wordC (0 : Nat)).toArray⟩) w := by kernel_rfl
theorem index_words1 (w : World) : (Instr.index 82 wordsA (.int .i64 (1 : Nat))).run Tryz.prog w = .ok (.string ⟨(wordC (1 : Nat)).toArray⟩) w := by kernel_rfl
theorem index_words2 (w : World) : (Instr.index 82 wordsA (.int .i64 (2 : Nat))).run Tryz.prog w = .ok (.string ⟨(wordC (2 : Nat)).toArray⟩) w := by kernel_rfl
theorem index_words (k : Nat) (h : k < 3) (w : World) : (Instr.index 82 (.agg #[.string ⟨(wordC 0).toArray⟩, .string ⟨(wordC 1).toArray⟩, .string ⟨(wordC 2).toArray⟩]) (.int .i64 k)).run Tryz.prog w = .ok (.string ⟨(wordC (k : Nat)).toArray⟩) w := by
  have : k = 0 ∨ k = 1 ∨ k = 2 := by omega
  rcases this with rfl | rfl | rfl
  · exact index_words0 w
  · exact index_words1 w
  · exact index_words2 w
theorem cell_keep {W : World} {lb b o i : Nat} {v u : Value} (hne : lb ≠ b) (h : W.cell? ⟨lb, o, none⟩ = some v) : ((W.setCell ⟨b, i, none⟩ u).drew).cell? ⟨lb, o, none⟩ = some v := by
  have : (W.setCell ⟨b, i, none⟩ u).heap[lb]? = W.heap[lb]? := heap_setCell_other W ⟨b, i, none⟩ lb u hne
  unfold World.cell? at *
  rw [show ((W.setCell ⟨b, i, none⟩ u).drew).heap = (W.setCell ⟨b, i, none⟩ u).heap from rfl, this]; exact h

set_option maxRecDepth 100000 in
set_option maxHeartbeats 4000000 in
theorem readHead_any (x : CertS) (b : Nat) (pa : Option Addr) (pc : Nat) (oa : Option Addr) (oc : Nat) (na : Option Addr) (nc : Nat) (ws : List (List UInt8)) (v : Value) (w : World) (hC : CertAt w b x pa pc oa oc na nc) (hs : Strs w v ws) (hb : ∀ k, v.ownBlock = some k → ws ≠ [] → k ≠ b) (hW : Words w) :
    Calls Tryz.prog 50 #[.pointer (some ⟨b, 0, none⟩), v] w fun r w' => HeadPost x b pa pc oa oc na nc w (headW x ws) r w' := by
  obtain ⟨a, c, rfl⟩ := SliceAt.shape hs
  have hlen := SliceAt.len_le hs
  by_cases h4 : (ws.length : Int) < 4
  · have HN : Hid (headW x ws = none) := head_none (by omega)
    have HC := Lib.hid hC
    clear hC hs hb hW
    go_enter Tryz.func50, Tryz.ntmps50
    go_wp2_with fail
    go_ret
    rw [HN.out]
    exact ⟨But.refl _ _, rfl, HC.out⟩
  have h4' : ¬ ws.length < 4 := by omega
  obtain ⟨lb, lo, rfl, g3⟩ := strs_cell hs (k := 3) (by omega)
  obtain ⟨_, _, e1, g1⟩ := strs_cell hs (k := 1) (by omega)
  cases e1
  obtain ⟨_, _, e2, g2⟩ := strs_cell hs (k := 2) (by omega)
  cases e2
  have hne : lb ≠ b := hb lb rfl (by intro e; rw [e] at h4'; simp at h4')
  have e1 : ws[1]'(by omega) = ws.getD 1 [] := by simp [List.getD, show 1 < ws.length by omega]
  have e2 : ws[2]'(by omega) = ws.getD 2 [] := by simp [List.getD, show 2 < ws.length by omega]
  have e3 : ws[3]'(by omega) = ws.getD 3 [] := by simp [List.getD, show 3 < ws.length by omega]
  rw [e1] at g1; rw [e2] at g2; rw [e3] at g3
  have t0 := hW 0 (.inl rfl); have t1 := hW 1 (.inr (.inl rfl)); have t2 := hW 2 (.inr (.inr rfl))
  have HS : Hid (∀ n : Nat, (n = 0 ∨ n = 1 ∨ n = 2) → ws.getD 3 [] = wordC (n : Nat) → headW x ws = some { x with id := ws.getD 1 [], dig := ws.getD 2 [], ver := (n : Nat) }) := fun n hn he => head_some h4' hn he
  have HM : Hid (ws.getD 3 [] ≠ wordC 0 → ws.getD 3 [] ≠ wordC 1 → ws.getD 3 [] ≠ wordC 2 → headW x ws = none) := fun h0 h1 h2 => head_miss h4' h0 h1 h2
  have i1 : (1 : Int) < (ws.length : Int) := by omega
  have i2 : (2 : Int) < (ws.length : Int) := by omega
  have i3 : (3 : Int) < (ws.length : Int) := by omega
  have HC := Lib.hid hC; have HNE := Lib.hid hne; have H4 := Lib.hid h4'
  clear hC hs hb hW e1 e2 e3 hne h4'
  generalize ws.getD 1 [] = d1 at *
  generalize ws.getD 2 [] = d2 at *
  generalize ws.getD 3 [] = d3 at *
  generalize headW x ws = res at *
  generalize ws.length = n at *
  go_enter Tryz.func50, Tryz.ntmps50
  go_wp2_with fail
  go_loopw [11] (fun i wr => wr = w ∧ ∃ k : Nat, k ≤ 3 ∧ i = .int .i64 k ∧ ∀ j : Nat, j < k → d3 ≠ wordC (j : Nat)) (fun i _ => 3 - (intOf i).toNat)
  case atStart => exact ⟨rfl, 0, Nat.zero_le _, rfl, fun j h => absurd h (by omega)⟩
  case round =>
    obtain ⟨rfl, k, hk, rfl, hR⟩ := hrel
    have HR := Lib.hid hR; clear hR
    by_cases hlt : k < 3
    · have hix := index_words k hlt
      have hk3 : k = 0 ∨ k = 1 ∨ k = 2 := by omega
      have HQ := Lib.hid (HS.out k hk3)
      have HR2 : Hid (d3 ≠ wordC (k : Nat) → ∀ j : Nat, j < k + 1 → d3 ≠ wordC (j : Nat)) := fun h j hj => by
        by_cases c : j = k
        · subst c; exact h
        · exact HR.out j (by omega)
      generalize hnk : wordC (k : Nat) = nk at *
      have HNK := Lib.hid hnk; clear hnk hk3
      have i0 : (k : Int) < 3 := by omega
      cases hq : (d3 == nk) with
      | true =>
        have HT := Lib.hid (HQ.out (by simpa using hq))
        go_upto_region 7 with fail
        have f0 := frozen_of_row wr b 0 _ _ HC.out
        have f1 := frozen_of_row wr b 1 _ _ HC.out
        have f2 := frozen_of_row wr b 2 _ _ HC.out
        obtain ⟨q0, q1, q2, q3, q4, q5⟩ := HC.out.cells
        have hne := HNE.out
        go_region_held3 (fun w' => w'.cell? ⟨lb, lo + 1, none⟩ = some (.string ⟨d1.toArray⟩) ∧ w'.cell? ⟨lb, lo + 2, none⟩ = some (.string ⟨d2.toArray⟩))
          (first | exact ⟨g1, g2⟩ | exact ⟨cell_keep hne g1, cell_keep hne g2⟩ | exact ⟨cell_keep hne (cell_keep hne g1), cell_keep hne (cell_keep hne g2)⟩ | exact ⟨cell_keep hne (cell_keep hne (cell_keep hne g1)), cell_keep hne (cell_keep hne (cell_keep hne g2))⟩ | fail)
          (fail)
        have HPC := Lib.hid (putHead_at HC.out d1 d2 (k : Int))
        have HPB := Lib.hid (putHead_but wr b d1 d2 (k : Int))
        change Exit.then _ _ Exit.normal _ (putHead wr b d1 d2 (k : Int)).drew
        have xd : Ext (putHead wr b d1 d2 (k : Int)) (putHead wr b d1 d2 (k : Int)).drew := (Ext.refl _).drew
        go_wp2_with fail
        go_ret
        rw [HT.out]
        exact ⟨HPB.out.trans (xd.but b), rfl, HPC.out.ext xd⟩
      | false =>
        have HN' := Lib.hid (HR2.out (by simpa using hq))
        go_wp2_with fail
        exact ⟨⟨trivial, k + 1, by omega, by go_num, HN'.out⟩, by simp [intOf]; omega⟩
    · obtain rfl : k = 3 := by omega
      have HT := Lib.hid (HM.out (HR.out 0 (by omega)) (HR.out 1 (by omega)) (HR.out 2 (by omega)))
      go_wp2_with fail
      go_ret
      rw [HT.out]
      exact ⟨But.refl _ _, rfl, HC.out⟩
end Go.Proofs.YtoopoljchhdobaaGreatDoor
namespace Go.Proofs.YtoopoljchhdobaaGreatDoor
open Go.RowKit Go.Shelf

/-- What is said of a world is not touched by a store into the box b. -/
def Deaf {β : Type} (b : Nat) (J : β → World → Prop) : Prop := ∀ s W v, J s W → J s (W.setCell ⟨b, 0, none⟩ v)
/-- The promise of a function that is ranged over and writes the box b. -/
def Ranges {α : Type} (F : Fence) (n : Nat) (P : Program) (g : Nat) (lb : Array Value) (encs : α → Array Value) (b : Nat) (Kp : World → World → Prop) (Nx : List α → α → Prop) (S Sp : List α → Prop) (w : World) : Prop :=
  ∀ (l : Nat) (J Jx : List α → World → Prop) (W : World), Below w.heap.size w W → Deaf b J →
    (∀ pre x W1, J pre W1 → Nx pre x → YieldAt F (n - 1) P l (encs x) W1 fun e W' =>
      (e = .returned (.bool true) ∧ J (pre ++ [x]) W' ∧ Kp W1 W') ∨ (e = .returned (.bool false) ∧ Jx (pre ++ [x]) W')) →
    J [] W →
    CallsIn F n P g (#[.func (.yield l) #[] #[]] ++ lb) W fun e W' => (∃ v, e = .returned v) ∧ ((∃ xs, S xs ∧ J xs W') ∨ (∃ pre, Sp pre ∧ Jx pre W'))

section
variable {F : Fence} {n : Nat} {P : Program} {w : World}
/-- The loop's record in block B + 1, the block of its deferred calls in B. -/
structure Books (rec : LoopState → Option Code → Loop) (B : Nat) (s : LoopState) (c : Option Code) (W : World) : Prop where
  record : W.heap[B + 1]? = some (.loop (rec s c))
  block : W.heap[B]? = some (.deferred (some []))
theorem Books.turn {rec : LoopState → Option Code → Loop} {B : Nat} {s s' : LoopState} {c c' : Option Code} {W : World} (h : Books rec B s c W) : Books rec B s' c' (W.putObj (B + 1) (.loop (rec s' c'))) :=
  ⟨World.putObj_heap_same (Array.getElem?_eq_some_iff.1 h.record).1, (World.putObj_heap_other (by omega)).trans h.block⟩
theorem Books.kept {rec : LoopState → Option Code → Loop} {B : Nat} {s : LoopState} {c : Option Code} {W W' : World} (h : Books rec B s c W) (hk : KeepsFrom B W W') : Books rec B s c W' :=
  ⟨hk.same _ _ (by omega) h.record rfl, hk.same _ _ (Nat.le_refl _) h.block rfl⟩
theorem Books.store {rec : LoopState → Option Code → Loop} {B : Nat} {s : LoopState} {c : Option Code} {W : World} (h : Books rec B s c W) {b : Nat} (hb : b < B) (v : Value) : Books rec B s c (W.setCell ⟨b, 0, none⟩ v) :=
  ⟨(heap_setCell_other W ⟨b, 0, none⟩ (B + 1) v (by show B + 1 ≠ b; omega)).trans h.record, (heap_setCell_other W ⟨b, 0, none⟩ B v (by show B ≠ b; omega)).trans h.block⟩

theorem wpIn_range_box {α : Type} {g : Operand} {ps : Array Tmp} {assign body : Code} {Q : Exit → Act → World → Prop} {a : Act}
    (hro : F.round = none) (h1 : 1 ≤ n) {gf : Nat} {lb : Array Value} (hg : a.eval g = .func (.func gf) #[] lb) (hFg : F.fn gf) (eg : ∀ args w, (callFunc gf args).run P w = .ok (.enter gf args) w)
    {encs : α → Array Value} {b : Nat} (hb : b < w.heap.size) {Kp : World → World → Prop} {Nx : List α → α → Prop} {S Sp : List α → Prop} (hseq : Ranges F (n - 1) P gf lb encs b Kp Nx S Sp w)
    (hKt : ∀ {A B C : World}, Kp A B → Kp B C → Kp A C) (hKb : ∀ (W : World) (l : Nat) (o o' : Obj), w.heap.size ≤ l → W.heap[l]? = some o → o.isCells = false → Kp W (W.putObj l o')) (hps : ∀ x, (encs x).size = ps.size)
    (I : List α → World → Prop) (Ix : Code → List α → World → Prop) (hI : OwnFrom w.heap.size I) (hIx : ∀ c, OwnFrom w.heap.size (Ix c)) (hd : Deaf b I) (h0 : I [] w) (a₁ : α → Act)
    (hassign : ∀ (l : Nat) (x : α) (W : World) (K : Act → World → Prop), K (a₁ x) W →
      assign.wpIn (F.inRound l) (n - 1 - 1) P (Exit.then K (fun _ _ _ => False)) { tmps := (ps.zip (encs x)).foldl (fun t (p, v) => t.setIfInBounds p v) a.tmps, defers := [] } W)
    (hbody : ∀ (l : Nat) (pre : List α) (x : α) (W : World), I pre W → Nx pre x → body.wpIn (F.inRound l) (n - 1 - 1) P (ownPostG w.heap.size Kp I Ix (pre ++ [x]) W) (a₁ x) W)
    (hdone : ∀ (D : Nat) (xs : List α) (W : World), w.heap.size ≤ D → S xs → I xs W → W.heap[D]? = some (.deferred (some [])) → Q .normal { a with defers := { target := .collected D, args := #[] } :: a.defers } W)
    (hstop : ∀ (D : Nat) (c : Code) (pre : List α) (W : World), w.heap.size ≤ D → Sp pre → Ix c pre W → W.heap[D]? = some (.deferred (some [])) → c.wpIn F n P Q { a with defers := { target := .collected D, args := #[] } :: a.defers } W) :
    (Code.rangeFunc g ps assign body).wpIn F n P Q a w := by
  refine wpIn_rangeFunc fun fn hfn => ?_
  rw [hro]
  obtain ⟨rec, hrec⟩ : ∃ rec : LoopState → Option Code → Loop, ∀ s c, rec s c = { state := s, pending := c, fn := fn, tmps := a.tmps, params := ps, assign := assign, body := body, defers := w.heap.size } := ⟨fun s c => _, fun _ _ => rfl⟩
  obtain ⟨W1, hW1⟩ : ∃ W1, W1 = (w.alloc (.deferred (some []))).alloc (.loop (rec .ready none)) := ⟨_, rfl⟩
  have hbook : Books rec w.heap.size .ready none W1 := by
    constructor
    · have h := World.alloc_heap_new (w.alloc (.deferred (some []))) (.loop (rec .ready none))
      rw [World.size_alloc, ← hW1] at h; exact h
    · rw [hW1]; exact (Below.heap_alloc _ _ _ (by simp)).trans (World.alloc_heap_new w _)
  have hstart : I [] W1 := by rw [hW1]; exact hI.alloc _ (hI.alloc _ h0)
  have hlow : Below w.heap.size w W1 := by rw [hW1]; exact ((Below.refl _ w).alloc (Nat.le_refl _) _).alloc (by simp) _
  have hent := run_enterLoop_outer (P := P) (w := w) fn a.tmps ps assign body
  rw [← hrec, ← hW1] at hent
  -- how a round is ended
  have hend : ∀ (c : Option Code) (W3 : World), Books rec w.heap.size .busy none W3 → (Instr.endRound (w.heap.size + 1) c).run P W3 = .ok (.bool c.isNone) (W3.putObj (w.heap.size + 1) (.loop (rec (if c.isNone then .ready else .done) c))) := fun c W3 hk => by
    have h := run_endRound (P := P) c hk.record
    rw [hrec] at h ⊢; exact h
  refine ⟨w.heap.size + 1, [{ target := .collected w.heap.size, args := #[] }], W1, { target := .fn (.func gf) lb, args := #[.func (.yield (w.heap.size + 1)) #[] #[]] }, W1, gf,
    #[.func (.yield (w.heap.size + 1)) #[] #[]] ++ lb, W1, hent, ?_, ?_, ?_, fun _ => h1, ?_⟩
  · simp only [resolve, hg]; simp [go_sem]
  · intro f' hf'; simp [Target.leads] at hf'; subst hf'; exact hFg
  · simp [invoke, go_sem, eg]
  refine (hseq (w.heap.size + 1) (fun pre W => I pre W ∧ Books rec w.heap.size .ready none W) (fun pre W => ∃ c, Ix c pre W ∧ Books rec w.heap.size .done (some c) W) W1 hlow
    (fun s W v h => ⟨hd s W v h.1, h.2.store hb v⟩) ?_ ⟨hstart, hbook⟩).mono ?_
  · -- a round
    rintro pre x W ⟨hi, hk⟩ hx
    have hy := run_yield (P := P) (args := encs x) hk.record (by rw [hrec]; exact hps x)
    rw [hrec] at hy
    refine ⟨fn, _, assign, body, hy, roundIn_of_wpIn hfn (hassign _ x W _ ?_)⟩
    have hbeg := run_beginRound (P := P) hk.record (by rw [hrec])
    have hbusy : Books rec w.heap.size .busy none (W.putObj (w.heap.size + 1) (.loop (rec .busy none))) := hk.turn
    have e1 : ({ rec .ready none with state := .busy } : Loop) = rec .busy none := by rw [hrec, hrec]
    rw [e1] at hbeg
    refine ⟨_, hbeg, wpIn_mono (hbody _ pre x _ (hI.putObj _ hi (by omega) hk.record rfl) hx) ?_⟩
    have hkp : Kp W (W.putObj (w.heap.size + 1) (.loop (rec .busy none))) := hKb _ _ _ _ (by omega) hk.record rfl
    rintro e a3 W3 hp
    cases e with
    | normal =>
      obtain ⟨k3, kp3, i3⟩ := hp
      have b3 := hbusy.kept k3
      exact ⟨_, _, hend none W3 b3, .inl ⟨rfl, ⟨hI.putObj _ i3 (by omega) b3.record rfl, b3.turn⟩, hKt hkp (hKt kp3 (hKb _ _ _ _ (by omega) b3.record rfl))⟩⟩
    | ret =>
      obtain ⟨k3, i3⟩ := hp
      have b3 := hbusy.kept k3
      exact ⟨_, _, hend (some .ret) W3 b3, .inr ⟨rfl, .ret, (hIx _).putObj _ i3 (by omega) b3.record rfl, b3.turn⟩⟩
    | exit id =>
      obtain ⟨k3, i3⟩ := hp
      have b3 := hbusy.kept k3
      exact ⟨_, _, hend (some (.exit id)) W3 b3, .inr ⟨rfl, .exit id, (hIx _).putObj _ i3 (by omega) b3.record rfl, b3.turn⟩⟩
    | goto t =>
      obtain ⟨k3, i3⟩ := hp
      have b3 := hbusy.kept k3
      exact ⟨_, _, hend (some (.goto t)) W3 b3, .inr ⟨rfl, .goto t, (hIx _).putObj _ i3 (by omega) b3.record rfl, b3.turn⟩⟩
    | panic _ => exact hp.elim
    | outgrown => exact hp.elim
  · -- behind it
    rintro e W2 ⟨⟨v, rfl⟩, h⟩
    rcases h with ⟨xs, hS, hi, hk⟩ | ⟨pre, hSp, c, hi, hk⟩
    · have h := run_endLoop (P := P) hk.record (by rw [hrec]; simp)
      rw [hrec] at h
      refine ⟨none, _, h, hdone _ xs _ (Nat.le_refl _) hS (hI.putObj _ hi (by omega) hk.record rfl) ?_⟩
      exact (World.putObj_heap_other (by omega)).trans hk.block
    · have h := run_endLoop (P := P) hk.record (by rw [hrec]; simp)
      rw [hrec] at h
      refine ⟨some c, _, h, hstop _ c pre _ (Nat.le_refl _) hSp ((hIx c).putObj _ hi (by omega) hk.record rfl) ?_⟩
      exact (World.putObj_heap_other (by omega)).trans hk.block
end
end Go.Proofs.YtoopoljchhdobaaGreatDoor
namespace Go.Proofs.YtoopoljchhdobaaGreatDoor
open Go.RowKit Go.Shelf
attribute [local go_sem] Oper.semAt_some

theorem index_cut (c : UInt8) : ∀ l : List UInt8, ((∀ x ∈ l, x ≠ c) ∧ Lib.indexByte l c = -1) ∨ ∃ u v, l = u ++ c :: v ∧ (∀ x ∈ u, x ≠ c) ∧ Lib.indexByte l c = (u.length : Int)
  | [] => .inl ⟨by simp, rfl⟩
  | y :: r => by
    by_cases h : y = c
    · subst h
      exact .inr ⟨[], r, rfl, by simp, by simp [Lib.indexByte]⟩
    · have hb : (y == c) = false := by simpa using h
      rcases index_cut c r with ⟨h1, h2⟩ | ⟨u, v, h1, h2, h3⟩
      · refine .inl ⟨fun x hx => ?_, ?_⟩
        · rcases List.mem_cons.1 hx with rfl | hx
          · exact h
          · exact h1 x hx
        · simp [Lib.indexByte, hb, h2]
      · refine .inr ⟨y :: u, v, by rw [h1]; rfl, fun x hx => ?_, ?_⟩
        · rcases List.mem_cons.1 hx with rfl | hx
          · exact h
          · exact h2 x hx
        · have hn : ((u.length : Int) == -1) = false := by rw [beq_eq_false_iff_ne]; omega
          simp only [Lib.indexByte, hb, h3, hn, List.length_cons]; simp
def strAt (b : Nat) (W : World) : Nat := match W.cell? ⟨b, 0, none⟩ with
  | some (.string s) => s.size
  | _ => 0
theorem strAt_eq {b : Nat} {W : World} {l : List UInt8} (h : W.cell? ⟨b, 0, none⟩ = some (.string ⟨l.toArray⟩)) : strAt b W = l.length := by unfold strAt; rw [h]; rfl
/-- The next piece. -/
def NxP (c : UInt8) (text : List UInt8) (pre : List (List UInt8)) (x : List UInt8) : Prop := ∃ rest, splitB c text = pre ++ x :: rest
/-- The two boxes of pieces are kept. -/
def KeepB (b1 b2 : Nat) (W W' : World) : Prop := ∀ k, k = b1 ∨ k = b2 → W'.heap[k]? = W.heap[k]?
def boxed (W : World) (b : Nat) (t : TypeId) (v : Value) : Prop := W.heap[b]? = some (.cells #[v] t (0, 0))
theorem boxed_cell {W : World} {b : Nat} {t : TypeId} {v : Value} (h : boxed W b t v) : W.cell? ⟨b, 0, none⟩ = some v := by unfold boxed at h; simp [World.cell?, h]
theorem boxed_frozen {W : World} {b : Nat} {t : TypeId} {v : Value} (h : boxed W b t v) : W.frozen? ⟨b, 0, none⟩ = false := frozen_of_row W b 0 _ t h
theorem boxed_set {W : World} {b : Nat} {t : TypeId} {v : Value} (h : boxed W b t v) (u : Value) : boxed (W.setCell ⟨b, 0, none⟩ u) b t u := by
  unfold boxed; rw [heap_setCell_same W b 0 _ t _ h]; rfl
theorem boxed_other {W : World} {b : Nat} {t : TypeId} {v : Value} (h : boxed W b t v) {b' : Nat} (hne : b ≠ b') (u : Value) : boxed (W.setCell ⟨b', 0, none⟩ u) b t v := by
  unfold boxed; rw [heap_setCell_other W ⟨b', 0, none⟩ b u hne]; exact h

set_option maxRecDepth 100000 in
set_option maxHeartbeats 2000000 in
theorem pieces1_in (n : Nat) (hn : 1 ≤ n) (l b1 b2 : Nat) (hne : b1 ≠ b2) (c : UInt8) (text : List UInt8) (hlen : text.length ≤ 1000000000) (J Jx : List (List UInt8) → World → Prop) (hd : Deaf b1 J)
    (hY : ∀ pre x W, J pre W → NxP c text pre x → YieldAt Fence.wide (n - 1) Tryz.prog l #[.string ⟨x.toArray⟩] W fun e W' =>
      (e = .returned (.bool true) ∧ J (pre ++ [x]) W' ∧ KeepB b1 b2 W W') ∨ (e = .returned (.bool false) ∧ Jx (pre ++ [x]) W'))
    (W : World) (h1 : boxed W b1 9 (.string ⟨text.toArray⟩)) (h2 : boxed W b2 5 (.int .u8 (c.toNat : Int))) (h0 : J [] W) :
    CallsIn Fence.wide n Tryz.prog 48 #[.func (.yield l) #[] #[], .pointer (some ⟨b1, 0, none⟩), .pointer (some ⟨b2, 0, none⟩)] W fun e W' => (∃ v, e = .returned v) ∧
      ((∃ ys, ys = splitB c text ∧ J ys W') ∨ (∃ pre, True ∧ Jx pre W')) := by
  have HY := Lib.hid hY; have H0 := Lib.hid h0; have H1 := Lib.hid h1; have H2 := Lib.hid h2; have HD := Lib.hid hd; have HL := Lib.hid hlen; have HNE := Lib.hid hne
  clear hY h0 h1 h2 hd hlen hne
  refine callsIn_of_wp Tryz.func48 rfl trivial ?_ rfl
  simp only [Tryz.ntmps48, List.size_toArray, List.length_cons, List.length_nil, Nat.reduceAdd, Nat.reduceSub, Array.replicate_succ, Array.replicate_zero, List.push_toArray, List.append_toArray, List.nil_append, List.cons_append]
  gi_wp2
  gi_loopw [4] (fun _ wr => ∃ (pre : List (List UInt8)) (cur : List UInt8), splitB c text = pre ++ splitB c cur ∧ cur.length ≤ text.length ∧ boxed wr b1 9 (.string ⟨cur.toArray⟩) ∧ boxed wr b2 5 (.int .u8 (c.toNat : Int)) ∧ J pre wr) (fun _ wr => strAt b1 wr)
  case atStart => exact ⟨[], text, rfl, Nat.le_refl _, H1.out, H2.out, H0.out⟩
  case round =>
    obtain ⟨pre, cur, hs, hcl, hb1, hb2, hJ⟩ := hrel
    have q1 := boxed_cell hb1; have q2 := boxed_cell hb2; have f1 := boxed_frozen hb1
    have HS := Lib.hid hs; have HB1 := Lib.hid hb1; have HB2 := Lib.hid hb2; have HJ := Lib.hid hJ; have HCL := Lib.hid hcl
    clear hs hb1 hb2 hJ hcl
    have HC : Hid (∀ w, Calls Tryz.prog 49 #[.string ⟨cur.toArray⟩, .int .u8 (c.toNat : Int)] w fun e w' => e = .returned (.int .i64 (Lib.indexByte cur c)) ∧ w' = w) := fun w => by
      have h := Tryz.strings_IndexByte ⟨cur.toArray⟩ (c.toNat : Int) w
      simpa using h
    rcases index_cut c cur with ⟨k1, k2⟩ | ⟨u, v, k1, k2, k3⟩
    · rw [k2] at HC
      have HW : Hid (splitB c cur = [cur]) := splitB_word c k1
      clear k1 k2
      obtain ⟨fn, tmps, assign, body, hy, hR⟩ := HY.out pre cur wr HJ.out ⟨[], by rw [HS.out, HW.out]⟩
      have HR := Lib.hid hR
      clear hR
      gi_wp2_with (refine ⟨trivial, ?_⟩; gi_at_call 49; refine (callsIn_wide.2 (HC.out _)).mono ?_; rintro r w1 ⟨rfl, rfl⟩)
      refine HR.out.mono ?_
      rintro e W3 (⟨rfl, hJ3, _⟩ | ⟨rfl, hJx3⟩)
      · have HJ3 := Lib.hid hJ3
        clear hJ3 hy
        gi_wp2
        refine bodyPost_ret (results_none rfl _ _ _) rfl ?_
        exact ⟨⟨_, rfl⟩, .inl ⟨_, by rw [HS.out, HW.out], HJ3.out⟩⟩
      · have HJx3 := Lib.hid hJx3
        clear hJx3 hy
        gi_wp2
        refine bodyPost_ret (results_none rfl _ _ _) rfl ?_
        exact ⟨⟨_, rfl⟩, .inr ⟨_, trivial, HJx3.out⟩⟩
    · rw [k3] at HC
      have HW : Hid (splitB c cur = u :: splitB c v) := by rw [k1]; exact splitB_cons c v k2
      have hul : u.length < cur.length := by rw [k1]; simp
      have hvl : cur.length = u.length + 1 + v.length := by rw [k1]; simp; omega
      have HTK : Hid (cur.take u.length = u) := by unfold Hid; rw [k1]; simp
      have HDR : Hid (cur.drop (u.length + 1) = v) := by unfold Hid; rw [k1]; simp
      have HVL := Lib.hid hvl
      have hcl2 := HCL.out; have hl2 := HL.out
      clear k1 k2 k3 hvl
      have i0 : (0 : Int) ≤ (u.length : Int) := by omega
      have i1 : (u.length : Int) ≤ (cur.length : Int) := by omega
      have i2 : (u.length : Int) + 1 ≤ (cur.length : Int) := by omega
      have i3 : (0 : Int) ≤ (u.length : Int) + 1 := by omega
      have i4 : ¬ ((u.length : Int) < 0) := by omega
      obtain ⟨fn, tmps, assign, body, hy, hR⟩ := HY.out pre u wr HJ.out ⟨splitB c v, by rw [HS.out, HW.out]⟩
      have hex : ((⟨cur.toArray⟩ : ByteArray).extract 0 u.length) = ⟨u.toArray⟩ := by
        rw [← HTK.out]; apply ByteArray.ext; simp [HTK.out]
      rw [← hex] at hy
      clear hex
      have HR := Lib.hid hR
      clear hR
      gi_wp2_with (refine ⟨trivial, ?_⟩; gi_at_call 49; refine (callsIn_wide.2 (HC.out _)).mono ?_; rintro r w1 ⟨rfl, rfl⟩)
      refine HR.out.mono ?_
      rintro e W3 (⟨rfl, hJ3, hk3⟩ | ⟨rfl, hJx3⟩)
      · have hb31 : boxed W3 b1 9 (.string ⟨cur.toArray⟩) := (hk3 b1 (.inl rfl)).trans HB1.out
        have hb32 : boxed W3 b2 5 (.int .u8 (c.toNat : Int)) := (hk3 b2 (.inr rfl)).trans HB2.out
        have g1 := boxed_cell hb31; have f3 := boxed_frozen hb31
        have HB31 := Lib.hid hb31; have HB32 := Lib.hid hb32; have HJ3 := Lib.hid hJ3
        clear hJ3 hk3 hb31 hb32 hy q1 q2 f1
        gi_wp2
        have hex : ((⟨cur.toArray⟩ : ByteArray).extract (u.length + 1) cur.length) = ⟨v.toArray⟩ := by
          rw [← HDR.out]; apply ByteArray.ext; simp [List.extract_eq_take_drop, HDR.out]
          rw [List.take_of_length_le]
          have := HVL.out; omega
        rw [hex]
        have hb := boxed_set HB31.out (.string ⟨v.toArray⟩)
        refine ⟨⟨pre ++ [u], v, by rw [HS.out, HW.out]; simp, by have := HVL.out; omega, hb, boxed_other HB32.out (fun h => HNE.out h.symm) _, HD.out _ _ _ HJ3.out⟩, ?_⟩
        rw [strAt_eq (boxed_cell hb), strAt_eq (boxed_cell HB1.out)]
        have := HVL.out; omega
      · have HJx3 := Lib.hid hJx3
        clear hJx3 hy
        gi_wp2
        refine bodyPost_ret (results_none rfl _ _ _) rfl ?_
        exact ⟨⟨_, rfl⟩, .inr ⟨_, trivial, HJx3.out⟩⟩

theorem pieces_ranges (n : Nat) (hn : 1 ≤ n) (b1 b2 : Nat) (hne : b1 ≠ b2) (c : UInt8) (text : List UInt8) (hlen : text.length ≤ 1000000000) (w : World) (h1 : boxed w b1 9 (.string ⟨text.toArray⟩)) (h2 : boxed w b2 5 (.int .u8 (c.toNat : Int))) :
    Ranges Fence.wide n Tryz.prog 48 #[.pointer (some ⟨b1, 0, none⟩), .pointer (some ⟨b2, 0, none⟩)] (fun x : List UInt8 => #[.string ⟨x.toArray⟩]) b1 (KeepB b1 b2) (NxP c text) (fun ys => ys = splitB c text) (fun _ => True) w :=
  fun l J Jx W hW hd hY h0 => pieces1_in n hn l b1 b2 hne c text hlen J Jx hd hY W ((hW.block b1 (Array.getElem?_eq_some_iff.1 h1).1).trans h1) ((hW.block b2 (Array.getElem?_eq_some_iff.1 h2).1).trans h2) h0

set_option maxHeartbeats 1000000 in
theorem pieces_in (n : Nat) (s : ByteArray) (c : Int) (w : World) :
    CallsIn Fence.wide n Tryz.prog 31 #[.string s, .int .u8 c] w fun e w' => e = .returned (.func (.func 48) #[] #[.pointer (some ⟨w.heap.size, 0, none⟩), .pointer (some ⟨w.heap.size + 1, 0, none⟩)]) ∧ w' = (w.alloc (.cells #[.string s] 9)).alloc (.cells #[.int .u8 c] 5) := by
  refine callsIn_of_wp Tryz.func31 rfl trivial ?_ rfl
  simp only [Tryz.ntmps31, List.size_toArray, List.length_cons, List.length_nil, Nat.reduceAdd, Nat.reduceSub, Array.replicate_succ, Array.replicate_zero, List.push_toArray, List.append_toArray, List.nil_append, List.cons_append]
  gi_wp2
  go_ret
  exact ⟨rfl, rfl⟩
end Go.Proofs.YtoopoljchhdobaaGreatDoor
