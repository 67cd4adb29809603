/-
  The walk of the reference's Usable.
-/
import Derived.Test.YtoopoljchhdobaaDoorCr2
import Derived.Test.YtoopoljchhdobaaDoorYc3
namespace Go.Proofs.YtoopoljchhdobaaDoor
open Go.RowKit

theorem usable_no {x : CertS} (h : restB x = true → False) : usableB x = false := by
  rw [Bool.eq_false_iff]; intro c
  exact h (usable_parts c).2.2
theorem u_id {x : CertS} (h : idB x.id = false) : usableB x = false := by unfold usableB; rw [h]; rfl
theorem u_dig {x : CertS} (h : digB x.dig = false) : usableB x = false := by unfold usableB; rw [h, Bool.and_false]; rfl
theorem u_ver {x : CertS} (h : x.ver < 0 ∨ 2 < x.ver) : usableB x = false := usable_no fun c => by
  rcases rest_cases c with ⟨e, _⟩ | ⟨e, _⟩ | ⟨e, _⟩ <;> omega
theorem u_prf {x : CertS} (h : x.ver ≠ 1) (h2 : 0 < x.prf.length) : usableB x = false := usable_no fun c => by
  rcases rest_cases c with ⟨e, p, _⟩ | ⟨e, _⟩ | ⟨e, p, _⟩
  · rw [p] at h2; simp at h2
  · exact h e
  · rw [p] at h2; simp at h2
theorem u_state {x : CertS} (h : x.ver ≠ 2) (h2 : 0 < x.old.length + x.now.length) : usableB x = false := usable_no fun c => by
  rcases rest_cases c with ⟨e, _, p, q⟩ | ⟨e, _, p, q⟩ | ⟨e, _⟩
  · rw [p, q] at h2; simp at h2
  · rw [p, q] at h2; simp at h2
  · exact h e
theorem u_len {x : CertS} (h : 20000 < x.prf.length) : usableB x = false := usable_no fun c => by
  rcases rest_cases c with ⟨_, p, _⟩ | ⟨_, p, _⟩ | ⟨_, p, _⟩
  · rw [p] at h; simp at h
  · have := (prf_ranged p).2.2; omega
  · rw [p] at h; simp at h
theorem u_two {x : CertS} (h : x.old.length ≠ x.now.length) : usableB x = false := usable_no fun c => by
  rcases rest_cases c with ⟨_, _, p, q⟩ | ⟨_, _, p, q⟩ | ⟨_, _, p, _⟩
  · rw [p, q] at h; exact h rfl
  · rw [p, q] at h; exact h rfl
  · exact h p
theorem u_cells {x : CertS} (h : 32 < x.old.length) : usableB x = false := usable_no fun c => by
  rcases rest_cases c with ⟨_, _, p, q⟩ | ⟨_, _, p, q⟩ | ⟨_, _, _, p, _⟩
  · rw [p] at h; simp at h
  · rw [p] at h; simp at h
  · have := (st_small p).1; omega
theorem u_old {x : CertS} (h : withinB 0 255 x.old = false) : usableB x = false := usable_no fun c => by
  rcases rest_cases c with ⟨_, _, p, q⟩ | ⟨_, _, p, q⟩ | ⟨_, _, _, p, _⟩
  · rw [p] at h; cases h
  · rw [p] at h; cases h
  · unfold stB at p; rw [h] at p; cases p
theorem u_now {x : CertS} (h : withinB 0 255 x.now = false) : usableB x = false := usable_no fun c => by
  rcases rest_cases c with ⟨_, _, p, q⟩ | ⟨_, _, p, q⟩ | ⟨_, _, _, _, p⟩
  · rw [q] at h; cases h
  · rw [q] at h; cases h
  · unfold stB at p; rw [h] at p; cases p
theorem u_step {x : CertS} (h : x.prf.all stepB = false) : usableB x = false := usable_no fun c => by
  rcases rest_cases c with ⟨_, p, _⟩ | ⟨_, p, _⟩ | ⟨_, p, _⟩
  · rw [p] at h; cases h
  · rw [prf_eq, h, Bool.and_false] at p; cases p
  · rw [p] at h; cases h
theorem u_all {x : CertS} (h1 : idB x.id = true) (h2 : digB x.dig = true) (h3 : ¬ x.ver < 0) (h4 : ¬ 2 < x.ver) (h5 : x.ver ≠ 1 → x.prf.length = 0) (h6 : x.ver ≠ 2 → x.old.length + x.now.length = 0) (h7 : ¬ 20000 < x.prf.length) (h8 : x.old.length = x.now.length) (h9 : ¬ 32 < x.old.length)
    (h10 : withinB 0 255 x.old = true) (h11 : withinB 0 255 x.now = true) (h12 : x.prf.all stepB = true) : usableB x = true := by
  unfold usableB restB
  rw [h1, h2, prf_eq, h12]
  unfold stB
  rw [h10, h11]
  by_cases e0 : x.ver = 0
  · have a := h5 (by omega); have b := h6 (by omega)
    rw [if_pos e0, decide_eq_true a, decide_eq_true (p := x.old.length = 0) (by omega), decide_eq_true (p := x.now.length = 0) (by omega)]; rfl
  · rw [if_neg e0]
    by_cases e1 : x.ver = 1
    · have b := h6 (by omega)
      rw [if_pos e1, decide_eq_true (p := x.prf.length ≤ 20000) (by omega), decide_eq_true (p := x.old.length = 0) (by omega), decide_eq_true (p := x.now.length = 0) (by omega)]; rfl
    · have a := h5 e1
      rw [if_neg e1, if_pos (by omega), decide_eq_true a, decide_eq_true h8, decide_eq_true (p := x.old.length ≤ 32) (by omega), decide_eq_true (p := x.now.length ≤ 32) (by omega)]; rfl

set_option maxHeartbeats 8000000 in
set_option maxRecDepth 100000 in
theorem RUsable_any (x : CertS) (vx : Value) (w : World) (hx : CertV w vx x) (hs : SmallI x) : Calls Tryd.prog 11 #[vx] w fun r w' => r = .returned (.bool (usableB x)) ∧ Ext w w' := by
  obtain ⟨pa, pc, oa, oc, na, nc, rfl, hx⟩ := hx
  have hl1 := hs.len; have hl2 := hs.old; have hl3 := hs.now
  have HI : Hid (∀ w, Calls Tryd.prog 27 #[.string ⟨x.id.toArray⟩] w fun e w' => e = .returned (.bool (idB x.id)) ∧ w' = w) := fun w => Label_any _ w (by have := hs.id; omega)
  have HD : Hid (∀ w, Calls Tryd.prog 28 #[.string ⟨x.dig.toArray⟩] w fun e w' => e = .returned (.bool (digB x.dig)) ∧ w' = w) := fun w => RIsDigest_any _ w (by have := hs.dig; omega)
  have HO : Hid (∀ w', Ext w w' → Calls Tryd.prog 29 #[.slice oa x.old.length oc, .int .i64 0, .int .i64 255] w' fun e w2 => e = .returned (.bool (withinB 0 255 x.old)) ∧ Ext w' w2) := fun w' he => Rwithin_any 0 255 _ _ _ (hx.2.1.ext he)
  have HW : Hid (∀ w', Ext w w' → Calls Tryd.prog 29 #[.slice na x.now.length nc, .int .i64 0, .int .i64 255] w' fun e w2 => e = .returned (.bool (withinB 0 255 x.now)) ∧ Ext w' w2) := fun w' he => Rwithin_any 0 255 _ _ _ (hx.2.2.ext he)
  have HS := Lib.hid hx.1
  clear hx hs
  obtain ⟨W, hW⟩ : ∃ W, W = w.alloc (.cells (certCells x pa pc oa oc na nc) 25) := ⟨_, rfl⟩
  have hX : Ext w W := by rw [hW]; exact (Ext.refl _).alloc _
  have hC : CertAt W w.heap.size x pa pc oa oc na nc := by rw [hW]; exact heap_new _ _
  obtain ⟨q0, q1, q2, q3, q4, q5⟩ := hC.cells
  have HC := Lib.hid hC; have HX := Lib.hid hX; have HWE := Lib.hid hW
  clear hC hX hW
  unfold certCells at *
  go_enter Tryd.func11, Tryd.ntmps11
  go_upto_region 1 with fail
  rw [← HWE.out]
  clear HWE
  generalize w.heap.size = b at *
  cases hi : idB x.id with
  | false =>
    rw [hi] at HI
    have HF := Lib.hid (u_id hi)
    go_wp2_with (go_at_call 27; refine (HI.out _).mono ?_; rintro r w1 ⟨rfl, rfl⟩)
    go_ret
    rw [HF.out]; exact ⟨rfl, HX.out⟩
  | true =>
  rw [hi] at HI
  cases hd : digB x.dig with
  | false =>
    rw [hd] at HD
    have HF := Lib.hid (u_dig hd)
    go_wp2_with (first
      | (go_at_call 27; refine (HI.out _).mono ?_; rintro r w1 ⟨rfl, rfl⟩)
      | (go_at_call 28; refine (HD.out _).mono ?_; rintro r w1 ⟨rfl, rfl⟩))
    go_ret
    rw [HF.out]; exact ⟨rfl, HX.out⟩
  | true =>
  rw [hd] at HD
  by_cases c1 : x.ver < 0
  · have HF := Lib.hid (u_ver (.inl c1))
    go_wp2_with (first
      | (go_at_call 27; refine (HI.out _).mono ?_; rintro r w1 ⟨rfl, rfl⟩)
      | (go_at_call 28; refine (HD.out _).mono ?_; rintro r w1 ⟨rfl, rfl⟩))
    go_ret
    rw [HF.out]; exact ⟨rfl, HX.out⟩
  by_cases c2 : 2 < x.ver
  · have HF := Lib.hid (u_ver (.inr c2))
    go_wp2_with (first
      | (go_at_call 27; refine (HI.out _).mono ?_; rintro r w1 ⟨rfl, rfl⟩)
      | (go_at_call 28; refine (HD.out _).mono ?_; rintro r w1 ⟨rfl, rfl⟩))
    go_ret
    rw [HF.out]; exact ⟨rfl, HX.out⟩
  go_upto_region 3 with (first
      | (go_at_call 27; refine (HI.out _).mono ?_; rintro r w1 ⟨rfl, rfl⟩)
      | (go_at_call 28; refine (HD.out _).mono ?_; rintro r w1 ⟨rfl, rfl⟩))
  clear HI HD
  have HC1 := Lib.hid c1; have HC2 := Lib.hid c2; have HI1 := Lib.hid hi; have HI2 := Lib.hid hd
  clear c1 c2 hi hd q0 q1
  have hwr : wrap64 ((x.old.length : Int) + (x.now.length : Int)) = ((x.old.length + x.now.length : Nat) : Int) := by unfold wrap64; omega
  obtain ⟨sn, hsn⟩ : ∃ sn, sn = x.old.length + x.now.length := ⟨_, rfl⟩
  rw [← hsn] at hwr
  have HSN := Lib.hid hsn
  have HB1 : Hid ((x.ver != 1) = true ↔ x.ver ≠ 1) := by unfold Hid; simp
  have HB2 : Hid ((x.ver != 2) = true ↔ x.ver ≠ 2) := by unfold Hid; simp
  have H5 : Hid (x.ver ≠ 1 → 0 < x.prf.length → usableB x = false) := u_prf
  have H6 : Hid (x.ver ≠ 2 → 0 < sn → usableB x = false) := fun h h1 => u_state h (by omega)
  have H7 : Hid (20000 < x.prf.length → usableB x = false) := u_len
  have H8 : Hid (x.old.length ≠ x.now.length → usableB x = false) := u_two
  have H9 : Hid (32 < x.old.length → usableB x = false) := u_cells
  have H10 : Hid (withinB 0 255 x.old = false → usableB x = false) := u_old
  have H11 : Hid (withinB 0 255 x.now = false → usableB x = false) := u_now
  have H12 : Hid (x.prf.all stepB = false → usableB x = false) := u_step
  have HALL : Hid ((x.ver ≠ 1 → x.prf.length = 0) → (x.ver ≠ 2 → sn = 0) → ¬ 20000 < x.prf.length → x.old.length = x.now.length → ¬ 32 < x.old.length → withinB 0 255 x.old = true → withinB 0 255 x.now = true → x.prf.all stepB = true → usableB x = true) :=
    fun a5 a6 a7 a8 a9 a10 a11 a12 => u_all HI1.out HI2.out (by have := HC1.out; omega) (by have := HC2.out; omega) a5 (fun h => by have := a6 h; omega) a7 a8 a9 a10 a11 a12
  clear hsn HC1 HC2 HI1 HI2
  generalize withinB 0 255 x.old = wo at *
  generalize withinB 0 255 x.now = wn at *
  generalize x.prf = l at *
  generalize x.old.length = on at *
  generalize x.now.length = nn at *
  generalize hq1 : (x.ver != 1) = B1 at *
  generalize hq2 : (x.ver != 2) = B2 at *
  generalize x.ver = ver at *
  have HQ1 := Lib.hid hq1; have HQ2 := Lib.hid hq2
  cases B1 with
  | false =>
    have HV1 : Hid (ver = 1) := by unfold Hid; simpa using hq1
    cases B2 with
    | false => have : ver = 2 := by simpa using hq2
               have := HV1.out; omega
    | true =>
      have HV2 : Hid (ver ≠ 2) := by unfold Hid; simpa using hq2
      by_cases c4 : (0 : Int) < (sn : Int)
      · have HF := Lib.hid (H6.out HV2.out (by omega))
        have c4b : (0 : Int) < (on : Int) + (nn : Int) := by have := HSN.out; omega
        go_wp2_with fail
        go_ret
        rw [HF.out]; exact ⟨rfl, HX.out⟩
      have HA5 : Hid (ver ≠ 1 → l.length = 0) := fun h => absurd HV1.out h
      have HA6 : Hid (ver ≠ 2 → sn = 0) := fun h => by omega
      have c4b : ¬ (0 : Int) < (on : Int) + (nn : Int) := by have := HSN.out; omega
      clear HV1 HV2 HQ1 HQ2 H5 H6 HB1 HB2
      go_upto_region 5 with fail
      clear hq1 hq2 hwr q2
      have c7 : ¬ (20000 : Int) < (l.length : Int) := by omega
      by_cases c8 : on = nn
      case neg =>
        have HF := Lib.hid (H8.out c8)
        have b8 : (((on : Nat) : Int) != ((nn : Nat) : Int)) = true := by rw [bne_iff_ne]; omega
        clear c8
        go_wp2_with fail
        go_ret
        rw [HF.out]; exact ⟨rfl, HX.out⟩
      have HC8 : Hid (on = nn) := c8
      subst c8
      by_cases c9 : (32 : Int) < (on : Int)
      · first
          | (exfalso; omega)
          | (have HF := Lib.hid (H9.out (by omega))
             go_wp2_with fail
             go_ret
             rw [HF.out]; exact ⟨rfl, HX.out⟩)
      cases wo with
      | false =>
        have HF := Lib.hid (H10.out (by first | trivial | rfl))
        go_wp2_with (go_at_call 29; refine (HO.out _ HX.out).mono ?_; rintro r w1 ⟨rfl, x1⟩; have HX1 := Lib.hid (HX.out.trans x1); clear x1)
        go_ret
        rw [HF.out]; exact ⟨rfl, HX1.out⟩
      | true =>
      cases wn with
      | false =>
        have HF := Lib.hid (H11.out (by first | trivial | rfl))
        go_wp2_with (first
          | (have hgo := HX1.out; clear hgo; go_at_call 29; refine (HW.out _ HX1.out).mono ?_; rintro r w2 ⟨rfl, x2⟩; have HX2 := Lib.hid (HX1.out.trans x2); clear x2)
          | (go_at_call 29; refine (HO.out _ HX.out).mono ?_; rintro r w1 ⟨rfl, x1⟩; have HX1 := Lib.hid (HX.out.trans x1); have q5 := x1.cell q5; clear x1))
        go_ret
        rw [HF.out]; exact ⟨rfl, HX2.out⟩
      | true =>
      go_upto_region 8 with (first
          | (have hgo := HX1.out; clear hgo; go_at_call 29; refine (HW.out _ HX1.out).mono ?_; rintro r w2 ⟨rfl, x2⟩; have HX2 := Lib.hid (HX1.out.trans x2); have q3 := x2.cell q3; clear x2)
          | (go_at_call 29; refine (HO.out _ HX.out).mono ?_; rintro r w1 ⟨rfl, x1⟩; have HX1 := Lib.hid (HX.out.trans x1); have q3 := x1.cell q3; have q5 := x1.cell q5; clear x1))
      have HQ3 := Lib.hid q3
      have HA7 : Hid (usableB x = l.all stepB) := by
        cases hall : l.all stepB with
        | true => exact HALL.out HA5.out HA6.out (by omega) HC8.out (by omega) (by first | trivial | rfl) (by first | trivial | rfl) hall
        | false => exact H12.out hall
      clear q3 q4 q5 c7 c9 HALL H7 H8 H9 H10 H11 H12 HA5 HA6 HC8 HO HW HC HSN
      try clear c3n
      try clear c3
      go_loopw [3] (fun i wr => ∃ k : Nat, k ≤ l.length ∧ i = .int .i64 k ∧ Ext w2 wr ∧ ∀ j, (h : j < l.length) → j < k → stepB l[j] = true) (fun i _ => l.length - (intOf i).toNat)
      case atStart => exact ⟨0, Nat.zero_le _, rfl, Ext.refl _, fun _ _ h => absurd h (by omega)⟩
      case round =>
        obtain ⟨k, hk, rfl, hY, hR⟩ := hrel
        have HR := Lib.hid hR; have HY2 := Lib.hid hY; clear hR hY
        have q3 := HY2.out.cell HQ3.out
        by_cases hlt : k < l.length
        · obtain ⟨b2, o, a1, c1, a2, c2, rfl, g0, g1, i1, i2⟩ := (HS.out.ext (HX2.out.trans HY2.out)).at hlt
          have i0 : (0 : Int) ≤ (k : Int) := by omega
          have j1 : (k : Int) < (l.length : Int) := by omega
          have HY : Hid (stepB l[k] = true → ∀ j, (h : j < l.length) → j < k + 1 → stepB l[j] = true) := fun h j hj hj2 => by
            by_cases c : j = k
            · subst c; exact h
            · exact HR.out j hj (by omega)
          have HN : Hid (stepB l[k] = false → usableB x = false) := fun h => by rw [HA7.out, all_no hlt h]
          have hst : stepB l[k] = (l[k].lits.all litB && withinB 0 60000 l[k].hints) := rfl
          rw [hst] at HY HN
          clear hst
          have h1 := SliceAt.len_le i1
          have J1 := Lib.hid i1; have J2 := Lib.hid i2
          clear i1 i2
          generalize l[k].lits = ls at *
          generalize l[k].hints = hs at *
          go_upto_region 12 with fail
          go_loopw [5] (fun i w3 => w3 = wr ∧ ∃ m : Nat, m ≤ ls.length ∧ i = .int .i64 m ∧ ∀ j, (h : j < ls.length) → j < m → litB ls[j] = true) (fun i _ => ls.length - (intOf i).toNat)
          case atStart => exact ⟨rfl, 0, Nat.zero_le _, rfl, fun _ _ h => absurd h (by omega)⟩
          case round =>
            obtain ⟨rfl, m, hm, rfl, hS⟩ := hrel
            have HSS := Lib.hid hS; clear hS
            by_cases hlt2 : m < ls.length
            · obtain ⟨b3, o3, rfl, g2⟩ := ints_cell J1.out hlt2
              have i2 : (0 : Int) ≤ (m : Int) := by omega
              have j2 : (m : Int) < (ls.length : Int) := by omega
              have HY3 : Hid (litB ls[m] = true → ∀ j, (h : j < ls.length) → j < m + 1 → litB ls[j] = true) := fun h j hj hj2 => by
                by_cases c : j = m
                · subst c; exact h
                · exact HSS.out j hj (by omega)
              have HN2 : Hid (litB ls[m] = false → usableB x = false) := fun h => HN.out (by rw [all_no hlt2 h]; rfl)
              generalize ls[m] = y at *
              by_cases d1 : y = 0
              · have HT := Lib.hid (HN2.out (by unfold litB; simp [d1]))
                subst d1
                go_wp2_with fail
                go_ret
                rw [HT.out]; exact ⟨rfl, HX2.out.trans HY2.out⟩
              have d1b : (y == 0) = false := by simpa using d1
              by_cases d2 : 8000 < y
              · have HT := Lib.hid (HN2.out (by unfold litB; simp; omega))
                clear d1
                go_wp2_with fail
                go_ret
                rw [HT.out]; exact ⟨rfl, HX2.out.trans HY2.out⟩
              by_cases d3 : y < -8000
              · have HT := Lib.hid (HN2.out (by unfold litB; simp; omega))
                clear d1
                go_wp2_with fail
                go_ret
                rw [HT.out]; exact ⟨rfl, HX2.out.trans HY2.out⟩
              have HT := Lib.hid (HY3.out (by unfold litB; simp; omega))
              clear d1
              go_wp2_with fail
              exact ⟨⟨trivial, m + 1, by omega, by go_num, HT.out⟩, by simp [intOf]; omega⟩
            · have HA : Hid (ls.all litB = true) := all_yes fun j hj => HSS.out j hj (by omega)
              have HWI := Lib.hid (Rwithin_any 0 60000 hs _ _ J2.out)
              cases hwi : withinB 0 60000 hs with
              | false =>
                have HT := Lib.hid (HN.out (by rw [hwi, Bool.and_false]))
                rw [hwi] at HWI
                go_wp2_with (go_at_call 29; refine HWI.out.mono ?_; rintro r w4 ⟨rfl, x4⟩)
                go_ret
                rw [HT.out]; exact ⟨rfl, (HX2.out.trans HY2.out).trans x4⟩
              | true =>
                have HT := Lib.hid (HY.out (by rw [HA.out, hwi]; rfl))
                rw [hwi] at HWI
                go_wp2_with (go_at_call 29; refine HWI.out.mono ?_; rintro r w4 ⟨rfl, x4⟩; have HX4 := Lib.hid (HY2.out.trans x4); clear x4)
                exact ⟨⟨k + 1, by omega, by go_num, HX4.out, HT.out⟩, by simp [intOf]; omega⟩
        · have HA : Hid (l.all stepB = true) := all_yes fun j hj => HR.out j hj (by omega)
          go_wp2_with fail
          go_ret
          rw [HA7.out, HA.out]; exact ⟨rfl, HX2.out.trans HY2.out⟩
  | true =>
    have HV1 : Hid (ver ≠ 1) := by unfold Hid; simpa using hq1
    by_cases c3 : (0 : Int) < (l.length : Int)
    · have HF := Lib.hid (H5.out HV1.out (by omega))
      have c3n : 0 < l.length := by omega
      clear c3
      go_wp2_with fail
      go_ret
      rw [HF.out]; exact ⟨rfl, HX.out⟩
    have HA5 : Hid (ver ≠ 1 → l.length = 0) := fun h => by omega
    have c3n : decide (0 < l.length) = false := decide_eq_false (by omega)
    cases B2 with
    | false =>
      have HV2 : Hid (ver = 2) := by unfold Hid; simpa using hq2
      have HA6 : Hid (ver ≠ 2 → sn = 0) := fun h => absurd HV2.out h
      clear HV1 HV2 HQ1 HQ2 H5 H6 HB1 HB2
      go_upto_region 5 with fail
      clear hq1 hq2 hwr q2
      have c7 : ¬ (20000 : Int) < (l.length : Int) := by omega
      by_cases c8 : on = nn
      case neg =>
        have HF := Lib.hid (H8.out c8)
        have b8 : (((on : Nat) : Int) != ((nn : Nat) : Int)) = true := by rw [bne_iff_ne]; omega
        clear c8
        go_wp2_with fail
        go_ret
        rw [HF.out]; exact ⟨rfl, HX.out⟩
      have HC8 : Hid (on = nn) := c8
      subst c8
      by_cases c9 : (32 : Int) < (on : Int)
      · first
          | (exfalso; omega)
          | (have HF := Lib.hid (H9.out (by omega))
             go_wp2_with fail
             go_ret
             rw [HF.out]; exact ⟨rfl, HX.out⟩)
      cases wo with
      | false =>
        have HF := Lib.hid (H10.out (by first | trivial | rfl))
        go_wp2_with (go_at_call 29; refine (HO.out _ HX.out).mono ?_; rintro r w1 ⟨rfl, x1⟩; have HX1 := Lib.hid (HX.out.trans x1); clear x1)
        go_ret
        rw [HF.out]; exact ⟨rfl, HX1.out⟩
      | true =>
      cases wn with
      | false =>
        have HF := Lib.hid (H11.out (by first | trivial | rfl))
        go_wp2_with (first
          | (have hgo := HX1.out; clear hgo; go_at_call 29; refine (HW.out _ HX1.out).mono ?_; rintro r w2 ⟨rfl, x2⟩; have HX2 := Lib.hid (HX1.out.trans x2); clear x2)
          | (go_at_call 29; refine (HO.out _ HX.out).mono ?_; rintro r w1 ⟨rfl, x1⟩; have HX1 := Lib.hid (HX.out.trans x1); have q5 := x1.cell q5; clear x1))
        go_ret
        rw [HF.out]; exact ⟨rfl, HX2.out⟩
      | true =>
      go_upto_region 8 with (first
          | (have hgo := HX1.out; clear hgo; go_at_call 29; refine (HW.out _ HX1.out).mono ?_; rintro r w2 ⟨rfl, x2⟩; have HX2 := Lib.hid (HX1.out.trans x2); have q3 := x2.cell q3; clear x2)
          | (go_at_call 29; refine (HO.out _ HX.out).mono ?_; rintro r w1 ⟨rfl, x1⟩; have HX1 := Lib.hid (HX.out.trans x1); have q3 := x1.cell q3; have q5 := x1.cell q5; clear x1))
      have HQ3 := Lib.hid q3
      have HA7 : Hid (usableB x = l.all stepB) := by
        cases hall : l.all stepB with
        | true => exact HALL.out HA5.out HA6.out (by omega) HC8.out (by omega) (by first | trivial | rfl) (by first | trivial | rfl) hall
        | false => exact H12.out hall
      clear q3 q4 q5 c7 c9 HALL H7 H8 H9 H10 H11 H12 HA5 HA6 HC8 HO HW HC HSN
      try clear c3n
      try clear c3
      go_loopw [3] (fun i wr => ∃ k : Nat, k ≤ l.length ∧ i = .int .i64 k ∧ Ext w2 wr ∧ ∀ j, (h : j < l.length) → j < k → stepB l[j] = true) (fun i _ => l.length - (intOf i).toNat)
      case atStart => exact ⟨0, Nat.zero_le _, rfl, Ext.refl _, fun _ _ h => absurd h (by omega)⟩
      case round =>
        obtain ⟨k, hk, rfl, hY, hR⟩ := hrel
        have HR := Lib.hid hR; have HY2 := Lib.hid hY; clear hR hY
        have q3 := HY2.out.cell HQ3.out
        by_cases hlt : k < l.length
        · obtain ⟨b2, o, a1, c1, a2, c2, rfl, g0, g1, i1, i2⟩ := (HS.out.ext (HX2.out.trans HY2.out)).at hlt
          have i0 : (0 : Int) ≤ (k : Int) := by omega
          have j1 : (k : Int) < (l.length : Int) := by omega
          have HY : Hid (stepB l[k] = true → ∀ j, (h : j < l.length) → j < k + 1 → stepB l[j] = true) := fun h j hj hj2 => by
            by_cases c : j = k
            · subst c; exact h
            · exact HR.out j hj (by omega)
          have HN : Hid (stepB l[k] = false → usableB x = false) := fun h => by rw [HA7.out, all_no hlt h]
          have hst : stepB l[k] = (l[k].lits.all litB && withinB 0 60000 l[k].hints) := rfl
          rw [hst] at HY HN
          clear hst
          have h1 := SliceAt.len_le i1
          have J1 := Lib.hid i1; have J2 := Lib.hid i2
          clear i1 i2
          generalize l[k].lits = ls at *
          generalize l[k].hints = hs at *
          go_upto_region 12 with fail
          go_loopw [5] (fun i w3 => w3 = wr ∧ ∃ m : Nat, m ≤ ls.length ∧ i = .int .i64 m ∧ ∀ j, (h : j < ls.length) → j < m → litB ls[j] = true) (fun i _ => ls.length - (intOf i).toNat)
          case atStart => exact ⟨rfl, 0, Nat.zero_le _, rfl, fun _ _ h => absurd h (by omega)⟩
          case round =>
            obtain ⟨rfl, m, hm, rfl, hS⟩ := hrel
            have HSS := Lib.hid hS; clear hS
            by_cases hlt2 : m < ls.length
            · obtain ⟨b3, o3, rfl, g2⟩ := ints_cell J1.out hlt2
              have i2 : (0 : Int) ≤ (m : Int) := by omega
              have j2 : (m : Int) < (ls.length : Int) := by omega
              have HY3 : Hid (litB ls[m] = true → ∀ j, (h : j < ls.length) → j < m + 1 → litB ls[j] = true) := fun h j hj hj2 => by
                by_cases c : j = m
                · subst c; exact h
                · exact HSS.out j hj (by omega)
              have HN2 : Hid (litB ls[m] = false → usableB x = false) := fun h => HN.out (by rw [all_no hlt2 h]; rfl)
              generalize ls[m] = y at *
              by_cases d1 : y = 0
              · have HT := Lib.hid (HN2.out (by unfold litB; simp [d1]))
                subst d1
                go_wp2_with fail
                go_ret
                rw [HT.out]; exact ⟨rfl, HX2.out.trans HY2.out⟩
              have d1b : (y == 0) = false := by simpa using d1
              by_cases d2 : 8000 < y
              · have HT := Lib.hid (HN2.out (by unfold litB; simp; omega))
                clear d1
                go_wp2_with fail
                go_ret
                rw [HT.out]; exact ⟨rfl, HX2.out.trans HY2.out⟩
              by_cases d3 : y < -8000
              · have HT := Lib.hid (HN2.out (by unfold litB; simp; omega))
                clear d1
                go_wp2_with fail
                go_ret
                rw [HT.out]; exact ⟨rfl, HX2.out.trans HY2.out⟩
              have HT := Lib.hid (HY3.out (by unfold litB; simp; omega))
              clear d1
              go_wp2_with fail
              exact ⟨⟨trivial, m + 1, by omega, by go_num, HT.out⟩, by simp [intOf]; omega⟩
            · have HA : Hid (ls.all litB = true) := all_yes fun j hj => HSS.out j hj (by omega)
              have HWI := Lib.hid (Rwithin_any 0 60000 hs _ _ J2.out)
              cases hwi : withinB 0 60000 hs with
              | false =>
                have HT := Lib.hid (HN.out (by rw [hwi, Bool.and_false]))
                rw [hwi] at HWI
                go_wp2_with (go_at_call 29; refine HWI.out.mono ?_; rintro r w4 ⟨rfl, x4⟩)
                go_ret
                rw [HT.out]; exact ⟨rfl, (HX2.out.trans HY2.out).trans x4⟩
              | true =>
                have HT := Lib.hid (HY.out (by rw [HA.out, hwi]; rfl))
                rw [hwi] at HWI
                go_wp2_with (go_at_call 29; refine HWI.out.mono ?_; rintro r w4 ⟨rfl, x4⟩; have HX4 := Lib.hid (HY2.out.trans x4); clear x4)
                exact ⟨⟨k + 1, by omega, by go_num, HX4.out, HT.out⟩, by simp [intOf]; omega⟩
        · have HA : Hid (l.all stepB = true) := all_yes fun j hj => HR.out j hj (by omega)
          go_wp2_with fail
          go_ret
          rw [HA7.out, HA.out]; exact ⟨rfl, HX2.out.trans HY2.out⟩
    | true =>
      have HV2 : Hid (ver ≠ 2) := by unfold Hid; simpa using hq2
      by_cases c4 : (0 : Int) < (sn : Int)
      · have HF := Lib.hid (H6.out HV2.out (by omega))
        have c4b : (0 : Int) < (on : Int) + (nn : Int) := by have := HSN.out; omega
        go_wp2_with fail
        go_ret
        rw [HF.out]; exact ⟨rfl, HX.out⟩
      have HA6 : Hid (ver ≠ 2 → sn = 0) := fun h => by omega
      have c4b : ¬ (0 : Int) < (on : Int) + (nn : Int) := by have := HSN.out; omega
      clear HV1 HV2 HQ1 HQ2 H5 H6 HB1 HB2
      go_upto_region 5 with fail
      clear hq1 hq2 hwr q2
      have c7 : ¬ (20000 : Int) < (l.length : Int) := by omega
      by_cases c8 : on = nn
      case neg =>
        have HF := Lib.hid (H8.out c8)
        have b8 : (((on : Nat) : Int) != ((nn : Nat) : Int)) = true := by rw [bne_iff_ne]; omega
        clear c8
        go_wp2_with fail
        go_ret
        rw [HF.out]; exact ⟨rfl, HX.out⟩
      have HC8 : Hid (on = nn) := c8
      subst c8
      by_cases c9 : (32 : Int) < (on : Int)
      · first
          | (exfalso; omega)
          | (have HF := Lib.hid (H9.out (by omega))
             go_wp2_with fail
             go_ret
             rw [HF.out]; exact ⟨rfl, HX.out⟩)
      cases wo with
      | false =>
        have HF := Lib.hid (H10.out (by first | trivial | rfl))
        go_wp2_with (go_at_call 29; refine (HO.out _ HX.out).mono ?_; rintro r w1 ⟨rfl, x1⟩; have HX1 := Lib.hid (HX.out.trans x1); clear x1)
        go_ret
        rw [HF.out]; exact ⟨rfl, HX1.out⟩
      | true =>
      cases wn with
      | false =>
        have HF := Lib.hid (H11.out (by first | trivial | rfl))
        go_wp2_with (first
          | (have hgo := HX1.out; clear hgo; go_at_call 29; refine (HW.out _ HX1.out).mono ?_; rintro r w2 ⟨rfl, x2⟩; have HX2 := Lib.hid (HX1.out.trans x2); clear x2)
          | (go_at_call 29; refine (HO.out _ HX.out).mono ?_; rintro r w1 ⟨rfl, x1⟩; have HX1 := Lib.hid (HX.out.trans x1); have q5 := x1.cell q5; clear x1))
        go_ret
        rw [HF.out]; exact ⟨rfl, HX2.out⟩
      | true =>
      go_upto_region 8 with (first
          | (have hgo := HX1.out; clear hgo; go_at_call 29; refine (HW.out _ HX1.out).mono ?_; rintro r w2 ⟨rfl, x2⟩; have HX2 := Lib.hid (HX1.out.trans x2); have q3 := x2.cell q3; clear x2)
          | (go_at_call 29; refine (HO.out _ HX.out).mono ?_; rintro r w1 ⟨rfl, x1⟩; have HX1 := Lib.hid (HX.out.trans x1); have q3 := x1.cell q3; have q5 := x1.cell q5; clear x1))
      have HQ3 := Lib.hid q3
      have HA7 : Hid (usableB x = l.all stepB) := by
        cases hall : l.all stepB with
        | true => exact HALL.out HA5.out HA6.out (by omega) HC8.out (by omega) (by first | trivial | rfl) (by first | trivial | rfl) hall
        | false => exact H12.out hall
      clear q3 q4 q5 c7 c9 HALL H7 H8 H9 H10 H11 H12 HA5 HA6 HC8 HO HW HC HSN
      try clear c3n
      try clear c3
      go_loopw [3] (fun i wr => ∃ k : Nat, k ≤ l.length ∧ i = .int .i64 k ∧ Ext w2 wr ∧ ∀ j, (h : j < l.length) → j < k → stepB l[j] = true) (fun i _ => l.length - (intOf i).toNat)
      case atStart => exact ⟨0, Nat.zero_le _, rfl, Ext.refl _, fun _ _ h => absurd h (by omega)⟩
      case round =>
        obtain ⟨k, hk, rfl, hY, hR⟩ := hrel
        have HR := Lib.hid hR; have HY2 := Lib.hid hY; clear hR hY
        have q3 := HY2.out.cell HQ3.out
        by_cases hlt : k < l.length
        · obtain ⟨b2, o, a1, c1, a2, c2, rfl, g0, g1, i1, i2⟩ := (HS.out.ext (HX2.out.trans HY2.out)).at hlt
          have i0 : (0 : Int) ≤ (k : Int) := by omega
          have j1 : (k : Int) < (l.length : Int) := by omega
          have HY : Hid (stepB l[k] = true → ∀ j, (h : j < l.length) → j < k + 1 → stepB l[j] = true) := fun h j hj hj2 => by
            by_cases c : j = k
            · subst c; exact h
            · exact HR.out j hj (by omega)
          have HN : Hid (stepB l[k] = false → usableB x = false) := fun h => by rw [HA7.out, all_no hlt h]
          have hst : stepB l[k] = (l[k].lits.all litB && withinB 0 60000 l[k].hints) := rfl
          rw [hst] at HY HN
          clear hst
          have h1 := SliceAt.len_le i1
          have J1 := Lib.hid i1; have J2 := Lib.hid i2
          clear i1 i2
          generalize l[k].lits = ls at *
          generalize l[k].hints = hs at *
          go_upto_region 12 with fail
          go_loopw [5] (fun i w3 => w3 = wr ∧ ∃ m : Nat, m ≤ ls.length ∧ i = .int .i64 m ∧ ∀ j, (h : j < ls.length) → j < m → litB ls[j] = true) (fun i _ => ls.length - (intOf i).toNat)
          case atStart => exact ⟨rfl, 0, Nat.zero_le _, rfl, fun _ _ h => absurd h (by omega)⟩
          case round =>
            obtain ⟨rfl, m, hm, rfl, hS⟩ := hrel
            have HSS := Lib.hid hS; clear hS
            by_cases hlt2 : m < ls.length
            · obtain ⟨b3, o3, rfl, g2⟩ := ints_cell J1.out hlt2
              have i2 : (0 : Int) ≤ (m : Int) := by omega
              have j2 : (m : Int) < (ls.length : Int) := by omega
              have HY3 : Hid (litB ls[m] = true → ∀ j, (h : j < ls.length) → j < m + 1 → litB ls[j] = true) := fun h j hj hj2 => by
                by_cases c : j = m
                · subst c; exact h
                · exact HSS.out j hj (by omega)
              have HN2 : Hid (litB ls[m] = false → usableB x = false) := fun h => HN.out (by rw [all_no hlt2 h]; rfl)
              generalize ls[m] = y at *
              by_cases d1 : y = 0
              · have HT := Lib.hid (HN2.out (by unfold litB; simp [d1]))
                subst d1
                go_wp2_with fail
                go_ret
                rw [HT.out]; exact ⟨rfl, HX2.out.trans HY2.out⟩
              have d1b : (y == 0) = false := by simpa using d1
              by_cases d2 : 8000 < y
              · have HT := Lib.hid (HN2.out (by unfold litB; simp; omega))
                clear d1
                go_wp2_with fail
                go_ret
                rw [HT.out]; exact ⟨rfl, HX2.out.trans HY2.out⟩
              by_cases d3 : y < -8000
              · have HT := Lib.hid (HN2.out (by unfold litB; simp; omega))
                clear d1
                go_wp2_with fail
                go_ret
                rw [HT.out]; exact ⟨rfl, HX2.out.trans HY2.out⟩
              have HT := Lib.hid (HY3.out (by unfold litB; simp; omega))
              clear d1
              go_wp2_with fail
              exact ⟨⟨trivial, m + 1, by omega, by go_num, HT.out⟩, by simp [intOf]; omega⟩
            · have HA : Hid (ls.all litB = true) := all_yes fun j hj => HSS.out j hj (by omega)
              have HWI := Lib.hid (Rwithin_any 0 60000 hs _ _ J2.out)
              cases hwi : withinB 0 60000 hs with
              | false =>
                have HT := Lib.hid (HN.out (by rw [hwi, Bool.and_false]))
                rw [hwi] at HWI
                go_wp2_with (go_at_call 29; refine HWI.out.mono ?_; rintro r w4 ⟨rfl, x4⟩)
                go_ret
                rw [HT.out]; exact ⟨rfl, (HX2.out.trans HY2.out).trans x4⟩
              | true =>
                have HT := Lib.hid (HY.out (by rw [HA.out, hwi]; rfl))
                rw [hwi] at HWI
                go_wp2_with (go_at_call 29; refine HWI.out.mono ?_; rintro r w4 ⟨rfl, x4⟩; have HX4 := Lib.hid (HY2.out.trans x4); clear x4)
                exact ⟨⟨k + 1, by omega, by go_num, HX4.out, HT.out⟩, by simp [intOf]; omega⟩
        · have HA : Hid (l.all stepB = true) := all_yes fun j hj => HR.out j hj (by omega)
          go_wp2_with fail
          go_ret
          rw [HA7.out, HA.out]; exact ⟨rfl, HX2.out.trans HY2.out⟩
end Go.Proofs.YtoopoljchhdobaaDoor
