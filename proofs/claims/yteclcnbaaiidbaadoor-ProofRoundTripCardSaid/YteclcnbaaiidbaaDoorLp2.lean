/-
  The walk of the law ProofRoundTrip. (Printed by gen_lp2.py.)
-/
import Derived.Test.YteclcnbaaiidbaaDoorLp0
namespace Go.Proofs.YteclcnbaaiidbaaDoor
open Go.RowKit

theorem itoa_21 {x : Int} (h : InI x) : (Lib.itoa x).length ≤ 21 := Lib.itoa_length_le x h.1 (by have := h.2; omega)
theorem litText_small : ∀ l : List Int, (∀ x ∈ l, InI x) → (litText l).length ≤ 22 * l.length
  | [], _ => by simp [litText]
  | x :: r, h => by
    have h1 := itoa_21 (h x (by simp)); have h2 := litText_small r fun y hy => h y (by simp [hy])
    have e : litText (x :: r) = Lib.itoa x ++ [32] ++ litText r := by simp [litText]
    rw [e]; simp only [List.length_append, List.length_cons, List.length_nil]; omega
theorem hintText_small : ∀ l : List Int, (∀ x ∈ l, InI x) → (hintText l).length ≤ 22 * l.length
  | [], _ => by simp [hintText]
  | x :: r, h => by
    have h1 := itoa_21 (h x (by simp)); have h2 := hintText_small r fun y hy => h y (by simp [hy])
    have e : hintText (x :: r) = 32 :: (Lib.itoa x ++ hintText r) := by simp [hintText]
    rw [e]; simp only [List.length_append, List.length_cons]; omega
theorem text_small : ∀ l : List St, (∀ s ∈ l, (∀ x ∈ s.lits, InI x) ∧ ∀ x ∈ s.hints, InI x) → (∀ s ∈ l, s.lits.length ≤ 24) → (∀ s ∈ l, s.hints.length ≤ 24) → (textL l).length ≤ 1058 * l.length
  | [], _, _, _ => by simp [textL]
  | s :: r, h, h1, h2 => by
    have ih := text_small r (fun y hy => h y (by simp [hy])) (fun y hy => h1 y (by simp [hy])) (fun y hy => h2 y (by simp [hy]))
    have a := litText_small s.lits (h s (by simp)).1; have b := hintText_small s.hints (h s (by simp)).2
    have c := h1 s (by simp); have d := h2 s (by simp)
    have e : textL (s :: r) = stepText s ++ [10] ++ textL r := by simp [textL]
    rw [e]; unfold stepText; simp only [List.length_append, List.length_cons, List.length_nil]; omega
theorem text_count : ∀ l : List St, (textL l).count 10 = l.length
  | [] => rfl
  | s :: r => by
    have e : textL (s :: r) = stepText s ++ 10 :: textL r := by simp [textL]
    have h0 : (stepText s).count 10 = 0 := List.count_eq_zero.2 fun h => step_chars s 10 h rfl
    rw [e, List.count_append, List.count_cons, h0, text_count r]; simp
theorem ranged_eq (s : St) : ranged s = (rangedB s.lits && rangedB s.hints) := rfl
theorem ranged_in {s : St} (h : ranged s = true) : (∀ x ∈ s.lits, InI x) ∧ ∀ x ∈ s.hints, InI x := by
  unfold ranged at h
  rw [Bool.and_eq_true, List.all_eq_true, List.all_eq_true] at h
  have k : ∀ x, inG x = true → InI x := fun x hx => by unfold inG at hx; simp at hx; unfold InI; omega
  exact ⟨fun x hx => k x (h.1 x hx), fun x hx => k x (h.2 x hx)⟩
theorem all_take {l : List St} {k : Nat} (h : k < l.length) : (l.take (k + 1)).all ranged = ((l.take k).all ranged && (rangedB (l.getD k st0).lits && rangedB (l.getD k st0).hints)) := by
  rw [List.take_succ_eq_append_getElem h, List.all_append]
  have : l.getD k st0 = l[k] := by simp [List.getD, h]
  rw [this, List.all_cons, List.all_nil, Bool.and_true, ranged_eq]
theorem bytes_eq {s t : ByteArray} (h : s.data.toList = t.data.toList) : s = t := by
  cases s; cases t; simp at h; rw [h]
set_option maxRecDepth 100000 in
set_option maxHeartbeats 8000000 in
theorem ProofRoundTrip_any (l : List St) (t : List UInt8) (vl : Value) (w : World) (hl : Steps w vl l) (hn : ∀ s ∈ l, (∀ x ∈ s.lits, InI x) ∧ ∀ x ∈ s.hints, InI x) (ht : t.length ≤ 9223372036854775807) (hT : PTab w) :
    Calls Tryd.prog 3 #[vl, .string ⟨t.toArray⟩] w fun r w' => r = .returned (.bool true) ∧ Ext w w' := by
  obtain ⟨la, lc, rfl⟩ := SliceAt.shape hl
  have hlen := SliceAt.len_le hl
  have HL := Lib.hid hl; have HN := Lib.hid hn; have HT := Lib.hid hT
  have hsz : (⟨t.toArray⟩ : ByteArray).size = t.length := by simp [ByteArray.size]
  clear hl hn hT
  go_enter Tryd.func3, Tryd.ntmps3
  go_wp2_with fail
  refine (head_any w HT.out).mono ?_
  rintro r w1 ⟨rfl, x1⟩
  have X1 := Lib.hid x1
  clear x1
  go_wp2_with fail
  refine (PSmall_any 0 [] l _ _ w1 ⟨_, rfl, .inl ⟨⟨_, _, rfl⟩, rfl⟩⟩ (HL.out.ext X1.out)).mono ?_
  rintro r w2 ⟨rfl, x2⟩
  have X2 := Lib.hid (X1.out.trans x2)
  clear x2
  cases hs : smallP [] l with
  | false =>
    go_wp2_with fail
    go_ret
    exact ⟨rfl, X2.out⟩
  | true =>
    have HS := Lib.hid (small_iff hs).1
    by_cases hg : 4000 < t.length
    · have hg' : (4000 : Int) < (t.length : Int) := by omega
      go_wp2_with fail
      go_ret
      exact ⟨rfl, X2.out⟩
    · have hg' : ¬ (4000 : Int) < (t.length : Int) := by omega
      have HTL : Hid (t.length ≤ 4000) := by unfold Hid; omega
      go_wp2_with fail
      refine (Parse_any t w2 (by have := HTL.out; omega) (by have h1 := HTL.out; have h2 : t.count 10 ≤ t.length := List.count_le_length; omega) (HT.out.ext X2.out)).mono ?_
      rintro r w3 ⟨x3, hq⟩
      have X3 := Lib.hid (X2.out.trans x3)
      clear hg hg'
      rcases hq with ⟨_, rfl⟩ | ⟨ss, v, hp, rfl, ho⟩
      · clear x3
        go_wp2_with fail
        go_loop [8, 9] (fun b i => ∃ k : Nat, k ≤ l.length ∧ i = .int .i64 k ∧ b = .bool ((l.take k).all ranged)) (fun _ i => l.length - (intOf i).toNat)
        case atStart => exact ⟨0, Nat.zero_le _, rfl, rfl⟩
        case round =>
          obtain ⟨k, hk, rfl, rfl⟩ := hrel
          by_cases hlt : k < l.length
          · obtain ⟨b, o, a1, c1, a2, c2, hla, d0, d1, i1, i2⟩ := (HL.out.ext X3.out).getD_at hlt
            subst hla
            have HAT := Lib.hid (all_take hlt)
            have k0 : (0 : Int) ≤ (k : Int) := by omega
            have k1 : (k : Int) < (l.length : Int) := by omega
            have I1 := Lib.hid i1; have I2 := Lib.hid i2
            clear i1 i2
            generalize (l.getD k st0).lits = lits at *
            generalize (l.getD k st0).hints = hints at *
            cases ha : (l.take k).all ranged with
            | false =>
              rw [ha] at HAT
              go_wp2_with fail
              exact ⟨⟨k + 1, by omega, by go_num, by rw [HAT.out]; rfl⟩, by simp [intOf]; omega⟩
            | true =>
              rw [ha] at HAT
              go_wp2_with fail
              refine (ranged_any lits _ _ I1.out).mono ?_
              rintro r w9 ⟨rfl, rfl⟩
              cases hb : rangedB lits with
              | false =>
                rw [hb] at HAT
                go_wp2_with fail
                exact ⟨⟨k + 1, by omega, by go_num, by rw [HAT.out]; rfl⟩, by simp [intOf]; omega⟩
              | true =>
                rw [hb] at HAT
                go_wp2_with fail
                refine (ranged_any hints _ _ I2.out).mono ?_
                rintro r w9 ⟨rfl, rfl⟩
                go_wp2_with fail
                exact ⟨⟨k + 1, by omega, by go_num, by rw [HAT.out]; rfl⟩, by simp [intOf]; omega⟩
          · obtain rfl : k = l.length := by omega
            rw [List.take_length]
            have HTS : Hid ((textL l).length ≤ 1058 * l.length) := text_small l HN.out HS.out.lits HS.out.hints
            have HLL : Hid (l.length ≤ 61) := HS.out.len
            go_wp2_with fail
            refine (Text_any l _ w3 (HL.out.ext X3.out) HN.out (by have h1 := HTS.out; have h2 := HLL.out; omega) (HT.out.ext X3.out).pow).mono ?_
            rintro r w5 ⟨rfl, x5⟩
            have X5 := Lib.hid (X3.out.trans x5)
            clear x5
            go_wp2_with fail
            refine (Parse_any (textL l) w5 (by have h1 := HTS.out; have h2 := HLL.out; omega) (by rw [text_count]; have h2 := HLL.out; omega) (HT.out.ext X5.out)).mono ?_
            rintro r w6 ⟨x6, hq⟩
            have HPT : Hid (parseL (textL l) = if l.all ranged = true then some l else none) := parse_text l fun s hs => ⟨fun x hx => ⟨((HN.out s hs).1 x hx).1, by have := ((HN.out s hs).1 x hx).2; omega⟩, fun x hx => ⟨((HN.out s hs).2 x hx).1, by have := ((HN.out s hs).2 x hx).2; omega⟩⟩
            have X6 := Lib.hid (X5.out.trans x6)
            clear x6
            cases ha : l.all ranged with
            | false =>
              rw [ha] at HPT
              obtain ⟨_, rfl⟩ := hq.resolve_right (fun ⟨s, v, h, _⟩ => by rw [HPT.out] at h; cases h)
              go_wp2_with fail
              go_ret
              exact ⟨rfl, X6.out⟩
            | true =>
              rw [ha, if_pos rfl] at HPT
              obtain ⟨s, v, h, rfl, ho⟩ := hq.resolve_left (fun ⟨h, _⟩ => by rw [HPT.out] at h; cases h)
              obtain rfl : l = s := by rw [HPT.out] at h; cases h; rfl
              have HO := Lib.hid ho.steps
              clear ho h
              go_wp2_with fail
              refine (RSame_any l l _ _ w6 HO.out (HL.out.ext X6.out)).mono ?_
              rintro r w7 ⟨rfl, x7⟩
              rw [show sameP l l = true from sameP_iff.2 rfl]
              have X7 := Lib.hid (X6.out.trans x7)
              clear x7
              go_wp2_with fail
              go_ret
              exact ⟨rfl, X7.out⟩
      · have hst := ho.steps
        obtain ⟨va, vc, rfl⟩ := SliceAt.shape hst
        have HE : Hid (textL ss = t) := text_parse hp
        have HP := Lib.hid hst
        have HRN : Hid (∀ s ∈ ss, (∀ x ∈ s.lits, InI x) ∧ ∀ x ∈ s.hints, InI x) := fun s hs => ranged_in (lines_num _ _ hp s hs)
        clear x3 hp ho hst
        go_wp2_with fail
        refine (Text_any ss _ w3 HP.out HRN.out (by rw [HE.out]; have := HTL.out; omega) (HT.out.ext X3.out).pow).mono ?_
        rintro r w4 ⟨rfl, x4⟩
        rw [HE.out]
        have X4 := Lib.hid (X3.out.trans x4)
        clear x4
        go_wp2_with fail
        go_loop [8, 9] (fun b i => ∃ k : Nat, k ≤ l.length ∧ i = .int .i64 k ∧ b = .bool ((l.take k).all ranged)) (fun _ i => l.length - (intOf i).toNat)
        case atStart => exact ⟨0, Nat.zero_le _, rfl, rfl⟩
        case round =>
          obtain ⟨k, hk, rfl, rfl⟩ := hrel
          by_cases hlt : k < l.length
          · obtain ⟨b, o, a1, c1, a2, c2, hla, d0, d1, i1, i2⟩ := (HL.out.ext X4.out).getD_at hlt
            subst hla
            have HAT := Lib.hid (all_take hlt)
            have k0 : (0 : Int) ≤ (k : Int) := by omega
            have k1 : (k : Int) < (l.length : Int) := by omega
            have I1 := Lib.hid i1; have I2 := Lib.hid i2
            clear i1 i2
            generalize (l.getD k st0).lits = lits at *
            generalize (l.getD k st0).hints = hints at *
            cases ha : (l.take k).all ranged with
            | false =>
              rw [ha] at HAT
              go_wp2_with fail
              exact ⟨⟨k + 1, by omega, by go_num, by rw [HAT.out]; rfl⟩, by simp [intOf]; omega⟩
            | true =>
              rw [ha] at HAT
              go_wp2_with fail
              refine (ranged_any lits _ _ I1.out).mono ?_
              rintro r w9 ⟨rfl, rfl⟩
              cases hb : rangedB lits with
              | false =>
                rw [hb] at HAT
                go_wp2_with fail
                exact ⟨⟨k + 1, by omega, by go_num, by rw [HAT.out]; rfl⟩, by simp [intOf]; omega⟩
              | true =>
                rw [hb] at HAT
                go_wp2_with fail
                refine (ranged_any hints _ _ I2.out).mono ?_
                rintro r w9 ⟨rfl, rfl⟩
                go_wp2_with fail
                exact ⟨⟨k + 1, by omega, by go_num, by rw [HAT.out]; rfl⟩, by simp [intOf]; omega⟩
          · obtain rfl : k = l.length := by omega
            rw [List.take_length]
            have HTS : Hid ((textL l).length ≤ 1058 * l.length) := text_small l HN.out HS.out.lits HS.out.hints
            have HLL : Hid (l.length ≤ 61) := HS.out.len
            go_wp2_with fail
            refine (Text_any l _ w4 (HL.out.ext X4.out) HN.out (by have h1 := HTS.out; have h2 := HLL.out; omega) (HT.out.ext X4.out).pow).mono ?_
            rintro r w5 ⟨rfl, x5⟩
            have X5 := Lib.hid (X4.out.trans x5)
            clear x5
            go_wp2_with fail
            refine (Parse_any (textL l) w5 (by have h1 := HTS.out; have h2 := HLL.out; omega) (by rw [text_count]; have h2 := HLL.out; omega) (HT.out.ext X5.out)).mono ?_
            rintro r w6 ⟨x6, hq⟩
            have HPT : Hid (parseL (textL l) = if l.all ranged = true then some l else none) := parse_text l fun s hs => ⟨fun x hx => ⟨((HN.out s hs).1 x hx).1, by have := ((HN.out s hs).1 x hx).2; omega⟩, fun x hx => ⟨((HN.out s hs).2 x hx).1, by have := ((HN.out s hs).2 x hx).2; omega⟩⟩
            have X6 := Lib.hid (X5.out.trans x6)
            clear x6
            cases ha : l.all ranged with
            | false =>
              rw [ha] at HPT
              obtain ⟨_, rfl⟩ := hq.resolve_right (fun ⟨s, v, h, _⟩ => by rw [HPT.out] at h; cases h)
              go_wp2_with fail
              go_ret
              exact ⟨rfl, X6.out⟩
            | true =>
              rw [ha, if_pos rfl] at HPT
              obtain ⟨s, v, h, rfl, ho⟩ := hq.resolve_left (fun ⟨h, _⟩ => by rw [HPT.out] at h; cases h)
              obtain rfl : l = s := by rw [HPT.out] at h; cases h; rfl
              have HO := Lib.hid ho.steps
              clear ho h
              go_wp2_with fail
              refine (RSame_any l l _ _ w6 HO.out (HL.out.ext X6.out)).mono ?_
              rintro r w7 ⟨rfl, x7⟩
              rw [show sameP l l = true from sameP_iff.2 rfl]
              have X7 := Lib.hid (X6.out.trans x7)
              clear x7
              go_wp2_with fail
              go_ret
              exact ⟨rfl, X7.out⟩
end Go.Proofs.YteclcnbaaiidbaaDoor
