/-
  The walks of Text's closure and of Text.
  What law10's statements use: sets with room, variables, the contracts over valid sets.
-/
import Derived.Test.YtlcgbdjmlnjhcaaGreatDoorG17
import Derived.Test.YtlcgbdjmlnjhcaaGreatDoorG10
import Derived.Test.YtlcgbdjmlnjhcaaGreatDoorG08
import Derived.Test.YtlcgbdjmlnjhcaaGreatDoorG00
import Derived.Deep.RegionHeld3
import Derived.StillTailTactics
import Derived.Test.YtlcgbdjmlnjhcaaGreatDoorG01
import Derived.Test.YtlcgbdjmlnjhcaaGreatDoorG02
import Derived.Test.YtlcgbdjmlnjhcaaGreatDoorG11
import Derived.Test.YtlcgbdjmlnjhcaaGreatDoorG12
namespace Go.Proofs.YtlcgbdjmlnjhcaaGreatDoor
open Go.RowKit
theorem deepAll_iff' {ks : List E} {d : Nat} : deepAll ks d = true ↔ ∀ k ∈ ks, k.deep d = true := by
  induction ks with
  | nil => simp [deepAll]
  | cons a r ih => simp [deepAll, ih]
theorem deep_mk {op wd n : Int} {ks : List E} {d : Nat} : (E.mk op wd n ks).deep d = true ↔ 1 ≤ d ∧ shapedW op wd n (ks.map E.wd) = true ∧ ∀ k ∈ ks, k.deep (d - 1) = true := by
  simp [E.deep, deepAll_iff', and_assoc]

theorem keep3 {w w' : World} {p q r : Addr} {u v x : Value} (hx : Ext w w') (h : w.cell? p = some u) (k : w.cell? q = some v) (l : w.cell? r = some x) : w'.cell? p = some u ∧ w'.cell? q = some v ∧ w'.cell? r = some x := ⟨hx.cell h, hx.cell k, hx.cell l⟩

set_option maxRecDepth 100000 in
set_option maxHeartbeats 4000000 in
theorem write_leaf (w0 : World) (b V : Nat) (hV : V ≠ b) (hP : Pow10 w0) (op wd n : Int) (ks : List E) (w : World) (eb eo : Nat) (bs : List UInt8) (ho : op = 1 ∨ op = 2 ∨ op = 3) (hw1 : 1 ≤ wd) (hw8 : wd ≤ 8) (hn0 : 0 ≤ n) (hn : n ≤ 255) (hE : IsE w0 eb eo (.mk op wd n ks)) (hx : Ext w0 w) (hW : WEnv w0.heap.size b V bs w)
    (hl : bs.length + 61 ≤ 1000000) :
    Calls Tryz.prog 55 #[.pointer (some ⟨eb, eo, none⟩), .pointer (some ⟨b, 0, none⟩), .pointer (some ⟨V, 0, none⟩)] w fun r w' => r = .returned (.tuple #[]) ∧ WEnv w0.heap.size b V (bs ++ (E.mk op wd n ks).text) w' ∧ Ext w0 w' := by
  obtain ⟨h0, h1, h2, _⟩ := hE.cells
  simp only [E.op_mk, E.wd_mk, E.n_mk] at h0 h1 h2
  have q0 := hx.cell h0
  have q1 := hx.cell h1
  have q2 := hx.cell h2
  have HX := Lib.hid hx; have HW := Lib.hid hW; have HP := Lib.hid hP
  have hi1 := Lib.itoa_length_le n (by omega) (by omega)
  have hi2 := Lib.itoa_length_le wd (by omega) (by omega)
  have hi3 : (letterS op).length ≤ 1 := by unfold letterS; split; simp; split <;> simp
  obtain ⟨l1, hl1⟩ : ∃ l1, l1 = letterS op ++ Lib.itoa n := ⟨_, rfl⟩
  obtain ⟨l2, hl2⟩ : ∃ l2, l2 = l1 ++ [58] := ⟨_, rfl⟩
  obtain ⟨l3, hl3⟩ : ∃ l3, l3 = l2 ++ Lib.itoa wd := ⟨_, rfl⟩
  have e1 : l1.length ≤ 22 := by rw [hl1, List.length_append]; omega
  have e2 : l2.length ≤ 23 := by rw [hl2, List.length_append]; simp; omega
  have e3 : l3.length ≤ 44 := by rw [hl3, List.length_append]; omega
  have k1 : ∀ W : World, (Op.stringOp .add ⟨(letterS op).toArray⟩ ⟨(Lib.itoa n).toArray⟩).run Tryz.prog W = .ok (.string ⟨l1.toArray⟩) W := fun W => by rw [hl1]; exact run_string_add_lists W _ _ (by omega) (by omega)
  have k2 : ∀ W : World, (Op.stringOp .add ⟨l1.toArray⟩ ⟨#[58]⟩).run Tryz.prog W = .ok (.string ⟨l2.toArray⟩) W := fun W => by rw [hl2]; exact run_string_add_lists W l1 [58] (by omega) (by simp)
  have k3 : ∀ W : World, (Op.stringOp .add ⟨l2.toArray⟩ ⟨(Lib.itoa wd).toArray⟩).run Tryz.prog W = .ok (.string ⟨l3.toArray⟩) W := fun W => by rw [hl3]; exact run_string_add_lists W _ _ (by omega) (by omega)
  have HT : Hid ((E.mk op wd n ks).text = l3) := by unfold Hid; rw [E.text, if_pos ho, hl3, hl2, hl1]
  clear hl1 hl2 hl3
  have tok1 : True := trivial
  clear hx hW hP hE
  rcases ho with rfl | rfl | rfl
  · go_enter Tryz.func55, Tryz.ntmps55
    go_wp2_with fail
    go_region_held3 (fun w' => w'.cell? ⟨eb, eo, none⟩ = some (.int .i64 1) ∧ w'.cell? ⟨eb, eo + 2, none⟩ = some (.int .i64 n) ∧ w'.cell? ⟨eb, eo + 1, none⟩ = some (.int .i64 wd))
      (first | exact ⟨q0, q2, q1⟩ | (with_reducible exact keep3 hx1 h0 h2 h1) | (with_reducible exact keep3 hx2 h0 h2 h1) | (with_reducible exact keep3 hx3 h0 h2 h1))
      (first | (go_at_call 57; refine (letter_any 1 _ (.inl rfl)).mono ?_; rintro r w' ⟨rfl, rfl⟩) | (go_at_call 58; have _t := tok1; refine (Itoa_any _ _ (by omega) (by omega) (HP.out.ext HX.out.drew)).mono ?_; rintro r w1 ⟨rfl, hx1'⟩; have hx1 := HX.out.drew.trans hx1'; have HW1 := Lib.hid (HW.out.ext ((Ext.refl w).drew.trans hx1')); clear hx1' tok1) | (go_at_call 58; refine (Itoa_any _ _ (by omega) (by omega) (HP.out.ext hx1)).mono ?_; rintro r w2 ⟨rfl, hx2'⟩; have hx2 := hx1.trans hx2'; have HW2 := Lib.hid (HW1.out.ext hx2'); clear hx2') | (go_at_call 56; refine (write_str w0 b V bs l3 _ hV HW2.out hx2 (by omega)).mono ?_; rintro r w3 ⟨rfl, hw3, hx3⟩))
    have HW3 := Lib.hid hw3; clear hw3
    go_wp2_with fail
    exact bodyPost_ret (results_none rfl _ _ _) rfl ⟨rfl, by rw [HT.out]; exact HW3.out, hx3⟩
  · go_enter Tryz.func55, Tryz.ntmps55
    go_wp2_with fail
    go_region_held3 (fun w' => w'.cell? ⟨eb, eo, none⟩ = some (.int .i64 2) ∧ w'.cell? ⟨eb, eo + 2, none⟩ = some (.int .i64 n) ∧ w'.cell? ⟨eb, eo + 1, none⟩ = some (.int .i64 wd))
      (first | exact ⟨q0, q2, q1⟩ | (with_reducible exact keep3 hx1 h0 h2 h1) | (with_reducible exact keep3 hx2 h0 h2 h1) | (with_reducible exact keep3 hx3 h0 h2 h1))
      (first | (go_at_call 57; refine (letter_any 2 _ (.inr (.inl rfl))).mono ?_; rintro r w' ⟨rfl, rfl⟩) | (go_at_call 58; have _t := tok1; refine (Itoa_any _ _ (by omega) (by omega) (HP.out.ext HX.out.drew)).mono ?_; rintro r w1 ⟨rfl, hx1'⟩; have hx1 := HX.out.drew.trans hx1'; have HW1 := Lib.hid (HW.out.ext ((Ext.refl w).drew.trans hx1')); clear hx1' tok1) | (go_at_call 58; refine (Itoa_any _ _ (by omega) (by omega) (HP.out.ext hx1)).mono ?_; rintro r w2 ⟨rfl, hx2'⟩; have hx2 := hx1.trans hx2'; have HW2 := Lib.hid (HW1.out.ext hx2'); clear hx2') | (go_at_call 56; refine (write_str w0 b V bs l3 _ hV HW2.out hx2 (by omega)).mono ?_; rintro r w3 ⟨rfl, hw3, hx3⟩))
    have HW3 := Lib.hid hw3; clear hw3
    go_wp2_with fail
    exact bodyPost_ret (results_none rfl _ _ _) rfl ⟨rfl, by rw [HT.out]; exact HW3.out, hx3⟩
  · go_enter Tryz.func55, Tryz.ntmps55
    go_wp2_with fail
    go_region_held3 (fun w' => w'.cell? ⟨eb, eo, none⟩ = some (.int .i64 3) ∧ w'.cell? ⟨eb, eo + 2, none⟩ = some (.int .i64 n) ∧ w'.cell? ⟨eb, eo + 1, none⟩ = some (.int .i64 wd))
      (first | exact ⟨q0, q2, q1⟩ | (with_reducible exact keep3 hx1 h0 h2 h1) | (with_reducible exact keep3 hx2 h0 h2 h1) | (with_reducible exact keep3 hx3 h0 h2 h1))
      (first | (go_at_call 57; refine (letter_any 3 _ (.inr (.inr rfl))).mono ?_; rintro r w' ⟨rfl, rfl⟩) | (go_at_call 58; have _t := tok1; refine (Itoa_any _ _ (by omega) (by omega) (HP.out.ext HX.out.drew)).mono ?_; rintro r w1 ⟨rfl, hx1'⟩; have hx1 := HX.out.drew.trans hx1'; have HW1 := Lib.hid (HW.out.ext ((Ext.refl w).drew.trans hx1')); clear hx1' tok1) | (go_at_call 58; refine (Itoa_any _ _ (by omega) (by omega) (HP.out.ext hx1)).mono ?_; rintro r w2 ⟨rfl, hx2'⟩; have hx2 := hx1.trans hx2'; have HW2 := Lib.hid (HW1.out.ext hx2'); clear hx2') | (go_at_call 56; refine (write_str w0 b V bs l3 _ hV HW2.out hx2 (by omega)).mono ?_; rintro r w3 ⟨rfl, hw3, hx3⟩))
    have HW3 := Lib.hid hw3; clear hw3
    go_wp2_with fail
    exact bodyPost_ret (results_none rfl _ _ _) rfl ⟨rfl, by rw [HT.out]; exact HW3.out, hx3⟩

theorem textAll_ne {sep : List UInt8} {ks : List E} (h : ks ≠ []) : ∃ e r, ks = e :: r ∧ textAll sep ks = sep ++ e.text ++ textAll [44] r := by
  cases ks with
  | nil => exact absurd rfl h
  | cons e r => exact ⟨e, r, rfl, rfl⟩
/-- The text of the first k kids, each behind its separator. -/
def kidsText (ks : List E) (k : Nat) : List UInt8 := textAll [40] (ks.take k)
def sepS (k : Nat) : List UInt8 := if k = 0 then [40] else [44]
theorem sepS_len (k : Nat) : (sepS k).length = 1 := by unfold sepS; split <;> rfl
theorem textAll_snoc (sep : List UInt8) (ks : List E) (e : E) : textAll sep (ks ++ [e]) = textAll sep ks ++ (if ks = [] then sep else [44]) ++ e.text := by
  induction ks generalizing sep with
  | nil => simp [textAll]
  | cons x r ih =>
    simp only [List.cons_append, textAll, ih]
    by_cases h : r = [] <;> simp [h]
theorem kidsText_succ {ks : List E} {k : Nat} (h : k < ks.length) : kidsText ks (k + 1) = kidsText ks k ++ sepS k ++ ks[k].text := by
  unfold kidsText sepS
  rw [List.take_succ_eq_append_getElem h, textAll_snoc]
  by_cases c : k = 0
  · subst c; simp
  · have : ks.take k ≠ [] := by
      intro e
      have h1 : (ks.take k).length = 0 := by rw [e]; rfl
      rw [List.length_take] at h1
      omega
    rw [if_neg this, if_neg c]
theorem nameS_len (op : Int) : (nameS op).length ≤ 3 := by
  unfold nameS
  by_cases h : (op - 4).toNat < 11
  · have : (op - 4).toNat = 0 ∨ (op - 4).toNat = 1 ∨ (op - 4).toNat = 2 ∨ (op - 4).toNat = 3 ∨ (op - 4).toNat = 4 ∨ (op - 4).toNat = 5 ∨ (op - 4).toNat = 6 ∨ (op - 4).toNat = 7 ∨ (op - 4).toNat = 8 ∨ (op - 4).toNat = 9 ∨ (op - 4).toNat = 10 := by omega
    rcases this with e | e | e | e | e | e | e | e | e | e | e <;> rw [e] <;> decide
  · rw [List.getD_eq_getElem?_getD, List.getElem?_eq_none (by simp [namesL]; omega)]; simp
theorem leaf_facts {op wd n : Int} {ks : List E} {d : Nat} (h : (E.mk op wd n ks).deep d = true) (ho : op = 1 ∨ op = 2 ∨ op = 3) : 1 ≤ wd ∧ wd ≤ 8 ∧ 0 ≤ n ∧ n ≤ 255 := by
  obtain ⟨_, hs, _⟩ := deep_mk.1 h
  obtain ⟨h1, h8⟩ := shapedW_wd hs
  have := pw_le h8
  rcases ho with rfl | rfl | rfl
  · have := shapedW_const hs; omega
  · have := shapedW_cell hs (.inl rfl); omega
  · have := shapedW_cell hs (.inr rfl); omega
mutual
theorem text_len : (e : E) → (d : Nat) → e.deep d = true → e.text.length + 1 ≤ 61 * e.size
  | .mk op wd n ks, d, h => by
    have hk : deepAll ks (d - 1) = true := by simp only [E.deep, Bool.and_eq_true] at h; exact h.2
    have ih := textAll_len ks (d - 1) [40] (by simp) hk
    rw [E.text, E.size]
    split
    · next ho =>
      have hf := leaf_facts h ho
      have h1 := Lib.itoa_length_le n (by omega) (by omega)
      have h2 := Lib.itoa_length_le wd (by omega) (by omega)
      have h3 : (letterS op).length ≤ 1 := by unfold letterS; split; simp; split <;> simp
      simp only [List.length_append, List.length_cons, List.length_nil]; omega
    · have := nameS_len op
      simp only [List.length_append, List.length_cons, List.length_nil]; omega
theorem textAll_len : (ks : List E) → (d : Nat) → (sep : List UInt8) → sep.length ≤ 1 → deepAll ks d = true → (textAll sep ks).length ≤ 61 * sizeAll ks
  | [], _, _, _, _ => by simp [textAll]
  | e :: r, d, sep, hs, h => by
    simp only [deepAll, Bool.and_eq_true] at h
    have h1 := text_len e d h.1
    have h2 := textAll_len r d [44] (by simp) h.2
    simp only [textAll, sizeAll, List.length_append]; omega
end

set_option maxRecDepth 100000 in
set_option maxHeartbeats 4000000 in
theorem write_any (w0 : World) (b V : Nat) (hV : V ≠ b) (hN0 : Names w0) (hP : Pow10 w0) (N : Nat) : ∀ (e : E) (w : World) (eb eo d : Nat) (bs : List UInt8), e.size ≤ N → e.deep d = true → IsE w0 eb eo e → Ext w0 w → WEnv w0.heap.size b V bs w → bs.length + 61 * e.size ≤ 1000000 →
    Calls Tryz.prog 55 #[.pointer (some ⟨eb, eo, none⟩), .pointer (some ⟨b, 0, none⟩), .pointer (some ⟨V, 0, none⟩)] w fun r w' => r = .returned (.tuple #[]) ∧ WEnv w0.heap.size b V (bs ++ e.text) w' ∧ Ext w0 w' := by
  induction N with
  | zero => intro e w eb eo d bs h; have := e.size_pos; omega
  | succ N ih =>
    intro e w eb eo d bs hN hd hE hx hW hl
    obtain ⟨op, wd, n, ks⟩ := e
    by_cases ho : op = 1 ∨ op = 2 ∨ op = 3
    · obtain ⟨h1, h8, h0, hn⟩ := leaf_facts hd ho
      have : 1 ≤ (E.mk op wd n ks).size := E.size_pos _
      exact write_leaf w0 b V hV hP op wd n ks w eb eo bs ho h1 h8 h0 hn hE hx hW (by omega)
    · obtain ⟨hd1, hs, hdk⟩ := deep_mk.1 hd
      obtain ⟨_, h4, h14, hsh⟩ := shapedW_inner hs (by omega) (by omega) (by omega)
      have hne : ks ≠ [] := by
        rintro rfl
        rcases hsh with ⟨_, e⟩ | ⟨_, _, e⟩ | ⟨_, _, _, u, e⟩ | ⟨_, e⟩ <;> simp at e
      obtain ⟨c0, _⟩ := hE.cells
      simp only [E.op_mk] at c0
      obtain ⟨b', o', cap, c3, hlen, hk⟩ := hE.kid hne
      have HT : Hid ((E.mk op wd n ks).text = nameS op ++ kidsText ks ks.length ++ [41]) := by unfold Hid kidsText; rw [E.text, if_neg ho, List.take_length]
      have HD := Lib.hid hdk; have HK := Lib.hid hk; have IH := Lib.hid ih; have HX := Lib.hid hx; have HW := Lib.hid hW
      have hq0 := hx.cell c0
      have hq3 := hx.cell c3
      have hnm := hN0.cell (op - 4).toNat (by omega)
      have hnm' : w.cell? ⟨0, (op - 4).toNat, none⟩ = some (.string ⟨(nameS op).toArray⟩) := hx.cell hnm
      have HNL := Lib.hid (nameS_len op)
      have e1 : (op == 1) = false := by rw [beq_eq_false_iff_ne]; omega
      have e2 : (op == 2) = false := by rw [beq_eq_false_iff_ne]; omega
      have e3 : (op == 3) = false := by rw [beq_eq_false_iff_ne]; omega
      have hl' : bs.length + 61 * (1 + sizeAll ks) ≤ 1000000 := hl
      have HTL : Hid (∀ k, k ≤ ks.length → (kidsText ks k).length ≤ 61 * sizeAll (ks.take k)) := fun k _ => textAll_len _ (d - 1) [40] (by simp) ((deepAll_iff _ _).2 fun x hx => hdk x (List.mem_of_mem_take hx))
      have HNN := Lib.hid hN
      clear hx hW hE hk hdk ih hd hs hsh hN hl hnm ho
      go_enter Tryz.func55, Tryz.ntmps55
      go_wp2_with fail
      refine (write_str w0 b V bs (nameS op) _ hV HW.out HX.out (by have := HNL.out; omega)).mono ?_
      rintro r w1 ⟨rfl, hw1, hx1⟩
      have g3 := hx1.cell c3
      have HW1 := Lib.hid hw1; have HX1 := Lib.hid hx1; clear hw1 hx1 HW HX hq0 hq3 hnm'
      go_wp2_with fail
      go_loopw [4, 5, 46] (fun s4 _ i wr => ∃ k : Nat, k ≤ ks.length ∧ i = .int .i64 k ∧ s4 = .string ⟨(sepS k).toArray⟩ ∧ WEnv w0.heap.size b V (bs ++ nameS op ++ kidsText ks k) wr ∧ Ext w0 wr) (fun _ _ i _ => ks.length - (intOf i).toNat)
      case atStart => exact ⟨0, Nat.zero_le _, rfl, rfl, by simpa [kidsText, textAll] using HW1.out, HX1.out⟩
      case round =>
        obtain ⟨k, hk, rfl, rfl, hwr, hxr⟩ := hrel
        have hac : (bs ++ nameS op ++ kidsText ks k).length ≤ bs.length + 3 + 61 * sizeAll (ks.take k) := by
          have h1 := HNL.out; have h2 := HTL.out k hk
          simp only [List.length_append]; omega
        by_cases hlt : k < ks.length
        · have hst := sizeAll_take_succ hlt
          have hsl := sizeAll_take_le ks (k + 1)
          have hkp := ks[k].size_pos
          have HSU := Lib.hid (kidsText_succ hlt)
          have hin : ks[k] ∈ ks := List.getElem_mem hlt
          have hsz : ks[k].size ≤ N := by have h1 := size_kid (op := op) (wd := wd) (n := n) hin; have h2 := HNN.out; omega
          have HAC : Hid ((bs ++ nameS op ++ kidsText ks k).length + 61 * ks[k].size + 10 ≤ 1000000) := by unfold Hid; omega
          clear hst hsl hkp hac
          have HWr := Lib.hid hwr; have HXr := Lib.hid hxr; clear hwr hxr
          go_wp2_with fail
          refine (write_str w0 b V _ (sepS k) _ hV HWr.out HXr.out (by rw [sepS_len]; have := HAC.out; omega)).mono ?_
          rintro r w2 ⟨rfl, hw2, hx2⟩
          have g4 := hx2.cell c3
          have gv := hw2.cell
          have HW2 := Lib.hid hw2; have HX2 := Lib.hid hx2; clear hw2 hx2
          go_wp2_with fail
          go_still_tail 7, (by kernel_rfl)
          go_wp2_with fail
          refine (IH.out ks[k] w2.drew b' (o' + k * 4) (d - 1) _ hsz (HD.out _ hin) (HK.out k hlt) HX2.out.drew (HW2.out.ext (Ext.refl w2).drew) (by rw [List.length_append, sepS_len]; have := HAC.out; omega)).mono ?_
          rintro r w3 ⟨rfl, hw3, hx3⟩
          have HW3 : Hid (WEnv w0.heap.size b V (bs ++ nameS op ++ kidsText ks (k + 1)) w3) := by
            unfold Hid; rw [HSU.out]; simpa [List.append_assoc] using hw3
          have HX3 := Lib.hid hx3; clear hw3 hx3
          go_wp2_with fail
          exact ⟨⟨k + 1, by omega, by go_num, by simp [sepS], HW3.out, HX3.out⟩, by simp [intOf]; omega⟩
        · obtain rfl : k = ks.length := by omega
          have HWr := Lib.hid hwr; have HXr := Lib.hid hxr; clear hwr hxr
          have HAC : Hid ((bs ++ nameS op ++ kidsText ks ks.length).length + 10 ≤ 1000000) := by unfold Hid; rw [List.take_length] at hac; omega
          clear hac
          go_wp2_with fail
          refine (write_str w0 b V _ [41] _ hV HWr.out HXr.out (by have := HAC.out; simp only [List.length_cons, List.length_nil]; omega)).mono ?_
          rintro r w2 ⟨rfl, hw2, hx2⟩
          have HW2 := Lib.hid hw2; have HX2 := Lib.hid hx2; clear hw2 hx2
          go_wp2_with fail
          go_end0
          exact ⟨rfl, by rw [HT.out]; simpa [List.append_assoc] using HW2.out, HX2.out⟩

/-- What Text gives back. -/
def E.textTop (e : E) : List UInt8 := if e.wf then e.text else []

set_option maxHeartbeats 2000000 in
theorem Text_any (e : E) (v : Value) (w : World) (he : EVal w v e) (hM : Masks w) (hN : Names w) (hP : Pow10 w) : Calls Tryz.prog 30 #[v] w fun r w' => r = .returned (.string ⟨e.textTop.toArray⟩) ∧ Ext w w' := by
  obtain ⟨k, rfl, hk⟩ := he
  have hE := IsE.box (w := w) (e := e) (t := 25) hk
  generalize hw0 : w.alloc (.cells #[.int .i64 e.op, .int .i64 e.wd, .int .i64 e.n, k] 25) = w0 at hE
  have hx0 : Ext w w0 := by rw [← hw0]; exact (Ext.refl w).alloc _
  have hv0 : EVal w0 (.agg #[.int .i64 e.op, .int .i64 e.wd, .int .i64 e.n, k]) e := ⟨k, rfl, hk.ext hx0⟩
  have H0 := Lib.hid hw0; have HX0 := Lib.hid hx0; have HE := Lib.hid hE; have HV0 := Lib.hid hv0
  have HM0 := Lib.hid (hM.ext hx0); have HN0 := Lib.hid (hN.ext hx0); have HP0 := Lib.hid (hP.ext hx0)
  clear hw0 hx0 hE hk hM hv0 hN hP
  cases hw : e.wf with
  | false =>
    have HF : Hid (e.textTop = []) := by simp [Hid, E.textTop, hw]
    have HW := Lib.hid hw; clear hw
    go_enter Tryz.func30, Tryz.ntmps30
    go_wp2_with fail
    rw [H0.out]
    refine (wellFormed_any e _ _ HV0.out HM0.out).mono ?_
    rintro r w1 ⟨rfl, hx1⟩
    rw [HW.out]
    have HX1 := Lib.hid hx1; clear hx1
    go_wp2_with fail
    go_ret
    exact ⟨by rw [HF.out]; rfl, HX0.out.trans HX1.out⟩
  | true =>
    have HF : Hid (e.textTop = e.text) := by simp [Hid, E.textTop, hw]
    have HW := Lib.hid hw; clear hw
    go_enter Tryz.func30, Tryz.ntmps30
    go_wp2_with fail
    rw [H0.out]
    refine (wellFormed_any e _ _ HV0.out HM0.out).mono ?_
    rintro r w1 ⟨rfl, hx1⟩
    rw [HW.out]
    have HX1 := Lib.hid hx1; clear hx1
    go_wp2_with fail
    refine (write_any w1 w1.heap.size (w1.heap.size + 1) (by omega) (HN0.out.ext HX1.out) (HP0.out.ext HX1.out) e.size e _ w.heap.size 0 40 [] (Nat.le_refl _) (wf_deep HW.out) (HE.out.ext HX1.out) (((Ext.refl w1).alloc _).alloc _) ⟨?_, ?_⟩ ?_).mono ?_
    · exact (Lib.IsBuilderF.of (Lib.fresh_isBuilder _ _ w1)).alloc _
    · simpa using heap_new (w1.alloc _) _
    · have : e.size ≤ 600 := by have := HW.out; simp only [E.wf, Bool.and_eq_true, decide_eq_true_eq] at this; exact this.1
      simp only [List.length_nil]; omega
    rintro r w2 ⟨rfl, ⟨hw2, _⟩, hx2⟩
    rw [List.nil_append] at hw2
    have HW2 := Lib.hid hw2; have HX2 := Lib.hid hx2; clear hw2 hx2
    go_wp2_with fail
    refine (Tryz.Builder_String_any_k w1.heap.size w1.heap.size e.text w2 HW2.out HX2.out.size).mono ?_
    rintro r w3 ⟨rfl, _, hb3, _⟩
    have HX3 := Lib.hid (HX0.out.trans (HX1.out.trans (Below.trans HX2.out hb3))); clear hb3
    go_wp2_with fail
    go_ret
    exact ⟨by rw [HF.out]; rfl, HX3.out⟩
end Go.Proofs.YtlcgbdjmlnjhcaaGreatDoor
namespace Go.Proofs.YtlcgbdjmlnjhcaaGreatDoor
open Go.RowKit

theorem OwnInts.intsC {w : World} {base : Nat} {v : Value} {l : List Int} (h : OwnInts w base v l) : IntsC w v l := by
  obtain ⟨a, c, rfl⟩ := h.ints.shape
  exact ⟨h.ints, a, c, rfl, h.cap⟩
theorem SetO.setC {w : World} {base : Nat} {v : Value} {cs ws is : List Int} (h : SetO w base v cs ws is) : SetC w v cs ws is := by
  obtain ⟨a, b, c, h0, h1, h2, h3⟩ := h; exact ⟨a, b, c, h0, h1.intsC, h2.intsC, h3.intsC⟩
theorem SetC.ext {w w' : World} {v : Value} {cs ws is : List Int} (h : SetC w v cs ws is) (hx : Ext w w') : SetC w' v cs ws is := by
  obtain ⟨a, b, c, h0, h1, h2, h3⟩ := h; exact ⟨a, b, c, h0, h1.ext hx, h2.ext hx, h3.ext hx⟩
theorem SetV.shape' {w : World} {v : Value} {cs ws is : List Int} (h : SetV w v cs ws is) : ∃ ca cl cc wa wl wc ia il ic, v = .agg #[.slice ca cl cc, .slice wa wl wc, .slice ia il ic] := by
  obtain ⟨ca, cc, wa, wc, ia, ic, e, _⟩ := h.shape; exact ⟨ca, _, cc, wa, _, wc, ia, _, ic, e⟩
theorem SetC.shape' {w : World} {v : Value} {cs ws is : List Int} (h : SetC w v cs ws is) : ∃ ca cl cc wa wl wc ia il ic, v = .agg #[.slice ca cl cc, .slice wa wl wc, .slice ia il ic] := h.setV.shape'
/-- A result: a set with room, and an error. -/
def RetC (e : Int) (cs ws is : List Int) (w : World) (r : Ending) (w' : World) : Prop := ∃ a1 l1 c1 a2 l2 c2 a3 l3 c3, r = .returned (.tuple #[.agg #[.slice a1 l1 c1, .slice a2 l2 c2, .slice a3 l3 c3], .int .i64 e]) ∧ SetC w' (.agg #[.slice a1 l1 c1, .slice a2 l2 c2, .slice a3 l3 c3]) cs ws is ∧ Ext w w'
theorem SetRes.retC {e : Int} {cs ws is : List Int} {w : World} {r : Ending} {w' : World} (h : SetRes e cs ws is w r w') : RetC e cs ws is w r w' := by
  obtain ⟨v, rfl, h1, h2⟩ := h
  obtain ⟨a1, l1, c1, a2, l2, c2, a3, l3, c3, rfl⟩ := h1.setV.shape'
  exact ⟨a1, l1, c1, a2, l2, c2, a3, l3, c3, rfl, h1.setC, h2⟩
/-- A variable of three cells. -/
def Var3 (t : TypeId) (w : World) (b : Nat) (x y z : Value) : Prop := w.heap[b]? = some (.cells #[x, y, z] t (0, 0))
theorem Var3.ext {t : TypeId} {w w' : World} {b : Nat} {x y z : Value} (h : Var3 t w b x y z) (hx : Ext w w') : Var3 t w' b x y z := (hx.block b (lt_heap h)).trans h
theorem Var3.new (t : TypeId) (w : World) (x y z : Value) : Var3 t (w.alloc (.cells #[x, y, z] t)) w.heap.size x y z := heap_new _ _
theorem Var3.cells {t : TypeId} {w : World} {b : Nat} {x y z : Value} (h : Var3 t w b x y z) : w.cell? ⟨b, 0, none⟩ = some x ∧ w.cell? ⟨b, 1, none⟩ = some y ∧ w.cell? ⟨b, 2, none⟩ = some z := cells3 h
/-- A variable that holds an expression. -/
def VarE (w : World) (b : Nat) (op wd n : Int) (kv : Value) : Prop := w.heap[b]? = some (.cells #[.int .i64 op, .int .i64 wd, .int .i64 n, kv] 25 (0, 0))
theorem VarE.ext {w w' : World} {b : Nat} {op wd n : Int} {kv : Value} (h : VarE w b op wd n kv) (hx : Ext w w') : VarE w' b op wd n kv := (hx.block b (lt_heap h)).trans h
theorem VarE.new (w : World) (op wd n : Int) (kv : Value) : VarE (w.alloc (.cells #[.int .i64 op, .int .i64 wd, .int .i64 n, kv] 25)) w.heap.size op wd n kv := heap_new _ _
theorem VarE.cells {w : World} {b : Nat} {op wd n : Int} {kv : Value} (h : VarE w b op wd n kv) : w.cell? ⟨b, 0, none⟩ = some (.int .i64 op) ∧ w.cell? ⟨b, 1, none⟩ = some (.int .i64 wd) ∧ w.cell? ⟨b, 2, none⟩ = some (.int .i64 n) ∧ w.cell? ⟨b, 3, none⟩ = some kv := by
  unfold VarE at h; simp [World.cell?, h]
theorem EVal.shapeN {w : World} {v : Value} {op wd n : Int} {ks : List E} (h : EVal w v (.mk op wd n ks)) : ∃ a l c, v = .agg #[.int .i64 op, .int .i64 wd, .int .i64 n, .slice a l c] ∧ EVal w (.agg #[.int .i64 op, .int .i64 wd, .int .i64 n, .slice a l c]) (.mk op wd n ks) := by
  obtain ⟨a, c, h1, h2⟩ := h.shape'; exact ⟨a, _, c, h1, ⟨_, rfl, h2⟩⟩
theorem ev_leaf (w : World) (op wd n : Int) : EVal w (.agg #[.int .i64 op, .int .i64 wd, .int .i64 n, .slice none 0 0]) (.mk op wd n []) := ⟨_, rfl, .inl ⟨⟨_, _, rfl⟩, rfl⟩⟩
theorem old_at {w w' : World} {b : Nat} {o : Obj} (h : w.heap[b]? = some o) (hx : Ext w w') : w'.heap[b]? = some o := (hx.block b (lt_heap h)).trans h
theorem heap_new1 (w : World) (a b : Obj) : ((w.alloc a).alloc b).heap[w.heap.size]? = some a := old_at (heap_new w a) ((Ext.refl _).alloc _)
theorem heap_new2 (w : World) (a b : Obj) : ((w.alloc a).alloc b).heap[w.heap.size + 1]? = some b := by
  have := heap_new (w.alloc a) b; rwa [World.size_alloc] at this
/-- A row of ints just made. -/
theorem ints_row {w : World} {b n : Nat} {l : List Int} {t : TypeId} (h : w.heap[b]? = some (.cells (l.map (Value.int .i64)).toArray t (0, 0))) (hn : l.length = n) (hm : n ≤ 1000) : Ints w (.slice (some ⟨b, 0, none⟩) n n) l := by
  subst hn
  refine .inr ⟨b, 0, l.length, rfl, by omega, fun i hi => ?_⟩
  rw [Nat.mul_one, Nat.zero_add]
  unfold IntAt
  rw [cell_of_row _ _ _ _ _ _ h]
  simp [hi]
theorem setc_in {w : World} {v1 v2 v3 : Value} {cs ws is : List Int} (h : SetC w (.agg #[v1, v2, v3]) cs ws is) : Ints w v3 is := by
  obtain ⟨_, _, _, e, _, _, h3⟩ := h
  cases e; exact h3.1
theorem setc_len {w : World} {v1 v2 : Value} {a : Option Addr} {n c : Nat} {cs ws is : List Int} (h : SetC w (.agg #[v1, v2, .slice a n c]) cs ws is) : n = is.length := by
  obtain ⟨_, _, _, e, _, _, h3⟩ := h
  cases e
  obtain ⟨_, _, e, _⟩ := h3.2
  cases e; rfl
end Go.Proofs.YtlcgbdjmlnjhcaaGreatDoor
