/-
  The iterator lines.
-/
import Derived.Test.YtnkhaobokmmnjaaDoorPan
import Derived.Test.YtnkhaobokmmnjaaDoorCq4
import Derived.Test.YtnkhaobokmmnjaaDoorPx2
namespace Go.Proofs.YtnkhaobokmmnjaaDoor
open Go.RowKit Go.Shelf
attribute [local go_sem] Oper.semAt_some

/-- What stands in the library's variables. -/
structure CTab (w : World) : Prop where
  pow : Pow10 w
  max : ∃ m, w.cell? ⟨1, 0, none⟩ = some (.int .i64 m)
theorem CTab.ext {w w' : World} (h : CTab w) (hx : Ext w w') : CTab w' := ⟨h.pow.ext hx, h.max.imp fun _ e => hx.cell e⟩
theorem cut_split (c : UInt8) (l : List UInt8) : ∃ wd r m, Lib.cut l [c] = (wd, r, m) ∧ splitB c l = wd :: (if m = true then splitB c r else []) ∧ wd.length ≤ l.length ∧ r.length + (if m = true then 1 else 0) ≤ l.length := by
  rcases split_cut c l with ⟨h1, h2, h3⟩ | ⟨w, r, h1, h2, h3⟩
  · exact ⟨l, [], false, h3, by rw [h2]; rfl, Nat.le_refl _, by simp⟩
  · refine ⟨w, r, true, h3, by rw [h2]; rfl, ?_, ?_⟩ <;> (rw [h1]; simp <;> omega)
/-- A variable in a block of its own. -/
def boxed (W : World) (b : Nat) (t : TypeId) (v : Value) : Prop := W.heap[b]? = some (.cells #[v] t (0, 0))
theorem boxed_cell {W : World} {b : Nat} {t : TypeId} {v : Value} (h : boxed W b t v) : W.cell? ⟨b, 0, none⟩ = some v := by unfold boxed at h; simp [World.cell?, h]
theorem boxed_frozen {W : World} {b : Nat} {t : TypeId} {v : Value} (h : boxed W b t v) : W.frozen? ⟨b, 0, none⟩ = false := Lib.frozen_of_heap h 0
theorem boxed_set {W : World} {b : Nat} {t : TypeId} {v : Value} (h : boxed W b t v) (u : Value) : boxed (W.setCell ⟨b, 0, none⟩ u) b t u := by
  unfold boxed; rw [heap_setCell_same W b 0 _ t _ h]; rfl
def strAt (b : Nat) (W : World) : Nat := match W.cell? ⟨b, 0, none⟩ with | some (.string s) => s.size | _ => 0
theorem strAt_eq {b : Nat} {W : World} {l : List UInt8} (h : W.cell? ⟨b, 0, none⟩ = some (.string ⟨l.toArray⟩)) : strAt b W = l.length := by unfold strAt; rw [h]; simp [ByteArray.size]
/-- The blocks b and M are kept. -/
def KeepB (b M : Nat) (W W' : World) : Prop := ∀ k, k = b ∨ k = M → W'.heap[k]? = W.heap[k]?
/-- x is the line behind pre. -/
def NxL (text : List UInt8) (pre : List (List UInt8)) (x : List UInt8) : Prop := ∃ rest, linesC text = pre ++ x :: rest
def restL (m : Bool) (cur : List UInt8) : List (List UInt8) := if m = true then linesC cur else []
def mrk (m : Value) : Nat := match m with | .bool true => 1 | _ => 0

set_option maxRecDepth 100000 in
set_option maxHeartbeats 2000000 in
theorem lines1_in (n : Nat) (hn : 1 ≤ n) (l b : Nat) (hbM : b ≠ 1) (mx : Int) (text : List UInt8) (hlen : text.length ≤ 1000000) (J : List (List UInt8) → World → Prop) (Jp : List PanicEntry → World → Prop) (hd : Deaf b J) (hq : ∀ s W q, J s W → J s (W.drewN q))
    (hY : ∀ pre x W, J pre W → NxL text pre x → YieldAt Fence.wide (n - 1) Tryd.prog l #[.string ⟨x.toArray⟩] W fun e W' =>
      (e = .returned (.bool true) ∧ J (pre ++ [x]) W' ∧ KeepB b 1 W W') ∨ (∃ ch, e = .panicked ch ∧ Jp ch W'))
    (W : World) (hm : W.cell? ⟨1, 0, none⟩ = some (.int .i64 mx)) (h1 : boxed W b 9 (.string ⟨text.toArray⟩)) (h0 : J [] W) :
    CallsIn Fence.wide n Tryd.prog 50 #[.func (.yield l) #[] #[], .pointer (some ⟨b, 0, none⟩)] W fun e W' => (∃ v, e = .returned v ∧ ∃ xs, xs = linesC text ∧ J xs W') ∨ (∃ ch, e = .panicked ch ∧ Jp ch W') := by
  have HY := Lib.hid hY; have H0 := Lib.hid h0; have H1 := Lib.hid h1; have HM := Lib.hid hm; have HD := Lib.hid hd; have HL := Lib.hid hlen; have HQ := Lib.hid hq; have HBM := Lib.hid hbM
  clear hY h0 h1 hm hd hlen hq hbM
  refine callsIn_of_wp Tryd.func50 rfl trivial ?_ rfl
  simp only [Tryd.ntmps50, List.size_toArray, List.length_cons, List.length_nil, Nat.reduceAdd, Nat.reduceSub, Array.replicate_succ, Array.replicate_zero, List.push_toArray, List.append_toArray, List.nil_append, List.cons_append]
  gi_wp2
  gi_loopw [3] (fun m wr => ∃ (pre : List (List UInt8)) (cur : List UInt8) (mb : Bool), m = .bool mb ∧ linesC text = pre ++ restL mb cur ∧ cur.length ≤ text.length ∧ boxed wr b 9 (.string ⟨cur.toArray⟩) ∧ wr.cell? ⟨1, 0, none⟩ = some (.int .i64 mx) ∧ J pre wr) (fun m wr => 2 * strAt b wr + mrk m)
  case atStart => exact ⟨[], text, true, rfl, rfl, Nat.le_refl _, H1.out, HM.out, H0.out⟩
  case round =>
    obtain ⟨pre, cur, mb, rfl, hs, hcl, hb1, hmx, hJ⟩ := hrel
    have q1 := boxed_cell hb1; have f1 := boxed_frozen hb1
    have HS := Lib.hid hs; have HB1 := Lib.hid hb1; have HJ := Lib.hid hJ; have HCL := Lib.hid hcl; have HMX := Lib.hid hmx
    clear hs hb1 hJ hcl hmx
    cases mb with
    | false =>
      gi_wp2
      go_end0
      exact .inl ⟨_, rfl, pre, by rw [HS.out]; unfold restL; simp, HJ.out⟩
    | true =>
      obtain ⟨wd, r, m, hc1, hc2, hc3, hc4⟩ := cut_split 10 cur
      have HC : Hid (Calls Tryd.prog 51 #[.string ⟨cur.toArray⟩, .string ⟨#[10]⟩] wr fun e w' => e = .returned (.tuple #[.string ⟨wd.toArray⟩, .string ⟨r.toArray⟩, .bool m]) ∧ ∃ n, w' = wr.drewN n) := by
        have h := Tryd.strings_Cut ⟨cur.toArray⟩ ⟨#[10]⟩ mx wr (by have := HCL.out; have := HL.out; show cur.toArray.size < 4294967281; simp; omega) HMX.out
        have e1 : Lib.cut (⟨cur.toArray⟩ : ByteArray).data.toList (⟨#[10]⟩ : ByteArray).data.toList = (wd, r, m) := by rw [← hc1]
        rw [e1] at h
        exact h
      have HPX : Hid (∀ w, Calls Tryd.prog 52 #[.string ⟨wd.toArray⟩, .string ⟨#[99]⟩] w fun e w' => e = .returned (.bool (comC wd)) ∧ w' = w) := fun w => by
        have h := Tryd.strings_HasPrefix ⟨wd.toArray⟩ ⟨#[99]⟩ w
        have e : Lib.hasPrefix wd [99] = comC wd := by
          unfold comC Lib.hasPrefix
          cases wd with
          | nil => rfl
          | cons a t => simp [List.isPrefixOf, Bool.beq_comm]
        rw [← e]; exact h
      have HLC : Hid (linesC cur = (if comC wd = true then [] else [wd]) ++ restL m r) := by
        unfold Hid linesC restL
        rw [hc2]
        cases hcw : comC wd <;> cases m <;> simp [hcw, linesC]
      have HRL : Hid (r.length ≤ text.length ∧ 2 * r.length + (if m = true then 1 else 0) < 2 * cur.length + 1) := by
        have := HCL.out
        refine ⟨by omega, ?_⟩
        cases m <;> simp at hc4 ⊢ <;> omega
      clear hc1 hc2 hc3 hc4
      have hS2 : linesC text = pre ++ linesC cur := by rw [HS.out]; unfold restL; simp
      have HS2 := Lib.hid hS2
      clear hS2 HS
      gi_upto_region 4 with (refine ⟨trivial, ?_⟩; gi_at_call 51; refine (callsIn_wide.2 HC.out).mono ?_; rintro e w1 ⟨rfl, q, rfl⟩)
      have hB2 : boxed ((wr.drewN q).setCell ⟨b, 0, none⟩ (.string ⟨r.toArray⟩)) b 9 (.string ⟨r.toArray⟩) := boxed_set (show boxed (wr.drewN q) b _ _ from HB1.out) _
      have hM2 : ((wr.drewN q).setCell ⟨b, 0, none⟩ (.string ⟨r.toArray⟩)).cell? ⟨1, 0, none⟩ = some (.int .i64 mx) := by
        have h := HMX.out
        rw [World.cell?_setCell_far _ _ _ _ HBM.out]
        exact h
      have hJ2 := HD.out _ _ (.string ⟨r.toArray⟩) (HQ.out _ _ q HJ.out)
      have HB2 := Lib.hid hB2; have HM2 := Lib.hid hM2; have HJ2 := Lib.hid hJ2
      have hse : 2 * strAt b wr + 1 = 2 * cur.length + 1 := by rw [strAt_eq q1]
      have HSE := Lib.hid hse
      clear hB2 hM2 hJ2 q1 f1 HB1 HMX HJ HC hse
      generalize (wr.drewN q).setCell ⟨b, 0, none⟩ (.string ⟨r.toArray⟩) = w2 at *
      cases hcw : comC wd with
      | true =>
        rw [hcw] at HLC HPX
        gi_wp2_with (refine ⟨trivial, ?_⟩; gi_at_call 52; refine (callsIn_wide.2 (HPX.out _)).mono ?_; rintro e w1 ⟨rfl, rfl⟩)
        refine ⟨⟨pre, r, m, rfl, by rw [HS2.out, HLC.out]; rfl, HRL.out.1, HB2.out, HM2.out, HJ2.out⟩, ?_⟩
        have h1 := HRL.out.2; have h2 := HSE.out
        show 2 * strAt b w1 + mrk (.bool m) < 2 * strAt b wr + 1
        rw [strAt_eq (boxed_cell HB2.out), h2]
        cases m
        · simp [mrk] at h1 ⊢; omega
        · simp [mrk] at h1 ⊢; omega
      | false =>
        rw [hcw] at HLC HPX
        obtain ⟨fn, tmps, assign, body, hy, hR⟩ := HY.out pre wd w2 HJ2.out ⟨restL m r, by rw [HS2.out, HLC.out]; rfl⟩
        have HR := Lib.hid hR
        clear hR
        gi_wp2_with (refine ⟨trivial, ?_⟩; gi_at_call 52; refine (callsIn_wide.2 (HPX.out _)).mono ?_; rintro e w1 ⟨rfl, rfl⟩)
        refine HR.out.mono ?_
        rintro e W3 (⟨rfl, hJ3, hk3⟩ | ⟨ch, rfl, hp⟩)
        · have hb3 : boxed W3 b 9 (.string ⟨r.toArray⟩) := (hk3 b (.inl rfl)).trans HB2.out
          have hm3 : W3.cell? ⟨1, 0, none⟩ = some (.int .i64 mx) := by
            have h := HM2.out
            unfold World.cell? at h ⊢
            rw [hk3 _ (.inr rfl)]; exact h
          have HB3 := Lib.hid hb3; have HM3 := Lib.hid hm3; have HJ3 := Lib.hid hJ3
          clear hb3 hm3 hJ3 hk3 hy HB2 HM2 HJ2 HY HD HQ
          gi_wp2
          refine ⟨⟨pre ++ [wd], r, m, rfl, by rw [HS2.out, HLC.out]; simp, HRL.out.1, HB3.out, HM3.out, HJ3.out⟩, ?_⟩
          have h1 := HRL.out.2; have h2 := HSE.out
          show 2 * strAt b W3 + mrk (.bool m) < 2 * strAt b wr + 1
          rw [strAt_eq (boxed_cell HB3.out), h2]
          cases m
          · simp [mrk] at h1 ⊢; omega
          · simp [mrk] at h1 ⊢; omega
        · exact ⟨rfl, .inr ⟨ch, rfl, hp⟩⟩

theorem lines_rangesP (n : Nat) (hn : 1 ≤ n) (b : Nat) (hbM : b ≠ 1) (mx : Int) (text : List UInt8) (hlen : text.length ≤ 1000000) (w : World) (hm : w.cell? ⟨1, 0, none⟩ = some (.int .i64 mx)) (h1 : boxed w b 9 (.string ⟨text.toArray⟩)) :
    RangesP Fence.wide n Tryd.prog 50 #[.pointer (some ⟨b, 0, none⟩)] (fun x : List UInt8 => #[.string ⟨x.toArray⟩]) b (KeepB b 1) (NxL text) (fun ys => ys = linesC text) w :=
  fun l J Jp W hW hd hq hY h0 => lines1_in n hn l b hbM mx text hlen J Jp hd hq hY W (Ext.cell hW hm) ((hW.block b (lt_heap h1)).trans h1) h0

set_option maxHeartbeats 1000000 in
theorem lines_in (n : Nat) (s : ByteArray) (w : World) :
    CallsIn Fence.wide n Tryd.prog 36 #[.string s] w fun e w' => e = .returned (.func (.func 50) #[] #[.pointer (some ⟨w.heap.size, 0, none⟩)]) ∧ w' = w.alloc (.cells #[.string s] 9) := by
  refine callsIn_of_wp Tryd.func36 rfl trivial ?_ rfl
  simp only [Tryd.ntmps36, List.size_toArray, List.length_cons, List.length_nil, Nat.reduceAdd, Nat.reduceSub, Array.replicate_succ, Array.replicate_zero, List.push_toArray, List.append_toArray, List.nil_append, List.cons_append]
  gi_wp2
  go_ret
  exact ⟨rfl, rfl⟩
end Go.Proofs.YtnkhaobokmmnjaaDoor
