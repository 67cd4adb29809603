/-
  Reading: the runes of a text in memory; the walks of peek and accept.
  The walk of the reader's number.
  The walk of the reader's word.
-/
import Derived.Test.YtoopoljchhdobaaGreatDoorMMf
import Derived.Laws.AppendOwn
import Derived.Deep.LoopGhost
import Derived.Laws.Cover4
namespace Go.Proofs.YtoopoljchhdobaaGreatDoor
open Go.RowKit

/-- The runes l lie in w, in a block other than RB, as the slice lv. -/
def RunesIn (w : World) (RB : Nat) (lv : Value) (l : List Int) : Prop :=
  RB < w.heap.size ∧ ((lv = .slice none 0 0 ∧ l = []) ∨ ∃ b o c : Nat, lv = .slice (some ⟨b, o, none⟩) l.length c ∧ l.length ≤ 1000000000 ∧ b ≠ RB ∧ b < w.heap.size ∧ l.length ≤ c ∧ ∀ (i : Nat) (h : i < l.length), w.cell? ⟨b, o + i, none⟩ = some (.int .i32 l[i]))
/-- The reader stands at k. -/
def RAt (w0 : World) (RB : Nat) (lv : Value) (k : Nat) (w : World) : Prop := w0.grownBy w (some RB) ∧ w.heap[RB]? = some (.cells #[lv, .int .i64 k] 60 (0, 0))

theorem grownBy_refl (w : World) (g : Option Nat) : w.grownBy w g := ⟨rfl, rfl, rfl, Nat.le_refl _, fun _ _ _ => rfl⟩
theorem grownBy_tr {a b c : World} {g : Option Nat} (h : a.grownBy b g) (k : b.grownBy c g) : a.grownBy c g :=
  ⟨k.os.trans h.os, k.tape.trans h.tape, k.output.trans h.output, Nat.le_trans h.size k.size, fun i hi hne => (k.block i (Nat.lt_of_lt_of_le hi h.size) hne).trans (h.block i hi hne)⟩
theorem grownBy_drewN {a b : World} {g : Option Nat} (h : a.grownBy b g) (n : Nat) : a.grownBy (b.drewN n) g := ⟨h.os, h.tape, h.output, h.size, h.block⟩
theorem grownBy_cell {a b : World} {g : Nat} (h : a.grownBy b (some g)) {p : Addr} {v : Value} (hp : p.block ≠ g) (hc : a.cell? p = some v) : b.cell? p = some v := by
  rw [World.cell?_of_block (h.block p.block (block_lt hc) (by simpa using hp))]; exact hc
theorem grownBy_set {a b : World} {g : Nat} (h : a.grownBy b (some g)) (o : Nat) (v : Value) : a.grownBy (b.setCell ⟨g, o, none⟩ v) (some g) :=
  ⟨h.os, h.tape, h.output, by simpa [World.setCell] using h.size, fun i hi hne => by rw [Below.heap_setCell _ _ _ _ (by simpa using hne)]; exact h.block i hi hne⟩

theorem RAt.cells {w0 w : World} {RB k : Nat} {lv : Value} (h : RAt w0 RB lv k w) : w.cell? ⟨RB, 0, none⟩ = some lv ∧ w.cell? ⟨RB, 1, none⟩ = some (.int .i64 k) ∧ w.frozen? ⟨RB, 1, none⟩ = false := by
  refine ⟨?_, ?_, ?_⟩ <;> simp [World.cell?, World.frozen?, h.2]
theorem RAt.drewN {w0 w : World} {RB k : Nat} {lv : Value} (h : RAt w0 RB lv k w) (n : Nat) : RAt w0 RB lv k (w.drewN n) := ⟨grownBy_drewN h.1 n, h.2⟩
theorem RAt.set {w0 w : World} {RB k k' : Nat} {lv : Value} (h : RAt w0 RB lv k w) : RAt w0 RB lv k' (w.setCell ⟨RB, 1, none⟩ (.int .i64 k')) := by
  refine ⟨grownBy_set h.1 _ _, ?_⟩
  simp only [World.setCell, Array.getElem?_modify, if_true, h.2, Option.map_some]
  rfl

/-- The next rune, -1 at the end. -/
def peekS (l : List Int) (k : Nat) : Int := (l[k]?).getD (-1)
theorem peekS_lt {l : List Int} {k : Nat} (h : k < l.length) : peekS l k = l[k] := by simp [peekS, h]
theorem peekS_ge {l : List Int} {k : Nat} (h : ¬ k < l.length) : peekS l k = -1 := by simp [peekS, List.getElem?_eq_none (Nat.le_of_not_lt h)]

set_option maxHeartbeats 1000000 in
theorem peek_any (w0 : World) (RB : Nat) (lv : Value) (l : List Int) (k : Nat) (w : World) (hl : RunesIn w0 RB lv l) (hR : RAt w0 RB lv k w) :
    Calls Tryz.prog 42 #[.pointer (some ⟨RB, 0, none⟩)] w fun e w' => e = .returned (.int .i32 (peekS l k)) ∧ ∃ n, w' = w.drewN n := by
  obtain ⟨c0, c1, _⟩ := hR.cells
  obtain ⟨_, ⟨rfl, rfl⟩ | ⟨b, o, c, rfl, hlen, hb, hbs, hcap, hc⟩⟩ := hl
  · have hd : decide ((k : Int) < 0) = false := by simp
    have HF := Lib.hid (peekS_ge (l := []) (k := k) (by simp))
    clear hR
    go_enter Tryz.func42, Tryz.ntmps42
    go_wp2_with fail
    go_quiet (fail)
    go_wp2_with fail
    go_ret
    exact ⟨by rw [HF.out]; rfl, _, rfl⟩
  · by_cases h : k < l.length
    · have hk := grownBy_cell hR.1 (p := ⟨b, o + k, none⟩) hb (hc k h)
      have hd : decide (k < l.length) = true := by simpa using h
      have hi : (k : Int) < (l.length : Int) := by omega
      have HF := Lib.hid (peekS_lt h)
      clear hR hc
      go_enter Tryz.func42, Tryz.ntmps42
      go_wp2_with fail
      go_quiet (fail)
      go_wp2_with fail
      go_quiet (fail)
      go_wp2_with fail
      go_ret
      exact ⟨by rw [HF.out]; rfl, _, World.drewN_drewN _ _ _⟩
    · have hd : decide (k < l.length) = false := by simpa using h
      have HF := Lib.hid (peekS_ge h)
      clear hR hc
      go_enter Tryz.func42, Tryz.ntmps42
      go_wp2_with fail
      go_quiet (fail)
      go_wp2_with fail
      go_ret
      exact ⟨by rw [HF.out]; rfl, _, rfl⟩

/-- What a step of the reader leaves: only the reader's block has changed, and it stands at k. -/
def RStep (w0 : World) (RB : Nat) (lv : Value) (k : Nat) (w w' : World) : Prop := w.grownBy w' (some RB) ∧ RAt w0 RB lv k w'
theorem RStep.drewN {w0 w : World} {RB k : Nat} {lv : Value} (h : RAt w0 RB lv k w) (n : Nat) : RStep w0 RB lv k w (w.drewN n) := ⟨grownBy_drewN (grownBy_refl w _) n, h.drewN n⟩
theorem RStep.trans {w0 a b c : World} {RB k k' : Nat} {lv : Value} (h : RStep w0 RB lv k a b) (h' : RStep w0 RB lv k' b c) : RStep w0 RB lv k' a c := ⟨grownBy_tr h.1 h'.1, h'.2⟩
theorem RStep.set {w0 w : World} {RB k k' : Nat} {lv : Value} (h : RAt w0 RB lv k w) : RStep w0 RB lv k' w (w.setCell ⟨RB, 1, none⟩ (.int .i64 k')) := ⟨grownBy_set (grownBy_refl w _) _ _, h.set⟩
theorem RunesIn.len {w0 : World} {RB : Nat} {lv : Value} {l : List Int} (h : RunesIn w0 RB lv l) : l.length ≤ 1000000000 := by
  rcases h.2 with ⟨_, rfl⟩ | ⟨_, _, _, _, h, _⟩
  · simp
  · exact h
theorem peekS_in {l : List Int} {k : Nat} (h : peekS l k ≠ -1) : k < l.length := by
  rcases Nat.lt_or_ge k l.length with h1 | h1
  · exact h1
  · exact absurd (peekS_ge (by omega)) h

set_option maxHeartbeats 1000000 in
/-- accept: 'c' is the next rune, or not. -/
theorem accept_any (w0 : World) (RB : Nat) (lv : Value) (l : List Int) (k : Nat) (c : Int) (w : World) (hl : RunesIn w0 RB lv l) (hR : RAt w0 RB lv k w) (hk : k ≤ l.length) :
    Calls Tryz.prog 23 #[.pointer (some ⟨RB, 0, none⟩), .int .i32 c] w fun e w' => e = .returned (.bool (peekS l k == c)) ∧ RStep w0 RB lv (if peekS l k == c then k + 1 else k) w w' := by
  have hlen := hl.len
  have HL := Lib.hid hl; have HR := Lib.hid hR; clear hl hR
  cases hc : (peekS l k == c) with
  | true =>
    have hb : (peekS l k != c) = false := by simpa using hc
    clear hc
    go_enter Tryz.func23, Tryz.ntmps23
    go_wp2_with fail
    refine (peek_any w0 RB lv l k _ HL.out HR.out).mono ?_
    rintro e w1 ⟨rfl, n, rfl⟩
    have hR1 := HR.out.drewN n
    obtain ⟨c0, c1, f1⟩ := hR1.cells
    have HS : Hid (RStep w0 RB lv (k + 1) w ((w.drewN n).setCell ⟨RB, 1, none⟩ (.int .i64 ((k + 1 : Nat) : Int)))) := (RStep.drewN HR.out n).trans (RStep.set hR1)
    clear hR1
    go_wp2_with fail
    go_ret
    exact ⟨rfl, HS.out⟩
  | false =>
    have hb : (peekS l k != c) = true := by simpa using hc
    clear hc
    go_enter Tryz.func23, Tryz.ntmps23
    go_wp2_with fail
    refine (peek_any w0 RB lv l k _ HL.out HR.out).mono ?_
    rintro e w1 ⟨rfl, n, rfl⟩
    go_wp2_with fail
    go_ret
    exact ⟨rfl, RStep.drewN HR.out n⟩
end Go.Proofs.YtoopoljchhdobaaGreatDoor
namespace Go.Proofs.YtoopoljchhdobaaGreatDoor
open Go.RowKit

def isDig (x : Int) : Bool := decide (48 ≤ x) && decide (x ≤ 57)
/-- A number: up to three digits, no superfluous zeros; j digits with the value n have been read. -/
def numFrom : List Int → Nat → Int → Option (Int × Nat)
  | [], j, n => if 0 < j then some (n, j) else none
  | x :: r, j, n => if isDig x then (if j = 3 ∨ (0 < j ∧ n = 0) then none else numFrom r (j + 1) (10 * n + (x - 48))) else if 0 < j then some (n, j) else none
def numS (s : List Int) : Option (Int × Nat) := numFrom s 0 0

theorem drop_cons {l : List Int} {k : Nat} (h : k < l.length) : l.drop k = l[k] :: l.drop (k + 1) := List.drop_eq_getElem_cons h
theorem numFrom_dig {l : List Int} {k j : Nat} {n : Int} (h : isDig (peekS l k) = true) (hf : ¬ (j = 3 ∨ (0 < j ∧ n = 0))) : numFrom (l.drop k) j n = numFrom (l.drop (k + 1)) (j + 1) (10 * n + (peekS l k - 48)) := by
  have hk : k < l.length := peekS_in (by intro e; rw [e] at h; simp [isDig] at h)
  rw [drop_cons hk]
  simp only [numFrom]
  rw [← peekS_lt hk, h, if_pos rfl, if_neg hf]
theorem numFrom_bad {l : List Int} {k j : Nat} {n : Int} (h : isDig (peekS l k) = true) (hf : j = 3 ∨ (0 < j ∧ n = 0)) : numFrom (l.drop k) j n = none := by
  have hk : k < l.length := peekS_in (by intro e; rw [e] at h; simp [isDig] at h)
  rw [drop_cons hk]
  simp only [numFrom]
  rw [← peekS_lt hk, h, if_pos rfl, if_pos hf]
theorem numFrom_end {l : List Int} {k j : Nat} {n : Int} (h : isDig (peekS l k) = false) : numFrom (l.drop k) j n = if 0 < j then some (n, j) else none := by
  by_cases hk : k < l.length
  · rw [drop_cons hk]
    simp only [numFrom]
    rw [← peekS_lt hk, h]; simp
  · rw [List.drop_eq_nil_of_le (by omega)]; rfl

def NumPost (w0 : World) (RB : Nat) (lv : Value) (l : List Int) (k : Nat) (w : World) (r : Ending) (w' : World) : Prop :=
  ∃ (n : Int) (k' : Nat), r = .returned (.tuple #[.int .i64 n, .bool (numS (l.drop k)).isSome]) ∧ RStep w0 RB lv k' w w' ∧ k' ≤ l.length ∧ ∀ (m : Int) (c : Nat), numS (l.drop k) = some (m, c) → n = m ∧ k' = k + c

set_option maxHeartbeats 4000000 in
theorem number_any (w0 : World) (RB : Nat) (lv : Value) (l : List Int) (k : Nat) (w : World) (hl : RunesIn w0 RB lv l) (hR : RAt w0 RB lv k w) (hk : k ≤ l.length) :
    Calls Tryz.prog 43 #[.pointer (some ⟨RB, 0, none⟩)] w (NumPost w0 RB lv l k w) := by
  have hlen := hl.len
  obtain ⟨c0, c1, f1⟩ := hR.cells
  have HL := Lib.hid hl; have HR := Lib.hid hR; clear hl hR
  go_enter Tryz.func43, Tryz.ntmps43
  go_wp2_with fail
  go_loopg [5] 4 (fun g s5 wr => ∃ (j : Nat) (n : Int), g + j = 4 ∧ j ≤ 3 ∧ k + j ≤ l.length ∧ s5 = .int .i64 n ∧ 0 ≤ n ∧ n ≤ 999 ∧ (j ≤ 2 → n ≤ 99) ∧ (j ≤ 1 → n ≤ 9) ∧ (j = 0 → n = 0) ∧ RStep w0 RB lv (k + j) w wr ∧ Hid (numS (l.drop k) = numFrom (l.drop (k + j)) j n))
  case atStart => exact ⟨0, 0, rfl, by omega, by omega, rfl, by omega, by omega, by omega, by omega, by omega, ⟨grownBy_refl _ _, HR.out⟩, rfl⟩
  case round =>
    obtain ⟨j, n, hg, hj33, hkj, rfl, hn0, hn9, hn99, hn9', hnz, hS, HN⟩ := hrel
    obtain ⟨m, hm⟩ : ∃ m, m = k + j := ⟨_, rfl⟩
    rw [← hm] at hS hkj
    obtain ⟨q0, q1, p1⟩ := hS.2.cells
    have HS := Lib.hid hS; clear hS c0 c1 f1
    have HM := Lib.hid hm
    have hN := HN.out
    rw [← hm] at hN
    cases hd : isDig (peekS l m) with
    | false =>
      have HP : Hid (numS (l.drop k) = if 0 < j then some (n, j) else none) := hN.trans (numFrom_end hd)
      have hdd : ¬ 48 ≤ peekS l m ∨ ¬ peekS l m ≤ 57 := by
        simp only [isDig, Bool.and_eq_false_iff, decide_eq_false_iff_not] at hd; exact hd
      have hfin : ∀ nq : Nat, NumPost w0 RB lv l k w (.returned (.tuple #[.int .i64 n, .bool (decide (k < m))])) (wr.drewN nq) := by
        intro nq
        refine ⟨n, m, ?_, ⟨grownBy_drewN HS.out.1 nq, HS.out.2.drewN nq⟩, hkj, ?_⟩
        · rw [HP.out]
          by_cases h0 : 0 < j
          · rw [if_pos h0, decide_eq_true (by omega)]; rfl
          · rw [if_neg h0, decide_eq_false (by omega)]; rfl
        · intro m' c hq
          rw [HP.out] at hq
          split at hq
          · cases hq; exact ⟨rfl, hm⟩
          · cases hq
      have HFI := Lib.hid hfin
      clear hfin hd hm hN HN
      generalize hx : peekS l m = x at *
      have HXX := Lib.hid hx; clear hx
      by_cases h1 : 48 ≤ x
      · have b1 : decide (48 ≤ x) = true := by simpa using h1
        have h2 : ¬ x ≤ 57 := by omega
        have b2 : decide (x ≤ 57) = false := by simpa using h2
        clear hdd
        go_wp2_with fail
        refine (peek_any w0 RB lv l m _ HL.out HS.out.2).mono ?_
        rw [HXX.out]
        rintro e w1 ⟨rfl, n1, rfl⟩
        go_wp2_with fail
        refine (peek_any w0 RB lv l m _ HL.out (HS.out.2.drewN n1)).mono ?_
        rw [HXX.out]
        rintro e w2 ⟨rfl, n2, rfl⟩
        go_wp2_with fail
        go_quiet (fail)
        go_wp2_with fail
        go_ret2
        simp only [World.drewN_drewN]
        exact HFI.out _
      · have b1 : decide (48 ≤ x) = false := by simpa using h1
        clear hdd
        go_wp2_with fail
        refine (peek_any w0 RB lv l m _ HL.out HS.out.2).mono ?_
        rw [HXX.out]
        rintro e w1 ⟨rfl, n1, rfl⟩
        go_wp2_with fail
        go_quiet (fail)
        go_wp2_with fail
        go_ret2
        simp only [World.drewN_drewN]
        exact HFI.out _
    | true =>
      have hdd : 48 ≤ peekS l m ∧ peekS l m ≤ 57 := by simpa [isDig] using hd
      obtain ⟨hd1, hd2⟩ := hdd
      have hml : m < l.length := peekS_in (by omega)
      by_cases hf : j = 3 ∨ (0 < j ∧ n = 0)
      · have HP : Hid (numS (l.drop k) = none) := hN.trans (numFrom_bad hd hf)
        have hfin : ∀ nq : Nat, NumPost w0 RB lv l k w (.returned (.tuple #[.int .i64 0, .bool false])) (wr.drewN nq) := by
          intro nq
          refine ⟨0, m, by rw [HP.out]; rfl, ⟨grownBy_drewN HS.out.1 nq, HS.out.2.drewN nq⟩, hkj, ?_⟩
          intro m' c hq
          rw [HP.out] at hq; cases hq
        have HFI := Lib.hid hfin
        clear hfin hd hN HN
        generalize hx : peekS l m = x at *
        have HXX := Lib.hid hx; clear hx
        have b1 : decide (48 ≤ x) = true := by simpa using hd1
        have b2 : decide (x ≤ 57) = true := by simpa using hd2
        by_cases h3 : j = 3
        · have b3 : (((m : Nat) : Int) - ((k : Nat) : Int) == 3) = true := by rw [beq_iff_eq]; omega
          clear hm hf h3
          go_wp2_with fail
          refine (peek_any w0 RB lv l m _ HL.out HS.out.2).mono ?_
          rw [HXX.out]
          rintro e w1 ⟨rfl, n1, rfl⟩
          go_wp2_with fail
          refine (peek_any w0 RB lv l m _ HL.out (HS.out.2.drewN n1)).mono ?_
          rw [HXX.out]
          rintro e w2 ⟨rfl, n2, rfl⟩
          go_wp2_with fail
          go_ret2
          exact HFI.out _
        · have b3 : (((m : Nat) : Int) - ((k : Nat) : Int) == 3) = false := by rw [beq_eq_false_iff_ne]; omega
          have b4 : decide (k < m) = true := by simp; omega
          have b5 : (n == 0) = true := by simp; omega
          clear hm hf h3
          go_wp2_with fail
          refine (peek_any w0 RB lv l m _ HL.out HS.out.2).mono ?_
          rw [HXX.out]
          rintro e w1 ⟨rfl, n1, rfl⟩
          go_wp2_with fail
          refine (peek_any w0 RB lv l m _ HL.out (HS.out.2.drewN n1)).mono ?_
          rw [HXX.out]
          rintro e w2 ⟨rfl, n2, rfl⟩
          go_wp2_with fail
          go_ret2
          exact HFI.out _
      · have HP := Lib.hid (hN.trans (numFrom_dig hd hf))
        have hj3 : j ≤ 2 := by omega
        have b3 : (((m : Nat) : Int) - ((k : Nat) : Int) == 3) = false := by rw [beq_eq_false_iff_ne]; omega
        have b4 : decide (k < m) = decide (0 < j) := by simp only [decide_eq_decide]; omega
        have hn2 := hn99 hj3
        have hfin : ∀ nq : Nat, RStep w0 RB lv (m + 1) w ((wr.drewN nq).setCell ⟨RB, 1, none⟩ (.int .i64 ((m + 1 : Nat) : Int))) := fun nq =>
          RStep.trans ⟨grownBy_drewN HS.out.1 nq, HS.out.2.drewN nq⟩ (RStep.set (HS.out.2.drewN nq))
        have HFI := Lib.hid hfin
        clear hfin hd hN HN
        generalize hx : peekS l m = x at *
        have HXX := Lib.hid hx; clear hx
        have b1 : decide (48 ≤ x) = true := by simpa using hd1
        have b2 : decide (x ≤ 57) = true := by simpa using hd2
        have HRel : Hid (∀ nq : Nat, ∃ (j' : Nat) (n' : Int), 4 - (j + 1) + j' = 4 ∧ j' ≤ 3 ∧ k + j' ≤ l.length ∧ Value.int .i64 (10 * n + (x - 48)) = .int .i64 n' ∧ 0 ≤ n' ∧ n' ≤ 999 ∧ (j' ≤ 2 → n' ≤ 99) ∧ (j' ≤ 1 → n' ≤ 9) ∧ (j' = 0 → n' = 0) ∧ RStep w0 RB lv (k + j') w ((wr.drewN nq).setCell ⟨RB, 1, none⟩ (.int .i64 ((m + 1 : Nat) : Int))) ∧ Hid (numS (l.drop k) = numFrom (l.drop (k + j')) j' n')) := by
          intro nq
          refine ⟨j + 1, _, by omega, by omega, by omega, rfl, by omega, by omega, fun h => ?_, fun h => ?_, by omega, ?_, ?_⟩
          · have := hn9' (by omega); omega
          · have := hnz (by omega); omega
          · rw [show k + (j + 1) = m + 1 by omega]; exact HFI.out nq
          · rw [show k + (j + 1) = m + 1 by omega]; exact HP.out
        have hgk : gk = 4 - j := by omega
        have hlt4 : 4 - (j + 1) < gk := by omega
        by_cases h0 : 0 < j
        · rw [decide_eq_true h0] at b4
          have b5 : (n == 0) = false := by rw [beq_eq_false_iff_ne]; intro h; exact hf (.inr ⟨h0, h⟩)
          clear hm hf hnz hn9' hn99
          go_wp2_with fail
          refine (peek_any w0 RB lv l m _ HL.out HS.out.2).mono ?_
          rw [HXX.out]
          rintro e w1 ⟨rfl, n1, rfl⟩
          go_wp2_with fail
          refine (peek_any w0 RB lv l m _ HL.out (HS.out.2.drewN n1)).mono ?_
          rw [HXX.out]
          rintro e w2 ⟨rfl, n2, rfl⟩
          go_wp2_with fail
          refine (peek_any w0 RB lv l m _ HL.out (HS.out.2.drewN (n1 + n2))).mono ?_
          rw [HXX.out]
          rintro e w3 ⟨rfl, n3, rfl⟩
          go_wp2_with fail
          go_roundg (4 - (j + 1))
          case measure => exact hlt4
          case rel => exact HRel.out _
        · rw [decide_eq_false h0] at b4
          have hn00 := hnz (by omega)
          subst hn00
          clear hm hf hnz hn9' hn99
          go_wp2_with fail
          refine (peek_any w0 RB lv l m _ HL.out HS.out.2).mono ?_
          rw [HXX.out]
          rintro e w1 ⟨rfl, n1, rfl⟩
          go_wp2_with fail
          refine (peek_any w0 RB lv l m _ HL.out (HS.out.2.drewN n1)).mono ?_
          rw [HXX.out]
          rintro e w2 ⟨rfl, n2, rfl⟩
          go_wp2_with fail
          refine (peek_any w0 RB lv l m _ HL.out (HS.out.2.drewN (n1 + n2))).mono ?_
          rw [HXX.out]
          rintro e w3 ⟨rfl, n3, rfl⟩
          go_wp2_with fail
          go_roundg (4 - (j + 1))
          case measure => exact hlt4
          case rel =>
            have h := HRel.out (n1 + n2 + n3)
            rw [show (10 * (0 : Int) + (x - 48)) = x - 48 by omega] at h
            exact h
end Go.Proofs.YtoopoljchhdobaaGreatDoor
namespace Go.Proofs.YtoopoljchhdobaaGreatDoor
open Go.RowKit

def isLow (x : Int) : Bool := decide (97 ≤ x) && decide (x ≤ 122)
/-- How many letters come next. -/
def wordN : List Int → Nat
  | [] => 0
  | x :: r => if isLow x then wordN r + 1 else 0
def bytesOf (l : List Int) : List UInt8 := l.map fun x => UInt8.ofNat x.toNat
theorem wordN_dig {l : List Int} {k : Nat} (h : isLow (peekS l k) = true) : wordN (l.drop k) = wordN (l.drop (k + 1)) + 1 := by
  have hk : k < l.length := peekS_in (by intro e; rw [e] at h; simp [isLow] at h)
  rw [drop_cons hk, wordN, ← peekS_lt hk, h, if_pos rfl]
theorem wordN_end {l : List Int} {k : Nat} (h : isLow (peekS l k) = false) : wordN (l.drop k) = 0 := by
  by_cases hk : k < l.length
  · rw [drop_cons hk, wordN, ← peekS_lt hk, h]; simp
  · rw [List.drop_eq_nil_of_le (by omega)]; rfl
theorem wordN_le (s : List Int) : wordN s ≤ s.length := by
  induction s with
  | nil => simp [wordN]
  | cons x r ih => simp only [wordN]; split <;> simp <;> omega
theorem wordN_low (s : List Int) : ∀ x ∈ s.take (wordN s), isLow x = true := by
  induction s with
  | nil => simp [wordN]
  | cons x r ih =>
    simp only [wordN]
    split
    · next h => intro y hy; rcases List.mem_cons.1 (by simpa using hy) with rfl | hy; exact h; exact ih y hy
    · simp
theorem encode_ascii (x : Int) (h0 : 0 ≤ x) (h : x < 128) : Utf8.encode x = ⟨#[UInt8.ofNat x.toNat]⟩ := by
  have hv : Utf8.valid x = true := by simp [Utf8.valid]; omega
  unfold Utf8.encode
  simp only [hv, if_true]
  rw [if_pos (show x.toNat < 0x80 by omega)]
theorem runesBytes_ascii (l : List Int) (h : ∀ x ∈ l, 0 ≤ x ∧ x < 128) : runesBytes l = ⟨(bytesOf l).toArray⟩ := by
  have key : ∀ (l : List Int) (acc : List UInt8), (∀ x ∈ l, 0 ≤ x ∧ x < 128) → l.foldl (fun r n => r ++ Utf8.encode n) ⟨acc.toArray⟩ = (⟨(acc ++ bytesOf l).toArray⟩ : ByteArray) := by
    intro l
    induction l with
    | nil => intro acc _; simp [bytesOf]
    | cons x r ih =>
      intro acc hx
      obtain ⟨h0, h1⟩ := hx x (by simp)
      rw [List.foldl_cons, encode_ascii x h0 h1]
      have : ((⟨acc.toArray⟩ : ByteArray) ++ ⟨#[UInt8.ofNat x.toNat]⟩) = ⟨(acc ++ [UInt8.ofNat x.toNat]).toArray⟩ := by
        apply ByteArray.ext; simp [ByteArray.data_append]
      rw [this, ih _ (fun y hy => hx y (by simp [hy]))]
      simp [bytesOf]
  exact key l [] h

/-- The letters that come next. -/
def wordB (l : List Int) (k : Nat) : List UInt8 := bytesOf ((l.drop k).take (wordN (l.drop k)))
theorem wordB_runes (l : List Int) (k : Nat) : runesBytes ((l.drop k).take (wordN (l.drop k))) = ⟨(wordB l k).toArray⟩ :=
  runesBytes_ascii _ fun x hx => by have := wordN_low _ x hx; simp [isLow] at this; omega

theorem addr_add (b o j : Nat) : (⟨b, o, none⟩ : Addr).add j = ⟨b, o + j, none⟩ := by
  unfold Addr.add; split
  · next h => subst h; rfl
  · rfl
theorem elem88 : Tryz.prog.underlying 58 = some (.slice (Tryz.prog.elem 58)) := by kernel_rfl
theorem size21 (W : World) : (Go.sizeOf (Tryz.prog.elem 58)).run Tryz.prog W = .ok 1 W := by kernel_rfl
/-- The letters, cut out and made a string. -/
theorem word_slice {w0 wr : World} {RB : Nat} {lv : Value} {l : List Int} {k m : Nat} (hl : RunesIn w0 RB lv l) (hg : w0.grownBy wr (some RB)) (hm : m ≤ l.length) (hN : m = k + wordN (l.drop k)) :
    ∃ sv, (∀ W : World, (Instr.slice 58 lv (some (.int .i64 (k : Int))) (some (.int .i64 (m : Int))) none).run Tryz.prog W = .ok sv W) ∧ ∀ n : Nat, (convert 58 9 sv).run Tryz.prog (wr.drewN n) = .ok (.string ⟨(wordB l k).toArray⟩) (wr.drewN n) := by
  have hw := wordB_runes l k
  rw [show wordN (l.drop k) = m - k by omega] at hw
  obtain ⟨_, ⟨rfl, rfl⟩ | ⟨b, o, c, rfl, hlen, hb, hbs, hcap, hc⟩⟩ := hl
  · have hm0 : m = 0 := by simpa using hm
    have hk0 : k = 0 := by omega
    subst hm0 hk0
    refine ⟨_, fun W => by rw [run_slice_lh W _ _ _ _ elem88 _ _ _ _ (by omega) (by omega) (by simp), size21]; rfl, fun n => ?_⟩
    exact run_convert_runes_nil _ _ _ _ _ _ Tryz.underlying58 Tryz.underlying21 Tryz.underlying9
  · refine ⟨_, fun W => by rw [run_slice_lh W _ _ _ _ elem88 _ _ _ _ (by omega) (by omega) (by omega), size21]; rfl, fun n => ?_⟩
    simp only [Int.toNat_natCast, sliced, Option.map_some]
    rw [← hw]
    by_cases e : c = k
    · rw [if_pos e]
      have hmk : m - k = 0 := by omega
      rw [hmk, List.take_zero]
      have := run_convert_runes (P := Tryz.prog) (wr.drewN n) 58 9 21 ⟨b, o, none⟩ 0 (c - k) [] (by simp) Tryz.underlying58 Tryz.underlying21 Tryz.underlying9 (fun j hj => by simp at hj)
      simpa using this
    · rw [if_neg e, Nat.mul_one, addr_add]
      have hlt : ((l.drop k).take (m - k)).length = m - k := by simp; omega
      have := run_convert_runes (P := Tryz.prog) (wr.drewN n) 58 9 21 ⟨b, o + k, none⟩ (m - k) (c - k) ((l.drop k).take (m - k)) (by omega) Tryz.underlying58 Tryz.underlying21 Tryz.underlying9 (fun j hj => by
        rw [hlt] at hj
        rw [addr_add]
        have h1 := grownBy_cell hg (p := ⟨b, o + (k + j), none⟩) hb (hc (k + j) (by omega))
        rw [Nat.add_assoc]
        refine Eq.trans (show (wr.drewN n).cell? _ = wr.cell? _ from rfl) (h1.trans ?_)
        congr 2
        rw [List.getD_eq_getElem?_getD, List.getElem?_take_of_lt hj, List.getElem?_drop, List.getElem?_eq_getElem (by omega)]; rfl)
      rw [this, List.take_of_length_le (by omega)]

def WordPost (w0 : World) (RB : Nat) (lv : Value) (l : List Int) (k : Nat) (w : World) (r : Ending) (w' : World) : Prop :=
  r = .returned (.string ⟨(wordB l k).toArray⟩) ∧ RStep w0 RB lv (k + wordN (l.drop k)) w w'

set_option maxHeartbeats 4000000 in
theorem word_any (w0 : World) (RB : Nat) (lv : Value) (l : List Int) (k : Nat) (w : World) (hl : RunesIn w0 RB lv l) (hR : RAt w0 RB lv k w) (hk : k ≤ l.length) :
    Calls Tryz.prog 20 #[.pointer (some ⟨RB, 0, none⟩)] w (WordPost w0 RB lv l k w) := by
  have hlen := hl.len
  obtain ⟨c0, c1, f1⟩ := hR.cells
  have HL := Lib.hid hl; have HR := Lib.hid hR; clear hl hR
  go_enter Tryz.func20, Tryz.ntmps20
  go_wp2_with fail
  go_loopg [] (l.length + 1) (fun g wr => ∃ (m : Nat), g + m = l.length + k + 1 ∧ k ≤ m ∧ m ≤ l.length ∧ RStep w0 RB lv m w wr ∧ Hid (m + wordN (l.drop m) = k + wordN (l.drop k)))
  case atStart => exact ⟨k, by omega, by omega, hk, ⟨grownBy_refl _ _, HR.out⟩, rfl⟩
  case round =>
    obtain ⟨m, hg, hkm, hml, hS, HN⟩ := hrel
    obtain ⟨q0, q1, p1⟩ := hS.2.cells
    have HS := Lib.hid hS; clear hS c0 c1 f1
    have hN := HN.out
    cases hd : isLow (peekS l m) with
    | true =>
      have hdd : 97 ≤ peekS l m ∧ peekS l m ≤ 122 := by simpa [isLow] using hd
      obtain ⟨hd1, hd2⟩ := hdd
      have hml' : m < l.length := peekS_in (by omega)
      rw [wordN_dig hd] at hN
      have HN' : Hid (m + 1 + wordN (l.drop (m + 1)) = k + wordN (l.drop k)) := by unfold Hid; omega
      clear hd hN HN
      have b1 : decide (97 ≤ peekS l m) = true := by simpa using hd1
      have b2 : decide (peekS l m ≤ 122) = true := by simpa using hd2
      have HFI : Hid (∀ nq : Nat, RStep w0 RB lv (m + 1) w ((wr.drewN nq).setCell ⟨RB, 1, none⟩ (.int .i64 ((m + 1 : Nat) : Int)))) := fun nq =>
          RStep.trans ⟨grownBy_drewN HS.out.1 nq, HS.out.2.drewN nq⟩ (RStep.set (HS.out.2.drewN nq))
      generalize hx : peekS l m = x at *
      have HXX := Lib.hid hx; clear hx
      go_wp2_with fail
      refine (peek_any w0 RB lv l m _ HL.out HS.out.2).mono ?_
      rw [HXX.out]
      rintro e w1 ⟨rfl, n1, rfl⟩
      go_wp2_with fail
      refine (peek_any w0 RB lv l m _ HL.out (HS.out.2.drewN n1)).mono ?_
      rw [HXX.out]
      rintro e w2 ⟨rfl, n2, rfl⟩
      go_wp2_with fail
      go_roundg (gk - 1)
      case measure => omega
      case rel => exact ⟨m + 1, by omega, by omega, by omega, HFI.out _, HN'⟩
    | false =>
      rw [wordN_end hd, Nat.add_zero] at hN
      have hdd : ¬ 97 ≤ peekS l m ∨ ¬ peekS l m ≤ 122 := by
        simp only [isLow, Bool.and_eq_false_iff, decide_eq_false_iff_not] at hd; exact hd
      have HNM := Lib.hid hN
      clear hd hN HN
      have hfin : ∀ nq : Nat, WordPost w0 RB lv l k w (.returned (.string ⟨(wordB l k).toArray⟩)) (wr.drewN nq) := fun nq => ⟨rfl, by rw [← HNM.out]; exact ⟨grownBy_drewN HS.out.1 nq, HS.out.2.drewN nq⟩⟩
      have HFI := Lib.hid hfin; clear hfin
      obtain ⟨sv, hsl, hcv⟩ := word_slice HL.out HS.out.2.1 hml HNM.out
      generalize hx : peekS l m = x at *
      have HXX := Lib.hid hx; clear hx
      by_cases h1 : 97 ≤ x
      · have b1 : decide (97 ≤ x) = true := by simpa using h1
        have h2 : ¬ x ≤ 122 := by omega
        have b2 : decide (x ≤ 122) = false := by simpa using h2
        clear hdd
        go_wp2_with fail
        refine (peek_any w0 RB lv l m _ HL.out HS.out.2).mono ?_
        rw [HXX.out]
        rintro e w1 ⟨rfl, n1, rfl⟩
        go_wp2_with fail
        refine (peek_any w0 RB lv l m _ HL.out (HS.out.2.drewN n1)).mono ?_
        rw [HXX.out]
        rintro e w2 ⟨rfl, n2, rfl⟩
        go_wp2_with fail
        go_quiet (fail)
        go_wp2_with fail
        go_ret
        simp only [World.drewN_drewN]
        exact HFI.out _
      · have b1 : decide (97 ≤ x) = false := by simpa using h1
        clear hdd
        go_wp2_with fail
        refine (peek_any w0 RB lv l m _ HL.out HS.out.2).mono ?_
        rw [HXX.out]
        rintro e w1 ⟨rfl, n1, rfl⟩
        go_wp2_with fail
        go_quiet (fail)
        go_wp2_with fail
        go_ret
        simp only [World.drewN_drewN]
        exact HFI.out _
end Go.Proofs.YtoopoljchhdobaaGreatDoor
