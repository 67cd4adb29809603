/-
  The words of a line: the walk of separator, strings.FieldsFunc there.
-/
import Derived.Test.YtnkhaobokmmnjaaDoorCq3
import Derived.Test.YtnkhaobokmmnjaaDoorFld
namespace Go.Proofs.YtnkhaobokmmnjaaDoor
open Go.RowKit Go.Shelf

def sepP (x : Nat) : Bool := x == 32 || x == 9 || x == 13
theorem sepP_byte (x : UInt8) : sepP x.toNat = sepC x := by
  unfold sepP sepC
  have h : ∀ k : UInt8, (x.toNat == k.toNat) = (x == k) := fun k => by
    rw [Bool.eq_iff_iff, beq_iff_eq, beq_iff_eq]; exact UInt8.toNat_inj
  have h1 := h 32; have h2 := h 9; have h3 := h 13
  rw [← h1, ← h2, ← h3]; rfl
set_option maxHeartbeats 1000000 in
theorem separator_any (x : Nat) (w : World) : Calls Tryd.prog 38 #[.int .i32 (x : Int)] w fun e w' => e = .returned (.bool (sepP x)) ∧ w' = w := by
  have HS : Hid (sepP x = (((x : Int) == 32) || ((x : Int) == 9) || ((x : Int) == 13))) := by
    unfold Hid sepP
    have h : ∀ k : Nat, (x == k) = ((x : Int) == (k : Int)) := fun k => by rw [Bool.eq_iff_iff, beq_iff_eq, beq_iff_eq]; omega
    rw [h 32, h 9, h 13]; rfl
  generalize sepP x = y at *
  generalize hq1 : ((x : Int) == 32) = q1 at *
  generalize hq2 : ((x : Int) == 9) = q2 at *
  generalize hq3 : ((x : Int) == 13) = q3 at *
  cases q1
  · cases q2
    · cases q3
      · go_enter Tryd.func38, Tryd.ntmps38
        go_wp2_with fail
        go_ret
        exact ⟨by rw [HS.out]; rfl, rfl⟩
      · go_enter Tryd.func38, Tryd.ntmps38
        go_wp2_with fail
        go_ret
        exact ⟨by rw [HS.out]; rfl, rfl⟩
    · go_enter Tryd.func38, Tryd.ntmps38
      go_wp2_with fail
      go_ret
      exact ⟨by rw [HS.out]; rfl, rfl⟩
  · go_enter Tryd.func38, Tryd.ntmps38
    go_wp2_with fail
    go_ret
    exact ⟨by rw [HS.out]; rfl, rfl⟩
/-- A row of strings in a block of its own. -/
def StrsB (w : World) (v : Value) (l : List (List UInt8)) : Prop := ∃ A cur, v = .slice (some ⟨A, 0, none⟩) l.length l.length ∧ l.length ≤ 9223372036854775807 ∧ w.heap[A]? = some (.cells cur 9 (0, 0)) ∧ ∀ i, (h : i < l.length) → cur[i]? = some (.string ⟨l[i].toArray⟩)
theorem StrsB.strs {w : World} {v : Value} {l : List (List UInt8)} (h : StrsB w v l) : Strs w v l := by
  obtain ⟨A, cur, rfl, hl, hh, hc⟩ := h
  refine .inr ⟨A, 0, l.length, rfl, hl, fun i hi => ?_⟩
  rw [Nat.mul_one, Nat.zero_add]
  unfold StrAt
  simp only [World.cell?, hh]
  exact hc i hi
theorem StrsB.rdf {w w' : World} {b : Nat} {v : Value} {l : List (List UInt8)} (h : StrsB w v l) (hr : Rdf b w w') (hb : ∃ cs, w.heap[b]? = some (.cells cs 68 (0, 0))) : StrsB w' v l := by
  obtain ⟨A, cur, rfl, hl, hh, hc⟩ := h
  refine ⟨A, cur, rfl, hl, hr.same A _ hh (fun e => ?_) fun _ cs => ⟨fun e => ?_, fun e => ?_⟩, hc⟩
  · obtain ⟨cs, hcs⟩ := hb
    subst e; rw [hh] at hcs; cases hcs
  · cases e
  · cases e
theorem words_any (l : List UInt8) (w : World) (hl : l.length ≤ 1000000) (h8 : ∀ x ∈ l, x.toNat < 128) : Calls Tryd.prog 37 #[.string ⟨l.toArray⟩, .func (.func 38) #[] #[]] w fun e w' =>
    ∃ v, e = .returned v ∧ StrsB w' v (wordsF [] l) ∧ Ext w w' := by
  have eg : ∀ args w, (callFunc 38 args).run Tryd.prog w = .ok (.enter 38 args) w := enters_of Tryd.func38 (by kernel_rfl) rfl
  refine (Tryd.strings_FieldsFunc_runes 38 #[] eg sepP ⟨l.toArray⟩ w (by show l.toArray.size ≤ 4294967296; simp; omega) fun W x _ _ => (separator_any x W).mono fun e w' h => ⟨h.1, 0, h.2⟩).mono ?_
  rintro e w' ⟨A, rfl, hA, hown, hb⟩
  have hf := fields_words sepP l fun x hx => ⟨sepP_byte x, h8 x hx⟩
  rw [hf] at hown ⊢
  refine ⟨_, rfl, ?_, hb⟩
  rcases hown.2 with ⟨e, _⟩ | ⟨g, cap, cur, e, hg, hh, hn, hc, hs, ht⟩
  · cases e
  · cases e
    refine ⟨A, cur, by simp, by unfold maxLen at hc; simp at hc; omega, hh, fun i hi => ?_⟩
    have := congrArg (fun x => x[i]?) ht
    simp only [List.getElem?_take] at this
    rw [if_pos (by simp; omega)] at this
    simpa [hi] using this
end Go.Proofs.YtnkhaobokmmnjaaDoor
