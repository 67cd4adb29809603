/-
  Small inputs: what the contracts of law25 ask.
-/
import Derived.Test.YteclcnbaaiidbaaDoorPh2
import Derived.Test.YteclcnbaaiidbaaDoorPj2
import Derived.Test.YteclcnbaaiidbaaDoorPk1
namespace Go.Proofs.YteclcnbaaiidbaaDoor
open Go.RowKit

structure SmallI (cl : List (List Int)) (l : List St) : Prop where
  clen : cl.length ≤ 60
  len : l.length ≤ 61
  cls : ∀ c ∈ cl, c.length ≤ 24
  lits : ∀ s ∈ l, s.lits.length ≤ 24
  hints : ∀ s ∈ l, s.hints.length ≤ 24
theorem small_iff {cl : List (List Int)} {l : List St} (h : smallP cl l = true) : SmallI cl l ∧ l.length ≤ 60 := by
  unfold smallP at h
  simp only [Bool.and_eq_true, decide_eq_true_eq, List.all_eq_true] at h
  obtain ⟨⟨⟨h1, h2⟩, h3⟩, h4⟩ := h
  exact ⟨⟨h1, by omega, h3, fun s hs => (h4 s hs).1, fun s hs => (h4 s hs).2⟩, h2⟩
/-- The numbers are ints. -/
structure Inp (vars : Int) (l : List St) : Prop where
  vars : InI vars
  lits : ∀ s ∈ l, ∀ x ∈ s.lits, InI x
theorem SmallI.tame {vars : Int} {cl : List (List Int)} {l : List St} (h : SmallI cl l) (hi : Inp vars l) : Tame vars cl l :=
  ⟨hi.vars, by have := h.clen; omega, by have := h.len; omega, fun s hs => ⟨by have := h.lits s hs; omega, hi.lits s hs⟩, fun s hs => by have := h.hints s hs; omega⟩
theorem getD_mem {l : List St} {k : Nat} (h : k < l.length) : l.getD k st0 ∈ l := by
  have : l.getD k st0 = l[k] := by simp [List.getD, h]
  rw [this]; exact List.getElem_mem h
theorem getDL_mem {l : List (List Int)} {k : Nat} (h : k < l.length) : l.getD k [] ∈ l := by
  have : l.getD k [] = l[k] := by simp [List.getD, h]
  rw [this]; exact List.getElem_mem h
theorem SmallI.clause {cl : List (List Int)} {l : List St} (h : SmallI cl l) (x : Int) (h0 : 0 ≤ x) (h1 : x < (cl.length : Int) + l.length) : (clauseS cl l x).length ≤ 100000 := by
  unfold clauseS
  split
  · have := h.cls _ (getDL_mem (l := cl) (k := x.toNat) (by omega)); omega
  · have := h.lits _ (getD_mem (l := l) (k := (x - (cl.length : Int)).toNat) (by omega)); omega
theorem SmallI.sized {vars : Int} {cl : List (List Int)} {l : List St} (h : SmallI cl l) (hv : validP vars cl.length l = true) : Sized cl l :=
  ⟨by have := h.clen; omega, by have := h.len; omega, fun k hk => by have := h.lits _ (getD_mem hk); omega, fun k hk => by have := h.hints _ (getD_mem hk); omega, fun k hk g hg => by
    have hb := (valid_iff.1 hv).hints k hk g hg
    exact ⟨hb.1, by omega, h.clause g hb.1 (by omega)⟩⟩
theorem trim_mem {n : Nat} {l : List St} {s : St} (h : s ∈ trimL n l) : ∃ k, k < l.length ∧ s = stepN n l k := by
  unfold trimL trimTo at h
  obtain ⟨k, hk, rfl⟩ := List.mem_map.1 h
  exact ⟨k, List.mem_range.1 (List.mem_filter.1 hk).1, rfl⟩
theorem trim_le (n : Nat) (l : List St) : (trimL n l).length ≤ l.length := by rw [trim_len]; exact rank_bd n l l.length
theorem SmallI.trim {n : Nat} {cl : List (List Int)} {l : List St} (h : SmallI cl l) : SmallI cl (trimL n l) :=
  ⟨h.clen, Nat.le_trans (trim_le n l) h.len, h.cls, fun s hs => by
    obtain ⟨k, hk, rfl⟩ := trim_mem hs; exact h.lits (l.getD k st0) (getD_mem hk), fun s hs => by
    obtain ⟨k, hk, rfl⟩ := trim_mem hs
    show ((l.getD k st0).hints.map _).length ≤ 24
    rw [List.length_map]; exact h.hints _ (getD_mem hk)⟩
theorem Inp.trim {n : Nat} {vars : Int} {l : List St} (h : Inp vars l) : Inp vars (trimL n l) :=
  ⟨h.vars, fun s hs => by obtain ⟨k, hk, rfl⟩ := trim_mem hs; exact h.lits (l.getD k st0) (getD_mem hk)⟩
/-- Trim of a well-formed refutation. -/
theorem Trim_ok {vars : Int} {cl : List (List Int)} {l : List St} {vf vl : Value} {w : World} (hf : CnfV w vf vars cl) (hl : Steps w vl l) (ht : Tame vars cl l) (hv : validP vars cl.length l = true) :
    Calls Tryd.prog 15 #[vf, vl] w fun r w' => ∃ a c, r = .returned (.tuple #[.slice a (trimL cl.length l).length c, .int .i64 0]) ∧ Steps w' (.slice a (trimL cl.length l).length c) (trimL cl.length l) ∧ Ext w w' := by
  refine (Trim_any vars cl l vf vl w hf hl ht).mono ?_
  rintro r w' ⟨hx, _, h⟩
  obtain ⟨v, rfl, hs⟩ := h hv
  obtain ⟨a, c, rfl⟩ := SliceAt.shape hs
  exact ⟨a, c, rfl, hs, hx⟩
end Go.Proofs.YteclcnbaaiidbaaDoor
