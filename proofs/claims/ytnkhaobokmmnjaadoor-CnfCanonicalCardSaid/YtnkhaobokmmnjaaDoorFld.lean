/-
  strings.FieldsFunc at bytes below 128: its pieces are the words.
-/
import Derived.Test.YtnkhaobokmmnjaaDoorCp1
import Derived.Lib.FieldsP
import Derived.Lib.TrimAscii
namespace Go.Proofs.YtnkhaobokmmnjaaDoor
open Go.Lib

theorem spans_words (p : Nat → Bool) (s : ByteArray) (hp : ∀ x ∈ s.data.toList, p x.toNat = sepC x ∧ x.toNat < 128) : ∀ (f pos : Nat) (st : Option Nat) (acc : List (Nat × Nat)), s.size ≤ pos + f → pos ≤ s.size → (∀ a, st = some a → a < pos) →
    acc.map (fun q => pieceU s.data.toList q.1 q.2) ++ wordsF (openPiece s.data.toList st pos) (s.data.toList.drop pos) = (closeSpans s (spansFromP p s f pos st acc)).map (fun q => pieceU s.data.toList q.1 q.2) := by
  have hend : ∀ (st : Option Nat) (acc : List (Nat × Nat)), (∀ a, st = some a → a < s.size) → acc.map (fun q => pieceU s.data.toList q.1 q.2) ++ wordsF (openPiece s.data.toList st s.size) (s.data.toList.drop s.size) = (closeSpans s (acc, st)).map (fun q => pieceU s.data.toList q.1 q.2) := by
    intro st acc hst
    have hd : s.data.toList.drop s.size = [] := List.drop_eq_nil_of_le (by rw [← size_eq]; exact Nat.le_refl _)
    rw [hd]
    cases st with
    | none => simp [closeSpans, openPiece, wordsF]
    | some a =>
      have := pieceU_ne s.data.toList a s.size (hst a rfl) (by rw [← size_eq]; exact Nat.le_refl _)
      simp [closeSpans, openPiece, wordsF, this]
  intro f
  induction f with
  | zero =>
    intro pos st acc h hpos hst
    obtain rfl : pos = s.size := by omega
    exact hend st acc hst
  | succ f ih =>
    intro pos st acc h hpos hst
    by_cases hlt : pos < s.size
    · have hll : pos < s.data.toList.length := by rw [← size_eq]; exact hlt
      have hdr : s.data.toList.drop pos = s.data.toList[pos] :: s.data.toList.drop (pos + 1) := List.drop_eq_getElem_cons hll
      obtain ⟨h1, h2⟩ := hp _ (List.getElem_mem hll)
      have hdec : Utf8.decode s pos = (s.data.toList[pos].toNat, 1) := by rw [← decodeL_drop, hdr]; exact decodeL_ascii _ _ h2
      rw [hdr]
      simp only [spansFromP, if_pos hlt, hdec, wordsF, h1]
      cases hsp : sepC s.data.toList[pos] with
      | true =>
        simp only [if_true]
        cases st with
        | none =>
          have ih := ih (pos + 1) none acc (by omega) (by omega) (fun a h => by cases h)
          simpa [openPiece] using ih
        | some a =>
          have hpn := pieceU_ne s.data.toList a pos (hst a rfl) (by rw [← size_eq]; omega)
          have ih := ih (pos + 1) none (acc ++ [(a, pos)]) (by omega) (by omega) (fun a h => by cases h)
          simpa [openPiece, hpn] using ih
      | false =>
        simp only [Bool.false_eq_true, if_false]
        have hone : [s.data.toList[pos]] = (s.data.toList.drop pos).take 1 := by rw [hdr]; rfl
        cases st with
        | none =>
          have ih := ih (pos + 1) (some pos) acc (by omega) (by omega) (fun a h => by cases h; omega)
          have e : ([] : List UInt8) ++ [s.data.toList[pos]] = pieceU s.data.toList pos (pos + 1) := by
            unfold pieceU
            rw [List.nil_append, Nat.add_sub_cancel_left, hone]
          simp only [openPiece] at ih ⊢
          rw [e]
          exact ih
        | some a =>
          have ih := ih (pos + 1) (some a) acc (by omega) (by omega) (fun b h => by cases h; have := hst a rfl; omega)
          simp only [openPiece] at ih ⊢
          rw [hone, pieceU_grow _ _ _ _ (Nat.le_of_lt (hst a rfl))]
          exact ih
    · obtain rfl : pos = s.size := by omega
      rw [spansFromP_end p s _ _ _ _ hlt]
      exact hend st acc hst
/-- The pieces are the words. -/
theorem fields_words (p : Nat → Bool) (l : List UInt8) (hp : ∀ x ∈ l, p x.toNat = sepC x ∧ x.toNat < 128) : goFieldsP p ⟨l.toArray⟩ = (wordsF [] l).map fun w => (⟨w.toArray⟩ : ByteArray) := by
  have h := spans_words p ⟨l.toArray⟩ (by simpa using hp) (⟨l.toArray⟩ : ByteArray).size 0 none [] (by omega) (Nat.zero_le _) (fun a h => by cases h)
  simp only [List.map_nil, List.nil_append, openPiece, List.drop_zero] at h
  have e : (l.toArray : Array UInt8).toList = l := by simp
  have h' : (goFieldsP p ⟨l.toArray⟩).map (·.data.toList) = wordsF [] l := by
    unfold goFieldsP spansOfP
    rw [List.map_map]
    refine Eq.trans ?_ h.symm
    congr 1
    funext q
    simp [pieceU]
  rw [← h', List.map_map]
  refine (List.map_id _).symm.trans (List.map_congr_left fun b _ => ?_)
  simp
end Go.Proofs.YtnkhaobokmmnjaaDoor
