/-
  Plain laws of CnfText: the layout, its length and its bytes.
-/
import Derived.Test.YtnkhaobokmmnjaaDoorCp2
namespace Go.Proofs.YtnkhaobokmmnjaaDoor

def gapK (lay : List Int) (i : Nat) : Nat := if i < lay.length then (lay.getD i 0).toNat % 7 else 0
theorem gapK_lt (lay : List Int) (i : Nat) : gapK lay i < 7 := by unfold gapK; split <;> omega
def gapAt (lay : List Int) (i : Nat) : List UInt8 := gapL.getD (gapK lay i) [32]
theorem gapAt_mem (lay : List Int) (i : Nat) : gapAt lay i ∈ gapL := by
  have h := gapK_lt lay i
  unfold gapAt
  generalize gapK lay i = k at *
  rw [show gapL.getD k [32] = gapL[k]'(by show k < 7; exact h) by simp [List.getD, show k < gapL.length from h]]
  exact List.getElem_mem _
theorem gap_small : ∀ g ∈ gapL, g.length ≤ 13 ∧ ∀ x ∈ g, x.toNat < 128 := by decide
theorem layB_len (lay : List Int) : ∀ (a : List UInt8) (hd : Bool) (i : Nat), (layB (gapAt lay) hd i a).length ≤ 13 * a.length := by
  intro a
  induction a with
  | nil => intro hd i; simp [layB]
  | cons x r ih =>
    intro hd i
    rw [layB, List.length_append, List.length_cons]
    have h1 := ih (hd && !(x == 10)) (i + 1)
    have h2 := (gap_small _ (gapAt_mem lay i)).1
    split
    · omega
    · simp; omega
theorem layB_ascii (lay : List Int) : ∀ (a : List UInt8) (hd : Bool) (i : Nat), (∀ x ∈ a, x.toNat < 128) → ∀ x ∈ layB (gapAt lay) hd i a, x.toNat < 128 := by
  intro a
  induction a with
  | nil => intro hd i _ x hx; simp [layB] at hx
  | cons y r ih =>
    intro hd i h x hx
    rw [layB, List.mem_append] at hx
    rcases hx with g | g
    · split at g
      · exact (gap_small _ (gapAt_mem lay i)).2 x g
      · rw [List.mem_singleton] at g; subst g; exact h _ (by simp)
    · exact ih _ _ (fun z hz => h z (by simp [hz])) x g
theorem digits_ascii (u : Nat) : ∀ x ∈ Lib.decDigits u, x.toNat < 128 := fun x hx => by
  have h := digits_digOk u x hx
  unfold digOk at h
  simp only [Bool.and_eq_true, decide_eq_true_eq] at h
  have h2 := h.2
  have : x.toNat ≤ 57 := h2
  omega
theorem itoa_ascii (n : Int) : ∀ x ∈ Lib.itoa n, x.toNat < 128 := by
  intro x hx
  rcases Int.lt_or_le n 0 with h | h
  · obtain ⟨u, rfl⟩ : ∃ u : Nat, n = -(u : Int) := ⟨n.natAbs, by omega⟩
    rw [Lib.itoa_neg u (by omega)] at hx
    rcases List.mem_cons.1 hx with rfl | g
    · decide
    · exact digits_ascii u x g
  · obtain ⟨u, rfl⟩ : ∃ u : Nat, n = (u : Int) := ⟨n.toNat, by omega⟩
    rw [Lib.itoa_nonneg] at hx
    exact digits_ascii u x hx
theorem litText_ascii (c : List Int) : ∀ x ∈ litText c, x.toNat < 128 := fun x hx => by
  obtain ⟨l, _, h⟩ := List.mem_flatMap.1 hx
  rcases List.mem_append.1 h with g | g
  · exact itoa_ascii l x g
  · rw [List.mem_singleton] at g; subst g; decide
theorem clsText_ascii (cl : List (List Int)) : ∀ x ∈ clsText cl, x.toNat < 128 := fun x hx => by
  obtain ⟨c, _, h⟩ := List.mem_flatMap.1 hx
  rcases List.mem_append.1 h with g | g
  · exact litText_ascii c x g
  · simp at g; rcases g with rfl | rfl <;> decide
theorem textC_ascii (vars : Int) (cl : List (List Int)) : ∀ x ∈ textC vars cl, x.toNat < 128 := fun x hx => by
  unfold textC headText at hx
  simp only [List.append_assoc, List.mem_append, List.mem_cons, List.not_mem_nil, or_false] at hx
  rcases hx with (rfl | rfl | rfl | rfl | rfl | rfl) | hx
  iterate 6 decide
  rcases hx with h | rfl | h | rfl | h
  · exact itoa_ascii _ x h
  · decide
  · exact itoa_ascii _ x h
  · decide
  · exact clsText_ascii cl x h
theorem litText_len : ∀ (c : List Int), (∀ x ∈ c, -8000 ≤ x ∧ x ≤ 8000) → (litText c).length ≤ 22 * c.length := by
  intro c
  induction c with
  | nil => intro _; simp [litText]
  | cons x r ih =>
    intro h
    have h1 := ih fun y hy => h y (by simp [hy])
    have h2 := h x (by simp)
    have h3 := Lib.itoa_length_le x (by omega) (by omega)
    unfold litText at *
    rw [List.flatMap_cons, List.length_append, List.length_append, List.length_singleton, List.length_cons]
    omega
theorem clsText_len : ∀ (cl : List (List Int)), (∀ c ∈ cl, c.length ≤ 20 ∧ ∀ x ∈ c, -8000 ≤ x ∧ x ≤ 8000) → (clsText cl).length ≤ 442 * cl.length := by
  intro cl
  induction cl with
  | nil => intro _; simp [clsText]
  | cons c r ih =>
    intro h
    have h1 := ih fun y hy => h y (by simp [hy])
    have h2 := h c (by simp)
    have h3 := litText_len c h2.2
    have e : clsText (c :: r) = clText c ++ clsText r := by simp [clsText]
    have e2 : (clText c).length = (litText c).length + 2 := by simp [clText]
    rw [e, List.length_append, e2, List.length_cons]
    omega
theorem textC_len {vars : Int} {cl : List (List Int)} (hv : 0 ≤ vars ∧ vars ≤ 8000) (h60 : cl.length ≤ 60) (h : ∀ c ∈ cl, c.length ≤ 20 ∧ ∀ x ∈ c, -8000 ≤ x ∧ x ≤ 8000) : (textC vars cl).length ≤ 27000 := by
  have h1 := clsText_len cl h
  have h2 := Lib.itoa_length_le vars (by omega) (by omega)
  have h3 := Lib.itoa_length_le (cl.length : Int) (by omega) (by omega)
  unfold textC headText
  simp only [List.length_append, List.length_cons, List.length_nil]
  omega
end Go.Proofs.YtnkhaobokmmnjaaDoor
