/-
  RelationMonoid's list of cells: 32 cells of one bit, those of a shape with its widths.
-/
import Derived.Test.YtlnahhlddekhoaaDoorZOwnC
namespace Go.Proofs.YtlnahhlddekhoaaDoor
open Go.RowKit

def mkCell (x : Int) : CellD := ⟨⟨#[]⟩, x, 0, 0, false, 0⟩
def wTo (cs ws : List Int) (k : Nat) : List Int := ((cs.zip ws).take k).foldl (fun l p => l.set p.1.toNat p.2) (List.replicate 32 1)
def cellsTo (cs ws : List Int) (k : Nat) : List CellD := (wTo cs ws k).map mkCell
theorem wTo_succ {cs ws : List Int} {k : Nat} (h : cs.length = ws.length) (hk : k < cs.length) : wTo cs ws (k + 1) = (wTo cs ws k).set cs[k].toNat (ws[k]'(by omega)) := by
  unfold wTo
  have hz : k < (cs.zip ws).length := by simp; omega
  rw [List.take_succ_eq_append_getElem hz, List.foldl_append]
  simp
theorem wTo_len (cs ws : List Int) (k : Nat) : (wTo cs ws k).length = 32 := by
  unfold wTo
  have : ∀ (l : List (Int × Int)) (m : List Int), (l.foldl (fun l p => l.set p.1.toNat p.2) m).length = m.length := by
    intro l
    induction l with
    | nil => intro m; rfl
    | cons a r ih => intro m; rw [List.foldl_cons, ih, List.length_set]
  rw [this]; simp
theorem cellsTo_len (cs ws : List Int) (k : Nat) : (cellsTo cs ws k).length = 32 := by unfold cellsTo; rw [List.length_map, wTo_len]
theorem cellsTo_zero (cs ws : List Int) : cellsTo cs ws 0 = List.replicate 32 (mkCell 1) := by unfold cellsTo wTo; simp
theorem cellsTo_succ {cs ws : List Int} {k : Nat} (h : cs.length = ws.length) (hk : k < cs.length) (hi : cs[k].toNat < (cellsTo cs ws k).length) :
    (cellsTo cs ws k).set cs[k].toNat { (cellsTo cs ws k)[cs[k].toNat] with W := ws[k]'(by omega) } = cellsTo cs ws (k + 1) := by
  have e : (cellsTo cs ws k)[cs[k].toNat] = mkCell ((wTo cs ws k)[cs[k].toNat]'(by rw [wTo_len]; rwa [cellsTo_len] at hi)) := by simp [cellsTo]
  rw [e]
  unfold cellsTo
  rw [wTo_succ h hk, List.map_set]
  rfl
theorem wTo_get {cs ws : List Int} (h : cs.length = ws.length) (hi : incB cs = true) (hb : ∀ i, i < cs.length → 0 ≤ cs.getD i 0 ∧ cs.getD i 0 < 32) : ∀ k, k ≤ cs.length → ∀ j (hj : j < cs.length), j < k → (wTo cs ws k)[cs[j].toNat]? = some (ws[j]'(by omega)) := by
  intro k
  induction k with
  | zero => intro _ j _ hj; omega
  | succ k ih =>
    intro hk j hj hjk
    have g : ∀ i (hi : i < cs.length), cs.getD i 0 = cs[i] := fun i hi => by simp [List.getD, hi]
    have bk := hb k (by omega); have bj := hb j hj
    rw [g k (by omega)] at bk; rw [g j hj] at bj
    rw [wTo_succ h (by omega), List.getElem?_set]
    by_cases e : j = k
    · subst e
      rw [if_pos rfl, if_pos (by rw [wTo_len]; omega)]
    · have hlt := inc_all hi j k (by omega) (by omega)
      rw [g j hj, g k (by omega)] at hlt
      rw [if_neg (by omega)]
      exact ih (by omega) j hj (by omega)
theorem mon_widths {cs ws : List Int} (hs : shapeB cs ws = true) : wOf (cellsTo cs ws cs.length) cs = ws := by
  obtain ⟨h1, h2, h3⟩ := shape_iff.1 hs
  unfold wOf
  apply List.ext_getElem (by simp [h1])
  intro i hi _
  have hi' : i < cs.length := by simpa using hi
  have := wTo_get h1 h2 (fun i hi => ⟨(h3 i hi).1, (h3 i hi).2.1⟩) cs.length (Nat.le_refl _) i hi' hi'
  rw [List.getElem_map]
  unfold wAt cellsTo
  rw [List.getElem?_map, this]
  rfl
theorem mon_shape {cs ws : List Int} (hs : shapeB cs ws = true) (h6 : sumI ws ≤ 6) : shapeErr (cellsTo cs ws cs.length) cs = 0 := by
  obtain ⟨h1, h2, h3⟩ := shape_iff.1 hs
  have hin : inB (cellsTo cs ws cs.length) cs = true := by
    unfold inB
    rw [List.all_eq_true]
    intro c hc
    obtain ⟨i, hi, rfl⟩ := List.getElem_of_mem hc
    have := h3 i hi
    have g : cs.getD i 0 = cs[i] := by simp [List.getD, hi]
    rw [g] at this
    rw [cellsTo_len, Bool.and_eq_true, decide_eq_true_eq, decide_eq_true_eq]; omega
  unfold shapeErr widthsB
  rw [mon_widths hs, h2, hin, hs, if_pos (by rfl), if_pos h6]
theorem mon_identity {cs ws : List Int} {P : List (Nat × Nat)} (h : ValidR cs ws P) (vc vl : Value) (w : World) (hc : Cells w vc (cellsTo cs ws cs.length)) (hl : Ints w vl cs) (hM : Masks w) (hT : DeB w) :
    Calls Tryd.prog 23 #[vc, vl] w (RetR cs ws (idP (nn ws)) w) := by
  have hs := (small_sum h.small).1
  refine (Identity_any _ cs vc vl w hc hl (by have := shape_len hs; omega) hM hT).mono fun r w' hr => ?_
  unfold IdPost at hr
  rw [mon_shape hs h.six, if_pos rfl, mon_widths hs] at hr
  exact RelRes.ret hr
theorem relv_a2 {w : World} {a : Option Addr} {n c : Nat} {v2 v3 : Value} {cs ws : List Int} {P : List (Int × Int)} (h : RelV w (.agg #[.slice a n c, v2, v3]) cs ws P) : n = cs.length := by
  obtain ⟨_, _, _, e, h1, _, _⟩ := h
  cases e
  obtain ⟨_, _, e⟩ := SliceAt.shape h1
  cases e; rfl
theorem relv_a5 {w : World} {a : Option Addr} {n c : Nat} {v1 v3 : Value} {cs ws : List Int} {P : List (Int × Int)} (h : RelV w (.agg #[v1, .slice a n c, v3]) cs ws P) : n = ws.length := by
  obtain ⟨_, _, _, e, _, h1, _⟩ := h
  cases e
  obtain ⟨_, _, e⟩ := SliceAt.shape h1
  cases e; rfl
theorem ints_cell {w : World} {a : Option Addr} {n c : Nat} {l : List Int} (h : Ints w (.slice a n c) l) {k : Nat} (hk : k < l.length) : ∃ b o, a = some ⟨b, o, none⟩ ∧ w.cell? ⟨b, o + k, none⟩ = some (.int .i64 l[k]) := by
  rcases h with ⟨_, e⟩ | ⟨b, o, c', e, _, hc⟩
  · rw [e] at hk; simp at hk
  · cases e
    have := hc k hk
    rw [Nat.mul_one] at this
    exact ⟨b, o, rfl, this⟩
end Go.Proofs.YtlnahhlddekhoaaDoor
