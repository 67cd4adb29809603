/-
  Steps and formulas in memory; the walk of proof.Valid.
-/
import Derived.Test.YteclcnbaaiidbaaDoorPv1
namespace Go.Proofs.YteclcnbaaiidbaaDoor
open Go.RowKit

def ListAt (w : World) (b o : Nat) (l : List Int) : Prop := ∃ v, w.cell? ⟨b, o, none⟩ = some v ∧ Ints w v l
theorem ListAt.keeps : Keeps ListAt := fun _ _ _ _ _ he ⟨v, h1, h2⟩ => ⟨v, he.cell h1, h2.ext he⟩
def Lists (w : World) (v : Value) (ll : List (List Int)) : Prop := SliceAt 1 ListAt w v ll
theorem Lists.ext {w w' : World} {v : Value} {l : List (List Int)} (h : Lists w v l) (he : Ext w w') : Lists w' v l := SliceAt.ext ListAt.keeps h he
def StAt (w : World) (b o : Nat) (s : St) : Prop := ∃ v1 v2, w.cell? ⟨b, o, none⟩ = some v1 ∧ w.cell? ⟨b, o + 1, none⟩ = some v2 ∧ Ints w v1 s.lits ∧ Ints w v2 s.hints
theorem StAt.keeps : Keeps StAt := fun _ _ _ _ _ he ⟨v1, v2, h1, h2, h3, h4⟩ => ⟨v1, v2, he.cell h1, he.cell h2, h3.ext he, h4.ext he⟩
def Steps (w : World) (v : Value) (l : List St) : Prop := SliceAt 2 StAt w v l
theorem Steps.ext {w w' : World} {v : Value} {l : List St} (h : Steps w v l) (he : Ext w w') : Steps w' v l := SliceAt.ext StAt.keeps h he
def CnfV (w : World) (v : Value) (vars : Int) (cl : List (List Int)) : Prop := ∃ vc, v = .agg #[.int .i64 vars, vc] ∧ Lists w vc cl
theorem CnfV.ext {w w' : World} {v : Value} {vars : Int} {cl : List (List Int)} (h : CnfV w v vars cl) (he : Ext w w') : CnfV w' v vars cl := by
  obtain ⟨vc, e, h2⟩ := h; exact ⟨vc, e, h2.ext he⟩
theorem CnfV.shape {w : World} {v : Value} {vars : Int} {cl : List (List Int)} (h : CnfV w v vars cl) : ∃ a c, v = .agg #[.int .i64 vars, .slice a cl.length c] ∧ Lists w (.slice a cl.length c) cl := by
  obtain ⟨vc, e, h2⟩ := h
  obtain ⟨a, c, rfl⟩ := SliceAt.shape h2
  exact ⟨a, c, e, h2⟩
/-- A step of a slice of steps, its two slices written out. -/
theorem Steps.at {w : World} {a : Option Addr} {n c : Nat} {l : List St} (h : Steps w (.slice a n c) l) {k : Nat} (hk : k < l.length) : ∃ b o a1 c1 a2 c2, a = some ⟨b, o, none⟩ ∧ w.cell? ⟨b, o + k * 2, none⟩ = some (.slice a1 l[k].lits.length c1) ∧ w.cell? ⟨b, o + k * 2 + 1, none⟩ = some (.slice a2 l[k].hints.length c2) ∧
    Ints w (.slice a1 l[k].lits.length c1) l[k].lits ∧ Ints w (.slice a2 l[k].hints.length c2) l[k].hints := by
  rcases h with ⟨_, e⟩ | ⟨b, o, cap, e, _, hc⟩
  · subst e; simp at hk
  · cases e
    obtain ⟨v1, v2, h1, h2, h3, h4⟩ := hc k hk
    obtain ⟨a1, c1, rfl⟩ := h3.shape
    obtain ⟨a2, c2, rfl⟩ := h4.shape
    exact ⟨b, o, a1, c1, a2, c2, rfl, h1, h2, h3, h4⟩
/-- A small formula and refutation, its numbers in the range of int. -/
structure Tame (vars : Int) (cl : List (List Int)) (l : List St) : Prop where
  vars : InI vars
  cl : cl.length ≤ 100000
  len : l.length ≤ 100000
  lits : ∀ s ∈ l, s.lits.length ≤ 100000 ∧ ∀ x ∈ s.lits, InI x
  hints : ∀ s ∈ l, s.hints.length ≤ 100000
def okTo (vars : Int) (n : Nat) (l : List St) (k : Nat) : Prop := ∀ j, j < k → litsOk vars (l.getD j st0).lits = true ∧ hintsOk ((n : Int) + j) (l.getD j st0).hints = true
theorem valid_no {vars : Int} {n : Nat} {l : List St} {k : Nat} (hk : k < l.length) (h : litsOk vars (l.getD k st0).lits = false ∨ hintsOk ((n : Int) + k) (l.getD k st0).hints = false) : validP vars n l = false := by
  rw [Bool.eq_false_iff]
  intro c
  unfold validP at c
  rw [Bool.and_eq_true, List.all_eq_true] at c
  have := c.2 k (List.mem_range.2 hk)
  rw [Bool.and_eq_true] at this
  rcases h with h | h
  · rw [h] at this; simp at this
  · rw [h] at this; simp at this
theorem valid_yes {vars : Int} {n : Nat} {l : List St} (hl : l.length ≤ 20000) (h : okTo vars n l l.length) : validP vars n l = true := by
  unfold validP
  rw [Bool.and_eq_true, decide_eq_true_eq, List.all_eq_true]
  refine ⟨hl, fun k hk => ?_⟩
  have := h k (List.mem_range.1 hk)
  rw [this.1, this.2]; rfl
set_option maxRecDepth 100000 in
set_option maxHeartbeats 4000000 in
theorem PValid_any (vars : Int) (cl : List (List Int)) (l : List St) (vf vl : Value) (w : World) (hf : CnfV w vf vars cl) (hl : Steps w vl l) (ht : Tame vars cl l) : Calls Tryd.prog 14 #[vf, vl] w fun r w' => r = .returned (.bool (validP vars cl.length l)) ∧ Ext w w' := by
  obtain ⟨fa, fc, rfl, hcl⟩ := hf.shape
  obtain ⟨la, lc, rfl⟩ := SliceAt.shape hl
  obtain ⟨W, hW⟩ : ∃ W, W = w.alloc (.cells #[.int .i64 vars, .slice fa cl.length fc] 27) := ⟨_, rfl⟩
  have hx : Ext w W := by rw [hW]; exact (Ext.refl w).alloc _
  have hB : W.heap[w.heap.size]? = some (.cells #[.int .i64 vars, .slice fa cl.length fc] 27 (0, 0)) := by rw [hW]; exact heap_new _ _
  have p0 : W.cell? ⟨w.heap.size, 0, none⟩ = some (.int .i64 vars) := by simp [World.cell?, hB]
  have p1 : W.cell? ⟨w.heap.size, 1, none⟩ = some (.slice fa cl.length fc) := by simp [World.cell?, hB]
  have P0 := Lib.hid p0; have P1 := Lib.hid p1; have HL := Lib.hid (hl.ext hx); have HT := Lib.hid ht; have HX := Lib.hid hx; have HW := Lib.hid hW
  have hcl1 := ht.cl; have hll := ht.len
  clear hf hl ht hcl hB p0 p1 hx hW
  go_enter Tryd.func14, Tryd.ntmps14
  go_upto_region 1 with fail
  rw [← HW.out]
  clear HW
  generalize w.heap.size = b0 at *
  by_cases h20 : 20000 < l.length
  · have HN : Hid (validP vars cl.length l = false) := by unfold Hid validP; rw [decide_eq_false (show ¬ l.length ≤ 20000 by omega)]; rfl
    go_wp2_with fail
    go_ret
    exact ⟨by rw [HN.out]; rfl, HX.out⟩
  go_wp2_with fail
  go_loopw [14] (fun i wr => ∃ k : Nat, k ≤ l.length ∧ i = .int .i64 k ∧ Ext W wr ∧ okTo vars cl.length l k) (fun i _ => l.length - (intOf i).toNat)
  case atStart => exact ⟨0, Nat.zero_le _, rfl, Ext.refl _, fun j hj => by omega⟩
  case round =>
    obtain ⟨k, hk, rfl, hX, hO⟩ := hrel
    have HXr := Lib.hid hX; have HO := Lib.hid hO; clear hX hO
    by_cases hlt : k < l.length
    · obtain ⟨b, o, a1, c1, a2, c2, hla, g0, g1, i1, i2⟩ := (HL.out.ext HXr.out).at hlt
      subst hla
      have hmem : l[k] ∈ l := List.getElem_mem hlt
      obtain ⟨hl1, hl2⟩ := HT.out.lits _ hmem
      have hl3 := HT.out.hints _ hmem
      have hgd : l.getD k st0 = l[k] := by simp [List.getD, hlt]
      have HNO : Hid (litsOk vars l[k].lits = false ∨ hintsOk ((cl.length : Int) + k) l[k].hints = false → validP vars cl.length l = false) := fun h => valid_no hlt (by rw [hgd]; exact h)
      have HYES : Hid (litsOk vars l[k].lits = true → hintsOk ((cl.length : Int) + k) l[k].hints = true → okTo vars cl.length l (k + 1)) := fun h1 h2 j hj => by
        by_cases e : j = k
        · subst e; rw [hgd]; exact ⟨h1, h2⟩
        · exact HO.out j (by omega)
      have I1 := Lib.hid i1; have I2 := Lib.hid i2; have HR := Lib.hid hl2
      clear hgd hmem i1 i2 hl2
      generalize l[k].lits = lits at *
      generalize l[k].hints = hints at *
      obtain ⟨W1, hW1⟩ : ∃ W1, W1 = wr.alloc (.cells #[.slice a1 lits.length c1, .slice a2 hints.length c2] 35) := ⟨_, rfl⟩
      have hx1 : Ext wr W1 := by rw [hW1]; exact (Ext.refl _).alloc _
      have hB1 : W1.heap[wr.heap.size]? = some (.cells #[.slice a1 lits.length c1, .slice a2 hints.length c2] 35 (0, 0)) := by rw [hW1]; exact heap_new _ _
      have q0 : W1.cell? ⟨wr.heap.size, 0, none⟩ = some (.slice a1 lits.length c1) := by simp [World.cell?, hB1]
      have q1 : W1.cell? ⟨wr.heap.size, 1, none⟩ = some (.slice a2 hints.length c2) := by simp [World.cell?, hB1]
      have r0 := (HXr.out.trans hx1).cell P0.out
      have Q1 := Lib.hid q1; have HX1 := Lib.hid (HXr.out.trans hx1); have HW1 := Lib.hid hW1; have J1 := Lib.hid (I1.out.ext hx1); have J2 := Lib.hid (I2.out.ext hx1)
      clear hB1 hx1 hW1 q1
      go_upto_region 6 with fail
      rw [← HW1.out]
      clear HW1 g0 g1
      generalize wr.heap.size = b1 at *
      go_wp2_with fail
      refine (validLits_any lits vars _ _ J1.out hl1 HR.out HT.out.vars).mono ?_
      rintro r w2 ⟨rfl, x2⟩
      have HX2 := Lib.hid (HX1.out.trans x2); have K2 := Lib.hid (J2.out.ext x2)
      have q1 := x2.cell Q1.out
      clear x2 q0 r0
      cases hlo : litsOk vars lits with
      | false =>
        have HN := Lib.hid (HNO.out (.inl hlo))
        clear hlo
        go_wp2_with fail
        go_ret
        exact ⟨by rw [HN.out]; rfl, HX.out.trans HX2.out⟩
      | true =>
        have HY := Lib.hid (HYES.out hlo)
        have HN2 : Hid (hintsOk ((cl.length : Int) + k) hints = false → validP vars cl.length l = false) := fun h => HNO.out (.inr h)
        clear hlo HYES HNO
        have r1 := HX2.out.cell P1.out
        go_wp2_with fail
        go_loop [28] (fun i => ∃ j : Nat, j ≤ hints.length ∧ i = .int .i64 j ∧ hintsOk ((cl.length : Int) + k) (hints.take j) = true) (fun i => hints.length - (intOf i).toNat)
        case atStart => exact ⟨0, Nat.zero_le _, rfl, rfl⟩
        case round =>
          obtain ⟨j, hj, rfl, hh⟩ := hrel
          have HH := Lib.hid hh; clear hh
          by_cases hlj : j < hints.length
          · rcases K2.out with ⟨_, e⟩ | ⟨b3, o3, cap3, e, _, hc3⟩
            · rw [e] at hlj; simp at hlj
            cases e
            have g2 : w2.cell? ⟨b3, o3 + j, none⟩ = some (.int .i64 hints[j]) := by have := hc3 j hlj; rw [Nat.mul_one] at this; exact this
            clear hc3
            have HN3 : Hid (¬ (0 ≤ hints[j] ∧ hints[j] < (cl.length : Int) + k) → validP vars cl.length l = false) := fun h => HN2.out (by
              rw [Bool.eq_false_iff]
              intro c
              unfold hintsOk at c
              rw [List.all_eq_true] at c
              have := c _ (List.getElem_mem hlj)
              simp only [Bool.and_eq_true, decide_eq_true_eq] at this
              exact h this)
            have HY3 : Hid (0 ≤ hints[j] → hints[j] < (cl.length : Int) + k → hintsOk ((cl.length : Int) + k) (hints.take (j + 1)) = true) := fun h1 h2 => by
              unfold hintsOk
              rw [List.take_succ_eq_append_getElem hlj, List.all_append]
              have := HH.out
              unfold hintsOk at this
              rw [this]; simp [h1, h2]
            have hwr : wrap64 ((cl.length : Int) + (k : Int)) = (cl.length : Int) + (k : Int) := by unfold wrap64; omega
            generalize hints[j] = x at *
            by_cases h0 : x < 0
            · have HN := Lib.hid (HN3.out (by omega))
              clear HY3 HN3
              go_wp2_with fail
              go_ret
              exact ⟨by rw [HN.out]; rfl, HX.out.trans HX2.out⟩
            by_cases h1 : x ≥ (cl.length : Int) + (k : Int)
            · have HN := Lib.hid (HN3.out (by omega))
              clear HY3 HN3
              go_wp2_with fail
              go_ret
              exact ⟨by rw [HN.out]; rfl, HX.out.trans HX2.out⟩
            · have HY4 := Lib.hid (HY3.out (by omega) (by omega))
              clear HY3 HN3
              go_wp2_with fail
              exact ⟨⟨j + 1, by omega, by go_num, HY4.out⟩, by simp [intOf]; omega⟩
          · have HTk : Hid (hints.take j = hints) := List.take_of_length_le (by omega)
            rw [HTk.out] at HH
            have HOk := Lib.hid (HY.out HH.out)
            go_wp2_with fail
            exact ⟨⟨k + 1, by omega, by go_num, HX2.out, HOk.out⟩, by simp [intOf]; omega⟩
    · have hkl : k = l.length := by omega
      have HN : Hid (validP vars cl.length l = true) := valid_yes (by omega) (by rw [← hkl]; exact HO.out)
      go_wp2_with fail
      go_ret
      exact ⟨by rw [HN.out]; rfl, HX.out.trans HXr.out⟩
end Go.Proofs.YteclcnbaaiidbaaDoor
