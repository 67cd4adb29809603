/-
  The plain laws of law32's statements, second part: small conditions, their weakest expressions.
  The reference's Before; its Same of equal conditions.
  The program's functions on small conditions, for the walks of law32's statements.
-/
import Derived.Test.YtlcgbdjmlnjhcaaGreatDoorG37
import Derived.Test.YtlcgbdjmlnjhcaaGreatDoorG36
import Derived.Test.YtlcgbdjmlnjhcaaGreatDoorG26
namespace Go.Proofs.YtlcgbdjmlnjhcaaGreatDoor
open Go.RowKit

/-- A small formed condition. -/
structure Sm (cells : List CellD) (c : CondS) : Prop where
  len : cells.length ≤ 40
  s1 : c.hyp.size ≤ 60
  s2 : c.goal.size ≤ 60
  f1 : formC cells c.hyp
  f2 : formC cells c.goal
  bits : sumI (wOf cells (hOld cells c.hyp c.goal)) + sumI (wOf cells (hNow cells c.hyp c.goal)) ≤ 10
theorem form_condF {cells : List CellD} {e : E} (h : formC cells e) : condF cells e = true := by
  unfold condF; rw [h.1, h.2]; rfl
theorem sm_of {cells : List CellD} {c : CondS} (h : small32 cells c = true) : Sm cells c := by
  unfold small32 small22S at h
  simp only [Bool.and_eq_true, decide_eq_true_eq] at h
  obtain ⟨⟨h1, h2, h3⟩, h4, h5⟩ := h
  obtain ⟨f1, f2⟩ := formCC_iff.1 h4
  obtain ⟨p1, p2, _⟩ := parts_eq f1 f2
  refine ⟨h1, by omega, by omega, f1, f2, ?_⟩
  rw [p1, p2] at h5
  unfold cP cQ at h5
  cases hs : stepB cells c.hyp c.goal with
  | true => rw [hs] at h5; simpa using h5
  | false => rw [hs] at h5; simp only [Bool.false_eq_true, if_false] at h5; omega
/-- Expressions over the state before. -/
theorem overP {cells : List CellD} {c : CondS} {z : E} (h : (∀ x ∈ z.supOld, stepB cells c.hyp c.goal = true ∧ x ∈ cP cells c.hyp c.goal) ∧ (∀ x ∈ z.supNow, stepB cells c.hyp c.goal = false ∧ x ∈ cP cells c.hyp c.goal)) : InSup cells c.hyp c.goal z := by
  refine ⟨fun x hx => ?_, fun x hx => ?_⟩
  · obtain ⟨h1, h2⟩ := h.1 x hx
    unfold cP at h2; rw [h1] at h2; exact h2
  · obtain ⟨h1, h2⟩ := h.2 x hx
    unfold cP at h2; rw [h1] at h2; exact h2
section
variable {cells : List CellD} {c : CondS} (S : Sm cells c)
include S
theorem Sm.sums : 0 ≤ sumI (wOf cells (hOld cells c.hyp c.goal)) ∧ 0 ≤ sumI (wOf cells (hNow cells c.hyp c.goal)) := sums_pos S.f1 S.f2
theorem Sm.b12 : sumI (wOf cells (hOld cells c.hyp c.goal)) ≤ 12 ∧ sumI (wOf cells (hNow cells c.hyp c.goal)) ≤ 12 := by
  have := S.sums; have := S.bits; omega
theorem Sm.condF2 : (condF cells c.hyp && condF cells c.goal) = true := by rw [form_condF S.f1, form_condF S.f2]; rfl
theorem Sm.weak : weakR cells c.hyp c.goal = if (weak0 cells c.hyp c.goal).op = 0 then (.mk 0 0 0 [], 2) else (weakE cells c.hyp c.goal, 0) := by
  unfold weakR; rw [S.condF2]; rfl
theorem Sm.cond1 : condE c.hyp = true := form_condE S.f1
theorem Sm.law (hz : (weak0 cells c.hyp c.goal).op ≠ 0) : (weakE cells c.hyp c.goal).wf = true ∧ (weakE cells c.hyp c.goal).wd = 1 ∧ (∀ old now, (weakE cells c.hyp c.goal).eval old now = 1 ↔ holdsAt cells c.hyp c.goal old now) ∧ ∀ old now, (weakE cells c.hyp c.goal).eval old now = 0 ∨ (weakE cells c.hyp c.goal).eval old now = 1 :=
  weak_law S.f1 S.f2 S.b12.1 S.b12.2 hz
theorem Sm.leaves0 (hz : (weak0 cells c.hyp c.goal).op ≠ 0) : (weak0 cells c.hyp c.goal).wf = true ∧ ∀ x ∈ (weak0 cells c.hyp c.goal).leaves, x.op = 1 ∨ ∃ p ∈ cP cells c.hyp c.goal, x = .mk 2 (wAt cells p) p [] := by
  rcases hexp_law (good_valid S.f1 S.f2 S.b12.1 S.b12.2) with h0 | ⟨hwf, _, _, hl, _⟩
  · exact absurd h0 hz
  · refine ⟨hwf, fun x hx => (hl x hx).imp id ?_⟩
    rintro ⟨i, hi, rfl⟩
    have hi' : i < (cP cells c.hyp c.goal).length := by simpa [wOf] using hi
    refine ⟨(cP cells c.hyp c.goal)[i], List.getElem_mem _, ?_⟩
    rw [show (wOf cells (cP cells c.hyp c.goal)).getD i 0 = wAt cells (cP cells c.hyp c.goal)[i] by unfold wOf; simp [List.getD, hi'], show (cP cells c.hyp c.goal).getD i 0 = (cP cells c.hyp c.goal)[i] by simp [List.getD, hi']]
theorem Sm.inP {p : Int} (hp : p ∈ cP cells c.hyp c.goal) : 0 ≤ p ∧ p < 32 ∧ p < (cells.length : Int) := by
  unfold cP at hp
  split at hp
  · have := old_w S.f1 S.f2 hp; omega
  · have := now_w S.f1 S.f2 hp; omega
theorem Sm.valid0 (hz : (weak0 cells c.hyp c.goal).op ≠ 0) : (weak0 cells c.hyp c.goal).valid cells true = true := by
  obtain ⟨hw, hl⟩ := S.leaves0 hz
  simp only [E.valid, Bool.and_eq_true, List.all_eq_true]
  refine ⟨hw, fun x hx => ?_⟩
  rcases hl x hx with h1 | ⟨p, hp, rfl⟩
  · unfold okLeaf; simp [h1]
  · obtain ⟨h0, _, h2⟩ := S.inP hp
    unfold okLeaf
    have : (cells.map CellD.W).getD p.toNat 0 = wAt cells p := by unfold wAt; simp [List.getD, List.getElem?_map]
    have hlt : p.toNat < cells.length := by omega
    rw [Bool.or_eq_true, Bool.and_eq_true, Bool.and_eq_true]
    exact .inr ⟨⟨decide_eq_true hlt, decide_eq_true this⟩, rfl⟩
theorem Sm.formW (hz : (weak0 cells c.hyp c.goal).op ≠ 0) : formC cells (weakE cells c.hyp c.goal) := by
  refine ⟨?_, (S.law hz).2.1⟩
  unfold weakE
  split
  · rw [before_valid (S.leaves0 hz).1]; exact S.valid0 hz
  · exact S.valid0 hz
theorem Sm.supW (hz : (weak0 cells c.hyp c.goal).op ≠ 0) :
    (∀ x ∈ (weakE cells c.hyp c.goal).supOld, stepB cells c.hyp c.goal = true ∧ x ∈ cP cells c.hyp c.goal) ∧ (∀ x ∈ (weakE cells c.hyp c.goal).supNow, stepB cells c.hyp c.goal = false ∧ x ∈ cP cells c.hyp c.goal) := by
  obtain ⟨hw, hl⟩ := S.leaves0 hz
  have ho : ∀ x, x ∉ (weak0 cells c.hyp c.goal).supOld := fun x hx => by
    obtain ⟨y, hy, h3, _⟩ := sup_leaf.2 hx
    rcases hl y hy with h1 | ⟨p, _, rfl⟩
    · omega
    · simp only [E.op_mk] at h3; omega
  have hn : ∀ x ∈ (weak0 cells c.hyp c.goal).supNow, x ∈ cP cells c.hyp c.goal := fun x hx => by
    obtain ⟨y, hy, h3, h4⟩ := sup_leaf.1 hx
    rcases hl y hy with h1 | ⟨p, hp, rfl⟩
    · omega
    · simp only [E.n_mk] at h4; rw [← h4]; exact hp
  unfold weakE
  cases hs : stepB cells c.hyp c.goal with
  | true =>
    rw [if_pos rfl]
    refine ⟨fun x hx => ⟨rfl, ?_⟩, fun x hx => ?_⟩
    · rcases before_supOld hw x hx with h1 | h1
      · exact absurd h1 (ho x)
      · exact hn x h1
    · rw [before_supNow hw] at hx; cases hx
  | false =>
    rw [if_neg (by simp)]
    exact ⟨fun x hx => absurd hx (ho x), fun x hx => ⟨rfl, hn x hx⟩⟩
theorem Sm.insupW (hz : (weak0 cells c.hyp c.goal).op ≠ 0) : InSup cells c.hyp c.goal (weakE cells c.hyp c.goal) := overP (S.supW hz)
theorem Sm.le12 {h' g' : E} (h1 : InSup cells c.hyp c.goal h') (h2 : InSup cells c.hyp c.goal g') : sumI (wOf cells (hOld cells h' g')) + sumI (wOf cells (hNow cells h' g')) ≤ 12 := by
  have := insup_sums S.f1 S.f2 h1 h2
  have := S.bits; omega
end
/-- Decide's answer on formed formulas. -/
theorem dec_form {cells : List CellD} {h g : E} {w : World} {r : Ending} {w' : World} (f1 : formC cells h) (f2 : formC cells g) (hp : DecPost cells h g w r w') :
    (((∀ old now, violB h g old now = false) ∧ r = .returned (.tuple #[.int .i64 1, .slice none 0 0, .slice none 0 0, .int .i64 0])) ∨
      ∃ st1 st2 v1 v2, violB h g st1 st2 = true ∧ Ints w' v1 st1 ∧ Ints w' v2 st2 ∧ r = .returned (.tuple #[.int .i64 2, v1, v2, .int .i64 0])) ∧ Ext w w' := by
  obtain ⟨h1, hx⟩ := hp
  refine ⟨?_, hx⟩
  have hc : (condF cells h && condF cells g) = true := by rw [form_condF f1, form_condF f2]; rfl
  rcases h1 with ⟨h1, _⟩ | ⟨_, h1⟩
  · rw [hc] at h1; cases h1
  · exact h1
theorem dec_yes {cells : List CellD} {h g : E} {w : World} {r : Ending} {w' : World} (f1 : formC cells h) (f2 : formC cells g) (hv : ∀ old now, violB h g old now = false) (hp : DecPost cells h g w r w') :
    r = .returned (.tuple #[.int .i64 1, .slice none 0 0, .slice none 0 0, .int .i64 0]) ∧ Ext w w' := by
  obtain ⟨h1, hx⟩ := dec_form f1 f2 hp
  rcases h1 with ⟨_, h1⟩ | ⟨s1, s2, _, _, h1, _⟩
  · exact ⟨h1, hx⟩
  · rw [hv] at h1; cases h1
theorem viol_iff {h g : E} {old now : List Int} : violB h g old now = false ↔ (h.eval old now = 1 → g.eval old now ≠ 0) := by
  unfold violB
  by_cases h1 : h.eval old now = 1 <;> by_cases h2 : g.eval old now = 0 <;> simp [h1, h2]
theorem holds_now {cells : List CellD} {h g : E} {old now : List Int} (hh : holdsAt cells h g old now) : violB h g old now = false := by
  unfold holdsAt at hh
  split at hh
  · exact hh now
  · exact hh
/-- The hypothesis grown stronger. -/
theorem viol_mono {h h' g : E} {old now : List Int} (hi : h'.eval old now = 1 → h.eval old now = 1) (hv : violB h g old now = false) : violB h' g old now = false :=
  viol_iff.2 fun h1 => viol_iff.1 hv (hi h1)

/-! ### P32.2 -/
theorem suff_law {cells : List CellD} {c : CondS} (S : Sm cells c) (hz : (weak0 cells c.hyp c.goal).op ≠ 0) :
    (weakE cells c.hyp c.goal).valid cells true = true ∧ ((strC c (weakE cells c.hyp c.goal)).hyp.op ≠ 0 →
      (formC cells (strC c (weakE cells c.hyp c.goal)).hyp ∧ formC cells (strC c (weakE cells c.hyp c.goal)).goal) ∧
      sumI (wOf cells (hOld cells (strC c (weakE cells c.hyp c.goal)).hyp (strC c (weakE cells c.hyp c.goal)).goal)) + sumI (wOf cells (hNow cells (strC c (weakE cells c.hyp c.goal)).hyp (strC c (weakE cells c.hyp c.goal)).goal)) ≤ 12 ∧
      ∀ old now, violB (strC c (weakE cells c.hyp c.goal)).hyp (strC c (weakE cells c.hyp c.goal)).goal old now = false) := by
  have hF := S.formW hz
  refine ⟨hF.1, fun hop => ?_⟩
  obtain ⟨e, J⟩ := strC_law hop
  rw [e]
  refine ⟨⟨join_form J S.f1 hF, S.f2⟩, S.le12 (join_insup J (insup_self S.f1 S.f2).1 (S.insupW hz)) (insup_self S.f1 S.f2).2, fun old now => ?_⟩
  by_cases h1 : (connectZ [c.hyp, weakE cells c.hyp c.goal] 5 1).eval old now = 1
  · obtain ⟨k1, k2⟩ := (J.ev old now).1 h1
    exact viol_mono (fun _ => k1) (holds_now (((S.law hz).2.2.1 old now).1 k2))
  · exact viol_iff.2 fun h => absurd h h1
/-! ### P32.4 -/
theorem old_free {cells : List CellD} {c : CondS} (S : Sm cells c) (hs : stepB cells c.hyp c.goal = false) {e : E} (he : e = c.hyp ∨ e = c.goal) (o1 o2 now : List Int) : e.eval o1 now = e.eval o2 now := by
  have hnil : hOld cells c.hyp c.goal = [] := by unfold stepB at hs; simpa using hs
  have h1 := form_eval S.f1 S.f2 he S.b12.1 S.b12.2 o1 now
  have h2 := form_eval S.f1 S.f2 he S.b12.1 S.b12.2 o2 now
  have hsm : ∀ o : List Int, numS (hOld cells c.hyp c.goal) (wOf cells (hOld cells c.hyp c.goal)) o = numS (hOld cells c.hyp c.goal) (wOf cells (hOld cells c.hyp c.goal)) [] := fun o => by
    rw [hnil]; rfl
  rw [hsm o1] at h1
  rw [hsm o2] at h2
  rw [← h1, ← h2]
theorem none_yes {cells : List CellD} {c : CondS} (S : Sm cells c) (hv : ∀ old now, violB c.hyp c.goal old now = false) : (weak0 cells c.hyp c.goal).op ≠ 0 ∧ weakE cells c.hyp c.goal = .mk 1 1 1 [] := by
  have hV := good_valid S.f1 S.f2 S.b12.1 S.b12.2
  have h0 : weak0 cells c.hyp c.goal = .mk 1 1 1 [] := by
    refine hexp_all hV fun n hn => ?_
    unfold goodL
    rw [List.mem_filter, List.mem_range]
    refine ⟨by omega, ?_⟩
    unfold goodB
    rw [List.all_eq_true]
    intro m _
    unfold violN
    split <;> simp [hv]
  rw [h0]
  refine ⟨by decide, ?_⟩
  unfold weakE
  rw [h0]
  split
  · rfl
  · rfl
theorem none_no {cells : List CellD} {c : CondS} (S : Sm cells c) (hz : (weak0 cells c.hyp c.goal).op ≠ 0) {o n : List Int} (hv : violB c.hyp c.goal o n = true) :
    (((weakE cells c.hyp c.goal).op == 1) && ((weakE cells c.hyp c.goal).n == 1) && ((weakE cells c.hyp c.goal).wd == 1)) = false ∧
      (weakE cells c.hyp c.goal).eval (if stepB cells c.hyp c.goal then o else n) (if stepB cells c.hyp c.goal then o else n) = 0 := by
  obtain ⟨w1, w2, w3, w4⟩ := S.law hz
  have hc : condE (weakE cells c.hyp c.goal) = true := condE_iff.2 ⟨w1, w2⟩
  constructor
  · cases hq : (((weakE cells c.hyp c.goal).op == 1) && ((weakE cells c.hyp c.goal).n == 1) && ((weakE cells c.hyp c.goal).wd == 1)) with
    | false => rfl
    | true =>
      simp only [Bool.and_eq_true, beq_iff_eq] at hq
      have h1 : (weakE cells c.hyp c.goal).isC 1 = true := by unfold E.isC; rw [hq.1.1, hq.1.2]; rfl
      have h2 : (weakE cells c.hyp c.goal).eval o n = 1 := by rw [isC_eq hc h1]; exact const_eval 1 (by omega) (by omega) _ _
      rw [holds_now ((w3 o n).1 h2)] at hv; cases hv
  · rcases w4 (if stepB cells c.hyp c.goal then o else n) (if stepB cells c.hyp c.goal then o else n) with h | h
    · exact h
    · exfalso
      have h1 := (w3 _ _).1 h
      unfold holdsAt at h1
      cases hs : stepB cells c.hyp c.goal with
      | true =>
        rw [hs] at h1
        simp only [if_true] at h1
        rw [h1 n] at hv; cases hv
      | false =>
        rw [hs] at h1
        simp only [Bool.false_eq_true, if_false] at h1
        have e1 := old_free S hs (.inl rfl) o n n
        have e2 := old_free S hs (.inr rfl) o n n
        unfold violB at hv h1
        rw [e1, e2, h1] at hv; cases hv
/-! ### P32.3 -/
/-- The expression that is added: over the state before. -/
def befIf (s : Bool) (e : E) : E := if s then e.before else e
theorem before_wd' {e : E} (h : e.wf = true) : e.before.wd = e.wd := by rw [before_eq h, reb_wd]
theorem bef_form {cells : List CellD} {s : Bool} {e : E} (hv : e.valid cells false = true) (hw : e.wd = 1) : formC cells (befIf s e) ∧ e.wf = true := by
  have hwf : e.wf = true := by simp only [E.valid, Bool.and_eq_true] at hv; exact hv.1
  have ht : e.valid cells true = true := by
    simp only [E.valid, Bool.and_eq_true, List.all_eq_true] at hv ⊢
    refine ⟨hv.1, fun x hx => ?_⟩
    have := hv.2 x hx
    unfold okLeaf at this ⊢
    simp only [Bool.or_eq_true, Bool.and_eq_true, decide_eq_true_eq, Bool.not_eq_true', decide_eq_false_iff_not, or_false, Bool.false_eq_true, or_true, and_true] at this ⊢
    exact this.imp id fun h => h.1
  refine ⟨?_, hwf⟩
  unfold befIf
  split
  · exact ⟨by rw [before_valid hwf]; exact ht, by rw [before_wd' hwf]; exact hw⟩
  · exact ⟨ht, hw⟩
theorem bef_over {cells : List CellD} {c : CondS} {e : E} (hv : e.valid cells false = true) (hl : ∀ x ∈ e.supNow, x ∈ cP cells c.hyp c.goal) :
    (∀ x ∈ (befIf (stepB cells c.hyp c.goal) e).supOld, stepB cells c.hyp c.goal = true ∧ x ∈ cP cells c.hyp c.goal) ∧ (∀ x ∈ (befIf (stepB cells c.hyp c.goal) e).supNow, stepB cells c.hyp c.goal = false ∧ x ∈ cP cells c.hyp c.goal) := by
  have hwf : e.wf = true := by have := hv; simp only [E.valid, Bool.and_eq_true] at this; exact this.1
  have ho := valid_supOld hwf cells hv
  unfold befIf
  cases hs : stepB cells c.hyp c.goal with
  | true =>
    rw [if_pos rfl]
    refine ⟨fun x hx => ⟨rfl, ?_⟩, fun x hx => ?_⟩
    · rcases before_supOld hwf x hx with h1 | h1
      · rw [ho] at h1; cases h1
      · exact hl x h1
    · rw [before_supNow hwf] at hx; cases hx
  | false =>
    rw [if_neg (by simp)]
    exact ⟨fun x hx => (by rw [ho] at hx; cases hx), fun x hx => ⟨rfl, hl x hx⟩⟩
theorem bef_now {s : Bool} {e : E} (hwf : e.wf = true) (hs : s = true) (old n1 n2 : List Int) : (befIf s e).eval old n1 = (befIf s e).eval old n2 := by
  unfold befIf; rw [if_pos hs, before_eval hwf, before_eval hwf]
theorem weak_dec {cells : List CellD} {c : CondS} (S : Sm cells c) {e : E} (hv : e.valid cells false = true) (hw : e.wd = 1) (hl : ∀ x ∈ e.supNow, x ∈ cP cells c.hyp c.goal)
    (hop : (strC c (befIf (stepB cells c.hyp c.goal) e)).hyp.op ≠ 0) :
    (formC cells (strC c (befIf (stepB cells c.hyp c.goal) e)).hyp ∧ formC cells (strC c (befIf (stepB cells c.hyp c.goal) e)).goal) ∧
      sumI (wOf cells (hOld cells (strC c (befIf (stepB cells c.hyp c.goal) e)).hyp (strC c (befIf (stepB cells c.hyp c.goal) e)).goal)) + sumI (wOf cells (hNow cells (strC c (befIf (stepB cells c.hyp c.goal) e)).hyp (strC c (befIf (stepB cells c.hyp c.goal) e)).goal)) ≤ 12 := by
  have hF := (bef_form (cells := cells) (s := stepB cells c.hyp c.goal) hv hw).1
  obtain ⟨e1, J⟩ := strC_law hop
  rw [e1]
  exact ⟨⟨join_form J S.f1 hF, S.f2⟩, S.le12 (join_insup J (insup_self S.f1 S.f2).1 (overP (bef_over hv hl))) (insup_self S.f1 S.f2).2⟩
theorem weak_imp {cells : List CellD} {c : CondS} (S : Sm cells c) (hz : (weak0 cells c.hyp c.goal).op ≠ 0) {e : E} (hv : e.valid cells false = true) (hw : e.wd = 1) (hl : ∀ x ∈ e.supNow, x ∈ cP cells c.hyp c.goal)
    (hop : (strC c (befIf (stepB cells c.hyp c.goal) e)).hyp.op ≠ 0) (hy : ∀ old now, violB (strC c (befIf (stepB cells c.hyp c.goal) e)).hyp (strC c (befIf (stepB cells c.hyp c.goal) e)).goal old now = false) :
    formC cells (befIf (stepB cells c.hyp c.goal) e) ∧ formC cells (weakE cells c.hyp c.goal) ∧
      sumI (wOf cells (hOld cells (befIf (stepB cells c.hyp c.goal) e) (weakE cells c.hyp c.goal))) + sumI (wOf cells (hNow cells (befIf (stepB cells c.hyp c.goal) e) (weakE cells c.hyp c.goal))) ≤ 12 ∧
      ∀ old now, violB (befIf (stepB cells c.hyp c.goal) e) (weakE cells c.hyp c.goal) old now = false := by
  obtain ⟨hF, hwf⟩ := bef_form (cells := cells) (s := stepB cells c.hyp c.goal) hv hw
  obtain ⟨e1, J⟩ := strC_law hop
  rw [e1] at hy
  refine ⟨hF, S.formW hz, S.le12 (overP (bef_over hv hl)) (S.insupW hz), fun old now => viol_iff.2 fun h1 => ?_⟩
  have hh : holdsAt cells c.hyp c.goal old now := by
    unfold holdsAt
    split
    · next hs =>
      intro now'
      refine viol_iff.2 fun h2 => ?_
      have h3 : (befIf (stepB cells c.hyp c.goal) e).eval old now' = 1 := (bef_now hwf hs old now' now).trans h1
      exact viol_iff.1 (hy old now') ((J.ev old now').2 ⟨h2, h3⟩)
    · refine viol_iff.2 fun h2 => ?_
      exact viol_iff.1 (hy old now) ((J.ev old now).2 ⟨h2, h1⟩)
  rw [((S.law hz).2.2.1 old now).2 hh]; omega
/-! ### P32.5 -/
theorem zeroC_no {cells : List CellD} {c : CondS} (S : Sm cells c) : c.hyp.op ≠ 0 := wf_op (condE_iff.1 S.cond1).1
/-- Conditions with the same cells and the same violations have the same weakest expression. -/
theorem weak_same {cells : List CellD} {h h' g : E} (h1 : condF cells h = condF cells h') (ho : hOld cells h g = hOld cells h' g) (hn : hNow cells h g = hNow cells h' g) (hv : ∀ old now, violB h g old now = violB h' g old now) : weakR cells h g = weakR cells h' g := by
  have hs : stepB cells h g = stepB cells h' g := by unfold stepB; rw [ho]
  have hp : cP cells h g = cP cells h' g := by unfold cP; rw [hs, ho, hn]
  have hq : cQ cells h g = cQ cells h' g := by unfold cQ; rw [hs, ho, hn]
  have hN : ∀ n m, violN cells h g n m = violN cells h' g n m := fun n m => by unfold violN; rw [hs, hp, hq]; simp only [hv]
  have hG : goodL cells h g = goodL cells h' g := by
    unfold goodL
    rw [hp]
    congr 1
    funext n
    unfold goodB
    rw [hq]
    simp only [hN]
  have hW : weak0 cells h g = weak0 cells h' g := by unfold weak0; rw [hp, hG]
  unfold weakR weakE
  rw [h1, hW, hs]
theorem choose_same {cells : List CellD} {a b a' b' : List Int} (h : ∀ j : Nat, j < 32 → (((j : Int) ∈ a ∨ (j : Int) ∈ b) ↔ ((j : Int) ∈ a' ∨ (j : Int) ∈ b'))) : chooseL cells a b = chooseL cells a' b' := by
  unfold chooseL upTo
  congr 1
  refine List.filter_congr fun j hj => ?_
  have := h j (List.mem_range.1 hj)
  rw [Bool.eq_iff_iff]
  simp only [Bool.and_eq_true, Bool.or_eq_true, decide_eq_true_eq, List.contains_iff_mem, this]
theorem or_left {x y z : Bool} (h : z = (x || y)) (hz : z = false) : x = false := by cases x <;> cases y <;> cases z <;> first | rfl | (exact absurd h (by decide)) | (exact absurd hz (by decide))
theorem swap_law {cells : List CellD} {c : CondS} {a b : E} (hd : (strC c a).hyp.op ≠ 0) (Sy : Sm cells (strC (strC c a) b)) (Sz : Sm cells (strC (strC c b) a)) :
    weakR cells (strC (strC c a) b).hyp (strC (strC c a) b).goal = weakR cells (strC (strC c b) a).hyp (strC (strC c b) a).goal := by
  obtain ⟨e1, J1⟩ := strC_law hd
  obtain ⟨e2, J2⟩ := strC_law (zeroC_no Sy)
  obtain ⟨e4, J4⟩ := strC_law (zeroC_no Sz)
  have hd2 : (strC c b).hyp.op ≠ 0 := wf_op (condE_iff.1 J4.ca).1
  obtain ⟨e3, J3⟩ := strC_law hd2
  have fy := Sy.f1
  have fz := Sz.f1
  rw [e2] at fy ⊢
  rw [e4] at fz ⊢
  rw [e1] at J2 fy ⊢
  rw [e3] at J4 fz ⊢
  simp only at J2 J4 fy fz ⊢
  generalize connectZ [c.hyp, a] 5 1 = p at *
  generalize connectZ [c.hyp, b] 5 1 = q at *
  generalize connectZ [p, b] 5 1 = y at *
  generalize connectZ [q, a] 5 1 = z at *
  have h0 : y.isC 0 = z.isC 0 := by rw [J2.zero, J4.zero, J1.zero, J3.zero]; cases c.hyp.isC 0 <;> cases a.isC 0 <;> cases b.isC 0 <;> rfl
  have hl : ∀ x : E, x.op ≠ 1 → (x ∈ y.leaves ↔ x ∈ z.leaves) := fun x hx => by
    cases hy : y.isC 0 with
    | true =>
      have hz : z.isC 0 = true := by rw [← h0]; exact hy
      exact ⟨fun hm => absurd hm (const_leaf' (form_condE fy) hy hx), fun hm => absurd hm (const_leaf' (form_condE fz) hz hx)⟩
    | false =>
      have hz : z.isC 0 = false := by rw [← h0]; exact hy
      have hp : p.isC 0 = false := or_left J2.zero hy
      have hq : q.isC 0 = false := or_left J4.zero hz
      rw [J2.all hy x hx, J4.all hz x hx, J1.all hp x hx, J3.all hq x hx]
      constructor
      · rintro ((h | h) | h)
        · exact .inl (.inl h)
        · exact .inr h
        · exact .inl (.inr h)
      · rintro ((h | h) | h)
        · exact .inl (.inl h)
        · exact .inr h
        · exact .inl (.inr h)
  have hyz : ∀ old now, y.eval old now = 1 ↔ z.eval old now = 1 := fun old now => by
    rw [J2.ev, J4.ev, J1.ev, J3.ev]
    constructor
    · rintro ⟨⟨h1, h2⟩, h3⟩; exact ⟨⟨h1, h3⟩, h2⟩
    · rintro ⟨⟨h1, h2⟩, h3⟩; exact ⟨⟨h1, h3⟩, h2⟩
  refine weak_same (by rw [form_condF fy, form_condF fz]) ?_ ?_ fun old now => ?_
  · refine choose_same fun j hj => ?_
    rw [supOld_iff J2.wf hj, supOld_iff J4.wf hj]
    have : (∃ x ∈ y.leaves, x.op = 3 ∧ x.n = (j : Int)) ↔ (∃ x ∈ z.leaves, x.op = 3 ∧ x.n = (j : Int)) :=
      ⟨fun ⟨x, hx, h3, hn⟩ => ⟨x, (hl x (by omega)).1 hx, h3, hn⟩, fun ⟨x, hx, h3, hn⟩ => ⟨x, (hl x (by omega)).2 hx, h3, hn⟩⟩
    rw [this]
  · refine choose_same fun j hj => ?_
    rw [supNow_iff J2.wf hj, supNow_iff J4.wf hj]
    have : (∃ x ∈ y.leaves, x.op = 2 ∧ x.n = (j : Int)) ↔ (∃ x ∈ z.leaves, x.op = 2 ∧ x.n = (j : Int)) :=
      ⟨fun ⟨x, hx, h3, hn⟩ => ⟨x, (hl x (by omega)).1 hx, h3, hn⟩, fun ⟨x, hx, h3, hn⟩ => ⟨x, (hl x (by omega)).2 hx, h3, hn⟩⟩
    rw [this]
  · unfold violB
    by_cases h1 : y.eval old now = 1
    · rw [h1, (hyz old now).1 h1]
    · rw [decide_eq_false h1, decide_eq_false fun h => h1 ((hyz old now).2 h)]
/-! ### P32.6 -/
theorem own_law {cells : List CellD} {c : CondS} (S : Sm cells c) (hz : (weak0 cells c.hyp c.goal).op ≠ 0) (So : Sm cells (strC c (weakE cells c.hyp c.goal))) :
    weakR cells (strC c (weakE cells c.hyp c.goal)).hyp (strC c (weakE cells c.hyp c.goal)).goal = (.mk 1 1 1 [], 0) := by
  have hv := ((suff_law S hz).2 (zeroC_no So)).2.2
  obtain ⟨h1, h2⟩ := none_yes So hv
  rw [So.weak, if_neg h1, h2]
theorem sub_len {f g : Nat → Bool} {k : Nat} (h : (upTo f k).Sublist (upTo g k)) (hl : (upTo f k).length = (upTo g k).length) : upTo f k = upTo g k := h.eq_of_length hl
theorem prog_law {cells : List CellD} {c : CondS} {a : E} (S : Sm cells c) (hz : (weak0 cells c.hyp c.goal).op ≠ 0) (Sd : Sm cells (strC c a)) (hzd : (weak0 cells (strC c a).hyp (strC c a).goal).op ≠ 0)
    (hst : stepB cells c.hyp c.goal = stepB cells (strC c a).hyp (strC c a).goal) (hl : (cP cells c.hyp c.goal).length = (cP cells (strC c a).hyp (strC c a).goal).length) :
    formC cells (weakE cells c.hyp c.goal) ∧ formC cells (weakE cells (strC c a).hyp (strC c a).goal) ∧
      sumI (wOf cells (hOld cells (weakE cells c.hyp c.goal) (weakE cells (strC c a).hyp (strC c a).goal))) + sumI (wOf cells (hNow cells (weakE cells c.hyp c.goal) (weakE cells (strC c a).hyp (strC c a).goal))) ≤ 12 ∧
      ∀ old now, violB (weakE cells c.hyp c.goal) (weakE cells (strC c a).hyp (strC c a).goal) old now = false := by
  obtain ⟨e1, J⟩ := strC_law (zeroC_no Sd)
  have hw := S.law hz
  have hwd := Sd.law hzd
  have hfd := Sd.formW hzd
  have hsd := Sd.supW hzd
  have fd := Sd.f1
  rw [e1] at hwd hfd hsd hst hl fd ⊢
  simp only at hwd hfd hsd hst hl fd ⊢
  generalize connectZ [c.hyp, a] 5 1 = d at *
  -- the cells before are the same
  have hP : cP cells d c.goal = cP cells c.hyp c.goal := by
    have key : ∀ l : E → List Int, (∀ (e : E) (j : Nat), j < 32 → e.wf = true → ((j : Int) ∈ l e ↔ ∃ x ∈ e.leaves, x.op ≠ 1 ∧ x.n = (j : Int) ∧ (∀ y : E, y.op = x.op → y.n = x.n → y ∈ e.leaves → (j : Int) ∈ l e))) → True := fun _ _ => trivial
    clear key
    have wh := (condE_iff.1 J.ca).1
    have wg := (condE_iff.1 (form_condE S.f2)).1
    cases hd0 : d.isC 0 with
    | true =>
      -- no cells of its own: the goal's alone
      have hno : ∀ x : E, x.op ≠ 1 → x ∉ d.leaves := fun x hx => const_leaf' (form_condE fd) hd0 hx
      have so : (hOld cells d c.goal).Sublist (hOld cells c.hyp c.goal) := choose_sub fun j hj _ hm => by
        refine hm.elim (fun hm => ?_) .inr
        obtain ⟨x, hx, h3, _⟩ := (supOld_iff J.wf hj).1 hm
        exact absurd hx (hno x (by omega))
      have sn : (hNow cells d c.goal).Sublist (hNow cells c.hyp c.goal) := choose_sub fun j hj _ hm => by
        refine hm.elim (fun hm => ?_) .inr
        obtain ⟨x, hx, h3, _⟩ := (supNow_iff J.wf hj).1 hm
        exact absurd hx (hno x (by omega))
      unfold cP at hl ⊢
      rw [← hst] at hl ⊢
      cases hs : stepB cells c.hyp c.goal with
      | true => rw [hs] at hl; exact so.eq_of_length hl.symm
      | false => rw [hs] at hl; exact sn.eq_of_length hl.symm
    | false =>
      have so : (hOld cells c.hyp c.goal).Sublist (hOld cells d c.goal) := choose_sub fun j hj _ hm => by
        refine hm.imp (fun hm => ?_) id
        obtain ⟨x, hx, h3, hn⟩ := (supOld_iff wh hj).1 hm
        exact (supOld_iff J.wf hj).2 ⟨x, (J.all hd0 x (by omega)).2 (.inl hx), h3, hn⟩
      have sn : (hNow cells c.hyp c.goal).Sublist (hNow cells d c.goal) := choose_sub fun j hj _ hm => by
        refine hm.imp (fun hm => ?_) id
        obtain ⟨x, hx, h3, hn⟩ := (supNow_iff wh hj).1 hm
        exact (supNow_iff J.wf hj).2 ⟨x, (J.all hd0 x (by omega)).2 (.inl hx), h3, hn⟩
      unfold cP at hl ⊢
      rw [← hst] at hl ⊢
      cases hs : stepB cells c.hyp c.goal with
      | true => rw [hs] at hl; exact (so.eq_of_length hl).symm
      | false => rw [hs] at hl; exact (sn.eq_of_length hl).symm
  rw [hP, ← hst] at hsd
  refine ⟨S.formW hz, hfd, S.le12 (S.insupW hz) (overP hsd), fun old now => viol_iff.2 fun h1 => ?_⟩
  have h2 := (hw.2.2.1 old now).1 h1
  have h3 : holdsAt cells d c.goal old now := by
    unfold holdsAt at h2 ⊢
    rw [← hst]
    split at h2
    · next hs =>
      rw [if_pos hs]
      exact fun now' => viol_mono (fun h => ((J.ev old now').1 h).1) (h2 now')
    · next hs =>
      rw [if_neg hs]
      exact viol_mono (fun h => ((J.ev old now).1 h).1) h2
  rw [(hwd.2.2.1 old now).2 h3]; omega
end Go.Proofs.YtlcgbdjmlnjhcaaGreatDoor
namespace Go.Proofs.YtlcgbdjmlnjhcaaGreatDoor
open Go.RowKit
attribute [local go_sem] Oper.semAt_some

theorem IsT.and {S S' : Nat → Prop} {w : World} {b o : Nat} {e : E} (h : IsT S w b o e) : IsT S' w b o e → IsT (fun k => S k ∧ S' k) w b o e := by
  induction h with
  | leaf h0 h1 h2 h3 => exact fun _ => .leaf h0 h1 h2 h3
  | node h0 h1 h2 h3 hl hs hk ih =>
    intro k
    cases k with
    | leaf k0 k1 k2 k3 => exact .leaf h0 h1 h2 k3
    | node k0 k1 k2 k3 kl kb kk =>
      rw [h3] at k3
      injection k3 with k3
      injection k3 with ea _ _
      injection ea with ea
      injection ea with eb eo _
      subst eb; subst eo
      exact .node h0 h1 h2 h3 hl ⟨hs, kb⟩ fun i hi => ih i hi (kk i hi)
theorem KidsT.and {S S' : Nat → Prop} {w : World} {v : Value} {ks : List E} (h : KidsT S w v ks) (k : KidsT S' w v ks) : KidsT (fun b => S b ∧ S' b) w v ks := by
  rcases h with h | ⟨b, o, cap, rfl, hl, hs, hi⟩
  · exact .inl h
  · rcases k with ⟨_, rfl⟩ | ⟨b2, o2, cap2, e, hl2, hs2, hi2⟩
    · exact .inl ⟨⟨_, _, rfl⟩, rfl⟩
    · injection e with ea _ _
      injection ea with ea
      injection ea with eb eo _
      subst eb; subst eo
      exact .inr ⟨_, _, _, rfl, hl, ⟨hs, hs2⟩, fun i h => (hi i h).and (hi2 i h)⟩
/-- A row of expressions of the call's own; their kids lie from base on. -/
def OwnL (w : World) (base : Nat) (v : Value) (ps : List (E × Value)) : Prop :=
  OwnK w base v ps ∧ ∀ p ∈ ps, KidsT (fun b => base ≤ b ∧ some b ≠ v.ownBlock) w p.2 p.1.kids
theorem OwnL.nil (w : World) (base : Nat) : OwnL w base (.slice none 0 0) [] := ⟨OwnK.nil w base, fun _ h => by cases h⟩
theorem OwnL.ext {w w' : World} {base : Nat} {v : Value} {ps : List (E × Value)} (h : OwnL w base v ps) (hx : Ext w w') : OwnL w' base v ps :=
  ⟨h.1.ext hx, fun p hp => (h.2 p hp).keep fun k _ hk => hx.block k hk⟩
theorem OwnL.grow {w w' : World} {base : Nat} {v v' : Value} {ps : List (E × Value)} {e : E} {kv : Value} (h : OwnL w base v ps) (ho : OwnK w' base v' (ps ++ [(e, kv)])) (hg : w.grownBy w' v.ownBlock) (hk : KidsT (fun b => base ≤ b ∧ some b ≠ v.ownBlock) w kv e.kids) : OwnL w' base v' (ps ++ [(e, kv)]) := by
  refine ⟨ho, fun p hp => ?_⟩
  have key : ∀ (u : Value) (ks : List E), KidsT (fun b => base ≤ b ∧ some b ≠ v.ownBlock) w u ks → KidsT (fun b => base ≤ b) w' u ks := fun u ks hu =>
    (hu.keep (w' := w') fun k hs hk => hg.block k hk hs.2).mono fun k hs => hs.1
  have h1 : KidsT (fun b => base ≤ b) w' p.2 p.1.kids := by
    rcases List.mem_append.1 hp with hp | hp
    · exact key _ _ (h.2 p hp)
    · simp at hp; subst hp; exact key _ _ hk
  exact h1.and (ho.2 p hp)
theorem OwnL.kids {w : World} {base : Nat} {v : Value} {ps : List (E × Value)} (h : OwnL w base v ps) (hl : ps.length ≤ 1000000) : KidsT (fun b => base ≤ b) w v (ps.map (·.1)) := by
  rcases h.1.1.2 with ⟨rfl, e⟩ | ⟨g, cap, cur, rfl, hg, hh, hn, hc, hs, ht⟩
  · have : ps = [] := List.length_eq_zero_iff.1 e
    subst this
    exact .inl ⟨⟨_, _, rfl⟩, rfl⟩
  · have el : (ps.map (·.1)).length = ps.length := List.length_map _
    refine .inr ⟨g, 0, cap, by rw [el], by rw [el]; omega, hg, fun i hi => ?_⟩
    rw [el] at hi
    rw [Nat.zero_add]
    have cell : ∀ j, j < 4 → w.cell? ⟨g, i * 4 + j, none⟩ = (cells4' ps[i])[j]? := by
      intro j hj
      have e1 := congrArg (fun x => x[i * 4 + j]?) ht
      rw [List.getElem?_take_of_lt (by omega), flat4_get ps i j hi hj] at e1
      rw [← e1]
      simp [World.cell?, hh]
    have k := (h.2 ps[i] (List.getElem_mem hi)).mono (S' := fun b => base ≤ b) (fun k hk => hk.1)
    rw [List.getElem_map]
    have c0 := cell 0 (by omega); have c1 := cell 1 (by omega); have c2 := cell 2 (by omega); have c3 := cell 3 (by omega)
    simp only [cells4', Nat.add_zero, List.getElem?_cons_zero, List.getElem?_cons_succ] at c0 c1 c2 c3
    exact IsT.mk' c0 c1 c2 c3 k

set_option maxRecDepth 100000 in
set_option maxHeartbeats 4000000 in
theorem Rbefore_any (N : Nat) : N ≤ 1000 → ∀ (e : E) (d : Nat) (v : Value) (w : World), e.size ≤ N → e.deep d = true → EVal w v e →
    Calls Tryz.prog 52 #[v] w (RetT (fun b => w.heap.size ≤ b) (e.rebuild beforeLeaf) w) := by
  induction N with
  | zero => intro _ e d v w h; have := e.size_pos; omega
  | succ N ih =>
    intro hN6 e d v w hN hd he
    obtain ⟨kv, rfl, hk⟩ := he
    obtain ⟨op, wd, n, ks⟩ := e
    simp only [E.op_mk, E.wd_mk, E.n_mk, E.kids_mk] at hk ⊢
    obtain ⟨a, cap, rfl⟩ := SliceAt.shape hk
    obtain ⟨W, hW⟩ : ∃ W, W = (w.alloc (.cells #[.int .i64 op, .int .i64 wd, .int .i64 n, .slice a ks.length cap] 25)).alloc (.cells #[.int .i64 0, .int .i64 0, .int .i64 0, .slice none 0 0] 25) := ⟨_, rfl⟩
    have hx : Ext w W := by rw [hW]; exact ((Ext.refl w).alloc _).alloc _
    obtain ⟨hv1, hv2⟩ := heap_of2 w (.cells #[.int .i64 op, .int .i64 wd, .int .i64 n, .slice a ks.length cap] 25) (.cells #[.int .i64 0, .int .i64 0, .int .i64 0, .slice none 0 0] 25)
    have hsz : W.heap.size = w.heap.size + 2 := by rw [hW]; simp
    rw [← hW] at hv1 hv2
    have HB1 := Lib.hid hv1; have HB2 := Lib.hid hv2; have HX := Lib.hid hx; have HW := Lib.hid hW; have HSZ := Lib.hid hsz
    have HK := Lib.hid (hk.ext hx)
    have IH := Lib.hid (ih (by omega)); have HD := Lib.hid hd
    have hksl : ks.length ≤ 1000 := by
      have h1 := length_le_sizeAll ks
      simp only [E.size] at hN
      omega
    clear hx hv1 hv2 hk hW ih hsz
    by_cases h2 : op = 2
    · subst h2
      have hnil : ks = [] := by
        have := (shapedW_cell (deep_shape hd) (.inl rfl)).1
        simpa using this
      subst hnil
      rw [List.length_nil] at HW HB1
      obtain ⟨p0, p1, p2, p3⟩ := blocks4 HB1.out
      obtain ⟨c0, c1, c2, c3, f0, f1, f2, f3⟩ := cells_of_block HB2.out
      have HBN := Lib.hid (put4_new (x := .int .i64 3) (y := .int .i64 wd) (z := .int .i64 n) (u := .slice none 0 0) HB2.out)
      have HXE : Hid (Ext w (put4 W (w.heap.size + 1) 0 (.int .i64 3) (.int .i64 wd) (.int .i64 n) (.slice none 0 0))) := Below.trans HX.out (below_put4 (by omega))
      clear hd
      go_enter Tryz.func52, Tryz.ntmps52
      go_upto_region 1 with fail
      rw [← HW.out]; clear HW
      go_wp2_with fail
      refine bodyPost_ret (v := .agg #[.int .i64 3, .int .i64 wd, .int .i64 n, .slice none 0 0]) (results_cell_row Tryz.results52 _ _ (w.heap.size + 1) 25 _ (0, 0) _ rfl HBN.out Tryz.underlying25 rfl sizeExpr) rfl ⟨⟨_, rfl, ?_⟩, HXE.out⟩
      rw [rebuild_nil]
      exact ⟨_, rfl, .inl ⟨⟨_, _, rfl⟩, rfl⟩⟩
    · have h2b : (op == 2) = false := by simpa using h2
      have HREB : Hid ((E.mk op wd n ks).rebuild beforeLeaf = .mk op wd n (ks.map (E.rebuild beforeLeaf))) := by
        by_cases hks : ks = []
        · subst hks; rw [Hid, rebuild_nil]; unfold beforeLeaf; simp [h2]; rfl
        · exact rebuild_cons _ hks
      clear hd h2
      obtain ⟨p0, p1, p2, p3⟩ := blocks4 HB1.out
      go_enter Tryz.func52, Tryz.ntmps52
      go_upto_region 1 with fail
      rw [← HW.out]; clear HW
      go_wp2_with fail
      clear p0 p1 p2 p3
      go_loopw [3, 4] (fun kept i wr => ∃ (k : Nat) (ps : List (E × Value)), k ≤ ks.length ∧ i = .int .i64 k ∧ Ext W wr ∧ OwnL wr W.heap.size kept ps ∧ ps.map (·.1) = (ks.take k).map (E.rebuild beforeLeaf)) (fun _ i _ => ks.length - (intOf i).toNat)
      case atStart => exact ⟨0, [], Nat.zero_le _, rfl, Ext.refl _, OwnL.nil _ _, rfl⟩
      case round =>
        obtain ⟨k, ps, hkl, rfl, hX, hO, hps⟩ := hrel
        obtain ⟨pa, pc, rfl⟩ := hO.1.shape
        have hpl : ps.length ≤ 1000 := by
          have h1 := congrArg List.length hps
          rw [List.length_map, List.length_map] at h1
          have := List.length_take_le k ks
          omega
        have HXr := Lib.hid hX; have HOW := Lib.hid hO; have HPS := Lib.hid hps
        clear hX hO hps
        have hB1 := (HXr.out.block _ (lt_heap HB1.out)).trans HB1.out
        by_cases hlt : k < ks.length
        · rcases HK.out with ⟨_, e⟩ | ⟨b', o', cap', e, _, hk'⟩
          · rw [e] at hlt; simp at hlt
          cases e
          have hE := (hk' k hlt).ext HXr.out
          obtain ⟨g0, g1, g2, kv, g3, hkk⟩ := hE.cells
          obtain ⟨ka, kc, rfl⟩ := SliceAt.shape hkk
          have hin : ks[k] ∈ ks := List.getElem_mem hlt
          have hsk : ks[k].size ≤ N := by have := size_kid (op := op) (wd := wd) (n := n) hin; omega
          have HE : Hid (EVal wr (.agg #[.int .i64 ks[k].op, .int .i64 ks[k].wd, .int .i64 ks[k].n, .slice ka ks[k].kids.length kc]) ks[k]) := ⟨_, rfl, hkk⟩
          have HDK := Lib.hid (deep_kid HD.out hlt)
          have HTK : Hid ((ks.take (k + 1)).map (E.rebuild beforeLeaf) = (ks.take k).map (E.rebuild beforeLeaf) ++ [ks[k].rebuild beforeLeaf]) := by
            rw [Hid, List.take_succ_eq_append_getElem hlt, List.map_append]; rfl
          obtain ⟨p0, p1, p2, p3⟩ := blocks4 hB1
          clear hkk hk' hE hin hB1
          generalize hee : ks[k] = e at *
          clear hee
          go_wp2_with fail
          refine (IH.out e _ _ _ hsk HDK.out HE.out).mono ?_
          rintro r w2 ⟨⟨v, rfl, hv⟩, x2⟩
          obtain ⟨ya, yl, yc, rfl, hky⟩ := hv.shape
          generalize e.rebuild beforeLeaf = y at *
          have HOl := Lib.hid (ownA_block HOW.out.1.1)
          have HO2 := Lib.hid (HOW.out.ext x2)
          have HX2 := Lib.hid (HXr.out.trans x2)
          have HZ : Hid (W.heap.size ≤ wr.heap.size) := HXr.out.size
          have HKY := Lib.hid hky.there
          have HKA3 : Hid (KidsT (fun b => some b ≠ (Value.slice pa ps.length pc).ownBlock ∧ b < w2.heap.size) w2 (.slice ya yl yc) y.kids) := HKY.out.mono fun q hq => ⟨fun e => by
            have := (HOl.out q e.symm).2; omega, hq.2⟩
          have HKA4 : Hid (KidsT (fun b => W.heap.size ≤ b ∧ some b ≠ (Value.slice pa ps.length pc).ownBlock) w2 (.slice ya yl yc) y.kids) := HKY.out.mono fun q hq => ⟨by have := hq.1; have := HZ.out; omega, fun e => by
            have := (HOl.out q e.symm).2; omega⟩
          clear hv x2 hky p0 p1 p2 p3 g0 g1 g2 g3 hsk
          go_wp2_with (at_builtin; refine wpList_append_kid rfl (.tmp 20) (.tmp 27) rfl W.heap.size w2 _ ps y _ rfl rfl HO2.out.1 HKA3.out (by omega) HX2.out.size ?_)
          intro g cp w6 hO6 hgr hg
          have HO6 := Lib.hid (HO2.out.grow hO6 hgr HKA4.out); have HX6 := Lib.hid (HX2.out.grown hgr fun q hq => (ownA_block HO2.out.1.1 q hq).1)
          clear hO6 hgr hg
          go_wp2_with fail
          refine ⟨⟨k + 1, _, by omega, by go_num, HX6.out, HO6.out, ?_⟩, by simp [intOf]; omega⟩
          rw [HTK.out, List.map_append, HPS.out]; rfl
        · have HT : Hid (ks.take k = ks) := List.take_of_length_le (by omega)
          rw [HT.out] at HPS
          have HPL : Hid (ps.length = (ks.map (E.rebuild beforeLeaf)).length) := by rw [Hid, ← HPS.out, List.length_map]
          have HKF : Hid (KidsT (fun b => W.heap.size ≤ b) wr (.slice pa ps.length pc) (ks.map (E.rebuild beforeLeaf))) := by rw [← HPS.out]; exact HOW.out.kids (by omega)
          have hR := (HXr.out.block _ (lt_heap HB2.out)).trans HB2.out
          obtain ⟨p0, p1, p2, p3⟩ := blocks4 hB1
          obtain ⟨c0, c1, c2, c3, f0, f1, f2, f3⟩ := cells_of_block hR
          have HBN := Lib.hid (put4_new (x := .int .i64 op) (y := .int .i64 wd) (z := .int .i64 n) (u := .slice pa ps.length pc) hR)
          have HXE : Hid (Ext w (put4 wr (w.heap.size + 1) 0 (.int .i64 op) (.int .i64 wd) (.int .i64 n) (.slice pa ps.length pc))) := Below.trans (HX.out.trans HXr.out) (below_put4 (by omega))
          have HKE : Hid (KidsT (fun b => w.heap.size ≤ b) (put4 wr (w.heap.size + 1) 0 (.int .i64 op) (.int .i64 wd) (.int .i64 n) (.slice pa ps.length pc)) (.slice pa ps.length pc) (ks.map (E.rebuild beforeLeaf))) := (HKF.out.keep fun q hq _ => put4_heap q (by have := HSZ.out; omega)).mono fun q hq => by have := HSZ.out; omega
          clear hR hB1 hkl HKF
          go_wp2_with fail
          refine bodyPost_ret (v := .agg #[.int .i64 op, .int .i64 wd, .int .i64 n, .slice pa ps.length pc]) (results_cell_row Tryz.results52 _ _ (w.heap.size + 1) 25 _ (0, 0) _ rfl HBN.out Tryz.underlying25 rfl sizeExpr) rfl ⟨⟨_, rfl, ?_⟩, HXE.out⟩
          rw [HREB.out]; exact ⟨_, rfl, HKE.out⟩

set_option maxHeartbeats 1000000 in
/-- The reference's Before of a well-formed expression. -/
theorem RBefore_any (e : E) (v : Value) (w : World) (he : EVal w v e) (hw : e.wf = true) : Calls Tryz.prog 18 #[v] w (RetT (fun b => w.heap.size ≤ b) e.before w) := by
  obtain ⟨a, cap, rfl, hk⟩ := he.shape'
  obtain ⟨W, hW⟩ : ∃ W, W = (w.alloc (.cells #[.int .i64 e.op, .int .i64 e.wd, .int .i64 e.n, .slice a e.kids.length cap] 25)).alloc (.cells #[.int .i64 0, .int .i64 0, .int .i64 0, .slice none 0 0] 25) := ⟨_, rfl⟩
  have hx : Ext w W := by rw [hW]; exact ((Ext.refl w).alloc _).alloc _
  obtain ⟨hv1, hv2⟩ := heap_of2 w (.cells #[.int .i64 e.op, .int .i64 e.wd, .int .i64 e.n, .slice a e.kids.length cap] 25) (.cells #[.int .i64 0, .int .i64 0, .int .i64 0, .slice none 0 0] 25)
  have hsz : W.heap.size = w.heap.size + 2 := by rw [hW]; simp
  rw [← hW] at hv1 hv2
  have HB1 := Lib.hid hv1; have HB2 := Lib.hid hv2; have HX := Lib.hid hx; have HW := Lib.hid hW; have HSZ := Lib.hid hsz
  have HE : Hid (EVal W (.agg #[.int .i64 e.op, .int .i64 e.wd, .int .i64 e.n, .slice a e.kids.length cap]) e) := he.ext hx
  have HWF := Lib.hid hw
  have HS6 : Hid (e.size ≤ 1000) := by
    have := hw; simp only [E.wf, Bool.and_eq_true, decide_eq_true_eq] at this; unfold Hid; omega
  obtain ⟨p0, p1, p2, p3⟩ := blocks4 hv1
  clear hx hv1 hv2 hk hW he hw hsz
  go_enter Tryz.func18, Tryz.ntmps18
  go_upto_region 1 with fail
  rw [← HW.out]; clear HW
  go_wp2_with fail
  refine (RFormed_any e _ W HE.out).mono ?_
  rintro r w1 ⟨rfl, x1⟩
  rw [HWF.out]
  replace HB1 := Lib.hid ((x1.block _ (lt_heap HB1.out)).trans HB1.out); replace HB2 := Lib.hid ((x1.block _ (lt_heap HB2.out)).trans HB2.out)
  replace HX := Lib.hid (HX.out.trans x1); replace HE := Lib.hid (HE.out.ext x1)
  have HZ1 : Hid (W.heap.size ≤ w1.heap.size) := x1.size
  clear x1 p0 p1 p2 p3
  obtain ⟨p0, p1, p2, p3⟩ := blocks4 HB1.out
  go_wp2_with fail
  refine (Rbefore_any 1000 (Nat.le_refl _) e 40 _ _ HS6.out (wf_deep HWF.out) HE.out).mono ?_
  rintro r w2 ⟨⟨v, rfl, hv⟩, x2⟩
  have HBE : Hid (e.before = e.rebuild beforeLeaf) := before_eq HWF.out
  generalize e.rebuild beforeLeaf = y at *
  obtain ⟨ya, yl, yc, rfl, hky⟩ := hv.shape
  have hR := (x2.block _ (lt_heap HB2.out)).trans HB2.out
  obtain ⟨c0, c1, c2, c3, f0, f1, f2, f3⟩ := cells_of_block hR
  have HBN := Lib.hid (put4_new (x := .int .i64 y.op) (y := .int .i64 y.wd) (z := .int .i64 y.n) (u := .slice ya yl yc) hR)
  have HXE : Hid (Ext w (put4 w2 (w.heap.size + 1) 0 (.int .i64 y.op) (.int .i64 y.wd) (.int .i64 y.n) (.slice ya yl yc))) := Below.trans (HX.out.trans x2) (below_put4 (by omega))
  have HKE : Hid (KidsT (fun b => w1.heap.size ≤ b) (put4 w2 (w.heap.size + 1) 0 (.int .i64 y.op) (.int .i64 y.wd) (.int .i64 y.n) (.slice ya yl yc)) (.slice ya yl yc) y.kids) := hky.keep fun q hq _ => put4_heap q (by have := HSZ.out; have := HZ1.out; omega)
  clear hR hv hky x2
  go_wp2_with fail
  refine bodyPost_ret (v := .agg #[.int .i64 y.op, .int .i64 y.wd, .int .i64 y.n, .slice ya yl yc]) (results_cell_row Tryz.results18 _ _ (w.heap.size + 1) 25 _ (0, 0) _ rfl HBN.out Tryz.underlying25 rfl sizeExpr) rfl ⟨⟨_, rfl, ?_⟩, HXE.out⟩
  rw [HBE.out]; exact ⟨_, rfl, HKE.out.mono fun k hk => by have h1 := HSZ.out; have h2 := HZ1.out; omega⟩

set_option maxRecDepth 100000 in
set_option maxHeartbeats 4000000 in
/-- Same of equal conditions. -/
theorem RSame32_any (c : CondS) (v1 v2 : Value) (w : World) (h1 : CondV w v1 c) (h2 : CondV w v2 c) : Calls Tryz.prog 22 #[v1, v2] w fun r w' => r = .returned (.bool true) ∧ Ext w w' := by
  obtain ⟨ha, hl, hcp, ga, gl, gc, rfl, e1, e2⟩ := h1
  obtain ⟨ha', hl', hcp', ga', gl', gc', rfl, e1', e2'⟩ := h2
  obtain ⟨W, hW⟩ : ∃ W, Boxes w W (.cells (condCells c ha hl hcp ga gl gc) 27) (.cells (condCells c ha' hl' hcp' ga' gl' gc') 27) := ⟨_, Boxes.mk' _ _ _⟩
  have hX := hW.ext
  have HA1 : Hid (CondAt W w.heap.size c ha hl hcp ga gl gc) := hW.b0
  have HA2 : Hid (CondAt W (w.heap.size + 1) c ha' hl' hcp' ga' gl' gc') := hW.b1
  have HE1 := Lib.hid (e1.ext hX); have HE2 := Lib.hid (e2.ext hX); have HF1 := Lib.hid (e1'.ext hX); have HF2 := Lib.hid (e2'.ext hX)
  have HX := Lib.hid hX; have HW := Lib.hid hW.eq
  obtain ⟨d0, d1, d2, d3, d4, d5, d6, d7, d8, d9, d10, d11, d12, d13⟩ := HA1.out.all
  obtain ⟨u0, u1, u2, u3, u4, u5, u6, u7, u8, u9, u10, u11, u12, u13⟩ := HA2.out.all
  clear hX hW e1 e2 e1' e2'
  unfold condCells at *
  go_enter Tryz.func22, Tryz.ntmps22
  go_upto_region 1 with fail
  rw [← HW.out]; clear HW
  go_wp2_with fail
  refine (RSame_any c.hyp.size c.hyp c.hyp _ _ _ (Nat.le_refl _) HE1.out HF1.out).mono ?_
  rintro r w1 ⟨rfl, x1⟩
  rw [(eqB_iff c.hyp c.hyp).2 rfl]
  replace HA1 := Lib.hid (HA1.out.ext x1); replace HA2 := Lib.hid (HA2.out.ext x1)
  replace HE2 := Lib.hid (HE2.out.ext x1); replace HF2 := Lib.hid (HF2.out.ext x1); replace HX := Lib.hid (HX.out.trans x1)
  clear x1 d0 d1 d2 d3 d4 d5 d6 d7 d8 d9 d10 d11 d12 d13 u0 u1 u2 u3 u4 u5 u6 u7 u8 u9 u10 u11 u12 u13
  obtain ⟨q0, q1, q2, q3⟩ := HA1.out.goal
  obtain ⟨p0, p1, p2, p3⟩ := HA2.out.goal
  go_wp2_with fail
  refine (RSame_any c.goal.size c.goal c.goal _ _ _ (Nat.le_refl _) HE2.out HF2.out).mono ?_
  rintro r w2 ⟨rfl, x1⟩
  rw [(eqB_iff c.goal c.goal).2 rfl]
  replace HX := Lib.hid (HX.out.trans x1)
  clear x1 q0 q1 q2 q3 p0 p1 p2 p3
  go_wp2_with fail
  go_ret
  exact ⟨rfl, HX.out⟩
end Go.Proofs.YtlcgbdjmlnjhcaaGreatDoor
namespace Go.Proofs.YtlcgbdjmlnjhcaaGreatDoor
open Go.RowKit

theorem Weak_s {cells : List CellD} {c : CondS} (S : Sm cells c) {e : E} {k : Int} (hx : weakR cells c.hyp c.goal = (e, k)) (cv kv : Value) (w : World) (hc : CondV w cv c) (hC : Cells w kv cells) (hM : Masks w) :
    Calls Tryz.prog 10 #[kv, cv] w fun r w' => ∃ a n p, r = .returned (.tuple #[.agg #[.int .i64 e.op, .int .i64 e.wd, .int .i64 e.n, .slice a n p], .int .i64 k]) ∧ EVal w' (.agg #[.int .i64 e.op, .int .i64 e.wd, .int .i64 e.n, .slice a n p]) e ∧ Ext w w' := by
  refine (Weakest_any c cells cv kv w hc hC hM (fun _ _ => by have := S.bits; omega)).mono ?_
  rintro r w' ⟨⟨v, rfl, he⟩, x1⟩
  rw [hx] at he ⊢
  obtain ⟨a, p, rfl, hk⟩ := he.shape'
  exact ⟨a, _, p, rfl, ⟨_, rfl, hk⟩, x1⟩
theorem Str_s {c : CondS} {e : E} (hg : c.goal.size ≤ 100000) {d : CondS} (hd : strC c e = d) (cv ev : Value) (w : World) (hc : CondV w cv c) (he : EVal w ev e) (hM : Masks w) :
    Calls Tryz.prog 11 #[cv, ev] w fun r w' => ∃ a1 l1 c1 a2 l2 c2, r = .returned (.agg #[.string ⟨d.id.toArray⟩, .int .i64 d.k1, .int .i64 d.k2, .int .i64 d.k3, .int .i64 d.k4, .int .i64 d.k5, .int .i64 d.hyp.op, .int .i64 d.hyp.wd, .int .i64 d.hyp.n, .slice a1 l1 c1, .int .i64 d.goal.op, .int .i64 d.goal.wd, .int .i64 d.goal.n, .slice a2 l2 c2]) ∧ CondV w' (.agg (condCells d a1 l1 c1 a2 l2 c2)) d ∧ Ext w w' := by
  refine (Strengthen_any c e cv ev w hc he hM hg).mono ?_
  rintro r w' ⟨⟨v, rfl, hv⟩, x1⟩
  rw [hd] at hv
  have hv' := hv
  obtain ⟨a1, l1, c1, a2, l2, c2, rfl, _, _⟩ := hv
  exact ⟨a1, l1, c1, a2, l2, c2, rfl, hv', x1⟩
theorem Dec_yes {c : CondS} {cells : List CellD} (f1 : formC cells c.hyp) (f2 : formC cells c.goal) (hs : sumI (wOf cells (hOld cells c.hyp c.goal)) + sumI (wOf cells (hNow cells c.hyp c.goal)) ≤ 12) (hv : ∀ old now, violB c.hyp c.goal old now = false) (hL : cells.length ≤ 40) (cv kv : Value) (w : World) (hc : CondV w cv c) (hC : Cells w kv cells) (hM : Masks w) :
    Calls Tryz.prog 13 #[kv, cv] w fun r w' => r = .returned (.tuple #[.int .i64 1, .slice none 0 0, .slice none 0 0, .int .i64 0]) ∧ Ext w w' :=
  (Decide_any c cells cv kv w hc hC hM (by omega) (fun _ _ => hs)).mono fun _ _ h => dec_yes f1 f2 hv h
/-- Decide's answer: Yes, or No and a pair of states. -/
theorem Dec_any {c : CondS} {cells : List CellD} (f1 : formC cells c.hyp) (f2 : formC cells c.goal) (hs : sumI (wOf cells (hOld cells c.hyp c.goal)) + sumI (wOf cells (hNow cells c.hyp c.goal)) ≤ 12) (hL : cells.length ≤ 40) (cv kv : Value) (w : World) (hc : CondV w cv c) (hC : Cells w kv cells) (hM : Masks w) :
    Calls Tryz.prog 13 #[kv, cv] w fun r w' => (((∀ old now, violB c.hyp c.goal old now = false) ∧ r = .returned (.tuple #[.int .i64 1, .slice none 0 0, .slice none 0 0, .int .i64 0])) ∨
      ∃ st1 st2 a1 p1 a2 p2, violB c.hyp c.goal st1 st2 = true ∧ Ints w' (.slice a1 st1.length p1) st1 ∧ Ints w' (.slice a2 st2.length p2) st2 ∧ r = .returned (.tuple #[.int .i64 2, .slice a1 st1.length p1, .slice a2 st2.length p2, .int .i64 0])) ∧ Ext w w' :=
  (Decide_any c cells cv kv w hc hC hM (by omega) (fun _ _ => hs)).mono fun r w' h => by
    obtain ⟨h1, hx⟩ := dec_form f1 f2 h
    refine ⟨?_, hx⟩
    rcases h1 with h1 | ⟨st1, st2, v1, v2, h1, h2, h3, rfl⟩
    · exact .inl h1
    · obtain ⟨a1, p1, rfl⟩ := SliceAt.shape h2
      obtain ⟨a2, p2, rfl⟩ := SliceAt.shape h3
      exact .inr ⟨st1, st2, a1, p1, a2, p2, h1, h2, h3, rfl⟩
theorem Parts_s {cells : List CellD} {c : CondS} (S : Sm cells c) (v : Value) (w : World) (hv : CondV w v c) :
    Calls Tryz.prog 16 #[v] w fun r w' => (∃ a1 p1 a2 l2 p2, r = .returned (.tuple #[.slice a1 (cP cells c.hyp c.goal).length p1, .slice a2 l2 p2, .bool (stepB cells c.hyp c.goal)]) ∧ Ints w' (.slice a1 (cP cells c.hyp c.goal).length p1) (cP cells c.hyp c.goal)) ∧ Ext w w' := by
  refine (RParts_any c v w hv).mono ?_
  rintro r w' ⟨⟨v1, v2, rfl, h1, h2⟩, x1⟩
  obtain ⟨e1, _, e3⟩ := parts_eq S.f1 S.f2
  rw [e1] at h1
  rw [e3]
  obtain ⟨a1, p1, rfl⟩ := SliceAt.shape h1
  obtain ⟨a2, p2, rfl⟩ := SliceAt.shape h2
  exact ⟨⟨a1, p1, a2, _, p2, rfl, h1⟩, x1⟩
end Go.Proofs.YtlcgbdjmlnjhcaaGreatDoor
