/-
  The reference's Closure: its refusal.
  The search of the reference's Closure, plain: a list of found states.
  The reference's Closure, where the relation is valid.
-/
import Derived.Test.YtlnahhlddekhoaaGreatDoorG28
import Derived.Test.YtlnahhlddekhoaaGreatDoorG20
import Derived.BigRegion
namespace Go.Proofs.YtlnahhlddekhoaaGreatDoor
open Go.RowKit

set_option maxRecDepth 100000 in
set_option maxHeartbeats 4000000 in
theorem RClosure_no (cs ws : List Int) (P : List (Int × Int)) (va : Value) (w : World) (ha : RelV w va cs ws P) (hno : rvalidB cs ws P = false) :
    Calls Tryz.prog 18 #[va] w (RelRes 1 [] [] [] w) := by
  obtain ⟨ca, cc, wa, wcp, ia, ic, rfl, a1, a2, a3⟩ := ha.shape
  obtain ⟨W, hW⟩ : ∃ W, Boxes w W (.cells #[.slice ca cs.length cc, .slice wa ws.length wcp, .slice ia P.length ic] 29) (.cells #[.slice none 0 0, .slice none 0 0, .slice none 0 0] 29) := ⟨_, Boxes.mk' _ _ _⟩
  obtain ⟨p0, p1, p2⟩ := cells3 hW.b0
  have HA := Lib.hid (ha.ext hW.ext)
  have HW := Lib.hid hW; have HNO := Lib.hid hno
  clear ha a1 a2 a3 hW hno
  go_enter Tryz.func18, Tryz.ntmps18
  go_upto_region 1 with fail
  rw [← HW.out.eq]
  go_wp2_with fail
  refine (RValid_any cs ws P _ _ HA.out).mono ?_
  rintro r w1 ⟨rfl, x1⟩
  rw [HNO.out]
  have X1 := Lib.hid x1; clear x1
  have hR := X1.out.block (w.heap.size + 1) (lt_heap HW.out.b1)
  rw [HW.out.b1] at hR
  obtain ⟨z0, z1, z2, f0, f1, f2⟩ := block3 hR
  have HR := Lib.hid (put3_new (x := .slice none 0 0) (y := .slice none 0 0) (z := .slice none 0 0) hR)
  have HE : Hid (RelRes 1 [] [] [] w (.returned (.tuple #[.agg #[.slice none 0 0, .slice none 0 0, .slice none 0 0], .int .i64 1])) (put3 w1 (w.heap.size + 1) (.slice none 0 0) (.slice none 0 0) (.slice none 0 0))) :=
    ⟨_, rfl, RelO.nil _ _, (HW.out.ext.trans X1.out).put3 (by omega) _ _ _⟩
  clear hR
  go_wp2_with fail
  exact bodyPost_ret (v := .tuple #[.agg #[.slice none 0 0, .slice none 0 0, .slice none 0 0], .int .i64 1]) (results_row_tmp Tryz.results18 _ _ (w.heap.size + 1) 29 _ (0, 0) _ rfl HR.out Tryz.underlying29 rfl sizeRel) rfl HE.out
end Go.Proofs.YtlnahhlddekhoaaGreatDoor
namespace Go.Proofs.YtlnahhlddekhoaaGreatDoor
open Go.RowKit

/-- What is reached from x. -/
inductive ReachT (T : Nat → Nat → Bool) (n x : Nat) : Nat → Prop
  | refl : ReachT T n x x
  | step (u v : Nat) : ReachT T n x u → v < n → T u v = true → ReachT T n x v

theorem nodup_len : ∀ (n : Nat) (F : List Nat), F.Nodup → (∀ v ∈ F, v < n) → F.length ≤ n := by
  intro n
  induction n with
  | zero =>
    intro F _ h
    cases F with
    | nil => simp
    | cons a r => exact absurd (h a (by simp)) (Nat.not_lt_zero _)
  | succ n ih =>
    intro F hF h
    have h1 := ih (F.filter (· ≠ n)) (hF.filter _) (fun v hv => by
      have := List.mem_filter.1 hv
      have h2 := h v this.1
      have h3 : v ≠ n := by simpa using this.2
      omega)
    have h2 : F.length ≤ (F.filter (· ≠ n)).length + 1 := by
      clear h1 h ih
      induction F with
      | nil => simp
      | cons a r ihr =>
        have hr := (List.nodup_cons.1 hF)
        by_cases c : a = n
        · subst c
          have e : r.filter (· ≠ a) = r := List.filter_eq_self.2 fun v hv => by
            have : v ≠ a := fun e => hr.1 (e ▸ hv)
            simpa using this
          rw [List.filter_cons_of_neg (by simp), e]; simp
        · rw [List.filter_cons_of_pos (by simpa using c)]
          have := ihr hr.2
          simp only [List.length_cons]
          omega
    omega

/-- The found states: no double, all reached, x among them. -/
structure FOk (T : Nat → Nat → Bool) (n x : Nat) (F : List Nat) : Prop where
  nodup : F.Nodup
  lt : ∀ v ∈ F, v < n
  reach : ∀ v ∈ F, ReachT T n x v
  src : x ∈ F
theorem FOk.len {T : Nat → Nat → Bool} {n x : Nat} {F : List Nat} (h : FOk T n x F) : F.length ≤ n := nodup_len n F h.nodup h.lt
theorem FOk.one {T : Nat → Nat → Bool} {n x : Nat} (h : x < n) : FOk T n x [x] :=
  ⟨by simp, fun v hv => by rw [List.mem_singleton.1 hv]; exact h, fun v hv => by rw [List.mem_singleton.1 hv]; exact .refl, by simp⟩
theorem FOk.add {T : Nat → Nat → Bool} {n x : Nat} {F : List Nat} (h : FOk T n x F) {u y : Nat} (hu : u ∈ F) (hy : y < n) (ht : T u y = true) (hn : y ∉ F) : FOk T n x (F ++ [y]) := by
  refine ⟨?_, fun v hv => ?_, fun v hv => ?_, List.mem_append.2 (.inl h.src)⟩
  · rw [List.nodup_append]
    refine ⟨h.nodup, by simp, fun a ha b hb => ?_⟩
    rw [List.mem_singleton.1 hb]
    exact fun e => hn (e ▸ ha)
  · rcases List.mem_append.1 hv with hv | hv
    · exact h.lt v hv
    · rw [List.mem_singleton.1 hv]; exact hy
  · rcases List.mem_append.1 hv with hv | hv
    · exact h.reach v hv
    · rw [List.mem_singleton.1 hv]; exact .step u y (h.reach u hu) hy ht
/-- The followers of what stands ahead of i are found. -/
def FDone (T : Nat → Nat → Bool) (n : Nat) (F : List Nat) (i : Nat) : Prop := ∀ k (h : k < F.length), k < i → ∀ y, y < n → T F[k] y = true → y ∈ F
theorem FDone.add {T : Nat → Nat → Bool} {n i : Nat} {F : List Nat} (h : FDone T n F i) (hi : i ≤ F.length) (y : Nat) : FDone T n (F ++ [y]) i := by
  intro k hk hki z hz ht
  have hk' : k < F.length := by omega
  rw [List.getElem_append_left hk'] at ht
  exact List.mem_append.2 (.inl (h k hk' hki z hz ht))
theorem FOk.all {T : Nat → Nat → Bool} {n x : Nat} {F : List Nat} (h : FOk T n x F) (hd : FDone T n F F.length) (j : Nat) : j ∈ F ↔ ReachT T n x j := by
  refine ⟨h.reach j, fun hr => ?_⟩
  induction hr with
  | refl => exact h.src
  | step u v _ hv ht ih =>
    obtain ⟨k, hk, rfl⟩ := List.mem_iff_getElem.1 ih
    exact hd k hk hk v hv ht
end Go.Proofs.YtlnahhlddekhoaaGreatDoor
namespace Go.Proofs.YtlnahhlddekhoaaGreatDoor
open Go.RowKit

theorem TabR.grown {w w' : World} {base g n m : Nat} {r : Nat → Nat} {T : Nat → Nat → Bool} (h : TabR w base g n r T m) {row : Option Nat} (hg : w.grownBy w' row) (h1 : row ≠ some g) (h2 : ∀ i, i < m → row ≠ some (r i)) : TabR w' base g n r T m :=
  ⟨h.le, h.top.elim fun z q => ⟨z, q.of_block (hg.block _ h.lt fun e => h1 e.symm)⟩, fun i hi => ⟨(h.row i hi).1, (h.row i hi).2.of_block (hg.block _ (h.rlt hi) fun e => h2 i hi e.symm)⟩, h.one⟩
theorem OwnInts.new1 (w : World) (base : Nat) (hb : base ≤ w.heap.size) (x : Int) : OwnInts (w.alloc (.cells #[.int .i64 x] 3)) base (.slice (some ⟨w.heap.size, 0, none⟩) 1 1) [x] :=
  ⟨rfl, .inr ⟨w.heap.size, 1, #[.int .i64 x], rfl, hb, heap_new _ _, by first | decide | simp, by first | decide | simp, by first | decide | simp, by first | decide | simp⟩⟩
open Classical in
/-- The table while row x is filled. -/
noncomputable def cloT (T : Nat → Nat → Bool) (n x : Nat) (F : List Nat) (i j : Nat) : Bool := if i < x then decide (ReachT T n i j) else if i = x then decide (j ∈ F) else false
theorem cloT_add {T : Nat → Nat → Bool} {n x y : Nat} {F : List Nat} (i j : Nat) : (if i = x ∧ j = y then true else cloT T n x F i j) = cloT T n x (F ++ [y]) i j := by
  unfold cloT
  by_cases c : i < x
  · rw [if_pos c, if_pos c, if_neg (by omega)]
  · by_cases d : i = x
    · subst d
      rw [if_neg c, if_neg c, if_pos rfl, if_pos rfl]
      by_cases e : j = y
      · subst e; simp
      · rw [if_neg (fun h => e h.2)]; exact decide_eq_decide.2 (by simp [e])
    · rw [if_neg c, if_neg c, if_neg d, if_neg d, if_neg (fun h => d h.1)]
theorem cloT_next {T : Nat → Nat → Bool} {n x : Nat} {F : List Nat} (h : FOk T n x F) (hd : FDone T n F F.length) (i j : Nat) : cloT T n x F i j = cloT T n (x + 1) [] i j := by
  unfold cloT
  by_cases c : i < x
  · rw [if_pos c, if_pos (by omega)]
  · by_cases d : i = x
    · subst d
      rw [if_neg c, if_pos rfl, if_pos (by omega)]
      exact decide_eq_decide.2 (h.all hd j)
    · rw [if_neg c, if_neg d, if_neg (by omega)]
      split
      · simp
      · rfl
end Go.Proofs.YtlnahhlddekhoaaGreatDoor
