/-
  RelationMatchesReference: for every input the law returns true, and each argument reads as before (the package-level tables as the program's text lays them).
-/
import Derived.Test.YtlnahhlddekhoaaGreatDoorZLz
import Derived.Test.YtlnahhlddekhoaaGreatDoorG37
import Derived.ChangeMaps5
namespace Go.Proofs.YtlnahhlddekhoaaGreatDoor.relationMatchesReference
open Go.ChangeShapes Go.WideShapes Go.ChangeAt Go.RowKit
set_option maxRecDepth 100000

theorem spec_law : LawSpec Rows.relationMatchesReferenceSpec 6 := ⟨rfl, fun H ds h => by
  match ds, h with
  | [d0, d1, d2, d3, d4, d5], _ => rfl⟩
theorem readable : ∀ t ∈ Tryz.f3.params.toList, Tryz.prog.readableRec t = true ∧ t < Tryz.prog.types.size := by
  rw [Tryz.params3]
  intro t ht
  have h : t = 22 ∨ t = 23 ∨ t = 26 ∨ t = 29 ∨ t = 31 := by first | simpa using ht | (simp at ht; rcases ht with h0 | h0 | h0 | h0 | h0 | h0 <;> simp [h0]) | (simp at ht; rcases ht with h0 | h0 | h0 | h0 | h0 <;> simp [h0]) | (simp at ht; rcases ht with h0 | h0 | h0 | h0 <;> simp [h0]) | (simp at ht; rcases ht with h0 | h0 | h0 <;> simp [h0]) | (simp at ht; rcases ht with h0 | h0 <;> simp [h0])
  rcases h with rfl | rfl | rfl | rfl | rfl <;> exact ⟨by kernel_rfl, of_decide_eq_true (by kernel_rfl)⟩

theorem contract (H : Type) (enc : TypeId × Value → H) (W : World) (base : Nat) (args : Array Value) (ds gs : List (DataW H)) (before : List MemPlace)
    (hval : ∀ (j : Nat) t v, Tryz.f3.params[j]? = some t → args[j]? = some v → Value.okWide Tryz.prog W .any base t v)
    (hW : DataW.Whole enc Tryz.prog Tryz.f3.params.toList Rows.relationMatchesReferenceSpec.vars false W args.toList ds gs before) (hL : laidMetH Tryz.prog tables W) :
    Calls Tryz.prog 3 args W fun e W' => ∃ v, e = .returned v ∧ Rows.relationMatchesReferenceSpec.post enc Tryz.prog Tryz.f3 false true false false W args v W' := by
  have hW' := hW
  obtain ⟨p, q, hA0, hV, rfl, hfz, hnd⟩ := hW
  have hA : DataW.TrodAll enc Tryz.prog W 0 (fun _ => true) true Tryz.f3.params.toList args.toList ds p := hA0
  rw [Tryz.params3] at hA hval
  obtain ⟨v0, vs0, d0, ds0, p0, q0, hargs0, rfl, rfl, h0, r0⟩ := trodAll_cons hA
  obtain ⟨v1, vs1, d1, ds1, p1, q1, hargs1, rfl, rfl, h1, r1⟩ := trodAll_cons r0
  obtain ⟨v2, vs2, d2, ds2, p2, q2, hargs2, rfl, rfl, h2, r2⟩ := trodAll_cons r1
  obtain ⟨v3, vs3, d3, ds3, p3, q3, hargs3, rfl, rfl, h3, r3⟩ := trodAll_cons r2
  obtain ⟨v4, vs4, d4, ds4, p4, q4, hargs4, rfl, rfl, h4, r4⟩ := trodAll_cons r3
  obtain ⟨v5, vs5, d5, ds5, p5, q5, hargs5, rfl, rfl, h5, r5⟩ := trodAll_cons r4
  obtain ⟨hvs, rfl, rfl⟩ := trodAll_nil r5
  subst hvs
  obtain rfl : args = #[v0, v1, v2, v3, v4, v5] := by cases args; simp_all
  obtain ⟨x0, g0⟩ := open_Cells (hval 0 _ v0 rfl rfl) h0
  obtain ⟨x1, g1⟩ := open_Ints (hval 1 _ v1 rfl rfl) h1
  obtain ⟨x2, g2⟩ := open_E (hval 2 _ v2 rfl rfl) h2
  obtain ⟨x3a, x3b, x3c, g3⟩ := open_Rel (hval 3 _ v3 rfl rfl) h3
  obtain ⟨x4a, x4b, x4c, g4⟩ := open_Rel (hval 4 _ v4 rfl rfl) h4
  obtain ⟨x5a, x5b, x5c, g5⟩ := open_Set (hval 5 _ v5 rfl rfl) h5
  obtain ⟨hM, hT⟩ := tables_met hL
  refine (RelationMatchesReference_any x0 x1 x2 x3a x3b x3c x4a x4b x4c x5a x5b x5c _ _ _ _ _ _ W g0 g1 g2 g3 g4 g5 hM hT).mono fun e W' ⟨he, hx⟩ => ?_
  subst he
  exact ⟨_, rfl, law_post (by kernel_rfl) (by rw [Tryz.params3]; exact spec_law) readable hW' hx⟩

theorem laid_met (os : Os) : laidMet Tryz.prog Rows.relationMatchesReferenceRow.laid ((laidWorld os).forCall (fun _ _ => 0) ⟨#[], #[.slice none 0 0, .slice none 0 0, zeroV, .agg #[.slice none 0 0, .slice none 0 0, .slice none 0 0], .agg #[.slice none 0 0, .slice none 0 0, .slice none 0 0], .agg #[.slice none 0 0, .slice none 0 0, .slice none 0 0]], []⟩).memory :=
  laidMet_of_run' 8 (by kernel_rfl) (by kernel_rfl)
theorem reads (os : Os) {H : Type} (enc : TypeId × Value → H) : ∃ places, DataW.whole enc Tryz.prog ((laidWorld os).forCall (fun _ _ => 0) ⟨#[], #[.slice none 0 0, .slice none 0 0, zeroV, .agg #[.slice none 0 0, .slice none 0 0, .slice none 0 0], .agg #[.slice none 0 0, .slice none 0 0, .slice none 0 0], .agg #[.slice none 0 0, .slice none 0 0, .slice none 0 0]], []⟩).memory Tryz.f3.params.toList Rows.relationMatchesReferenceSpec.vars false (#[.slice none 0 0, .slice none 0 0, zeroV, .agg #[.slice none 0 0, .slice none 0 0, .slice none 0 0], .agg #[.slice none 0 0, .slice none 0 0, .slice none 0 0], .agg #[.slice none 0 0, .slice none 0 0, .slice none 0 0]] : Array Value).toList 8 = some ([.nil, .nil, .agg [.lit (.int .i64 0), .lit (.int .i64 0), .lit (.int .i64 0), .nil], .agg [.nil, .nil, .nil], .agg [.nil, .nil, .nil], .agg [.nil, .nil, .nil]], [], places) :=
  ⟨[], by kernel_rfl⟩

theorem lifted (os : Os) (started : os.Started) (H : Type) (enc : TypeId × Value → H) (F : Stop.Interp) :
    ReturnsInHanded {} Tryz.checked os 3 .any ((OpenSpec.ofChange Rows.relationMatchesReferenceSpec).preRow enc Tryz.prog Tryz.f3 Rows.relationMatchesReferenceRow.domain false Rows.relationMatchesReferenceRow.laid) (((OpenSpec.ofChange Rows.relationMatchesReferenceSpec).at F).post enc Tryz.prog Tryz.f3 false true false false) := by
  obtain ⟨places, hx⟩ := reads os enc
  refine returnsInHanded_of_row (C := Tryz.checked) (s := OpenSpec.ofChange Rows.relationMatchesReferenceSpec) ownK started (by kernel_rfl) Tryz.func3
    (witness_row_at (enc := enc) (C := Tryz.checked) false (laidWorld os) #[.slice none 0 0, .slice none 0 0, zeroV, .agg #[.slice none 0 0, .slice none 0 0, .slice none 0 0], .agg #[.slice none 0 0, .slice none 0 0, .slice none 0 0], .agg #[.slice none 0 0, .slice none 0 0, .slice none 0 0]] rfl (by kernel_rfl) (by kernel_rfl) (by kernel_rfl)
      (OpenSpec.preRow_of_cond 8 hx (by kernel_rfl) (fun k hk => by cases hk) (by kernel_rfl) (laid_met os))) ?_
  intro W base args ds gs before hval hW _ _ _ hL _ _
  exact contract H enc W base args ds gs before hval hW hL

theorem said : Rows.RelationMatchesReferenceSaid :=
  OpenClaim.holds_of_cond 3 Tryz.f3 rfl rfl rfl rfl rfl rfl rfl ⟨rfl, rfl, rfl, rfl, rfl⟩ rfl rfl rfl rfl rfl (by kernel_rfl) Tryz.func3 (by kernel_rfl)
    (of_decide_eq_true (by kernel_rfl)) (by unfold Func.isWrapper; first | (rw [if_pos (by decide +kernel)]; kernel_rfl) | (rw [if_neg (by decide +kernel)]; exact ⟨rfl, rfl⟩))
    (fun os started H enc _ F => by rw [OpenClaim.pre_eq_preRow]; exact lifted os started H enc F)

theorem plain (f : FuncId) (fn : Func) (hf : Tryz.pinned.checked.prog.funcNamed "relyguard/relyguardlaw15.RelationMatchesReference" = some f) (hfn : Tryz.pinned.checked.prog.funcs[f]? = some fn) :
    false = Tryz.pinned.checked.prog.looks [] ∧ ∀ (j : Nat) t, fn.params[j]? = some t → Tryz.pinned.checked.prog.wantsStandIn t = false := by
  obtain rfl : f = 3 := Option.some.inj ((show Tryz.prog.funcNamed "relyguard/relyguardlaw15.RelationMatchesReference" = some 3 by kernel_rfl).symm.trans hf) |>.symm
  obtain rfl : fn = Tryz.f3 := (Option.some.inj (Tryz.func3.symm.trans hfn)).symm
  refine ⟨by kernel_rfl, fun j t ht => ?_⟩
  rw [Tryz.params3] at ht
  have h : t = 22 ∨ t = 23 ∨ t = 26 ∨ t = 29 ∨ t = 31 := by first | simpa using Array.mem_of_getElem? ht | (have h1 := Array.mem_of_getElem? ht; simp at h1; rcases h1 with h0 | h0 | h0 | h0 | h0 | h0 <;> simp [h0]) | (have h1 := Array.mem_of_getElem? ht; simp at h1; rcases h1 with h0 | h0 | h0 | h0 | h0 <;> simp [h0]) | (have h1 := Array.mem_of_getElem? ht; simp at h1; rcases h1 with h0 | h0 | h0 | h0 <;> simp [h0]) | (have h1 := Array.mem_of_getElem? ht; simp at h1; rcases h1 with h0 | h0 | h0 <;> simp [h0]) | (have h1 := Array.mem_of_getElem? ht; simp at h1; rcases h1 with h0 | h0 <;> simp [h0])
  rcases h with rfl | rfl | rfl | rfl | rfl
  · exact (show Tryz.prog.wantsStandIn 22 = false by kernel_rfl)
  · exact (show Tryz.prog.wantsStandIn 23 = false by kernel_rfl)
  · exact (show Tryz.prog.wantsStandIn 26 = false by kernel_rfl)
  · exact (show Tryz.prog.wantsStandIn 29 = false by kernel_rfl)
  · exact (show Tryz.prog.wantsStandIn 31 = false by kernel_rfl)
end Go.Proofs.YtlnahhlddekhoaaGreatDoor.relationMatchesReference
namespace Go.Proofs.YtlnahhlddekhoaaGreatDoor
open Go.ChangeShapes Go.WideShapes Go.ChangeAt Go.RowKit
/-- The card of RelationMatchesReference. -/
theorem relationMatchesReference_holds : Rows.RelationMatchesReferenceCardSaid :=
  Claim7.holds_tied_plain_at .later [] _ _ _ _ relationMatchesReference.said (fun _ h => by cases h) (by kernel_rfl) (fun _ h => by cases h) relationMatchesReference_row_tie rfl ⟨rfl, rfl⟩ (by kernel_rfl) rfl relationMatchesReference.plain (by kernel_rfl)
end Go.Proofs.YtlnahhlddekhoaaGreatDoor
