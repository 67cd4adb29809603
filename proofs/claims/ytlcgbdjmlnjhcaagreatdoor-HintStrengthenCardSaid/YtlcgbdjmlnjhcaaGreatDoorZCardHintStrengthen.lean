/-
  HintStrengthen: for every input the law returns true, and each argument reads as before (the package-level tables as the program's text lays them).
-/
import Derived.Test.YtlcgbdjmlnjhcaaGreatDoorZLh4
import Derived.Test.YtlcgbdjmlnjhcaaGreatDoorG39
import Derived.Test.YtlcgbdjmlnjhcaaGreatDoorG40
import Derived.ChangeMaps5
namespace Go.Proofs.YtlcgbdjmlnjhcaaGreatDoor.hintStrengthen
open Go.ChangeShapes Go.WideShapes Go.ChangeAt Go.RowKit
set_option maxRecDepth 100000

theorem spec_law : LawSpec Rows.hintStrengthenSpec 6 := ⟨rfl, fun H ds h => by
  match ds, h with
  | [d0, d1, d2, d3, d4, d5], _ => rfl⟩
theorem readable : ∀ t ∈ Tryz.f6.params.toList, Tryz.prog.readableRec t = true ∧ t < Tryz.prog.types.size := by
  rw [Tryz.params6]
  intro t ht
  have h : t = 22 ∨ t = 27 ∨ t = 25 ∨ t = 35 := by first | simpa using ht | (simp at ht; rcases ht with h0 | h0 | h0 | h0 | h0 | h0 <;> simp [h0]) | (simp at ht; rcases ht with h0 | h0 | h0 | h0 | h0 <;> simp [h0]) | (simp at ht; rcases ht with h0 | h0 | h0 | h0 <;> simp [h0]) | (simp at ht; rcases ht with h0 | h0 | h0 <;> simp [h0]) | (simp at ht; rcases ht with h0 | h0 <;> simp [h0])
  rcases h with rfl | rfl | rfl | rfl <;> exact ⟨by kernel_rfl, of_decide_eq_true (by kernel_rfl)⟩

theorem contract (H : Type) (enc : TypeId × Value → H) (W : World) (base : Nat) (args : Array Value) (ds gs : List (DataW H)) (before : List MemPlace)
    (hval : ∀ (j : Nat) t v, Tryz.f6.params[j]? = some t → args[j]? = some v → Value.okWide Tryz.prog W .any base t v)
    (hW : DataW.Whole enc Tryz.prog Tryz.f6.params.toList Rows.hintStrengthenSpec.vars false W args.toList ds gs before) (hL : laidMetH Tryz.prog tables W) :
    Calls Tryz.prog 6 args W fun e W' => ∃ v, e = .returned v ∧ Rows.hintStrengthenSpec.post enc Tryz.prog Tryz.f6 false true false false W args v W' := by
  have hW' := hW
  obtain ⟨p, q, hA0, hV, rfl, hfz, hnd⟩ := hW
  have hA : DataW.TrodAll enc Tryz.prog W 0 (fun _ => true) true Tryz.f6.params.toList args.toList ds p := hA0
  rw [Tryz.params6] at hA hval
  obtain ⟨v0, vs0, d0, ds0, p0, q0, hargs0, rfl, rfl, h0, r0⟩ := trodAll_cons hA
  obtain ⟨v1, vs1, d1, ds1, p1, q1, hargs1, rfl, rfl, h1, r1⟩ := trodAll_cons r0
  obtain ⟨v2, vs2, d2, ds2, p2, q2, hargs2, rfl, rfl, h2, r2⟩ := trodAll_cons r1
  obtain ⟨v3, vs3, d3, ds3, p3, q3, hargs3, rfl, rfl, h3, r3⟩ := trodAll_cons r2
  obtain ⟨v4, vs4, d4, ds4, p4, q4, hargs4, rfl, rfl, h4, r4⟩ := trodAll_cons r3
  obtain ⟨v5, vs5, d5, ds5, p5, q5, hargs5, rfl, rfl, h5, r5⟩ := trodAll_cons r4
  obtain ⟨hvs, rfl, rfl⟩ := trodAll_nil r5
  subst hvs
  obtain rfl : args = #[v0, v1, v2, v3, v4, v5] := by cases args; simp_all
  obtain ⟨x0, g0⟩ := open_Cells (hval 0 _ v0 rfl rfl) h0
  obtain ⟨x1, g1⟩ := open_Cond (hval 1 _ v1 rfl rfl) h1
  obtain ⟨x2, g2⟩ := open_E (hval 2 _ v2 rfl rfl) h2
  obtain ⟨x3, g3⟩ := open_E (hval 3 _ v3 rfl rfl) h3
  obtain ⟨x4, g4⟩ := open_Ints (hval 4 _ v4 rfl rfl) h4
  obtain ⟨x5, g5⟩ := open_Ints (hval 5 _ v5 rfl rfl) h5
  obtain ⟨hM, hN, hP⟩ := tables_met hL
  refine (HintStrengthen_any x0 x1 x2 x3 x4 x5 _ _ _ _ _ _ W g0 g1 g2 g3 g4 g5 hM hN hP).mono fun e W' ⟨he, hx⟩ => ?_
  subst he
  exact ⟨_, rfl, law_post (by kernel_rfl) (by rw [Tryz.params6]; exact spec_law) readable hW' hx⟩

theorem laid_met (os : Os) : laidMet Tryz.prog Rows.hintStrengthenRow.laid ((laidWorld os).forCall (fun _ _ => 0) ⟨#[], #[.slice none 0 0, .agg #[.string ⟨#[]⟩, .int .i64 0, .int .i64 0, .int .i64 0, .int .i64 0, .int .i64 0, .int .i64 0, .int .i64 0, .int .i64 0, .slice none 0 0, .int .i64 0, .int .i64 0, .int .i64 0, .slice none 0 0], zeroV, zeroV, .slice none 0 0, .slice none 0 0], []⟩).memory :=
  laidMet_of_run' 8 (by kernel_rfl) (by kernel_rfl)
theorem reads (os : Os) {H : Type} (enc : TypeId × Value → H) : ∃ places, DataW.whole enc Tryz.prog ((laidWorld os).forCall (fun _ _ => 0) ⟨#[], #[.slice none 0 0, .agg #[.string ⟨#[]⟩, .int .i64 0, .int .i64 0, .int .i64 0, .int .i64 0, .int .i64 0, .int .i64 0, .int .i64 0, .int .i64 0, .slice none 0 0, .int .i64 0, .int .i64 0, .int .i64 0, .slice none 0 0], zeroV, zeroV, .slice none 0 0, .slice none 0 0], []⟩).memory Tryz.f6.params.toList Rows.hintStrengthenSpec.vars false (#[.slice none 0 0, .agg #[.string ⟨#[]⟩, .int .i64 0, .int .i64 0, .int .i64 0, .int .i64 0, .int .i64 0, .int .i64 0, .int .i64 0, .int .i64 0, .slice none 0 0, .int .i64 0, .int .i64 0, .int .i64 0, .slice none 0 0], zeroV, zeroV, .slice none 0 0, .slice none 0 0] : Array Value).toList 8 = some ([.nil, .agg [.lit (.string []), .lit (.int .i64 0), .lit (.int .i64 0), .lit (.int .i64 0), .lit (.int .i64 0), .lit (.int .i64 0), .agg [.lit (.int .i64 0), .lit (.int .i64 0), .lit (.int .i64 0), .nil], .agg [.lit (.int .i64 0), .lit (.int .i64 0), .lit (.int .i64 0), .nil]], .agg [.lit (.int .i64 0), .lit (.int .i64 0), .lit (.int .i64 0), .nil], .agg [.lit (.int .i64 0), .lit (.int .i64 0), .lit (.int .i64 0), .nil], .nil, .nil], [], places) :=
  ⟨[], by kernel_rfl⟩

theorem lifted (os : Os) (started : os.Started) (H : Type) (enc : TypeId × Value → H) (F : Stop.Interp) :
    ReturnsInHanded {} Tryz.checked os 6 .any ((OpenSpec.ofChange Rows.hintStrengthenSpec).preRow enc Tryz.prog Tryz.f6 Rows.hintStrengthenRow.domain false Rows.hintStrengthenRow.laid) (((OpenSpec.ofChange Rows.hintStrengthenSpec).at F).post enc Tryz.prog Tryz.f6 false true false false) := by
  obtain ⟨places, hx⟩ := reads os enc
  refine returnsInHanded_of_row (C := Tryz.checked) (s := OpenSpec.ofChange Rows.hintStrengthenSpec) ownK started (by kernel_rfl) Tryz.func6
    (witness_row_at (enc := enc) (C := Tryz.checked) false (laidWorld os) #[.slice none 0 0, .agg #[.string ⟨#[]⟩, .int .i64 0, .int .i64 0, .int .i64 0, .int .i64 0, .int .i64 0, .int .i64 0, .int .i64 0, .int .i64 0, .slice none 0 0, .int .i64 0, .int .i64 0, .int .i64 0, .slice none 0 0], zeroV, zeroV, .slice none 0 0, .slice none 0 0] rfl (by kernel_rfl) (by kernel_rfl) (by kernel_rfl)
      (OpenSpec.preRow_of_cond 8 hx (by kernel_rfl) (fun k hk => by cases hk) (by kernel_rfl) (laid_met os))) ?_
  intro W base args ds gs before hval hW _ _ _ hL _ _
  exact contract H enc W base args ds gs before hval hW hL

theorem said : Rows.HintStrengthenSaid :=
  OpenClaim.holds_of_cond 6 Tryz.f6 rfl rfl rfl rfl rfl rfl rfl ⟨rfl, rfl, rfl, rfl, rfl⟩ rfl rfl rfl rfl rfl (by kernel_rfl) Tryz.func6 (by kernel_rfl)
    (of_decide_eq_true (by kernel_rfl)) (by unfold Func.isWrapper; first | (rw [if_pos (by decide +kernel)]; kernel_rfl) | (rw [if_neg (by decide +kernel)]; exact ⟨rfl, rfl⟩))
    (fun os started H enc _ F => by rw [OpenClaim.pre_eq_preRow]; exact lifted os started H enc F)

theorem plain (f : FuncId) (fn : Func) (hf : Tryz.pinned.checked.prog.funcNamed "relyguard/relyguardlaw32.HintStrengthen" = some f) (hfn : Tryz.pinned.checked.prog.funcs[f]? = some fn) :
    false = Tryz.pinned.checked.prog.looks [] ∧ ∀ (j : Nat) t, fn.params[j]? = some t → Tryz.pinned.checked.prog.wantsStandIn t = false := by
  obtain rfl : f = 6 := Option.some.inj ((show Tryz.prog.funcNamed "relyguard/relyguardlaw32.HintStrengthen" = some 6 by kernel_rfl).symm.trans hf) |>.symm
  obtain rfl : fn = Tryz.f6 := (Option.some.inj (Tryz.func6.symm.trans hfn)).symm
  refine ⟨by kernel_rfl, fun j t ht => ?_⟩
  rw [Tryz.params6] at ht
  have h : t = 22 ∨ t = 27 ∨ t = 25 ∨ t = 35 := by first | simpa using Array.mem_of_getElem? ht | (have h1 := Array.mem_of_getElem? ht; simp at h1; rcases h1 with h0 | h0 | h0 | h0 | h0 | h0 <;> simp [h0]) | (have h1 := Array.mem_of_getElem? ht; simp at h1; rcases h1 with h0 | h0 | h0 | h0 | h0 <;> simp [h0]) | (have h1 := Array.mem_of_getElem? ht; simp at h1; rcases h1 with h0 | h0 | h0 | h0 <;> simp [h0]) | (have h1 := Array.mem_of_getElem? ht; simp at h1; rcases h1 with h0 | h0 | h0 <;> simp [h0]) | (have h1 := Array.mem_of_getElem? ht; simp at h1; rcases h1 with h0 | h0 <;> simp [h0])
  rcases h with rfl | rfl | rfl | rfl
  · exact (show Tryz.prog.wantsStandIn 22 = false by kernel_rfl)
  · exact (show Tryz.prog.wantsStandIn 27 = false by kernel_rfl)
  · exact (show Tryz.prog.wantsStandIn 25 = false by kernel_rfl)
  · exact (show Tryz.prog.wantsStandIn 35 = false by kernel_rfl)
end Go.Proofs.YtlcgbdjmlnjhcaaGreatDoor.hintStrengthen
namespace Go.Proofs.YtlcgbdjmlnjhcaaGreatDoor
open Go.ChangeShapes Go.WideShapes Go.ChangeAt Go.RowKit
/-- The card of HintStrengthen. -/
theorem hintStrengthen_holds : Rows.HintStrengthenCardSaid :=
  Claim7.holds_tied_plain_at .later [] _ _ _ _ hintStrengthen.said (fun _ h => by cases h) (by kernel_rfl) (fun _ h => by cases h) hintStrengthen_row_tie rfl ⟨rfl, rfl⟩ (by kernel_rfl) rfl hintStrengthen.plain (by kernel_rfl)
end Go.Proofs.YtlcgbdjmlnjhcaaGreatDoor
