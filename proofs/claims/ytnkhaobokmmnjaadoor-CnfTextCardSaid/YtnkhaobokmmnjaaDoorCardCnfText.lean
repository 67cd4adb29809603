/-
  CnfText: for every input the law returns true, and each argument reads as before (the package-level tables as the program's text lays them).
-/
import Derived.Test.YtnkhaobokmmnjaaDoorLg6
import Derived.Test.YtnkhaobokmmnjaaDoorCardN
import Derived.ChangeMaps5
namespace Go.Proofs.YtnkhaobokmmnjaaDoor.cnfText
open Go.ChangeShapes Go.WideShapes Go.ChangeAt Go.RowKit
set_option maxRecDepth 100000

theorem spec_law : LawSpec Rows.cnfTextSpec 2 := ⟨rfl, fun H ds h => by
  match ds, h with
  | [d0, d1], _ => rfl⟩
theorem readable : ∀ t ∈ Tryd.f5.params.toList, Tryd.prog.readableRec t = true ∧ t < Tryd.prog.types.size := by
  rw [Tryd.params5]
  intro t ht
  have h : t = 24 ∨ t = 33 := by first | simpa using ht | (simp at ht; rcases ht with h0 | h0 <;> simp [h0])
  rcases h with rfl | rfl <;> exact ⟨by kernel_rfl, of_decide_eq_true (by kernel_rfl)⟩

theorem contract (H : Type) (enc : TypeId × Value → H) (W : World) (base : Nat) (args : Array Value) (ds gs : List (DataW H)) (before : List MemPlace)
    (hval : ∀ (j : Nat) t v, Tryd.f5.params[j]? = some t → args[j]? = some v → Value.okWide Tryd.prog W .any base t v)
    (hW : DataW.Whole enc Tryd.prog Tryd.f5.params.toList Rows.cnfTextSpec.vars false W args.toList ds gs before) (hL : laidMetH Tryd.prog tables W) (hsh : W.ShapedOpen Tryd.prog) :
    Calls Tryd.prog 5 args W fun e W' => ∃ v, e = .returned v ∧ Rows.cnfTextSpec.post enc Tryd.prog Tryd.f5 false true false false W args v W' := by
  have hW' := hW
  obtain ⟨p, q, hA0, hV, rfl, hfz, hnd⟩ := hW
  have hA : DataW.TrodAll enc Tryd.prog W 0 (fun _ => true) true Tryd.f5.params.toList args.toList ds p := hA0
  rw [Tryd.params5] at hA hval
  obtain ⟨v0, vs0, d0, ds0, p0, q0, hargs0, rfl, rfl, h0, r0⟩ := trodAll_cons hA
  obtain ⟨v1, vs1, d1, ds1, p1, q1, hargs1, rfl, rfl, h1, r1⟩ := trodAll_cons r0
  obtain ⟨hvs, rfl, rfl⟩ := trodAll_nil r1
  subst hvs
  obtain rfl : args = #[v0, v1] := by cases args; simp_all
  obtain ⟨x0a, x0b, g0⟩ := open_CNF (hval 0 _ v0 rfl rfl) h0
  obtain ⟨x1, g1⟩ := open_Bytes (hval 1 _ v1 rfl rfl) h1
  have hT := tables_met hL hsh
  refine (CnfText_card x0a x0b x1 _ _ W g0 g1 hT).mono fun e W' ⟨he, hx⟩ => ?_
  subst he
  exact ⟨_, rfl, law_post (by kernel_rfl) (by rw [Tryd.params5]; exact spec_law) readable hW' hx⟩

theorem laid_met (os : Os) : laidMet Tryd.prog Rows.cnfTextRow.laid ((laidWorld os).forCall (fun _ _ => 0) ⟨#[], #[.agg #[.int .i64 0, .slice none 0 0], .slice none 0 0], []⟩).memory :=
  laidMet_of_run' 8 (by kernel_rfl) (by kernel_rfl)
theorem reads (os : Os) {H : Type} (enc : TypeId × Value → H) : ∃ places, DataW.whole enc Tryd.prog ((laidWorld os).forCall (fun _ _ => 0) ⟨#[], #[.agg #[.int .i64 0, .slice none 0 0], .slice none 0 0], []⟩).memory Tryd.f5.params.toList Rows.cnfTextSpec.vars false (#[.agg #[.int .i64 0, .slice none 0 0], .slice none 0 0] : Array Value).toList 8 = some ([.agg [.lit (.int .i64 0), .nil], .nil], [], places) :=
  ⟨[], by kernel_rfl⟩

theorem lifted (os : Os) (started : os.Started) (H : Type) (enc : TypeId × Value → H) (F : Stop.Interp) :
    ReturnsInHanded {} Tryd.checked os 5 .any ((OpenSpec.ofChange Rows.cnfTextSpec).preRow enc Tryd.prog Tryd.f5 Rows.cnfTextRow.domain false Rows.cnfTextRow.laid) (((OpenSpec.ofChange Rows.cnfTextSpec).at F).post enc Tryd.prog Tryd.f5 false true false false) := by
  obtain ⟨places, hx⟩ := reads os enc
  refine returnsInHanded_of_row (C := Tryd.checked) (s := OpenSpec.ofChange Rows.cnfTextSpec) ownK started (by kernel_rfl) Tryd.func5
    (witness_row_at (enc := enc) (C := Tryd.checked) false (laidWorld os) #[.agg #[.int .i64 0, .slice none 0 0], .slice none 0 0] rfl (by kernel_rfl) (by kernel_rfl) (by kernel_rfl)
      (OpenSpec.preRow_of_cond 8 hx (by kernel_rfl) (fun k hk => by cases hk) (by kernel_rfl) (laid_met os))) ?_
  intro W base args ds gs before hval hW _ _ _ hL hsh _
  exact contract H enc W base args ds gs before hval hW hL hsh

theorem said : Rows.CnfTextSaid :=
  OpenClaim.holds_of_cond 5 Tryd.f5 rfl rfl rfl rfl rfl rfl rfl ⟨rfl, rfl, rfl, rfl, rfl⟩ rfl rfl rfl rfl rfl (by kernel_rfl) Tryd.func5 (by kernel_rfl)
    (of_decide_eq_true (by kernel_rfl)) (by unfold Func.isWrapper; first | (rw [if_pos (by decide +kernel)]; kernel_rfl) | (rw [if_neg (by decide +kernel)]; exact ⟨rfl, rfl⟩))
    (fun os started H enc _ F => by rw [OpenClaim.pre_eq_preRow]; exact lifted os started H enc F)

theorem plain (f : FuncId) (fn : Func) (hf : Tryd.pinned.checked.prog.funcNamed "relyguard/relyguardlaw21.CnfText" = some f) (hfn : Tryd.pinned.checked.prog.funcs[f]? = some fn) :
    true = Tryd.pinned.checked.prog.looks [] ∧ ∀ (j : Nat) t, fn.params[j]? = some t → Tryd.pinned.checked.prog.wantsStandIn t = false := by
  obtain rfl : f = 5 := Option.some.inj ((show Tryd.prog.funcNamed "relyguard/relyguardlaw21.CnfText" = some 5 by kernel_rfl).symm.trans hf) |>.symm
  obtain rfl : fn = Tryd.f5 := (Option.some.inj (Tryd.func5.symm.trans hfn)).symm
  refine ⟨by kernel_rfl, fun j t ht => ?_⟩
  rw [Tryd.params5] at ht
  have h : t = 24 ∨ t = 33 := by first | simpa using Array.mem_of_getElem? ht | (have h1 := Array.mem_of_getElem? ht; simp at h1; rcases h1 with h0 | h0 <;> simp [h0])
  rcases h with rfl | rfl
  · exact (show Tryd.prog.wantsStandIn 24 = false by kernel_rfl)
  · exact (show Tryd.prog.wantsStandIn 33 = false by kernel_rfl)
end Go.Proofs.YtnkhaobokmmnjaaDoor.cnfText
namespace Go.Proofs.YtnkhaobokmmnjaaDoor
open Go.ChangeShapes Go.WideShapes Go.ChangeAt Go.RowKit
/-- The card of CnfText. -/
theorem cnfText_holds : Rows.CnfTextCardSaid :=
  Claim7.holds_tied_plain_at .later [] _ _ _ _ cnfText.said (fun _ h => by cases h) (by kernel_rfl) (fun _ h => by cases h) cnfText_row_tie rfl ⟨rfl, rfl⟩ (by kernel_rfl) rfl cnfText.plain (by kernel_rfl)
end Go.Proofs.YtnkhaobokmmnjaaDoor
