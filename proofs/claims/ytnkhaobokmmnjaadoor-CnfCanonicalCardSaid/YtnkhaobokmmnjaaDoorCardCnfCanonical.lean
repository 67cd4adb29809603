/-
  CnfCanonical: for every input the law returns true, and each argument reads as before (the package-level tables as the program's text lays them).
-/
import Derived.Test.YtnkhaobokmmnjaaDoorLg5
import Derived.Test.YtnkhaobokmmnjaaDoorCardN
import Derived.ChangeMaps5
namespace Go.Proofs.YtnkhaobokmmnjaaDoor.cnfCanonical
open Go.ChangeShapes Go.WideShapes Go.ChangeAt Go.RowKit
set_option maxRecDepth 100000

theorem spec_law : LawSpec Rows.cnfCanonicalSpec 4 := ⟨rfl, fun H ds h => by
  match ds, h with
  | [d0, d1, d2, d3], _ => rfl⟩
theorem readable : ∀ t ∈ Tryd.f4.params.toList, Tryd.prog.readableRec t = true ∧ t < Tryd.prog.types.size := by
  rw [Tryd.params4]
  intro t ht
  have h : t = 24 ∨ t = 5 ∨ t = 33 ∨ t = 34 := by first | simpa using ht | (simp at ht; rcases ht with h0 | h0 | h0 | h0 <;> simp [h0]) | (simp at ht; rcases ht with h0 | h0 | h0 <;> simp [h0]) | (simp at ht; rcases ht with h0 | h0 <;> simp [h0])
  rcases h with rfl | rfl | rfl | rfl <;> exact ⟨by kernel_rfl, of_decide_eq_true (by kernel_rfl)⟩

theorem contract (H : Type) (enc : TypeId × Value → H) (W : World) (base : Nat) (args : Array Value) (ds gs : List (DataW H)) (before : List MemPlace)
    (hval : ∀ (j : Nat) t v, Tryd.f4.params[j]? = some t → args[j]? = some v → Value.okWide Tryd.prog W .any base t v)
    (hW : DataW.Whole enc Tryd.prog Tryd.f4.params.toList Rows.cnfCanonicalSpec.vars false W args.toList ds gs before) (hL : laidMetH Tryd.prog tables W) (hsh : W.ShapedOpen Tryd.prog) :
    Calls Tryd.prog 4 args W fun e W' => ∃ v, e = .returned v ∧ Rows.cnfCanonicalSpec.post enc Tryd.prog Tryd.f4 false true false false W args v W' := by
  have hW' := hW
  obtain ⟨p, q, hA0, hV, rfl, hfz, hnd⟩ := hW
  have hA : DataW.TrodAll enc Tryd.prog W 0 (fun _ => true) true Tryd.f4.params.toList args.toList ds p := hA0
  rw [Tryd.params4] at hA hval
  obtain ⟨v0, vs0, d0, ds0, p0, q0, hargs0, rfl, rfl, h0, r0⟩ := trodAll_cons hA
  obtain ⟨v1, vs1, d1, ds1, p1, q1, hargs1, rfl, rfl, h1, r1⟩ := trodAll_cons r0
  obtain ⟨v2, vs2, d2, ds2, p2, q2, hargs2, rfl, rfl, h2, r2⟩ := trodAll_cons r1
  obtain ⟨v3, vs3, d3, ds3, p3, q3, hargs3, rfl, rfl, h3, r3⟩ := trodAll_cons r2
  obtain ⟨hvs, rfl, rfl⟩ := trodAll_nil r3
  subst hvs
  obtain rfl : args = #[v0, v1, v2, v3] := by cases args; simp_all
  obtain ⟨x0a, x0b, g0⟩ := open_CNF (hval 0 _ v0 rfl rfl) h0
  obtain ⟨x1, rfl, _, _, g1⟩ := open_int Tryd.underlying5 (hval 1 _ v1 rfl rfl) h1
  obtain ⟨x2, g2⟩ := open_Bytes (hval 2 _ v2 rfl rfl) h2
  obtain ⟨x3, rfl, _, _, g3⟩ := open_int Tryd.underlying34 (hval 3 _ v3 rfl rfl) h3
  have hT := tables_met hL hsh
  refine (CnfCanonical_card x0a x0b x1 x2 x3 _ _ W g0 g1 g2 g3 hT).mono fun e W' ⟨he, hx⟩ => ?_
  subst he
  exact ⟨_, rfl, law_post (by kernel_rfl) (by rw [Tryd.params4]; exact spec_law) readable hW' hx⟩

theorem laid_met (os : Os) : laidMet Tryd.prog Rows.cnfCanonicalRow.laid ((laidWorld os).forCall (fun _ _ => 0) ⟨#[], #[.agg #[.int .i64 0, .slice none 0 0], .int .u8 0, .slice none 0 0, .int .u16 0], []⟩).memory :=
  laidMet_of_run' 8 (by kernel_rfl) (by kernel_rfl)
theorem reads (os : Os) {H : Type} (enc : TypeId × Value → H) : ∃ places, DataW.whole enc Tryd.prog ((laidWorld os).forCall (fun _ _ => 0) ⟨#[], #[.agg #[.int .i64 0, .slice none 0 0], .int .u8 0, .slice none 0 0, .int .u16 0], []⟩).memory Tryd.f4.params.toList Rows.cnfCanonicalSpec.vars false (#[.agg #[.int .i64 0, .slice none 0 0], .int .u8 0, .slice none 0 0, .int .u16 0] : Array Value).toList 8 = some ([.agg [.lit (.int .i64 0), .nil], .lit (.int .u8 0), .nil, .lit (.int .u16 0)], [], places) :=
  ⟨[], by kernel_rfl⟩

theorem lifted (os : Os) (started : os.Started) (H : Type) (enc : TypeId × Value → H) (F : Stop.Interp) :
    ReturnsInHanded {} Tryd.checked os 4 .any ((OpenSpec.ofChange Rows.cnfCanonicalSpec).preRow enc Tryd.prog Tryd.f4 Rows.cnfCanonicalRow.domain false Rows.cnfCanonicalRow.laid) (((OpenSpec.ofChange Rows.cnfCanonicalSpec).at F).post enc Tryd.prog Tryd.f4 false true false false) := by
  obtain ⟨places, hx⟩ := reads os enc
  refine returnsInHanded_of_row (C := Tryd.checked) (s := OpenSpec.ofChange Rows.cnfCanonicalSpec) ownK started (by kernel_rfl) Tryd.func4
    (witness_row_at (enc := enc) (C := Tryd.checked) false (laidWorld os) #[.agg #[.int .i64 0, .slice none 0 0], .int .u8 0, .slice none 0 0, .int .u16 0] rfl (by kernel_rfl) (by kernel_rfl) (by kernel_rfl)
      (OpenSpec.preRow_of_cond 8 hx (by kernel_rfl) (fun k hk => by cases hk) (by kernel_rfl) (laid_met os))) ?_
  intro W base args ds gs before hval hW _ _ _ hL hsh _
  exact contract H enc W base args ds gs before hval hW hL hsh

theorem said : Rows.CnfCanonicalSaid :=
  OpenClaim.holds_of_cond 4 Tryd.f4 rfl rfl rfl rfl rfl rfl rfl ⟨rfl, rfl, rfl, rfl, rfl⟩ rfl rfl rfl rfl rfl (by kernel_rfl) Tryd.func4 (by kernel_rfl)
    (of_decide_eq_true (by kernel_rfl)) (by unfold Func.isWrapper; first | (rw [if_pos (by decide +kernel)]; kernel_rfl) | (rw [if_neg (by decide +kernel)]; exact ⟨rfl, rfl⟩))
    (fun os started H enc _ F => by rw [OpenClaim.pre_eq_preRow]; exact lifted os started H enc F)

theorem plain (f : FuncId) (fn : Func) (hf : Tryd.pinned.checked.prog.funcNamed "relyguard/relyguardlaw21.CnfCanonical" = some f) (hfn : Tryd.pinned.checked.prog.funcs[f]? = some fn) :
    true = Tryd.pinned.checked.prog.looks [] ∧ ∀ (j : Nat) t, fn.params[j]? = some t → Tryd.pinned.checked.prog.wantsStandIn t = false := by
  obtain rfl : f = 4 := Option.some.inj ((show Tryd.prog.funcNamed "relyguard/relyguardlaw21.CnfCanonical" = some 4 by kernel_rfl).symm.trans hf) |>.symm
  obtain rfl : fn = Tryd.f4 := (Option.some.inj (Tryd.func4.symm.trans hfn)).symm
  refine ⟨by kernel_rfl, fun j t ht => ?_⟩
  rw [Tryd.params4] at ht
  have h : t = 24 ∨ t = 5 ∨ t = 33 ∨ t = 34 := by first | simpa using Array.mem_of_getElem? ht | (have h1 := Array.mem_of_getElem? ht; simp at h1; rcases h1 with h0 | h0 | h0 | h0 <;> simp [h0]) | (have h1 := Array.mem_of_getElem? ht; simp at h1; rcases h1 with h0 | h0 | h0 <;> simp [h0]) | (have h1 := Array.mem_of_getElem? ht; simp at h1; rcases h1 with h0 | h0 <;> simp [h0])
  rcases h with rfl | rfl | rfl | rfl
  · exact (show Tryd.prog.wantsStandIn 24 = false by kernel_rfl)
  · exact (show Tryd.prog.wantsStandIn 5 = false by kernel_rfl)
  · exact (show Tryd.prog.wantsStandIn 33 = false by kernel_rfl)
  · exact (show Tryd.prog.wantsStandIn 34 = false by kernel_rfl)
end Go.Proofs.YtnkhaobokmmnjaaDoor.cnfCanonical
namespace Go.Proofs.YtnkhaobokmmnjaaDoor
open Go.ChangeShapes Go.WideShapes Go.ChangeAt Go.RowKit
/-- The card of CnfCanonical. -/
theorem cnfCanonical_holds : Rows.CnfCanonicalCardSaid :=
  Claim7.holds_tied_plain_at .later [] _ _ _ _ cnfCanonical.said (fun _ h => by cases h) (by kernel_rfl) (fun _ h => by cases h) cnfCanonical_row_tie rfl ⟨rfl, rfl⟩ (by kernel_rfl) rfl cnfCanonical.plain (by kernel_rfl)
end Go.Proofs.YtnkhaobokmmnjaaDoor
