/-
  What every card shares: the law's post.
  The tables that the rows of law15 list; the world of the witness.
-/
import Derived.Test.YtlnahhlddekhoaaGreatDoorG36
import Derived.Test.YtlnahhlddekhoaaGreatDoorCards
import Derived.Test.YtlnahhlddekhoaaGreatDoorTie
import Derived.WalkKit
import Derived.ProofKit
import Derived.OpenShut
import Derived.Deep.DeepHandedRow
import Derived.Lib.LaidTab
import Derived.Test.YtlnahhlddekhoaaGreatDoorG09
namespace Go.Proofs.YtlnahhlddekhoaaGreatDoor
open Go.ChangeShapes Go.WideShapes Go.ChangeAt Go.RowKit
set_option maxRecDepth 100000

theorem ownK : ownKnob Tryz.prog.godebug = none := by kernel_rfl
theorem laidOutP : laidOutB Tryz.prog = true := by kernel_rfl

/-- A law's answer: true; the arguments read as before. -/
def LawSpec (s : ChangeSpec) (k : Nat) : Prop := s.vars = [] ∧ ∀ (H : Type) (ds : List (DataW H)), ds.length = k → s.fn H ds = { results := [.lit (.bool true)], args := ds }

section
variable {H : Type} {enc : TypeId × Value → H}
theorem trodAll_len {P : Program} {w : World} {base : Nat} {sp : Nat → Bool} {hd : Bool} : ∀ {ts : List TypeId} {vs : List Value} {ds : List (DataW H)} {ps : List MemPlace}, DataW.TrodAll enc P w base sp hd ts vs ds ps → ds.length = ts.length ∧ vs.length = ts.length
  | [], [], [], _, _ => ⟨rfl, rfl⟩
  | _ :: _, _ :: _, _ :: _, _, ⟨_, _, _, h, _⟩ => by
    have := trodAll_len h
    simp [this]
  | [], [], _ :: _, _, h => h.elim
  | [], _ :: _, _, _, h => h.elim
  | _ :: _, [], _, _, h => h.elim
  | _ :: _, _ :: _, [], _, h => h.elim
theorem trodAll_stays {W W' : World} {sp' : Nat → Bool} (hx : Ext W W') : ∀ {ts : List TypeId} {vs : List Value} {ds : List (DataW H)} {ps : List MemPlace},
    (∀ t ∈ ts, Tryz.prog.readableRec t = true ∧ t < Tryz.prog.types.size) → (∀ p ∈ ps, p.block < W.heap.size ∧ sp' p.block = true) →
    DataW.TrodAll enc Tryz.prog W 0 (fun _ => true) true ts vs ds ps → DataW.TrodAll enc Tryz.prog W' 0 sp' true ts vs ds ps
  | [], [], [], _, _, _, h => h
  | t :: _, _ :: _, _ :: _, ps, hr, hp, ⟨p, q, h1, h2, e⟩ => by
    subst e
    exact ⟨p, q, WideElems.Trod_stays laidOutP (hr t (by simp)).1 (hr t (by simp)).2 h1 (fun x hx' => Below.same hx (hp x (by simp [hx'])).1) (fun x hx' => (hp x (by simp [hx'])).2),
      trodAll_stays hx (fun t' ht' => hr t' (by simp [ht'])) (fun x hx' => hp x (by simp [hx'])) h2, rfl⟩
  | [], [], _ :: _, _, _, _, h => h.elim
  | [], _ :: _, _, _, _, _, h => h.elim
  | _ :: _, [], _, _, _, _, h => h.elim
  | _ :: _, _ :: _, [], _, _, _, h => h.elim

theorem law_post {f : Func} {s : ChangeSpec} {W W' : World} {args : Array Value} {ds gs : List (DataW H)} {before : List MemPlace} (hres : f.resultTypes = #[4]) (hs : LawSpec s f.params.size)
    (hr : ∀ t ∈ f.params.toList, Tryz.prog.readableRec t = true ∧ t < Tryz.prog.types.size) (hW : DataW.Whole enc Tryz.prog f.params.toList s.vars false W args.toList ds gs before) (hx : Ext W W') :
    s.post enc Tryz.prog f false true false false W args (.bool true) W' := by
  obtain ⟨p, q, hA, hV, rfl, hz, hn⟩ := hW
  have hV0 := hV
  rw [hs.1] at hV0
  obtain ⟨rfl, rfl⟩ := trodVars_none hV0
  have hlt : ∀ x ∈ p ++ [], x.block < W.heap.size := DataW.Whole.lt (ts := f.params.toList) (vars := s.vars) (apart := false) (vs := args.toList) (ds := ds) (gs := []) (enc := enc) (P := Tryz.prog) ⟨p, [], hA, hV, rfl, hz, hn⟩
  have hfn := hs.2 H ds (by rw [(trodAll_len hA).1]; simp)
  refine ⟨ds, [], p ++ [], [], p, [], ⟨p, [], hA, hV, rfl, hz, hn⟩, ?_, ?_, ?_, World.keptBut_mono (fun x hx => ⟨hx, .inr (by simpa using hx)⟩) (Below.frame hx (· ∈ p ++ [])), fun h => by cases h⟩
  · rw [List.append_nil, hfn, hres]; exact trodAll_cons_mk (shut_bool Tryz.underlying4 _) trodAll_mk0
  · rw [List.append_nil, hfn]; exact trodAll_stays hx hr (fun x hx' => ⟨hlt x (by simpa using hx'), by simpa using hlt x (by simpa using hx')⟩) hA
  · rw [List.append_nil, hfn, hs.1]; rfl
end

/-- An array of strings that reads as a list of strings holds them. -/
theorem cells_of_strs {H : Type} {enc : TypeId × Value → H} {P : Program} {w : World} {base : Nat} {sp : Nat → Bool} {held : Bool} {fuel : Nat} {t e : TypeId} {n : Nat} {cs : List Value} {zs : List (List UInt8)} {p : List MemPlace}
    (ht : P.underlying t = some (.array n e)) (he : P.underlying e = some .string) (hce : P.cellsOf e = 1) (hct : P.cellsOf t = n)
    (h : DataW.trod enc P w base sp held fuel t cs = some (.agg (zs.map fun z => .lit (.string z)), p)) : cs = zs.map fun z => Value.string ⟨z.toArray⟩ := by
  cases fuel with
  | zero => simp [DataW.trod] at h
  | succ fuel =>
    simp only [DataW.trod, ht, hce, hct, Nat.mul_one] at h
    split at h
    · rename_i hl
      obtain ⟨xs, hm, hx⟩ := Option.map_eq_some_iff.1 h
      have hxs : xs.map (·.1) = zs.map fun z => (DataW.lit (.string z) : DataW H) := by
        have := congrArg Prod.fst hx
        simpa using this
      have hxl : xs.length = n := by simpa using Lib.mapM_length hm
      have hzl : zs.length = n := by
        have := congrArg List.length hxs
        simp at this
        omega
      apply List.ext_getElem?
      intro i
      by_cases hi : i < n
      · obtain ⟨b, hb, hf⟩ := Lib.mapM_at hm i i (by simp [hi])
        obtain ⟨z, hc, rfl, _⟩ := DataW.trod_string he hf
        have h1 : cs[i]? = some (.string z) := by
          have := congrArg (·[0]?) hc
          simpa [List.getElem?_take, List.getElem?_drop] using this
        have h2 : (xs.map (·.1))[i]? = some (DataW.lit (.string z.data.toList) : DataW H) := by simp [hb]
        rw [hxs] at h2
        simp only [List.getElem?_map, Option.map_eq_some_iff, DataW.lit.injEq, Lit.string.injEq] at h2
        obtain ⟨z', hz', rfl⟩ := h2
        simp [h1, hz']
      · rw [List.getElem?_eq_none (by omega), List.getElem?_eq_none (by simp; omega)]
    · cases h

/-- A variable's block holds these cells. -/
noncomputable def setRow (g : Nat) (cs : Array Value) (w : World) : World :=
  { w with heap := w.heap.modify g fun
      | .cells _ t frozen => .cells cs t frozen
      | o => o }
def zeroV : Value := .agg #[.int .i64 0, .int .i64 0, .int .i64 0, .slice none 0 0]
end Go.Proofs.YtlnahhlddekhoaaGreatDoor
namespace Go.Proofs.YtlnahhlddekhoaaGreatDoor
open Go.ChangeShapes Go.WideShapes Go.ChangeAt Go.RowKit
set_option maxRecDepth 100000

/-- The tables that every row of this seat lists. -/
def tables : List (String × DataW Unit) := [("math/bits.deBruijn64tab", Rows.laid_math_bits_deBruijn64tab), ("relyguard/expr.masks", Rows.laid_relyguard_expr_masks)]
theorem gDe : Tryz.prog.globalNamed "math/bits.deBruijn64tab" = some 1 := by kernel_rfl
theorem gMasks : Tryz.prog.globalNamed "relyguard/expr.masks" = some 0 := by kernel_rfl
theorem masks_data {H : Type} : (Rows.laid_relyguard_expr_masks : DataW H) = Lib.tabData .i64 [0, 1, 3, 7, 15, 31, 63, 127, 255] := rfl
theorem de_data {H : Type} : (Rows.laid_math_bits_deBruijn64tab : DataW H) = Lib.tabData .u8 (Lib.deBruijn64tab.map fun (n : Nat) => (n : Int)) := rfl

theorem tables_met {W : World} (h : laidMetH Tryz.prog tables W) : Masks W ∧ DeB W := by
  have h' : laidMet Tryz.prog tables W := h
  obtain ⟨ps, ⟨g2, t2, c2, f2, p2, q2, hg2, ht2, hv2, hd2, ⟨g3, t3, c3, f3, p3, q3, hg3, ht3, hv3, hd3, _, _⟩, _⟩, _⟩ := h'
  obtain rfl := Option.some.inj (gDe.symm.trans hg2)
  obtain rfl := Option.some.inj (gMasks.symm.trans hg3)
  obtain rfl := Option.some.inj ((show (Tryz.prog.globals[1]?).map (·.type) = some 128 by kernel_rfl).symm.trans ht2)
  obtain rfl := Option.some.inj ((show (Tryz.prog.globals[0]?).map (·.type) = some 117 by kernel_rfl).symm.trans ht3)
  rw [de_data] at hd2; rw [masks_data] at hd3
  have e2 := Lib.cells_of_tab Tryz.underlying128 Tryz.underlying5 (by kernel_rfl) (by kernel_rfl) hd2
  have e3 := Lib.cells_of_tab Tryz.underlying117 Tryz.underlying3 (by kernel_rfl) (by kernel_rfl) hd3
  refine ⟨fun k h0 h8 => ?_, fun j hj => ?_⟩
  · rw [World.var?_cell gMasks hv3]
    obtain ⟨l⟩ := c3
    rw [show l = _ from e3]
    obtain ⟨j, rfl⟩ := Int.eq_ofNat_of_zero_le h0
    have : j = 0 ∨ j = 1 ∨ j = 2 ∨ j = 3 ∨ j = 4 ∨ j = 5 ∨ j = 6 ∨ j = 7 ∨ j = 8 := by omega
    rcases this with rfl | rfl | rfl | rfl | rfl | rfl | rfl | rfl | rfl <;> rfl
  · rw [World.var?_cell gDe hv2]
    obtain ⟨l⟩ := c2
    rw [show l = _ from e2]
    simp [hj]

noncomputable def laidWorld (os : Os) : World :=
  setRow 0 (([0, 1, 3, 7, 15, 31, 63, 127, 255] : List Int).map fun z => Value.int .i64 z).toArray (setRow 1 ((Lib.deBruijn64tab.map fun (n : Nat) => (n : Int)).map fun z => Value.int .u8 z).toArray
    (World.holding Tryz.prog os ⟨#[], #[], []⟩))
end Go.Proofs.YtlnahhlddekhoaaGreatDoor
