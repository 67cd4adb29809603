/-
  What every card shares: the law's post.
  The tables that the rows of law27 list; the world of the witness.
-/
import Derived.Test.YtoopoljchhdobaaGreatDoorMMq
import Derived.Test.YtoopoljchhdobaaGreatDoorCards
import Derived.Test.YtoopoljchhdobaaGreatDoorTie
import Derived.WalkKit
import Derived.ProofKit
import Derived.OpenShut
import Derived.Deep.DeepHandedRow
import Derived.Lib.LaidTab
import Derived.Stop.LaidErr
import Derived.Shelf.Vars
namespace Go.Proofs.YtoopoljchhdobaaGreatDoor
open Go.ChangeShapes Go.WideShapes Go.ChangeAt Go.RowKit
set_option maxRecDepth 100000

theorem ownK : ownKnob Tryz.prog.godebug = none := by kernel_rfl
theorem laidOutP : laidOutB Tryz.prog = true := by kernel_rfl

/-- A law's answer: true; the arguments read as before. -/
def LawSpec (s : ChangeSpec) (k : Nat) : Prop := s.vars = [] ∧ ∀ (H : Type) (ds : List (DataW H)), ds.length = k → s.fn H ds = { results := [.lit (.bool true)], args := ds }

section
variable {H : Type} {enc : TypeId × Value → H}
theorem trodAll_len {P : Program} {w : World} {base : Nat} {sp : Nat → Bool} {hd : Bool} : ∀ {ts : List TypeId} {vs : List Value} {ds : List (DataW H)} {ps : List MemPlace}, DataW.TrodAll enc P w base sp hd ts vs ds ps → ds.length = ts.length ∧ vs.length = ts.length
  | [], [], [], _, _ => ⟨rfl, rfl⟩
  | _ :: _, _ :: _, _ :: _, _, ⟨_, _, _, h, _⟩ => by
    have := trodAll_len h
    simp [this]
  | [], [], _ :: _, _, h => h.elim
  | [], _ :: _, _, _, h => h.elim
  | _ :: _, [], _, _, h => h.elim
  | _ :: _, _ :: _, [], _, h => h.elim
theorem trodAll_stays {W W' : World} {sp' : Nat → Bool} (hx : Ext W W') : ∀ {ts : List TypeId} {vs : List Value} {ds : List (DataW H)} {ps : List MemPlace},
    (∀ t ∈ ts, Tryz.prog.readableRec t = true ∧ t < Tryz.prog.types.size) → (∀ p ∈ ps, p.block < W.heap.size ∧ sp' p.block = true) →
    DataW.TrodAll enc Tryz.prog W 0 (fun _ => true) true ts vs ds ps → DataW.TrodAll enc Tryz.prog W' 0 sp' true ts vs ds ps
  | [], [], [], _, _, _, h => h
  | t :: _, _ :: _, _ :: _, ps, hr, hp, ⟨p, q, h1, h2, e⟩ => by
    subst e
    exact ⟨p, q, WideElems.Trod_stays laidOutP (hr t (by simp)).1 (hr t (by simp)).2 h1 (fun x hx' => Below.same hx (hp x (by simp [hx'])).1) (fun x hx' => (hp x (by simp [hx'])).2),
      trodAll_stays hx (fun t' ht' => hr t' (by simp [ht'])) (fun x hx' => hp x (by simp [hx'])) h2, rfl⟩
  | [], [], _ :: _, _, _, _, h => h.elim
  | [], _ :: _, _, _, _, _, h => h.elim
  | _ :: _, [], _, _, _, _, h => h.elim
  | _ :: _, _ :: _, [], _, _, _, h => h.elim

theorem law_post {f : Func} {s : ChangeSpec} {W W' : World} {args : Array Value} {ds gs : List (DataW H)} {before : List MemPlace} (hres : f.resultTypes = #[4]) (hs : LawSpec s f.params.size)
    (hr : ∀ t ∈ f.params.toList, Tryz.prog.readableRec t = true ∧ t < Tryz.prog.types.size) (hW : DataW.Whole enc Tryz.prog f.params.toList s.vars false W args.toList ds gs before) (hx : Ext W W') :
    s.post enc Tryz.prog f false true false false W args (.bool true) W' := by
  obtain ⟨p, q, hA, hV, rfl, hz, hn⟩ := hW
  have hV0 := hV
  rw [hs.1] at hV0
  obtain ⟨rfl, rfl⟩ := trodVars_none hV0
  have hlt : ∀ x ∈ p ++ [], x.block < W.heap.size := DataW.Whole.lt (ts := f.params.toList) (vars := s.vars) (apart := false) (vs := args.toList) (ds := ds) (gs := []) (enc := enc) (P := Tryz.prog) ⟨p, [], hA, hV, rfl, hz, hn⟩
  have hfn := hs.2 H ds (by rw [(trodAll_len hA).1]; simp)
  refine ⟨ds, [], p ++ [], [], p, [], ⟨p, [], hA, hV, rfl, hz, hn⟩, ?_, ?_, ?_, World.keptBut_mono (fun x hx => ⟨hx, .inr (by simpa using hx)⟩) (Below.frame hx (· ∈ p ++ [])), fun h => by cases h⟩
  · rw [List.append_nil, hfn, hres]; exact trodAll_cons_mk (shut_bool Tryz.underlying4 _) trodAll_mk0
  · rw [List.append_nil, hfn]; exact trodAll_stays hx hr (fun x hx' => ⟨hlt x (by simpa using hx'), by simpa using hlt x (by simpa using hx')⟩) hA
  · rw [List.append_nil, hfn, hs.1]; rfl
end

/-- An array of strings that reads as a list of strings holds them. -/
theorem cells_of_strs {H : Type} {enc : TypeId × Value → H} {P : Program} {w : World} {base : Nat} {sp : Nat → Bool} {held : Bool} {fuel : Nat} {t e : TypeId} {n : Nat} {cs : List Value} {zs : List (List UInt8)} {p : List MemPlace}
    (ht : P.underlying t = some (.array n e)) (he : P.underlying e = some .string) (hce : P.cellsOf e = 1) (hct : P.cellsOf t = n)
    (h : DataW.trod enc P w base sp held fuel t cs = some (.agg (zs.map fun z => .lit (.string z)), p)) : cs = zs.map fun z => Value.string ⟨z.toArray⟩ := by
  cases fuel with
  | zero => simp [DataW.trod] at h
  | succ fuel =>
    simp only [DataW.trod, ht, hce, hct, Nat.mul_one] at h
    split at h
    · rename_i hl
      obtain ⟨xs, hm, hx⟩ := Option.map_eq_some_iff.1 h
      have hxs : xs.map (·.1) = zs.map fun z => (DataW.lit (.string z) : DataW H) := by
        have := congrArg Prod.fst hx
        simpa using this
      have hxl : xs.length = n := by simpa using Lib.mapM_length hm
      have hzl : zs.length = n := by
        have := congrArg List.length hxs
        simp at this
        omega
      apply List.ext_getElem?
      intro i
      by_cases hi : i < n
      · obtain ⟨b, hb, hf⟩ := Lib.mapM_at hm i i (by simp [hi])
        obtain ⟨z, hc, rfl, _⟩ := DataW.trod_string he hf
        have h1 : cs[i]? = some (.string z) := by
          have := congrArg (·[0]?) hc
          simpa [List.getElem?_take, List.getElem?_drop] using this
        have h2 : (xs.map (·.1))[i]? = some (DataW.lit (.string z.data.toList) : DataW H) := by simp [hb]
        rw [hxs] at h2
        simp only [List.getElem?_map, Option.map_eq_some_iff, DataW.lit.injEq, Lit.string.injEq] at h2
        obtain ⟨z', hz', rfl⟩ := h2
        simp [h1, hz']
      · rw [List.getElem?_eq_none (by omega), List.getElem?_eq_none (by simp; omega)]
    · cases h

/-- A variable's block holds these cells. -/
noncomputable def setRow (g : Nat) (cs : Array Value) (w : World) : World :=
  { w with heap := w.heap.modify g fun
      | .cells _ t frozen => .cells cs t frozen
      | o => o }
def zeroV : Value := .agg #[.int .i64 0, .int .i64 0, .int .i64 0, .slice none 0 0]
end Go.Proofs.YtoopoljchhdobaaGreatDoor
namespace Go.Proofs.YtoopoljchhdobaaGreatDoor
open Go.ChangeShapes Go.WideShapes Go.ChangeAt Go.RowKit
set_option maxRecDepth 100000

/-- The tables that every row of this seat lists. -/
def tables : List (String × DataW Unit) := [("math/bits.deBruijn32tab", Rows.laid_math_bits_deBruijn32tab), ("math/bits.deBruijn64tab", Rows.laid_math_bits_deBruijn64tab), ("internal/strconv.uint64pow10", Rows.laid_internal_strconv_uint64pow10), ("strconv.ErrRange", Rows.laid_strconv_ErrRange), ("strconv.ErrSyntax", Rows.laid_strconv_ErrSyntax), ("relyguard/expr.masks", Rows.laid_relyguard_expr_masks), ("relyguard/expr.names", Rows.laid_relyguard_expr_names), ("relyguard/certificate.words", Rows.laid_relyguard_certificate_words)]

theorem gPow : Tryz.prog.globalNamed "internal/strconv.uint64pow10" = some 4 := by kernel_rfl
theorem gSyn : Tryz.prog.globalNamed "strconv.ErrSyntax" = some 5 := by kernel_rfl
theorem gRan : Tryz.prog.globalNamed "strconv.ErrRange" = some 6 := by kernel_rfl
theorem gMasks : Tryz.prog.globalNamed "relyguard/expr.masks" = some 2 := by kernel_rfl
theorem gNames : Tryz.prog.globalNamed "relyguard/expr.names" = some 0 := by kernel_rfl
theorem gWords : Tryz.prog.globalNamed "relyguard/certificate.words" = some 1 := by kernel_rfl
theorem gDe : Tryz.prog.globalNamed "math/bits.deBruijn64tab" = some 8 := by kernel_rfl
theorem masks_data {H : Type} : (Rows.laid_relyguard_expr_masks : DataW H) = Lib.tabData .i64 [0, 1, 3, 7, 15, 31, 63, 127, 255] := rfl
theorem pow_data {H : Type} : (Rows.laid_internal_strconv_uint64pow10 : DataW H) = Lib.tabData .u64 Lib.pow10Tab := rfl
theorem de_data {H : Type} : (Rows.laid_math_bits_deBruijn64tab : DataW H) = Lib.tabData .u8 (Lib.deBruijn64tab.map fun (n : Nat) => (n : Int)) := rfl
theorem names_data {H : Type} : (Rows.laid_relyguard_expr_names : DataW H) = .agg (namesL.map fun z => .lit (.string z)) := rfl
def wordsL : List (List UInt8) := [wordC 0, wordC 1, wordC 2]
theorem words_data {H : Type} : (Rows.laid_relyguard_certificate_words : DataW H) = .agg (wordsL.map fun z => .lit (.string z)) := rfl
theorem star : "*" ++ "errors.errorString" = "*errors.errorString" := by decide
theorem tpErr (u : TypeId) (h : Tryz.prog.typeName? 3 u = some "*errors.errorString") : u = 148 :=
  typeName_ptr_named (nm := "errors.errorString") (by rw [star]; kernel_rfl) (by kernel_rfl) (by decide) u (by rw [star]; exact h)


theorem tables_met {W : World} (h : laidMetH Tryz.prog tables W) (hsh : W.ShapedOpen Tryz.prog) : LTab W := by
  have h' : laidMet Tryz.prog tables W := h
  have k1 := h'.tail
  have k2 := k1.tail
  have k3 := k2.tail
  have k4 := k3.tail
  have k5 := k4.tail
  have k6 := k5.tail
  have k7 := k6.tail
  obtain ⟨a1, s1, hw1, _⟩ := laid_sentinel k3 gRan (by kernel_rfl) Tryz.underlying69 tpErr Tryz.underlying148 Tryz.underlying150 rfl rfl Tryz.underlying9 (by kernel_rfl) (by kernel_rfl)
  obtain ⟨a2, s2, hw2, _⟩ := laid_sentinel k4 gSyn (by kernel_rfl) Tryz.underlying69 tpErr Tryz.underlying148 Tryz.underlying150 rfl rfl Tryz.underlying9 (by kernel_rfl) (by kernel_rfl)
  obtain ⟨_, ⟨g1, t1, c1, f1, p1, q1, hg1, ht1, hv1, hd1, _, _⟩, _⟩ := k1
  obtain ⟨_, ⟨g2, t2, c2, f2, p2, q2, hg2, ht2, hv2, hd2, _, _⟩, _⟩ := k2
  obtain ⟨_, ⟨g3, t3, c3, f3, p3, q3, hg3, ht3, hv3, hd3, _, _⟩, _⟩ := k5
  obtain ⟨_, ⟨g4, t4, c4, f4, p4, q4, hg4, ht4, hv4, hd4, _, _⟩, _⟩ := k6
  obtain ⟨_, ⟨g5, t5, c5, f5, p5, q5, hg5, ht5, hv5, hd5, _, _⟩, _⟩ := k7
  obtain rfl := Option.some.inj (gDe.symm.trans hg1)
  obtain rfl := Option.some.inj (gPow.symm.trans hg2)
  obtain rfl := Option.some.inj (gMasks.symm.trans hg3)
  obtain rfl := Option.some.inj (gNames.symm.trans hg4)
  obtain rfl := Option.some.inj (gWords.symm.trans hg5)
  obtain rfl := Option.some.inj ((show (Tryz.prog.globals[4]?).map (·.type) = some 136 by kernel_rfl).symm.trans ht2)
  obtain rfl := Option.some.inj ((show (Tryz.prog.globals[2]?).map (·.type) = some 112 by kernel_rfl).symm.trans ht3)
  obtain rfl := Option.some.inj ((show (Tryz.prog.globals[0]?).map (·.type) = some 73 by kernel_rfl).symm.trans ht4)
  obtain rfl := Option.some.inj ((show (Tryz.prog.globals[1]?).map (·.type) = some 82 by kernel_rfl).symm.trans ht5)
  obtain rfl := Option.some.inj ((show (Tryz.prog.globals[8]?).map (·.type) = some 153 by kernel_rfl).symm.trans ht1)
  rw [de_data] at hd1; rw [pow_data] at hd2; rw [masks_data] at hd3; rw [names_data] at hd4; rw [words_data] at hd5
  have e1 := Lib.cells_of_tab Tryz.underlying153 Tryz.underlying5 (by kernel_rfl) (by kernel_rfl) hd1
  have e2 := Lib.cells_of_tab Tryz.underlying136 Tryz.underlying74 (by kernel_rfl) (by kernel_rfl) hd2
  have e3 := Lib.cells_of_tab Tryz.underlying112 Tryz.underlying3 (by kernel_rfl) (by kernel_rfl) hd3
  have e4 := cells_of_strs Tryz.underlying73 Tryz.underlying9 (by kernel_rfl) (by kernel_rfl) hd4
  have e5 := cells_of_strs Tryz.underlying82 Tryz.underlying9 (by kernel_rfl) (by kernel_rfl) hd5
  have hP : Pow10 W := by
    unfold Pow10 Lib.TabIs
    rw [hv2]
    obtain ⟨l⟩ := c2
    rw [show l = _ from e2]
  refine ⟨⟨fun k h0 h8 => ?_, ?_, hP, fun j hj => ?_⟩, fun v hv => ?_, ⟨hP, ?_, ⟨_, _, by rw [World.var?_cell gSyn hw2]; rfl⟩, ⟨_, _, by rw [World.var?_cell gRan hw1]; rfl⟩⟩⟩
  · rw [World.var?_cell gMasks hv3]
    obtain ⟨l⟩ := c3
    rw [show l = _ from e3]
    obtain ⟨j, rfl⟩ := Int.eq_ofNat_of_zero_le h0
    have : j = 0 ∨ j = 1 ∨ j = 2 ∨ j = 3 ∨ j = 4 ∨ j = 5 ∨ j = 6 ∨ j = 7 ∨ j = 8 := by omega
    rcases this with rfl | rfl | rfl | rfl | rfl | rfl | rfl | rfl | rfl <;> rfl
  · simp only [World.var?, gNames, Option.bind_some] at hv4
    split at hv4
    · rename_i cs t fr hb
      obtain rfl := Option.some.inj hv4
      obtain ⟨l⟩ := cs
      rw [show l = _ from e4] at hb
      exact ⟨t, fr, hb⟩
    · cases hv4
  · rw [World.var?_cell gDe hv1]
    obtain ⟨l⟩ := c1
    rw [show l = _ from e1]
    simp [hj]
  · rw [World.var?_cell gWords hv5]
    obtain ⟨l⟩ := c5
    rw [show l = _ from e5]
    rcases hv with rfl | rfl | rfl <;> rfl
  · exact Go.Proofs.cell_of_shapedOpen_int (zero := #[.int .i64 0]) (t := 3) hsh (of_decide_eq_true (by kernel_rfl)) (by kernel_rfl) rfl (by kernel_rfl) (by kernel_rfl) Tryz.underlying3

def synS : ByteArray := { data := #[105, 110, 118, 97, 108, 105, 100, 32, 115, 121, 110, 116, 97, 120] }
def rngS : ByteArray := { data := #[118, 97, 108, 117, 101, 32, 111, 117, 116, 32, 111, 102, 32, 114, 97, 110, 103, 101] }
/-- So many blocks has the settled world. -/
noncomputable def low : Nat := (World.holding Tryz.prog default ⟨#[], #[], []⟩).heap.size
noncomputable def laidWorld (os : Os) : World :=
  setRow 1 (wordsL.map fun l => Value.string ⟨l.toArray⟩).toArray (setRow 0 namesA (setRow 2 (([0, 1, 3, 7, 15, 31, 63, 127, 255] : List Int).map fun z => Value.int .i64 z).toArray
  (setRow 5 #[.iface 148 (.pointer (some ⟨low, 0, none⟩))] (setRow 6 #[.iface 148 (.pointer (some ⟨low + 1, 0, none⟩))]
    (setRow 4 (Lib.pow10Tab.map fun z => Value.int .u64 z).toArray
      (setRow 7 (([0, 1, 28, 2, 29, 14, 24, 3, 30, 22, 20, 15, 25, 17, 4, 8, 31, 27, 13, 23, 21, 19, 16, 7, 26, 12, 18, 6, 11, 5, 10, 9] : List Int).map fun z => Value.int .u8 z).toArray
        (setRow 8 (([0, 1, 56, 2, 57, 49, 28, 3, 61, 58, 42, 50, 38, 29, 17, 4, 62, 47, 59, 36, 45, 43, 51, 22, 53, 39, 33, 30, 24, 18, 12, 5, 63, 55, 48, 27, 60, 41, 37, 16, 46, 35, 44, 21, 52, 32, 23, 11, 54, 26, 40, 15, 34, 20, 31, 10, 25, 14, 19, 9, 13, 8, 7, 6] : List Int).map fun z => Value.int .u8 z).toArray
          (World.holding Tryz.prog os ⟨#[.cells #[.string synS] 150, .cells #[.string rngS] 150], #[], []⟩))))))))
end Go.Proofs.YtoopoljchhdobaaGreatDoor
