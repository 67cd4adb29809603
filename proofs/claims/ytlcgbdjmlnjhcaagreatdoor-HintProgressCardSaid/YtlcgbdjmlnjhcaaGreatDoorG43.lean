/-
  The arguments of a law, opened: what reads as an expression is one, and so on. Behind the call they read as before.
  What every card of this seat shares: the listed tables, the law's post, the world of the witness.
  A condition among the arguments, opened.
-/
import Derived.Test.YtlcgbdjmlnjhcaaGreatDoorG04
import Derived.Test.YtlcgbdjmlnjhcaaGreatDoorRows
import Derived.Lib.SmallJoins
import Derived.Deep.Slices
import Derived.Carry
import Derived.ChangeSame
import Derived.Test.YtlcgbdjmlnjhcaaGreatDoorG17
import Derived.Test.YtlcgbdjmlnjhcaaGreatDoorCards
import Derived.Test.YtlcgbdjmlnjhcaaGreatDoorTie
import Derived.WalkKit
import Derived.ProofKit
import Derived.OpenShut
import Derived.Deep.DeepHandedRow
import Derived.Lib.LaidTab
import Derived.Test.YtlcgbdjmlnjhcaaGreatDoorG23
namespace Go.Proofs.YtlcgbdjmlnjhcaaGreatDoor
open Go.RowKit Go.WideShapes Go.ChangeShapes
set_option maxRecDepth 100000

section
variable {H : Type} {enc : TypeId × Value → H} {w : World} {base : Nat} {spare : Nat → Bool} {held : Bool}

theorem cellsInt : Tryz.prog.cellsOf 3 = 1 := by kernel_rfl
theorem cellsExpr : Tryz.prog.cellsOf 25 = 4 := by kernel_rfl
theorem cellsKids : Tryz.prog.cellsOf 23 = 1 := by kernel_rfl

/-- An address that reads has no spot. -/
theorem spot_none {a : Addr} {n : Nat} {cs : List Value} (h : w.cells? base a n = some cs) (hn : 0 < n) : a.spot = none := by
  obtain ⟨_, hl, hc⟩ := World.cells?_some h
  have h0 := hc 0 hn
  rw [show a.add 0 = a from rfl] at h0
  cases hs : a.spot with
  | none => rfl
  | some k =>
    have : cs[0]? ≠ none := by rw [List.getElem?_eq_getElem (by omega)]; simp
    rw [← h0] at this
    exfalso; apply this
    unfold World.cell?
    split <;> simp [hs]
theorem add_at (b o k : Nat) : (Addr.mk b o none).add k = ⟨b, o + k, none⟩ := by
  unfold Addr.add; split
  · next h => subst h; rfl
  · rfl

/-- A slice that reads, its elements of sz cells. -/
theorem slice_at {α : Type} [Inhabited α] {t e : TypeId} {sz fuel : Nat} {cs : List Value} {x : DataW H × List MemPlace} {Q : World → Nat → Nat → α → Prop} (ht : Tryz.prog.underlying t = some (.slice e)) (hz : Tryz.prog.cellsOf e = sz) (hz0 : 0 < sz)
    (hQ : ∀ (n : Nat), n < fuel → ∀ (cs' : List Value) (y : DataW H × List MemPlace) (b o : Nat), DataW.trod enc Tryz.prog w base spare held n e cs' = some y → cs'.length = sz → (∀ i, i < sz → w.cell? ⟨b, o + i, none⟩ = cs'[i]?) → ∃ a, Q w b o a)
    (h : DataW.trod enc Tryz.prog w base spare held fuel t cs = some x) : ∃ (v : Value) (l : List α), cs = [v] ∧ SliceAt sz Q w v l := by
  rcases DataW.trod_slice ht h with ⟨rfl, _⟩ | ⟨a, len, cap, elems, rest, n, rfl, rfl, rfl, hb, hl, hm, hlen, hel, _, _⟩
  · exact ⟨_, [], rfl, .inl ⟨⟨_, _, rfl⟩, rfl⟩⟩
  · rw [hz] at hel
    rcases Nat.eq_zero_or_pos len with h0 | h0
    · subst h0; exact ⟨_, [], rfl, .inl ⟨⟨_, _, rfl⟩, rfl⟩⟩
    have one : ∀ i, i < len → ∃ cs', w.cells? base (a.add (i * sz)) sz = some cs' ∧ ∃ y, DataW.trod enc Tryz.prog w base spare held n e cs' = some y := fun i hi => by
      have := hel i hi
      rw [List.getElem?_eq_getElem (by omega)] at this
      obtain ⟨cs', h1, h2⟩ := Option.bind_eq_some_iff.1 this
      exact ⟨cs', h1, _, h2⟩
    obtain ⟨cs0, h00, _⟩ := one 0 h0
    rw [Nat.zero_mul] at h00
    have hs := spot_none h00 hz0
    obtain ⟨b, o, sp⟩ := a
    have hs : sp = none := hs
    subst hs
    have key : ∀ i, i < len → ∃ q, Q w b (o + i * sz) q := fun i hi => by
      obtain ⟨cs', h1, y, h2⟩ := one i hi
      obtain ⟨_, hcl, hc⟩ := World.cells?_some h1
      refine hQ n (by omega) cs' y b (o + i * sz) h2 hcl fun j hj => ?_
      rw [← hc j hj, Deep.add_add, add_at, Nat.add_assoc]
    obtain ⟨f, hf⟩ := Deep.choose_lt key
    refine ⟨_, (List.range len).map f, rfl, .inr ⟨b, o, cap, by simp, ?_, fun i hi => ?_⟩⟩
    · have : maxLen ≤ 9223372036854775807 := by decide
      simp; omega
    · simp at hi; simpa using hf i hi

instance : Inhabited E := ⟨.mk 0 0 0 []⟩
instance : Inhabited CellD := ⟨⟨⟨#[]⟩, 0, 0, 0, false, 0⟩⟩

theorem len4 {cs : List Value} (h : cs.length = 4) : ∃ a b c d, cs = [a, b, c, d] := by
  match cs, h with
  | [a, b, c, d], _ => exact ⟨a, b, c, d, rfl⟩
theorem len5 {cs : List Value} (h : cs.length = 5) : ∃ a b c d e, cs = [a, b, c, d, e] := by
  match cs, h with
  | [a, b, c, d, e], _ => exact ⟨a, b, c, d, e, rfl⟩
theorem len6 {cs : List Value} (h : cs.length = 6) : ∃ a b c d e f, cs = [a, b, c, d, e, f] := by
  match cs, h with
  | [a, b, c, d, e, f], _ => exact ⟨a, b, c, d, e, f, rfl⟩

/-- The cells of what reads as an expression. -/
theorem open_e : ∀ (fuel : Nat) (cs : List Value) (x : DataW H × List MemPlace), DataW.trod enc Tryz.prog w base spare held fuel 25 cs = some x →
    ∃ (e : E) (kv : Value), cs = [.int .i64 e.op, .int .i64 e.wd, .int .i64 e.n, kv] ∧ Kids w kv e.kids := by
  intro fuel
  induction fuel using Nat.strongRecOn with
  | ind fuel ih =>
    intro cs x h
    obtain ⟨xs, n, rfl, rfl, hl, hlen, hf⟩ := DataW.trod_struct Tryz.underlying25 h
    rw [cellsExpr] at hl
    obtain ⟨v0, v1, v2, v3, rfl⟩ := len4 hl
    have h0 : DataW.trod enc Tryz.prog w base spare held n 3 (List.take (Tryz.prog.cellsOf 3) (List.drop 0 [v0, v1, v2, v3])) = xs[0]? := hf 0 _ rfl
    have h1 : DataW.trod enc Tryz.prog w base spare held n 3 (List.take (Tryz.prog.cellsOf 3) (List.drop 1 [v0, v1, v2, v3])) = xs[1]? := hf 1 _ rfl
    have h2 : DataW.trod enc Tryz.prog w base spare held n 3 (List.take (Tryz.prog.cellsOf 3) (List.drop 2 [v0, v1, v2, v3])) = xs[2]? := hf 2 _ rfl
    have h3 : DataW.trod enc Tryz.prog w base spare held n 23 (List.take (Tryz.prog.cellsOf 23) (List.drop 3 [v0, v1, v2, v3])) = xs[3]? := hf 3 _ rfl
    simp only [cellsInt, cellsKids, List.drop, List.take] at h0 h1 h2 h3
    match xs, (show xs.length = 4 from hlen) with
    | [y0, y1, y2, y3], _ =>
    simp only [List.getElem?_cons_zero, List.getElem?_cons_succ] at h0 h1 h2 h3
    obtain ⟨op, e0, _, _⟩ := DataW.trod_int Tryz.underlying3 h0
    obtain ⟨wd, e1, _, _⟩ := DataW.trod_int Tryz.underlying3 h1
    obtain ⟨nn, e2, _, _⟩ := DataW.trod_int Tryz.underlying3 h2
    obtain ⟨kv, ks, e3, hk⟩ := slice_at (Q := IsE) Tryz.underlying23 cellsExpr (by omega) (fun m hm cs' y b o ht hcl hc => by
      obtain ⟨e, kv, rfl, hk⟩ := ih m (by omega) cs' y ht
      exact ⟨e, IsE.of_cells (hc 0 (by omega)) (hc 1 (by omega)) (hc 2 (by omega)) (hc 3 (by omega)) hk⟩) h3
    simp only [List.cons.injEq, and_true] at e0 e1 e2 e3
    subst e0 e1 e2 e3
    exact ⟨.mk op wd nn ks, _, rfl, hk⟩

theorem open_E {r : Reach} {b0 : Nat} {v : Value} {d : DataW H} {p : List MemPlace} (hv : Value.okWide Tryz.prog w r b0 25 v) (h : DataW.Trod enc Tryz.prog w base spare held 25 v d p) : ∃ e, EVal w v e := by
  obtain ⟨cs, rfl, _⟩ := okWide_struct Tryz.underlying25 hv
  obtain ⟨fuel, hf⟩ := h
  obtain ⟨e, kv, hc, hk⟩ := open_e fuel _ _ hf
  refine ⟨e, kv, ?_, hk⟩
  obtain ⟨l⟩ := cs
  simp only [Value.cells] at hc
  rw [show l = _ from hc]

/-- A value of a type of one cell. -/
theorem one_cell {v u : Value} {r : Reach} {b0 : Nat} {t : TypeId} {e : TypeId} (ht : Tryz.prog.underlying t = some (.slice e)) (hv : Value.okWide Tryz.prog w r b0 t v) (h : v.cells.toList = [u]) : v = u := by
  simp only [Value.okWide, ht, Cell.okWide, Cell.ok] at hv
  split at hv
  all_goals first | (simp [Value.cells] at h; exact h) | exact hv.elim | skip
theorem open_Ints {r : Reach} {b0 : Nat} {v : Value} {d : DataW H} {p : List MemPlace} (hv : Value.okWide Tryz.prog w r b0 35 v) (h : DataW.Trod enc Tryz.prog w base spare held 35 v d p) : ∃ l, Ints w v l := by
  obtain ⟨fuel, hf⟩ := h
  obtain ⟨u, l, hc, hl⟩ := slice_at (Q := IntAt) Tryz.underlying35 cellsInt (by omega) (fun m hm cs' y b o ht hcl hc => by
    obtain ⟨z, rfl, _, _⟩ := DataW.trod_int Tryz.underlying3 ht
    exact ⟨z, hc 0 (by omega)⟩) hf
  rw [one_cell Tryz.underlying35 hv hc]; exact ⟨l, hl⟩
theorem open_Kids {r : Reach} {b0 : Nat} {v : Value} {d : DataW H} {p : List MemPlace} (hv : Value.okWide Tryz.prog w r b0 23 v) (h : DataW.Trod enc Tryz.prog w base spare held 23 v d p) : ∃ l, Kids w v l := by
  obtain ⟨fuel, hf⟩ := h
  obtain ⟨u, l, hc, hl⟩ := slice_at (Q := IsE) Tryz.underlying23 cellsExpr (by omega) (fun m hm cs' y b o ht hcl hc => by
    obtain ⟨e, kv, rfl, hk⟩ := open_e m cs' y ht
    exact ⟨e, IsE.of_cells (hc 0 (by omega)) (hc 1 (by omega)) (hc 2 (by omega)) (hc 3 (by omega)) hk⟩) hf
  rw [one_cell Tryz.underlying23 hv hc]; exact ⟨l, hl⟩
theorem cellsStr : Tryz.prog.cellsOf 9 = 1 := by kernel_rfl
theorem cellsBool : Tryz.prog.cellsOf 4 = 1 := by kernel_rfl
theorem cellsCell : Tryz.prog.cellsOf 57 = 6 := by kernel_rfl
theorem open_Cells {r : Reach} {b0 : Nat} {v : Value} {d : DataW H} {p : List MemPlace} (hv : Value.okWide Tryz.prog w r b0 22 v) (h : DataW.Trod enc Tryz.prog w base spare held 22 v d p) : ∃ l, Cells w v l := by
  obtain ⟨fuel, hf⟩ := h
  obtain ⟨u, l, hc, hl⟩ := slice_at (Q := CellAt) Tryz.underlying22 cellsCell (by omega) (fun m hm cs' y b o ht hcl hc => by
    obtain ⟨xs, n, rfl, rfl, hl, hlen, hg⟩ := DataW.trod_struct Tryz.underlying57 ht
    obtain ⟨v0, v1, v2, v3, v4, v5, rfl⟩ := len6 hcl
    have h0 : DataW.trod enc Tryz.prog w base spare held n 9 (List.take (Tryz.prog.cellsOf 9) (List.drop 0 [v0, v1, v2, v3, v4, v5])) = xs[0]? := hg 0 _ rfl
    have h1 : DataW.trod enc Tryz.prog w base spare held n 3 (List.take (Tryz.prog.cellsOf 3) (List.drop 1 [v0, v1, v2, v3, v4, v5])) = xs[1]? := hg 1 _ rfl
    have h2 : DataW.trod enc Tryz.prog w base spare held n 3 (List.take (Tryz.prog.cellsOf 3) (List.drop 2 [v0, v1, v2, v3, v4, v5])) = xs[2]? := hg 2 _ rfl
    have h3 : DataW.trod enc Tryz.prog w base spare held n 3 (List.take (Tryz.prog.cellsOf 3) (List.drop 3 [v0, v1, v2, v3, v4, v5])) = xs[3]? := hg 3 _ rfl
    have h4 : DataW.trod enc Tryz.prog w base spare held n 4 (List.take (Tryz.prog.cellsOf 4) (List.drop 4 [v0, v1, v2, v3, v4, v5])) = xs[4]? := hg 4 _ rfl
    have h5 : DataW.trod enc Tryz.prog w base spare held n 3 (List.take (Tryz.prog.cellsOf 3) (List.drop 5 [v0, v1, v2, v3, v4, v5])) = xs[5]? := hg 5 _ rfl
    simp only [cellsInt, cellsStr, cellsBool, List.drop, List.take] at h0 h1 h2 h3 h4 h5
    match xs, (show xs.length = 6 from hlen) with
    | [y0, y1, y2, y3, y4, y5], _ =>
    simp only [List.getElem?_cons_zero, List.getElem?_cons_succ] at h0 h1 h2 h3 h4 h5
    obtain ⟨s, e0, _, _⟩ := DataW.trod_string Tryz.underlying9 h0
    obtain ⟨z1, e1, _, _⟩ := DataW.trod_int Tryz.underlying3 h1
    obtain ⟨z2, e2, _, _⟩ := DataW.trod_int Tryz.underlying3 h2
    obtain ⟨z3, e3, _, _⟩ := DataW.trod_int Tryz.underlying3 h3
    obtain ⟨z4, e4, _⟩ := DataW.trod_bool Tryz.underlying4 h4
    obtain ⟨z5, e5, _, _⟩ := DataW.trod_int Tryz.underlying3 h5
    simp only [List.cons.injEq, and_true] at e0 e1 e2 e3 e4 e5
    subst e0 e1 e2 e3 e4 e5
    exact ⟨⟨s, z1, z2, z3, z4, z5⟩, hc 0 (by omega), hc 1 (by omega), hc 2 (by omega), hc 3 (by omega), hc 4 (by omega), hc 5 (by omega)⟩) hf
  rw [one_cell Tryz.underlying22 hv hc]; exact ⟨l, hl⟩
end
end Go.Proofs.YtlcgbdjmlnjhcaaGreatDoor
namespace Go.Proofs.YtlcgbdjmlnjhcaaGreatDoor
open Go.ChangeShapes Go.WideShapes Go.ChangeAt Go.RowKit
set_option maxRecDepth 100000

theorem ownK : ownKnob Tryz.prog.godebug = none := by kernel_rfl
theorem laidOutP : laidOutB Tryz.prog = true := by kernel_rfl

/-- A law's answer: true; the arguments read as before. -/
def LawSpec (s : ChangeSpec) (k : Nat) : Prop := s.vars = [] ∧ ∀ (H : Type) (ds : List (DataW H)), ds.length = k → s.fn H ds = { results := [.lit (.bool true)], args := ds }

section
variable {H : Type} {enc : TypeId × Value → H}
theorem trodAll_len {P : Program} {w : World} {base : Nat} {sp : Nat → Bool} {hd : Bool} : ∀ {ts : List TypeId} {vs : List Value} {ds : List (DataW H)} {ps : List MemPlace}, DataW.TrodAll enc P w base sp hd ts vs ds ps → ds.length = ts.length ∧ vs.length = ts.length
  | [], [], [], _, _ => ⟨rfl, rfl⟩
  | _ :: _, _ :: _, _ :: _, _, ⟨_, _, _, h, _⟩ => by
    have := trodAll_len h
    simp [this]
  | [], [], _ :: _, _, h => h.elim
  | [], _ :: _, _, _, h => h.elim
  | _ :: _, [], _, _, h => h.elim
  | _ :: _, _ :: _, [], _, h => h.elim
theorem trodAll_stays {W W' : World} {sp' : Nat → Bool} (hx : Ext W W') : ∀ {ts : List TypeId} {vs : List Value} {ds : List (DataW H)} {ps : List MemPlace},
    (∀ t ∈ ts, Tryz.prog.readableRec t = true ∧ t < Tryz.prog.types.size) → (∀ p ∈ ps, p.block < W.heap.size ∧ sp' p.block = true) →
    DataW.TrodAll enc Tryz.prog W 0 (fun _ => true) true ts vs ds ps → DataW.TrodAll enc Tryz.prog W' 0 sp' true ts vs ds ps
  | [], [], [], _, _, _, h => h
  | t :: _, _ :: _, _ :: _, ps, hr, hp, ⟨p, q, h1, h2, e⟩ => by
    subst e
    exact ⟨p, q, WideElems.Trod_stays laidOutP (hr t (by simp)).1 (hr t (by simp)).2 h1 (fun x hx' => Below.same hx (hp x (by simp [hx'])).1) (fun x hx' => (hp x (by simp [hx'])).2),
      trodAll_stays hx (fun t' ht' => hr t' (by simp [ht'])) (fun x hx' => hp x (by simp [hx'])) h2, rfl⟩
  | [], [], _ :: _, _, _, _, h => h.elim
  | [], _ :: _, _, _, _, _, h => h.elim
  | _ :: _, [], _, _, _, _, h => h.elim
  | _ :: _, _ :: _, [], _, _, _, h => h.elim

theorem law_post {f : Func} {s : ChangeSpec} {W W' : World} {args : Array Value} {ds gs : List (DataW H)} {before : List MemPlace} (hres : f.resultTypes = #[4]) (hs : LawSpec s f.params.size)
    (hr : ∀ t ∈ f.params.toList, Tryz.prog.readableRec t = true ∧ t < Tryz.prog.types.size) (hW : DataW.Whole enc Tryz.prog f.params.toList s.vars false W args.toList ds gs before) (hx : Ext W W') :
    s.post enc Tryz.prog f false true false false W args (.bool true) W' := by
  obtain ⟨p, q, hA, hV, rfl, hz, hn⟩ := hW
  have hV0 := hV
  rw [hs.1] at hV0
  obtain ⟨rfl, rfl⟩ := trodVars_none hV0
  have hlt : ∀ x ∈ p ++ [], x.block < W.heap.size := DataW.Whole.lt (ts := f.params.toList) (vars := s.vars) (apart := false) (vs := args.toList) (ds := ds) (gs := []) (enc := enc) (P := Tryz.prog) ⟨p, [], hA, hV, rfl, hz, hn⟩
  have hfn := hs.2 H ds (by rw [(trodAll_len hA).1]; simp)
  refine ⟨ds, [], p ++ [], [], p, [], ⟨p, [], hA, hV, rfl, hz, hn⟩, ?_, ?_, ?_, World.keptBut_mono (fun x hx => ⟨hx, .inr (by simpa using hx)⟩) (Below.frame hx (· ∈ p ++ [])), fun h => by cases h⟩
  · rw [List.append_nil, hfn, hres]; exact trodAll_cons_mk (shut_bool Tryz.underlying4 _) trodAll_mk0
  · rw [List.append_nil, hfn]; exact trodAll_stays hx hr (fun x hx' => ⟨hlt x (by simpa using hx'), by simpa using hlt x (by simpa using hx')⟩) hA
  · rw [List.append_nil, hfn, hs.1]; rfl
end

/-- An array of strings that reads as a list of strings holds them. -/
theorem cells_of_strs {H : Type} {enc : TypeId × Value → H} {P : Program} {w : World} {base : Nat} {sp : Nat → Bool} {held : Bool} {fuel : Nat} {t e : TypeId} {n : Nat} {cs : List Value} {zs : List (List UInt8)} {p : List MemPlace}
    (ht : P.underlying t = some (.array n e)) (he : P.underlying e = some .string) (hce : P.cellsOf e = 1) (hct : P.cellsOf t = n)
    (h : DataW.trod enc P w base sp held fuel t cs = some (.agg (zs.map fun z => .lit (.string z)), p)) : cs = zs.map fun z => Value.string ⟨z.toArray⟩ := by
  cases fuel with
  | zero => simp [DataW.trod] at h
  | succ fuel =>
    simp only [DataW.trod, ht, hce, hct, Nat.mul_one] at h
    split at h
    · rename_i hl
      obtain ⟨xs, hm, hx⟩ := Option.map_eq_some_iff.1 h
      have hxs : xs.map (·.1) = zs.map fun z => (DataW.lit (.string z) : DataW H) := by
        have := congrArg Prod.fst hx
        simpa using this
      have hxl : xs.length = n := by simpa using Lib.mapM_length hm
      have hzl : zs.length = n := by
        have := congrArg List.length hxs
        simp at this
        omega
      apply List.ext_getElem?
      intro i
      by_cases hi : i < n
      · obtain ⟨b, hb, hf⟩ := Lib.mapM_at hm i i (by simp [hi])
        obtain ⟨z, hc, rfl, _⟩ := DataW.trod_string he hf
        have h1 : cs[i]? = some (.string z) := by
          have := congrArg (·[0]?) hc
          simpa [List.getElem?_take, List.getElem?_drop] using this
        have h2 : (xs.map (·.1))[i]? = some (DataW.lit (.string z.data.toList) : DataW H) := by simp [hb]
        rw [hxs] at h2
        simp only [List.getElem?_map, Option.map_eq_some_iff, DataW.lit.injEq, Lit.string.injEq] at h2
        obtain ⟨z', hz', rfl⟩ := h2
        simp [h1, hz']
      · rw [List.getElem?_eq_none (by omega), List.getElem?_eq_none (by simp; omega)]
    · cases h

/-- The tables that every row of this seat lists. -/
def tables : List (String × DataW Unit) := [("math/bits.deBruijn32tab", Rows.laid_math_bits_deBruijn32tab), ("math/bits.deBruijn64tab", Rows.laid_math_bits_deBruijn64tab), ("internal/strconv.uint64pow10", Rows.laid_internal_strconv_uint64pow10), ("relyguard/expr.masks", Rows.laid_relyguard_expr_masks), ("relyguard/expr.names", Rows.laid_relyguard_expr_names)]

theorem gPow : Tryz.prog.globalNamed "internal/strconv.uint64pow10" = some 2 := by kernel_rfl
theorem gMasks : Tryz.prog.globalNamed "relyguard/expr.masks" = some 1 := by kernel_rfl
theorem gNames : Tryz.prog.globalNamed "relyguard/expr.names" = some 0 := by kernel_rfl
theorem masks_data {H : Type} : (Rows.laid_relyguard_expr_masks : DataW H) = Lib.tabData .i64 [0, 1, 3, 7, 15, 31, 63, 127, 255] := rfl
theorem pow_data {H : Type} : (Rows.laid_internal_strconv_uint64pow10 : DataW H) = Lib.tabData .u64 Lib.pow10Tab := rfl
theorem names_data {H : Type} : (Rows.laid_relyguard_expr_names : DataW H) = .agg (namesL.map fun z => .lit (.string z)) := rfl

theorem tables_met {W : World} (h : laidMetH Tryz.prog tables W) : Masks W ∧ Names W ∧ Pow10 W := by
  have h' : laidMet Tryz.prog tables W := h
  obtain ⟨ps, ⟨_, _, _, _, _, _, _, _, _, _, ⟨_, _, _, _, _, _, _, _, _, _, ⟨g2, t2, c2, f2, p2, q2, hg2, ht2, hv2, hd2, ⟨g3, t3, c3, f3, p3, q3, hg3, ht3, hv3, hd3, ⟨g4, t4, c4, f4, p4, q4, hg4, ht4, hv4, hd4, _, _⟩, _⟩, _⟩, _⟩, _⟩, _⟩ := h'
  obtain rfl := Option.some.inj (gPow.symm.trans hg2)
  obtain rfl := Option.some.inj (gMasks.symm.trans hg3)
  obtain rfl := Option.some.inj (gNames.symm.trans hg4)
  obtain rfl := Option.some.inj ((show (Tryz.prog.globals[2]?).map (·.type) = some 161 by kernel_rfl).symm.trans ht2)
  obtain rfl := Option.some.inj ((show (Tryz.prog.globals[1]?).map (·.type) = some 111 by kernel_rfl).symm.trans ht3)
  obtain rfl := Option.some.inj ((show (Tryz.prog.globals[0]?).map (·.type) = some 96 by kernel_rfl).symm.trans ht4)
  rw [pow_data] at hd2; rw [masks_data] at hd3; rw [names_data] at hd4
  have e2 := Lib.cells_of_tab Tryz.underlying161 Tryz.underlying145 (by kernel_rfl) (by kernel_rfl) hd2
  have e3 := Lib.cells_of_tab Tryz.underlying111 Tryz.underlying3 (by kernel_rfl) (by kernel_rfl) hd3
  have e4 := cells_of_strs Tryz.underlying96 Tryz.underlying9 (by kernel_rfl) (by kernel_rfl) hd4
  refine ⟨fun k h0 h8 => ?_, ?_, ?_⟩
  · rw [World.var?_cell gMasks hv3]
    obtain ⟨l⟩ := c3
    rw [show l = _ from e3]
    obtain ⟨j, rfl⟩ := Int.eq_ofNat_of_zero_le h0
    have : j = 0 ∨ j = 1 ∨ j = 2 ∨ j = 3 ∨ j = 4 ∨ j = 5 ∨ j = 6 ∨ j = 7 ∨ j = 8 := by omega
    rcases this with rfl | rfl | rfl | rfl | rfl | rfl | rfl | rfl | rfl <;> rfl
  · simp only [World.var?, gNames, Option.bind_some] at hv4
    split at hv4
    · rename_i cs t fr hb
      obtain rfl := Option.some.inj hv4
      obtain ⟨l⟩ := cs
      rw [show l = _ from e4] at hb
      exact ⟨t, fr, hb⟩
    · cases hv4
  · unfold Pow10 Lib.TabIs
    rw [hv2]
    obtain ⟨l⟩ := c2
    rw [show l = _ from e2]

/-- A world for the witness: the settled one, the tables holding what their initialisers lay. -/
noncomputable def setRow (g : Nat) (cs : Array Value) (w : World) : World :=
  { w with heap := w.heap.modify g fun
      | .cells _ t frozen => .cells cs t frozen
      | o => o }
noncomputable def laidWorld (os : Os) : World :=
  setRow 0 namesA (setRow 1 (([0, 1, 3, 7, 15, 31, 63, 127, 255] : List Int).map fun z => Value.int .i64 z).toArray (setRow 2 (Lib.pow10Tab.map fun z => Value.int .u64 z).toArray
    (setRow 3 (([0, 1, 28, 2, 29, 14, 24, 3, 30, 22, 20, 15, 25, 17, 4, 8, 31, 27, 13, 23, 21, 19, 16, 7, 26, 12, 18, 6, 11, 5, 10, 9] : List Int).map fun z => Value.int .u8 z).toArray
      (setRow 4 (([0, 1, 56, 2, 57, 49, 28, 3, 61, 58, 42, 50, 38, 29, 17, 4, 62, 47, 59, 36, 45, 43, 51, 22, 53, 39, 33, 30, 24, 18, 12, 5, 63, 55, 48, 27, 60, 41, 37, 16, 46, 35, 44, 21, 52, 32, 23, 11, 54, 26, 40, 15, 34, 20, 31, 10, 25, 14, 19, 9, 13, 8, 7, 6] : List Int).map fun z => Value.int .u8 z).toArray
        (World.holding Tryz.prog os ⟨#[], #[], []⟩)))))
def zeroV : Value := .agg #[.int .i64 0, .int .i64 0, .int .i64 0, .slice none 0 0]
end Go.Proofs.YtlcgbdjmlnjhcaaGreatDoor
namespace Go.Proofs.YtlcgbdjmlnjhcaaGreatDoor
open Go.RowKit Go.WideShapes Go.ChangeShapes
set_option maxRecDepth 100000

section
variable {H : Type} {enc : TypeId × Value → H} {w : World} {base : Nat} {spare : Nat → Bool} {held : Bool}
theorem cellsCond : Tryz.prog.cellsOf 27 = 14 := by kernel_rfl
theorem len14 {cs : List Value} (h : cs.length = 14) : ∃ a b c d e f g h i j k l m n, cs = [a, b, c, d, e, f, g, h, i, j, k, l, m, n] := by
  match cs, h with
  | [a, b, c, d, e, f, g, h, i, j, k, l, m, n], _ => exact ⟨a, b, c, d, e, f, g, h, i, j, k, l, m, n, rfl⟩
theorem bytes_list (s : ByteArray) : s = ⟨s.data.toList.toArray⟩ := by cases s with | mk d => rw [Array.toArray_toList]
theorem open_Cond {r : Reach} {b0 : Nat} {v : Value} {d : DataW H} {p : List MemPlace} (hv : Value.okWide Tryz.prog w r b0 27 v) (h : DataW.Trod enc Tryz.prog w base spare held 27 v d p) : ∃ c, CondV w v c := by
  obtain ⟨cs, rfl, _⟩ := okWide_struct Tryz.underlying27 hv
  obtain ⟨fuel, hf⟩ := h
  obtain ⟨xs, n, rfl, _, hl, hlen, hg⟩ := DataW.trod_struct Tryz.underlying27 hf
  rw [cellsCond] at hl
  obtain ⟨l⟩ := cs
  obtain ⟨v0, v1, v2, v3, v4, v5, v6, v7, v8, v9, va, vb, vc, vd, hl3⟩ := len14 (show l.length = 14 from hl)
  subst hl3
  have h0 : DataW.trod enc Tryz.prog w base spare held n 9 (List.take (Tryz.prog.cellsOf 9) (List.drop 0 [v0, v1, v2, v3, v4, v5, v6, v7, v8, v9, va, vb, vc, vd])) = xs[0]? := hg 0 _ rfl
  have h1 : DataW.trod enc Tryz.prog w base spare held n 3 (List.take (Tryz.prog.cellsOf 3) (List.drop 1 [v0, v1, v2, v3, v4, v5, v6, v7, v8, v9, va, vb, vc, vd])) = xs[1]? := hg 1 _ rfl
  have h2 : DataW.trod enc Tryz.prog w base spare held n 3 (List.take (Tryz.prog.cellsOf 3) (List.drop 2 [v0, v1, v2, v3, v4, v5, v6, v7, v8, v9, va, vb, vc, vd])) = xs[2]? := hg 2 _ rfl
  have h3 : DataW.trod enc Tryz.prog w base spare held n 3 (List.take (Tryz.prog.cellsOf 3) (List.drop 3 [v0, v1, v2, v3, v4, v5, v6, v7, v8, v9, va, vb, vc, vd])) = xs[3]? := hg 3 _ rfl
  have h4 : DataW.trod enc Tryz.prog w base spare held n 3 (List.take (Tryz.prog.cellsOf 3) (List.drop 4 [v0, v1, v2, v3, v4, v5, v6, v7, v8, v9, va, vb, vc, vd])) = xs[4]? := hg 4 _ rfl
  have h5 : DataW.trod enc Tryz.prog w base spare held n 3 (List.take (Tryz.prog.cellsOf 3) (List.drop 5 [v0, v1, v2, v3, v4, v5, v6, v7, v8, v9, va, vb, vc, vd])) = xs[5]? := hg 5 _ rfl
  have h6 : DataW.trod enc Tryz.prog w base spare held n 25 (List.take (Tryz.prog.cellsOf 25) (List.drop 6 [v0, v1, v2, v3, v4, v5, v6, v7, v8, v9, va, vb, vc, vd])) = xs[6]? := hg 6 _ rfl
  have h7 : DataW.trod enc Tryz.prog w base spare held n 25 (List.take (Tryz.prog.cellsOf 25) (List.drop 10 [v0, v1, v2, v3, v4, v5, v6, v7, v8, v9, va, vb, vc, vd])) = xs[7]? := hg 7 _ rfl
  simp only [cellsStr, cellsInt, cellsExpr, List.drop, List.take] at h0 h1 h2 h3 h4 h5 h6 h7
  match xs, (show xs.length = 8 from hlen) with
  | [y0, y1, y2, y3, y4, y5, y6, y7], _ =>
  simp only [List.getElem?_cons_zero, List.getElem?_cons_succ] at h0 h1 h2 h3 h4 h5 h6 h7
  obtain ⟨z0, e0, _⟩ := DataW.trod_string Tryz.underlying9 h0
  obtain ⟨z1, e1, _⟩ := DataW.trod_int Tryz.underlying3 h1
  obtain ⟨z2, e2, _⟩ := DataW.trod_int Tryz.underlying3 h2
  obtain ⟨z3, e3, _⟩ := DataW.trod_int Tryz.underlying3 h3
  obtain ⟨z4, e4, _⟩ := DataW.trod_int Tryz.underlying3 h4
  obtain ⟨z5, e5, _⟩ := DataW.trod_int Tryz.underlying3 h5
  simp only [List.cons.injEq, and_true] at e0 e1 e2 e3 e4 e5
  subst e0 e1 e2 e3 e4 e5
  obtain ⟨f, kf, e6, g6⟩ := open_e _ _ _ h6
  obtain ⟨g, kg, e7, g7⟩ := open_e _ _ _ h7
  simp only [List.cons.injEq, and_true] at e6 e7
  obtain ⟨rfl, rfl, rfl, rfl⟩ := e6
  obtain ⟨rfl, rfl, rfl, rfl⟩ := e7
  obtain ⟨ha, hc, rfl⟩ := SliceAt.shape g6
  obtain ⟨ga, gc, rfl⟩ := SliceAt.shape g7
  refine ⟨⟨z0.data.toList, z1, z2, z3, z4, z5, f, g⟩, ha, _, hc, ga, _, gc, ?_, ⟨_, rfl, g6⟩, ⟨_, rfl, g7⟩⟩
  simp only [condCells, ← bytes_list]
end
end Go.Proofs.YtlcgbdjmlnjhcaaGreatDoor
