/-
  The walks of the reader's leaf, of operator and of widthOf.
  The walks of operator and of widthOf.
  The walk of newRunes: the runes of a string.
  A slice of expressions that a call makes by appending; plain facts on memory.
  What the reading of an expression computes.
  The walk of Read's closure: the leaves and the failures.
-/
import Derived.Test.YtdancokndklpnaaDoorMDa
import Derived.Test.YtdancokndklpnaaDoorMTa
import Derived.Test.YtdancokndklpnaaDoorMSi
import Derived.Laws.ResultCell
import Derived.Test.YtdancokndklpnaaDoorMSup
import Derived.Lib.OthersKept
import Derived.Deep.AppendLies
namespace Go.Proofs.YtdancokndklpnaaDoor
open Go.RowKit

theorem results_row_tmp {P : Program} {fn : Func} {p u : Tmp} {ty : TypeId} (h : fn.results = #[.cell p ty, .tmp u]) (tmps : Array Value) (w : World) (g : Nat) (t : TypeId) (cs : Array Value) (fr : Nat × Nat) (d : TypeDesc)
    (hp : tmps.getD p undef = .pointer (some ⟨g, 0, none⟩)) (hg : w.heap[g]? = some (.cells cs t fr))
    (hu : P.underlying ty = some d) (hd : (match d with | .struct _ | .array _ _ => true | _ => false) = true) (hi : (P.info? ty).map (·.size) = some cs.size) :
    (results fn tmps).run P w = .ok (.tuple #[.agg cs, tmps.getD u undef]) w := by
  rw [results_cell_tmp h, hp]
  simp [asAddr, run_loadVar_row w g t ty cs fr d hg hu hd hi, Result.andThen]

theorem RAt.lt {w0 w : World} {RB k : Nat} {lv : Value} (h : RAt w0 RB lv k w) : RB < w.heap.size := by
  rcases Nat.lt_or_ge RB w.heap.size with h1 | h1
  · exact h1
  · have := h.2; rw [Array.getElem?_eq_none_iff.2 h1] at this; cases this
theorem RAt.ext {w0 w w' : World} {RB k : Nat} {lv : Value} (h : RAt w0 RB lv k w) (hx : Ext w w') : RAt w0 RB lv k w' :=
  ⟨grownBy_tr h.1 ⟨hx.os, hx.tape, hx.output, hx.size, fun i hi _ => hx.block i hi⟩, by rw [hx.block RB h.lt]; exact h.2⟩
theorem ext_grown {w w' : World} (hx : Ext w w') (g : Option Nat) : w.grownBy w' g := ⟨hx.os, hx.tape, hx.output, hx.size, fun i hi _ => hx.block i hi⟩
/-- A block that is not the reader's stays. -/
theorem grown_block {w w' : World} {RB R : Nat} {o : Obj} (h : w.grownBy w' (some RB)) (hne : R ≠ RB) (hb : w.heap[R]? = some o) : w'.heap[R]? = some o := by
  have : R < w.heap.size := by
    rcases Nat.lt_or_ge R w.heap.size with h1 | h1
    · exact h1
    · rw [Array.getElem?_eq_none_iff.2 h1] at hb; cases hb
  rw [h.block R this (by simpa using hne)]; exact hb
theorem put4_grown {w0 w : World} {RB R k : Nat} {lv a b c d : Value} (h : RAt w0 RB lv k w) (hR : w0.heap.size ≤ R) (hne : R ≠ RB) : RAt w0 RB lv k (put4 w R 0 a b c d) := by
  refine ⟨⟨h.1.os, h.1.tape, h.1.output, by rw [put4_size]; exact h.1.size, fun i hi hi2 => ?_⟩, by rw [put4_heap _ (by omega)]; exact h.2⟩
  rw [put4_heap _ (by omega)]; exact h.1.block i hi hi2
theorem grown_put4 {w w' : World} {g : Option Nat} {R : Nat} {a b c d : Value} (h : w.grownBy w' g) (hR : w.heap.size ≤ R) : w.grownBy (put4 w' R 0 a b c d) g :=
  ⟨h.os, h.tape, h.output, by rw [put4_size]; exact h.size, fun i hi hi2 => by rw [put4_heap _ (by omega)]; exact h.block i hi hi2⟩

/-- A node without kids. -/
def leafS (op : Int) (s : List Int) : Option (E × Nat) :=
  match numS s with
  | none => none
  | some (n, c) => if s[c]? = some 58 then (match numS (s.drop (c + 1)) with | none => none | some (wd, c') => some (.mk op wd n [], c + 1 + c')) else none
/-- What the reading of an expression leaves: v is the value that comes back, right if the reading went well. -/
def LeafPost (w0 : World) (RB : Nat) (lv : Value) (l : List Int) (k : Nat) (sp : Option (E × Nat)) (w : World) (r : Ending) (w' : World) : Prop :=
  ∃ (e : E) (v : Value) (k' : Nat), r = .returned (.tuple #[v, .bool sp.isSome]) ∧ (v = .agg #[.int .i64 e.op, .int .i64 e.wd, .int .i64 e.n, .slice none 0 0] ∧ e.kids = []) ∧ w.grownBy w' (some RB) ∧ RAt w0 RB lv k' w' ∧ k' ≤ l.length ∧ ∀ (e' : E) (c : Nat), sp = some (e', c) → e = e' ∧ k' = k + c
theorem numS_some {s : List Int} {n : Int} {c : Nat} (h : numS s = some (n, c)) : c ≤ s.length := by
  have key : ∀ (s : List Int) (j : Nat) (m : Int), numFrom s j m = some (n, c) → c ≤ s.length + j := by
    intro s
    induction s with
    | nil => intro j m h; simp [numFrom] at h; omega
    | cons x r ih =>
      intro j m h
      simp only [numFrom] at h
      split at h
      · split at h
        · cases h
        · have := ih _ _ h; simp; omega
      · split at h
        · cases h; simp
        · cases h
  simpa using key s 0 0 h
theorem peek_drop {l : List Int} {k c : Nat} : ((l.drop k)[c]? = some 58) ↔ (peekS l (k + c) == 58) = true := by
  rw [List.getElem?_drop]
  unfold peekS
  cases l[k + c]? <;> simp

set_option maxHeartbeats 4000000 in
theorem leaf_any (w0 : World) (RB : Nat) (lv : Value) (l : List Int) (k : Nat) (op : Int) (w : World) (hl : RunesIn w0 RB lv l) (hR : RAt w0 RB lv k w) (hk : k ≤ l.length) :
    Calls Tryd.prog 50 #[.pointer (some ⟨RB, 0, none⟩), .int .i64 op] w (LeafPost w0 RB lv l k (leafS op (l.drop k)) w) := by
  have hRs := hR.lt
  have hws := hR.1.size
  have HL := Lib.hid hl; have HR := Lib.hid hR; clear hl hR
  go_enter Tryd.func50, Tryd.ntmps50
  go_wp2_with fail
  generalize hw1 : w.alloc _ = w1
  have hx1 : Ext w w1 := by rw [← hw1]; exact (Ext.refl w).alloc _
  have hb1 : w1.heap[w.heap.size]? = some (.cells #[.int .i64 0, .int .i64 0, .int .i64 0, .slice none 0 0] 24 (0, 0)) := by rw [← hw1]; exact heap_new _ _
  have HR1 := Lib.hid (HR.out.ext hx1)
  have HX1 := Lib.hid (ext_grown hx1 (some RB)); have HB1 := Lib.hid hb1
  clear hw1 hx1 hb1
  refine (number_any w0 RB lv l k w1 HL.out HR1.out hk).mono ?_
  rintro r w2 ⟨n, k1, rfl, hS2, hk1, hsp1⟩
  have hb2 := grown_block hS2.1 (by omega) HB1.out
  obtain ⟨c0, c1, c2, c3, f0, f1, f2, f3⟩ := cells_of_block hb2
  have HG2 := Lib.hid (grownBy_tr HX1.out hS2.1); have HR2 := Lib.hid hS2.2; have HB2 := Lib.hid hb2; have HSP1 := Lib.hid hsp1
  clear hS2 hb2 hsp1
  cases hq1 : numS (l.drop k) with
  | none =>
    have HLS : Hid (leafS op (l.drop k) = none) := by simp [Hid, leafS, hq1]
    clear hq1
    have HF : Hid (LeafPost w0 RB lv l k (leafS op (l.drop k)) w (.returned (.tuple #[.agg #[.int .i64 0, .int .i64 0, .int .i64 0, .slice none 0 0], .bool false])) (put4 w2 w.heap.size 0 (.int .i64 0) (.int .i64 0) (.int .i64 0) (.slice none 0 0))) := by
      refine ⟨.mk 0 0 0 [], _, k1, by rw [HLS.out]; rfl, ⟨rfl, rfl⟩, grown_put4 HG2.out (Nat.le_refl _), put4_grown HR2.out hws (by omega), hk1, fun e' c h => ?_⟩
      rw [HLS.out] at h; cases h
    have HB3 := Lib.hid (put4_new (x := .int .i64 0) (y := .int .i64 0) (z := .int .i64 0) (u := .slice none 0 0) HB2.out)
    go_wp2_with fail
    exact bodyPost_ret (v := .tuple #[.agg #[.int .i64 0, .int .i64 0, .int .i64 0, .slice none 0 0], .bool false]) (results_row_tmp Tryd.results50 _ _ w.heap.size 24 _ (0, 0) _ rfl HB3.out Tryd.underlying24 rfl sizeExpr) rfl HF.out
  | some p1 =>
    obtain ⟨n', c1'⟩ := p1
    obtain ⟨rfl, rfl⟩ := HSP1.out _ _ hq1
    have HQ1 := Lib.hid hq1; clear hq1
    go_wp2_with fail
    refine (accept_any w0 RB lv l (k + c1') 58 w2 HL.out HR2.out hk1).mono ?_
    rintro r w3 ⟨rfl, hS3⟩
    cases ha : (peekS l (k + c1') == 58) with
    | false =>
      rw [ha] at hS3
      have HLS : Hid (leafS op (l.drop k) = none) := by
        unfold Hid leafS; rw [HQ1.out]; simp only
        rw [if_neg (by rw [peek_drop, ha]; simp)]
      have hb3 := grown_block hS3.1 (by omega) HB2.out
      obtain ⟨c0, c1, c2, c3, f0, f1, f2, f3⟩ := cells_of_block hb3
      have HF : Hid (LeafPost w0 RB lv l k (leafS op (l.drop k)) w (.returned (.tuple #[.agg #[.int .i64 0, .int .i64 0, .int .i64 0, .slice none 0 0], .bool false])) (put4 w3 w.heap.size 0 (.int .i64 0) (.int .i64 0) (.int .i64 0) (.slice none 0 0))) := by
        refine ⟨.mk 0 0 0 [], _, k + c1', by rw [HLS.out]; rfl, ⟨rfl, rfl⟩, grown_put4 (grownBy_tr HG2.out hS3.1) (Nat.le_refl _), put4_grown hS3.2 hws (by omega), hk1, fun e' c h => ?_⟩
        rw [HLS.out] at h; cases h
      have HB3 := Lib.hid (put4_new (x := .int .i64 0) (y := .int .i64 0) (z := .int .i64 0) (u := .slice none 0 0) hb3)
      clear hS3 hb3 ha
      go_wp2_with fail
      exact bodyPost_ret (v := .tuple #[.agg #[.int .i64 0, .int .i64 0, .int .i64 0, .slice none 0 0], .bool false]) (results_row_tmp Tryd.results50 _ _ w.heap.size 24 _ (0, 0) _ rfl HB3.out Tryd.underlying24 rfl sizeExpr) rfl HF.out
    | true =>
      rw [ha, if_pos rfl] at hS3
      have hk2 : k + c1' + 1 ≤ l.length := by have := peekS_in (l := l) (k := k + c1') (by intro e; rw [e] at ha; simp at ha); omega
      have hb3 := grown_block hS3.1 (by omega) HB2.out
      have HG3 := Lib.hid (grownBy_tr HG2.out hS3.1); have HR3 := Lib.hid hS3.2; have HB3 := Lib.hid hb3
      have HA := Lib.hid ha
      clear hS3 hb3 ha
      go_wp2_with fail
      refine (number_any w0 RB lv l (k + c1' + 1) w3 HL.out HR3.out hk2).mono ?_
      rintro r w4 ⟨wd, k4, rfl, hS4, hk4, hsp4⟩
      have hb4 := grown_block hS4.1 (by omega) HB3.out
      obtain ⟨c0, c1, c2, c3, f0, f1, f2, f3⟩ := cells_of_block hb4
      have HLS : Hid (leafS op (l.drop k) = match numS (l.drop (k + c1' + 1)) with | none => none | some (wd, c') => some (.mk op wd n [], c1' + 1 + c')) := by
        unfold Hid leafS; rw [HQ1.out]; simp only
        rw [if_pos (by rw [peek_drop]; exact HA.out), List.drop_drop, show k + (c1' + 1) = k + c1' + 1 by omega]
      have HF : Hid (LeafPost w0 RB lv l k (leafS op (l.drop k)) w (.returned (.tuple #[.agg #[.int .i64 op, .int .i64 wd, .int .i64 n, .slice none 0 0], .bool (numS (l.drop (k + c1' + 1))).isSome])) (put4 w4 w.heap.size 0 (.int .i64 op) (.int .i64 wd) (.int .i64 n) (.slice none 0 0))) := by
        refine ⟨.mk op wd n [], _, k4, ?_, ⟨rfl, rfl⟩, grown_put4 (grownBy_tr HG3.out hS4.1) (Nat.le_refl _), put4_grown hS4.2 hws (by omega), hk4, fun e' c h => ?_⟩
        · rw [HLS.out]; cases numS (l.drop (k + c1' + 1)) <;> rfl
        · rw [HLS.out] at h
          cases hq : numS (l.drop (k + c1' + 1)) with
          | none => rw [hq] at h; cases h
          | some p =>
            obtain ⟨a, b⟩ := p
            rw [hq] at h
            obtain ⟨rfl, rfl⟩ := hsp4 _ _ hq
            cases h
            exact ⟨rfl, by omega⟩
      have HB4 := Lib.hid (put4_new (x := .int .i64 op) (y := .int .i64 wd) (z := .int .i64 n) (u := .slice none 0 0) hb4)
      clear hS4 hb4 hsp4
      generalize (numS (l.drop (k + c1' + 1))).isSome = ok at *
      go_wp2_with fail
      exact bodyPost_ret (v := .tuple #[.agg #[.int .i64 op, .int .i64 wd, .int .i64 n, .slice none 0 0], .bool ok]) (results_row_tmp Tryd.results50 _ _ w.heap.size 24 _ (0, 0) _ rfl HB4.out Tryd.underlying24 rfl sizeExpr) rfl HF.out
end Go.Proofs.YtdancokndklpnaaDoor
namespace Go.Proofs.YtdancokndklpnaaDoor
open Go.RowKit

/-- The operator with a name, 0 if there is none. -/
def operatorS (w : List UInt8) : Int :=
  if w = [110, 111, 116] then 4 else if w = [97, 110, 100] then 5 else if w = [111, 114] then 6 else if w = [120, 111, 114] then 7 else if w = [97, 100, 100] then 8 else if w = [115, 117, 98] then 9
  else if w = [109, 117, 108] then 10 else if w = [101, 113] then 11 else if w = [108, 116] then 12 else if w = [108, 101] then 13 else if w = [105, 116, 101] then 14 else 0
theorem operatorS_hit {w : List UInt8} {k : Nat} (hk : k < 11) (h : namesL.getD k [] = w) : operatorS w = 4 + k := by
  rcases names_cases hk with rfl | rfl | rfl | rfl | rfl | rfl | rfl | rfl | rfl | rfl | rfl <;> (subst h; rfl)
theorem operatorS_miss {w : List UInt8} (h : ∀ j, j < 11 → namesL.getD j [] ≠ w) : operatorS w = 0 := by
  have h0 : w ≠ [110, 111, 116] := fun e => h 0 (by omega) (by rw [e]; rfl)
  have h1 : w ≠ [97, 110, 100] := fun e => h 1 (by omega) (by rw [e]; rfl)
  have h2 : w ≠ [111, 114] := fun e => h 2 (by omega) (by rw [e]; rfl)
  have h3 : w ≠ [120, 111, 114] := fun e => h 3 (by omega) (by rw [e]; rfl)
  have h4 : w ≠ [97, 100, 100] := fun e => h 4 (by omega) (by rw [e]; rfl)
  have h5 : w ≠ [115, 117, 98] := fun e => h 5 (by omega) (by rw [e]; rfl)
  have h6 : w ≠ [109, 117, 108] := fun e => h 6 (by omega) (by rw [e]; rfl)
  have h7 : w ≠ [101, 113] := fun e => h 7 (by omega) (by rw [e]; rfl)
  have h8 : w ≠ [108, 116] := fun e => h 8 (by omega) (by rw [e]; rfl)
  have h9 : w ≠ [108, 101] := fun e => h 9 (by omega) (by rw [e]; rfl)
  have h10 : w ≠ [105, 116, 101] := fun e => h 10 (by omega) (by rw [e]; rfl)
  unfold operatorS
  rw [if_neg h0, if_neg h1, if_neg h2, if_neg h3, if_neg h4, if_neg h5, if_neg h6, if_neg h7, if_neg h8, if_neg h9, if_neg h10]
theorem index_names (k : Nat) (h : k < 11) (w : World) : (Instr.index 79 (.agg namesA) (.int .i64 k)).run Tryd.prog w = .ok (.string ⟨(namesL.getD k []).toArray⟩) w := by
  rcases names_cases h with rfl | rfl | rfl | rfl | rfl | rfl | rfl | rfl | rfl | rfl | rfl <;> kernel_rfl
theorem sizeNames : (Tryd.prog.info? 79).map (·.size) = some 11 := by kernel_rfl

set_option maxHeartbeats 1000000 in
theorem operator_any (nm : List UInt8) (w : World) (hN : Names w) : Calls Tryd.prog 51 #[.string ⟨nm.toArray⟩] w fun e w' => e = .returned (.int .i64 (operatorS nm)) ∧ w = w' := by
  obtain ⟨t, fr, hb⟩ := hN
  have HB := Lib.hid hb; clear hb
  go_enter Tryd.func51, Tryd.ntmps51
  go_wp2_with (refine wpList_load_row rfl 79 _ rfl 0 rfl t _ fr _ HB.out Tryd.underlying79 rfl sizeNames ?_)
  go_loop [3, 4, 6] (fun _ _ i => ∃ k : Nat, k ≤ 11 ∧ i = .int .i64 k ∧ Hid (∀ j, j < k → namesL.getD j [] ≠ nm)) (fun _ _ i => 11 - (intOf i).toNat)
  case atStart => exact ⟨0, by omega, rfl, fun j h => absurd h (Nat.not_lt_zero _)⟩
  case round =>
    obtain ⟨k, hk, rfl, HN⟩ := hrel
    by_cases hlt : k < 11
    · have hix := index_names k hlt
      generalize hnk : namesL.getD k [] = nk at *
      have HNK := Lib.hid hnk; clear hnk
      cases hq : (nk == nm) with
      | true =>
        have HF : Hid (operatorS nm = 4 + k) := operatorS_hit hlt (by rw [HNK.out]; simpa using hq)
        go_wp2_with fail
        go_ret
        exact ⟨by rw [HF.out]; rfl, rfl⟩
      | false =>
        have HN' : Hid (∀ j, j < k + 1 → namesL.getD j [] ≠ nm) := by
          intro j hj
          by_cases c : j = k
          · subst c; rw [HNK.out]; simpa using hq
          · exact HN.out j (by omega)
        go_wp2_with fail
        exact ⟨⟨k + 1, by omega, by go_num, HN'⟩, by simp [intOf]; omega⟩
    · have HF : Hid (operatorS nm = 0) := operatorS_miss fun j hj => HN.out j (by omega)
      go_wp2_with fail
      go_ret
      exact ⟨by rw [HF.out]; rfl, rfl⟩

/-- The width of a node with kids, as far as they determine it. -/
def widthS (op : Int) (ks : List E) : Int :=
  if op = 11 ∨ op = 12 ∨ op = 13 then 1 else if op = 14 ∧ 1 < ks.length then (ks.getD 1 (.mk 0 0 0 [])).wd else (ks.getD 0 (.mk 0 0 0 [])).wd

set_option maxHeartbeats 1000000 in
theorem widthOf_any (e : E) (v : Value) (w : World) (he : EVal w v e) (hne : e.kids ≠ []) : Calls Tryd.prog 53 #[v] w fun r w' => r = .returned (.int .i64 (widthS e.op e.kids)) ∧ Ext w w' := by
  obtain ⟨kv, rfl, hk⟩ := he
  obtain ⟨op, wd, n, ks⟩ := e
  simp only [E.op_mk, E.wd_mk, E.n_mk, E.kids_mk] at hk hne ⊢
  rcases hk with ⟨_, h⟩ | ⟨b, o, cap, rfl, hlen, hk⟩
  · exact absurd h hne
  have hl0 : 0 < ks.length := by
    rcases Nat.eq_zero_or_pos ks.length with h | h
    · exact absurd (List.length_eq_zero_iff.1 h) hne
    · exact h
  have k0 : w.cell? ⟨b, o + 1, none⟩ = some (.int .i64 ks[0].wd) := by have := (hk 0 hl0).cells.2.1; simpa using this
  have hbs : b < w.heap.size := block_lt k0
  by_cases hc : op = 11 ∨ op = 12 ∨ op = 13
  · have HF : Hid (widthS op ks = 1) := by unfold Hid widthS; rw [if_pos hc]
    clear hk
    rcases hc with rfl | rfl | rfl
    all_goals
      go_enter Tryd.func53, Tryd.ntmps53
      go_wp2_with fail
      go_ret
      exact ⟨by rw [HF.out]; rfl, (Ext.refl w).alloc _⟩
  · have e11 : (op == 11) = false := by rw [beq_eq_false_iff_ne]; omega
    have e12 : (op == 12) = false := by rw [beq_eq_false_iff_ne]; omega
    have e13 : (op == 13) = false := by rw [beq_eq_false_iff_ne]; omega
    by_cases h14 : op = 14
    · have e14 : (op == 14) = true := by simpa using h14
      by_cases h1 : 1 < ks.length
      · have k1 : w.cell? ⟨b, o + 4 + 1, none⟩ = some (.int .i64 ks[1].wd) := by have := (hk 1 h1).cells.2.1; simpa using this
        have HF : Hid (widthS op ks = ks[1].wd) := by unfold Hid widthS; rw [if_neg hc, if_pos ⟨h14, h1⟩]; simp [List.getD_eq_getElem?_getD, h1]
        have b1 : decide (1 < (ks.length : Int)) = true := by simp; omega
        have b2 : (1 : Int) < (ks.length : Int) := by omega
        clear hk hc h14
        go_enter Tryd.func53, Tryd.ntmps53
        go_wp2_with fail
        go_ret
        exact ⟨by rw [HF.out]; rfl, (Ext.refl w).alloc _⟩
      · have HF : Hid (widthS op ks = ks[0].wd) := by unfold Hid widthS; rw [if_neg hc, if_neg (by omega)]; simp [List.getD_eq_getElem?_getD, hl0]
        have b1 : decide (1 < (ks.length : Int)) = false := by simp; omega
        have b2 : (0 : Int) < (ks.length : Int) := by omega
        clear hk hc h14
        go_enter Tryd.func53, Tryd.ntmps53
        go_wp2_with fail
        go_ret
        exact ⟨by rw [HF.out]; rfl, (Ext.refl w).alloc _⟩
    · have e14 : (op == 14) = false := by simpa using h14
      have HF : Hid (widthS op ks = ks[0].wd) := by unfold Hid widthS; rw [if_neg hc, if_neg (by omega)]; simp [List.getD_eq_getElem?_getD, hl0]
      have b2 : (0 : Int) < (ks.length : Int) := by omega
      clear hk hc h14
      go_enter Tryd.func53, Tryd.ntmps53
      go_wp2_with fail
      go_ret
      exact ⟨by rw [HF.out]; rfl, (Ext.refl w).alloc _⟩
end Go.Proofs.YtdancokndklpnaaDoor
namespace Go.Proofs.YtdancokndklpnaaDoor
open Go.RowKit

/-- The runes of s from pos on, as the model decodes them. -/
def runesFrom (s : ByteArray) : Nat → Nat → List Int
  | 0, _ => []
  | fuel + 1, pos => if pos < s.size then ((Utf8.decode s pos).1 : Int) :: runesFrom s fuel (pos + (Utf8.decode s pos).2) else []
def runesOf (s : ByteArray) : List Int := runesFrom s s.size 0
theorem decode_pos (s : ByteArray) (pos : Nat) (h : pos < s.size) : 1 ≤ (Utf8.decode s pos).2 := by
  by_cases ha : (s[pos]'h).toNat < 128
  · rw [decode_ascii s pos h ha]; exact Nat.le_refl _
  · exact (decode_high s pos h (by omega)).2
theorem runesFrom_end (s : ByteArray) (fuel pos : Nat) (h : ¬ pos < s.size) : runesFrom s fuel pos = [] := by
  cases fuel with
  | zero => rfl
  | succ f => simp [runesFrom, h]

theorem infoRune : (Tryd.prog.info? 21).map (fun i => (i.zero, i.size, i.bytes)) = some (some (.int .i32 0), 1, 4) := by kernel_rfl
def OwnRunes (w : World) (base : Nat) (v : Value) (l : List Int) : Prop := w.ownsRow base 21 1 v l.length (l.map (Value.int .i32))
theorem OwnRunes.nil (w : World) (base : Nat) : OwnRunes w base (.slice none 0 0) [] := ⟨rfl, .inl ⟨rfl, rfl⟩⟩
theorem OwnRunes.shape {w : World} {base : Nat} {v : Value} {l : List Int} (h : OwnRunes w base v l) : ∃ a c, v = .slice a l.length c := by
  rcases h.2 with ⟨rfl, hl⟩ | ⟨g, cap, cur, rfl, _⟩
  · exact ⟨none, 0, by rw [hl]⟩
  · exact ⟨_, _, rfl⟩
theorem OwnRunes.base {w : World} {base : Nat} {v : Value} {l : List Int} (h : OwnRunes w base v l) (k : Nat) (hk : v.ownBlock = some k) : base ≤ k := by
  rcases h.2 with ⟨rfl, _⟩ | ⟨g, cap, cur, rfl, hg, _⟩
  · cases hk
  · simp [Value.ownBlock] at hk; omega
/-- It is kept by whatever leaves the blocks from base on alone. -/
theorem OwnRunes.keep {w w' : World} {base : Nat} {v : Value} {l : List Int} (h : OwnRunes w base v l) (hx : AsFrom base w w') : OwnRunes w' base v l := by
  obtain ⟨h1, h2⟩ := h
  refine ⟨h1, ?_⟩
  rcases h2 with h2 | ⟨g, cap, cur, hv, hg, hh, r⟩
  · exact .inl h2
  · refine .inr ⟨g, cap, cur, hv, hg, ?_, r⟩
    have hlt : g < w.heap.size := by
      rcases Nat.lt_or_ge g w.heap.size with h | h
      · exact h
      · rw [Array.getElem?_eq_none_iff.2 h] at hh; cases hh
    rw [hx g hg hlt]; exact hh
theorem OwnRunes.runesIn {w : World} {base RB : Nat} {v : Value} {l : List Int} (h : OwnRunes w base v l) (hl : l.length ≤ 1000000000) (hB : RB < base) (hR : RB < w.heap.size) : RunesIn w RB v l := by
  refine ⟨hR, ?_⟩
  rcases h.2 with ⟨rfl, hl⟩ | ⟨g, cap, cur, rfl, hg, hh, hn, hc, hs, ht⟩
  · exact .inl ⟨rfl, List.length_eq_zero_iff.1 hl⟩
  · have hlt : g < w.heap.size := by
      rcases Nat.lt_or_ge g w.heap.size with h | h
      · exact h
      · rw [Array.getElem?_eq_none_iff.2 h] at hh; cases hh
    refine .inr ⟨g, 0, cap, rfl, hl, by omega, hlt, hn, fun i hi => ?_⟩
    rw [Nat.mul_one] at ht
    have e : cur.toList[i]? = some (.int .i32 l[i]) := by
      have := congrArg (fun x => x[i]?) ht
      simp only [List.getElem?_take, if_pos hi] at this
      rw [this]; simp [hi]
    simp only [World.cell?, hh, Nat.zero_add]
    simpa using e
theorem wpList_append_rune {ops : Array Oper} {rest : List Oper} {o : Oper} {a : Act} {Q : Exit → Act → World → Prop} (hgd : o.guard = none) (s x : Operand)
    (ho : o.op = .call { callee := .builtin .append, args := #[s, x], argTypes := #[88, 88] }) (base : Nat) (wr : World) (v : Value) (l : List Int) (n : Int)
    (hs : a.eval s = v) (hx : a.eval x = .slice (some ⟨wr.heap.size, 0, none⟩) 1 1) (hown : OwnRunes wr base v l) (hl : l.length ≤ 1000000000) (hb : base ≤ wr.heap.size)
    (h : ∀ v' w', OwnRunes w' base v' (l ++ [n]) → wr.grownBy w' v.ownBlock → wpList Tryd.prog ops Q rest (a.put o.dst v') w') : wpList Tryd.prog ops Q (o :: rest) a (wr.alloc (.cells #[.int .i32 n] 21)) := by
  obtain ⟨i0, hi, hz0, hz1, hz2⟩ := info_parts infoRune
  refine wpList_append_own _ hgd s x 88 ho base 21 i0 (.int .i32 0) 1 4 Tryd.underlying88 hi hz0 hz1 hz2 rfl (by decide) v l.length (l.map (Value.int .i32)) hs (hown.keep (((Ext.refl wr).alloc _).asFrom _)) ⟨wr.heap.size, 0, none⟩ 1 1 [.int .i32 n] hx rfl ?_ ?_ ?_ ?_ ?_ ?_
  · intro j u hj
    obtain ⟨rfl, rfl⟩ : j = 0 ∧ u = .int .i32 n := by
      cases j with
      | zero => simp at hj; exact ⟨rfl, hj.symm⟩
      | succ j => simp at hj
    simp [Addr.add]
  · intro u hu; simp at hu; subst hu; rfl
  · unfold maxLen; omega
  · omega
  · simp; omega
  · intro v' w' h1 h2 _
    refine h v' w' (by simpa [OwnRunes] using h1) ⟨h2.os, h2.tape, h2.output, ?_, fun k hk hne => ?_⟩
    · have := h2.size; simp at this; omega
    · rw [h2.block k (by simp; omega) hne]; exact Below.heap_alloc wr _ k hk

def NewRunesPost (s : ByteArray) (w : World) (r : Ending) (w' : World) : Prop :=
  ∃ lv, r = .returned (.pointer (some ⟨w.heap.size, 0, none⟩)) ∧ Ext w w' ∧ w'.heap[w.heap.size]? = some (.cells #[lv, .int .i64 0] 90 (0, 0)) ∧ RunesIn w' w.heap.size lv (runesOf s)
/-- What holds between two rounds. -/
def NRel (s : ByteArray) (w : World) (pos fuel : Nat) (acc : List Int) (v : Value) (wr : World) : Prop :=
  wr.heap[w.heap.size]? = some (.cells #[v, .int .i64 0] 90 (0, 0)) ∧ wr.heap[w.heap.size + 1]? = some (.stringIter s pos) ∧ OwnRunes wr (w.heap.size + 2) v acc ∧ Ext w wr ∧ acc ++ runesFrom s fuel pos = runesOf s ∧ s.size ≤ pos + fuel ∧ acc.length ≤ pos ∧ acc.length ≤ s.size

set_option maxHeartbeats 2000000 in
theorem newRunes_any (s : ByteArray) (w : World) (hs : s.size ≤ 1000000) : Calls Tryd.prog 47 #[.string s] w (NewRunesPost s w) := by
  go_enter Tryd.func47, Tryd.ntmps47
  go_wp2_with fail
  go_loopw [5] (fun _ wr => ∃ (pos fuel : Nat) (acc : List Int) (v : Value), NRel s w pos fuel acc v wr) (fun _ wr => s.size - wr.iterPos (w.heap.size + 1))
  case atStart =>
    refine ⟨0, s.size, [], .slice none 0 0, ?_, ?_, OwnRunes.nil _ _, ?_, rfl, by omega, by simp, by simp⟩
    · show ((w.alloc _).alloc (.stringIter s 0)).heap[w.heap.size]? = _
      rw [Below.heap_alloc _ _ _ (by simp)]; exact heap_new _ _
    · have := World.iter_heap (w.alloc (.cells #[.slice none 0 0, .int .i64 0] 90)) s 0
      simpa using this
    · exact ((Ext.refl w).alloc _).alloc (.stringIter s 0)
  case round =>
    obtain ⟨pos, fuel, acc, v, hb, hit, hown, hx, hacc, hfu, hal, hals⟩ := hrel
    have hsz : w.heap.size + 1 < wr.heap.size := (Array.getElem?_eq_some_iff.1 hit).1
    by_cases hp : pos < s.size
    · have hwd := decode_pos s pos hp
      obtain ⟨f, rfl⟩ : ∃ f, fuel = f + 1 := ⟨fuel - 1, by omega⟩
      have hacc' : (acc ++ [((Utf8.decode s pos).1 : Int)]) ++ runesFrom s f (pos + (Utf8.decode s pos).2) = runesOf s := by
        rw [← hacc]; simp [runesFrom, hp]
      have hnx : ∀ ty, (Instr.next (.pointer (some ⟨w.heap.size + 1, 0, none⟩)) true ty).run Tryd.prog wr = _ := fun ty => Lib.run_next_any_at wr (w.heap.size + 1) s pos ty hit hp
      obtain ⟨W1, hW1⟩ : ∃ W1, W1 = wr.iterAt (w.heap.size + 1) s (pos + (Utf8.decode s pos).2) := ⟨_, rfl⟩
      rw [← hW1] at hnx
      have hs1 : W1.heap.size = wr.heap.size := by rw [hW1, Lib.iterAt_size]
      have hit1 : W1.heap[w.heap.size + 1]? = some (.stringIter s (pos + (Utf8.decode s pos).2)) := by rw [hW1]; exact Lib.iterAt_heap wr _ s pos _ hit
      have hb1 : W1.heap[w.heap.size]? = some (.cells #[v, .int .i64 0] 90 (0, 0)) := by rw [hW1, Lib.iterAt_other _ _ _ _ _ (by omega)]; exact hb
      have hown1 : OwnRunes W1 (w.heap.size + 2) v acc := hown.keep (fun k h1 _ => by rw [hW1, Lib.iterAt_other _ _ _ _ _ (by omega)])
      have hx1 : Ext w W1 := by rw [hW1]; exact Lib.below_iterAt hx (by omega) s _
      obtain ⟨va, vc, rfl⟩ := hown1.shape
      have c0 : W1.cell? ⟨w.heap.size, 0, none⟩ = some (.slice va acc.length vc) := by rw [Lib.cell_of_heap hb1]; rfl
      have HIP : Hid (wr.iterPos (w.heap.size + 1) = pos) := by unfold Hid; simp [World.iterPos, hit]
      have HIT := Lib.hid hit1; have HO := Lib.hid hown1; have HX := Lib.hid hx1; have HA := Lib.hid hacc'; have HB := Lib.hid hb1; have HS1 := Lib.hid hs1
      have hs1' : w.heap.size + 1 < W1.heap.size := by omega
      clear hW1 hit hit1 hown hown1 hx hx1 hacc hacc' hb hb1 hs1
      generalize (Utf8.decode s pos).2 = wid at *
      generalize hrn : ((Utf8.decode s pos).1 : Int) = rn at *
      clear hrn
      go_wp2_with (at_builtin; refine wpList_append_rune rfl (.tmp 17) (.tmp 19) rfl (w.heap.size + 2) W1 _ _ _ rfl rfl HO.out (by omega) (by omega) ?_)
      intro v' w2 hown' hg
      obtain ⟨va', vc', rfl⟩ := hown'.shape
      have hne0 : ∀ k, (Value.slice va acc.length vc).ownBlock = some k → w.heap.size + 2 ≤ k := fun k hk => HO.out.base k hk
      have hb2 : w2.heap[w.heap.size]? = some (.cells #[.slice va acc.length vc, .int .i64 0] 90 (0, 0)) := by
        rw [hg.block _ (by omega) (fun e => by have := hne0 _ e.symm; omega)]; exact HB.out
      have hit2 : w2.heap[w.heap.size + 1]? = some (.stringIter s (pos + wid)) := by
        rw [hg.block _ (by omega) (fun e => by have := hne0 _ e.symm; omega)]; exact HIT.out
      have d0 : w2.cell? ⟨w.heap.size, 0, none⟩ = some (.slice va acc.length vc) := by rw [Lib.cell_of_heap hb2]; rfl
      have g0 : w2.frozen? ⟨w.heap.size, 0, none⟩ = false := Lib.frozen_of_heap hb2 0
      have hx2 : Ext w w2 := HX.out.grown hg (fun q hq => by have := hne0 q hq; omega)
      have HREL : Hid (NRel s w (pos + wid) f (acc ++ [rn]) (.slice va' (acc ++ [rn]).length vc') (w2.setCell ⟨w.heap.size, 0, none⟩ (.slice va' (acc ++ [rn]).length vc'))) := by
        refine ⟨?_, ?_, ?_, hx2.setCell (Nat.le_refl _) _, HA.out, by omega, by simp; omega, ?_⟩
        · simp only [World.setCell, Array.getElem?_modify, if_true, hb2, Option.map_some]; rfl
        · rw [Below.heap_setCell _ _ _ _ (by simp)]; exact hit2
        · exact hown'.keep (asFrom_setCell (by simp))
        · simp; omega
      have HIP2 : Hid ((w2.setCell ⟨w.heap.size, 0, none⟩ (.slice va' (acc ++ [rn]).length vc')).iterPos (w.heap.size + 1) = pos + wid) := by
        unfold Hid World.iterPos
        rw [Below.heap_setCell _ _ _ _ (by simp), hit2]
      clear hown' hg hb2 hit2 hx2 hne0
      generalize (acc ++ [rn]).length = al at *
      go_wp2_with fail
      go_roundw
      case rel => exact ⟨_, _, _, _, HREL.out⟩
      case measure => rw [HIP2.out, HIP.out]; omega
    · have hnx : ∀ ty, (Instr.next (.pointer (some ⟨w.heap.size + 1, 0, none⟩)) true ty).run Tryd.prog wr = _ := fun ty => Lib.run_next_end_at wr (w.heap.size + 1) s pos ty hit hp
      have HF : Hid (NewRunesPost s w (.returned (.pointer (some ⟨w.heap.size, 0, none⟩))) wr) := by
        rw [runesFrom_end s fuel pos hp, List.append_nil] at hacc
        refine ⟨v, rfl, hx, hb, ?_⟩
        rw [← hacc]
        exact hown.runesIn (by omega) (by omega) (by omega)
      clear hown hx hacc hb hit
      go_wp2_with fail
      go_ret
      exact HF.out
end Go.Proofs.YtdancokndklpnaaDoor
namespace Go.Proofs.YtdancokndklpnaaDoor
open Go.RowKit

/-- The expression lies at block b, offset o; the blocks of its kids are in S; nodes have kids, leaves have none. -/
inductive IsS (S : Nat → Prop) (w : World) : Nat → Nat → E → Prop
  | leaf {b o : Nat} {op wd n : Int} : w.cell? ⟨b, o, .none⟩ = some (.int .i64 op) → w.cell? ⟨b, o + 1, .none⟩ = some (.int .i64 wd) → w.cell? ⟨b, o + 2, .none⟩ = some (.int .i64 n) →
      w.cell? ⟨b, o + 3, .none⟩ = some (.slice .none 0 0) → IsS S w b o (.mk op wd n [])
  | node {b o : Nat} {op wd n : Int} {ks : List E} {b' o' cap : Nat} : w.cell? ⟨b, o, .none⟩ = some (.int .i64 op) → w.cell? ⟨b, o + 1, .none⟩ = some (.int .i64 wd) → w.cell? ⟨b, o + 2, .none⟩ = some (.int .i64 n) →
      w.cell? ⟨b, o + 3, .none⟩ = some (.slice (.some ⟨b', o', .none⟩) ks.length cap) → ks.length ≤ 9223372036854775807 → b' < w.heap.size → S b' → (∀ (i : Nat) (h : i < ks.length), IsS S w b' (o' + i * 4) ks[i]) → IsS S w b o (.mk op wd n ks)
def KidsS (S : Nat → Prop) (w : World) (v : Value) (ks : List E) : Prop :=
  (v = .slice .none 0 0 ∧ ks = []) ∨ ∃ b o cap : Nat, v = .slice (.some ⟨b, o, .none⟩) ks.length cap ∧ ks.length ≤ 9223372036854775807 ∧ b < w.heap.size ∧ S b ∧ ∀ (i : Nat) (h : i < ks.length), IsS S w b (o + i * 4) ks[i]
def EValS (S : Nat → Prop) (w : World) (v : Value) (e : E) : Prop := ∃ k, v = .agg #[.int .i64 e.op, .int .i64 e.wd, .int .i64 e.n, k] ∧ KidsS S w k e.kids

theorem IsS.isE {S : Nat → Prop} {w : World} {b o : Nat} {e : E} (h : IsS S w b o e) : IsE w b o e := by
  induction h with
  | leaf h0 h1 h2 h3 => exact .leaf h0 h1 h2 h3
  | node h0 h1 h2 h3 hl _ _ _ ih => exact .node h0 h1 h2 h3 hl ih
theorem KidsS.kids {S : Nat → Prop} {w : World} {v : Value} {ks : List E} (h : KidsS S w v ks) : Kids w v ks := by
  rcases h with h | ⟨b, o, cap, h1, hl, _, _, h2⟩
  · exact .inl ⟨⟨_, _, h.1⟩, h.2⟩
  · exact .inr ⟨b, o, cap, h1, hl, fun i hi => (h2 i hi).isE⟩
theorem EValS.eVal {S : Nat → Prop} {w : World} {v : Value} {e : E} (h : EValS S w v e) : EVal w v e := by
  obtain ⟨k, h1, h2⟩ := h; exact ⟨k, h1, h2.kids⟩
theorem IsS.mono {S S' : Nat → Prop} {w : World} {b o : Nat} {e : E} (h : IsS S w b o e) (hS : ∀ k, k < w.heap.size → S k → S' k) : IsS S' w b o e := by
  induction h with
  | leaf h0 h1 h2 h3 => exact .leaf h0 h1 h2 h3
  | node h0 h1 h2 h3 hl hb hs _ ih => exact .node h0 h1 h2 h3 hl hb (hS _ hb hs) ih
theorem KidsS.mono {S S' : Nat → Prop} {w : World} {v : Value} {ks : List E} (h : KidsS S w v ks) (hS : ∀ k, k < w.heap.size → S k → S' k) : KidsS S' w v ks := by
  rcases h with h | ⟨b, o, cap, h1, hl, hb, hs, h2⟩
  · exact .inl h
  · exact .inr ⟨b, o, cap, h1, hl, hb, hS _ hb hs, fun i hi => (h2 i hi).mono hS⟩
/-- The blocks in S are as they were. -/
def AsIn (S : Nat → Prop) (w w' : World) : Prop := w.heap.size ≤ w'.heap.size ∧ ∀ k, S k → k < w.heap.size → w'.heap[k]? = w.heap[k]?
theorem AsIn.cell {S : Nat → Prop} {w w' : World} (h : AsIn S w w') {p : Addr} {v : Value} (hp : S p.block) (hc : w.cell? p = some v) : w'.cell? p = some v := by
  rw [World.cell?_of_block (h.2 p.block hp (block_lt hc))]; exact hc
theorem IsS.keep {S : Nat → Prop} {w w' : World} {b o : Nat} {e : E} (h : IsS S w b o e) (hb : S b) (hx : AsIn S w w') : IsS S w' b o e := by
  induction h with
  | leaf h0 h1 h2 h3 => exact .leaf (hx.cell hb h0) (hx.cell hb h1) (hx.cell hb h2) (hx.cell hb h3)
  | node h0 h1 h2 h3 hl hb' hs _ ih => exact .node (hx.cell hb h0) (hx.cell hb h1) (hx.cell hb h2) (hx.cell hb h3) hl (Nat.lt_of_lt_of_le hb' hx.1) hs (fun i hi => ih i hi hs)
theorem KidsS.keep {S : Nat → Prop} {w w' : World} {v : Value} {ks : List E} (h : KidsS S w v ks) (hx : AsIn S w w') : KidsS S w' v ks := by
  rcases h with h | ⟨b, o, cap, h1, hl, hb, hs, h2⟩
  · exact .inl h
  · exact .inr ⟨b, o, cap, h1, hl, Nat.lt_of_lt_of_le hb hx.1, hs, fun i hi => (h2 i hi).keep hs hx⟩
theorem asIn_ext {S : Nat → Prop} {w w' : World} (h : Ext w w') : AsIn S w w' := ⟨h.size, fun k _ hk => h.block k hk⟩
theorem asIn_grown {S : Nat → Prop} {w w' : World} {g : Option Nat} (h : w.grownBy w' g) (hS : ∀ k, S k → some k ≠ g) : AsIn S w w' := ⟨h.size, fun k hs hk => h.block k hk (hS k hs)⟩
theorem asIn_put4 {S : Nat → Prop} {w : World} {R o : Nat} {a b c d : Value} (hR : ¬ S R) : AsIn S w (put4 w R o a b c d) := ⟨by rw [put4_size]; exact Nat.le_refl _, fun k hs _ => put4_heap k (fun e => hR (e ▸ hs))⟩
theorem asIn_set {S : Nat → Prop} {w : World} {R o : Nat} {v : Value} (hR : ¬ S R) : AsIn S w (w.setCell ⟨R, o, none⟩ v) := ⟨by simp [World.setCell], fun k hs _ => Below.heap_setCell _ _ _ _ (fun e => hR (by have e' : k = R := e; exact e' ▸ hs))⟩
theorem AsIn.trans {S : Nat → Prop} {a b c : World} (h : AsIn S a b) (k : AsIn S b c) : AsIn S a c := ⟨Nat.le_trans h.1 k.1, fun i hs hi => (k.2 i hs (Nat.lt_of_lt_of_le hi h.1)).trans (h.2 i hs hi)⟩

def cells4' (p : E × Value) : List Value := [.int .i64 p.1.op, .int .i64 p.1.wd, .int .i64 p.1.n, p.2]
def flat4 (ps : List (E × Value)) : List Value := ps.flatMap cells4'
theorem flat4_len (ps : List (E × Value)) : (flat4 ps).length = ps.length * 4 := by
  induction ps with
  | nil => rfl
  | cons p r ih => simp only [flat4, List.flatMap_cons, List.length_append, List.length_cons, cells4', List.length_nil] at *; omega
theorem flat4_get (ps : List (E × Value)) (i j : Nat) (hi : i < ps.length) (hj : j < 4) : (flat4 ps)[i * 4 + j]? = (cells4' ps[i])[j]? := by
  induction ps generalizing i with
  | nil => simp at hi
  | cons p r ih =>
    simp only [flat4, List.flatMap_cons]
    cases i with
    | zero => rw [List.getElem?_append_left (by simp [cells4']; omega)]; simp
    | succ i =>
      rw [List.getElem?_append_right (by simp [cells4']; omega)]
      have := ih i (by simpa using hi)
      simp only [flat4] at this
      simp only [cells4', List.length_cons, List.length_nil, List.getElem_cons_succ] at *
      rw [show (i + 1) * 4 + j - (0 + 1 + 1 + 1 + 1) = i * 4 + j by omega]
      exact this

/-- A slice of expressions of the call's own, from 'base' on; the blocks of the kids are not the slice's. -/
def OwnE (w : World) (base : Nat) (v : Value) (ps : List (E × Value)) : Prop :=
  w.ownsRow base 24 4 v ps.length (flat4 ps) ∧ ∀ p ∈ ps, KidsS (fun b => base ≤ b ∧ some b ≠ v.ownBlock) w p.2 p.1.kids
theorem OwnE.nil (w : World) (base : Nat) : OwnE w base (.slice none 0 0) [] := ⟨⟨rfl, .inl ⟨rfl, rfl⟩⟩, fun _ h => by cases h⟩
theorem OwnE.shape {w : World} {base : Nat} {v : Value} {ps : List (E × Value)} (h : OwnE w base v ps) : ∃ a c, v = .slice a ps.length c := by
  rcases h.1.2 with ⟨rfl, hl⟩ | ⟨g, cap, cur, rfl, _⟩
  · exact ⟨none, 0, by rw [hl]⟩
  · exact ⟨_, _, rfl⟩
theorem OwnE.base {w : World} {base : Nat} {v : Value} {ps : List (E × Value)} (h : OwnE w base v ps) (k : Nat) (hk : v.ownBlock = some k) : base ≤ k ∧ k < w.heap.size := by
  rcases h.1.2 with ⟨rfl, _⟩ | ⟨g, cap, cur, rfl, hg, hh, _⟩
  · cases hk
  · simp [Value.ownBlock] at hk
    subst hk
    refine ⟨hg, ?_⟩
    rcases Nat.lt_or_ge g w.heap.size with h | h
    · exact h
    · rw [Array.getElem?_eq_none_iff.2 h] at hh; cases hh
/-- Kept by what leaves the blocks from base on alone. -/
theorem OwnE.keep {w w' : World} {base : Nat} {v : Value} {ps : List (E × Value)} (h : OwnE w base v ps) (hx : AsIn (fun b => base ≤ b) w w') : OwnE w' base v ps := by
  refine ⟨⟨h.1.1, ?_⟩, fun p hp => (h.2 p hp).keep ⟨hx.1, fun k hs hk => hx.2 k hs.1 hk⟩⟩
  rcases h.1.2 with h2 | ⟨g, cap, cur, hv, hg, hh, r⟩
  · exact .inl h2
  · refine .inr ⟨g, cap, cur, hv, hg, ?_, r⟩
    have hlt : g < w.heap.size := by
      rcases Nat.lt_or_ge g w.heap.size with h | h
      · exact h
      · rw [Array.getElem?_eq_none_iff.2 h] at hh; cases hh
    rw [hx.2 g hg hlt]; exact hh
/-- It reads as the list of expressions. -/
theorem OwnE.kids {w : World} {base : Nat} {v : Value} {ps : List (E × Value)} (h : OwnE w base v ps) : KidsS (fun b => base ≤ b) w v (ps.map (·.1)) := by
  rcases h.1.2 with ⟨rfl, hl⟩ | ⟨g, cap, cur, rfl, hg, hh, hn, hc, hs, ht⟩
  · have := List.length_eq_zero_iff.1 hl; subst this; exact .inl ⟨rfl, rfl⟩
  · have hlt : g < w.heap.size := by
      rcases Nat.lt_or_ge g w.heap.size with h | h
      · exact h
      · rw [Array.getElem?_eq_none_iff.2 h] at hh; cases hh
    refine .inr ⟨g, 0, cap, by rw [List.length_map], by rw [List.length_map]; unfold maxLen at hc; omega, hlt, hg, fun i hi => ?_⟩
    rw [List.length_map] at hi
    have cell : ∀ j, j < 4 → w.cell? ⟨g, i * 4 + j, none⟩ = (cells4' ps[i])[j]? := by
      intro j hj
      have e1 := congrArg (fun x => x[i * 4 + j]?) ht
      rw [List.getElem?_take_of_lt (by omega), flat4_get ps i j hi hj] at e1
      rw [← e1]
      simp [World.cell?, hh]
    have k := (h.2 ps[i] (List.getElem_mem hi)).mono (S' := fun b => base ≤ b) (fun k _ hk => hk.1)
    rw [List.getElem_map, Nat.zero_add]
    have c0 := cell 0 (by omega); have c1 := cell 1 (by omega); have c2 := cell 2 (by omega); have c3 := cell 3 (by omega)
    simp only [cells4', Nat.add_zero, List.getElem?_cons_zero, List.getElem?_cons_succ] at c0 c1 c2 c3
    generalize ps[i] = p at *
    obtain ⟨⟨op, wd, n, ks⟩, kv⟩ := p
    simp only [E.op_mk, E.wd_mk, E.n_mk, E.kids_mk] at *
    rcases k with ⟨rfl, rfl⟩ | ⟨b, o, c, rfl, hl, hb, hsb, hk⟩
    · exact .leaf c0 c1 c2 c3
    · exact .node c0 c1 c2 c3 hl hb hsb hk

theorem KidsS.one {S : Nat → Prop} {w : World} {v : Value} {ks : List E} (h : KidsS S w v ks) : v.oneCell' = true := by
  rcases h with ⟨rfl, _⟩ | ⟨b, o, cap, rfl, _⟩ <;> rfl
theorem KidsS.shape {S : Nat → Prop} {w : World} {v : Value} {ks : List E} (h : KidsS S w v ks) : ∃ a l c, v = .slice a l c := by
  rcases h with ⟨rfl, _⟩ | ⟨b, o, cap, rfl, _⟩
  · exact ⟨_, _, _, rfl⟩
  · exact ⟨_, _, _, rfl⟩

theorem wpList_append_expr {ops : Array Oper} {rest : List Oper} {o : Oper} {a : Act} {Q : Exit → Act → World → Prop} (hgd : o.guard = none) (s x : Operand)
    (ho : o.op = .call { callee := .builtin .append, args := #[s, x], argTypes := #[22, 22] }) (base : Nat) (wr : World) (H : Nat) (hH : wr.heap.size = H) (v : Value) (ps : List (E × Value)) (e : E) (kv : Value)
    (hs : a.eval s = v) (hx' : a.eval x = .slice (some ⟨H, 0, none⟩) 1 1) (hown : OwnE wr base v ps) (hk : KidsS (fun b => base ≤ b ∧ some b ≠ v.ownBlock) wr kv e.kids) (hl : ps.length ≤ 1000000) (hb : base ≤ wr.heap.size)
    (h : ∀ g cap w', OwnE w' base (.slice (some ⟨g, 0, none⟩) (ps.length + 1) cap) (ps ++ [(e, kv)]) → wr.grownBy w' v.ownBlock → base ≤ g → wpList Tryd.prog ops Q rest (a.put o.dst (.slice (some ⟨g, 0, none⟩) (ps.length + 1) cap)) w') :
    wpList Tryd.prog ops Q (o :: rest) a (wr.alloc (.cells #[.int .i64 e.op, .int .i64 e.wd, .int .i64 e.n, kv] 24)) := by
  obtain ⟨i0, hi, hz0, hz1, hz2⟩ := info_parts infoExpr
  have hx : a.eval x = .slice (some ⟨wr.heap.size, 0, none⟩) 1 1 := by rw [hH]; exact hx'
  have hx0 : Ext wr (wr.alloc (.cells #[.int .i64 e.op, .int .i64 e.wd, .int .i64 e.n, kv] 24)) := (Ext.refl wr).alloc _
  have hown0 := hown.keep (asIn_ext hx0)
  refine wpList_append_lies _ hgd s x 22 ho base 24 i0 _ 4 48 Tryd.underlying22 hi hz0 hz1 hz2 rfl (by decide) v ps.length (flat4 ps) hs hown0.1 ⟨wr.heap.size, 0, none⟩ 1 1 (cells4' (e, kv)) hx rfl ?_ ?_ (by decide) ?_ ?_ ?_ (wr.heap.size + 1) (by simp) ?_
  · intro j u hj
    have hj4 : j < 4 := by have := (List.getElem?_eq_some_iff.1 hj).1; simpa [cells4'] using this
    have : j = 0 ∨ j = 1 ∨ j = 2 ∨ j = 3 := by omega
    rw [addr_add]
    rcases this with rfl | rfl | rfl | rfl <;> simp [cells4'] at hj <;> subst hj <;> simp
  · intro u hu
    simp [cells4'] at hu
    rcases hu with rfl | rfl | rfl | rfl
    · rfl
    · rfl
    · rfl
    · exact hk.one
  · unfold maxLen; omega
  · omega
  · simp; omega
  · intro g cap w' h1 h2 h3 h4
    have hgr : wr.grownBy w' v.ownBlock := ⟨h2.os, h2.tape, h2.output, by have := h2.size; simp at this; omega, fun k hk hne => by rw [h2.block k (by simp; omega) hne]; exact Below.heap_alloc wr _ k hk⟩
    have hbg : base ≤ g := by
      rcases h1.2 with ⟨e, _⟩ | ⟨g', _, _, e, hg', _⟩
      · cases e
      · cases e; exact hg'
    have keep : ∀ (u : Value) (ks : List E), KidsS (fun b => base ≤ b ∧ some b ≠ v.ownBlock) wr u ks → KidsS (fun b => base ≤ b ∧ some b ≠ (Value.slice (some ⟨g, 0, none⟩) (ps.length + 1) cap).ownBlock) w' u ks := by
      intro u ks hu
      have h5 : KidsS (fun b => (base ≤ b ∧ some b ≠ v.ownBlock) ∧ b < wr.heap.size) wr u ks := hu.mono fun k hk hs => ⟨hs, hk⟩
      have h6 := h5.keep (w' := w') (asIn_grown hgr fun k hs => hs.1.2)
      refine h6.mono fun k _ hs => ⟨hs.1.1, ?_⟩
      simp only [Value.ownBlock, ne_eq, Option.some.injEq]
      rintro rfl
      rcases h3 with h3 | h3
      · exact hs.1.2 h3.symm
      · omega
    refine h g cap w' ⟨?_, ?_⟩ hgr hbg
    · have : flat4 (ps ++ [(e, kv)]) = flat4 ps ++ cells4' (e, kv) := by simp [flat4]
      rw [this, List.length_append]; exact h1
    · intro p hp
      rcases List.mem_append.1 hp with hp | hp
      · exact keep _ _ (hown.2 p hp)
      · simp at hp; subst hp; exact keep _ _ hk
end Go.Proofs.YtdancokndklpnaaDoor
namespace Go.Proofs.YtdancokndklpnaaDoor
open Go.RowKit

/-- The operands: at most f of them, a comma between two. -/
def kidsS (rd : List Int → Option (E × Nat)) : Nat → List Int → Option (List E × Nat)
  | 0, _ => none
  | f + 1, s =>
    match rd s with
    | none => none
    | some (e, c) => if s[c]? = some 44 then (match kidsS rd f (s.drop (c + 1)) with | none => none | some (es, c') => some (e :: es, c + 1 + c')) else some ([e], c)
/-- The end of a node: the operands and the bracket. -/
def nodeS (op : Int) (m : Nat) (s : List Int) (r : Option (List E × Nat)) : Option (E × Nat) :=
  match r with
  | none => none
  | some (ks, c) => if s[c]? = some 41 then some (.mk op (widthS op ks) 0 ks, m + 1 + c + 1) else none
/-- An expression, at most d levels deep, and how many runes it takes. -/
def readS : Nat → List Int → Option (E × Nat)
  | 0, _ => none
  | d + 1, s =>
    if bytesOf (s.take (wordN s)) = [] then leafS 1 s
    else if bytesOf (s.take (wordN s)) = [99] then (leafS 2 (s.drop (wordN s))).map fun p => (p.1, wordN s + p.2)
    else if bytesOf (s.take (wordN s)) = [111] then (leafS 3 (s.drop (wordN s))).map fun p => (p.1, wordN s + p.2)
    else if operatorS (bytesOf (s.take (wordN s))) = 0 then none
    else if s[wordN s]? = some 40 then nodeS (operatorS (bytesOf (s.take (wordN s)))) (wordN s) (s.drop (wordN s + 1)) (kidsS (readS d) 3 (s.drop (wordN s + 1)))
    else none

/-- What has been read goes before what is still read. -/
def comb (es : List E) (c : Nat) (r : Option (List E × Nat)) : Option (List E × Nat) := match r with | none => none | some (fs, c') => some (es ++ fs, c + c')
theorem comb_none {rd : List Int → Option (E × Nat)} {es : List E} {c f : Nat} {s : List Int} (h : rd s = none) : comb es c (kidsS rd f s) = none := by
  cases f with
  | zero => rfl
  | succ f => simp [kidsS, h, comb]
theorem comb_more {rd : List Int → Option (E × Nat)} {es : List E} {c c1 f : Nat} {s : List Int} {e : E} (h : rd (s.drop c) = some (e, c1)) (h1 : s[c + c1]? = some 44) :
    comb es c (kidsS rd (f + 1) (s.drop c)) = comb (es ++ [e]) (c + c1 + 1) (kidsS rd f (s.drop (c + c1 + 1))) := by
  simp only [kidsS, h]
  rw [if_pos (by rw [List.getElem?_drop]; exact h1), List.drop_drop, show c + (c1 + 1) = c + c1 + 1 by omega]
  cases kidsS rd f (s.drop (c + c1 + 1)) with
  | none => rfl
  | some p => obtain ⟨fs, c'⟩ := p; simp only [comb, List.append_assoc, List.singleton_append]; rw [show c + (c1 + 1 + c') = c + c1 + 1 + c' by omega]
theorem comb_end {rd : List Int → Option (E × Nat)} {es : List E} {c c1 f : Nat} {s : List Int} {e : E} (h : rd (s.drop c) = some (e, c1)) (h1 : ¬ s[c + c1]? = some 44) :
    comb es c (kidsS rd (f + 1) (s.drop c)) = some (es ++ [e], c + c1) := by
  simp only [kidsS, h]
  rw [if_neg (by rw [List.getElem?_drop]; exact h1)]
  rfl
theorem get_peek {l : List Int} {k c : Nat} {x : Int} (hx : x ≠ -1) : ((l.drop k)[c]? = some x) ↔ (peekS l (k + c) == x) = true := by
  rw [List.getElem?_drop]
  unfold peekS
  cases l[k + c]? with
  | none => simp; exact fun h => hx h.symm
  | some y => simp

/-- What the reading of an expression leaves. -/
def ReadPS (w0 : World) (RB : Nat) (lv : Value) (l : List Int) (k : Nat) (sp : Option (E × Nat)) (w : World) (r : Ending) (w' : World) : Prop :=
  ∃ (e : E) (v : Value) (k' : Nat), r = .returned (.tuple #[v, .bool sp.isSome]) ∧ EValS (fun b => w.heap.size ≤ b) w' v e ∧ w.grownBy w' (some RB) ∧ RAt w0 RB lv k' w' ∧ k' ≤ l.length ∧ ∀ (e' : E) (c : Nat), sp = some (e', c) → e = e' ∧ k' = k + c
/-- The variables that the reading uses. -/
structure REnv (w0 : World) (RB RV FV : Nat) (lv : Value) (l : List Int) : Prop where
  runes : RunesIn w0 RB lv l
  rv : w0.heap[RV]? = some (.cells #[.pointer (some ⟨RB, 0, none⟩)] 81 (0, 0))
  fv : w0.heap[FV]? = some (.cells #[.func (.func 48) #[] #[.pointer (some ⟨RV, 0, none⟩), .pointer (some ⟨FV, 0, none⟩)]] 83 (0, 0))
  rvne : RV ≠ RB
  fvne : FV ≠ RB
  names : Names w0
  gne : 0 ≠ RB
theorem REnv.cells {w0 w : World} {RB RV FV : Nat} {lv : Value} {l : List Int} (h : REnv w0 RB RV FV lv l) (hg : w0.grownBy w (some RB)) :
    w.cell? ⟨RV, 0, none⟩ = some (.pointer (some ⟨RB, 0, none⟩)) ∧ w.cell? ⟨FV, 0, none⟩ = some (.func (.func 48) #[] #[.pointer (some ⟨RV, 0, none⟩), .pointer (some ⟨FV, 0, none⟩)]) := by
  refine ⟨?_, ?_⟩
  · rw [Lib.cell_of_heap (grown_block hg h.rvne h.rv)]; rfl
  · rw [Lib.cell_of_heap (grown_block hg h.fvne h.fv)]; rfl
theorem REnv.lt {w0 : World} {RB RV FV : Nat} {lv : Value} {l : List Int} (h : REnv w0 RB RV FV lv l) : RV < w0.heap.size ∧ FV < w0.heap.size := by
  refine ⟨?_, ?_⟩
  · rcases Nat.lt_or_ge RV w0.heap.size with h1 | h1
    · exact h1
    · have := h.rv; rw [Array.getElem?_eq_none_iff.2 h1] at this; cases this
  · rcases Nat.lt_or_ge FV w0.heap.size with h1 | h1
    · exact h1
    · have := h.fv; rw [Array.getElem?_eq_none_iff.2 h1] at this; cases this
theorem REnv.namesAt {w0 w : World} {RB RV FV : Nat} {lv : Value} {l : List Int} (h : REnv w0 RB RV FV lv l) (hg : w0.grownBy w (some RB)) : Names w := by
  obtain ⟨t, fr, hn⟩ := h.names
  exact ⟨t, fr, grown_block hg h.gne hn⟩
end Go.Proofs.YtdancokndklpnaaDoor
namespace Go.Proofs.YtdancokndklpnaaDoor
open Go.RowKit

abbrev zeroA : Array Value := #[.int .i64 0, .int .i64 0, .int .i64 0, .slice none 0 0]
/-- The contract of the closure at the levels up to d. -/
def ReadC (w0 : World) (RB RV FV : Nat) (lv : Value) (l : List Int) (d : Nat) : Prop := ∀ (dp : Int) (k : Nat) (w : World), dp + d = 41 → RAt w0 RB lv k w → k ≤ l.length →
  Calls Tryd.prog 48 #[.int .i64 dp, .pointer (some ⟨RV, 0, none⟩), .pointer (some ⟨FV, 0, none⟩)] w (ReadPS w0 RB lv l k (readS d (l.drop k)) w)

/-- The reading failed: the zero expression. -/
theorem read_fail {w0 : World} {RB k k' : Nat} {lv : Value} {l : List Int} {sp : Option (E × Nat)} {w W : World} (hsp : sp = none) (hg : w.grownBy W (some RB)) (hR : RAt w0 RB lv k' W) (hk : k' ≤ l.length) (hw : w0.heap.size ≤ w.heap.size) (hne : w.heap.size ≠ RB) :
    ReadPS w0 RB lv l k sp w (.returned (.tuple #[.agg zeroA, .bool false])) (put4 W w.heap.size 0 (.int .i64 0) (.int .i64 0) (.int .i64 0) (.slice none 0 0)) := by
  refine ⟨.mk 0 0 0 [], _, k', by rw [hsp]; rfl, ⟨_, rfl, .inl ⟨rfl, rfl⟩⟩, grown_put4 hg (Nat.le_refl _), put4_grown hR hw hne, hk, fun e c h => ?_⟩
  rw [hsp] at h; cases h
/-- A leaf was read, or not. -/
theorem read_leaf {w0 : World} {RB k k1 : Nat} {lv : Value} {l : List Int} {sp sp' : Option (E × Nat)} {w W : World} {e : E} {v : Value} (m : Nat) (hsp : sp = sp'.map fun p => (p.1, m + p.2)) (hv : v = .agg #[.int .i64 e.op, .int .i64 e.wd, .int .i64 e.n, .slice none 0 0] ∧ e.kids = []) (hg : w.grownBy W (some RB)) (hR : RAt w0 RB lv k1 W) (hk : k1 ≤ l.length) (hw : w0.heap.size ≤ w.heap.size) (hne : w.heap.size ≠ RB)
    (hc : ∀ (e' : E) (c : Nat), sp' = some (e', c) → e = e' ∧ k1 = k + m + c) :
    ReadPS w0 RB lv l k sp w (.returned (.tuple #[v, .bool sp'.isSome])) (put4 W w.heap.size 0 (.int .i64 e.op) (.int .i64 e.wd) (.int .i64 e.n) (.slice none 0 0)) := by
  refine ⟨e, v, k1, by rw [hsp]; cases sp' <;> rfl, ⟨_, hv.1, .inl ⟨rfl, hv.2⟩⟩, grown_put4 hg (Nat.le_refl _), put4_grown hR hw hne, hk, fun e' c h => ?_⟩
  rw [hsp] at h
  cases hq : sp' with
  | none => rw [hq] at h; cases h
  | some p =>
    obtain ⟨a, b⟩ := p
    rw [hq] at h
    cases h
    obtain ⟨h1, h2⟩ := hc a b hq
    exact ⟨h1, by omega⟩

set_option maxRecDepth 100000 in
set_option maxHeartbeats 4000000 in
theorem read_zero (w0 : World) (RB RV FV : Nat) (lv : Value) (l : List Int) : ReadC w0 RB RV FV lv l 0 := by
  intro dp k w hdp hR hk
  have hd41 : 41 ≤ dp := by omega
  have hd42 : dp ≤ 41 := by omega
  clear hdp
  have HF : Hid (ReadPS w0 RB lv l k (readS 0 (l.drop k)) w (.returned (.tuple #[.agg zeroA, .bool false])) (w.alloc (.cells zeroA 24))) :=
    ⟨.mk 0 0 0 [], _, k, rfl, ⟨_, rfl, .inl ⟨rfl, rfl⟩⟩, ext_grown ((Ext.refl w).alloc _) _, hR.ext ((Ext.refl w).alloc _), hk, fun e c h => by cases h⟩
  have HB := Lib.hid (heap_new w (.cells zeroA 24))
  clear hR
  go_enter Tryd.func48, Tryd.ntmps48
  go_wp2_with fail
  exact bodyPost_ret (v := .tuple #[.agg zeroA, .bool false]) (results_row_tmp Tryd.results48 _ _ w.heap.size 24 _ (0, 0) _ rfl HB.out Tryd.underlying24 rfl sizeExpr) rfl HF.out

set_option maxRecDepth 100000 in
set_option maxHeartbeats 4000000 in
theorem read_leaves (w0 : World) (RB RV FV : Nat) (lv : Value) (l : List Int) (hE : REnv w0 RB RV FV lv l) (d : Nat) (dp : Int) (hd1 : 1 ≤ dp) (hd40 : dp ≤ 40) (k : Nat) (w : World) (hR : RAt w0 RB lv k w) (hk : k ≤ l.length) (op : Int) (ho : (wordB l k = [] ∧ op = 1) ∨ (wordB l k = [99] ∧ op = 2) ∨ (wordB l k = [111] ∧ op = 3)) :
    Calls Tryd.prog 48 #[.int .i64 dp, .pointer (some ⟨RV, 0, none⟩), .pointer (some ⟨FV, 0, none⟩)] w (ReadPS w0 RB lv l k (readS (d + 1) (l.drop k)) w) := by
  have hws := hR.1.size
  have hRs := hR.lt
  have hx1 : Ext w (w.alloc (.cells zeroA 24)) := (Ext.refl w).alloc _
  have HR1 := Lib.hid (hR.ext hx1)
  obtain ⟨v1, _⟩ := hE.cells HR1.out.1
  have hkm : k + wordN (l.drop k) ≤ l.length := by have := wordN_le (l.drop k); simp at this; omega
  have HSP : Hid (readS (d + 1) (l.drop k) = (leafS op (l.drop (k + wordN (l.drop k)))).map fun p => (p.1, wordN (l.drop k) + p.2)) := by
    unfold Hid readS
    rcases ho with ⟨hb, rfl⟩ | ⟨hb, rfl⟩ | ⟨hb, rfl⟩
    · have hb' := hb
      unfold wordB at hb
      rw [if_pos hb]
      have hm : wordN (l.drop k) = 0 := by
        have h1 := congrArg List.length hb
        have h2 := wordN_le (l.drop k)
        simp only [bytesOf, List.length_map, List.length_take, List.length_nil] at h1
        omega
      rw [hm]
      cases leafS 1 (l.drop k) <;> simp
    · unfold wordB at hb
      rw [if_neg (by rw [hb]; simp), if_pos hb, List.drop_drop]
    · unfold wordB at hb
      rw [if_neg (by rw [hb]; simp), if_neg (by rw [hb]; decide), if_pos hb, List.drop_drop]
  have HE := Lib.hid hE
  clear hE hR hx1
  go_enter Tryd.func48, Tryd.ntmps48
  go_wp2_with fail
  refine (word_any w0 RB lv l k _ HE.out.runes HR1.out hk).mono ?_
  rintro r w2 ⟨rfl, hS2⟩
  obtain ⟨v2, _⟩ := HE.out.cells hS2.2.1
  have hb2 : w2.heap[w.heap.size]? = some (.cells zeroA 24 (0, 0)) := grown_block hS2.1 (by omega) (heap_new w _)
  have HG2 := Lib.hid (grownBy_tr (ext_grown ((Ext.refl w).alloc (.cells zeroA 24)) (some RB)) hS2.1); have HR2 := Lib.hid hS2.2; have HB2 := Lib.hid hb2
  clear hS2 hb2 v1
  have hmain : ∀ (r : Ending) (w3 : World), LeafPost w0 RB lv l (k + wordN (l.drop k)) (leafS op (l.drop (k + wordN (l.drop k)))) w2 r w3 → ∃ (e : E) (ok : Bool), r = .returned (.tuple #[.agg #[.int .i64 e.op, .int .i64 e.wd, .int .i64 e.n, .slice none 0 0], .bool ok]) ∧ w3.heap[w.heap.size]? = some (.cells zeroA 24 (0, 0)) ∧
      ReadPS w0 RB lv l k (readS (d + 1) (l.drop k)) w (.returned (.tuple #[.agg #[.int .i64 e.op, .int .i64 e.wd, .int .i64 e.n, .slice none 0 0], .bool ok])) (put4 w3 w.heap.size 0 (.int .i64 e.op) (.int .i64 e.wd) (.int .i64 e.n) (.slice none 0 0)) := by
    rintro r w3 ⟨e, v, k1, rfl, hv, hg, hR3, hk1, hc⟩
    refine ⟨e, _, by rw [hv.1], grown_block hg (by omega) HB2.out, ?_⟩
    have := read_leaf (k := k) (sp := readS (d + 1) (l.drop k)) (wordN (l.drop k)) HSP.out hv (grownBy_tr HG2.out hg) hR3 hk1 hws (by omega) hc
    rw [hv.1] at this; exact this
  have HMA := Lib.hid hmain; clear hmain
  generalize wordB l k = wb at *
  rcases ho with ⟨rfl, rfl⟩ | ⟨rfl, rfl⟩ | ⟨rfl, rfl⟩
  all_goals
    go_wp2_with fail
    refine (leaf_any w0 RB lv l _ _ w2 HE.out.runes HR2.out hkm).mono ?_
    intro r w3 hp
    obtain ⟨e, ok, rfl, hb3, hfin⟩ := HMA.out _ _ hp
    obtain ⟨c0, c1, c2, c3, f0, f1, f2, f3⟩ := cells_of_block hb3
    have HB3 := Lib.hid (put4_new (x := .int .i64 e.op) (y := .int .i64 e.wd) (z := .int .i64 e.n) (u := .slice none 0 0) hb3)
    have HFI := Lib.hid hfin
    clear hp hb3 hfin
    go_wp2_with fail
    exact bodyPost_ret (v := .tuple #[.agg #[.int .i64 e.op, .int .i64 e.wd, .int .i64 e.n, .slice none 0 0], .bool ok]) (results_row_tmp Tryd.results48 _ _ w.heap.size 24 _ (0, 0) _ rfl HB3.out Tryd.underlying24 rfl sizeExpr) rfl HFI.out
end Go.Proofs.YtdancokndklpnaaDoor
