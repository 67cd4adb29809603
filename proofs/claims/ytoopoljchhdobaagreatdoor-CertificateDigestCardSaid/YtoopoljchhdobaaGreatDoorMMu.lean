/-
  What the reading of an expression computes.
  The walk of Read's closure: the leaves and the failures.
  The walk of Read's closure at a node.
-/
import Derived.Test.YtoopoljchhdobaaGreatDoorMMt
import Derived.Deep.RegionHeld3
namespace Go.Proofs.YtoopoljchhdobaaGreatDoor
open Go.RowKit

/-- The operands: at most f of them, a comma between two. -/
def kidsS (rd : List Int → Option (E × Nat)) : Nat → List Int → Option (List E × Nat)
  | 0, _ => none
  | f + 1, s =>
    match rd s with
    | none => none
    | some (e, c) => if s[c]? = some 44 then (match kidsS rd f (s.drop (c + 1)) with | none => none | some (es, c') => some (e :: es, c + 1 + c')) else some ([e], c)
/-- The end of a node: the operands and the bracket. -/
def nodeS (op : Int) (m : Nat) (s : List Int) (r : Option (List E × Nat)) : Option (E × Nat) :=
  match r with
  | none => none
  | some (ks, c) => if s[c]? = some 41 then some (.mk op (widthS op ks) 0 ks, m + 1 + c + 1) else none
/-- An expression, at most d levels deep, and how many runes it takes. -/
def readS : Nat → List Int → Option (E × Nat)
  | 0, _ => none
  | d + 1, s =>
    if bytesOf (s.take (wordN s)) = [] then leafS 1 s
    else if bytesOf (s.take (wordN s)) = [99] then (leafS 2 (s.drop (wordN s))).map fun p => (p.1, wordN s + p.2)
    else if bytesOf (s.take (wordN s)) = [111] then (leafS 3 (s.drop (wordN s))).map fun p => (p.1, wordN s + p.2)
    else if operatorS (bytesOf (s.take (wordN s))) = 0 then none
    else if s[wordN s]? = some 40 then nodeS (operatorS (bytesOf (s.take (wordN s)))) (wordN s) (s.drop (wordN s + 1)) (kidsS (readS d) 3 (s.drop (wordN s + 1)))
    else none

/-- What has been read goes before what is still read. -/
def comb (es : List E) (c : Nat) (r : Option (List E × Nat)) : Option (List E × Nat) := match r with | none => none | some (fs, c') => some (es ++ fs, c + c')
theorem comb_none {rd : List Int → Option (E × Nat)} {es : List E} {c f : Nat} {s : List Int} (h : rd s = none) : comb es c (kidsS rd f s) = none := by
  cases f with
  | zero => rfl
  | succ f => simp [kidsS, h, comb]
theorem comb_more {rd : List Int → Option (E × Nat)} {es : List E} {c c1 f : Nat} {s : List Int} {e : E} (h : rd (s.drop c) = some (e, c1)) (h1 : s[c + c1]? = some 44) :
    comb es c (kidsS rd (f + 1) (s.drop c)) = comb (es ++ [e]) (c + c1 + 1) (kidsS rd f (s.drop (c + c1 + 1))) := by
  simp only [kidsS, h]
  rw [if_pos (by rw [List.getElem?_drop]; exact h1), List.drop_drop, show c + (c1 + 1) = c + c1 + 1 by omega]
  cases kidsS rd f (s.drop (c + c1 + 1)) with
  | none => rfl
  | some p => obtain ⟨fs, c'⟩ := p; simp only [comb, List.append_assoc, List.singleton_append]; rw [show c + (c1 + 1 + c') = c + c1 + 1 + c' by omega]
theorem comb_end {rd : List Int → Option (E × Nat)} {es : List E} {c c1 f : Nat} {s : List Int} {e : E} (h : rd (s.drop c) = some (e, c1)) (h1 : ¬ s[c + c1]? = some 44) :
    comb es c (kidsS rd (f + 1) (s.drop c)) = some (es ++ [e], c + c1) := by
  simp only [kidsS, h]
  rw [if_neg (by rw [List.getElem?_drop]; exact h1)]
  rfl
theorem get_peek {l : List Int} {k c : Nat} {x : Int} (hx : x ≠ -1) : ((l.drop k)[c]? = some x) ↔ (peekS l (k + c) == x) = true := by
  rw [List.getElem?_drop]
  unfold peekS
  cases l[k + c]? with
  | none => simp; exact fun h => hx h.symm
  | some y => simp

/-- What the reading of an expression leaves. -/
def ReadPS (w0 : World) (RB : Nat) (lv : Value) (l : List Int) (k : Nat) (sp : Option (E × Nat)) (w : World) (r : Ending) (w' : World) : Prop :=
  ∃ (e : E) (v : Value) (k' : Nat), r = .returned (.tuple #[v, .bool sp.isSome]) ∧ EValS (fun b => w.heap.size ≤ b) w' v e ∧ w.grownBy w' (some RB) ∧ RAt w0 RB lv k' w' ∧ k' ≤ l.length ∧ ∀ (e' : E) (c : Nat), sp = some (e', c) → e = e' ∧ k' = k + c
/-- The variables that the reading uses. -/
structure REnv (w0 : World) (RB RV FV : Nat) (lv : Value) (l : List Int) : Prop where
  runes : RunesIn w0 RB lv l
  rv : w0.heap[RV]? = some (.cells #[.pointer (some ⟨RB, 0, none⟩)] 50 (0, 0))
  fv : w0.heap[FV]? = some (.cells #[.func (.func 19) #[] #[.pointer (some ⟨RV, 0, none⟩), .pointer (some ⟨FV, 0, none⟩)]] 52 (0, 0))
  rvne : RV ≠ RB
  fvne : FV ≠ RB
  names : Names w0
  gne : 0 ≠ RB
theorem REnv.cells {w0 w : World} {RB RV FV : Nat} {lv : Value} {l : List Int} (h : REnv w0 RB RV FV lv l) (hg : w0.grownBy w (some RB)) :
    w.cell? ⟨RV, 0, none⟩ = some (.pointer (some ⟨RB, 0, none⟩)) ∧ w.cell? ⟨FV, 0, none⟩ = some (.func (.func 19) #[] #[.pointer (some ⟨RV, 0, none⟩), .pointer (some ⟨FV, 0, none⟩)]) := by
  refine ⟨?_, ?_⟩
  · rw [Lib.cell_of_heap (grown_block hg h.rvne h.rv)]; rfl
  · rw [Lib.cell_of_heap (grown_block hg h.fvne h.fv)]; rfl
theorem REnv.lt {w0 : World} {RB RV FV : Nat} {lv : Value} {l : List Int} (h : REnv w0 RB RV FV lv l) : RV < w0.heap.size ∧ FV < w0.heap.size := by
  refine ⟨?_, ?_⟩
  · rcases Nat.lt_or_ge RV w0.heap.size with h1 | h1
    · exact h1
    · have := h.rv; rw [Array.getElem?_eq_none_iff.2 h1] at this; cases this
  · rcases Nat.lt_or_ge FV w0.heap.size with h1 | h1
    · exact h1
    · have := h.fv; rw [Array.getElem?_eq_none_iff.2 h1] at this; cases this
theorem REnv.namesAt {w0 w : World} {RB RV FV : Nat} {lv : Value} {l : List Int} (h : REnv w0 RB RV FV lv l) (hg : w0.grownBy w (some RB)) : Names w := by
  obtain ⟨t, fr, hn⟩ := h.names
  exact ⟨t, fr, grown_block hg h.gne hn⟩
end Go.Proofs.YtoopoljchhdobaaGreatDoor
namespace Go.Proofs.YtoopoljchhdobaaGreatDoor
open Go.RowKit

abbrev zeroA : Array Value := #[.int .i64 0, .int .i64 0, .int .i64 0, .slice none 0 0]
/-- The contract of the closure at the levels up to d. -/
def ReadC (w0 : World) (RB RV FV : Nat) (lv : Value) (l : List Int) (d : Nat) : Prop := ∀ (dp : Int) (k : Nat) (w : World), dp + d = 41 → RAt w0 RB lv k w → k ≤ l.length →
  Calls Tryz.prog 19 #[.int .i64 dp, .pointer (some ⟨RV, 0, none⟩), .pointer (some ⟨FV, 0, none⟩)] w (ReadPS w0 RB lv l k (readS d (l.drop k)) w)

/-- The reading failed: the zero expression. -/
theorem read_fail {w0 : World} {RB k k' : Nat} {lv : Value} {l : List Int} {sp : Option (E × Nat)} {w W : World} (hsp : sp = none) (hg : w.grownBy W (some RB)) (hR : RAt w0 RB lv k' W) (hk : k' ≤ l.length) (hw : w0.heap.size ≤ w.heap.size) (hne : w.heap.size ≠ RB) :
    ReadPS w0 RB lv l k sp w (.returned (.tuple #[.agg zeroA, .bool false])) (put4 W w.heap.size 0 (.int .i64 0) (.int .i64 0) (.int .i64 0) (.slice none 0 0)) := by
  refine ⟨.mk 0 0 0 [], _, k', by rw [hsp]; rfl, ⟨_, rfl, .inl ⟨rfl, rfl⟩⟩, grown_put4 hg (Nat.le_refl _), put4_grown hR hw hne, hk, fun e c h => ?_⟩
  rw [hsp] at h; cases h
/-- A leaf was read, or not. -/
theorem read_leaf {w0 : World} {RB k k1 : Nat} {lv : Value} {l : List Int} {sp sp' : Option (E × Nat)} {w W : World} {e : E} {v : Value} (m : Nat) (hsp : sp = sp'.map fun p => (p.1, m + p.2)) (hv : v = .agg #[.int .i64 e.op, .int .i64 e.wd, .int .i64 e.n, .slice none 0 0] ∧ e.kids = []) (hg : w.grownBy W (some RB)) (hR : RAt w0 RB lv k1 W) (hk : k1 ≤ l.length) (hw : w0.heap.size ≤ w.heap.size) (hne : w.heap.size ≠ RB)
    (hc : ∀ (e' : E) (c : Nat), sp' = some (e', c) → e = e' ∧ k1 = k + m + c) :
    ReadPS w0 RB lv l k sp w (.returned (.tuple #[v, .bool sp'.isSome])) (put4 W w.heap.size 0 (.int .i64 e.op) (.int .i64 e.wd) (.int .i64 e.n) (.slice none 0 0)) := by
  refine ⟨e, v, k1, by rw [hsp]; cases sp' <;> rfl, ⟨_, hv.1, .inl ⟨rfl, hv.2⟩⟩, grown_put4 hg (Nat.le_refl _), put4_grown hR hw hne, hk, fun e' c h => ?_⟩
  rw [hsp] at h
  cases hq : sp' with
  | none => rw [hq] at h; cases h
  | some p =>
    obtain ⟨a, b⟩ := p
    rw [hq] at h
    cases h
    obtain ⟨h1, h2⟩ := hc a b hq
    exact ⟨h1, by omega⟩

set_option maxRecDepth 100000 in
set_option maxHeartbeats 4000000 in
theorem read_zero (w0 : World) (RB RV FV : Nat) (lv : Value) (l : List Int) : ReadC w0 RB RV FV lv l 0 := by
  intro dp k w hdp hR hk
  have hd41 : 41 ≤ dp := by omega
  have hd42 : dp ≤ 41 := by omega
  clear hdp
  have HF : Hid (ReadPS w0 RB lv l k (readS 0 (l.drop k)) w (.returned (.tuple #[.agg zeroA, .bool false])) (w.alloc (.cells zeroA 24))) :=
    ⟨.mk 0 0 0 [], _, k, rfl, ⟨_, rfl, .inl ⟨rfl, rfl⟩⟩, ext_grown ((Ext.refl w).alloc _) _, hR.ext ((Ext.refl w).alloc _), hk, fun e c h => by cases h⟩
  have HB := Lib.hid (heap_new w (.cells zeroA 24))
  clear hR
  go_enter Tryz.func19, Tryz.ntmps19
  go_wp2_with fail
  exact bodyPost_ret (v := .tuple #[.agg zeroA, .bool false]) (results_row_tmpR Tryz.results19 _ _ w.heap.size 24 _ (0, 0) _ rfl HB.out Tryz.underlying24 rfl sizeExpr) rfl HF.out

set_option maxRecDepth 100000 in
set_option maxHeartbeats 4000000 in
theorem read_leaves (w0 : World) (RB RV FV : Nat) (lv : Value) (l : List Int) (hE : REnv w0 RB RV FV lv l) (d : Nat) (dp : Int) (hd1 : 1 ≤ dp) (hd40 : dp ≤ 40) (k : Nat) (w : World) (hR : RAt w0 RB lv k w) (hk : k ≤ l.length) (op : Int) (ho : (wordB l k = [] ∧ op = 1) ∨ (wordB l k = [99] ∧ op = 2) ∨ (wordB l k = [111] ∧ op = 3)) :
    Calls Tryz.prog 19 #[.int .i64 dp, .pointer (some ⟨RV, 0, none⟩), .pointer (some ⟨FV, 0, none⟩)] w (ReadPS w0 RB lv l k (readS (d + 1) (l.drop k)) w) := by
  have hws := hR.1.size
  have hRs := hR.lt
  have hx1 : Ext w (w.alloc (.cells zeroA 24)) := (Ext.refl w).alloc _
  have HR1 := Lib.hid (hR.ext hx1)
  obtain ⟨v1, _⟩ := hE.cells HR1.out.1
  have hkm : k + wordN (l.drop k) ≤ l.length := by have := wordN_le (l.drop k); simp at this; omega
  have HSP : Hid (readS (d + 1) (l.drop k) = (leafS op (l.drop (k + wordN (l.drop k)))).map fun p => (p.1, wordN (l.drop k) + p.2)) := by
    unfold Hid readS
    rcases ho with ⟨hb, rfl⟩ | ⟨hb, rfl⟩ | ⟨hb, rfl⟩
    · have hb' := hb
      unfold wordB at hb
      rw [if_pos hb]
      have hm : wordN (l.drop k) = 0 := by
        have h1 := congrArg List.length hb
        have h2 := wordN_le (l.drop k)
        simp only [bytesOf, List.length_map, List.length_take, List.length_nil] at h1
        omega
      rw [hm]
      cases leafS 1 (l.drop k) <;> simp
    · unfold wordB at hb
      rw [if_neg (by rw [hb]; simp), if_pos hb, List.drop_drop]
    · unfold wordB at hb
      rw [if_neg (by rw [hb]; simp), if_neg (by rw [hb]; decide), if_pos hb, List.drop_drop]
  have HE := Lib.hid hE
  clear hE hR hx1
  go_enter Tryz.func19, Tryz.ntmps19
  go_wp2_with fail
  refine (word_any w0 RB lv l k _ HE.out.runes HR1.out hk).mono ?_
  rintro r w2 ⟨rfl, hS2⟩
  obtain ⟨v2, _⟩ := HE.out.cells hS2.2.1
  have hb2 : w2.heap[w.heap.size]? = some (.cells zeroA 24 (0, 0)) := grown_block hS2.1 (by omega) (heap_new w _)
  have HG2 := Lib.hid (grownBy_tr (ext_grown ((Ext.refl w).alloc (.cells zeroA 24)) (some RB)) hS2.1); have HR2 := Lib.hid hS2.2; have HB2 := Lib.hid hb2
  clear hS2 hb2 v1
  have hmain : ∀ (r : Ending) (w3 : World), LeafPost w0 RB lv l (k + wordN (l.drop k)) (leafS op (l.drop (k + wordN (l.drop k)))) w2 r w3 → ∃ (e : E) (ok : Bool), r = .returned (.tuple #[.agg #[.int .i64 e.op, .int .i64 e.wd, .int .i64 e.n, .slice none 0 0], .bool ok]) ∧ w3.heap[w.heap.size]? = some (.cells zeroA 24 (0, 0)) ∧
      ReadPS w0 RB lv l k (readS (d + 1) (l.drop k)) w (.returned (.tuple #[.agg #[.int .i64 e.op, .int .i64 e.wd, .int .i64 e.n, .slice none 0 0], .bool ok])) (put4 w3 w.heap.size 0 (.int .i64 e.op) (.int .i64 e.wd) (.int .i64 e.n) (.slice none 0 0)) := by
    rintro r w3 ⟨e, v, k1, rfl, hv, hg, hR3, hk1, hc⟩
    refine ⟨e, _, by rw [hv.1], grown_block hg (by omega) HB2.out, ?_⟩
    have := read_leaf (k := k) (sp := readS (d + 1) (l.drop k)) (wordN (l.drop k)) HSP.out hv (grownBy_tr HG2.out hg) hR3 hk1 hws (by omega) hc
    rw [hv.1] at this; exact this
  have HMA := Lib.hid hmain; clear hmain
  generalize wordB l k = wb at *
  rcases ho with ⟨rfl, rfl⟩ | ⟨rfl, rfl⟩ | ⟨rfl, rfl⟩
  all_goals
    go_wp2_with fail
    refine (leaf_any w0 RB lv l _ _ w2 HE.out.runes HR2.out hkm).mono ?_
    intro r w3 hp
    obtain ⟨e, ok, rfl, hb3, hfin⟩ := HMA.out _ _ hp
    obtain ⟨c0, c1, c2, c3, f0, f1, f2, f3⟩ := cells_of_block hb3
    have HB3 := Lib.hid (put4_new (x := .int .i64 e.op) (y := .int .i64 e.wd) (z := .int .i64 e.n) (u := .slice none 0 0) hb3)
    have HFI := Lib.hid hfin
    clear hp hb3 hfin
    go_wp2_with fail
    exact bodyPost_ret (v := .tuple #[.agg #[.int .i64 e.op, .int .i64 e.wd, .int .i64 e.n, .slice none 0 0], .bool ok]) (results_row_tmpR Tryz.results19 _ _ w.heap.size 24 _ (0, 0) _ rfl HB3.out Tryz.underlying24 rfl sizeExpr) rfl HFI.out
end Go.Proofs.YtoopoljchhdobaaGreatDoor
namespace Go.Proofs.YtoopoljchhdobaaGreatDoor
open Go.RowKit

theorem operatorS_range (w : List UInt8) : operatorS w = 0 ∨ (4 ≤ operatorS w ∧ operatorS w ≤ 14) := by
  unfold operatorS
  repeat' (split <;> first | (right; omega) | skip)
  left; rfl

/-- What holds while the operands are read: es has been read, up to the rune k1 + c; more: another one follows. -/
structure NLoop (w0 : World) (RB : Nat) (lv : Value) (l : List Int) (w : World) (EB k1 d : Nat) (op : Int) (ps : List (E × Value)) (c : Nat) (more : Bool) (kv : Value) (wr : World) : Prop where
  at_ : RAt w0 RB lv (k1 + c) wr
  le : k1 + c ≤ l.length
  res : wr.heap[w.heap.size]? = some (.cells zeroA 24 (0, 0))
  node : wr.heap[EB]? = some (.cells #[.int .i64 op, .int .i64 0, .int .i64 0, kv] 24 (0, 0))
  own : OwnE wr (EB + 1) kv ps
  grown : w.grownBy wr (some RB)
  size : EB + 1 ≤ wr.heap.size
  len : ps.length ≤ 3
  spec : if more then kidsS (readS d) 3 (l.drop k1) = comb (ps.map (·.1)) c (kidsS (readS d) (3 - ps.length) (l.drop (k1 + c))) else kidsS (readS d) 3 (l.drop k1) = some (ps.map (·.1), c) ∧ ps ≠ []

theorem read_fail2 {w0 : World} {RB k k' : Nat} {lv : Value} {l : List Int} {sp : Option (E × Nat)} {w W : World} (hsp : sp = none) (hg : w.grownBy W (some RB)) (hR : RAt w0 RB lv k' W) (hk : k' ≤ l.length) (hw : w0.heap.size ≤ w.heap.size) (hne : w.heap.size ≠ RB) (o : Obj) :
    ReadPS w0 RB lv l k sp w (.returned (.tuple #[.agg zeroA, .bool false])) ((put4 W w.heap.size 0 (.int .i64 0) (.int .i64 0) (.int .i64 0) (.slice none 0 0)).alloc o) := by
  have hx : Ext (put4 W w.heap.size 0 (.int .i64 0) (.int .i64 0) (.int .i64 0) (.slice none 0 0)) ((put4 W w.heap.size 0 (.int .i64 0) (.int .i64 0) (.int .i64 0) (.slice none 0 0)).alloc o) := (Ext.refl _).alloc _
  refine ⟨.mk 0 0 0 [], _, k', by rw [hsp]; rfl, ⟨_, rfl, .inl ⟨rfl, rfl⟩⟩, grownBy_tr (grown_put4 hg (Nat.le_refl _)) (ext_grown hx _), (put4_grown hR hw hne).ext hx, hk, fun e c h => ?_⟩
  rw [hsp] at h; cases h
theorem comb_nil (r : Option (List E × Nat)) : comb [] 0 r = r := by
  cases r with
  | none => rfl
  | some p => simp [comb]
/-- The reader stays where it is while the call's own blocks change. -/
theorem RAt.own {w0 w w' : World} {RB k : Nat} {lv : Value} {g : Option Nat} (h : RAt w0 RB lv k w) (hg : w.grownBy w' g) (hr : ∀ q, g = some q → w0.heap.size ≤ q ∧ q ≠ RB) : RAt w0 RB lv k w' := by
  refine ⟨⟨hg.os.trans h.1.os, hg.tape.trans h.1.tape, hg.output.trans h.1.output, Nat.le_trans h.1.size hg.size, fun i hi hne => ?_⟩, ?_⟩
  · rw [hg.block i (Nat.lt_of_lt_of_le hi h.1.size) (fun e => by have := (hr i e.symm).1; omega)]; exact h.1.block i hi hne
  · rw [hg.block RB h.lt (fun e => (hr RB e.symm).2 rfl)]; exact h.2
theorem grown_set (w : World) (p : Nat) (o : Nat) (v : Value) : w.grownBy (w.setCell ⟨p, o, none⟩ v) (some p) := grownBy_set (grownBy_refl w _) o v
theorem grown_via {a b c : World} {g g' : Option Nat} (h : a.grownBy b g) (k : b.grownBy c g') (hr : ∀ q, g' = some q → a.heap.size ≤ q) : a.grownBy c g :=
  ⟨k.os.trans h.os, k.tape.trans h.tape, k.output.trans h.output, Nat.le_trans h.size k.size, fun i hi hne => (k.block i (Nat.lt_of_lt_of_le hi h.size) (fun e => by have := hr i e.symm; omega)).trans (h.block i hi hne)⟩

set_option maxRecDepth 100000 in
set_option maxHeartbeats 8000000 in
theorem read_node (w0 : World) (RB RV FV : Nat) (lv : Value) (l : List Int) (hE : REnv w0 RB RV FV lv l) (d : Nat) (hIH : ReadC w0 RB RV FV lv l d) (dp : Int) (hdp : dp + (d + 1 : Nat) = 41) (hd1 : 1 ≤ dp) (hd40 : dp ≤ 40) (k : Nat) (w : World) (hR : RAt w0 RB lv k w) (hk : k ≤ l.length)
    (hb0 : wordB l k ≠ []) (hb1 : wordB l k ≠ [99]) (hb2 : wordB l k ≠ [111]) :
    Calls Tryz.prog 19 #[.int .i64 dp, .pointer (some ⟨RV, 0, none⟩), .pointer (some ⟨FV, 0, none⟩)] w (ReadPS w0 RB lv l k (readS (d + 1) (l.drop k)) w) := by
  have hws := hR.1.size
  have hRs := hR.lt
  have hx1 : Ext w (w.alloc (.cells zeroA 24)) := (Ext.refl w).alloc _
  have HR1 := Lib.hid (hR.ext hx1)
  obtain ⟨v1, _⟩ := hE.cells HR1.out.1
  have hkm : k + wordN (l.drop k) ≤ l.length := by have := wordN_le (l.drop k); simp at this; omega
  obtain ⟨hRV, hFV⟩ := hE.lt
  have HSP : Hid (readS (d + 1) (l.drop k) = if operatorS (wordB l k) = 0 then none else if (l.drop k)[wordN (l.drop k)]? = some 40 then nodeS (operatorS (wordB l k)) (wordN (l.drop k)) ((l.drop k).drop (wordN (l.drop k) + 1)) (kidsS (readS d) 3 ((l.drop k).drop (wordN (l.drop k) + 1))) else none) := by
    unfold Hid wordB at *
    rw [readS, if_neg hb0, if_neg hb1, if_neg hb2]
  have HWD : Hid (Calls Tryz.prog 20 #[.pointer (some ⟨RB, 0, none⟩)] (w.alloc (.cells zeroA 24)) fun r w' => r = .returned (.string ⟨(wordB l k).toArray⟩) ∧ RStep w0 RB lv (k + wordN (l.drop k)) (w.alloc (.cells zeroA 24)) w') :=
    word_any w0 RB lv l k _ hE.runes HR1.out hk
  have HE := Lib.hid hE; have IH := Lib.hid hIH; have HDP := Lib.hid hdp
  clear hE hR hx1 hIH hdp
  have t0 : (wordB l k == []) = false := by simpa using hb0
  have t0' : (wordB l k).isEmpty = false := by simpa using hb0
  have t1 : (wordB l k == [99]) = false := by simpa using hb1
  have t2 : (wordB l k == [111]) = false := by simpa using hb2
  clear hb0 hb1 hb2
  generalize wordB l k = wb at *
  have hor := operatorS_range wb
  have HOP : ∀ w, Names w → _ := fun w hN => operator_any wb w hN
  have HOP' := Lib.hid HOP; clear HOP
  generalize operatorS wb = op at *
  generalize hmm : wordN (l.drop k) = m at *
  clear hmm
  go_enter Tryz.func19, Tryz.ntmps19
  go_wp2_with fail
  refine HWD.out.mono ?_
  rintro r w2 ⟨rfl, hS2⟩
  obtain ⟨v2, _⟩ := HE.out.cells hS2.2.1
  have hN2 := HE.out.namesAt hS2.2.1
  have hb2 : w2.heap[w.heap.size]? = some (.cells zeroA 24 (0, 0)) := grown_block hS2.1 (by omega) (heap_new w _)
  have hs2 : w.heap.size + 1 ≤ w2.heap.size := by have := hS2.1.size; simpa using this
  have HG2 := Lib.hid (grownBy_tr (ext_grown ((Ext.refl w).alloc (.cells zeroA 24)) (some RB)) hS2.1); have HR2 := Lib.hid hS2.2; have HB2 := Lib.hid hb2; have HN2 := Lib.hid hN2
  clear hS2 hb2 hN2 v1 HWD
  have hRVs : RV < w2.heap.size := by omega
  go_wp2_with fail
  refine (HOP'.out w2 HN2.out).mono ?_
  rintro r w3 ⟨rfl, rfl⟩
  have hxe : Ext w2 (w2.alloc (.cells #[.int .i64 op, .int .i64 0, .int .i64 0, .slice none 0 0] 24)) := (Ext.refl w2).alloc _
  have HGE := Lib.hid (grownBy_tr HG2.out (ext_grown hxe (some RB)))
  have HRE := Lib.hid (HR2.out.ext hxe)
  have HBE := Lib.hid (grown_block (ext_grown hxe (some RB)) (by omega) HB2.out)
  obtain ⟨vE, _⟩ := HE.out.cells HRE.out.1
  clear hxe
  by_cases hop : op = 0
  · have h0 : (op == 0) = true := by simpa using hop
    have HF := Lib.hid (read_fail (k := k) (sp := readS (d + 1) (l.drop k)) (by rw [HSP.out, if_pos hop]) HGE.out HRE.out hkm hws (by omega))
    have HBP := Lib.hid (put4_new (x := .int .i64 0) (y := .int .i64 0) (z := .int .i64 0) (u := .slice none 0 0) HBE.out)
    obtain ⟨c0, c1, c2, c3, f0, f1, f2, f3⟩ := cells_of_block HBE.out
    clear hor hop
    go_wp2_with fail
    exact bodyPost_ret (v := .tuple #[.agg zeroA, .bool false]) (results_row_tmpR Tryz.results19 _ _ w.heap.size 24 _ (0, 0) _ rfl HBP.out Tryz.underlying24 rfl sizeExpr) rfl HF.out
  · have h0 : (op == 0) = false := by rw [beq_eq_false_iff_ne]; exact hop
    have HNE := Lib.hid (heap_new w2 (.cells #[.int .i64 op, .int .i64 0, .int .i64 0, .slice none 0 0] 24))
    have HSP2 : Hid (readS (d + 1) (l.drop k) = if (l.drop k)[m]? = some 40 then nodeS op m (l.drop (k + m + 1)) (kidsS (readS d) 3 (l.drop (k + m + 1))) else none) := by
      unfold Hid; rw [HSP.out, if_neg hop, List.drop_drop, show k + (m + 1) = k + m + 1 by omega]
    have hop4 : 4 ≤ op ∧ op ≤ 14 := by omega
    clear HSP hor
    go_wp2_with fail
    refine (accept_any w0 RB lv l (k + m) 40 _ HE.out.runes HRE.out hkm).mono ?_
    rintro r w4 ⟨rfl, hS4⟩
    have hsE := hS4.1.size
    rw [World.size_alloc] at hsE
    cases ha : (peekS l (k + m) == 40) with
    | false =>
      rw [ha] at hS4
      have hb4 := grown_block hS4.1 (by omega) HBE.out
      have HF := Lib.hid (read_fail (k := k) (sp := readS (d + 1) (l.drop k)) (by rw [HSP2.out, if_neg (by rw [get_peek (by omega), ha]; simp)]) (grownBy_tr HGE.out hS4.1) hS4.2 hkm hws (by omega))
      have HBP := Lib.hid (put4_new (x := .int .i64 0) (y := .int .i64 0) (z := .int .i64 0) (u := .slice none 0 0) hb4)
      obtain ⟨c0, c1, c2, c3, f0, f1, f2, f3⟩ := cells_of_block hb4
      clear hS4 hb4 ha hop
      go_wp2_with fail
      exact bodyPost_ret (v := .tuple #[.agg zeroA, .bool false]) (results_row_tmpR Tryz.results19 _ _ w.heap.size 24 _ (0, 0) _ rfl HBP.out Tryz.underlying24 rfl sizeExpr) rfl HF.out
    | true =>
      rw [ha, if_pos rfl] at hS4
      have hk1 : k + m + 1 ≤ l.length := by have := peekS_in (l := l) (k := k + m) (by intro e; rw [e] at ha; simp at ha); omega
      have HSP3 : Hid (readS (d + 1) (l.drop k) = nodeS op m (l.drop (k + m + 1)) (kidsS (readS d) 3 (l.drop (k + m + 1)))) := by
        unfold Hid; rw [HSP2.out, if_pos (by rw [get_peek (by omega)]; exact ha)]
      have HN0 : Hid (NLoop w0 RB lv l w w2.heap.size (k + m + 1) d op [] 0 true (.slice none 0 0) w4) :=
        ⟨hS4.2, hk1, grown_block hS4.1 (by omega) HBE.out, grown_block hS4.1 (by omega) HNE.out, OwnE.nil _ _, grownBy_tr HGE.out hS4.1, by omega, by simp, by simp [comb_nil]⟩
      obtain ⟨EB, hEB⟩ : ∃ EB, EB = w2.heap.size := ⟨_, rfl⟩
      rw [← hEB] at HN0 hs2
      obtain ⟨k1, hk1e⟩ : ∃ k1, k1 = k + m + 1 := ⟨_, rfl⟩
      rw [← hk1e] at HN0 HSP3 hk1
      have HKE := Lib.hid hk1e
      clear hS4 ha hop HSP2 HBE HNE HRE HGE HB2 HG2 HR2 HN2 vE v2 hk1e hsE
      go_wp2_with fail
      rw [← hEB]
      clear hEB
      go_loopg [9] 4 (fun g s9 wr => ∃ (ps : List (E × Value)) (c : Nat) (more : Bool) (kv : Value), s9 = .bool more ∧ g = (if more then 4 - ps.length else 0) ∧ NLoop w0 RB lv l w EB k1 d op ps c more kv wr)
      case atStart => exact ⟨[], 0, true, _, rfl, rfl, HN0.out⟩
      case round =>
        obtain ⟨ps, c, more, kv, rfl, hg, hL⟩ := hrel
        obtain ⟨rv, fv⟩ := HE.out.cells hL.at_.1
        have HLp := Lib.hid hL
        cases more with
        | true =>
          go_wp2_with fail
          refine (IH.out (dp + 1) (k1 + c) wr (by have := HDP.out; omega) hL.at_ hL.le).mono ?_
          rintro r w5 ⟨e, v, k5, rfl, ⟨kv5, rfl, hks⟩, hg5, hR5, hk5, hc5⟩
          obtain ⟨xa, xl, xc, rfl⟩ := hks.shape
          have hEBw : w.heap.size < EB := by omega
          have hEBr : EB ≠ RB := by omega
          have hsz5 := hg5.size
          have hszr := hL.size
          have hO5 : OwnE w5 (EB + 1) kv ps := hL.own.keep (asIn_grown hg5 fun q hq => by simp; omega)
          have hkS : KidsS (fun b => EB + 1 ≤ b ∧ some b ≠ kv.ownBlock) w5 (.slice xa xl xc) e.kids := hks.mono fun q _ hq => ⟨by omega, fun h => by have := (hL.own.base q h.symm).2; omega⟩
          have hE5 := grown_block hg5 hEBr hL.node
          have hB5 := grown_block hg5 (by omega) hL.res
          have hG5 := grownBy_tr hL.grown hg5
          obtain ⟨ya, yc, rfl⟩ := hO5.shape
          have hlen3 := hL.len
          have hspec : kidsS (readS d) 3 (l.drop k1) = comb (ps.map (·.1)) c (kidsS (readS d) (3 - ps.length) (l.drop (k1 + c))) := by have := hL.spec; simpa using this
          obtain ⟨n0, n1, n2, n3, g0, g1, g2, g3⟩ := cells_of_block hE5
          obtain ⟨r0, r1, r2, r3, f0, f1, f2, f3⟩ := cells_of_block hB5
          have hx6 : Ext w5 (w5.alloc (.cells #[.int .i64 e.op, .int .i64 e.wd, .int .i64 e.n, .slice xa xl xc] 24)) := (Ext.refl w5).alloc _
          have HG6 := Lib.hid (grownBy_tr hG5 (ext_grown hx6 (some RB))); have HR6 := Lib.hid (hR5.ext hx6)
          have HB6 := Lib.hid (grown_block (ext_grown hx6 (some RB)) (by omega) hB5); have HE6 := Lib.hid (grown_block (ext_grown hx6 (some RB)) hEBr hE5)
          have HO6 := Lib.hid (hO5.keep (asIn_ext hx6)); have HK6 := Lib.hid (hkS.keep (asIn_ext hx6))
          have hEs5 : EB < w5.heap.size := by omega
          have hws5 : w.heap.size < w5.heap.size := by omega
          have HSPC := Lib.hid hspec; have HC5 := Lib.hid hc5; have HB5 := Lib.hid hB5; have HG5 := Lib.hid hG5; have HR5 := Lib.hid hR5
          clear hks hkS hO5 hE5 hB5 hG5 hx6 hspec hc5 hg5 hR5 hL HLp
          have hfail : kidsS (readS d) 3 (l.drop k1) = none → ReadPS w0 RB lv l k (readS (d + 1) (l.drop k)) w (.returned (.tuple #[.agg zeroA, .bool false])) ((put4 w5 w.heap.size 0 (.int .i64 0) (.int .i64 0) (.int .i64 0) (.slice none 0 0)).alloc (.cells #[.int .i64 e.op, .int .i64 e.wd, .int .i64 e.n, .slice xa xl xc] 24)) := fun h =>
            read_fail2 (by rw [HSP3.out, h]; rfl) HG5.out HR5.out hk5 hws (by omega) _
          have HFL := Lib.hid hfail; clear hfail
          have HBP : Hid (((put4 w5 w.heap.size 0 (.int .i64 0) (.int .i64 0) (.int .i64 0) (.slice none 0 0)).alloc (.cells #[.int .i64 e.op, .int .i64 e.wd, .int .i64 e.n, .slice xa xl xc] 24)).heap[w.heap.size]? = some (.cells zeroA 24 (0, 0))) := by
            unfold Hid; rw [Below.heap_alloc _ _ _ (by rw [put4_size]; omega)]; exact put4_new HB5.out
          cases hq : readS d (l.drop (k1 + c)) with
          | none =>
            have HF := Lib.hid (HFL.out (by rw [HSPC.out]; exact comb_none hq))
            clear hq HFL
            go_wp2_with fail
            exact bodyPost_ret (v := .tuple #[.agg zeroA, .bool false]) (results_row_tmpR Tryz.results19 _ _ w.heap.size 24 _ (0, 0) _ rfl HBP.out Tryz.underlying24 rfl sizeExpr) rfl HF.out
          | some p1 =>
            obtain ⟨e1, c1⟩ := p1
            obtain ⟨rfl, rfl⟩ := HC5.out _ _ hq
            by_cases hl3 : ps.length = 3
            · have HF := Lib.hid (HFL.out (by rw [HSPC.out, hl3]; rfl))
              have b3 : (((ps.length : Nat) : Int) == 3) = true := by rw [hl3]; rfl
              clear hq HFL hl3
              go_wp2_with fail
              exact bodyPost_ret (v := .tuple #[.agg zeroA, .bool false]) (results_row_tmpR Tryz.results19 _ _ w.heap.size 24 _ (0, 0) _ rfl HBP.out Tryz.underlying24 rfl sizeExpr) rfl HF.out
            · have b3 : (((ps.length : Nat) : Int) == 3) = false := by rw [beq_eq_false_iff_ne]; omega
              have HQ := Lib.hid hq
              clear hq HFL HBP
              go_wp2_with (at_builtin; refine wpList_append_expr rfl (.tmp 68) (.tmp 70) rfl (EB + 1) (w5.alloc (.cells #[.int .i64 e.op, .int .i64 e.wd, .int .i64 e.n, .slice xa xl xc] 24)) (w5.heap.size + 1) (World.size_alloc _ _) _ ps e _ rfl rfl HO6.out HK6.out (by omega) (by simp; omega) ?_)
              intro g cap w7 hO7 hg7 hbg
              have hrow : ∀ q, (Value.slice ya ps.length yc).ownBlock = some q → EB + 1 ≤ q := fun q hq => (HO6.out.base q hq).1
              have hE7 : w7.heap[EB]? = some (.cells #[.int .i64 op, .int .i64 0, .int .i64 0, .slice ya ps.length yc] 24 (0, 0)) := by
                rw [hg7.block EB (by simp; omega) (fun h => by have := hrow EB h.symm; omega)]; exact HE6.out
              have hB7 : w7.heap[w.heap.size]? = some (.cells zeroA 24 (0, 0)) := by
                rw [hg7.block w.heap.size (by simp; omega) (fun h => by have := hrow _ h.symm; omega)]; exact HB6.out
              have hR7 := HR6.out.own hg7 (fun q hq => by have := hrow q hq; omega)
              have hG7 := grown_via HG6.out hg7 (fun q hq => by have := hrow q hq; omega)
              obtain ⟨m0, m1, m2, m3, j0, j1, j2, j3⟩ := cells_of_block hE7
              have hsz7 := hg7.size
              rw [World.size_alloc] at hsz7
              -- the world behind the store
              have hgs := grown_set w7 EB 3 (.slice (some ⟨g, 0, none⟩) (ps.length + 1) cap)
              have hR8 := hR7.own hgs (fun q hq => by cases hq; omega)
              have hG8 := grown_via hG7 hgs (fun q hq => by cases hq; omega)
              have hE8 := setCell_block (o := 3) (v := .slice (some ⟨g, 0, none⟩) (ps.length + 1) cap) hE7
              have hB8 : (w7.setCell ⟨EB, 3, none⟩ (.slice (some ⟨g, 0, none⟩) (ps.length + 1) cap)).heap[w.heap.size]? = some (.cells zeroA 24 (0, 0)) := by
                rw [Below.heap_setCell _ _ _ _ (by simp; omega)]; exact hB7
              have hO8 := hO7.keep (asIn_set (R := EB) (o := 3) (v := .slice (some ⟨g, 0, none⟩) (ps.length + 1) cap) (by omega))
              have hs8 : (w7.setCell ⟨EB, 3, none⟩ (.slice (some ⟨g, 0, none⟩) (ps.length + 1) cap)).heap.size = w7.heap.size := by simp [World.setCell]
              obtain ⟨W8, hW8⟩ : ∃ W8, W8 = w7.setCell ⟨EB, 3, none⟩ (.slice (some ⟨g, 0, none⟩) (ps.length + 1) cap) := ⟨_, rfl⟩
              rw [← hW8] at hR8 hG8 hE8 hB8 hO8 hs8
              obtain ⟨rv8, _⟩ := HE.out.cells hR8.1
              have HW8 := Lib.hid hW8; have HR8 := Lib.hid hR8; have HG8 := Lib.hid hG8; have HE8 := Lib.hid hE8; have HB8 := Lib.hid hB8; have HO8 := Lib.hid hO8; have HS8 := Lib.hid hs8
              have hrv7 : w7.cell? ⟨RV, 0, none⟩ = some (.pointer (some ⟨RB, 0, none⟩)) := (HE.out.cells hR7.1).1
              have hRVE : RV ≠ EB := by omega
              clear hO7 hg7 hE7 hB7 hR7 hG7 hgs hR8 hG8 hE8 hB8 hO8 hW8 hs8 hrow
              go_wp2_with fail
              rw [← HW8.out]
              refine (accept_any w0 RB lv l (k1 + c + c1) 44 W8 HE.out.runes HR8.out hk5).mono ?_
              rintro r w9 ⟨rfl, hS9⟩
              have hE9 := grown_block hS9.1 hEBr HE8.out
              have hB9 := grown_block hS9.1 (by omega) HB8.out
              have hO9 := HO8.out.keep (asIn_grown hS9.1 (fun q hq => by simp; omega))
              have hG9 := grownBy_tr HG8.out hS9.1
              have hs9 := hS9.1.size
              have hs8 := HS8.out
              have hmap : (ps ++ [(e, Value.slice xa xl xc)]).map (·.1) = ps.map (·.1) ++ [e] := by simp
              have hf : 3 - ps.length = 3 - (ps.length + 1) + 1 := by omega
              cases ha : (peekS l (k1 + c + c1) == 44) with
              | true =>
                rw [ha, if_pos rfl] at hS9
                have hk9 : k1 + c + c1 + 1 ≤ l.length := by have := peekS_in (l := l) (k := k1 + c + c1) (by intro e; rw [e] at ha; simp at ha); omega
                have HNL : Hid (NLoop w0 RB lv l w EB k1 d op (ps ++ [(e, .slice xa xl xc)]) (c + c1 + 1) true (.slice (some ⟨g, 0, none⟩) (ps.length + 1) cap) w9) := by
                  refine ⟨by rw [show k1 + (c + c1 + 1) = k1 + c + c1 + 1 by omega]; exact hS9.2, by omega, hB9, hE9, hO9, hG9, by omega, by simp; omega, ?_⟩
                  rw [if_pos rfl, HSPC.out, hmap, hf, ← List.drop_drop, comb_more (s := l.drop k1) (by rw [List.drop_drop]; exact HQ.out) (by rw [get_peek (by omega), ← Nat.add_assoc]; exact ha), List.drop_drop]
                  simp
                clear hE9 hB9 hO9 hG9 hS9 ha
                go_wp2_with fail
                go_roundg (4 - (ps.length + 1))
                case measure => rw [hg]; simp; omega
                case rel => exact ⟨_, _, true, _, rfl, by simp, HNL.out⟩
              | false =>
                rw [ha] at hS9
                have HNL : Hid (NLoop w0 RB lv l w EB k1 d op (ps ++ [(e, .slice xa xl xc)]) (c + c1) false (.slice (some ⟨g, 0, none⟩) (ps.length + 1) cap) w9) := by
                  refine ⟨by rw [← Nat.add_assoc]; exact hS9.2, by omega, hB9, hE9, hO9, hG9, by omega, by simp; omega, ?_⟩
                  rw [if_neg (by simp), HSPC.out, hmap, hf, ← List.drop_drop, comb_end (s := l.drop k1) (by rw [List.drop_drop]; exact HQ.out) (by rw [get_peek (by omega), ← Nat.add_assoc, ha]; simp)]
                  exact ⟨rfl, by simp⟩
                clear hE9 hB9 hO9 hG9 hS9 ha
                go_wp2_with fail
                go_roundg 0
                case measure => rw [hg]; simp; omega
                case rel => exact ⟨_, _, false, _, rfl, by simp, HNL.out⟩
        | false =>
          have hspec := hL.spec
          rw [if_neg (by simp)] at hspec
          obtain ⟨hsp, hpsne⟩ := hspec
          obtain ⟨ya, yc, rfl⟩ := hL.own.shape
          obtain ⟨n0, n1, n2, n3, g0, g1, g2, g3⟩ := cells_of_block hL.node
          have hszr := hL.size
          have hEBr : EB ≠ RB := by omega
          have hlec := hL.le
          obtain ⟨es, hes⟩ : ∃ es, es = ps.map (·.1) := ⟨_, rfl⟩
          rw [← hes] at hsp
          have HEV : Hid (EVal wr (.agg #[.int .i64 op, .int .i64 0, .int .i64 0, .slice ya ps.length yc]) (.mk op 0 0 es)) := ⟨_, rfl, by rw [E.kids_mk, hes]; exact hL.own.kids.kids⟩
          have hesne : (E.mk op 0 0 es).kids ≠ [] := by rw [E.kids_mk, hes]; intro h; exact hpsne (by simpa using h)
          have HNE := Lib.hid hesne
          have HSPE : Hid (readS (d + 1) (l.drop k) = if (l.drop k1)[c]? = some 41 then some (.mk op (widthS op es) 0 es, m + 1 + c + 1) else none) := by
            unfold Hid; rw [HSP3.out, hsp]; rfl
          have HOW : Hid (KidsS (fun b => EB + 1 ≤ b) wr (.slice ya ps.length yc) es) := by unfold Hid; rw [hes]; exact hL.own.kids
          have HLR := Lib.hid hL.res; have HLN := Lib.hid hL.node; have HLA := Lib.hid hL.at_; have HLG := Lib.hid hL.grown
          clear hsp hpsne hes hesne hL HLp
          go_wp2_with fail
          refine (widthOf_any (.mk op 0 0 es) _ wr HEV.out HNE.out).mono ?_
          rintro r w5 ⟨rfl, hx5⟩
          simp only [E.op_mk, E.kids_mk]
          have hE5 := grown_block (ext_grown hx5 (some RB)) hEBr HLN.out
          have hsz5 := hx5.size
          have hgs := grown_set w5 EB 1 (.int .i64 (widthS op es))
          have hR6 := (HLA.out.ext hx5).own hgs (fun q hq => by cases hq; omega)
          have hG6 := grown_via (grownBy_tr HLG.out (ext_grown hx5 (some RB))) hgs (fun q hq => by cases hq; omega)
          have hE6 := setCell_block (o := 1) (v := .int .i64 (widthS op es)) hE5
          have hB6 : (w5.setCell ⟨EB, 1, none⟩ (.int .i64 (widthS op es))).heap[w.heap.size]? = some (.cells zeroA 24 (0, 0)) := by
            rw [Below.heap_setCell _ _ _ _ (by simp; omega)]; exact grown_block (ext_grown hx5 (some RB)) (by omega) HLR.out
          have hK6 := (HOW.out.keep (asIn_ext hx5)).keep (asIn_set (R := EB) (o := 1) (v := .int .i64 (widthS op es)) (by omega))
          have hs6 : (w5.setCell ⟨EB, 1, none⟩ (.int .i64 (widthS op es))).heap.size = w5.heap.size := by simp [World.setCell]
          obtain ⟨m0, m1, m2, m3, j0, j1, j2, j3⟩ := cells_of_block hE5
          obtain ⟨W6, hW6⟩ : ∃ W6, W6 = w5.setCell ⟨EB, 1, none⟩ (.int .i64 (widthS op es)) := ⟨_, rfl⟩
          rw [← hW6] at hR6 hG6 hE6 hB6 hK6 hs6
          have hE6' : W6.heap[EB]? = some (.cells #[.int .i64 op, .int .i64 (widthS op es), .int .i64 0, .slice ya ps.length yc] 24 (0, 0)) := hE6
          have HW6 := Lib.hid hW6; have HR6 := Lib.hid hR6; have HG6 := Lib.hid hG6; have HE6 := Lib.hid hE6'; have HB6 := Lib.hid hB6; have HK6 := Lib.hid hK6
          have hs6' : EB < W6.heap.size := by omega
          clear hE5 hgs hR6 hG6 hE6 hB6 hK6 hW6 hx5 hE6' hs6
          generalize widthS op es = wid at *
          go_wp2_with fail
          rw [← HW6.out]
          clear HW6 m0 m1 m2 m3 j0 j1 j2 j3 n0 n1 n2 n3 g0 g1 g2 g3
          obtain ⟨q0, q1, q2, q3, _⟩ := cells_of_block HE6.out
          obtain ⟨qv, _⟩ := HE.out.cells HR6.out.1
          go_region_held3 (fun w' => w'.cell? ⟨EB, 0, none⟩ = some (.int .i64 op) ∧ w'.cell? ⟨EB, 1, none⟩ = some (.int .i64 wid) ∧ w'.cell? ⟨EB, 2, none⟩ = some (.int .i64 0) ∧ w'.cell? ⟨EB, 3, none⟩ = some (.slice ya ps.length yc) ∧ w'.cell? ⟨RV, 0, none⟩ = some (.pointer (some ⟨RB, 0, none⟩)))
            (first | exact ⟨q0, q1, q2, q3, qv⟩ | (with_reducible exact hkeep7) | exact hkeep8)
            ((go_at_call 23; refine (accept_any w0 RB lv l (k1 + c) 41 _ HE.out.runes (HR6.out.ext (Ext.refl W6).drew) hlec).mono ?_; rintro r w7 ⟨rfl, hS7⟩;
              have hE7 := grown_block hS7.1 hEBr HE6.out;
              have hB7 := grown_block hS7.1 (by omega) HB6.out;
              obtain ⟨a0, a1, a2, a3, _, _, _, _⟩ := cells_of_block hE7;
              obtain ⟨c0, c1, c2, c3, f0, f1, f2, f3⟩ := cells_of_block hB7;
              have hv7 := (HE.out.cells hS7.2.1).1;
              have hkeep7 : w7.cell? ⟨EB, 0, none⟩ = some (.int .i64 op) ∧ w7.cell? ⟨EB, 1, none⟩ = some (.int .i64 wid) ∧ w7.cell? ⟨EB, 2, none⟩ = some (.int .i64 0) ∧ w7.cell? ⟨EB, 3, none⟩ = some (.slice ya ps.length yc) ∧ w7.cell? ⟨RV, 0, none⟩ = some (.pointer (some ⟨RB, 0, none⟩)) := ⟨a0, a1, a2, a3, hv7⟩;
              have HS7 := Lib.hid hS7; have HB7 := Lib.hid hB7;
              clear hS7 hE7 hB7;
              have hkeep8 : (put4 w7 w.heap.size 0 (.int .i64 op) (.int .i64 wid) (.int .i64 0) (.slice ya ps.length yc)).cell? ⟨EB, 0, none⟩ = some (.int .i64 op) ∧ (put4 w7 w.heap.size 0 (.int .i64 op) (.int .i64 wid) (.int .i64 0) (.slice ya ps.length yc)).cell? ⟨EB, 1, none⟩ = some (.int .i64 wid) ∧ (put4 w7 w.heap.size 0 (.int .i64 op) (.int .i64 wid) (.int .i64 0) (.slice ya ps.length yc)).cell? ⟨EB, 2, none⟩ = some (.int .i64 0) ∧ (put4 w7 w.heap.size 0 (.int .i64 op) (.int .i64 wid) (.int .i64 0) (.slice ya ps.length yc)).cell? ⟨EB, 3, none⟩ = some (.slice ya ps.length yc) ∧ (put4 w7 w.heap.size 0 (.int .i64 op) (.int .i64 wid) (.int .i64 0) (.slice ya ps.length yc)).cell? ⟨RV, 0, none⟩ = some (.pointer (some ⟨RB, 0, none⟩)) := by
                refine ⟨?_, ?_, ?_, ?_, ?_⟩
                · rw [put4_other _ (Or.inl (by simp; omega))]; exact a0
                · rw [put4_other _ (Or.inl (by simp; omega))]; exact a1
                · rw [put4_other _ (Or.inl (by simp; omega))]; exact a2
                · rw [put4_other _ (Or.inl (by simp; omega))]; exact a3
                · rw [put4_other _ (Or.inl (by simp; omega))]; exact hv7))
          go_wp2_with fail
          have HBP := put4_new (x := .int .i64 op) (y := .int .i64 wid) (z := .int .i64 0) (u := .slice ya ps.length yc) HB7.out
          refine bodyPost_ret (v := .tuple #[.agg #[.int .i64 op, .int .i64 wid, .int .i64 0, .slice ya ps.length yc], .bool (peekS l (k1 + c) == 41)]) (results_row_tmpR Tryz.results19 _ _ w.heap.size 24 _ (0, 0) _ rfl HBP Tryz.underlying24 rfl sizeExpr) rfl ?_
          have hG7 : W6.grownBy w7 (some RB) := ⟨HS7.out.1.os, HS7.out.1.tape, HS7.out.1.output, HS7.out.1.size, HS7.out.1.block⟩
          have hGG : w.grownBy (put4 w7 w.heap.size 0 (.int .i64 op) (.int .i64 wid) (.int .i64 0) (.slice ya ps.length yc)) (some RB) := grown_put4 (grownBy_tr HG6.out hG7) (Nat.le_refl _)
          have hRR := put4_grown (a := .int .i64 op) (b := .int .i64 wid) (c := .int .i64 0) (d := .slice ya ps.length yc) HS7.out.2 hws (by omega : w.heap.size ≠ RB)
          have hKK : KidsS (fun b => w.heap.size ≤ b) (put4 w7 w.heap.size 0 (.int .i64 op) (.int .i64 wid) (.int .i64 0) (.slice ya ps.length yc)) (.slice ya ps.length yc) es :=
            ((HK6.out.keep (asIn_grown hG7 fun q hq => by simp; omega)).keep (asIn_put4 (by omega))).mono fun q _ hq => by omega
          have hke := HKE.out
          cases ha : (peekS l (k1 + c) == 41) with
          | true =>
            rw [ha, if_pos rfl] at hRR
            have hk9 : k1 + c + 1 ≤ l.length := by have := peekS_in (l := l) (k := k1 + c) (by intro e; rw [e] at ha; simp at ha); omega
            have hsp9 : readS (d + 1) (l.drop k) = some (.mk op wid 0 es, m + 1 + c + 1) := by rw [HSPE.out, if_pos (by rw [get_peek (by omega)]; exact ha)]
            refine ⟨.mk op wid 0 es, _, k1 + c + 1, by rw [hsp9]; rfl, ⟨_, rfl, hKK⟩, hGG, hRR, hk9, fun e' c' he => ?_⟩
            rw [hsp9] at he; cases he
            exact ⟨rfl, by omega⟩
          | false =>
            rw [ha] at hRR
            have hsp9 : readS (d + 1) (l.drop k) = none := by rw [HSPE.out, if_neg (by rw [get_peek (by omega), ha]; simp)]
            refine ⟨.mk op wid 0 es, _, k1 + c, by rw [hsp9]; rfl, ⟨_, rfl, hKK⟩, hGG, hRR, hlec, fun e' c' he => ?_⟩
            rw [hsp9] at he; cases he
end Go.Proofs.YtoopoljchhdobaaGreatDoor
