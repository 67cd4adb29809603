/-
  Strings in memory; stores into one block; the walk of readHead.
-/
import Derived.Test.YtoopoljchhdobaaDoorCt4
import Derived.Deep.RegionHeld3
namespace Go.Proofs.YtoopoljchhdobaaDoor
open Go.RowKit

def StrAt (w : World) (b o : Nat) (s : List UInt8) : Prop := w.cell? ⟨b, o, none⟩ = some (.string ⟨s.toArray⟩)
theorem StrAt.keeps : Keeps StrAt := fun _ _ _ _ _ he h => he.cell h
def Strs (w : World) (v : Value) (l : List (List UInt8)) : Prop := SliceAt 1 StrAt w v l
theorem strs_cell {w : World} {a : Option Addr} {n c : Nat} {l : List (List UInt8)} (h : Strs w (.slice a n c) l) {k : Nat} (hk : k < l.length) : ∃ b o, a = some ⟨b, o, none⟩ ∧ w.cell? ⟨b, o + k, none⟩ = some (.string ⟨l[k].toArray⟩) := by
  rcases h with ⟨_, e⟩ | ⟨b, o, cap, e, _, hc⟩
  · subst e; simp at hk
  · cases e
    have := hc k hk
    rw [Nat.mul_one] at this
    exact ⟨b, o, rfl, this⟩
/-- Of the older blocks b alone is written. -/
structure But (b : Nat) (w w' : World) : Prop where
  os : w'.os = w.os
  tape : w'.tape = w.tape
  output : w'.output = w.output
  size : w.heap.size ≤ w'.heap.size
  block : ∀ k, k < w.heap.size → k ≠ b → w'.heap[k]? = w.heap[k]?
theorem Ext.but {w w' : World} (h : Ext w w') (b : Nat) : But b w w' := ⟨h.os, h.tape, h.output, h.size, fun k hk _ => h.block k hk⟩
theorem But.refl (b : Nat) (w : World) : But b w w := (Ext.refl w).but b
theorem But.trans {b : Nat} {w w1 w2 : World} (h : But b w w1) (k : But b w1 w2) : But b w w2 :=
  ⟨k.os.trans h.os, k.tape.trans h.tape, k.output.trans h.output, Nat.le_trans h.size k.size, fun i hi hne => (k.block i (Nat.lt_of_lt_of_le hi h.size) hne).trans (h.block i hi hne)⟩
theorem But.set (w : World) (b i : Nat) (v : Value) : But b w (w.setCell ⟨b, i, none⟩ v) := ⟨rfl, rfl, rfl, by simp [World.setCell], fun k _ hne => Below.heap_setCell _ _ _ _ hne⟩
theorem But.ext {b : Nat} {a w w' : World} (h : Ext a w) (k : But b w w') (hb : a.heap.size ≤ b) : Ext a w' :=
  ⟨k.os.trans h.os, k.tape.trans h.tape, k.output.trans h.output, Nat.le_trans h.size k.size, fun i hi => (k.block i (Nat.lt_of_lt_of_le hi h.size) (by omega)).trans (h.block i hi)⟩
theorem But.cell {b : Nat} {w w' : World} (h : But b w w') {g o : Nat} {v : Value} (hne : g ≠ b) (hc : w.cell? ⟨g, o, none⟩ = some v) : w'.cell? ⟨g, o, none⟩ = some v := by
  have hlt : g < w.heap.size := by
    rcases Nat.lt_or_ge g w.heap.size with h' | h'
    · exact h'
    · simp [World.cell?, Array.getElem?_eq_none h'] at hc
  unfold World.cell? at *
  rw [h.block g hlt hne]; exact hc
/-- The three cells that a first line sets. -/
def putHead (w : World) (b : Nat) (id dig : List UInt8) (v : Int) : World := ((w.setCell ⟨b, 0, none⟩ (.string ⟨id.toArray⟩)).setCell ⟨b, 1, none⟩ (.string ⟨dig.toArray⟩)).setCell ⟨b, 2, none⟩ (.int .i64 v)
theorem putHead_at {w : World} {b : Nat} {x : CertS} {pa : Option Addr} {pc : Nat} {oa : Option Addr} {oc : Nat} {na : Option Addr} {nc : Nat} (h : CertAt w b x pa pc oa oc na nc) (id dig : List UInt8) (v : Int) :
    CertAt (putHead w b id dig v) b { x with id := id, dig := dig, ver := v } pa pc oa oc na nc := by
  have h1 := heap_setCell_same w b 0 _ _ (.string ⟨id.toArray⟩) h
  have h2 := heap_setCell_same _ b 1 _ _ (.string ⟨dig.toArray⟩) h1
  have h3 := heap_setCell_same _ b 2 _ _ (.int .i64 v) h2
  exact h3
theorem putHead_but (w : World) (b : Nat) (id dig : List UInt8) (v : Int) : But b w (putHead w b id dig v) := ((But.set w b 0 _).trans (But.set _ b 1 _)).trans (But.set _ b 2 _)
def HeadPost (x : CertS) (b : Nat) (pa : Option Addr) (pc : Nat) (oa : Option Addr) (oc : Nat) (na : Option Addr) (nc : Nat) (w : World) (o : Option CertS) (r : Ending) (w' : World) : Prop :=
  But b w w' ∧ match o with
    | none => r = .returned (.bool false) ∧ CertAt w' b x pa pc oa oc na nc
    | some y => r = .returned (.bool true) ∧ CertAt w' b y pa pc oa oc na nc

theorem head_none {x : CertS} {ws : List (List UInt8)} (h : ws.length < 4) : headW x ws = none := by unfold headW; rw [if_pos h]
theorem head_some {x : CertS} {ws : List (List UInt8)} (h : ¬ ws.length < 4) {n : Nat} (hn : n = 0 ∨ n = 1 ∨ n = 2) (he : ws.getD 3 [] = wordC (n : Nat)) : headW x ws = some { x with id := ws.getD 1 [], dig := ws.getD 2 [], ver := (n : Nat) } := by
  unfold headW
  rw [if_neg h, he, verW_word (by rcases hn with rfl | rfl | rfl <;> simp)]; rfl
theorem head_miss {x : CertS} {ws : List (List UInt8)} (h : ¬ ws.length < 4) (h0 : ws.getD 3 [] ≠ wordC 0) (h1 : ws.getD 3 [] ≠ wordC 1) (h2 : ws.getD 3 [] ≠ wordC 2) : headW x ws = none := by
  unfold headW verW
  rw [if_neg h, if_neg h0, if_neg h1, if_neg h2]; rfl

def wordsA : Value := .agg #[.string ⟨(wordC 0).toArray⟩, .string ⟨(wordC 1).toArray⟩, .string ⟨(wordC 2).toArray⟩]
theorem index_words0 (w : World) : (Instr.index 55 wordsA (.int .i64 (0 : Nat))).run Tryd.prog w = .ok (.string ⟨(wordC (0 : Nat)).toArray⟩) w := by kernel_rfl
theorem index_words1 (w : World) : (Instr.index 55 wordsA (.int .i64 (1 : Nat))).run Tryd.prog w = .ok (.string ⟨(wordC (1 : Nat)).toArray⟩) w := by kernel_rfl
theorem index_words2 (w : World) : (Instr.index 55 wordsA (.int .i64 (2 : Nat))).run Tryd.prog w = .ok (.string ⟨(wordC (2 : Nat)).toArray⟩) w := by kernel_rfl
theorem index_words (k : Nat) (h : k < 3) (w : World) : (Instr.index 55 (.agg #[.string ⟨(wordC 0).toArray⟩, .string ⟨(wordC 1).toArray⟩, .string ⟨(wordC 2).toArray⟩]) (.int .i64 k)).run Tryd.prog w = .ok (.string ⟨(wordC (k : Nat)).toArray⟩) w := by
  have : k = 0 ∨ k = 1 ∨ k = 2 := by omega
  rcases this with rfl | rfl | rfl
  · exact index_words0 w
  · exact index_words1 w
  · exact index_words2 w
theorem cell_keep {W : World} {lb b o i : Nat} {v u : Value} (hne : lb ≠ b) (h : W.cell? ⟨lb, o, none⟩ = some v) : ((W.setCell ⟨b, i, none⟩ u).drew).cell? ⟨lb, o, none⟩ = some v := by
  have : (W.setCell ⟨b, i, none⟩ u).heap[lb]? = W.heap[lb]? := heap_setCell_other W ⟨b, i, none⟩ lb u hne
  unfold World.cell? at *
  rw [show ((W.setCell ⟨b, i, none⟩ u).drew).heap = (W.setCell ⟨b, i, none⟩ u).heap from rfl, this]; exact h

set_option maxRecDepth 100000 in
set_option maxHeartbeats 4000000 in
theorem readHead_any (x : CertS) (b : Nat) (pa : Option Addr) (pc : Nat) (oa : Option Addr) (oc : Nat) (na : Option Addr) (nc : Nat) (ws : List (List UInt8)) (v : Value) (w : World) (hC : CertAt w b x pa pc oa oc na nc) (hs : Strs w v ws) (hb : ∀ k, v.ownBlock = some k → ws ≠ [] → k ≠ b) (hW : Words w) :
    Calls Tryd.prog 50 #[.pointer (some ⟨b, 0, none⟩), v] w fun r w' => HeadPost x b pa pc oa oc na nc w (headW x ws) r w' := by
  obtain ⟨a, c, rfl⟩ := SliceAt.shape hs
  have hlen := SliceAt.len_le hs
  by_cases h4 : (ws.length : Int) < 4
  · have HN : Hid (headW x ws = none) := head_none (by omega)
    have HC := Lib.hid hC
    clear hC hs hb hW
    go_enter Tryd.func50, Tryd.ntmps50
    go_wp2_with fail
    go_ret
    rw [HN.out]
    exact ⟨But.refl _ _, rfl, HC.out⟩
  have h4' : ¬ ws.length < 4 := by omega
  obtain ⟨lb, lo, rfl, g3⟩ := strs_cell hs (k := 3) (by omega)
  obtain ⟨_, _, e1, g1⟩ := strs_cell hs (k := 1) (by omega)
  cases e1
  obtain ⟨_, _, e2, g2⟩ := strs_cell hs (k := 2) (by omega)
  cases e2
  have hne : lb ≠ b := hb lb rfl (by intro e; rw [e] at h4'; simp at h4')
  have e1 : ws[1]'(by omega) = ws.getD 1 [] := by simp [List.getD, show 1 < ws.length by omega]
  have e2 : ws[2]'(by omega) = ws.getD 2 [] := by simp [List.getD, show 2 < ws.length by omega]
  have e3 : ws[3]'(by omega) = ws.getD 3 [] := by simp [List.getD, show 3 < ws.length by omega]
  rw [e1] at g1; rw [e2] at g2; rw [e3] at g3
  have t0 := hW 0 (.inl rfl); have t1 := hW 1 (.inr (.inl rfl)); have t2 := hW 2 (.inr (.inr rfl))
  have HS : Hid (∀ n : Nat, (n = 0 ∨ n = 1 ∨ n = 2) → ws.getD 3 [] = wordC (n : Nat) → headW x ws = some { x with id := ws.getD 1 [], dig := ws.getD 2 [], ver := (n : Nat) }) := fun n hn he => head_some h4' hn he
  have HM : Hid (ws.getD 3 [] ≠ wordC 0 → ws.getD 3 [] ≠ wordC 1 → ws.getD 3 [] ≠ wordC 2 → headW x ws = none) := fun h0 h1 h2 => head_miss h4' h0 h1 h2
  have i1 : (1 : Int) < (ws.length : Int) := by omega
  have i2 : (2 : Int) < (ws.length : Int) := by omega
  have i3 : (3 : Int) < (ws.length : Int) := by omega
  have HC := Lib.hid hC; have HNE := Lib.hid hne; have H4 := Lib.hid h4'
  clear hC hs hb hW e1 e2 e3 hne h4'
  generalize ws.getD 1 [] = d1 at *
  generalize ws.getD 2 [] = d2 at *
  generalize ws.getD 3 [] = d3 at *
  generalize headW x ws = res at *
  generalize ws.length = n at *
  go_enter Tryd.func50, Tryd.ntmps50
  go_wp2_with fail
  go_loopw [11] (fun i wr => wr = w ∧ ∃ k : Nat, k ≤ 3 ∧ i = .int .i64 k ∧ ∀ j : Nat, j < k → d3 ≠ wordC (j : Nat)) (fun i _ => 3 - (intOf i).toNat)
  case atStart => exact ⟨rfl, 0, Nat.zero_le _, rfl, fun j h => absurd h (by omega)⟩
  case round =>
    obtain ⟨rfl, k, hk, rfl, hR⟩ := hrel
    have HR := Lib.hid hR; clear hR
    by_cases hlt : k < 3
    · have hix := index_words k hlt
      have hk3 : k = 0 ∨ k = 1 ∨ k = 2 := by omega
      have HQ := Lib.hid (HS.out k hk3)
      have HR2 : Hid (d3 ≠ wordC (k : Nat) → ∀ j : Nat, j < k + 1 → d3 ≠ wordC (j : Nat)) := fun h j hj => by
        by_cases c : j = k
        · subst c; exact h
        · exact HR.out j (by omega)
      generalize hnk : wordC (k : Nat) = nk at *
      have HNK := Lib.hid hnk; clear hnk hk3
      have i0 : (k : Int) < 3 := by omega
      cases hq : (d3 == nk) with
      | true =>
        have HT := Lib.hid (HQ.out (by simpa using hq))
        go_upto_region 7 with fail
        have f0 := frozen_of_row wr b 0 _ _ HC.out
        have f1 := frozen_of_row wr b 1 _ _ HC.out
        have f2 := frozen_of_row wr b 2 _ _ HC.out
        obtain ⟨q0, q1, q2, q3, q4, q5⟩ := HC.out.cells
        have hne := HNE.out
        go_region_held3 (fun w' => w'.cell? ⟨lb, lo + 1, none⟩ = some (.string ⟨d1.toArray⟩) ∧ w'.cell? ⟨lb, lo + 2, none⟩ = some (.string ⟨d2.toArray⟩))
          (first | exact ⟨g1, g2⟩ | exact ⟨cell_keep hne g1, cell_keep hne g2⟩ | exact ⟨cell_keep hne (cell_keep hne g1), cell_keep hne (cell_keep hne g2)⟩ | exact ⟨cell_keep hne (cell_keep hne (cell_keep hne g1)), cell_keep hne (cell_keep hne (cell_keep hne g2))⟩ | fail)
          (fail)
        have HPC := Lib.hid (putHead_at HC.out d1 d2 (k : Int))
        have HPB := Lib.hid (putHead_but wr b d1 d2 (k : Int))
        change Exit.then _ _ Exit.normal _ (putHead wr b d1 d2 (k : Int)).drew
        have xd : Ext (putHead wr b d1 d2 (k : Int)) (putHead wr b d1 d2 (k : Int)).drew := (Ext.refl _).drew
        go_wp2_with fail
        go_ret
        rw [HT.out]
        exact ⟨HPB.out.trans (xd.but b), rfl, HPC.out.ext xd⟩
      | false =>
        have HN' := Lib.hid (HR2.out (by simpa using hq))
        go_wp2_with fail
        exact ⟨⟨trivial, k + 1, by omega, by go_num, HN'.out⟩, by simp [intOf]; omega⟩
    · obtain rfl : k = 3 := by omega
      have HT := Lib.hid (HM.out (HR.out 0 (by omega)) (HR.out 1 (by omega)) (HR.out 2 (by omega)))
      go_wp2_with fail
      go_ret
      rw [HT.out]
      exact ⟨But.refl _ _, rfl, HC.out⟩
end Go.Proofs.YtoopoljchhdobaaDoor
