/-
  The walk of same; expressions in new memory.
  The walk of leaves, once for each function that is handed to it. (Written by wip/gen_leaves.py.)
  Slices that a call makes for itself by append: ints; the laws that the walks use.
-/
import Derived.Test.YtlnahhlddekhoaaGreatDoorG03
import Derived.RegionTactic
import Derived.BigRegion
import Derived.Test.YtlnahhlddekhoaaGreatDoorG00
import Derived.Test.YtlnahhlddekhoaaGreatDoorRows
namespace Go.Proofs.YtlnahhlddekhoaaGreatDoor
open Go.RowKit

/-- The expression lies at block b, offset o; all its kids lie in blocks from N on. -/
inductive IsB (N : Nat) (w : World) : Nat → Nat → E → Prop
  | leaf {b o : Nat} {op wd n : Int} : w.cell? ⟨b, o, .none⟩ = some (.int .i64 op) → w.cell? ⟨b, o + 1, .none⟩ = some (.int .i64 wd) → w.cell? ⟨b, o + 2, .none⟩ = some (.int .i64 n) →
      w.cell? ⟨b, o + 3, .none⟩ = some (.slice .none 0 0) → IsB N w b o (.mk op wd n [])
  | node {b o : Nat} {op wd n : Int} {ks : List E} {b' o' cap : Nat} : w.cell? ⟨b, o, .none⟩ = some (.int .i64 op) → w.cell? ⟨b, o + 1, .none⟩ = some (.int .i64 wd) → w.cell? ⟨b, o + 2, .none⟩ = some (.int .i64 n) →
      w.cell? ⟨b, o + 3, .none⟩ = some (.slice (.some ⟨b', o', .none⟩) ks.length cap) → ks.length ≤ 9223372036854775807 → N ≤ b' → (∀ (i : Nat) (h : i < ks.length), IsB N w b' (o' + i * 4) ks[i]) → IsB N w b o (.mk op wd n ks)
def KidsB (N : Nat) (w : World) (v : Value) (ks : List E) : Prop :=
  (v = .slice .none 0 0 ∧ ks = []) ∨ ∃ b o cap : Nat, v = .slice (.some ⟨b, o, .none⟩) ks.length cap ∧ ks.length ≤ 9223372036854775807 ∧ N ≤ b ∧ ∀ (i : Nat) (h : i < ks.length), IsB N w b (o + i * 4) ks[i]
/-- By value. -/
def EValB (N : Nat) (w : World) (v : Value) (e : E) : Prop := ∃ k, v = .agg #[.int .i64 e.op, .int .i64 e.wd, .int .i64 e.n, k] ∧ KidsB N w k e.kids

theorem IsB.isE {N : Nat} {w : World} {b o : Nat} {e : E} (h : IsB N w b o e) : IsE w b o e := by
  induction h with
  | leaf h0 h1 h2 h3 => exact .leaf h0 h1 h2 h3
  | node h0 h1 h2 h3 hl _ _ ih => exact .node h0 h1 h2 h3 hl ih
theorem KidsB.kids {N : Nat} {w : World} {v : Value} {ks : List E} (h : KidsB N w v ks) : Kids w v ks := by
  rcases h with h | ⟨b, o, cap, h1, hl, _, h2⟩
  · exact .inl ⟨⟨_, _, h.1⟩, h.2⟩
  · exact .inr ⟨b, o, cap, h1, hl, fun i hi => (h2 i hi).isE⟩
theorem EValB.eVal {N : Nat} {w : World} {v : Value} {e : E} (h : EValB N w v e) : EVal w v e := by
  obtain ⟨k, h1, h2⟩ := h; exact ⟨k, h1, h2.kids⟩
theorem IsB.mono {N N' : Nat} {w : World} {b o : Nat} {e : E} (h : IsB N w b o e) (hN : N' ≤ N) : IsB N' w b o e := by
  induction h with
  | leaf h0 h1 h2 h3 => exact .leaf h0 h1 h2 h3
  | node h0 h1 h2 h3 hl hb _ ih => exact .node h0 h1 h2 h3 hl (Nat.le_trans hN hb) ih
theorem KidsB.mono {N N' : Nat} {w : World} {v : Value} {ks : List E} (h : KidsB N w v ks) (hN : N' ≤ N) : KidsB N' w v ks := by
  rcases h with h | ⟨b, o, cap, h1, hl, hb, h2⟩
  · exact .inl h
  · exact .inr ⟨b, o, cap, h1, hl, Nat.le_trans hN hb, fun i hi => (h2 i hi).mono hN⟩
theorem EValB.mono {N N' : Nat} {w : World} {v : Value} {e : E} (h : EValB N w v e) (hN : N' ≤ N) : EValB N' w v e := by
  obtain ⟨k, h1, h2⟩ := h; exact ⟨k, h1, h2.mono hN⟩

/-- From N on, and block b, w' is as w. -/
def AsFrom (N : Nat) (w w' : World) : Prop := ∀ k, N ≤ k → k < w.heap.size → w'.heap[k]? = w.heap[k]?
theorem AsFrom.cell {N : Nat} {w w' : World} (h : AsFrom N w w') {p : Addr} {v : Value} (hp : N ≤ p.block) (hc : w.cell? p = some v) : w'.cell? p = some v := by
  rw [World.cell?_of_block (h p.block hp (block_lt hc))]; exact hc
theorem IsB.keep {N : Nat} {w w' : World} {b o : Nat} {e : E} (h : IsB N w b o e) (hb : N ≤ b) (hx : AsFrom N w w') : IsB N w' b o e := by
  induction h with
  | leaf h0 h1 h2 h3 => exact .leaf (hx.cell hb h0) (hx.cell hb h1) (hx.cell hb h2) (hx.cell hb h3)
  | node h0 h1 h2 h3 hl hb' _ ih => exact .node (hx.cell hb h0) (hx.cell hb h1) (hx.cell hb h2) (hx.cell hb h3) hl hb' (fun i hi => ih i hi hb')
theorem KidsB.keep {N : Nat} {w w' : World} {v : Value} {ks : List E} (h : KidsB N w v ks) (hx : AsFrom N w w') : KidsB N w' v ks := by
  rcases h with h | ⟨b, o, cap, h1, hl, hb, h2⟩
  · exact .inl h
  · exact .inr ⟨b, o, cap, h1, hl, hb, fun i hi => (h2 i hi).keep hb hx⟩
theorem EValB.keep {N : Nat} {w w' : World} {v : Value} {e : E} (h : EValB N w v e) (hx : AsFrom N w w') : EValB N w' v e := by
  obtain ⟨k, h1, h2⟩ := h; exact ⟨k, h1, h2.keep hx⟩
theorem Ext.asFrom {w w' : World} (h : Ext w w') (N : Nat) : AsFrom N w w' := fun k _ hk => h.block k hk
theorem asFrom_setCell {w : World} {N : Nat} {p : Addr} {v : Value} (hp : p.block < N) : AsFrom N w (w.setCell p v) := fun k hk _ => Below.heap_setCell _ _ _ _ (by omega)
theorem AsFrom.trans {N : Nat} {a b c : World} (h : AsFrom N a b) (hs : a.heap.size ≤ b.heap.size) (k : AsFrom N b c) : AsFrom N a c := fun i h1 h2 => (k i h1 (by omega)).trans (h i h1 h2)
theorem AsFrom.mono {N N' : Nat} {a b : World} (h : AsFrom N a b) (hN : N ≤ N') : AsFrom N' a b := fun i h1 h2 => h i (by omega) h2
theorem grownBy_asFrom {w w' : World} {g : Option Nat} {N : Nat} (h : w.grownBy w' g) (hg : ∀ k, g = some k → k < N) : AsFrom N w w' := fun k h1 h2 => h.block k h2 (fun e => by have := hg k e.symm; omega)

/-- A node without its kids. -/
def E.bare (e : E) : E := .mk e.op e.wd e.n []

end Go.Proofs.YtlnahhlddekhoaaGreatDoor
namespace Go.Proofs.YtlnahhlddekhoaaGreatDoor
open Go.RowKit

mutual
/-- The nodes without kids, from left to right. -/
def E.leaves : E → List E
  | .mk op wd n ks => if ks = [] then [.mk op wd n ks] else leavesAll ks
def leavesAll : List E → List E
  | [] => []
  | e :: r => e.leaves ++ leavesAll r
end
theorem leavesAll_take_succ {ks : List E} {k : Nat} (h : k < ks.length) : leavesAll (ks.take (k + 1)) = leavesAll (ks.take k) ++ ks[k].leaves := by
  induction ks generalizing k with
  | nil => simp at h
  | cons e r ih =>
    cases k with
    | zero => simp [leavesAll]
    | succ k => simp only [List.take_succ_cons, leavesAll, List.getElem_cons_succ, ih (by simpa using h), List.append_assoc]
theorem mem_leavesAll {ks : List E} {x : E} : x ∈ leavesAll ks ↔ ∃ k ∈ ks, x ∈ k.leaves := by
  induction ks with
  | nil => simp [leavesAll]
  | cons e r ih => simp [leavesAll, ih]
theorem leaves_nil {op wd n : Int} : (E.mk op wd n []).leaves = [.mk op wd n []] := by simp [E.leaves]
theorem leaves_cons {op wd n : Int} {ks : List E} (h : ks ≠ []) : (E.mk op wd n ks).leaves = leavesAll ks := by simp [E.leaves, h]

/-- The kids' slice at an index. -/
theorem IsE.kid {w : World} {b o : Nat} {op wd n : Int} {ks : List E} (hE : IsE w b o (.mk op wd n ks)) (hne : ks ≠ []) : ∃ b' o' cap, w.cell? ⟨b, o + 3, none⟩ = some (.slice (some ⟨b', o', none⟩) ks.length cap) ∧ ks.length ≤ 9223372036854775807 ∧ ∀ (i : Nat) (h : i < ks.length), IsE w b' (o' + i * 4) ks[i] := by
  cases hE with
  | leaf _ _ _ _ => exact absurd rfl hne
  | node _ _ _ h3 hl hk => exact ⟨_, _, _, h3, hl, hk⟩

set_option maxHeartbeats 1000000 in
theorem leaves_valid (w0 : World) (A : Nat) (B : Nat) (G : Nat) (Q : E → Prop) (Inv : World → List E → Prop)
    (hκ : ∀ (x : E) (w : World) (b o : Nat) (acc : List E), Q x → IsE w0 b o x → Ext w0 w → Inv w acc →
      Calls Tryz.prog 72 #[.pointer (some ⟨b, o, none⟩), .pointer (some ⟨A, 0, none⟩), .pointer (some ⟨B, 0, none⟩), .pointer (some ⟨G, 0, none⟩)] w fun r w' => r = .returned (.tuple #[]) ∧ Ext w0 w' ∧ Inv w' (acc ++ [x])) (N : Nat) :
    ∀ (e : E) (w : World) (b o : Nat) (acc : List E), e.size ≤ N → (∀ x ∈ e.leaves, Q x) → IsE w0 b o e → Ext w0 w → Inv w acc →
      Calls Tryz.prog 71 #[.pointer (some ⟨b, o, none⟩), .func (.func 72) #[] #[.pointer (some ⟨A, 0, none⟩), .pointer (some ⟨B, 0, none⟩), .pointer (some ⟨G, 0, none⟩)]] w fun r w' => r = .returned (.tuple #[]) ∧ Ext w0 w' ∧ Inv w' (acc ++ e.leaves) := by
  have HC := Lib.hid hκ; clear hκ
  induction N with
  | zero => intro e w b o acc h; have := e.size_pos; omega
  | succ N ih =>
    intro e w b o acc hN hQ hE hx hI
    have IH := Lib.hid ih; have HI := Lib.hid hI; have HQ := Lib.hid hQ
    clear ih hI hQ
    obtain ⟨op, wd, n, ks⟩ := e
    by_cases hks : ks = []
    · subst hks
      obtain ⟨_, _, _, kv, h3, hk⟩ := hE.cells
      obtain ⟨a, cap, rfl⟩ := SliceAt.shape hk
      have g3 := hx.cell h3
      simp only [E.kids_mk, List.length_nil] at g3
      have HX := Lib.hid hx; clear hx hk
      go_enter Tryz.func71, Tryz.ntmps71
      go_wp2_with fail
      refine (HC.out _ _ b o acc (HQ.out _ (by rw [leaves_nil]; simp)) hE HX.out HI.out).mono ?_
      rintro r w1 ⟨rfl, hx1, hI1⟩
      have q3 := hx1.cell h3
      simp only [E.kids_mk, List.length_nil] at q3
      have HX1 := Lib.hid hx1; have HI1 := Lib.hid hI1; clear hx1 hI1
      go_wp2_with fail
      refine wp_loop_rounds 1 ?_
      rw [rounds_succ]
      go_wp2_with fail
      go_end0
      exact ⟨rfl, HX1.out, by rw [leaves_nil]; exact HI1.out⟩
    · obtain ⟨b', o', cap, h3, hlen, hk⟩ := hE.kid hks
      have g3 := hx.cell h3
      have hne : (((ks.length : Nat) : Int) == 0) = false := by
        rw [beq_eq_false_iff_ne]; intro h; exact hks (List.length_eq_zero_iff.1 (by omega))
      have HX := Lib.hid hx; have HK := Lib.hid hk; have HNE := Lib.hid hks; clear hx hk hks
      go_enter Tryz.func71, Tryz.ntmps71
      go_wp2_with fail
      go_loopw [4, 19] (fun _ i wr => ∃ k : Nat, k ≤ ks.length ∧ i = .int .i64 k ∧ Ext w0 wr ∧ Inv wr (acc ++ leavesAll (ks.take k))) (fun _ i _ => ks.length - (intOf i).toNat)
      case atStart => exact ⟨0, Nat.zero_le _, rfl, HX.out, by simpa [leavesAll] using HI.out⟩
      case round =>
        obtain ⟨k, hk, rfl, l1, l2⟩ := hrel
        have q3 := l1.cell h3
        have HL1 := Lib.hid l1; have HL2 := Lib.hid l2; clear l1 l2
        by_cases hlt : k < ks.length
        · have hin : ks[k] ∈ ks := List.getElem_mem hlt
          have hsz : ks[k].size ≤ N := by have := size_kid (op := op) (wd := wd) (n := n) hin; omega
          go_wp2_with fail
          refine (IH.out ks[k] _ b' (o' + k * 4) _ hsz (fun x hx => HQ.out x (by rw [leaves_cons HNE.out]; exact mem_leavesAll.2 ⟨_, hin, hx⟩)) (HK.out k hlt) HL1.out HL2.out).mono ?_
          rintro r w1 ⟨rfl, hx1, hI1⟩
          have HX1 := Lib.hid hx1; have HI1 := Lib.hid hI1; clear hx1 hI1
          go_wp2_with fail
          go_roundw
          case rel => exact ⟨k + 1, by omega, by go_num, HX1.out, by rw [leavesAll_take_succ hlt, ← List.append_assoc]; exact HI1.out⟩
          case measure => simp [intOf]; omega
        · have hkl : k = ks.length := by omega
          have HF : Hid (Inv wr (acc ++ (E.mk op wd n ks).leaves)) := by have := HL2.out; rw [hkl, List.take_length] at this; rw [leaves_cons HNE.out]; exact this
          clear hkl
          go_wp2_with fail
          go_end0
          exact ⟨rfl, HL1.out, HF.out⟩

set_option maxHeartbeats 1000000 in
theorem leaves_support (w0 : World) (A : Nat) (B : Nat) (Q : E → Prop) (Inv : World → List E → Prop)
    (hκ : ∀ (x : E) (w : World) (b o : Nat) (acc : List E), Q x → IsE w0 b o x → Ext w0 w → Inv w acc →
      Calls Tryz.prog 73 #[.pointer (some ⟨b, o, none⟩), .pointer (some ⟨A, 0, none⟩), .pointer (some ⟨B, 0, none⟩)] w fun r w' => r = .returned (.tuple #[]) ∧ Ext w0 w' ∧ Inv w' (acc ++ [x])) (N : Nat) :
    ∀ (e : E) (w : World) (b o : Nat) (acc : List E), e.size ≤ N → (∀ x ∈ e.leaves, Q x) → IsE w0 b o e → Ext w0 w → Inv w acc →
      Calls Tryz.prog 71 #[.pointer (some ⟨b, o, none⟩), .func (.func 73) #[] #[.pointer (some ⟨A, 0, none⟩), .pointer (some ⟨B, 0, none⟩)]] w fun r w' => r = .returned (.tuple #[]) ∧ Ext w0 w' ∧ Inv w' (acc ++ e.leaves) := by
  have HC := Lib.hid hκ; clear hκ
  induction N with
  | zero => intro e w b o acc h; have := e.size_pos; omega
  | succ N ih =>
    intro e w b o acc hN hQ hE hx hI
    have IH := Lib.hid ih; have HI := Lib.hid hI; have HQ := Lib.hid hQ
    clear ih hI hQ
    obtain ⟨op, wd, n, ks⟩ := e
    by_cases hks : ks = []
    · subst hks
      obtain ⟨_, _, _, kv, h3, hk⟩ := hE.cells
      obtain ⟨a, cap, rfl⟩ := SliceAt.shape hk
      have g3 := hx.cell h3
      simp only [E.kids_mk, List.length_nil] at g3
      have HX := Lib.hid hx; clear hx hk
      go_enter Tryz.func71, Tryz.ntmps71
      go_wp2_with fail
      refine (HC.out _ _ b o acc (HQ.out _ (by rw [leaves_nil]; simp)) hE HX.out HI.out).mono ?_
      rintro r w1 ⟨rfl, hx1, hI1⟩
      have q3 := hx1.cell h3
      simp only [E.kids_mk, List.length_nil] at q3
      have HX1 := Lib.hid hx1; have HI1 := Lib.hid hI1; clear hx1 hI1
      go_wp2_with fail
      refine wp_loop_rounds 1 ?_
      rw [rounds_succ]
      go_wp2_with fail
      go_end0
      exact ⟨rfl, HX1.out, by rw [leaves_nil]; exact HI1.out⟩
    · obtain ⟨b', o', cap, h3, hlen, hk⟩ := hE.kid hks
      have g3 := hx.cell h3
      have hne : (((ks.length : Nat) : Int) == 0) = false := by
        rw [beq_eq_false_iff_ne]; intro h; exact hks (List.length_eq_zero_iff.1 (by omega))
      have HX := Lib.hid hx; have HK := Lib.hid hk; have HNE := Lib.hid hks; clear hx hk hks
      go_enter Tryz.func71, Tryz.ntmps71
      go_wp2_with fail
      go_loopw [4, 19] (fun _ i wr => ∃ k : Nat, k ≤ ks.length ∧ i = .int .i64 k ∧ Ext w0 wr ∧ Inv wr (acc ++ leavesAll (ks.take k))) (fun _ i _ => ks.length - (intOf i).toNat)
      case atStart => exact ⟨0, Nat.zero_le _, rfl, HX.out, by simpa [leavesAll] using HI.out⟩
      case round =>
        obtain ⟨k, hk, rfl, l1, l2⟩ := hrel
        have q3 := l1.cell h3
        have HL1 := Lib.hid l1; have HL2 := Lib.hid l2; clear l1 l2
        by_cases hlt : k < ks.length
        · have hin : ks[k] ∈ ks := List.getElem_mem hlt
          have hsz : ks[k].size ≤ N := by have := size_kid (op := op) (wd := wd) (n := n) hin; omega
          go_wp2_with fail
          refine (IH.out ks[k] _ b' (o' + k * 4) _ hsz (fun x hx => HQ.out x (by rw [leaves_cons HNE.out]; exact mem_leavesAll.2 ⟨_, hin, hx⟩)) (HK.out k hlt) HL1.out HL2.out).mono ?_
          rintro r w1 ⟨rfl, hx1, hI1⟩
          have HX1 := Lib.hid hx1; have HI1 := Lib.hid hI1; clear hx1 hI1
          go_wp2_with fail
          go_roundw
          case rel => exact ⟨k + 1, by omega, by go_num, HX1.out, by rw [leavesAll_take_succ hlt, ← List.append_assoc]; exact HI1.out⟩
          case measure => simp [intOf]; omega
        · have hkl : k = ks.length := by omega
          have HF : Hid (Inv wr (acc ++ (E.mk op wd n ks).leaves)) := by have := HL2.out; rw [hkl, List.take_length] at this; rw [leaves_cons HNE.out]; exact this
          clear hkl
          go_wp2_with fail
          go_end0
          exact ⟨rfl, HL1.out, HF.out⟩
end Go.Proofs.YtlnahhlddekhoaaGreatDoor
namespace Go.Proofs.YtlnahhlddekhoaaGreatDoor
open Go.RowKit

/-- The newest block. -/
theorem heap_new (w : World) (o : Obj) : (w.alloc o).heap[w.heap.size]? = some o := by
  show (w.heap.push o)[w.heap.size]? = _
  simp
theorem infoInt : (Tryz.prog.info? 3).map (fun i => (i.zero, i.size, i.bytes)) = some (some (.int .i64 0), 1, 8) := by kernel_rfl

/-- A slice of ints of the call's own: nil, or at the head of a block from 'base' on. -/
def OwnInts (w : World) (base : Nat) (v : Value) (l : List Int) : Prop := w.ownsRow base 3 1 v l.length (l.map (Value.int .i64))

theorem OwnInts.nil (w : World) (base : Nat) : OwnInts w base (.slice none 0 0) [] := ⟨rfl, .inl ⟨rfl, rfl⟩⟩

/-- It reads as the list. -/
theorem OwnInts.ints {w : World} {base : Nat} {v : Value} {l : List Int} (h : OwnInts w base v l) : Ints w v l := by
  obtain ⟨_, h2⟩ := h
  rcases h2 with ⟨rfl, hl⟩ | ⟨g, cap, cur, rfl, _, hh, hn, hc, hs, ht⟩
  · exact .inl ⟨⟨_, _, rfl⟩, List.length_eq_zero_iff.1 hl⟩
  · refine .inr ⟨g, 0, cap, rfl, by unfold maxLen at hc; omega, fun i hi => ?_⟩
    rw [Nat.mul_one] at ht
    have e : cur.toList[i]? = some (.int .i64 l[i]) := by
      have := congrArg (fun x => x[i]?) ht
      simp only [List.getElem?_take, if_pos hi] at this
      rw [this]; simp [hi]
    simp only [IntAt, World.cell?, hh, Nat.zero_add, Nat.mul_one]
    simpa using e

/-- It is kept by what leaves its block alone. -/
theorem OwnInts.kept {w w' : World} {base : Nat} {v : Value} {l : List Int} (h : OwnInts w base v l) (hx : Ext w w') : OwnInts w' base v l := by
  obtain ⟨h1, h2⟩ := h
  refine ⟨h1, ?_⟩
  rcases h2 with h2 | ⟨g, cap, cur, hv, hg, hh, r⟩
  · exact .inl h2
  · refine .inr ⟨g, cap, cur, hv, hg, ?_, r⟩
    have hlt : g < w.heap.size := by
      rcases Nat.lt_or_ge g w.heap.size with h | h
      · exact h
      · rw [Array.getElem?_eq_none_iff.2 h] at hh; cases hh
    rw [hx.block g hlt]; exact hh

/-- The block of such a slice, if there is one, is from base on. -/
theorem OwnInts.base {w : World} {base : Nat} {v : Value} {l : List Int} (h : OwnInts w base v l) (k : Nat) (hk : v.ownBlock = some k) : base ≤ k := by
  rcases h.2 with ⟨rfl, _⟩ | ⟨g, cap, cur, rfl, hg, _⟩
  · cases hk
  · simp [Value.ownBlock] at hk; omega

/-- After an append: the world below 'B' is as it was. -/
theorem Ext.grown {a w w' : World} {row : Option Nat} (h : Ext a w) (hg : w.grownBy w' row) (hr : ∀ k, row = some k → a.heap.size ≤ k) : Ext a w' :=
  Below.grown h hg h.size hr

/-- 'append(list, n)' on a slice of ints of the call's own; wr: the world before the block of the one new element. -/
theorem wpList_append_int {ops : Array Oper} {rest : List Oper} {o : Oper} {a : Act} {Q : Exit → Act → World → Prop} (hgd : o.guard = none) (s x : Operand)
    (ho : o.op = .call { callee := .builtin .append, args := #[s, x], argTypes := #[23, 23] }) (base : Nat) (wr : World) (v : Value) (l : List Int) (n : Int)
    (hs : a.eval s = v) (hx : a.eval x = .slice (some ⟨wr.heap.size, 0, none⟩) 1 1) (hown : OwnInts wr base v l) (hl : l.length ≤ 1000000000) (hb : base ≤ wr.heap.size)
    (h : ∀ v' w', OwnInts w' base v' (l ++ [n]) → wr.grownBy w' v.ownBlock → wpList Tryz.prog ops Q rest (a.put o.dst v') w') : wpList Tryz.prog ops Q (o :: rest) a (wr.alloc (.cells #[.int .i64 n] 3)) := by
  obtain ⟨i0, hi, hz0, hz1, hz2⟩ := info_parts infoInt
  refine wpList_append_own _ hgd s x 23 ho base 3 i0 (.int .i64 0) 1 8 Tryz.underlying23 hi hz0 hz1 hz2 rfl (by decide) v l.length (l.map (Value.int .i64)) hs (hown.kept ((Ext.refl wr).alloc _)) ⟨wr.heap.size, 0, none⟩ 1 1 [.int .i64 n] hx rfl ?_ ?_ ?_ ?_ ?_ ?_
  · intro j u hj
    obtain ⟨rfl, rfl⟩ : j = 0 ∧ u = .int .i64 n := by
      cases j with
      | zero => simp at hj; exact ⟨rfl, hj.symm⟩
      | succ j => simp at hj
    simp [Addr.add]
  · intro u hu; simp at hu; subst hu; rfl
  · unfold maxLen; omega
  · omega
  · simp; omega
  · intro v' w' h1 h2 _
    refine h v' w' (by simpa [OwnInts] using h1) ⟨h2.os, h2.tape, h2.output, ?_, fun k hk hne => ?_⟩
    · have := h2.size; simp at this; omega
    · rw [h2.block k (by simp; omega) hne]; exact Below.heap_alloc wr _ k hk

end Go.Proofs.YtlnahhlddekhoaaGreatDoor
