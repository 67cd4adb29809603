/-
  The walk of the reader's number.
  The walk of the reader's word.
  A slice of expressions that a call makes by appending; plain facts on memory.
-/
import Derived.Test.YtlcgbdjmlnjhcaaGreatDoorG23
import Derived.Deep.LoopGhost
import Derived.Laws.Cover4
import Derived.Test.YtlcgbdjmlnjhcaaGreatDoorG14
import Derived.Test.YtlcgbdjmlnjhcaaGreatDoorG17
import Derived.Laws.ResultCell
import Derived.Lib.OthersKept
import Derived.Deep.AppendLies
namespace Go.Proofs.YtlcgbdjmlnjhcaaGreatDoor
open Go.RowKit

def isDig (x : Int) : Bool := decide (48 ≤ x) && decide (x ≤ 57)
/-- A number: up to three digits, no superfluous zeros; j digits with the value n have been read. -/
def numFrom : List Int → Nat → Int → Option (Int × Nat)
  | [], j, n => if 0 < j then some (n, j) else none
  | x :: r, j, n => if isDig x then (if j = 3 ∨ (0 < j ∧ n = 0) then none else numFrom r (j + 1) (10 * n + (x - 48))) else if 0 < j then some (n, j) else none
def numSd (s : List Int) : Option (Int × Nat) := numFrom s 0 0

theorem drop_cons {l : List Int} {k : Nat} (h : k < l.length) : l.drop k = l[k] :: l.drop (k + 1) := List.drop_eq_getElem_cons h
theorem numFrom_dig {l : List Int} {k j : Nat} {n : Int} (h : isDig (peekS l k) = true) (hf : ¬ (j = 3 ∨ (0 < j ∧ n = 0))) : numFrom (l.drop k) j n = numFrom (l.drop (k + 1)) (j + 1) (10 * n + (peekS l k - 48)) := by
  have hk : k < l.length := peekS_in (by intro e; rw [e] at h; simp [isDig] at h)
  rw [drop_cons hk]
  simp only [numFrom]
  rw [← peekS_lt hk, h, if_pos rfl, if_neg hf]
theorem numFrom_bad {l : List Int} {k j : Nat} {n : Int} (h : isDig (peekS l k) = true) (hf : j = 3 ∨ (0 < j ∧ n = 0)) : numFrom (l.drop k) j n = none := by
  have hk : k < l.length := peekS_in (by intro e; rw [e] at h; simp [isDig] at h)
  rw [drop_cons hk]
  simp only [numFrom]
  rw [← peekS_lt hk, h, if_pos rfl, if_pos hf]
theorem numFrom_end {l : List Int} {k j : Nat} {n : Int} (h : isDig (peekS l k) = false) : numFrom (l.drop k) j n = if 0 < j then some (n, j) else none := by
  by_cases hk : k < l.length
  · rw [drop_cons hk]
    simp only [numFrom]
    rw [← peekS_lt hk, h]; simp
  · rw [List.drop_eq_nil_of_le (by omega)]; rfl

end Go.Proofs.YtlcgbdjmlnjhcaaGreatDoor
namespace Go.Proofs.YtlcgbdjmlnjhcaaGreatDoor
open Go.RowKit

def isLow (x : Int) : Bool := decide (97 ≤ x) && decide (x ≤ 122)
/-- How many letters come next. -/
def wordN : List Int → Nat
  | [] => 0
  | x :: r => if isLow x then wordN r + 1 else 0
def bytesOf (l : List Int) : List UInt8 := l.map fun x => UInt8.ofNat x.toNat
theorem wordN_dig {l : List Int} {k : Nat} (h : isLow (peekS l k) = true) : wordN (l.drop k) = wordN (l.drop (k + 1)) + 1 := by
  have hk : k < l.length := peekS_in (by intro e; rw [e] at h; simp [isLow] at h)
  rw [drop_cons hk, wordN, ← peekS_lt hk, h, if_pos rfl]
theorem wordN_end {l : List Int} {k : Nat} (h : isLow (peekS l k) = false) : wordN (l.drop k) = 0 := by
  by_cases hk : k < l.length
  · rw [drop_cons hk, wordN, ← peekS_lt hk, h]; simp
  · rw [List.drop_eq_nil_of_le (by omega)]; rfl
theorem wordN_le (s : List Int) : wordN s ≤ s.length := by
  induction s with
  | nil => simp [wordN]
  | cons x r ih => simp only [wordN]; split <;> simp <;> omega
theorem wordN_low (s : List Int) : ∀ x ∈ s.take (wordN s), isLow x = true := by
  induction s with
  | nil => simp [wordN]
  | cons x r ih =>
    simp only [wordN]
    split
    · next h => intro y hy; rcases List.mem_cons.1 (by simpa using hy) with rfl | hy; exact h; exact ih y hy
    · simp
theorem encode_ascii (x : Int) (h0 : 0 ≤ x) (h : x < 128) : Utf8.encode x = ⟨#[UInt8.ofNat x.toNat]⟩ := by
  have hv : Utf8.valid x = true := by simp [Utf8.valid]; omega
  unfold Utf8.encode
  simp only [hv, if_true]
  rw [if_pos (show x.toNat < 0x80 by omega)]
theorem runesBytes_ascii (l : List Int) (h : ∀ x ∈ l, 0 ≤ x ∧ x < 128) : runesBytes l = ⟨(bytesOf l).toArray⟩ := by
  have key : ∀ (l : List Int) (acc : List UInt8), (∀ x ∈ l, 0 ≤ x ∧ x < 128) → l.foldl (fun r n => r ++ Utf8.encode n) ⟨acc.toArray⟩ = (⟨(acc ++ bytesOf l).toArray⟩ : ByteArray) := by
    intro l
    induction l with
    | nil => intro acc _; simp [bytesOf]
    | cons x r ih =>
      intro acc hx
      obtain ⟨h0, h1⟩ := hx x (by simp)
      rw [List.foldl_cons, encode_ascii x h0 h1]
      have : ((⟨acc.toArray⟩ : ByteArray) ++ ⟨#[UInt8.ofNat x.toNat]⟩) = ⟨(acc ++ [UInt8.ofNat x.toNat]).toArray⟩ := by
        apply ByteArray.ext; simp [ByteArray.data_append]
      rw [this, ih _ (fun y hy => hx y (by simp [hy]))]
      simp [bytesOf]
  exact key l [] h

/-- The letters that come next. -/
def wordB (l : List Int) (k : Nat) : List UInt8 := bytesOf ((l.drop k).take (wordN (l.drop k)))
theorem wordB_runes (l : List Int) (k : Nat) : runesBytes ((l.drop k).take (wordN (l.drop k))) = ⟨(wordB l k).toArray⟩ :=
  runesBytes_ascii _ fun x hx => by have := wordN_low _ x hx; simp [isLow] at this; omega

theorem addr_add (b o j : Nat) : (⟨b, o, none⟩ : Addr).add j = ⟨b, o + j, none⟩ := by
  unfold Addr.add; split
  · next h => subst h; rfl
  · rfl
end Go.Proofs.YtlcgbdjmlnjhcaaGreatDoor
namespace Go.Proofs.YtlcgbdjmlnjhcaaGreatDoor
open Go.RowKit

/-- The expression lies at block b, offset o; the blocks of its kids are in S; nodes have kids, leaves have none. -/
inductive IsS (S : Nat → Prop) (w : World) : Nat → Nat → E → Prop
  | leaf {b o : Nat} {op wd n : Int} : w.cell? ⟨b, o, .none⟩ = some (.int .i64 op) → w.cell? ⟨b, o + 1, .none⟩ = some (.int .i64 wd) → w.cell? ⟨b, o + 2, .none⟩ = some (.int .i64 n) →
      w.cell? ⟨b, o + 3, .none⟩ = some (.slice .none 0 0) → IsS S w b o (.mk op wd n [])
  | node {b o : Nat} {op wd n : Int} {ks : List E} {b' o' cap : Nat} : w.cell? ⟨b, o, .none⟩ = some (.int .i64 op) → w.cell? ⟨b, o + 1, .none⟩ = some (.int .i64 wd) → w.cell? ⟨b, o + 2, .none⟩ = some (.int .i64 n) →
      w.cell? ⟨b, o + 3, .none⟩ = some (.slice (.some ⟨b', o', .none⟩) ks.length cap) → ks.length ≤ 9223372036854775807 → b' < w.heap.size → S b' → (∀ (i : Nat) (h : i < ks.length), IsS S w b' (o' + i * 4) ks[i]) → IsS S w b o (.mk op wd n ks)
def KidsS (S : Nat → Prop) (w : World) (v : Value) (ks : List E) : Prop :=
  (v = .slice .none 0 0 ∧ ks = []) ∨ ∃ b o cap : Nat, v = .slice (.some ⟨b, o, .none⟩) ks.length cap ∧ ks.length ≤ 9223372036854775807 ∧ b < w.heap.size ∧ S b ∧ ∀ (i : Nat) (h : i < ks.length), IsS S w b (o + i * 4) ks[i]
def EValS (S : Nat → Prop) (w : World) (v : Value) (e : E) : Prop := ∃ k, v = .agg #[.int .i64 e.op, .int .i64 e.wd, .int .i64 e.n, k] ∧ KidsS S w k e.kids

theorem IsS.isE {S : Nat → Prop} {w : World} {b o : Nat} {e : E} (h : IsS S w b o e) : IsE w b o e := by
  induction h with
  | leaf h0 h1 h2 h3 => exact .leaf h0 h1 h2 h3
  | node h0 h1 h2 h3 hl _ _ _ ih => exact .node h0 h1 h2 h3 hl ih
theorem KidsS.kids {S : Nat → Prop} {w : World} {v : Value} {ks : List E} (h : KidsS S w v ks) : Kids w v ks := by
  rcases h with h | ⟨b, o, cap, h1, hl, _, _, h2⟩
  · exact .inl ⟨⟨_, _, h.1⟩, h.2⟩
  · exact .inr ⟨b, o, cap, h1, hl, fun i hi => (h2 i hi).isE⟩
theorem EValS.eVal {S : Nat → Prop} {w : World} {v : Value} {e : E} (h : EValS S w v e) : EVal w v e := by
  obtain ⟨k, h1, h2⟩ := h; exact ⟨k, h1, h2.kids⟩
theorem IsS.mono {S S' : Nat → Prop} {w : World} {b o : Nat} {e : E} (h : IsS S w b o e) (hS : ∀ k, k < w.heap.size → S k → S' k) : IsS S' w b o e := by
  induction h with
  | leaf h0 h1 h2 h3 => exact .leaf h0 h1 h2 h3
  | node h0 h1 h2 h3 hl hb hs _ ih => exact .node h0 h1 h2 h3 hl hb (hS _ hb hs) ih
theorem KidsS.mono {S S' : Nat → Prop} {w : World} {v : Value} {ks : List E} (h : KidsS S w v ks) (hS : ∀ k, k < w.heap.size → S k → S' k) : KidsS S' w v ks := by
  rcases h with h | ⟨b, o, cap, h1, hl, hb, hs, h2⟩
  · exact .inl h
  · exact .inr ⟨b, o, cap, h1, hl, hb, hS _ hb hs, fun i hi => (h2 i hi).mono hS⟩
/-- The blocks in S are as they were. -/
def AsIn (S : Nat → Prop) (w w' : World) : Prop := w.heap.size ≤ w'.heap.size ∧ ∀ k, S k → k < w.heap.size → w'.heap[k]? = w.heap[k]?
theorem AsIn.cell {S : Nat → Prop} {w w' : World} (h : AsIn S w w') {p : Addr} {v : Value} (hp : S p.block) (hc : w.cell? p = some v) : w'.cell? p = some v := by
  rw [World.cell?_of_block (h.2 p.block hp (block_lt hc))]; exact hc
theorem IsS.keep {S : Nat → Prop} {w w' : World} {b o : Nat} {e : E} (h : IsS S w b o e) (hb : S b) (hx : AsIn S w w') : IsS S w' b o e := by
  induction h with
  | leaf h0 h1 h2 h3 => exact .leaf (hx.cell hb h0) (hx.cell hb h1) (hx.cell hb h2) (hx.cell hb h3)
  | node h0 h1 h2 h3 hl hb' hs _ ih => exact .node (hx.cell hb h0) (hx.cell hb h1) (hx.cell hb h2) (hx.cell hb h3) hl (Nat.lt_of_lt_of_le hb' hx.1) hs (fun i hi => ih i hi hs)
theorem KidsS.keep {S : Nat → Prop} {w w' : World} {v : Value} {ks : List E} (h : KidsS S w v ks) (hx : AsIn S w w') : KidsS S w' v ks := by
  rcases h with h | ⟨b, o, cap, h1, hl, hb, hs, h2⟩
  · exact .inl h
  · exact .inr ⟨b, o, cap, h1, hl, Nat.lt_of_lt_of_le hb hx.1, hs, fun i hi => (h2 i hi).keep hs hx⟩
theorem asIn_ext {S : Nat → Prop} {w w' : World} (h : Ext w w') : AsIn S w w' := ⟨h.size, fun k _ hk => h.block k hk⟩
theorem asIn_grown {S : Nat → Prop} {w w' : World} {g : Option Nat} (h : w.grownBy w' g) (hS : ∀ k, S k → some k ≠ g) : AsIn S w w' := ⟨h.size, fun k hs hk => h.block k hk (hS k hs)⟩
theorem asIn_put4 {S : Nat → Prop} {w : World} {R o : Nat} {a b c d : Value} (hR : ¬ S R) : AsIn S w (put4 w R o a b c d) := ⟨by rw [put4_size]; exact Nat.le_refl _, fun k hs _ => put4_heap k (fun e => hR (e ▸ hs))⟩
theorem asIn_set {S : Nat → Prop} {w : World} {R o : Nat} {v : Value} (hR : ¬ S R) : AsIn S w (w.setCell ⟨R, o, none⟩ v) := ⟨by simp [World.setCell], fun k hs _ => Below.heap_setCell _ _ _ _ (fun e => hR (by have e' : k = R := e; exact e' ▸ hs))⟩
theorem AsIn.trans {S : Nat → Prop} {a b c : World} (h : AsIn S a b) (k : AsIn S b c) : AsIn S a c := ⟨Nat.le_trans h.1 k.1, fun i hs hi => (k.2 i hs (Nat.lt_of_lt_of_le hi h.1)).trans (h.2 i hs hi)⟩

def cells4' (p : E × Value) : List Value := [.int .i64 p.1.op, .int .i64 p.1.wd, .int .i64 p.1.n, p.2]
def flat4 (ps : List (E × Value)) : List Value := ps.flatMap cells4'
theorem flat4_len (ps : List (E × Value)) : (flat4 ps).length = ps.length * 4 := by
  induction ps with
  | nil => rfl
  | cons p r ih => simp only [flat4, List.flatMap_cons, List.length_append, List.length_cons, cells4', List.length_nil] at *; omega
theorem flat4_get (ps : List (E × Value)) (i j : Nat) (hi : i < ps.length) (hj : j < 4) : (flat4 ps)[i * 4 + j]? = (cells4' ps[i])[j]? := by
  induction ps generalizing i with
  | nil => simp at hi
  | cons p r ih =>
    simp only [flat4, List.flatMap_cons]
    cases i with
    | zero => rw [List.getElem?_append_left (by simp [cells4']; omega)]; simp
    | succ i =>
      rw [List.getElem?_append_right (by simp [cells4']; omega)]
      have := ih i (by simpa using hi)
      simp only [flat4] at this
      simp only [cells4', List.length_cons, List.length_nil, List.getElem_cons_succ] at *
      rw [show (i + 1) * 4 + j - (0 + 1 + 1 + 1 + 1) = i * 4 + j by omega]
      exact this

/-- A slice of expressions of the call's own, from 'base' on; the blocks of the kids are not the slice's. -/
def OwnE (w : World) (base : Nat) (v : Value) (ps : List (E × Value)) : Prop :=
  w.ownsRow base 25 4 v ps.length (flat4 ps) ∧ ∀ p ∈ ps, KidsS (fun b => base ≤ b ∧ some b ≠ v.ownBlock) w p.2 p.1.kids
theorem OwnE.nil (w : World) (base : Nat) : OwnE w base (.slice none 0 0) [] := ⟨⟨rfl, .inl ⟨rfl, rfl⟩⟩, fun _ h => by cases h⟩
theorem OwnE.shape {w : World} {base : Nat} {v : Value} {ps : List (E × Value)} (h : OwnE w base v ps) : ∃ a c, v = .slice a ps.length c := by
  rcases h.1.2 with ⟨rfl, hl⟩ | ⟨g, cap, cur, rfl, _⟩
  · exact ⟨none, 0, by rw [hl]⟩
  · exact ⟨_, _, rfl⟩
theorem OwnE.base {w : World} {base : Nat} {v : Value} {ps : List (E × Value)} (h : OwnE w base v ps) (k : Nat) (hk : v.ownBlock = some k) : base ≤ k ∧ k < w.heap.size := by
  rcases h.1.2 with ⟨rfl, _⟩ | ⟨g, cap, cur, rfl, hg, hh, _⟩
  · cases hk
  · simp [Value.ownBlock] at hk
    subst hk
    refine ⟨hg, ?_⟩
    rcases Nat.lt_or_ge g w.heap.size with h | h
    · exact h
    · rw [Array.getElem?_eq_none_iff.2 h] at hh; cases hh
/-- Kept by what leaves the blocks from base on alone. -/
theorem OwnE.keep {w w' : World} {base : Nat} {v : Value} {ps : List (E × Value)} (h : OwnE w base v ps) (hx : AsIn (fun b => base ≤ b) w w') : OwnE w' base v ps := by
  refine ⟨⟨h.1.1, ?_⟩, fun p hp => (h.2 p hp).keep ⟨hx.1, fun k hs hk => hx.2 k hs.1 hk⟩⟩
  rcases h.1.2 with h2 | ⟨g, cap, cur, hv, hg, hh, r⟩
  · exact .inl h2
  · refine .inr ⟨g, cap, cur, hv, hg, ?_, r⟩
    have hlt : g < w.heap.size := by
      rcases Nat.lt_or_ge g w.heap.size with h | h
      · exact h
      · rw [Array.getElem?_eq_none_iff.2 h] at hh; cases hh
    rw [hx.2 g hg hlt]; exact hh
/-- It reads as the list of expressions. -/
theorem OwnE.kids {w : World} {base : Nat} {v : Value} {ps : List (E × Value)} (h : OwnE w base v ps) : KidsS (fun b => base ≤ b) w v (ps.map (·.1)) := by
  rcases h.1.2 with ⟨rfl, hl⟩ | ⟨g, cap, cur, rfl, hg, hh, hn, hc, hs, ht⟩
  · have := List.length_eq_zero_iff.1 hl; subst this; exact .inl ⟨rfl, rfl⟩
  · have hlt : g < w.heap.size := by
      rcases Nat.lt_or_ge g w.heap.size with h | h
      · exact h
      · rw [Array.getElem?_eq_none_iff.2 h] at hh; cases hh
    refine .inr ⟨g, 0, cap, by rw [List.length_map], by rw [List.length_map]; unfold maxLen at hc; omega, hlt, hg, fun i hi => ?_⟩
    rw [List.length_map] at hi
    have cell : ∀ j, j < 4 → w.cell? ⟨g, i * 4 + j, none⟩ = (cells4' ps[i])[j]? := by
      intro j hj
      have e1 := congrArg (fun x => x[i * 4 + j]?) ht
      rw [List.getElem?_take_of_lt (by omega), flat4_get ps i j hi hj] at e1
      rw [← e1]
      simp [World.cell?, hh]
    have k := (h.2 ps[i] (List.getElem_mem hi)).mono (S' := fun b => base ≤ b) (fun k _ hk => hk.1)
    rw [List.getElem_map, Nat.zero_add]
    have c0 := cell 0 (by omega); have c1 := cell 1 (by omega); have c2 := cell 2 (by omega); have c3 := cell 3 (by omega)
    simp only [cells4', Nat.add_zero, List.getElem?_cons_zero, List.getElem?_cons_succ] at c0 c1 c2 c3
    generalize ps[i] = p at *
    obtain ⟨⟨op, wd, n, ks⟩, kv⟩ := p
    simp only [E.op_mk, E.wd_mk, E.n_mk, E.kids_mk] at *
    rcases k with ⟨rfl, rfl⟩ | ⟨b, o, c, rfl, hl, hb, hsb, hk⟩
    · exact .leaf c0 c1 c2 c3
    · exact .node c0 c1 c2 c3 hl hb hsb hk

theorem KidsS.one {S : Nat → Prop} {w : World} {v : Value} {ks : List E} (h : KidsS S w v ks) : v.oneCell' = true := by
  rcases h with ⟨rfl, _⟩ | ⟨b, o, cap, rfl, _⟩ <;> rfl
theorem KidsS.shape {S : Nat → Prop} {w : World} {v : Value} {ks : List E} (h : KidsS S w v ks) : ∃ a l c, v = .slice a l c := by
  rcases h with ⟨rfl, _⟩ | ⟨b, o, cap, rfl, _⟩
  · exact ⟨_, _, _, rfl⟩
  · exact ⟨_, _, _, rfl⟩

theorem wpList_append_expr {ops : Array Oper} {rest : List Oper} {o : Oper} {a : Act} {Q : Exit → Act → World → Prop} (hgd : o.guard = none) (s x : Operand)
    (ho : o.op = .call { callee := .builtin .append, args := #[s, x], argTypes := #[23, 23] }) (base : Nat) (wr : World) (H : Nat) (hH : wr.heap.size = H) (v : Value) (ps : List (E × Value)) (e : E) (kv : Value)
    (hs : a.eval s = v) (hx' : a.eval x = .slice (some ⟨H, 0, none⟩) 1 1) (hown : OwnE wr base v ps) (hk : KidsS (fun b => base ≤ b ∧ some b ≠ v.ownBlock) wr kv e.kids) (hl : ps.length ≤ 1000000) (hb : base ≤ wr.heap.size)
    (h : ∀ g cap w', OwnE w' base (.slice (some ⟨g, 0, none⟩) (ps.length + 1) cap) (ps ++ [(e, kv)]) → wr.grownBy w' v.ownBlock → base ≤ g → wpList Tryz.prog ops Q rest (a.put o.dst (.slice (some ⟨g, 0, none⟩) (ps.length + 1) cap)) w') :
    wpList Tryz.prog ops Q (o :: rest) a (wr.alloc (.cells #[.int .i64 e.op, .int .i64 e.wd, .int .i64 e.n, kv] 25)) := by
  obtain ⟨i0, hi, hz0, hz1, hz2⟩ := info_parts infoExpr
  have hx : a.eval x = .slice (some ⟨wr.heap.size, 0, none⟩) 1 1 := by rw [hH]; exact hx'
  have hx0 : Ext wr (wr.alloc (.cells #[.int .i64 e.op, .int .i64 e.wd, .int .i64 e.n, kv] 25)) := (Ext.refl wr).alloc _
  have hown0 := hown.keep (asIn_ext hx0)
  refine wpList_append_lies _ hgd s x 23 ho base 25 i0 _ 4 48 Tryz.underlying23 hi hz0 hz1 hz2 rfl (by decide) v ps.length (flat4 ps) hs hown0.1 ⟨wr.heap.size, 0, none⟩ 1 1 (cells4' (e, kv)) hx rfl ?_ ?_ (by decide) ?_ ?_ ?_ (wr.heap.size + 1) (by simp) ?_
  · intro j u hj
    have hj4 : j < 4 := by have := (List.getElem?_eq_some_iff.1 hj).1; simpa [cells4'] using this
    have : j = 0 ∨ j = 1 ∨ j = 2 ∨ j = 3 := by omega
    rw [addr_add]
    rcases this with rfl | rfl | rfl | rfl <;> simp [cells4'] at hj <;> subst hj <;> simp
  · intro u hu
    simp [cells4'] at hu
    rcases hu with rfl | rfl | rfl | rfl
    · rfl
    · rfl
    · rfl
    · exact hk.one
  · unfold maxLen; omega
  · omega
  · simp; omega
  · intro g cap w' h1 h2 h3 h4
    have hgr : wr.grownBy w' v.ownBlock := ⟨h2.os, h2.tape, h2.output, by have := h2.size; simp at this; omega, fun k hk hne => by rw [h2.block k (by simp; omega) hne]; exact Below.heap_alloc wr _ k hk⟩
    have hbg : base ≤ g := by
      rcases h1.2 with ⟨e, _⟩ | ⟨g', _, _, e, hg', _⟩
      · cases e
      · cases e; exact hg'
    have keep : ∀ (u : Value) (ks : List E), KidsS (fun b => base ≤ b ∧ some b ≠ v.ownBlock) wr u ks → KidsS (fun b => base ≤ b ∧ some b ≠ (Value.slice (some ⟨g, 0, none⟩) (ps.length + 1) cap).ownBlock) w' u ks := by
      intro u ks hu
      have h5 : KidsS (fun b => (base ≤ b ∧ some b ≠ v.ownBlock) ∧ b < wr.heap.size) wr u ks := hu.mono fun k hk hs => ⟨hs, hk⟩
      have h6 := h5.keep (w' := w') (asIn_grown hgr fun k hs => hs.1.2)
      refine h6.mono fun k _ hs => ⟨hs.1.1, ?_⟩
      simp only [Value.ownBlock, ne_eq, Option.some.injEq]
      rintro rfl
      rcases h3 with h3 | h3
      · exact hs.1.2 h3.symm
      · omega
    refine h g cap w' ⟨?_, ?_⟩ hgr hbg
    · have : flat4 (ps ++ [(e, kv)]) = flat4 ps ++ cells4' (e, kv) := by simp [flat4]
      rw [this, List.length_append]; exact h1
    · intro p hp
      rcases List.mem_append.1 hp with hp | hp
      · exact keep _ _ (hown.2 p hp)
      · simp at hp; subst hp; exact keep _ _ hk
end Go.Proofs.YtlcgbdjmlnjhcaaGreatDoor
