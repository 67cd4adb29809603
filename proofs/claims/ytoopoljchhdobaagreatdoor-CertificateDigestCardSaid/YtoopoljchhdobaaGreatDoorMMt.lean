/-
  The walk of newRunes: the runes of a string.
  A slice of expressions that a call makes by appending; plain facts on memory.
  The walks of operator and of widthOf.
-/
import Derived.Test.YtoopoljchhdobaaGreatDoorMMs
import Derived.Lib.OthersKept
import Derived.Deep.AppendLies
import Derived.Test.YtoopoljchhdobaaGreatDoorMMf
import Derived.Test.YtoopoljchhdobaaGreatDoorMMb
namespace Go.Proofs.YtoopoljchhdobaaGreatDoor
open Go.RowKit

/-- The runes of s from pos on, as the model decodes them. -/
def runesFrom (s : ByteArray) : Nat → Nat → List Int
  | 0, _ => []
  | fuel + 1, pos => if pos < s.size then ((Utf8.decode s pos).1 : Int) :: runesFrom s fuel (pos + (Utf8.decode s pos).2) else []
def runesOf (s : ByteArray) : List Int := runesFrom s s.size 0
theorem decode_pos (s : ByteArray) (pos : Nat) (h : pos < s.size) : 1 ≤ (Utf8.decode s pos).2 := by
  by_cases ha : (s[pos]'h).toNat < 128
  · rw [decode_ascii s pos h ha]; exact Nat.le_refl _
  · exact (decode_high s pos h (by omega)).2
theorem runesFrom_end (s : ByteArray) (fuel pos : Nat) (h : ¬ pos < s.size) : runesFrom s fuel pos = [] := by
  cases fuel with
  | zero => rfl
  | succ f => simp [runesFrom, h]

theorem infoRune : (Tryz.prog.info? 21).map (fun i => (i.zero, i.size, i.bytes)) = some (some (.int .i32 0), 1, 4) := by kernel_rfl
def OwnRunes (w : World) (base : Nat) (v : Value) (l : List Int) : Prop := w.ownsRow base 21 1 v l.length (l.map (Value.int .i32))
theorem OwnRunes.nil (w : World) (base : Nat) : OwnRunes w base (.slice none 0 0) [] := ⟨rfl, .inl ⟨rfl, rfl⟩⟩
theorem OwnRunes.shape {w : World} {base : Nat} {v : Value} {l : List Int} (h : OwnRunes w base v l) : ∃ a c, v = .slice a l.length c := by
  rcases h.2 with ⟨rfl, hl⟩ | ⟨g, cap, cur, rfl, _⟩
  · exact ⟨none, 0, by rw [hl]⟩
  · exact ⟨_, _, rfl⟩
theorem OwnRunes.base {w : World} {base : Nat} {v : Value} {l : List Int} (h : OwnRunes w base v l) (k : Nat) (hk : v.ownBlock = some k) : base ≤ k := by
  rcases h.2 with ⟨rfl, _⟩ | ⟨g, cap, cur, rfl, hg, _⟩
  · cases hk
  · simp [Value.ownBlock] at hk; omega
/-- It is kept by whatever leaves the blocks from base on alone. -/
theorem OwnRunes.keep {w w' : World} {base : Nat} {v : Value} {l : List Int} (h : OwnRunes w base v l) (hx : AsFrom base w w') : OwnRunes w' base v l := by
  obtain ⟨h1, h2⟩ := h
  refine ⟨h1, ?_⟩
  rcases h2 with h2 | ⟨g, cap, cur, hv, hg, hh, r⟩
  · exact .inl h2
  · refine .inr ⟨g, cap, cur, hv, hg, ?_, r⟩
    have hlt : g < w.heap.size := by
      rcases Nat.lt_or_ge g w.heap.size with h | h
      · exact h
      · rw [Array.getElem?_eq_none_iff.2 h] at hh; cases hh
    rw [hx g hg hlt]; exact hh
theorem OwnRunes.runesIn {w : World} {base RB : Nat} {v : Value} {l : List Int} (h : OwnRunes w base v l) (hl : l.length ≤ 1000000000) (hB : RB < base) (hR : RB < w.heap.size) : RunesIn w RB v l := by
  refine ⟨hR, ?_⟩
  rcases h.2 with ⟨rfl, hl⟩ | ⟨g, cap, cur, rfl, hg, hh, hn, hc, hs, ht⟩
  · exact .inl ⟨rfl, List.length_eq_zero_iff.1 hl⟩
  · have hlt : g < w.heap.size := by
      rcases Nat.lt_or_ge g w.heap.size with h | h
      · exact h
      · rw [Array.getElem?_eq_none_iff.2 h] at hh; cases hh
    refine .inr ⟨g, 0, cap, rfl, hl, by omega, hlt, hn, fun i hi => ?_⟩
    rw [Nat.mul_one] at ht
    have e : cur.toList[i]? = some (.int .i32 l[i]) := by
      have := congrArg (fun x => x[i]?) ht
      simp only [List.getElem?_take, if_pos hi] at this
      rw [this]; simp [hi]
    simp only [World.cell?, hh, Nat.zero_add]
    simpa using e
theorem wpList_append_rune {ops : Array Oper} {rest : List Oper} {o : Oper} {a : Act} {Q : Exit → Act → World → Prop} (hgd : o.guard = none) (s x : Operand)
    (ho : o.op = .call { callee := .builtin .append, args := #[s, x], argTypes := #[58, 58] }) (base : Nat) (wr : World) (v : Value) (l : List Int) (n : Int)
    (hs : a.eval s = v) (hx : a.eval x = .slice (some ⟨wr.heap.size, 0, none⟩) 1 1) (hown : OwnRunes wr base v l) (hl : l.length ≤ 1000000000) (hb : base ≤ wr.heap.size)
    (h : ∀ v' w', OwnRunes w' base v' (l ++ [n]) → wr.grownBy w' v.ownBlock → wpList Tryz.prog ops Q rest (a.put o.dst v') w') : wpList Tryz.prog ops Q (o :: rest) a (wr.alloc (.cells #[.int .i32 n] 21)) := by
  obtain ⟨i0, hi, hz0, hz1, hz2⟩ := info_parts infoRune
  refine wpList_append_own _ hgd s x 58 ho base 21 i0 (.int .i32 0) 1 4 Tryz.underlying58 hi hz0 hz1 hz2 rfl (by decide) v l.length (l.map (Value.int .i32)) hs (hown.keep (((Ext.refl wr).alloc _).asFrom _)) ⟨wr.heap.size, 0, none⟩ 1 1 [.int .i32 n] hx rfl ?_ ?_ ?_ ?_ ?_ ?_
  · intro j u hj
    obtain ⟨rfl, rfl⟩ : j = 0 ∧ u = .int .i32 n := by
      cases j with
      | zero => simp at hj; exact ⟨rfl, hj.symm⟩
      | succ j => simp at hj
    simp [Addr.add]
  · intro u hu; simp at hu; subst hu; rfl
  · unfold maxLen; omega
  · omega
  · simp; omega
  · intro v' w' h1 h2 _
    refine h v' w' (by simpa [OwnRunes] using h1) ⟨h2.os, h2.tape, h2.output, ?_, fun k hk hne => ?_⟩
    · have := h2.size; simp at this; omega
    · rw [h2.block k (by simp; omega) hne]; exact Below.heap_alloc wr _ k hk

def NewRunesPost (s : ByteArray) (w : World) (r : Ending) (w' : World) : Prop :=
  ∃ lv, r = .returned (.pointer (some ⟨w.heap.size, 0, none⟩)) ∧ Ext w w' ∧ w'.heap[w.heap.size]? = some (.cells #[lv, .int .i64 0] 60 (0, 0)) ∧ RunesIn w' w.heap.size lv (runesOf s)
/-- What holds between two rounds. -/
def NRel (s : ByteArray) (w : World) (pos fuel : Nat) (acc : List Int) (v : Value) (wr : World) : Prop :=
  wr.heap[w.heap.size]? = some (.cells #[v, .int .i64 0] 60 (0, 0)) ∧ wr.heap[w.heap.size + 1]? = some (.stringIter s pos) ∧ OwnRunes wr (w.heap.size + 2) v acc ∧ Ext w wr ∧ acc ++ runesFrom s fuel pos = runesOf s ∧ s.size ≤ pos + fuel ∧ acc.length ≤ pos ∧ acc.length ≤ s.size

set_option maxHeartbeats 2000000 in
theorem newRunes_any (s : ByteArray) (w : World) (hs : s.size ≤ 1000000) : Calls Tryz.prog 18 #[.string s] w (NewRunesPost s w) := by
  go_enter Tryz.func18, Tryz.ntmps18
  go_wp2_with fail
  go_loopw [5] (fun _ wr => ∃ (pos fuel : Nat) (acc : List Int) (v : Value), NRel s w pos fuel acc v wr) (fun _ wr => s.size - wr.iterPos (w.heap.size + 1))
  case atStart =>
    refine ⟨0, s.size, [], .slice none 0 0, ?_, ?_, OwnRunes.nil _ _, ?_, rfl, by omega, by simp, by simp⟩
    · show ((w.alloc _).alloc (.stringIter s 0)).heap[w.heap.size]? = _
      rw [Below.heap_alloc _ _ _ (by simp)]; exact heap_new _ _
    · have := World.iter_heap (w.alloc (.cells #[.slice none 0 0, .int .i64 0] 60)) s 0
      simpa using this
    · exact ((Ext.refl w).alloc _).alloc (.stringIter s 0)
  case round =>
    obtain ⟨pos, fuel, acc, v, hb, hit, hown, hx, hacc, hfu, hal, hals⟩ := hrel
    have hsz : w.heap.size + 1 < wr.heap.size := (Array.getElem?_eq_some_iff.1 hit).1
    by_cases hp : pos < s.size
    · have hwd := decode_pos s pos hp
      obtain ⟨f, rfl⟩ : ∃ f, fuel = f + 1 := ⟨fuel - 1, by omega⟩
      have hacc' : (acc ++ [((Utf8.decode s pos).1 : Int)]) ++ runesFrom s f (pos + (Utf8.decode s pos).2) = runesOf s := by
        rw [← hacc]; simp [runesFrom, hp]
      have hnx : ∀ ty, (Instr.next (.pointer (some ⟨w.heap.size + 1, 0, none⟩)) true ty).run Tryz.prog wr = _ := fun ty => Lib.run_next_any_at wr (w.heap.size + 1) s pos ty hit hp
      obtain ⟨W1, hW1⟩ : ∃ W1, W1 = wr.iterAt (w.heap.size + 1) s (pos + (Utf8.decode s pos).2) := ⟨_, rfl⟩
      rw [← hW1] at hnx
      have hs1 : W1.heap.size = wr.heap.size := by rw [hW1, Lib.iterAt_size]
      have hit1 : W1.heap[w.heap.size + 1]? = some (.stringIter s (pos + (Utf8.decode s pos).2)) := by rw [hW1]; exact Lib.iterAt_heap wr _ s pos _ hit
      have hb1 : W1.heap[w.heap.size]? = some (.cells #[v, .int .i64 0] 60 (0, 0)) := by rw [hW1, Lib.iterAt_other _ _ _ _ _ (by omega)]; exact hb
      have hown1 : OwnRunes W1 (w.heap.size + 2) v acc := hown.keep (fun k h1 _ => by rw [hW1, Lib.iterAt_other _ _ _ _ _ (by omega)])
      have hx1 : Ext w W1 := by rw [hW1]; exact Lib.below_iterAt hx (by omega) s _
      obtain ⟨va, vc, rfl⟩ := hown1.shape
      have c0 : W1.cell? ⟨w.heap.size, 0, none⟩ = some (.slice va acc.length vc) := by rw [Lib.cell_of_heap hb1]; rfl
      have HIP : Hid (wr.iterPos (w.heap.size + 1) = pos) := by unfold Hid; simp [World.iterPos, hit]
      have HIT := Lib.hid hit1; have HO := Lib.hid hown1; have HX := Lib.hid hx1; have HA := Lib.hid hacc'; have HB := Lib.hid hb1; have HS1 := Lib.hid hs1
      have hs1' : w.heap.size + 1 < W1.heap.size := by omega
      clear hW1 hit hit1 hown hown1 hx hx1 hacc hacc' hb hb1 hs1
      generalize (Utf8.decode s pos).2 = wid at *
      generalize hrn : ((Utf8.decode s pos).1 : Int) = rn at *
      clear hrn
      go_wp2_with (at_builtin; refine wpList_append_rune rfl (.tmp 17) (.tmp 19) rfl (w.heap.size + 2) W1 _ _ _ rfl rfl HO.out (by omega) (by omega) ?_)
      intro v' w2 hown' hg
      obtain ⟨va', vc', rfl⟩ := hown'.shape
      have hne0 : ∀ k, (Value.slice va acc.length vc).ownBlock = some k → w.heap.size + 2 ≤ k := fun k hk => HO.out.base k hk
      have hb2 : w2.heap[w.heap.size]? = some (.cells #[.slice va acc.length vc, .int .i64 0] 60 (0, 0)) := by
        rw [hg.block _ (by omega) (fun e => by have := hne0 _ e.symm; omega)]; exact HB.out
      have hit2 : w2.heap[w.heap.size + 1]? = some (.stringIter s (pos + wid)) := by
        rw [hg.block _ (by omega) (fun e => by have := hne0 _ e.symm; omega)]; exact HIT.out
      have d0 : w2.cell? ⟨w.heap.size, 0, none⟩ = some (.slice va acc.length vc) := by rw [Lib.cell_of_heap hb2]; rfl
      have g0 : w2.frozen? ⟨w.heap.size, 0, none⟩ = false := Lib.frozen_of_heap hb2 0
      have hx2 : Ext w w2 := HX.out.grown hg (fun q hq => by have := hne0 q hq; omega)
      have HREL : Hid (NRel s w (pos + wid) f (acc ++ [rn]) (.slice va' (acc ++ [rn]).length vc') (w2.setCell ⟨w.heap.size, 0, none⟩ (.slice va' (acc ++ [rn]).length vc'))) := by
        refine ⟨?_, ?_, ?_, hx2.setCell (Nat.le_refl _) _, HA.out, by omega, by simp; omega, ?_⟩
        · simp only [World.setCell, Array.getElem?_modify, if_true, hb2, Option.map_some]; rfl
        · rw [Below.heap_setCell _ _ _ _ (by simp)]; exact hit2
        · exact hown'.keep (asFrom_setCell (by simp))
        · simp; omega
      have HIP2 : Hid ((w2.setCell ⟨w.heap.size, 0, none⟩ (.slice va' (acc ++ [rn]).length vc')).iterPos (w.heap.size + 1) = pos + wid) := by
        unfold Hid World.iterPos
        rw [Below.heap_setCell _ _ _ _ (by simp), hit2]
      clear hown' hg hb2 hit2 hx2 hne0
      generalize (acc ++ [rn]).length = al at *
      go_wp2_with fail
      go_roundw
      case rel => exact ⟨_, _, _, _, HREL.out⟩
      case measure => rw [HIP2.out, HIP.out]; omega
    · have hnx : ∀ ty, (Instr.next (.pointer (some ⟨w.heap.size + 1, 0, none⟩)) true ty).run Tryz.prog wr = _ := fun ty => Lib.run_next_end_at wr (w.heap.size + 1) s pos ty hit hp
      have HF : Hid (NewRunesPost s w (.returned (.pointer (some ⟨w.heap.size, 0, none⟩))) wr) := by
        rw [runesFrom_end s fuel pos hp, List.append_nil] at hacc
        refine ⟨v, rfl, hx, hb, ?_⟩
        rw [← hacc]
        exact hown.runesIn (by omega) (by omega) (by omega)
      clear hown hx hacc hb hit
      go_wp2_with fail
      go_ret
      exact HF.out
end Go.Proofs.YtoopoljchhdobaaGreatDoor
namespace Go.Proofs.YtoopoljchhdobaaGreatDoor
open Go.RowKit

/-- The expression lies at block b, offset o; the blocks of its kids are in S; nodes have kids, leaves have none. -/
inductive IsS (S : Nat → Prop) (w : World) : Nat → Nat → E → Prop
  | leaf {b o : Nat} {op wd n : Int} : w.cell? ⟨b, o, .none⟩ = some (.int .i64 op) → w.cell? ⟨b, o + 1, .none⟩ = some (.int .i64 wd) → w.cell? ⟨b, o + 2, .none⟩ = some (.int .i64 n) →
      w.cell? ⟨b, o + 3, .none⟩ = some (.slice .none 0 0) → IsS S w b o (.mk op wd n [])
  | node {b o : Nat} {op wd n : Int} {ks : List E} {b' o' cap : Nat} : w.cell? ⟨b, o, .none⟩ = some (.int .i64 op) → w.cell? ⟨b, o + 1, .none⟩ = some (.int .i64 wd) → w.cell? ⟨b, o + 2, .none⟩ = some (.int .i64 n) →
      w.cell? ⟨b, o + 3, .none⟩ = some (.slice (.some ⟨b', o', .none⟩) ks.length cap) → ks.length ≤ 9223372036854775807 → b' < w.heap.size → S b' → (∀ (i : Nat) (h : i < ks.length), IsS S w b' (o' + i * 4) ks[i]) → IsS S w b o (.mk op wd n ks)
def KidsS (S : Nat → Prop) (w : World) (v : Value) (ks : List E) : Prop :=
  (v = .slice .none 0 0 ∧ ks = []) ∨ ∃ b o cap : Nat, v = .slice (.some ⟨b, o, .none⟩) ks.length cap ∧ ks.length ≤ 9223372036854775807 ∧ b < w.heap.size ∧ S b ∧ ∀ (i : Nat) (h : i < ks.length), IsS S w b (o + i * 4) ks[i]
def EValS (S : Nat → Prop) (w : World) (v : Value) (e : E) : Prop := ∃ k, v = .agg #[.int .i64 e.op, .int .i64 e.wd, .int .i64 e.n, k] ∧ KidsS S w k e.kids

theorem IsS.isE {S : Nat → Prop} {w : World} {b o : Nat} {e : E} (h : IsS S w b o e) : IsE w b o e := by
  induction h with
  | leaf h0 h1 h2 h3 => exact .leaf h0 h1 h2 h3
  | node h0 h1 h2 h3 hl _ _ _ ih => exact .node h0 h1 h2 h3 hl ih
theorem KidsS.kids {S : Nat → Prop} {w : World} {v : Value} {ks : List E} (h : KidsS S w v ks) : Kids w v ks := by
  rcases h with h | ⟨b, o, cap, h1, hl, _, _, h2⟩
  · exact .inl ⟨⟨_, _, h.1⟩, h.2⟩
  · exact .inr ⟨b, o, cap, h1, hl, fun i hi => (h2 i hi).isE⟩
theorem EValS.eVal {S : Nat → Prop} {w : World} {v : Value} {e : E} (h : EValS S w v e) : EVal w v e := by
  obtain ⟨k, h1, h2⟩ := h; exact ⟨k, h1, h2.kids⟩
theorem IsS.mono {S S' : Nat → Prop} {w : World} {b o : Nat} {e : E} (h : IsS S w b o e) (hS : ∀ k, k < w.heap.size → S k → S' k) : IsS S' w b o e := by
  induction h with
  | leaf h0 h1 h2 h3 => exact .leaf h0 h1 h2 h3
  | node h0 h1 h2 h3 hl hb hs _ ih => exact .node h0 h1 h2 h3 hl hb (hS _ hb hs) ih
theorem KidsS.mono {S S' : Nat → Prop} {w : World} {v : Value} {ks : List E} (h : KidsS S w v ks) (hS : ∀ k, k < w.heap.size → S k → S' k) : KidsS S' w v ks := by
  rcases h with h | ⟨b, o, cap, h1, hl, hb, hs, h2⟩
  · exact .inl h
  · exact .inr ⟨b, o, cap, h1, hl, hb, hS _ hb hs, fun i hi => (h2 i hi).mono hS⟩
/-- The blocks in S are as they were. -/
def AsIn (S : Nat → Prop) (w w' : World) : Prop := w.heap.size ≤ w'.heap.size ∧ ∀ k, S k → k < w.heap.size → w'.heap[k]? = w.heap[k]?
theorem AsIn.cell {S : Nat → Prop} {w w' : World} (h : AsIn S w w') {p : Addr} {v : Value} (hp : S p.block) (hc : w.cell? p = some v) : w'.cell? p = some v := by
  rw [World.cell?_of_block (h.2 p.block hp (block_lt hc))]; exact hc
theorem IsS.keep {S : Nat → Prop} {w w' : World} {b o : Nat} {e : E} (h : IsS S w b o e) (hb : S b) (hx : AsIn S w w') : IsS S w' b o e := by
  induction h with
  | leaf h0 h1 h2 h3 => exact .leaf (hx.cell hb h0) (hx.cell hb h1) (hx.cell hb h2) (hx.cell hb h3)
  | node h0 h1 h2 h3 hl hb' hs _ ih => exact .node (hx.cell hb h0) (hx.cell hb h1) (hx.cell hb h2) (hx.cell hb h3) hl (Nat.lt_of_lt_of_le hb' hx.1) hs (fun i hi => ih i hi hs)
theorem KidsS.keep {S : Nat → Prop} {w w' : World} {v : Value} {ks : List E} (h : KidsS S w v ks) (hx : AsIn S w w') : KidsS S w' v ks := by
  rcases h with h | ⟨b, o, cap, h1, hl, hb, hs, h2⟩
  · exact .inl h
  · exact .inr ⟨b, o, cap, h1, hl, Nat.lt_of_lt_of_le hb hx.1, hs, fun i hi => (h2 i hi).keep hs hx⟩
theorem asIn_ext {S : Nat → Prop} {w w' : World} (h : Ext w w') : AsIn S w w' := ⟨h.size, fun k _ hk => h.block k hk⟩
theorem asIn_grown {S : Nat → Prop} {w w' : World} {g : Option Nat} (h : w.grownBy w' g) (hS : ∀ k, S k → some k ≠ g) : AsIn S w w' := ⟨h.size, fun k hs hk => h.block k hk (hS k hs)⟩
theorem asIn_put4 {S : Nat → Prop} {w : World} {R o : Nat} {a b c d : Value} (hR : ¬ S R) : AsIn S w (put4 w R o a b c d) := ⟨by rw [put4_size]; exact Nat.le_refl _, fun k hs _ => put4_heap k (fun e => hR (e ▸ hs))⟩
theorem asIn_set {S : Nat → Prop} {w : World} {R o : Nat} {v : Value} (hR : ¬ S R) : AsIn S w (w.setCell ⟨R, o, none⟩ v) := ⟨by simp [World.setCell], fun k hs _ => Below.heap_setCell _ _ _ _ (fun e => hR (by have e' : k = R := e; exact e' ▸ hs))⟩
theorem AsIn.trans {S : Nat → Prop} {a b c : World} (h : AsIn S a b) (k : AsIn S b c) : AsIn S a c := ⟨Nat.le_trans h.1 k.1, fun i hs hi => (k.2 i hs (Nat.lt_of_lt_of_le hi h.1)).trans (h.2 i hs hi)⟩

def cells4' (p : E × Value) : List Value := [.int .i64 p.1.op, .int .i64 p.1.wd, .int .i64 p.1.n, p.2]
def flat4 (ps : List (E × Value)) : List Value := ps.flatMap cells4'
theorem flat4_len (ps : List (E × Value)) : (flat4 ps).length = ps.length * 4 := by
  induction ps with
  | nil => rfl
  | cons p r ih => simp only [flat4, List.flatMap_cons, List.length_append, List.length_cons, cells4', List.length_nil] at *; omega
theorem flat4_get (ps : List (E × Value)) (i j : Nat) (hi : i < ps.length) (hj : j < 4) : (flat4 ps)[i * 4 + j]? = (cells4' ps[i])[j]? := by
  induction ps generalizing i with
  | nil => simp at hi
  | cons p r ih =>
    simp only [flat4, List.flatMap_cons]
    cases i with
    | zero => rw [List.getElem?_append_left (by simp [cells4']; omega)]; simp
    | succ i =>
      rw [List.getElem?_append_right (by simp [cells4']; omega)]
      have := ih i (by simpa using hi)
      simp only [flat4] at this
      simp only [cells4', List.length_cons, List.length_nil, List.getElem_cons_succ] at *
      rw [show (i + 1) * 4 + j - (0 + 1 + 1 + 1 + 1) = i * 4 + j by omega]
      exact this

/-- A slice of expressions of the call's own, from 'base' on; the blocks of the kids are not the slice's. -/
def OwnE (w : World) (base : Nat) (v : Value) (ps : List (E × Value)) : Prop :=
  w.ownsRow base 24 4 v ps.length (flat4 ps) ∧ ∀ p ∈ ps, KidsS (fun b => base ≤ b ∧ some b ≠ v.ownBlock) w p.2 p.1.kids
theorem OwnE.nil (w : World) (base : Nat) : OwnE w base (.slice none 0 0) [] := ⟨⟨rfl, .inl ⟨rfl, rfl⟩⟩, fun _ h => by cases h⟩
theorem OwnE.shape {w : World} {base : Nat} {v : Value} {ps : List (E × Value)} (h : OwnE w base v ps) : ∃ a c, v = .slice a ps.length c := by
  rcases h.1.2 with ⟨rfl, hl⟩ | ⟨g, cap, cur, rfl, _⟩
  · exact ⟨none, 0, by rw [hl]⟩
  · exact ⟨_, _, rfl⟩
theorem OwnE.base {w : World} {base : Nat} {v : Value} {ps : List (E × Value)} (h : OwnE w base v ps) (k : Nat) (hk : v.ownBlock = some k) : base ≤ k ∧ k < w.heap.size := by
  rcases h.1.2 with ⟨rfl, _⟩ | ⟨g, cap, cur, rfl, hg, hh, _⟩
  · cases hk
  · simp [Value.ownBlock] at hk
    subst hk
    refine ⟨hg, ?_⟩
    rcases Nat.lt_or_ge g w.heap.size with h | h
    · exact h
    · rw [Array.getElem?_eq_none_iff.2 h] at hh; cases hh
/-- Kept by what leaves the blocks from base on alone. -/
theorem OwnE.keep {w w' : World} {base : Nat} {v : Value} {ps : List (E × Value)} (h : OwnE w base v ps) (hx : AsIn (fun b => base ≤ b) w w') : OwnE w' base v ps := by
  refine ⟨⟨h.1.1, ?_⟩, fun p hp => (h.2 p hp).keep ⟨hx.1, fun k hs hk => hx.2 k hs.1 hk⟩⟩
  rcases h.1.2 with h2 | ⟨g, cap, cur, hv, hg, hh, r⟩
  · exact .inl h2
  · refine .inr ⟨g, cap, cur, hv, hg, ?_, r⟩
    have hlt : g < w.heap.size := by
      rcases Nat.lt_or_ge g w.heap.size with h | h
      · exact h
      · rw [Array.getElem?_eq_none_iff.2 h] at hh; cases hh
    rw [hx.2 g hg hlt]; exact hh
/-- It reads as the list of expressions. -/
theorem OwnE.kids {w : World} {base : Nat} {v : Value} {ps : List (E × Value)} (h : OwnE w base v ps) : KidsS (fun b => base ≤ b) w v (ps.map (·.1)) := by
  rcases h.1.2 with ⟨rfl, hl⟩ | ⟨g, cap, cur, rfl, hg, hh, hn, hc, hs, ht⟩
  · have := List.length_eq_zero_iff.1 hl; subst this; exact .inl ⟨rfl, rfl⟩
  · have hlt : g < w.heap.size := by
      rcases Nat.lt_or_ge g w.heap.size with h | h
      · exact h
      · rw [Array.getElem?_eq_none_iff.2 h] at hh; cases hh
    refine .inr ⟨g, 0, cap, by rw [List.length_map], by rw [List.length_map]; unfold maxLen at hc; omega, hlt, hg, fun i hi => ?_⟩
    rw [List.length_map] at hi
    have cell : ∀ j, j < 4 → w.cell? ⟨g, i * 4 + j, none⟩ = (cells4' ps[i])[j]? := by
      intro j hj
      have e1 := congrArg (fun x => x[i * 4 + j]?) ht
      rw [List.getElem?_take_of_lt (by omega), flat4_get ps i j hi hj] at e1
      rw [← e1]
      simp [World.cell?, hh]
    have k := (h.2 ps[i] (List.getElem_mem hi)).mono (S' := fun b => base ≤ b) (fun k _ hk => hk.1)
    rw [List.getElem_map, Nat.zero_add]
    have c0 := cell 0 (by omega); have c1 := cell 1 (by omega); have c2 := cell 2 (by omega); have c3 := cell 3 (by omega)
    simp only [cells4', Nat.add_zero, List.getElem?_cons_zero, List.getElem?_cons_succ] at c0 c1 c2 c3
    generalize ps[i] = p at *
    obtain ⟨⟨op, wd, n, ks⟩, kv⟩ := p
    simp only [E.op_mk, E.wd_mk, E.n_mk, E.kids_mk] at *
    rcases k with ⟨rfl, rfl⟩ | ⟨b, o, c, rfl, hl, hb, hsb, hk⟩
    · exact .leaf c0 c1 c2 c3
    · exact .node c0 c1 c2 c3 hl hb hsb hk

theorem KidsS.one {S : Nat → Prop} {w : World} {v : Value} {ks : List E} (h : KidsS S w v ks) : v.oneCell' = true := by
  rcases h with ⟨rfl, _⟩ | ⟨b, o, cap, rfl, _⟩ <;> rfl
theorem KidsS.shape {S : Nat → Prop} {w : World} {v : Value} {ks : List E} (h : KidsS S w v ks) : ∃ a l c, v = .slice a l c := by
  rcases h with ⟨rfl, _⟩ | ⟨b, o, cap, rfl, _⟩
  · exact ⟨_, _, _, rfl⟩
  · exact ⟨_, _, _, rfl⟩

theorem wpList_append_expr {ops : Array Oper} {rest : List Oper} {o : Oper} {a : Act} {Q : Exit → Act → World → Prop} (hgd : o.guard = none) (s x : Operand)
    (ho : o.op = .call { callee := .builtin .append, args := #[s, x], argTypes := #[22, 22] }) (base : Nat) (wr : World) (H : Nat) (hH : wr.heap.size = H) (v : Value) (ps : List (E × Value)) (e : E) (kv : Value)
    (hs : a.eval s = v) (hx' : a.eval x = .slice (some ⟨H, 0, none⟩) 1 1) (hown : OwnE wr base v ps) (hk : KidsS (fun b => base ≤ b ∧ some b ≠ v.ownBlock) wr kv e.kids) (hl : ps.length ≤ 1000000) (hb : base ≤ wr.heap.size)
    (h : ∀ g cap w', OwnE w' base (.slice (some ⟨g, 0, none⟩) (ps.length + 1) cap) (ps ++ [(e, kv)]) → wr.grownBy w' v.ownBlock → base ≤ g → wpList Tryz.prog ops Q rest (a.put o.dst (.slice (some ⟨g, 0, none⟩) (ps.length + 1) cap)) w') :
    wpList Tryz.prog ops Q (o :: rest) a (wr.alloc (.cells #[.int .i64 e.op, .int .i64 e.wd, .int .i64 e.n, kv] 24)) := by
  obtain ⟨i0, hi, hz0, hz1, hz2⟩ := info_parts infoExpr
  have hx : a.eval x = .slice (some ⟨wr.heap.size, 0, none⟩) 1 1 := by rw [hH]; exact hx'
  have hx0 : Ext wr (wr.alloc (.cells #[.int .i64 e.op, .int .i64 e.wd, .int .i64 e.n, kv] 24)) := (Ext.refl wr).alloc _
  have hown0 := hown.keep (asIn_ext hx0)
  refine wpList_append_lies _ hgd s x 22 ho base 24 i0 _ 4 48 Tryz.underlying22 hi hz0 hz1 hz2 rfl (by decide) v ps.length (flat4 ps) hs hown0.1 ⟨wr.heap.size, 0, none⟩ 1 1 (cells4' (e, kv)) hx rfl ?_ ?_ (by decide) ?_ ?_ ?_ (wr.heap.size + 1) (by simp) ?_
  · intro j u hj
    have hj4 : j < 4 := by have := (List.getElem?_eq_some_iff.1 hj).1; simpa [cells4'] using this
    have : j = 0 ∨ j = 1 ∨ j = 2 ∨ j = 3 := by omega
    rw [addr_add]
    rcases this with rfl | rfl | rfl | rfl <;> simp [cells4'] at hj <;> subst hj <;> simp
  · intro u hu
    simp [cells4'] at hu
    rcases hu with rfl | rfl | rfl | rfl
    · rfl
    · rfl
    · rfl
    · exact hk.one
  · unfold maxLen; omega
  · omega
  · simp; omega
  · intro g cap w' h1 h2 h3 h4
    have hgr : wr.grownBy w' v.ownBlock := ⟨h2.os, h2.tape, h2.output, by have := h2.size; simp at this; omega, fun k hk hne => by rw [h2.block k (by simp; omega) hne]; exact Below.heap_alloc wr _ k hk⟩
    have hbg : base ≤ g := by
      rcases h1.2 with ⟨e, _⟩ | ⟨g', _, _, e, hg', _⟩
      · cases e
      · cases e; exact hg'
    have keep : ∀ (u : Value) (ks : List E), KidsS (fun b => base ≤ b ∧ some b ≠ v.ownBlock) wr u ks → KidsS (fun b => base ≤ b ∧ some b ≠ (Value.slice (some ⟨g, 0, none⟩) (ps.length + 1) cap).ownBlock) w' u ks := by
      intro u ks hu
      have h5 : KidsS (fun b => (base ≤ b ∧ some b ≠ v.ownBlock) ∧ b < wr.heap.size) wr u ks := hu.mono fun k hk hs => ⟨hs, hk⟩
      have h6 := h5.keep (w' := w') (asIn_grown hgr fun k hs => hs.1.2)
      refine h6.mono fun k _ hs => ⟨hs.1.1, ?_⟩
      simp only [Value.ownBlock, ne_eq, Option.some.injEq]
      rintro rfl
      rcases h3 with h3 | h3
      · exact hs.1.2 h3.symm
      · omega
    refine h g cap w' ⟨?_, ?_⟩ hgr hbg
    · have : flat4 (ps ++ [(e, kv)]) = flat4 ps ++ cells4' (e, kv) := by simp [flat4]
      rw [this, List.length_append]; exact h1
    · intro p hp
      rcases List.mem_append.1 hp with hp | hp
      · exact keep _ _ (hown.2 p hp)
      · simp at hp; subst hp; exact keep _ _ hk
end Go.Proofs.YtoopoljchhdobaaGreatDoor
namespace Go.Proofs.YtoopoljchhdobaaGreatDoor
open Go.RowKit

/-- The operator with a name, 0 if there is none. -/
def operatorS (w : List UInt8) : Int :=
  if w = [110, 111, 116] then 4 else if w = [97, 110, 100] then 5 else if w = [111, 114] then 6 else if w = [120, 111, 114] then 7 else if w = [97, 100, 100] then 8 else if w = [115, 117, 98] then 9
  else if w = [109, 117, 108] then 10 else if w = [101, 113] then 11 else if w = [108, 116] then 12 else if w = [108, 101] then 13 else if w = [105, 116, 101] then 14 else 0
theorem operatorS_hit {w : List UInt8} {k : Nat} (hk : k < 11) (h : namesL.getD k [] = w) : operatorS w = 4 + k := by
  rcases names_cases hk with rfl | rfl | rfl | rfl | rfl | rfl | rfl | rfl | rfl | rfl | rfl <;> (subst h; rfl)
theorem operatorS_miss {w : List UInt8} (h : ∀ j, j < 11 → namesL.getD j [] ≠ w) : operatorS w = 0 := by
  have h0 : w ≠ [110, 111, 116] := fun e => h 0 (by omega) (by rw [e]; rfl)
  have h1 : w ≠ [97, 110, 100] := fun e => h 1 (by omega) (by rw [e]; rfl)
  have h2 : w ≠ [111, 114] := fun e => h 2 (by omega) (by rw [e]; rfl)
  have h3 : w ≠ [120, 111, 114] := fun e => h 3 (by omega) (by rw [e]; rfl)
  have h4 : w ≠ [97, 100, 100] := fun e => h 4 (by omega) (by rw [e]; rfl)
  have h5 : w ≠ [115, 117, 98] := fun e => h 5 (by omega) (by rw [e]; rfl)
  have h6 : w ≠ [109, 117, 108] := fun e => h 6 (by omega) (by rw [e]; rfl)
  have h7 : w ≠ [101, 113] := fun e => h 7 (by omega) (by rw [e]; rfl)
  have h8 : w ≠ [108, 116] := fun e => h 8 (by omega) (by rw [e]; rfl)
  have h9 : w ≠ [108, 101] := fun e => h 9 (by omega) (by rw [e]; rfl)
  have h10 : w ≠ [105, 116, 101] := fun e => h 10 (by omega) (by rw [e]; rfl)
  unfold operatorS
  rw [if_neg h0, if_neg h1, if_neg h2, if_neg h3, if_neg h4, if_neg h5, if_neg h6, if_neg h7, if_neg h8, if_neg h9, if_neg h10]
theorem index_names (k : Nat) (h : k < 11) (w : World) : (Instr.index 73 (.agg namesA) (.int .i64 k)).run Tryz.prog w = .ok (.string ⟨(namesL.getD k []).toArray⟩) w := by
  rcases names_cases h with rfl | rfl | rfl | rfl | rfl | rfl | rfl | rfl | rfl | rfl | rfl <;> kernel_rfl
theorem sizeNames : (Tryz.prog.info? 73).map (·.size) = some 11 := by kernel_rfl

set_option maxHeartbeats 1000000 in
theorem operator_any (nm : List UInt8) (w : World) (hN : Names w) : Calls Tryz.prog 22 #[.string ⟨nm.toArray⟩] w fun e w' => e = .returned (.int .i64 (operatorS nm)) ∧ w = w' := by
  obtain ⟨t, fr, hb⟩ := hN
  have HB := Lib.hid hb; clear hb
  go_enter Tryz.func22, Tryz.ntmps22
  go_wp2_with (refine wpList_load_row rfl 73 _ rfl 0 rfl t _ fr _ HB.out Tryz.underlying73 rfl sizeNames ?_)
  go_loop [3, 4, 6] (fun _ _ i => ∃ k : Nat, k ≤ 11 ∧ i = .int .i64 k ∧ Hid (∀ j, j < k → namesL.getD j [] ≠ nm)) (fun _ _ i => 11 - (intOf i).toNat)
  case atStart => exact ⟨0, by omega, rfl, fun j h => absurd h (Nat.not_lt_zero _)⟩
  case round =>
    obtain ⟨k, hk, rfl, HN⟩ := hrel
    by_cases hlt : k < 11
    · have hix := index_names k hlt
      generalize hnk : namesL.getD k [] = nk at *
      have HNK := Lib.hid hnk; clear hnk
      cases hq : (nk == nm) with
      | true =>
        have HF : Hid (operatorS nm = 4 + k) := operatorS_hit hlt (by rw [HNK.out]; simpa using hq)
        go_wp2_with fail
        go_ret
        exact ⟨by rw [HF.out]; rfl, rfl⟩
      | false =>
        have HN' : Hid (∀ j, j < k + 1 → namesL.getD j [] ≠ nm) := by
          intro j hj
          by_cases c : j = k
          · subst c; rw [HNK.out]; simpa using hq
          · exact HN.out j (by omega)
        go_wp2_with fail
        exact ⟨⟨k + 1, by omega, by go_num, HN'⟩, by simp [intOf]; omega⟩
    · have HF : Hid (operatorS nm = 0) := operatorS_miss fun j hj => HN.out j (by omega)
      go_wp2_with fail
      go_ret
      exact ⟨by rw [HF.out]; rfl, rfl⟩

/-- The width of a node with kids, as far as they determine it. -/
def widthS (op : Int) (ks : List E) : Int :=
  if op = 11 ∨ op = 12 ∨ op = 13 then 1 else if op = 14 ∧ 1 < ks.length then (ks.getD 1 (.mk 0 0 0 [])).wd else (ks.getD 0 (.mk 0 0 0 [])).wd

set_option maxHeartbeats 1000000 in
theorem widthOf_any (e : E) (v : Value) (w : World) (he : EVal w v e) (hne : e.kids ≠ []) : Calls Tryz.prog 24 #[v] w fun r w' => r = .returned (.int .i64 (widthS e.op e.kids)) ∧ Ext w w' := by
  obtain ⟨kv, rfl, hk⟩ := he
  obtain ⟨op, wd, n, ks⟩ := e
  simp only [E.op_mk, E.wd_mk, E.n_mk, E.kids_mk] at hk hne ⊢
  rcases hk with ⟨_, h⟩ | ⟨b, o, cap, rfl, hlen, hk⟩
  · exact absurd h hne
  have hl0 : 0 < ks.length := by
    rcases Nat.eq_zero_or_pos ks.length with h | h
    · exact absurd (List.length_eq_zero_iff.1 h) hne
    · exact h
  have k0 : w.cell? ⟨b, o + 1, none⟩ = some (.int .i64 ks[0].wd) := by have := (hk 0 hl0).cells.2.1; simpa using this
  have hbs : b < w.heap.size := block_lt k0
  by_cases hc : op = 11 ∨ op = 12 ∨ op = 13
  · have HF : Hid (widthS op ks = 1) := by unfold Hid widthS; rw [if_pos hc]
    clear hk
    rcases hc with rfl | rfl | rfl
    all_goals
      go_enter Tryz.func24, Tryz.ntmps24
      go_wp2_with fail
      go_ret
      exact ⟨by rw [HF.out]; rfl, (Ext.refl w).alloc _⟩
  · have e11 : (op == 11) = false := by rw [beq_eq_false_iff_ne]; omega
    have e12 : (op == 12) = false := by rw [beq_eq_false_iff_ne]; omega
    have e13 : (op == 13) = false := by rw [beq_eq_false_iff_ne]; omega
    by_cases h14 : op = 14
    · have e14 : (op == 14) = true := by simpa using h14
      by_cases h1 : 1 < ks.length
      · have k1 : w.cell? ⟨b, o + 4 + 1, none⟩ = some (.int .i64 ks[1].wd) := by have := (hk 1 h1).cells.2.1; simpa using this
        have HF : Hid (widthS op ks = ks[1].wd) := by unfold Hid widthS; rw [if_neg hc, if_pos ⟨h14, h1⟩]; simp [List.getD_eq_getElem?_getD, h1]
        have b1 : decide (1 < (ks.length : Int)) = true := by simp; omega
        have b2 : (1 : Int) < (ks.length : Int) := by omega
        clear hk hc h14
        go_enter Tryz.func24, Tryz.ntmps24
        go_wp2_with fail
        go_ret
        exact ⟨by rw [HF.out]; rfl, (Ext.refl w).alloc _⟩
      · have HF : Hid (widthS op ks = ks[0].wd) := by unfold Hid widthS; rw [if_neg hc, if_neg (by omega)]; simp [List.getD_eq_getElem?_getD, hl0]
        have b1 : decide (1 < (ks.length : Int)) = false := by simp; omega
        have b2 : (0 : Int) < (ks.length : Int) := by omega
        clear hk hc h14
        go_enter Tryz.func24, Tryz.ntmps24
        go_wp2_with fail
        go_ret
        exact ⟨by rw [HF.out]; rfl, (Ext.refl w).alloc _⟩
    · have e14 : (op == 14) = false := by simpa using h14
      have HF : Hid (widthS op ks = ks[0].wd) := by unfold Hid widthS; rw [if_neg hc, if_neg (by omega)]; simp [List.getD_eq_getElem?_getD, hl0]
      have b2 : (0 : Int) < (ks.length : Int) := by omega
      clear hk hc h14
      go_enter Tryz.func24, Tryz.ntmps24
      go_wp2_with fail
      go_ret
      exact ⟨by rw [HF.out]; rfl, (Ext.refl w).alloc _⟩
end Go.Proofs.YtoopoljchhdobaaGreatDoor
