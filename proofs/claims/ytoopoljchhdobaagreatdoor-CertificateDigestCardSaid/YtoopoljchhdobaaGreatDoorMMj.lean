/-
  The walks of strings.Builder's methods at this translation, and of proof.Text.
  Slices of steps of the call's own; appends; what the second half of Trim keeps.
  The walk of proof.Text.
  The texts of certificates: no proper prefix of one is one; their lines.
-/
import Derived.Test.YtoopoljchhdobaaGreatDoorMMh
import Derived.Test.YtoopoljchhdobaaGreatDoorMMf
import Derived.Test.YtoopoljchhdobaaGreatDoorMMa
import Derived.Shelf.Strings.BuilderK
import Derived.Laws.Rows
import Derived.Laws.Tables
import Derived.Sort.CutIn
import Derived.Deep.AppendLies
import Derived.Deep.RegionHeld3
import Derived.Deep.OwnRows
import Derived.RangeFuncOwn
import Derived.Lib.AppendZerosOnto
import Derived.Lib.Walk
import Derived.Maps.AppendAt
namespace Go.Proofs.YtoopoljchhdobaaGreatDoor
open Go.RowKit

set_option maxHeartbeats 2000000 in
set_option maxRecDepth 100000 in
theorem WriteByte_any (B b : Nat) (bs : List Value) (c : Int) (w : World) (h : Lib.IsBuilderF 65 5 B b bs w) (hlen : bs.length + 1 ≤ 140737488355328) (hBw : B ≤ w.heap.size) :
    Calls Tryz.prog 38 #[.pointer (some ⟨b, 0, none⟩), .int .u8 c] w fun e w' => e = .returned .nilIface ∧ (Lib.BuilderAtF 65 5 B b (.pointer (some ⟨b, 0, none⟩)) (bs ++ [.int .u8 c]) w' ∧ Below B w w' ∧ Lib.OthersKept 5 (some b) w w') := by
  obtain ⟨i0, hi, hz0, hz1, hz2⟩ := info_parts infoByte
  have H := Lib.hid h; clear h
  go_enter Tryz.func38, Tryz.ntmps38
  go_wp2_with (go_at_call 46; refine (copyCheck_any B b bs _ H.out).mono ?_)
  rintro e w1 ⟨rfl, h1, hb1, hk1⟩
  obtain ⟨hB, v, hbk, hown, hne⟩ := h1
  have c0 : w1.cell? ⟨b, 0, none⟩ = some (.pointer (some ⟨b, 0, none⟩)) := by rw [Lib.cell_of_heap hbk]; rfl
  have c1 : w1.cell? ⟨b, 1, none⟩ = some v := by rw [Lib.cell_of_heap hbk]; rfl
  go_wp2_with (at_builtin; refine wpList_append_ownF _ rfl _ _ 63 rfl B 5 i0 (.int .u8 0) 1 1 Tryz.underlying63 hi hz0 hz1 hz2 rfl (by decide) _ _ _ rfl (hown.alloc _) ⟨w1.heap.size, 0, none⟩ 1 1 [.int .u8 c] rfl rfl ?c1 ?c2 ?c3 ?c4 ?c5 ?_)
  case c1 =>
    intro j u hj
    match j, hj with
    | 0, hj => simp at hj; subst hj; simp [Addr.add]
  case c2 => intro u hu; simp at hu; subst hu; rfl
  case c3 => unfold maxLen; omega
  case c4 => omega
  case c5 => have := hb1.size; simp; omega
  intro v' w2 hown' hgrow _
  have hlt : b < w1.heap.size := by
    rcases Nat.lt_or_ge b w1.heap.size with h' | h'
    · exact h'
    · simp [Array.getElem?_eq_none h'] at hbk
  have hb2 : w2.heap[b]? = some (.cells #[.pointer (some ⟨b, 0, none⟩), v] 65 (0, 0)) := by
    rw [hgrow.block b (by simp; omega) (fun e => hne e.symm), Lib.alloc_old w1 _ b hlt]
    exact hbk
  have d0 : w2.cell? ⟨b, 0, none⟩ = some (.pointer (some ⟨b, 0, none⟩)) := by rw [Lib.cell_of_heap hb2]; rfl
  have d1 : w2.cell? ⟨b, 1, none⟩ = some v := by rw [Lib.cell_of_heap hb2]; rfl
  have f1 : w2.frozen? ⟨b, 1, none⟩ = false := Lib.frozen_of_heap hb2 1
  obtain ⟨g, cap, rfl⟩ : ∃ g cap, v' = .slice (some ⟨g, 0, none⟩) (bs.length + 1) cap := by
    rcases hown'.2 with ⟨_, h0⟩ | ⟨g, cap, cur, fz, hv, _⟩
    · omega
    · exact ⟨g, cap, hv⟩
  go_wp2
  go_ret
  refine ⟨rfl, ?_, ?_, ((hk1.alloc _).grown hgrow (Lib.ownsRowF_kind (hown.alloc _))).setCell ⟨b, 1, none⟩ rfl _⟩
  · exact Lib.BuilderAtF.put (T := 65) (e := 5) hB hb2 (bs' := bs ++ [.int .u8 c]) (by simpa using hown') (by decide)
  · exact ((hb1.alloc (by have := hb1.size; omega) _).grown hgrow (by have := hb1.size; simp; omega) (fun k hk => (hown.lt k hk).1)).setCell (p := ⟨b, 1, none⟩) hB _
/-- The builder of Text in a world that has grown from w0; 'K': a block beside that is kept. -/
def TEnv (w0 : World) (b : Nat) (bs : List UInt8) (w : World) : Prop := Lib.IsBuilderF 65 5 w0.heap.size b (Lib.byteCells bs) w ∧ Ext w0 w
theorem TEnv.ext {w0 : World} {b : Nat} {bs : List UInt8} {w w' : World} (h : TEnv w0 b bs w) (hx : Ext w w') : TEnv w0 b bs w' := ⟨builder_ext h.1 hx, h.2.trans hx⟩
def Kept (V : Nat) (o : Obj) (w : World) : Prop := w.heap[V]? = some o
theorem write_strP (w0 : World) (b V : Nat) (cs : Array Value) (bs l : List UInt8) (w : World) (hV : V ≠ b) (hE : TEnv w0 b bs w) (hK : Kept V (.cells cs 47 (0, 0)) w) (hl : bs.length + l.length ≤ 100000000) :
    Calls Tryz.prog 27 #[.pointer (some ⟨b, 0, none⟩), .string ⟨l.toArray⟩] w fun e w' => e = .returned (.tuple #[.int .i64 l.length, .nilIface]) ∧ TEnv w0 b (bs ++ l) w' ∧ Kept V (.cells cs 47 (0, 0)) w' := by
  have hs : ByteArray.size ⟨l.toArray⟩ = l.length := by simp [ByteArray.size]
  refine (WriteString_any w0.heap.size b (Lib.byteCells bs) ⟨l.toArray⟩ w hE.1 (by rw [Lib.byteCells_length, hs]; omega) hE.2.size).mono ?_
  rintro e w' ⟨rfl, h1, h2, h3⟩
  refine ⟨by rw [hs], ⟨.inr ?_, Below.trans hE.2 h2⟩, ?_⟩
  · rw [strCells_list] at h1
    have : Lib.byteCells (bs ++ l) = Lib.byteCells bs ++ Lib.byteCells l := by simp [Lib.byteCells]
    rw [this]; exact h1
  · exact h3 V _ hK (by simpa using hV) (fun c fz e => by cases e)
theorem write_byteP (w0 : World) (b V : Nat) (cs : Array Value) (bs : List UInt8) (c : UInt8) (n : Int) (hn : n = (c.toNat : Int)) (w : World) (hV : V ≠ b) (hE : TEnv w0 b bs w) (hK : Kept V (.cells cs 47 (0, 0)) w) (hl : bs.length + 1 ≤ 100000000) :
    Calls Tryz.prog 38 #[.pointer (some ⟨b, 0, none⟩), .int .u8 n] w fun e w' => e = .returned .nilIface ∧ TEnv w0 b (bs ++ [c]) w' ∧ Kept V (.cells cs 47 (0, 0)) w' := by
  subst hn
  refine (WriteByte_any w0.heap.size b (Lib.byteCells bs) c.toNat w hE.1 (by rw [Lib.byteCells_length]; omega) hE.2.size).mono ?_
  rintro e w' ⟨rfl, h1, h2, h3⟩
  refine ⟨rfl, ⟨.inr ?_, Below.trans hE.2 h2⟩, ?_⟩
  · have : Lib.byteCells (bs ++ [c]) = Lib.byteCells bs ++ [.int .u8 c.toNat] := by simp [Lib.byteCells]
    rw [this]; exact h1
  · exact h3 V _ hK (by simpa using hV) (fun c fz e => by cases e)
end Go.Proofs.YtoopoljchhdobaaGreatDoor
namespace Go.Proofs.YtoopoljchhdobaaGreatDoor
open Go.RowKit Go.Shelf
attribute [local go_sem] Oper.semAt_some

theorem lt_heap {w : World} {b : Nat} {o : Obj} (h : w.heap[b]? = some o) : b < w.heap.size := (Array.getElem?_eq_some_iff.1 h).1
theorem own_lt {w : World} {base : Nat} {v : Value} {l : List Int} (h : OwnInts w base v l) (k : Nat) (hk : v.ownBlock = some k) : k < w.heap.size := by
  rcases h.2 with ⟨rfl, _⟩ | ⟨g, cap, cur, rfl, hg, hh, _⟩
  · cases hk
  · cases hk; exact lt_heap hh
theorem OwnInts.keep {w w' : World} {base : Nat} {v : Value} {l : List Int} (h : OwnInts w base v l) (hk : ∀ k, v.ownBlock = some k → w'.heap[k]? = w.heap[k]?) : OwnInts w' base v l := by
  obtain ⟨h1, h2⟩ := h
  refine ⟨h1, ?_⟩
  rcases h2 with h2 | ⟨g, cap, cur, hv, hg, hh, r⟩
  · exact .inl h2
  · exact .inr ⟨g, cap, cur, hv, hg, by rw [hk g (by rw [hv]; rfl)]; exact hh, r⟩
theorem OwnInts.mono {w : World} {base base' : Nat} {v : Value} {l : List Int} (h : OwnInts w base v l) (hb : base' ≤ base) : OwnInts w base' v l := by
  obtain ⟨h1, h2⟩ := h
  refine ⟨h1, ?_⟩
  rcases h2 with h2 | ⟨g, cap, cur, hv, hg, r⟩
  · exact .inl h2
  · exact .inr ⟨g, cap, cur, hv, by omega, r⟩
theorem OwnInts.typed {w : World} {base : Nat} {v : Value} {l : List Int} (h : OwnInts w base v l) (k : Nat) (hk : v.ownBlock = some k) : ∃ cs, w.heap[k]? = some (.cells cs 3 (0, 0)) := by
  rcases h.2 with ⟨rfl, _⟩ | ⟨g, cap, cur, rfl, hg, hh, _⟩
  · cases hk
  · cases hk; exact ⟨_, hh⟩
theorem grown_other {W W' : World} {row : Option Nat} (hg : W.grownBy W' row) (hr : ∀ r, row = some r → ∃ o : Obj, W.heap[r]? = some o ∧ o.isCells = false) (k : Nat) (o : Obj) (hk : W.heap[k]? = some o) (ho : o.isCells = true) : W'.heap[k]? = W.heap[k]? :=
  hg.block k (lt_heap hk) fun e => by
    obtain ⟨o', h1, h2⟩ := hr k e.symm
    rw [hk] at h1; cases h1; rw [ho] at h2; cases h2
/-- Nothing appended. -/
theorem append_nothing {w : World} {base : Nat} {v : Value} {l : List Int} (h : OwnInts w base v l) (ty : TypeId) (c : Nat) : (Builtin.append_ #[38, 38] ty #[v, .slice none 0 c]).run Tryz.prog w = .ok v w := by
  obtain ⟨i0, hi, hz0, hz1, hz2⟩ := info_parts infoInt
  have hu : Tryz.prog.underlying 38 = some (.slice 3) := Tryz.underlying38
  rcases h.2 with ⟨rfl, _⟩ | ⟨g, cap, cur, rfl, _, _, hn, _⟩
  · simp [Builtin.append_, run_underlying hu, sizeOf, typeInfo, hi, Builtin.lenOf, Builtin.firstCells]
  · simp [Builtin.append_, run_underlying hu, sizeOf, typeInfo, hi, Builtin.lenOf, Builtin.firstCells, hn, storeCells]
theorem wpList_append_list {ops : Array Oper} {rest : List Oper} {o : Oper} {a : Act} {w : World} {Q : Exit → Act → World → Prop} (hgd : o.guard = none) (s x : Operand)
    (ho : o.op = .call { callee := .builtin .append, args := #[s, x], argTypes := #[38, 38] }) (base : Nat) (v src : Value) (l l2 : List Int)
    (hs : a.eval s = v) (hx : a.eval x = src) (hown : OwnInts w base v l) (hsrc : Ints w src l2) (hl : l.length + l2.length ≤ 1000000000) (hb : base ≤ w.heap.size)
    (h : ∀ v' w', OwnInts w' base v' (l ++ l2) → w.grownBy w' v.ownBlock → wpList Tryz.prog ops Q rest (a.put o.dst v') w') : wpList Tryz.prog ops Q (o :: rest) a w := by
  obtain ⟨i0, hi, hz0, hz1, hz2⟩ := info_parts infoInt
  have key : ∀ (ad : Addr) (c : Nat), src = .slice (some ad) l2.length c → (∀ j u, (l2.map (Value.int .i64))[j]? = some u → w.cell? (ad.add j) = some u) → wpList Tryz.prog ops Q (o :: rest) a w := fun ad c he hn =>
    wpList_append_own _ hgd s x 38 ho base 3 i0 (.int .i64 0) 1 8 Tryz.underlying38 hi hz0 hz1 hz2 rfl (by decide) v l.length (l.map (Value.int .i64)) hs hown ad l2.length c (l2.map (Value.int .i64)) (hx.trans he) (by simp) hn
      (fun u hu => by obtain ⟨y, _, rfl⟩ := List.mem_map.1 hu; rfl) (by unfold maxLen; omega) (by omega) hb fun v' w' h1 h2 _ => h v' w' (by simpa [OwnInts] using h1) h2
  rcases hsrc with ⟨⟨A, c, rfl⟩, rfl⟩ | ⟨b, of, cap, rfl, hm, hc⟩
  · cases A with
    | some ad => exact key ad c rfl (fun j u hu => by simp at hu)
    | none =>
      refine wpList_plain hgd fun K hK => ?_
      unfold Oper.wp execOp
      simp only [ho, resolve, invoke, builtin, Sem.run_bind, Sem.run_pure, Result.andThen_ok, List.map_toArray, List.map_cons, List.map_nil, hs, hx, append_nothing hown]
      exact hK _ _ (h v w (by simpa using hown) (World.grownBy.refl w _))
  · refine key ⟨b, of, none⟩ cap rfl fun j u hu => ?_
    have hj : j < l2.length := by
      have := (List.getElem?_eq_some_iff.1 hu).1; simpa using this
    have hadd : (⟨b, of, none⟩ : Addr).add j = ⟨b, of + j, none⟩ := by unfold Addr.add; split <;> simp_all
    have := hc j hj
    rw [Nat.mul_one] at this
    rw [hadd]
    have e : u = .int .i64 l2[j] := by simpa [hj] using hu.symm
    rw [e]; exact this
/-- An int appended to a row of the call's own, in a region that draws its order. -/
theorem step_append_int {ops : Array Oper} {o : Oper} {a : Act} {K : Act → World → Prop} {Q : Exit → Act → World → Prop} {E' : Prop} (hgd : o.guard = none) (s x : Operand)
    (ho : o.op = .call { callee := .builtin .append, args := #[s, x], argTypes := #[38, 38] }) (base : Nat) (wr : World) (H : Nat) (hH : wr.heap.size = H) (v : Value) (l : List Int) (n : Int)
    (hs : a.eval s = v) (hx' : a.eval x = .slice (some ⟨H, 0, none⟩) 1 1) (hown : OwnInts wr base v l) (hl : l.length ≤ 1000000000) (hb : base ≤ wr.heap.size)
    (h : ∀ g cap w', OwnInts w' base (.slice (some ⟨g, 0, none⟩) (l.length + 1) cap) (l ++ [n]) → wr.grownBy w' v.ownBlock → K (a.put o.dst (.slice (some ⟨g, 0, none⟩) (l.length + 1) cap)) w') :
    if Region.wanted o (yielded ops a.tmps) = true then Oper.wp Tryz.prog o a (wr.alloc (.cells #[.int .i64 n] 3)) K Q else E' := by
  obtain ⟨i0, hi, hz0, hz1, hz2⟩ := info_parts infoInt
  have hx : a.eval x = .slice (some ⟨wr.heap.size, 0, none⟩) 1 1 := by rw [hH]; exact hx'
  refine step_append_lies _ hgd s x 38 ho base 3 i0 (.int .i64 0) 1 8 Tryz.underlying38 hi hz0 hz1 hz2 rfl (by decide) v l.length (l.map (Value.int .i64)) hs (hown.kept ((Ext.refl wr).alloc _)) ⟨wr.heap.size, 0, none⟩ 1 1 [.int .i64 n] hx rfl (cell_one_new _ _ _) (fun u hu => by simp at hu; subst hu; rfl) (by decide) ?_ ?_ ?_ (wr.heap.size + 1) (by simp) ?_
  · unfold maxLen; omega
  · omega
  · simp; omega
  · intro g cap w' h1 h2 _ _
    refine h g cap w' (by simpa [OwnInts] using h1) ⟨h2.os, h2.tape, h2.output, by have := h2.size; simp at this; omega, fun k hk hne => by rw [h2.block k (by simp; omega) hne]; exact Below.heap_alloc wr _ k hk⟩
theorem wp_normal {P : Program} {c : Code} {K : Act → World → Prop} {Q : Exit → Act → World → Prop} {a : Act} {w : World} (h : c.wp P (fun e a w => e = .normal ∧ K a w) a w) : c.wp P (Exit.then K Q) a w := by
  refine wp_mono h ?_
  intro e a' w' hq
  obtain ⟨rfl, hk⟩ := hq
  exact hk

/-- Only the normal end is wanted: a post that no panic meets, by reduction alone. -/
def onlyNormal (Q : Exit → Act → World → Prop) : Exit → Act → World → Prop
  | .normal => Q .normal
  | _ => fun _ _ => False
theorem wp_normal2 {P : Program} {c : Code} {Q : Exit → Act → World → Prop} {a : Act} {w : World} (h : c.wp P (onlyNormal Q) a w) : c.wp P Q a w := by
  refine wp_mono h ?_
  intro e a' w' hq
  cases e <;> first | exact hq | exact hq.elim
theorem cells_two_new (w : World) (x y : Value) (t : TypeId) : ∀ j u, [x, y][j]? = some u → (w.alloc (.cells #[x, y] t)).cell? ((⟨w.heap.size, 0, none⟩ : Addr).add j) = some u := by
  intro j u hj
  have hh : (w.alloc (.cells #[x, y] t)).heap[w.heap.size]? = some (.cells #[x, y] t (0, 0)) := heap_new _ _
  have hadd : (⟨w.heap.size, 0, none⟩ : Addr).add j = ⟨w.heap.size, j, none⟩ := by unfold Addr.add; split <;> simp_all
  rw [hadd, cell_of_row _ _ _ _ _ _ hh]
  simpa using hj
theorem grown_alloc {W W' : World} {o : Obj} {row : Option Nat} (h : (W.alloc o).grownBy W' row) : W.grownBy W' row :=
  ⟨h.os, h.tape, h.output, by have := h.size; simp at this; omega, fun k hk hne => (h.block k (by simp; omega) hne).trans (Below.heap_alloc W _ k hk)⟩


theorem infoLearn : (Tryz.prog.info? 47).map (fun i => (i.zero, i.size, i.bytes)) = some (some (.agg #[.slice none 0 0, .slice none 0 0]), 2, 48) := by kernel_rfl
/-- The slices of steps, one behind the other. -/
def flatV (vs : List (Value × Value)) : List Value := vs.flatMap fun p => [p.1, p.2]
theorem flatV_len (P : List (Value × Value)) : (flatV P).length = P.length * 2 := by
  induction P with
  | nil => rfl
  | cons a r ih => simp only [flatV, List.flatMap_cons, List.length_append, List.length_cons] at *; rw [ih]; simp; omega
theorem flatV_get (P : List (Value × Value)) (i : Nat) (h : i < P.length) : (flatV P)[i * 2]? = some P[i].1 ∧ (flatV P)[i * 2 + 1]? = some P[i].2 := by
  induction P generalizing i with
  | nil => simp at h
  | cons a r ih =>
    cases i with
    | zero => exact ⟨rfl, rfl⟩
    | succ i =>
      have := ih i (by simpa using h)
      have e1 : (i + 1) * 2 = i * 2 + 2 := by omega
      have e2 : i * 2 + 2 + 1 = i * 2 + 1 + 2 := by omega
      rw [e1, e2]
      simpa [flatV, List.flatMap_cons] using this
theorem flatV_snoc (P : List (Value × Value)) (p : Value × Value) : flatV (P ++ [p]) = flatV P ++ [p.1, p.2] := by simp [flatV]
/-- The values of steps: slices of the call's own, from 'base' on. -/
def ElemsO (w : World) (base : Nat) : List (Value × Value) → List St → Prop
  | [], [] => True
  | p :: r, s :: t => (OwnInts w base p.1 s.lits ∧ OwnInts w base p.2 s.hints) ∧ ElemsO w base r t
  | _, _ => False
theorem ElemsO.len {w : World} {base : Nat} : ∀ {vs : List (Value × Value)} {l : List St}, ElemsO w base vs l → vs.length = l.length
  | [], [], _ => rfl
  | _ :: _, _ :: _, h => by simp [h.2.len]
  | [], _ :: _, h => h.elim
  | _ :: _, [], h => h.elim
theorem ElemsO.snoc {w : World} {base : Nat} {p : Value × Value} {s : St} (h1 : OwnInts w base p.1 s.lits) (h2 : OwnInts w base p.2 s.hints) : ∀ {vs : List (Value × Value)} {l : List St}, ElemsO w base vs l → ElemsO w base (vs ++ [p]) (l ++ [s])
  | [], [], _ => ⟨⟨h1, h2⟩, trivial⟩
  | _ :: _, _ :: _, h => ⟨h.1, h.2.snoc h1 h2⟩
  | [], _ :: _, h => h.elim
  | _ :: _, [], h => h.elim
theorem ElemsO.at {w : World} {base : Nat} : ∀ {vs : List (Value × Value)} {l : List St}, ElemsO w base vs l → ∀ i (h1 : i < vs.length) (h2 : i < l.length), OwnInts w base vs[i].1 l[i].lits ∧ OwnInts w base vs[i].2 l[i].hints
  | _ :: _, _ :: _, h, 0, _, _ => h.1
  | _ :: _, _ :: _, h, i + 1, h1, h2 => h.2.at i (by simpa using h1) (by simpa using h2)
/-- Kept where all blocks of ints from 'base' on are as they were. -/
theorem ElemsO.keep {w w' : World} {base : Nat} (hk : ∀ k cs, base ≤ k → w.heap[k]? = some (.cells cs 3 (0, 0)) → w'.heap[k]? = w.heap[k]?) : ∀ {vs : List (Value × Value)} {l : List St}, ElemsO w base vs l → ElemsO w' base vs l
  | [], [], _ => trivial
  | _ :: _, _ :: _, h => ⟨⟨h.1.1.keep fun k e => by obtain ⟨cs, hc⟩ := h.1.1.typed k e; exact hk k cs (h.1.1.base k e) hc, h.1.2.keep fun k e => by obtain ⟨cs, hc⟩ := h.1.2.typed k e; exact hk k cs (h.1.2.base k e) hc⟩, h.2.keep hk⟩
  | [], _ :: _, h => h.elim
  | _ :: _, [], h => h.elim
/-- A slice of steps of the call's own. -/
def OwnSteps (w : World) (base : Nat) (v : Value) (l : List St) : Prop := ∃ vs, w.ownsRow base 47 2 v l.length (flatV vs) ∧ ElemsO w base vs l
theorem OwnSteps.nil (w : World) (base : Nat) : OwnSteps w base (.slice none 0 0) [] := ⟨[], ⟨rfl, .inl ⟨rfl, rfl⟩⟩, trivial⟩
theorem OwnSteps.typed {w : World} {base : Nat} {v : Value} {l : List St} (h : OwnSteps w base v l) (k : Nat) (hk : v.ownBlock = some k) : base ≤ k ∧ ∃ cs, w.heap[k]? = some (.cells cs 47 (0, 0)) := by
  obtain ⟨vs, h, _⟩ := h
  rcases h.2 with ⟨rfl, _⟩ | ⟨g, cap, cur, rfl, hg, hh, _⟩
  · cases hk
  · cases hk; exact ⟨hg, _, hh⟩
/-- It reads as the steps. -/
theorem OwnSteps.steps {w : World} {base : Nat} {v : Value} {l : List St} (h : OwnSteps w base v l) : Steps w v l := by
  obtain ⟨vs, ⟨_, h2⟩, he⟩ := h
  have hlen := he.len
  rcases h2 with ⟨rfl, hl⟩ | ⟨g, cap, cur, rfl, _, hh, hn, hc, hs, ht⟩
  · exact .inl ⟨⟨_, _, rfl⟩, List.length_eq_zero_iff.1 hl⟩
  · refine .inr ⟨g, 0, cap, rfl, by unfold maxLen at hc; omega, fun i hi => ?_⟩
    have e : ∀ j, j < l.length * 2 → cur[j]? = (flatV vs)[j]? := fun j hj => by
      have := congrArg (fun x => x[j]?) ht
      simp only [List.getElem?_take, if_pos hj] at this
      simpa using this
    have hf := flatV_get vs i (by omega)
    obtain ⟨a1, a2⟩ := he.at i (by omega) hi
    refine ⟨_, _, ?_, ?_, a1.ints, a2.ints⟩
    · simp only [World.cell?, hh, Nat.zero_add]; rw [e (i * 2) (by omega)]; exact hf.1
    · simp only [World.cell?, hh, Nat.zero_add]; rw [e (i * 2 + 1) (by omega)]; exact hf.2
/-- Kept where its row and all blocks of ints from 'base' on are as they were. -/
theorem OwnSteps.keep {w w' : World} {base : Nat} {v : Value} {l : List St} (h : OwnSteps w base v l) (hk : ∀ k, base ≤ k → k < w.heap.size → w'.heap[k]? = w.heap[k]?) : OwnSteps w' base v l := by
  have hT := h.typed
  obtain ⟨vs, ⟨h1, h2⟩, he⟩ := h
  refine ⟨vs, ⟨h1, ?_⟩, he.keep fun k cs hb hc => hk k hb (lt_heap hc)⟩
  rcases h2 with h2 | ⟨g, cap, cur, hv, hg, hh, r⟩
  · exact .inl h2
  · obtain ⟨hb, cs, hc⟩ := hT g (by rw [hv]; rfl)
    exact .inr ⟨g, cap, cur, hv, hg, by rw [hk g hb (lt_heap hc)]; exact hh, r⟩
theorem OwnSteps.kept {w w' : World} {base : Nat} {v : Value} {l : List St} (h : OwnSteps w base v l) (hx : Ext w w') : OwnSteps w' base v l := h.keep fun k _ hk => hx.block k hk
/-- A step appended. -/
theorem wpList_append_step {ops : Array Oper} {rest : List Oper} {o : Oper} {a : Act} {Q : Exit → Act → World → Prop} (hgd : o.guard = none) (s x : Operand)
    (ho : o.op = .call { callee := .builtin .append, args := #[s, x], argTypes := #[39, 39] }) (base : Nat) (wr : World) (v : Value) (l : List St) (v1 v2 : Value) (st : St)
    (hs : a.eval s = v) (hx : a.eval x = .slice (some ⟨wr.heap.size, 0, none⟩) 1 1) (hown : OwnSteps wr base v l) (h1 : OwnInts wr base v1 st.lits) (h2 : OwnInts wr base v2 st.hints) (hl : l.length ≤ 1000000) (hb : base ≤ wr.heap.size)
    (h : ∀ v' w', OwnSteps w' base v' (l ++ [st]) → wr.grownBy w' v.ownBlock → wpList Tryz.prog ops Q rest (a.put o.dst v') w') : wpList Tryz.prog ops Q (o :: rest) a (wr.alloc (.cells #[v1, v2] 47)) := by
  obtain ⟨i0, hi, hz0, hz1, hz2⟩ := info_parts infoLearn
  have hT := hown.typed
  obtain ⟨vs, hown, he⟩ := hown
  have hlen := he.len
  have hsl1 : ∃ p q r, v1 = .slice p q r := by rcases h1.2 with ⟨e, _⟩ | ⟨g, cap, cur, e, _⟩ <;> exact ⟨_, _, _, e⟩
  have hsl2 : ∃ p q r, v2 = .slice p q r := by rcases h2.2 with ⟨e, _⟩ | ⟨g, cap, cur, e, _⟩ <;> exact ⟨_, _, _, e⟩
  refine wpList_append_own _ hgd s x 39 ho base 47 i0 (.agg #[.slice none 0 0, .slice none 0 0]) 2 48 Tryz.underlying39 hi hz0 hz1 hz2 rfl (by decide) v l.length (flatV vs) hs (World.ownsRow.alloc hown _) ⟨wr.heap.size, 0, none⟩ 1 1 [v1, v2] hx rfl (cells_two_new _ _ _ _) ?_ (by unfold maxLen; omega) (by omega) (by simp; omega) ?_
  · intro u hu
    obtain ⟨p, q, r, rfl⟩ := hsl1; obtain ⟨p', q', r', rfl⟩ := hsl2
    simp at hu
    rcases hu with rfl | rfl <;> rfl
  · intro v' w' k1 k2 _
    have hg := grown_alloc k2
    have key : ∀ k cs, base ≤ k → wr.heap[k]? = some (.cells cs 3 (0, 0)) → w'.heap[k]? = wr.heap[k]? := fun k cs _ hc => hg.block k (lt_heap hc) fun e => by
      obtain ⟨_, cs', hc'⟩ := hT k e.symm
      rw [hc] at hc'; cases hc'
    refine h v' w' ⟨vs ++ [(v1, v2)], ?_, (he.keep key).snoc (p := (v1, v2)) (s := st) (h1.keep fun k e => by obtain ⟨cs, hc⟩ := h1.typed k e; exact key k cs (h1.base k e) hc) (h2.keep fun k e => by obtain ⟨cs, hc⟩ := h2.typed k e; exact key k cs (h2.base k e) hc)⟩ hg
    rw [flatV_snoc, List.length_append]; exact k1

end Go.Proofs.YtoopoljchhdobaaGreatDoor
namespace Go.Proofs.YtoopoljchhdobaaGreatDoor
open Go.RowKit

theorem textL_take {l : List St} {k : Nat} (h : k < l.length) : textL (l.take (k + 1)) = textL (l.take k) ++ stepText l[k] ++ [10] := by
  rw [List.take_succ_eq_append_getElem h, textL_snoc]
theorem textL_le (l : List St) (k : Nat) : (textL (l.take k)).length ≤ (textL l).length := by
  have : textL l = textL (l.take k) ++ textL (l.drop k) := by
    unfold textL; rw [← List.flatMap_append, List.take_append_drop]
  rw [this, List.length_append]; omega
theorem litText_le (l : List Int) (k : Nat) : (litText (l.take k)).length ≤ (litText l).length := by
  have : litText l = litText (l.take k) ++ litText (l.drop k) := by
    unfold litText; rw [← List.flatMap_append, List.take_append_drop]
  rw [this, List.length_append]; omega
theorem hintText_le (l : List Int) (k : Nat) : (hintText (l.take k)).length ≤ (hintText l).length := by
  have : hintText l = hintText (l.take k) ++ hintText (l.drop k) := by
    unfold hintText; rw [← List.flatMap_append, List.take_append_drop]
  rw [this, List.length_append]; omega
theorem litText_take {l : List Int} {k : Nat} (h : k < l.length) : litText (l.take (k + 1)) = litText (l.take k) ++ Lib.itoa l[k] ++ [32] := by
  rw [List.take_succ_eq_append_getElem h, litText_snoc]
theorem hintText_take {l : List Int} {k : Nat} (h : k < l.length) : hintText (l.take (k + 1)) = hintText (l.take k) ++ [32] ++ Lib.itoa l[k] := by
  rw [List.take_succ_eq_append_getElem h, hintText_snoc]
set_option maxRecDepth 100000 in
set_option maxHeartbeats 4000000 in
theorem PText_any (l : List St) (v : Value) (w : World) (hl : Steps w v l) (hn : ∀ s ∈ l, (∀ x ∈ s.lits, InI x) ∧ ∀ x ∈ s.hints, InI x) (hb : (textL l).length ≤ 1000000) (hP : Pow10 w) :
    Calls Tryz.prog 15 #[v] w fun r w' => r = .returned (.string ⟨(textL l).toArray⟩) ∧ Ext w w' := by
  obtain ⟨la, lc, rfl⟩ := SliceAt.shape hl
  have hlen := SliceAt.len_le hl
  have hT0 : TEnv w w.heap.size (textL (l.take 0)) (w.alloc (.cells #[.pointer none, .slice none 0 0] 65)) := ⟨Lib.IsBuilderF.of (Lib.fresh_isBuilder _ _ w), (Ext.refl w).alloc _⟩
  have HT0 := Lib.hid hT0; have HL := Lib.hid hl; have HN := Lib.hid hn; have HB := Lib.hid hb; have HP := Lib.hid hP
  clear hT0 hl hn hb hP
  go_enter Tryz.func15, Tryz.ntmps15
  go_wp2_with fail
  go_loopw [12] (fun i wr => ∃ k : Nat, k ≤ l.length ∧ i = .int .i64 k ∧ TEnv w w.heap.size (textL (l.take k)) wr) (fun i _ => l.length - (intOf i).toNat)
  case atStart => exact ⟨0, Nat.zero_le _, rfl, HT0.out⟩
  case round =>
    obtain ⟨k, hk, rfl, hE⟩ := hrel
    have HE := Lib.hid hE; clear hE
    by_cases hlt : k < l.length
    · obtain ⟨b, o, a1, c1, a2, c2, hla, g0, g1, i1, i2⟩ := HL.out.at hlt
      subst hla
      replace g0 := HE.out.2.cell g0; replace g1 := HE.out.2.cell g1
      have hmem : l[k] ∈ l := List.getElem_mem hlt
      obtain ⟨hl1, hl2⟩ := HN.out _ hmem
      have HTT := Lib.hid (textL_take hlt)
      have HTL : Hid ((textL (l.take k)).length + (litText l[k].lits).length + (hintText l[k].hints).length + 2 ≤ 1000000) := by
        have h1 := textL_le l (k + 1); have h2 := HB.out
        rw [textL_take hlt] at h1
        unfold stepText at h1
        simp only [List.length_append, List.length_cons, List.length_nil] at h1
        unfold Hid; omega
      have I1 := Lib.hid i1; have I2 := Lib.hid i2; have HL1 := Lib.hid hl1; have HL2 := Lib.hid hl2
      have HST : Hid (stepText l[k] = litText l[k].lits ++ [58] ++ hintText l[k].hints) := by unfold Hid stepText; simp
      clear hmem i1 i2 hl1 hl2
      have lb1 := SliceAt.len_le I1.out; have lb2 := SliceAt.len_le I2.out
      generalize stepText l[k] = tx at *
      generalize l[k].lits = lits at *
      generalize l[k].hints = hints at *
      generalize textL (l.take k) = t0 at *
      have hx1 : Ext wr (wr.alloc (.cells #[.slice a1 lits.length c1, .slice a2 hints.length c2] 47)) := (Ext.refl _).alloc _
      have hK0 : Kept wr.heap.size (.cells #[.slice a1 lits.length c1, .slice a2 hints.length c2] 47 (0, 0)) (wr.alloc (.cells #[.slice a1 lits.length c1, .slice a2 hints.length c2] 47)) := heap_new _ _
      have hV : wr.heap.size ≠ w.heap.size := by
        have h1 : w.heap.size < wr.heap.size := by
          rcases HE.out.1 with h | h <;> exact h.lt
        omega
      have HE1 := Lib.hid (HE.out.ext hx1); have HK0 := Lib.hid hK0; have HV := Lib.hid hV
      obtain ⟨W1, hW1⟩ : ∃ W1, W1 = wr.alloc (.cells #[.slice a1 lits.length c1, .slice a2 hints.length c2] 47) := ⟨_, rfl⟩
      have HW1 := Lib.hid hW1
      clear hx1 hK0 hV hW1
      go_upto_region 5 with fail
      rw [← HW1.out] at HE1 HK0 ⊢
      clear HW1 g0 g1 HE
      generalize wr.heap.size = V at *
      have q0 : W1.cell? ⟨V, 0, none⟩ = some (.slice a1 lits.length c1) := by rw [Lib.cell_of_heap HK0.out]; rfl
      go_wp2_with fail
      go_loopw [19] (fun i wr => ∃ j : Nat, j ≤ lits.length ∧ i = .int .i64 j ∧ TEnv w w.heap.size (t0 ++ litText (lits.take j)) wr ∧ Kept V (.cells #[.slice a1 lits.length c1, .slice a2 hints.length c2] 47 (0, 0)) wr) (fun i _ => lits.length - (intOf i).toNat)
      case atStart => exact ⟨0, Nat.zero_le _, rfl, by simpa [litText] using HE1.out, HK0.out⟩
      case round =>
        obtain ⟨j, hj, rfl, hE2, hK2⟩ := hrel
        have HE2 := Lib.hid hE2; have HK2 := Lib.hid hK2
        clear hE2 hK2 q0
        by_cases hlj : j < lits.length
        · obtain ⟨bh, oh, rfl, ch⟩ := ints_at (I1.out.ext HE2.out.2) j hlj
          have hgd : lits.getD j 0 = lits[j] := by simp [List.getD, hlj]
          rw [hgd] at ch
          have hx := HL1.out _ (List.getElem_mem hlj)
          have hxl := Lib.itoa_length_le lits[j] hx.1 (by have := hx.2; omega)
          have hle := litText_le lits (j + 1)
          rw [litText_take hlj] at hle
          simp only [List.length_append, List.length_cons, List.length_nil] at hle
          have HTK := Lib.hid (litText_take hlj)
          have HLE := Lib.hid hle; have HX := Lib.hid hx; have HXL := Lib.hid hxl
          clear hgd hle hx hxl
          generalize lits[j] = x at *
          generalize litText (lits.take j) = t1 at *
          go_wp2_with fail
          refine (Itoa_any x _ HX.out.1 (by have := HX.out.2; omega) (HP.out.ext HE2.out.2)).mono ?_
          rintro r w2 ⟨rfl, x2⟩
          have HE3 := Lib.hid (HE2.out.ext x2)
          have HK3 : Hid (Kept V _ w2) := (x2.block _ (lt_heap HK2.out)).trans HK2.out
          clear x2 ch
          go_wp2_with fail
          refine (write_strP w w.heap.size V _ (t0 ++ t1) (Lib.itoa x) _ HV.out HE3.out HK3.out (by have h1 := HTL.out; have h2 := HLE.out; rw [List.length_append]; omega)).mono ?_
          rintro r w3 ⟨rfl, e3, k3⟩
          have HE4 := Lib.hid e3; have HK4 := Lib.hid k3
          clear e3 k3
          go_wp2_with fail
          refine (write_byteP w w.heap.size V _ (t0 ++ t1 ++ Lib.itoa x) 32 32 rfl _ HV.out HE4.out HK4.out (by have h1 := HTL.out; have h2 := HLE.out; rw [List.length_append, List.length_append]; omega)).mono ?_
          rintro r w4 ⟨rfl, e4, k4⟩
          have HE5 := Lib.hid e4; have HK5 := Lib.hid k4
          clear e4 k4
          go_wp2_with fail
          refine ⟨⟨j + 1, by omega, by go_num, ?_, HK5.out⟩, by simp [intOf]; omega⟩
          rw [HTK.out]
          have := HE5.out
          simpa [List.append_assoc] using this
        · obtain rfl : j = lits.length := by omega
          rw [List.take_length] at HE2
          go_wp2_with fail
          refine (write_byteP w w.heap.size V _ (t0 ++ litText lits) 58 58 rfl _ HV.out HE2.out HK2.out (by have h1 := HTL.out; rw [List.length_append]; omega)).mono ?_
          rintro r w3 ⟨rfl, e3, k3⟩
          have HE3 := Lib.hid e3; have HK3 := Lib.hid k3
          clear e3 k3
          have q1 : w3.cell? ⟨V, 1, none⟩ = some (.slice a2 hints.length c2) := by rw [Lib.cell_of_heap HK3.out]; rfl
          go_wp2_with fail
          go_loopw [32] (fun i wr => ∃ j : Nat, j ≤ hints.length ∧ i = .int .i64 j ∧ TEnv w w.heap.size (t0 ++ litText lits ++ [58] ++ hintText (hints.take j)) wr ∧ Kept V (.cells #[.slice a1 lits.length c1, .slice a2 hints.length c2] 47 (0, 0)) wr) (fun i _ => hints.length - (intOf i).toNat)
          case atStart => exact ⟨0, Nat.zero_le _, rfl, by simpa [hintText] using HE3.out, HK3.out⟩
          case round =>
            obtain ⟨j, hj, rfl, hE2, hK2⟩ := hrel
            have HE4 := Lib.hid hE2; have HK4 := Lib.hid hK2
            clear hE2 hK2 q1
            by_cases hlj : j < hints.length
            · obtain ⟨bh, oh, rfl, ch⟩ := ints_at (I2.out.ext HE4.out.2) j hlj
              have hgd : hints.getD j 0 = hints[j] := by simp [List.getD, hlj]
              rw [hgd] at ch
              have hx := HL2.out _ (List.getElem_mem hlj)
              have hxl := Lib.itoa_length_le hints[j] hx.1 (by have := hx.2; omega)
              have hle := hintText_le hints (j + 1)
              rw [hintText_take hlj] at hle
              simp only [List.length_append, List.length_cons, List.length_nil] at hle
              have HTK := Lib.hid (hintText_take hlj)
              have HLE := Lib.hid hle; have HX := Lib.hid hx; have HXL := Lib.hid hxl
              clear hgd hle hx hxl
              generalize hints[j] = x at *
              generalize hintText (hints.take j) = t1 at *
              go_wp2_with fail
              refine (write_byteP w w.heap.size V _ (t0 ++ litText lits ++ [58] ++ t1) 32 32 rfl _ HV.out HE4.out HK4.out (by have h1 := HTL.out; have h2 := HLE.out; simp only [List.length_append, List.length_cons, List.length_nil]; omega)).mono ?_
              rintro r w4 ⟨rfl, e4, k4⟩
              have HE5 := Lib.hid e4; have HK5 := Lib.hid k4
              clear e4 k4 ch
              go_wp2_with fail
              refine (Itoa_any x _ HX.out.1 (by have := HX.out.2; omega) (HP.out.ext HE5.out.2)).mono ?_
              rintro r w5 ⟨rfl, x5⟩
              have HE6 := Lib.hid (HE5.out.ext x5)
              have HK6 : Hid (Kept V _ w5) := (x5.block _ (lt_heap HK5.out)).trans HK5.out
              clear x5
              go_wp2_with fail
              refine (write_strP w w.heap.size V _ (t0 ++ litText lits ++ [58] ++ t1 ++ [32]) (Lib.itoa x) _ HV.out HE6.out HK6.out (by have h1 := HTL.out; have h2 := HLE.out; simp only [List.length_append, List.length_cons, List.length_nil]; omega)).mono ?_
              rintro r w6 ⟨rfl, e6, k6⟩
              have HE7 := Lib.hid e6; have HK7 := Lib.hid k6
              clear e6 k6
              go_wp2_with fail
              refine ⟨⟨j + 1, by omega, by go_num, ?_, HK7.out⟩, by simp [intOf]; omega⟩
              rw [HTK.out]
              have := HE7.out
              simpa [List.append_assoc] using this
            · obtain rfl : j = hints.length := by omega
              rw [List.take_length] at HE4
              go_wp2_with fail
              refine (write_byteP w w.heap.size V _ (t0 ++ litText lits ++ [58] ++ hintText hints) 10 10 rfl _ HV.out HE4.out HK4.out (by have h1 := HTL.out; simp only [List.length_append, List.length_cons, List.length_nil]; omega)).mono ?_
              rintro r w4 ⟨rfl, e4, k4⟩
              have HE5 := Lib.hid e4
              clear e4 k4
              go_wp2_with fail
              refine ⟨⟨k + 1, by omega, by go_num, ?_⟩, by simp [intOf]; omega⟩
              rw [HTT.out, HST.out]
              have := HE5.out
              simpa [List.append_assoc] using this
    · have hkl : k = l.length := by omega
      subst hkl
      rw [List.take_length] at HE
      go_wp2_with fail
      refine (Tryz.Builder_String_any_k w.heap.size w.heap.size (textL l) wr HE.out.1 HE.out.2.size).mono ?_
      rintro r w3 ⟨rfl, _, hb3, _⟩
      have HX3 := Lib.hid (Below.trans HE.out.2 hb3); clear hb3
      go_wp2_with fail
      go_ret
      exact ⟨rfl, HX3.out⟩
end Go.Proofs.YtoopoljchhdobaaGreatDoor
namespace Go.Proofs.YtoopoljchhdobaaGreatDoor

theorem textL_count : ∀ l : List St, (textL l).count 10 = l.length
  | [] => rfl
  | s :: r => by
    have e : textL (s :: r) = stepText s ++ 10 :: textL r := by simp [textL]
    have h0 : (stepText s).count 10 = 0 := List.count_eq_zero.2 fun h => step_chars s 10 h rfl
    rw [e, List.count_append, List.count_cons, h0, textL_count r]; simp
theorem lineS_count {name : List UInt8} (hn : ∀ y ∈ name, y ≠ 10) (l : List Int) : (lineS name l).count 10 = 1 := by
  have h0 : (name ++ hintText l).count 10 = 0 := List.count_eq_zero.2 fun h => by
    rw [List.mem_append] at h
    rcases h with h | h
    · exact hn 10 h rfl
    · exact hintText_chars l 10 h rfl
  unfold lineS
  rw [List.count_append, h0]; rfl
theorem textL_last {l : List St} (h : l ≠ []) : (textL l).getLast? = some 10 := by
  rcases List.eq_nil_or_concat l with rfl | ⟨m, s, rfl⟩
  · exact absurd rfl h
  · rw [List.concat_eq_append, textL_snoc]; simp
/-- The lines behind the first. -/
def nlC (x : CertS) : Nat := if x.ver = 1 then x.prf.length else if x.ver = 2 then 2 else 0
theorem tail_count (x : CertS) : (tailC x).count 10 = nlC x := by
  unfold tailC nlC
  split
  · exact textL_count _
  · split
    · rw [List.count_append, lineS_count (by decide), lineS_count (by decide)]
    · rfl
theorem tail_last {x : CertS} (h : tailC x ≠ []) : (tailC x).getLast? = some 10 := by
  unfold tailC at h ⊢
  split
  · next e =>
    rw [if_pos e] at h
    exact textL_last fun e2 => h (by rw [e2]; rfl)
  · next e =>
    rw [if_neg e] at h
    split
    · have e3 : lineS oldW x.old ++ lineS nowW x.now = (lineS oldW x.old ++ (nowW ++ hintText x.now)) ++ [10] := by unfold lineS; simp
      rw [e3]; simp
    · next e2 => rw [if_neg e2] at h; exact absurd rfl h
theorem first_count {x : CertS} (h : usableB x = true) : (firstC x).count 10 = 0 := List.count_eq_zero.2 fun hm => first_chars h 10 hm rfl
theorem text_lines {x : CertS} (h : usableB x = true) : (textC x).count 10 = 1 + nlC x := by
  unfold textC; rw [if_pos h]; unfold textU
  rw [List.count_append, List.count_cons, first_count h, tail_count]; simp; omega
theorem text_last {x : CertS} (h : usableB x = true) : (textC x).getLast? = some 10 := by
  unfold textC; rw [if_pos h]; unfold textU
  by_cases e : tailC x = []
  · rw [e]; simp
  · have := tail_last e
    cases ht : tailC x with
    | nil => exact absurd ht e
    | cons a r => rw [ht] at this; simp at this ⊢; exact this
theorem text_ne {x : CertS} (h : usableB x = true) : textC x ≠ [] := by
  unfold textC; rw [if_pos h]; unfold textU; simp
theorem usable_of_ne {x : CertS} (h : textC x ≠ []) : usableB x = true := by
  unfold textC at h; split at h
  · assumption
  · exact absurd rfl h
theorem itoa_inj {m n : Nat} (hm : m ≤ 20000) (hn : n ≤ 20000) (h : Lib.itoa (m : Int) = Lib.itoa (n : Int)) : m = n := by
  have h1 := atoi_itoa (m : Int) (by omega) (by omega)
  have h2 := atoi_itoa (n : Int) (by omega) (by omega)
  rw [h, h2] at h1
  injection h1 with h1
  omega
theorem nl_of_first {x z : CertS} (hx : usableB x = true) (hz : usableB z = true) (h : firstC x = firstC z) : nlC x = nlC z := by
  have hw : wordsC x = wordsC z := by rw [← split_first hx, ← split_first hz, h]
  obtain ⟨_, _, rx⟩ := usable_parts hx
  obtain ⟨_, _, rz⟩ := usable_parts hz
  have h3 : wordC x.ver = wordC z.ver := by
    have := congrArg (fun w => w.getD 3 []) hw
    unfold wordsC at this
    exact this
  have hv : x.ver = z.ver := by
    rcases rest_cases rx with ⟨e, _⟩ | ⟨e, _⟩ | ⟨e, _⟩ <;> rcases rest_cases rz with ⟨f, _⟩ | ⟨f, _⟩ | ⟨f, _⟩ <;> rw [e, f] at h3 ⊢ <;> revert h3 <;> decide
  unfold nlC
  rw [hv]
  split
  · next e =>
    have hp : prfB x.prf = true := by
      rcases rest_cases rx with ⟨f, _⟩ | ⟨_, p, _⟩ | ⟨f, _⟩
      · rw [hv, e] at f; exact absurd f (by decide)
      · exact p
      · rw [hv, e] at f; exact absurd f (by decide)
    have hq : prfB z.prf = true := by
      rcases rest_cases rz with ⟨f, _⟩ | ⟨_, p, _⟩ | ⟨f, _⟩
      · rw [e] at f; exact absurd f (by decide)
      · exact p
      · rw [e] at f; exact absurd f (by decide)
    have h4 := congrArg (fun w => w.getD 4 []) hw
    unfold wordsC at h4
    rw [if_pos (by rw [hv]; exact e), if_pos e] at h4
    exact itoa_inj (prf_ranged hp).2.2 (prf_ranged hq).2.2 h4
  · rfl
/-- No proper prefix of the text of a usable certificate is one. -/
theorem text_prefix {x z : CertS} (hx : usableB x = true) (hz : usableB z = true) {t : List UInt8} (h : textC x = textC z ++ t) : t = [] := by
  have h0 := h
  have cx := text_lines hx
  have cz := text_lines hz
  have ex : textC x = firstC x ++ 10 :: tailC x := by unfold textC; rw [if_pos hx]; rfl
  have ez : textC z = firstC z ++ 10 :: tailC z := by unfold textC; rw [if_pos hz]; rfl
  have hf : firstC x = firstC z := by
    have h1 : splitB 10 (textC x) = firstC x :: splitB 10 (tailC x) := by rw [ex]; exact splitB_cons 10 _ (first_chars hx)
    have h2 : splitB 10 (textC z ++ t) = firstC z :: splitB 10 (tailC z ++ t) := by
      rw [ez, List.append_assoc, List.cons_append]; exact splitB_cons 10 _ (first_chars hz)
    rw [h, h2] at h1
    injection h1 with h1 _
    exact h1.symm
  have hn := nl_of_first hx hz hf
  have ht : t.count 10 = 0 := by
    have := congrArg (List.count 10) h
    rw [List.count_append, cx, cz, hn] at this
    omega
  have hl := text_last hx
  by_cases e : t = []
  · exact e
  · exfalso
    rw [h, List.getLast?_append] at hl
    cases hg : t.getLast? with
    | none => exact e (List.getLast?_eq_none_iff.1 hg)
    | some y =>
      rw [hg] at hl
      simp at hl
      subst hl
      exact List.count_eq_zero.1 ht (List.mem_of_getLast? hg)
theorem parse_some {t : List UInt8} {z : CertS} (h : parseC t = some z) : textC z = t ∧ usableB z = true ∧ z = readC t := by
  unfold parseC at h
  split at h
  · next c =>
    cases h
    exact ⟨c.1, usable_of_ne (by rw [c.1]; exact c.2), rfl⟩
  · cases h
theorem parse_textC {x : CertS} (h : usableB x = true) : parseC (textC x) = some x := by
  unfold parseC
  rw [read_text h, if_pos ⟨rfl, text_ne h⟩]
theorem parse_nil : parseC [] = none := by unfold parseC; rw [if_neg (by simp)]
theorem parse_take {x : CertS} (h : usableB x = true) {m : Nat} (hm : m < (textC x).length) : parseC ((textC x).take m) = none := by
  cases hp : parseC ((textC x).take m) with
  | none => rfl
  | some z =>
    obtain ⟨h1, h2, _⟩ := parse_some hp
    have : textC x = textC z ++ (textC x).drop m := by rw [h1, List.take_append_drop]
    have hd := text_prefix h h2 this
    have := congrArg List.length hd
    rw [List.length_drop] at this
    simp at this; omega
theorem parse_more {x : CertS} (h : usableB x = true) (b : UInt8) : parseC (textC x ++ [b]) = none := by
  cases hp : parseC (textC x ++ [b]) with
  | none => rfl
  | some z =>
    obtain ⟨h1, h2, _⟩ := parse_some hp
    have := text_prefix h2 h h1
    cases this
end Go.Proofs.YtoopoljchhdobaaGreatDoor
