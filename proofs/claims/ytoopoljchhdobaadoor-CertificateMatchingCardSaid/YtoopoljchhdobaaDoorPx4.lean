/-
  The tables that Parse reads; strconv.Atoi, strings.Cut, strings.Count at this translation; the walk of proof.parseStep.
-/
import Derived.Test.YtoopoljchhdobaaDoorPx2
import Derived.Test.YtoopoljchhdobaaDoorPtA
namespace Go.Proofs.YtoopoljchhdobaaDoor
open Go.RowKit

/-- What stands in the library's variables. -/
structure PTab (w : World) : Prop where
  pow : Pow10 w
  max : ∃ m, w.cell? ⟨2, 0, none⟩ = some (.int .i64 m)
  syn : ∃ tp p, w.cell? ⟨5, 0, none⟩ = some (.iface tp p)
  ran : ∃ tp p, w.cell? ⟨6, 0, none⟩ = some (.iface tp p)
theorem PTab.ext {w w' : World} (h : PTab w) (hx : Ext w w') : PTab w' :=
  ⟨h.pow.ext hx, h.max.imp fun _ e => hx.cell e, h.syn.imp fun _ ⟨p, e⟩ => ⟨p, hx.cell e⟩, h.ran.imp fun _ ⟨p, e⟩ => ⟨p, hx.cell e⟩⟩
theorem ext_drewN (w : World) (n : Nat) : Ext w (w.drewN n) := (Ext.refl w).drewN n
theorem Atoi_any (s : List UInt8) (w : World) (hs : s.length ≤ 1000000) (hT : PTab w) : Calls Tryd.prog 51 #[.string ⟨s.toArray⟩] w fun e w' => ((∃ v, Lib.atoiAll s = .ok v ∧ InI v ∧ e = .returned (.tuple #[.int .i64 v, .nilIface])) ∨ (numW s = none ∧ ∃ n tp p, e = .returned (.tuple #[.int .i64 n, .iface tp p]))) ∧ Ext w w' := by
  have hsz : (⟨s.toArray⟩ : ByteArray).size = s.length := by simp [ByteArray.size]
  have hl : (⟨s.toArray⟩ : ByteArray).data.toList = s := rfl
  have kok : ∀ v, Lib.atoiAll s = .ok v → Calls Tryd.prog 51 #[.string ⟨s.toArray⟩] w fun e w' => ((∃ v, Lib.atoiAll s = .ok v ∧ InI v ∧ e = .returned (.tuple #[.int .i64 v, .nilIface])) ∨ (numW s = none ∧ ∃ n tp p, e = .returned (.tuple #[.int .i64 n, .iface tp p]))) ∧ Ext w w' := fun v h => by
    refine (Tryd.strconv_Atoi_ok ⟨s.toArray⟩ (by omega) v (by rw [hl]; exact h) w).mono ?_
    rintro e w' ⟨rfl, hw⟩
    have hb := Lib.atoiAll_bounds h
    refine ⟨.inl ⟨v, h, ⟨hb.1, by omega⟩, rfl⟩, ?_⟩
    rcases hw with rfl | ⟨t, rfl⟩
    · exact Ext.refl _
    · exact Lib.bytesWorld_below _ _ _
  have kran : Lib.atoiAll s = .range → Calls Tryd.prog 51 #[.string ⟨s.toArray⟩] w fun e w' => ((∃ v, Lib.atoiAll s = .ok v ∧ InI v ∧ e = .returned (.tuple #[.int .i64 v, .nilIface])) ∨ (numW s = none ∧ ∃ n tp p, e = .returned (.tuple #[.int .i64 n, .iface tp p]))) ∧ Ext w w' := fun h => by
    obtain ⟨tp, p, he⟩ := hT.ran
    refine (Tryd.strconv_Atoi_range ⟨s.toArray⟩ (by omega) (by rw [hl]; exact h) _ w he (.inr ⟨_, _, rfl⟩)).mono ?_
    rintro e w' ⟨N, rfl, _, _, hx⟩
    exact ⟨.inr ⟨by unfold numW; rw [h], _, _, _, rfl⟩, hx⟩
  have ksyn : Lib.atoiAll s = Lib.atoiAll [] → Calls Tryd.prog 51 #[.string ⟨s.toArray⟩] w fun e w' => ((∃ v, Lib.atoiAll s = .ok v ∧ InI v ∧ e = .returned (.tuple #[.int .i64 v, .nilIface])) ∨ (numW s = none ∧ ∃ n tp p, e = .returned (.tuple #[.int .i64 n, .iface tp p]))) ∧ Ext w w' := fun h => by
    obtain ⟨tp, p, he⟩ := hT.syn
    refine (Tryd.strconv_Atoi_syntax ⟨s.toArray⟩ (by omega) (by rw [hl]; exact h) _ w he (.inr ⟨_, _, rfl⟩)).mono ?_
    rintro e w' ⟨N, rfl, _, _, hx⟩
    exact ⟨.inr ⟨by unfold numW; rw [h]; rfl, _, _, _, rfl⟩, hx⟩
  generalize Lib.atoiAll s = z at kok kran ksyn ⊢
  cases z
  · exact kok _ rfl
  · exact ksyn rfl
  · exact kran rfl
theorem Cut_any (s : List UInt8) (c : UInt8) (w : World) (hs : s.length ≤ 1000000) (hT : PTab w) : Calls Tryd.prog 32 #[.string ⟨s.toArray⟩, .string ⟨#[c]⟩] w fun e w' => e = .returned (.tuple #[.string ⟨(Lib.cut s [c]).1.toArray⟩, .string ⟨(Lib.cut s [c]).2.1.toArray⟩, .bool (Lib.cut s [c]).2.2]) ∧ Ext w w' := by
  obtain ⟨m, hm⟩ := hT.max
  have hsz : (⟨s.toArray⟩ : ByteArray).size = s.length := by simp [ByteArray.size]
  refine (Tryd.strings_Cut ⟨s.toArray⟩ ⟨#[c]⟩ m w (by omega) hm).mono ?_
  rintro e w' ⟨rfl, n, rfl⟩
  exact ⟨rfl, ext_drewN _ _⟩
theorem Count_any (s : List UInt8) (c : UInt8) (w : World) : Calls Tryd.prog 31 #[.string ⟨s.toArray⟩, .string ⟨#[c]⟩] w fun e w' => e = .returned (.int .i64 (s.count c : Nat)) ∧ w' = w := Tryd.strings_Count_one ⟨s.toArray⟩ c w
/-- A cut, and the words. -/
theorem cut_split (c : UInt8) (l : List UInt8) : ∃ wd r m, Lib.cut l [c] = (wd, r, m) ∧ splitB c l = wd :: (if m = true then splitB c r else []) ∧ wd.length ≤ l.length ∧ r.length + (if m = true then 1 else 0) ≤ l.length ∧ (m = true → wd.length + r.length + 1 = l.length) := by
  rcases split_cut c l with ⟨h1, h2, h3⟩ | ⟨w, r, h1, h2, h3⟩
  · exact ⟨l, [], false, h3, by rw [h2]; rfl, Nat.le_refl _, by simp, fun h => by cases h⟩
  · refine ⟨w, r, true, h3, by rw [h2]; rfl, ?_, ?_, fun _ => ?_⟩ <;> (rw [h1]; simp <;> omega)
theorem toArray_eq {a b : List UInt8} : ((⟨a.toArray⟩ : ByteArray) = ⟨b.toArray⟩) ↔ a = b := by
  constructor
  · intro h
    have := congrArg (fun x : ByteArray => x.data.toList) h
    simpa using this
  · rintro rfl; rfl

/-- What parseStep keeps in a round. -/
structure PEnv (w : World) (p : PSt) (v1 v2 : Value) (base : Nat) (W : World) : Prop where
  ext : Ext w W
  b0 : W.heap[w.heap.size]? = some (.cells #[.slice none 0 0, .slice none 0 0] 54 (0, 0))
  b1 : W.heap[w.heap.size + 1]? = some (.cells #[v1, v2] 54 (0, 0))
  o1 : OwnInts W (w.heap.size + 2) v1 p.lits
  o2 : OwnInts W base v2 p.hints
  lt : ∀ k, v1.ownBlock = some k → k < base
  lb : w.heap.size + 2 ≤ base
  ub : base ≤ W.heap.size
  nil : p.colon = false → v2 = .slice none 0 0 ∧ p.hints = []
theorem PEnv.later {w : World} {p : PSt} {v1 v2 : Value} {base : Nat} {W W' : World} (h : PEnv w p v1 v2 base W) (hx : Ext W W') : PEnv w p v1 v2 base W' :=
  ⟨h.ext.trans hx, by rw [hx.block _ (lt_heap h.b0)]; exact h.b0, by rw [hx.block _ (lt_heap h.b1)]; exact h.b1, h.o1.kept hx, h.o2.kept hx, h.lt, h.lb, Nat.le_trans h.ub hx.size, h.nil⟩
theorem PEnv.colon {w : World} {p : PSt} {v1 v2 : Value} {base : Nat} {W : World} (h : PEnv w p v1 v2 base W) : PEnv w { p with colon := true } v1 v2 base W := { h with nil := fun e => by cases e }
/-- A hint more. -/
theorem PEnv.hint {w : World} {p : PSt} {v1 v2 v' : Value} {base : Nat} {W W' : World} (h : PEnv w p v1 v2 base W) (hc : p.colon = true) (n : Int) (hg : W.grownBy W' v2.ownBlock) (ho : OwnInts W' base v' (p.hints ++ [n])) : PEnv w { p with hints := p.hints ++ [n] } v1 v' base (W'.setCell ⟨w.heap.size + 1, 1, none⟩ v') := by
  have hl := h.lb; have hu := h.ub
  have hk : ∀ k, k < base → W'.heap[k]? = W.heap[k]? := fun k hk => hg.block k (by omega) fun e => by have := h.o2.base k e.symm; omega
  have ho' : ∀ k, k ≠ w.heap.size + 1 → (W'.setCell ⟨w.heap.size + 1, 1, none⟩ v').heap[k]? = W'.heap[k]? := fun k hk => heap_setCell_other _ _ _ _ hk
  refine ⟨(h.ext.grown hg fun k e => by have := h.o2.base k e; omega).setCell (p := ⟨w.heap.size + 1, 1, none⟩) (by show w.heap.size ≤ w.heap.size + 1; omega) _, ((ho' _ (by omega)).trans (hk _ (by omega))).trans h.b0, ?_, h.o1.keep fun k e => (ho' k (by have := h.o1.base k e; omega)).trans (hk k (h.lt k e)), ho.keep fun k e => ho' k (by have := ho.base k e; omega), h.lt, hl, ?_, fun e => by simp only at e; rw [hc] at e; cases e⟩
  · have := heap_setCell_same W' (w.heap.size + 1) 1 _ _ v' ((hk _ (by omega)).trans h.b1)
    simpa using this
  · have := hg.size; simp only [World.setCell, Array.size_modify]; omega
/-- A literal more. -/
theorem PEnv.lit {w : World} {p : PSt} {v1 v2 v' : Value} {base : Nat} {W W' : World} (h : PEnv w p v1 v2 base W) (hc : p.colon = false) (n : Int) (hg : W.grownBy W' v1.ownBlock) (ho : OwnInts W' (w.heap.size + 2) v' (p.lits ++ [n])) : PEnv w { p with lits := p.lits ++ [n] } v' v2 (W'.setCell ⟨w.heap.size + 1, 0, none⟩ v').heap.size (W'.setCell ⟨w.heap.size + 1, 0, none⟩ v') := by
  have hl := h.lb; have hu := h.ub; have hgs := hg.size
  have hk : ∀ k, k < w.heap.size + 2 → W'.heap[k]? = W.heap[k]? := fun k hk => hg.block k (by omega) fun e => by have := h.o1.base k e.symm; omega
  have ho' : ∀ k, k ≠ w.heap.size + 1 → (W'.setCell ⟨w.heap.size + 1, 0, none⟩ v').heap[k]? = W'.heap[k]? := fun k hk => heap_setCell_other _ _ _ _ hk
  have hsz : (W'.setCell ⟨w.heap.size + 1, 0, none⟩ v').heap.size = W'.heap.size := by simp [World.setCell]
  obtain ⟨e1, e2⟩ := h.nil hc
  refine ⟨(h.ext.grown hg fun k e => by have := h.o1.base k e; omega).setCell (p := ⟨w.heap.size + 1, 0, none⟩) (by show w.heap.size ≤ w.heap.size + 1; omega) _, ((ho' _ (by omega)).trans (hk _ (by omega))).trans h.b0, ?_, ho.keep fun k e => ho' k (by have := ho.base k e; omega), ?_, fun k e => ?_, by omega, Nat.le_refl _, fun _ => ⟨e1, e2⟩⟩
  · have := heap_setCell_same W' (w.heap.size + 1) 0 _ _ v' ((hk _ (by omega)).trans h.b1)
    simpa using this
  · show OwnInts _ _ v2 p.hints
    rw [e1, e2]; exact OwnInts.nil _ _
  · rw [hsz]; exact own_lt ho k e
end Go.Proofs.YtoopoljchhdobaaDoor
