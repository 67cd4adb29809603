/-
  Slices of steps of the call's own whose steps lie in older memory too; a slice of steps appended whole.
-/
import Derived.Test.YteclcnbaaiidbaaDoorPtA
import Derived.Deep.Slices
namespace Go.Proofs.YteclcnbaaiidbaaDoor
open Go.RowKit Go.Shelf
attribute [local go_sem] Oper.semAt_some

def blkV : Value → Option Nat
  | .slice (some a) _ _ => some a.block
  | _ => none
/-- A slice of ints that lies below 'lo', or from 'base' on in a block of ints. -/
def IntsB (w : World) (lo base : Nat) (v : Value) (l : List Int) : Prop := Ints w v l ∧ (l = [] ∨ ∀ k, blkV v = some k → k < lo ∨ (base ≤ k ∧ ∃ cs, w.heap[k]? = some (.cells cs 3 (0, 0))))
theorem IntsB.keep {w w' : World} {lo base : Nat} {v : Value} {l : List Int} (h : IntsB w lo base v l) (hk : ∀ k, (k < lo ∨ (base ≤ k ∧ ∃ cs, w.heap[k]? = some (.cells cs 3 (0, 0)))) → k < w.heap.size → w'.heap[k]? = w.heap[k]?) : IntsB w' lo base v l := by
  obtain ⟨h1, h2⟩ := h
  rcases h1 with ⟨⟨a, c, rfl⟩, rfl⟩ | ⟨b, o, cap, rfl, hm, hc⟩
  · exact ⟨.inl ⟨⟨_, _, rfl⟩, rfl⟩, .inl rfl⟩
  · by_cases e : l = []
    · subst e; exact ⟨.inl ⟨⟨_, _, rfl⟩, rfl⟩, .inl rfl⟩
    · have hb := (h2.resolve_left e) b rfl
      have hlt : b < w.heap.size := by
        have h0 := hc 0 (List.length_pos_iff.2 e)
        exact block_lt h0
      have hs := hk b hb hlt
      refine ⟨.inr ⟨b, o, cap, rfl, hm, fun i hi => ?_⟩, .inr fun k hk' => ?_⟩
      · have := hc i hi
        simp only [IntAt, World.cell?] at this ⊢
        rw [hs]; exact this
      · cases hk'
        rcases hb with hb | ⟨hb, cs, hcs⟩
        · exact .inl hb
        · exact .inr ⟨hb, cs, hs.trans hcs⟩
theorem OwnInts.toB {w : World} {lo base : Nat} {v : Value} {l : List Int} (h : OwnInts w base v l) : IntsB w lo base v l := by
  refine ⟨h.ints, ?_⟩
  rcases h.2 with ⟨rfl, hl⟩ | ⟨g, cap, cur, rfl, hg, hh, _⟩
  · exact .inl (List.length_eq_zero_iff.1 hl)
  · refine .inr fun k hk => ?_
    cases hk
    exact .inr ⟨hg, _, hh⟩
theorem IntsB.old {w0 w : World} {lo base : Nat} {v : Value} {l : List Int} (h : Ints w0 v l) (hx : Ext w0 w) (hlo : w0.heap.size ≤ lo) : IntsB w lo base v l := by
  refine ⟨h.ext hx, ?_⟩
  rcases h with ⟨⟨a, c, rfl⟩, rfl⟩ | ⟨b, o, cap, rfl, hm, hc⟩
  · exact .inl rfl
  · by_cases e : l = []
    · exact .inl e
    · refine .inr fun k hk => ?_
      cases hk
      have h0 := hc 0 (List.length_pos_iff.2 e)
      have hlt : b < w0.heap.size := block_lt h0
      exact .inl (by show b < lo; omega)
def ElemsB (w : World) (lo base : Nat) : List (Value × Value) → List St → Prop
  | [], [] => True
  | p :: r, s :: t => (IntsB w lo base p.1 s.lits ∧ IntsB w lo base p.2 s.hints) ∧ ElemsB w lo base r t
  | _, _ => False
theorem ElemsB.len {w : World} {lo base : Nat} : ∀ {vs : List (Value × Value)} {l : List St}, ElemsB w lo base vs l → vs.length = l.length
  | [], [], _ => rfl
  | _ :: _, _ :: _, h => by simp [h.2.len]
  | [], _ :: _, h => h.elim
  | _ :: _, [], h => h.elim
theorem ElemsB.append {w : World} {lo base : Nat} {us : List (Value × Value)} {m : List St} (hm : ElemsB w lo base us m) : ∀ {vs : List (Value × Value)} {l : List St}, ElemsB w lo base vs l → ElemsB w lo base (vs ++ us) (l ++ m)
  | [], [], _ => hm
  | _ :: _, _ :: _, h => ⟨h.1, ElemsB.append hm h.2⟩
  | [], _ :: _, h => h.elim
  | _ :: _, [], h => h.elim
theorem ElemsB.at {w : World} {lo base : Nat} : ∀ {vs : List (Value × Value)} {l : List St}, ElemsB w lo base vs l → ∀ i (h1 : i < vs.length) (h2 : i < l.length), IntsB w lo base vs[i].1 l[i].lits ∧ IntsB w lo base vs[i].2 l[i].hints
  | _ :: _, _ :: _, h, 0, _, _ => h.1
  | _ :: _, _ :: _, h, i + 1, h1, h2 => h.2.at i (by simpa using h1) (by simpa using h2)
theorem ElemsB.of {w : World} {lo base : Nat} : ∀ {vs : List (Value × Value)} {l : List St}, vs.length = l.length → (∀ i (h1 : i < vs.length) (h2 : i < l.length), IntsB w lo base vs[i].1 l[i].lits ∧ IntsB w lo base vs[i].2 l[i].hints) → ElemsB w lo base vs l
  | [], [], _, _ => trivial
  | _ :: _, _ :: _, hl, h => ⟨h 0 (by simp) (by simp), ElemsB.of (by simpa using hl) fun i h1 h2 => h (i + 1) (by simpa using h1) (by simpa using h2)⟩
  | [], _ :: _, hl, _ => by simp at hl
  | _ :: _, [], hl, _ => by simp at hl
theorem ElemsB.keep {w w' : World} {lo base : Nat} (hk : ∀ k, (k < lo ∨ (base ≤ k ∧ ∃ cs, w.heap[k]? = some (.cells cs 3 (0, 0)))) → k < w.heap.size → w'.heap[k]? = w.heap[k]?) : ∀ {vs : List (Value × Value)} {l : List St}, ElemsB w lo base vs l → ElemsB w' lo base vs l
  | [], [], _ => trivial
  | _ :: _, _ :: _, h => ⟨⟨h.1.1.keep hk, h.1.2.keep hk⟩, h.2.keep hk⟩
  | [], _ :: _, h => h.elim
  | _ :: _, [], h => h.elim
/-- A slice of steps of the call's own; its steps lie below 'lo', or from 'base' on. -/
def RowB (w : World) (lo base : Nat) (v : Value) (l : List St) : Prop := ∃ vs, w.ownsRow base 35 2 v l.length (flatV vs) ∧ ElemsB w lo base vs l
theorem RowB.empty (w : World) (lo base : Nat) (hb : base ≤ w.heap.size) : RowB (w.alloc (.cells #[] 35)) lo base (.slice (some ⟨w.heap.size, 0, none⟩) 0 0) [] :=
  ⟨[], ⟨rfl, .inr ⟨w.heap.size, 0, #[], rfl, hb, heap_new _ _, by simp, by simp, by simp, by simp [flatV]⟩⟩, trivial⟩
theorem RowB.typed {w : World} {lo base : Nat} {v : Value} {l : List St} (h : RowB w lo base v l) (k : Nat) (hk : v.ownBlock = some k) : base ≤ k ∧ ∃ cs, w.heap[k]? = some (.cells cs 35 (0, 0)) := by
  obtain ⟨vs, h, _⟩ := h
  rcases h.2 with ⟨rfl, _⟩ | ⟨g, cap, cur, rfl, hg, hh, _⟩
  · cases hk
  · cases hk; exact ⟨hg, _, hh⟩
theorem RowB.steps {w : World} {lo base : Nat} {v : Value} {l : List St} (h : RowB w lo base v l) : Steps w v l := by
  obtain ⟨vs, ⟨_, h2⟩, he⟩ := h
  have hlen := he.len
  rcases h2 with ⟨rfl, hl⟩ | ⟨g, cap, cur, rfl, _, hh, hn, hc, hs, ht⟩
  · exact .inl ⟨⟨_, _, rfl⟩, List.length_eq_zero_iff.1 hl⟩
  · refine .inr ⟨g, 0, cap, rfl, by unfold maxLen at hc; omega, fun i hi => ?_⟩
    have e : ∀ j, j < l.length * 2 → cur[j]? = (flatV vs)[j]? := fun j hj => by
      have := congrArg (fun x => x[j]?) ht
      simp only [List.getElem?_take, if_pos hj] at this
      simpa using this
    have hf := flatV_get vs i (by omega)
    obtain ⟨a1, a2⟩ := he.at i (by omega) hi
    refine ⟨_, _, ?_, ?_, a1.1, a2.1⟩
    · simp only [World.cell?, hh, Nat.zero_add]; rw [e (i * 2) (by omega)]; exact hf.1
    · simp only [World.cell?, hh, Nat.zero_add]; rw [e (i * 2 + 1) (by omega)]; exact hf.2
theorem RowB.kept {w w' : World} {lo base : Nat} {v : Value} {l : List St} (h : RowB w lo base v l) (hx : Ext w w') : RowB w' lo base v l := by
  have hT := h.typed
  obtain ⟨vs, ⟨h1, h2⟩, he⟩ := h
  refine ⟨vs, ⟨h1, ?_⟩, he.keep fun k _ hk => hx.block k hk⟩
  rcases h2 with h2 | ⟨g, cap, cur, hv, hg, hh, r⟩
  · exact .inl h2
  · exact .inr ⟨g, cap, cur, hv, hg, by rw [hx.block g (lt_heap hh)]; exact hh, r⟩
/-- The values of steps in memory. -/
theorem Steps.vals {w : World} {b o n c : Nat} {l : List St} (h : Steps w (.slice (some ⟨b, o, none⟩) n c) l) : ∃ vs : List (Value × Value), vs.length = l.length ∧ (∀ j u, (flatV vs)[j]? = some u → w.cell? ((⟨b, o, none⟩ : Addr).add j) = some u) ∧ ∀ i (h1 : i < vs.length) (h2 : i < l.length), Ints w vs[i].1 l[i].lits ∧ Ints w vs[i].2 l[i].hints := by
  have key : ∀ i, i < l.length → ∃ p : Value × Value, w.cell? ⟨b, o + i * 2, none⟩ = some p.1 ∧ w.cell? ⟨b, o + i * 2 + 1, none⟩ = some p.2 ∧ Ints w p.1 (l.getD i st0).lits ∧ Ints w p.2 (l.getD i st0).hints := fun i hi => by
    rcases h with ⟨_, e⟩ | ⟨b', o', cap, e, _, hc⟩
    · subst e; simp at hi
    · cases e
      obtain ⟨v1, v2, h1, h2, h3, h4⟩ := hc i hi
      have : l.getD i st0 = l[i] := by simp [List.getD, hi]
      rw [this]
      exact ⟨(v1, v2), h1, h2, h3, h4⟩
  obtain ⟨f, hf⟩ := Deep.choose_lt key
  have hlen : ((List.range l.length).map f).length = l.length := by simp
  refine ⟨(List.range l.length).map f, hlen, fun j u hj => ?_, fun i h1 h2 => ?_⟩
  · have hjl : j < l.length * 2 := by
      have := (List.getElem?_eq_some_iff.1 hj).1
      rw [flatV_len, hlen] at this; exact this
    have hadd : (⟨b, o, none⟩ : Addr).add j = ⟨b, o + j, none⟩ := by unfold Addr.add; split <;> simp_all
    rw [hadd]
    obtain ⟨i, hi⟩ : ∃ i, i = j / 2 := ⟨_, rfl⟩
    have hg := flatV_get ((List.range l.length).map f) i (by rw [hlen]; omega)
    have hfi := hf i (by omega)
    rcases (show j = i * 2 ∨ j = i * 2 + 1 by omega) with e | e
    · rw [e] at hj ⊢
      rw [hg.1] at hj
      cases hj
      simpa using hfi.1
    · rw [e] at hj ⊢
      rw [hg.2] at hj
      cases hj
      have := hfi.2.1
      simpa [Nat.add_assoc] using this
  · have hfi := hf i h2
    have e : l.getD i st0 = l[i] := by simp [List.getD, h2]
    rw [e] at hfi
    simpa using ⟨hfi.2.2.1, hfi.2.2.2⟩
theorem Steps.addr {w : World} {a : Option Addr} {n c : Nat} {l : List St} (h : Steps w (.slice a n c) l) (hne : l ≠ []) : ∃ b o, a = some ⟨b, o, none⟩ ∧ n = l.length := by
  rcases h with ⟨_, e⟩ | ⟨b, o, cap, e, _, _⟩
  · exact absurd e hne
  · cases e; exact ⟨b, o, rfl, rfl⟩
/-- A slice of steps appended whole. -/
theorem wpList_append_steps {ops : Array Oper} {rest : List Oper} {o : Oper} {a : Act} {w : World} {Q : Exit → Act → World → Prop} (hgd : o.guard = none) (s x : Operand)
    (ho : o.op = .call { callee := .builtin .append, args := #[s, x], argTypes := #[22, 22] }) (lo base : Nat) (w0 : World) (v : Value) (sa : Option Addr) (sn sc : Nat) (l l2 : List St)
    (hs : a.eval s = v) (hx : a.eval x = .slice sa sn sc) (hown : RowB w lo base v l) (hsrc : Steps w0 (.slice sa sn sc) l2) (hne : l2 ≠ []) (hx0 : Ext w0 w) (hlo : w0.heap.size ≤ lo) (hl : l.length + l2.length ≤ 1000000) (hb : base ≤ w.heap.size)
    (h : ∀ v' w', RowB w' lo base v' (l ++ l2) → w.grownBy w' v.ownBlock → (∀ k, k < lo → k < w.heap.size → w'.heap[k]? = w.heap[k]?) → wpList Tryd.prog ops Q rest (a.put o.dst v') w') (hlb : lo ≤ base) : wpList Tryd.prog ops Q (o :: rest) a w := by
  obtain ⟨i0, hi, hz0, hz1, hz2⟩ := info_parts infoLearn
  have hT := hown.typed
  obtain ⟨vs, hown, he⟩ := hown
  have hlen := he.len
  obtain ⟨b, of, rfl, rfl⟩ := hsrc.addr hne
  obtain ⟨us, hul, huc, hue⟩ := hsrc.vals
  have hus : ElemsB w lo base us l2 := ElemsB.of hul fun i h1 h2 => ⟨IntsB.old (hue i h1 h2).1 hx0 hlo, IntsB.old (hue i h1 h2).2 hx0 hlo⟩
  refine wpList_append_own _ hgd s x 22 ho base 35 i0 (.agg #[.slice none 0 0, .slice none 0 0]) 2 48 Tryd.underlying22 hi hz0 hz1 hz2 rfl (by decide) v l.length (flatV vs) hs hown ⟨b, of, none⟩ l2.length sc (flatV us) hx (by rw [flatV_len, hul]) (fun j u hj => hx0.cell (huc j u hj)) ?_ (by unfold maxLen; omega) (by omega) hb ?_
  · intro u hu
    unfold flatV at hu
    obtain ⟨p, hp, hu⟩ := List.mem_flatMap.1 hu
    obtain ⟨i, hi1, rfl⟩ := List.mem_iff_getElem.1 hp
    have hv := hue i hi1 (by omega)
    obtain ⟨a1, c1, e1⟩ := hv.1.shape
    obtain ⟨a2, c2, e2⟩ := hv.2.shape
    simp only [List.mem_cons, List.not_mem_nil, or_false] at hu
    rcases hu with hu | hu
    · rw [hu, e1]; rfl
    · rw [hu, e2]; rfl
  · intro v' w' k1 k2 _
    have key : ∀ k, (k < lo ∨ (base ≤ k ∧ ∃ cs, w.heap[k]? = some (.cells cs 3 (0, 0)))) → k < w.heap.size → w'.heap[k]? = w.heap[k]? := fun k hk hlt => k2.block k hlt fun e => by
      obtain ⟨hb', cs', hc'⟩ := hT k e.symm
      rcases hk with hk | ⟨_, cs, hc⟩
      · omega
      · rw [hc] at hc'; cases hc'
    refine h v' w' ⟨vs ++ us, ?_, ElemsB.append (hus.keep key) (he.keep key)⟩ k2 fun k hk hlt => key k (.inl hk) hlt
    have e : flatV (vs ++ us) = flatV vs ++ flatV us := by simp [flatV]
    rw [e, List.length_append]; exact k1
/-- A step appended. -/
theorem wpList_append_stepB {ops : Array Oper} {rest : List Oper} {o : Oper} {a : Act} {Q : Exit → Act → World → Prop} (hgd : o.guard = none) (s x : Operand)
    (ho : o.op = .call { callee := .builtin .append, args := #[s, x], argTypes := #[22, 22] }) (lo base : Nat) (wr : World) (H : Nat) (hH : wr.heap.size = H) (v : Value) (l : List St) (a1 a2 : Option Addr) (n1 n2 c1 c2 : Nat) (st : St)
    (hs : a.eval s = v) (hx' : a.eval x = .slice (some ⟨H, 0, none⟩) 1 1) (hown : RowB wr lo base v l) (h1 : IntsB wr lo base (.slice a1 n1 c1) st.lits) (h2 : IntsB wr lo base (.slice a2 n2 c2) st.hints) (hl : l.length ≤ 1000000) (hb : base ≤ wr.heap.size)
    (h : ∀ v' w', RowB w' lo base v' (l ++ [st]) → wr.grownBy w' v.ownBlock → wpList Tryd.prog ops Q rest (a.put o.dst v') w') (hlb : lo ≤ base) : wpList Tryd.prog ops Q (o :: rest) a (wr.alloc (.cells #[.slice a1 n1 c1, .slice a2 n2 c2] 35)) := by
  have hx : a.eval x = .slice (some ⟨wr.heap.size, 0, none⟩) 1 1 := by rw [hH]; exact hx'
  obtain ⟨i0, hi, hz0, hz1, hz2⟩ := info_parts infoLearn
  have hT := hown.typed
  obtain ⟨vs, hown, he⟩ := hown
  have hlen := he.len
  refine wpList_append_own _ hgd s x 22 ho base 35 i0 (.agg #[.slice none 0 0, .slice none 0 0]) 2 48 Tryd.underlying22 hi hz0 hz1 hz2 rfl (by decide) v l.length (flatV vs) hs (World.ownsRow.alloc hown _) ⟨wr.heap.size, 0, none⟩ 1 1 [.slice a1 n1 c1, .slice a2 n2 c2] hx rfl (cells_two_new _ _ _ _) ?_ (by unfold maxLen; omega) (by omega) (by simp; omega) ?_
  · intro u hu
    simp at hu
    rcases hu with rfl | rfl <;> rfl
  · intro v' w' k1 k2 _
    have hg := grown_alloc k2
    have key : ∀ k, (k < lo ∨ (base ≤ k ∧ ∃ cs, wr.heap[k]? = some (.cells cs 3 (0, 0)))) → k < wr.heap.size → w'.heap[k]? = wr.heap[k]? := fun k hk hlt => hg.block k hlt fun e => by
      obtain ⟨hb', cs', hc'⟩ := hT k e.symm
      rcases hk with hk | ⟨_, cs, hc⟩
      · omega
      · rw [hc] at hc'; cases hc'
    refine h v' w' ⟨vs ++ [(.slice a1 n1 c1, .slice a2 n2 c2)], ?_, ElemsB.append (us := [(.slice a1 n1 c1, .slice a2 n2 c2)]) (m := [st]) ⟨⟨h1.keep key, h2.keep key⟩, trivial⟩ (he.keep key)⟩ hg
    rw [flatV_snoc, List.length_append]; exact k1
/-- A row of one int, newly laid. -/
theorem IntsB.one (w : World) (lo base : Nat) (x : Int) (hb : base ≤ w.heap.size) : IntsB (w.alloc (.cells #[.int .i64 x] 3)) lo base (.slice (some ⟨w.heap.size, 0, none⟩) 1 1) [x] := by
  have h : (w.alloc (.cells #[.int .i64 x] 3)).heap[w.heap.size]? = some (.cells #[.int .i64 x] 3 (0, 0)) := heap_new _ _
  refine ⟨.inr ⟨w.heap.size, 0, 1, rfl, by show 1 ≤ 9223372036854775807; omega, fun i hi => ?_⟩, .inr fun k hk => ?_⟩
  · have hi : i < 1 := hi
    obtain rfl : i = 0 := by omega
    simp only [IntAt, World.cell?, h]; rfl
  · cases hk; exact .inr ⟨hb, _, h⟩
theorem IntsB.nil (w : World) (lo base : Nat) : IntsB w lo base (.slice none 0 0) [] := ⟨.inl ⟨⟨_, _, rfl⟩, rfl⟩, .inl rfl⟩
end Go.Proofs.YteclcnbaaiidbaaDoor
