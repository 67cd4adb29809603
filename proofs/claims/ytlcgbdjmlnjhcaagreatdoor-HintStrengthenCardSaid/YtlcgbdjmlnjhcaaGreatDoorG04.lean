/-
  Structs of three fields in memory; the walk of states.set.
  Sets of numbers: what valid says; a set and an error as results.
  The walk of states.combine. Printed by gen_comb.py.
-/
import Derived.Test.YtlcgbdjmlnjhcaaGreatDoorG03
import Derived.Shelf.Spec.TrailingZeros
import Derived.Laws.ResultCell
import Derived.Deep.DeepCutAuto
namespace Go.Proofs.YtlcgbdjmlnjhcaaGreatDoor
open Go.RowKit

/-- Three cells stored. -/
def put3 (w : World) (b : Nat) (x y z : Value) : World := ((w.setCell ⟨b, 0, none⟩ x).setCell ⟨b, 1, none⟩ y).setCell ⟨b, 2, none⟩ z
theorem put3_new {w : World} {b : Nat} {x y z a0 a1 a2 : Value} {t : TypeId} (h : w.heap[b]? = some (.cells #[a0, a1, a2] t (0, 0))) : (put3 w b x y z).heap[b]? = some (.cells #[x, y, z] t (0, 0)) := by
  have h1 := heap_setCell_same w b 0 _ t x h
  have h2 := heap_setCell_same _ b 1 _ t y h1
  have h3 := heap_setCell_same _ b 2 _ t z h2
  exact h3
theorem put3_other {w : World} {b : Nat} {x y z : Value} (k : Nat) (h : k ≠ b) : (put3 w b x y z).heap[k]? = w.heap[k]? := by
  unfold put3
  rw [heap_setCell_other _ _ k _ h, heap_setCell_other _ _ k _ h, heap_setCell_other _ _ k _ h]
theorem Ext.put3 {a w : World} (h : Ext a w) {b : Nat} (hb : a.heap.size ≤ b) (x y z : Value) : Ext a (put3 w b x y z) := ((h.setCell (p := ⟨b, 0, none⟩) hb x).setCell (p := ⟨b, 1, none⟩) hb y).setCell (p := ⟨b, 2, none⟩) hb z
/-- Whatever lies in blocks other than b. -/
theorem Ints.out3 {w : World} {v : Value} {l : List Int} (h : Ints w v l) {b : Nat} (hb : ∀ k, v.ownBlock = some k → l ≠ [] → k ≠ b) (x y z : Value) : Ints (put3 w b x y z) v l := by
  rcases h with h | ⟨g, o, cap, rfl, hm, hc⟩
  · exact .inl h
  · refine .inr ⟨g, o, cap, rfl, hm, fun i hi => ?_⟩
    have hg : g ≠ b := hb g rfl (fun e => by rw [e] at hi; simp at hi)
    have := hc i hi
    unfold IntAt World.cell? at *
    simp only [put3_other g hg]; exact this
theorem block3 {w : World} {R : Nat} {x y z : Value} {t : TypeId} (h : w.heap[R]? = some (.cells #[x, y, z] t (0, 0))) : w.cell? ⟨R, 0, none⟩ = some x ∧ w.cell? ⟨R, 1, none⟩ = some y ∧ w.cell? ⟨R, 2, none⟩ = some z ∧ w.frozen? ⟨R, 0, none⟩ = false ∧ w.frozen? ⟨R, 1, none⟩ = false ∧ w.frozen? ⟨R, 2, none⟩ = false :=
  ⟨(cells3 h).1, (cells3 h).2.1, (cells3 h).2.2, frozen_of_row w R 0 _ t h, frozen_of_row w R 1 _ t h, frozen_of_row w R 2 _ t h⟩
theorem sizeSet : (Tryz.prog.info? 60).map (·.size) = some 3 := by kernel_rfl
/-- A slice of the call's own lies from 'base' on. -/
theorem OwnInts.out3 {w : World} {base : Nat} {v : Value} {l : List Int} (h : OwnInts w base v l) {b : Nat} (hb : b < base) (x y z : Value) : Ints (put3 w b x y z) v l :=
  h.ints.out3 (fun k hk _ => by have := h.base k hk; omega) x y z

/-- A new set. -/
def SetNew (vi : Value) (cs ws is : List Int) (w : World) (r : Ending) (w' : World) : Prop := ∃ vc vw, r = .returned (.agg #[vc, vw, vi]) ∧ OwnInts w' w.heap.size vc cs ∧ OwnInts w' w.heap.size vw ws ∧ Ints w' vi is ∧ Ext w w'
theorem OwnInts.put3 {w : World} {base : Nat} {v : Value} {l : List Int} (h : OwnInts w base v l) {b : Nat} (hb : b < base) (x y z : Value) : OwnInts (Proofs.YtlcgbdjmlnjhcaaGreatDoor.put3 w b x y z) base v l := by
  obtain ⟨h1, h2⟩ := h
  refine ⟨h1, ?_⟩
  rcases h2 with h2 | ⟨g, cap, cur, hv, hg, hh, r⟩
  · exact .inl h2
  · exact .inr ⟨g, cap, cur, hv, hg, by rw [put3_other g (by omega)]; exact hh, r⟩
theorem OwnInts.mono {w : World} {base base' : Nat} {v : Value} {l : List Int} (h : OwnInts w base v l) (hb : base' ≤ base) : OwnInts w base' v l := by
  obtain ⟨h1, h2⟩ := h
  refine ⟨h1, ?_⟩
  rcases h2 with h2 | ⟨g, cap, cur, hv, hg, r⟩
  · exact .inl h2
  · exact .inr ⟨g, cap, cur, hv, by omega, r⟩
/-- What lies in blocks of w is there when blocks from w's size on are written. -/
theorem Ints.lt {w : World} {v : Value} {l : List Int} (h : Ints w v l) (k : Nat) (hk : v.ownBlock = some k) (hl : l ≠ []) : k < w.heap.size := by
  rcases h with ⟨_, h⟩ | ⟨g, o, cap, rfl, hm, hc⟩
  · exact absurd h hl
  · have : 0 < l.length := List.length_pos_iff.2 hl
    have := block_lt (hc 0 this)
    cases hk; exact this

end Go.Proofs.YtlcgbdjmlnjhcaaGreatDoor
namespace Go.Proofs.YtlcgbdjmlnjhcaaGreatDoor
open Go.RowKit

def natL (l : List Int) : List Nat := l.map Int.toNat
theorem cast_natL {l : List Int} (h : ∀ x ∈ l, 0 ≤ x) : castL (natL l) = l := by
  induction l with
  | nil => rfl
  | cons a r ih =>
    have h1 := h a (by simp)
    have h2 := ih fun x hx => h x (by simp [hx])
    simp only [castL, natL, List.map_cons] at *
    rw [h2]; congr 1; omega
theorem natL_cast (l : List Nat) : natL (castL l) = l := by
  induction l with
  | nil => rfl
  | cons a r ih => simp only [castL, natL, List.map_cons] at *; rw [ih]; congr 1
theorem inc_all {l : List Int} (h : incB l = true) : ∀ i j, i < j → j < l.length → l.getD i 0 < l.getD j 0 := by
  intro i j hij
  induction j with
  | zero => omega
  | succ j ih =>
    intro hj
    have h1 := inc_iff.1 h j hj
    rcases Nat.lt_or_ge i j with c | c
    · have := ih c (by omega); omega
    · obtain rfl : i = j := by omega
      exact h1
theorem small_sum {cs ws : List Int} (h : smallB cs ws = true) : shapeB cs ws = true ∧ Widths ws ∧ 0 ≤ sumI ws ∧ sumI ws ≤ 12 := by
  unfold smallB at h
  rw [Bool.and_eq_true, decide_eq_true_eq] at h
  have h2 := (sum_bound (shape_widths h.1).2 ws.length (Nat.le_refl _)).1
  rw [List.take_length] at h2
  exact ⟨h.1, shape_widths h.1, h2, h.2⟩
theorem pw_mono {s t : Int} (h0 : 0 ≤ s) (h : s ≤ t) : pw s ≤ pw t := by
  unfold pw
  obtain ⟨a, rfl⟩ := Int.eq_ofNat_of_zero_le h0
  obtain ⟨b, rfl⟩ := Int.eq_ofNat_of_zero_le (show 0 ≤ t by omega)
  simp only [Int.toNat_natCast]
  have : 2 ^ a ≤ 2 ^ b := Nat.pow_le_pow_right (by omega) (by omega)
  exact_mod_cast this
/-- What a valid set is. -/
structure ValidS (cs ws : List Int) (l : List Nat) : Prop where
  small : smallB cs ws = true
  sorted : l.Pairwise (· < ·)
  lt : ∀ x ∈ l, (x : Int) < pw (sumI ws)
theorem ValidS.lt4096 {cs ws : List Int} {l : List Nat} (h : ValidS cs ws l) : ∀ x ∈ l, x < 4096 := by
  intro x hx
  have h1 := h.lt x hx
  obtain ⟨_, _, h2, h3⟩ := small_sum h.small
  have h4 := pw_mono h2 h3
  have h5 : pw 12 = 4096 := by decide
  omega
theorem valid_nat {cs ws is : List Int} (h : validB cs ws is = true) : castL (natL is) = is ∧ ValidS cs ws (natL is) := by
  unfold validB at h
  rw [Bool.and_eq_true, Bool.and_eq_true, Bool.or_eq_true] at h
  obtain ⟨⟨h1, h2⟩, h3⟩ := h
  have hb : ∀ (i : Nat) (hi : i < is.length), 0 ≤ is[i] ∧ is[i] < pw (sumI ws) := by
    intro i hi
    rcases h3 with h3 | h3
    · have := of_decide_eq_true h3; rw [this] at hi; simp at hi
    · rw [Bool.and_eq_true, decide_eq_true_eq, decide_eq_true_eq] at h3
      have e : is[i] = is.getD i 0 := by simp [List.getD, hi]
      rw [e]
      constructor
      · rcases Nat.eq_zero_or_pos i with c | c
        · subst c; exact h3.1
        · have := inc_all h2 0 i c hi; omega
      · rcases Nat.lt_or_ge i (is.length - 1) with c | c
        · have := inc_all h2 i (is.length - 1) c (by omega); omega
        · obtain rfl : i = is.length - 1 := by omega
          exact h3.2
  have h0 : ∀ x ∈ is, 0 ≤ x ∧ x < pw (sumI ws) := fun x hx => by
    obtain ⟨i, hi, rfl⟩ := List.getElem_of_mem hx; exact hb i hi
  have hc := cast_natL fun x hx => (h0 x hx).1
  refine ⟨hc, h1, ?_, fun x hx => ?_⟩
  · rw [List.pairwise_iff_getElem]
    intro i j hi0 hj0 hij
    have hi : i < is.length := by simpa [natL] using hi0
    have hj : j < is.length := by simpa [natL] using hj0
    simp only [natL, List.getElem_map]
    have h5 := inc_all h2 i j hij hj
    have e1 : is[i] = is.getD i 0 := by simp [List.getD, hi]
    have e2 : is[j] = is.getD j 0 := by simp [List.getD, hj]
    have := hb i hi
    have := hb j hj
    omega
  · obtain ⟨y, hy, rfl⟩ := List.mem_map.1 hx
    have := h0 y hy
    omega
theorem valid_of {cs ws : List Int} {l : List Nat} (h : ValidS cs ws l) : validB cs ws (castL l) = true := by
  unfold validB
  rw [h.small, Bool.true_and, Bool.and_eq_true, Bool.or_eq_true]
  have hg : ∀ i, i < l.length → (castL l).getD i 0 = ((l.getD i 0 : Nat) : Int) := fun i hi => by simp [castL, List.getD, hi]
  constructor
  · rw [inc_iff]
    intro i hi
    rw [castL_len] at hi
    rw [hg i (by omega), hg (i + 1) hi]
    have := List.pairwise_iff_getElem.1 h.sorted i (i + 1) (by omega) hi (by omega)
    simp only [List.getD_eq_getElem?_getD, List.getElem?_eq_getElem hi, List.getElem?_eq_getElem (show i < l.length by omega), Option.getD_some]
    omega
  · cases l with
    | nil => left; rfl
    | cons a r =>
      right
      rw [Bool.and_eq_true, decide_eq_true_eq, decide_eq_true_eq]
      constructor
      · rw [hg 0 (by simp)]; omega
      · rw [castL_len, hg _ (by simp)]
        apply h.lt
        simp only [List.getD_eq_getElem?_getD, List.getElem?_eq_getElem (show (a :: r).length - 1 < (a :: r).length by simp), Option.getD_some]
        exact List.getElem_mem _

def combB (cs ws is cs2 ws2 js : List Int) : Bool := validB cs ws is && validB cs2 ws2 js && decide (cs = cs2) && decide (ws = ws2)
/-- A set of the call's own. -/
def SetO (w : World) (base : Nat) (v : Value) (cs ws is : List Int) : Prop := ∃ vc vw vi, v = .agg #[vc, vw, vi] ∧ OwnInts w base vc cs ∧ OwnInts w base vw ws ∧ OwnInts w base vi is
theorem SetO.setV {w : World} {base : Nat} {v : Value} {cs ws is : List Int} (h : SetO w base v cs ws is) : SetV w v cs ws is := by
  obtain ⟨a, b, c, h0, h1, h2, h3⟩ := h; exact ⟨a, b, c, h0, h1.ints, h2.ints, h3.ints⟩
theorem SetO.kept {w w' : World} {base : Nat} {v : Value} {cs ws is : List Int} (h : SetO w base v cs ws is) (hx : Ext w w') : SetO w' base v cs ws is := by
  obtain ⟨a, b, c, h0, h1, h2, h3⟩ := h; exact ⟨a, b, c, h0, h1.kept hx, h2.kept hx, h3.kept hx⟩
theorem SetO.mono {w : World} {base base' : Nat} {v : Value} {cs ws is : List Int} (h : SetO w base v cs ws is) (hb : base' ≤ base) : SetO w base' v cs ws is := by
  obtain ⟨a, b, c, h0, h1, h2, h3⟩ := h; exact ⟨a, b, c, h0, h1.mono hb, h2.mono hb, h3.mono hb⟩
theorem SetO.put3 {w : World} {base : Nat} {v : Value} {cs ws is : List Int} (h : SetO w base v cs ws is) {g : Nat} (hb : g < base) (x y z : Value) : SetO (Proofs.YtlcgbdjmlnjhcaaGreatDoor.put3 w g x y z) base v cs ws is := by
  obtain ⟨a, b, c, h0, h1, h2, h3⟩ := h; exact ⟨a, b, c, h0, h1.put3 hb _ _ _, h2.put3 hb _ _ _, h3.put3 hb _ _ _⟩
theorem SetO.nil (w : World) (base : Nat) : SetO w base (.agg #[.slice none 0 0, .slice none 0 0, .slice none 0 0]) [] [] [] := ⟨_, _, _, rfl, OwnInts.nil _ _, OwnInts.nil _ _, OwnInts.nil _ _⟩
theorem SetO.shape {w : World} {base : Nat} {v : Value} {cs ws is : List Int} (h : SetO w base v cs ws is) : ∃ ca cc wa wc ia ic, v = .agg #[.slice ca cs.length cc, .slice wa ws.length wc, .slice ia is.length ic] := by
  obtain ⟨ca, cc, wa, wc, ia, ic, e, _⟩ := h.setV.shape; exact ⟨ca, cc, wa, wc, ia, ic, e⟩
/-- A set and an error. -/
def SetRes (e : Int) (cs ws is : List Int) (w : World) (r : Ending) (w' : World) : Prop := ∃ v, r = .returned (.tuple #[v, .int .i64 e]) ∧ SetO w' w.heap.size v cs ws is ∧ Ext w w'
theorem results_row_tmp {P : Program} {fn : Func} {p u : Tmp} {ty : TypeId} (h : fn.results = #[.cell p ty, .tmp u]) (tmps : Array Value) (w : World) (g : Nat) (t : TypeId) (cs : Array Value) (fr : Nat × Nat) (d : TypeDesc)
    (hp : tmps.getD p undef = .pointer (some ⟨g, 0, none⟩)) (hg : w.heap[g]? = some (.cells cs t fr)) (hu : P.underlying ty = some d) (hd : (match d with | .struct _ | .array _ _ => true | _ => false) = true) (hi : (P.info? ty).map (·.size) = some cs.size) :
    (results fn tmps).run P w = .ok (.tuple #[.agg cs, tmps.getD u undef]) w := by
  rw [results_cell_tmp h, hp]
  simp [asAddr, run_loadVar_row w g t ty cs fr d hg hu hd hi, Result.andThen]
end Go.Proofs.YtlcgbdjmlnjhcaaGreatDoor
namespace Go.Proofs.YtlcgbdjmlnjhcaaGreatDoor
open Go.RowKit

def combL (g : Nat → Nat → Nat) (is js : List Int) : List Int := castL (listM (zipM g (mapL (natL is)) (mapL (natL js))))
/-- What combine gives. -/
def CombPost (g : Nat → Nat → Nat) (cs ws is cs2 ws2 js : List Int) (w : World) (r : Ending) (w' : World) : Prop :=
  if combB cs ws is cs2 ws2 js then SetRes 0 cs ws (combL g is js) w r w' else SetRes 1 [] [] [] w r w'
theorem CombPost.bad {g : Nat → Nat → Nat} {cs ws is cs2 ws2 js : List Int} {w w' : World} (h : combB cs ws is cs2 ws2 js = false) (hx : Ext w w') :
    CombPost g cs ws is cs2 ws2 js w (.returned (.tuple #[.agg #[.slice none 0 0, .slice none 0 0, .slice none 0 0], .int .i64 1])) w' := by
  unfold CombPost; rw [h]; exact ⟨_, rfl, SetO.nil _ _, hx⟩
/-- A function on words. -/
def WordFn (K : Nat) (g : Nat → Nat → Nat) : Prop := (∀ x y : Nat, x < 18446744073709551616 → y < 18446744073709551616 → g x y < 18446744073709551616) ∧
  (∀ (args : Array Value) (w : World), (callFunc K args).run Tryz.prog w = .ok (.enter K args) w) ∧ ∀ (x y : Nat) (w : World), x < 18446744073709551616 → y < 18446744073709551616 → Calls Tryz.prog K #[.int .u64 x, .int .u64 y] w fun r w' => r = .returned (.int .u64 (g x y)) ∧ w' = w

theorem zero_lt : ∀ i, rowM zeroM i < 18446744073709551616 := fun i => by rw [row_zeroM]; omega
theorem map_lt (l : List Nat) : ∀ i, rowM (mapL l) i < 18446744073709551616 := by
  have key : ∀ (l : List Nat) (M : List Nat), (∀ i, rowM M i < 2 ^ 64) → ∀ i, rowM (l.foldl (fun M n => orAt M (n / 64) (1 <<< (n % 64))) M) i < 2 ^ 64 := by
    intro l
    induction l with
    | nil => intro M h; exact h
    | cons a r ih => intro M h; exact ih _ (row_lt_orAt (shl_lt (by omega)) h)
  exact key l zeroM (fun i => by rw [row_zeroM]; omega)
theorem wpOp_store_row {P : Program} {ops : Array Oper} {Q : Exit → Act → World → Prop} {i : Nat} {o : Oper} {a : Act} {w : World} {K : Act → World → Prop} (hi : ops[i]? = some o) (hgd : o.guard = none) (hd : o.dst = none) (ty : TypeId) (x y : Operand) (ho : o.op = .store ty x y)
    (g : Nat) (cells : Array Value) (hx : a.eval x = .pointer (some ⟨g, 0, none⟩)) (hy : a.eval y = .agg cells) (t : TypeId) (old : Array Value) (hg : w.heap[g]? = some (.cells old t (0, 0))) (hs : (P.info? ty).map (·.size) = some cells.size)
    (hold : old.size = cells.size) (h1 : cells.all (·.oneCell') = true) (h : K a (w.setRow g cells)) : wpOp P ops Q i K a w := by
  unfold wpOp
  rw [hi]
  simp only [Region.wanted, hgd, if_true]
  exact .inl (wp_store_row ty x y ho g cells hx hy t old hg hs hold h1 (by rw [hd]; exact h))
theorem wpOp_store_words {ops : Array Oper} {Q : Exit → Act → World → Prop} {i : Nat} {o : Oper} {a : Act} {w : World} {K : Act → World → Prop} (ty : TypeId) (hsz : (Tryz.prog.info? ty).map (·.size) = some 64) (hi : ops[i]? = some o) (hgd : o.guard = none) (hd : o.dst = none) (x y : Operand) (ho : o.op = .store ty x y)
    (g : Nat) (M M' : List Nat) (hx : a.eval x = .pointer (some ⟨g, 0, none⟩)) (hy : a.eval y = .agg (wordsV M')) (t : TypeId) (hg : WordsAt t w g M) (h : K a (w.setRow g (wordsV M'))) : wpOp Tryz.prog ops Q i K a w :=
  wpOp_store_row hi hgd hd ty x y ho g (wordsV M') hx hy t _ hg.heap (by rw [wordsV_size]; exact hsz) (by rw [wordsV_size, wordsV_size]) (words_one _) h
theorem WordsAt.setRow {t : TypeId} {w : World} {b : Nat} {M : List Nat} (h : WordsAt t w b M) {M' : List Nat} (hM : M'.length = 64) (hl : ∀ i, rowM M' i < 18446744073709551616) : WordsAt t (w.setRow b (wordsV M')) b M' :=
  ⟨setRow_heap _ _ _ _ _ _ h.heap, hM, hl⟩
theorem WordsAt.setRow_other {t : TypeId} {w : World} {b c : Nat} {M : List Nat} (h : WordsAt t w b M) (hc : b ≠ c) (cs : Array Value) : WordsAt t (w.setRow c cs) b M :=
  ⟨by rw [Go.setRow_other _ _ _ _ hc]; exact h.heap, h.len, h.lt⟩

def Two (w : World) (x y : Value) (w' : World) : Prop := Ext w w' ∧ w'.cell? ⟨w.heap.size, 0, none⟩ = some x ∧ w'.cell? ⟨w.heap.size, 1, none⟩ = some y
theorem Two.ext {w w' w'' : World} {x y : Value} (h : Two w x y w') (hx : Ext w' w'') : Two w x y w'' := ⟨h.1.trans hx, hx.cell h.2.1, hx.cell h.2.2⟩
theorem Two.put3 {w w' : World} {x y : Value} (h : Two w x y w') {b : Nat} (hb : w.heap.size < b) (p q r : Value) : Two w x y (put3 w' b p q r) :=
  ⟨h.1.put3 (by omega) _ _ _, by have := h.2.1; unfold World.cell? at *; simp only [put3_other w.heap.size (show w.heap.size ≠ b by omega)]; exact this,
    by have := h.2.2; unfold World.cell? at *; simp only [put3_other w.heap.size (show w.heap.size ≠ b by omega)]; exact this⟩
/-- The first k words combined. -/
def zipTo (g : Nat → Nat → Nat) (A B : List Nat) (k : Nat) : List Nat := (List.range 64).map fun i => if i < k then g (rowM A i) (rowM B i) else rowM A i
theorem zipTo_len (g : Nat → Nat → Nat) (A B : List Nat) (k : Nat) : (zipTo g A B k).length = 64 := by simp [zipTo]
theorem row_zipTo (g : Nat → Nat → Nat) (A B : List Nat) (k : Nat) {i : Nat} (h : i < 64) : rowM (zipTo g A B k) i = if i < k then g (rowM A i) (rowM B i) else rowM A i := row_map _ _ h
theorem rows_ext {A B : List Nat} (ha : A.length = 64) (hb : B.length = 64) (h : ∀ i, i < 64 → rowM A i = rowM B i) : A = B := by
  apply List.ext_getElem (by rw [ha, hb])
  intro i h1 h2
  have := h i (by omega)
  simpa [rowM, List.getD, h1, h2] using this
theorem zipTo_zero (g : Nat → Nat → Nat) {A : List Nat} (B : List Nat) (hA : A.length = 64) : zipTo g A B 0 = A :=
  rows_ext (zipTo_len _ _ _ _) hA fun i hi => by rw [row_zipTo _ _ _ _ hi]; simp
theorem zipTo_all (g : Nat → Nat → Nat) (A B : List Nat) : zipTo g A B 64 = zipM g A B :=
  rows_ext (zipTo_len _ _ _ _) (by simp [zipM]) fun i hi => by rw [row_zipTo _ _ _ _ hi, row_zipM _ _ _ hi, if_pos hi]
theorem zipTo_set (g : Nat → Nat → Nat) (A B : List Nat) {k : Nat} (hk : k < 64) : (zipTo g A B k).set k (g (rowM A k) (rowM B k)) = zipTo g A B (k + 1) :=
  rows_ext (by rw [List.length_set, zipTo_len]) (zipTo_len _ _ _ _) fun i hi => by
    rw [row_set (by rw [zipTo_len]; exact hk), row_zipTo _ _ _ _ hi, row_zipTo _ _ _ _ hi]
    by_cases e : i = k
    · subst e; simp
    · have : (i < k) = (i < k + 1) := by apply propext; omega
      simp [e, this]

end Go.Proofs.YtlcgbdjmlnjhcaaGreatDoor
