/-
  Sets of numbers: what valid says; a set and an error as results.
  The walk of states.combine. Printed by gen_comb.py.
  The walks of states.Meet and Join. Printed by gen_meet.py.
-/
import Derived.Test.YtlnahhlddekhoaaGreatDoorG09
import Derived.Deep.DeepCutAuto
namespace Go.Proofs.YtlnahhlddekhoaaGreatDoor
open Go.RowKit

def natL (l : List Int) : List Nat := l.map Int.toNat
theorem cast_natL {l : List Int} (h : ∀ x ∈ l, 0 ≤ x) : castL (natL l) = l := by
  induction l with
  | nil => rfl
  | cons a r ih =>
    have h1 := h a (by simp)
    have h2 := ih fun x hx => h x (by simp [hx])
    simp only [castL, natL, List.map_cons] at *
    rw [h2]; congr 1; omega
theorem natL_cast (l : List Nat) : natL (castL l) = l := by
  induction l with
  | nil => rfl
  | cons a r ih => simp only [castL, natL, List.map_cons] at *; rw [ih]; congr 1
theorem inc_all {l : List Int} (h : incB l = true) : ∀ i j, i < j → j < l.length → l.getD i 0 < l.getD j 0 := by
  intro i j hij
  induction j with
  | zero => omega
  | succ j ih =>
    intro hj
    have h1 := inc_iff.1 h j hj
    rcases Nat.lt_or_ge i j with c | c
    · have := ih c (by omega); omega
    · obtain rfl : i = j := by omega
      exact h1
theorem small_sum {cs ws : List Int} (h : smallB cs ws = true) : shapeB cs ws = true ∧ Widths ws ∧ 0 ≤ sumI ws ∧ sumI ws ≤ 12 := by
  unfold smallB at h
  rw [Bool.and_eq_true, decide_eq_true_eq] at h
  have h2 := (sum_bound (shape_widths h.1).2 ws.length (Nat.le_refl _)).1
  rw [List.take_length] at h2
  exact ⟨h.1, shape_widths h.1, h2, h.2⟩
theorem pw_mono {s t : Int} (h0 : 0 ≤ s) (h : s ≤ t) : pw s ≤ pw t := by
  unfold pw
  obtain ⟨a, rfl⟩ := Int.eq_ofNat_of_zero_le h0
  obtain ⟨b, rfl⟩ := Int.eq_ofNat_of_zero_le (show 0 ≤ t by omega)
  simp only [Int.toNat_natCast]
  have : 2 ^ a ≤ 2 ^ b := Nat.pow_le_pow_right (by omega) (by omega)
  exact_mod_cast this
/-- What a valid set is. -/
structure ValidS (cs ws : List Int) (l : List Nat) : Prop where
  small : smallB cs ws = true
  sorted : l.Pairwise (· < ·)
  lt : ∀ x ∈ l, (x : Int) < pw (sumI ws)
theorem ValidS.lt4096 {cs ws : List Int} {l : List Nat} (h : ValidS cs ws l) : ∀ x ∈ l, x < 4096 := by
  intro x hx
  have h1 := h.lt x hx
  obtain ⟨_, _, h2, h3⟩ := small_sum h.small
  have h4 := pw_mono h2 h3
  have h5 : pw 12 = 4096 := by decide
  omega
theorem valid_nat {cs ws is : List Int} (h : validB cs ws is = true) : castL (natL is) = is ∧ ValidS cs ws (natL is) := by
  unfold validB at h
  rw [Bool.and_eq_true, Bool.and_eq_true, Bool.or_eq_true] at h
  obtain ⟨⟨h1, h2⟩, h3⟩ := h
  have hb : ∀ (i : Nat) (hi : i < is.length), 0 ≤ is[i] ∧ is[i] < pw (sumI ws) := by
    intro i hi
    rcases h3 with h3 | h3
    · have := of_decide_eq_true h3; rw [this] at hi; simp at hi
    · rw [Bool.and_eq_true, decide_eq_true_eq, decide_eq_true_eq] at h3
      have e : is[i] = is.getD i 0 := by simp [List.getD, hi]
      rw [e]
      constructor
      · rcases Nat.eq_zero_or_pos i with c | c
        · subst c; exact h3.1
        · have := inc_all h2 0 i c hi; omega
      · rcases Nat.lt_or_ge i (is.length - 1) with c | c
        · have := inc_all h2 i (is.length - 1) c (by omega); omega
        · obtain rfl : i = is.length - 1 := by omega
          exact h3.2
  have h0 : ∀ x ∈ is, 0 ≤ x ∧ x < pw (sumI ws) := fun x hx => by
    obtain ⟨i, hi, rfl⟩ := List.getElem_of_mem hx; exact hb i hi
  have hc := cast_natL fun x hx => (h0 x hx).1
  refine ⟨hc, h1, ?_, fun x hx => ?_⟩
  · rw [List.pairwise_iff_getElem]
    intro i j hi0 hj0 hij
    have hi : i < is.length := by simpa [natL] using hi0
    have hj : j < is.length := by simpa [natL] using hj0
    simp only [natL, List.getElem_map]
    have h5 := inc_all h2 i j hij hj
    have e1 : is[i] = is.getD i 0 := by simp [List.getD, hi]
    have e2 : is[j] = is.getD j 0 := by simp [List.getD, hj]
    have := hb i hi
    have := hb j hj
    omega
  · obtain ⟨y, hy, rfl⟩ := List.mem_map.1 hx
    have := h0 y hy
    omega
theorem valid_of {cs ws : List Int} {l : List Nat} (h : ValidS cs ws l) : validB cs ws (castL l) = true := by
  unfold validB
  rw [h.small, Bool.true_and, Bool.and_eq_true, Bool.or_eq_true]
  have hg : ∀ i, i < l.length → (castL l).getD i 0 = ((l.getD i 0 : Nat) : Int) := fun i hi => by simp [castL, List.getD, hi]
  constructor
  · rw [inc_iff]
    intro i hi
    rw [castL_len] at hi
    rw [hg i (by omega), hg (i + 1) hi]
    have := List.pairwise_iff_getElem.1 h.sorted i (i + 1) (by omega) hi (by omega)
    simp only [List.getD_eq_getElem?_getD, List.getElem?_eq_getElem hi, List.getElem?_eq_getElem (show i < l.length by omega), Option.getD_some]
    omega
  · cases l with
    | nil => left; rfl
    | cons a r =>
      right
      rw [Bool.and_eq_true, decide_eq_true_eq, decide_eq_true_eq]
      constructor
      · rw [hg 0 (by simp)]; omega
      · rw [castL_len, hg _ (by simp)]
        apply h.lt
        simp only [List.getD_eq_getElem?_getD, List.getElem?_eq_getElem (show (a :: r).length - 1 < (a :: r).length by simp), Option.getD_some]
        exact List.getElem_mem _

def combB (cs ws is cs2 ws2 js : List Int) : Bool := validB cs ws is && validB cs2 ws2 js && decide (cs = cs2) && decide (ws = ws2)
/-- A set of the call's own. -/
def SetO (w : World) (base : Nat) (v : Value) (cs ws is : List Int) : Prop := ∃ vc vw vi, v = .agg #[vc, vw, vi] ∧ OwnInts w base vc cs ∧ OwnInts w base vw ws ∧ OwnInts w base vi is
theorem SetO.setV {w : World} {base : Nat} {v : Value} {cs ws is : List Int} (h : SetO w base v cs ws is) : SetV w v cs ws is := by
  obtain ⟨a, b, c, h0, h1, h2, h3⟩ := h; exact ⟨a, b, c, h0, h1.ints, h2.ints, h3.ints⟩
theorem SetO.kept {w w' : World} {base : Nat} {v : Value} {cs ws is : List Int} (h : SetO w base v cs ws is) (hx : Ext w w') : SetO w' base v cs ws is := by
  obtain ⟨a, b, c, h0, h1, h2, h3⟩ := h; exact ⟨a, b, c, h0, h1.kept hx, h2.kept hx, h3.kept hx⟩
theorem SetO.mono {w : World} {base base' : Nat} {v : Value} {cs ws is : List Int} (h : SetO w base v cs ws is) (hb : base' ≤ base) : SetO w base' v cs ws is := by
  obtain ⟨a, b, c, h0, h1, h2, h3⟩ := h; exact ⟨a, b, c, h0, h1.mono hb, h2.mono hb, h3.mono hb⟩
theorem SetO.put3 {w : World} {base : Nat} {v : Value} {cs ws is : List Int} (h : SetO w base v cs ws is) {g : Nat} (hb : g < base) (x y z : Value) : SetO (Proofs.YtlnahhlddekhoaaGreatDoor.put3 w g x y z) base v cs ws is := by
  obtain ⟨a, b, c, h0, h1, h2, h3⟩ := h; exact ⟨a, b, c, h0, h1.put3 hb _ _ _, h2.put3 hb _ _ _, h3.put3 hb _ _ _⟩
theorem SetO.nil (w : World) (base : Nat) : SetO w base (.agg #[.slice none 0 0, .slice none 0 0, .slice none 0 0]) [] [] [] := ⟨_, _, _, rfl, OwnInts.nil _ _, OwnInts.nil _ _, OwnInts.nil _ _⟩
theorem SetO.shape {w : World} {base : Nat} {v : Value} {cs ws is : List Int} (h : SetO w base v cs ws is) : ∃ ca cc wa wc ia ic, v = .agg #[.slice ca cs.length cc, .slice wa ws.length wc, .slice ia is.length ic] := by
  obtain ⟨ca, cc, wa, wc, ia, ic, e, _⟩ := h.setV.shape; exact ⟨ca, cc, wa, wc, ia, ic, e⟩
/-- A set and an error. -/
def SetRes (e : Int) (cs ws is : List Int) (w : World) (r : Ending) (w' : World) : Prop := ∃ v, r = .returned (.tuple #[v, .int .i64 e]) ∧ SetO w' w.heap.size v cs ws is ∧ Ext w w'
theorem results_row_tmp {P : Program} {fn : Func} {p u : Tmp} {ty : TypeId} (h : fn.results = #[.cell p ty, .tmp u]) (tmps : Array Value) (w : World) (g : Nat) (t : TypeId) (cs : Array Value) (fr : Nat × Nat) (d : TypeDesc)
    (hp : tmps.getD p undef = .pointer (some ⟨g, 0, none⟩)) (hg : w.heap[g]? = some (.cells cs t fr)) (hu : P.underlying ty = some d) (hd : (match d with | .struct _ | .array _ _ => true | _ => false) = true) (hi : (P.info? ty).map (·.size) = some cs.size) :
    (results fn tmps).run P w = .ok (.tuple #[.agg cs, tmps.getD u undef]) w := by
  rw [results_cell_tmp h, hp]
  simp [asAddr, run_loadVar_row w g t ty cs fr d hg hu hd hi, Result.andThen]
end Go.Proofs.YtlnahhlddekhoaaGreatDoor
namespace Go.Proofs.YtlnahhlddekhoaaGreatDoor
open Go.RowKit

def combL (g : Nat → Nat → Nat) (is js : List Int) : List Int := castL (listM (zipM g (mapL (natL is)) (mapL (natL js))))
/-- What combine gives. -/
def CombPost (g : Nat → Nat → Nat) (cs ws is cs2 ws2 js : List Int) (w : World) (r : Ending) (w' : World) : Prop :=
  if combB cs ws is cs2 ws2 js then SetRes 0 cs ws (combL g is js) w r w' else SetRes 1 [] [] [] w r w'
theorem CombPost.bad {g : Nat → Nat → Nat} {cs ws is cs2 ws2 js : List Int} {w w' : World} (h : combB cs ws is cs2 ws2 js = false) (hx : Ext w w') :
    CombPost g cs ws is cs2 ws2 js w (.returned (.tuple #[.agg #[.slice none 0 0, .slice none 0 0, .slice none 0 0], .int .i64 1])) w' := by
  unfold CombPost; rw [h]; exact ⟨_, rfl, SetO.nil _ _, hx⟩
/-- A function on words. -/
def WordFn (K : Nat) (g : Nat → Nat → Nat) : Prop := (∀ x y : Nat, x < 18446744073709551616 → y < 18446744073709551616 → g x y < 18446744073709551616) ∧
  (∀ (args : Array Value) (w : World), (callFunc K args).run Tryz.prog w = .ok (.enter K args) w) ∧ ∀ (x y : Nat) (w : World), x < 18446744073709551616 → y < 18446744073709551616 → Calls Tryz.prog K #[.int .u64 x, .int .u64 y] w fun r w' => r = .returned (.int .u64 (g x y)) ∧ w' = w

theorem zero_lt : ∀ i, rowM zeroM i < 18446744073709551616 := fun i => by rw [row_zeroM]; omega
theorem map_lt (l : List Nat) : ∀ i, rowM (mapL l) i < 18446744073709551616 := by
  have key : ∀ (l : List Nat) (M : List Nat), (∀ i, rowM M i < 2 ^ 64) → ∀ i, rowM (l.foldl (fun M n => orAt M (n / 64) (1 <<< (n % 64))) M) i < 2 ^ 64 := by
    intro l
    induction l with
    | nil => intro M h; exact h
    | cons a r ih => intro M h; exact ih _ (row_lt_orAt (shl_lt (by omega)) h)
  exact key l zeroM (fun i => by rw [row_zeroM]; omega)
theorem wpOp_store_row {P : Program} {ops : Array Oper} {Q : Exit → Act → World → Prop} {i : Nat} {o : Oper} {a : Act} {w : World} {K : Act → World → Prop} (hi : ops[i]? = some o) (hgd : o.guard = none) (hd : o.dst = none) (ty : TypeId) (x y : Operand) (ho : o.op = .store ty x y)
    (g : Nat) (cells : Array Value) (hx : a.eval x = .pointer (some ⟨g, 0, none⟩)) (hy : a.eval y = .agg cells) (t : TypeId) (old : Array Value) (hg : w.heap[g]? = some (.cells old t (0, 0))) (hs : (P.info? ty).map (·.size) = some cells.size)
    (hold : old.size = cells.size) (h1 : cells.all (·.oneCell') = true) (h : K a (w.setRow g cells)) : wpOp P ops Q i K a w := by
  unfold wpOp
  rw [hi]
  simp only [Region.wanted, hgd, if_true]
  exact .inl (wp_store_row ty x y ho g cells hx hy t old hg hs hold h1 (by rw [hd]; exact h))
theorem wpOp_store_words {ops : Array Oper} {Q : Exit → Act → World → Prop} {i : Nat} {o : Oper} {a : Act} {w : World} {K : Act → World → Prop} (ty : TypeId) (hsz : (Tryz.prog.info? ty).map (·.size) = some 64) (hi : ops[i]? = some o) (hgd : o.guard = none) (hd : o.dst = none) (x y : Operand) (ho : o.op = .store ty x y)
    (g : Nat) (M M' : List Nat) (hx : a.eval x = .pointer (some ⟨g, 0, none⟩)) (hy : a.eval y = .agg (wordsV M')) (t : TypeId) (hg : WordsAt t w g M) (h : K a (w.setRow g (wordsV M'))) : wpOp Tryz.prog ops Q i K a w :=
  wpOp_store_row hi hgd hd ty x y ho g (wordsV M') hx hy t _ hg.heap (by rw [wordsV_size]; exact hsz) (by rw [wordsV_size, wordsV_size]) (words_one _) h
theorem WordsAt.setRow {t : TypeId} {w : World} {b : Nat} {M : List Nat} (h : WordsAt t w b M) {M' : List Nat} (hM : M'.length = 64) (hl : ∀ i, rowM M' i < 18446744073709551616) : WordsAt t (w.setRow b (wordsV M')) b M' :=
  ⟨setRow_heap _ _ _ _ _ _ h.heap, hM, hl⟩
theorem WordsAt.setRow_other {t : TypeId} {w : World} {b c : Nat} {M : List Nat} (h : WordsAt t w b M) (hc : b ≠ c) (cs : Array Value) : WordsAt t (w.setRow c cs) b M :=
  ⟨by rw [Go.setRow_other _ _ _ _ hc]; exact h.heap, h.len, h.lt⟩

def Two (w : World) (x y : Value) (w' : World) : Prop := Ext w w' ∧ w'.cell? ⟨w.heap.size, 0, none⟩ = some x ∧ w'.cell? ⟨w.heap.size, 1, none⟩ = some y
theorem Two.ext {w w' w'' : World} {x y : Value} (h : Two w x y w') (hx : Ext w' w'') : Two w x y w'' := ⟨h.1.trans hx, hx.cell h.2.1, hx.cell h.2.2⟩
theorem Two.put3 {w w' : World} {x y : Value} (h : Two w x y w') {b : Nat} (hb : w.heap.size < b) (p q r : Value) : Two w x y (put3 w' b p q r) :=
  ⟨h.1.put3 (by omega) _ _ _, by have := h.2.1; unfold World.cell? at *; simp only [put3_other w.heap.size (show w.heap.size ≠ b by omega)]; exact this,
    by have := h.2.2; unfold World.cell? at *; simp only [put3_other w.heap.size (show w.heap.size ≠ b by omega)]; exact this⟩
/-- The first k words combined. -/
def zipTo (g : Nat → Nat → Nat) (A B : List Nat) (k : Nat) : List Nat := (List.range 64).map fun i => if i < k then g (rowM A i) (rowM B i) else rowM A i
theorem zipTo_len (g : Nat → Nat → Nat) (A B : List Nat) (k : Nat) : (zipTo g A B k).length = 64 := by simp [zipTo]
theorem row_zipTo (g : Nat → Nat → Nat) (A B : List Nat) (k : Nat) {i : Nat} (h : i < 64) : rowM (zipTo g A B k) i = if i < k then g (rowM A i) (rowM B i) else rowM A i := row_map _ _ h
theorem rows_ext {A B : List Nat} (ha : A.length = 64) (hb : B.length = 64) (h : ∀ i, i < 64 → rowM A i = rowM B i) : A = B := by
  apply List.ext_getElem (by rw [ha, hb])
  intro i h1 h2
  have := h i (by omega)
  simpa [rowM, List.getD, h1, h2] using this
theorem zipTo_zero (g : Nat → Nat → Nat) {A : List Nat} (B : List Nat) (hA : A.length = 64) : zipTo g A B 0 = A :=
  rows_ext (zipTo_len _ _ _ _) hA fun i hi => by rw [row_zipTo _ _ _ _ hi]; simp
theorem zipTo_all (g : Nat → Nat → Nat) (A B : List Nat) : zipTo g A B 64 = zipM g A B :=
  rows_ext (zipTo_len _ _ _ _) (by simp [zipM]) fun i hi => by rw [row_zipTo _ _ _ _ hi, row_zipM _ _ _ hi, if_pos hi]
theorem zipTo_set (g : Nat → Nat → Nat) (A B : List Nat) {k : Nat} (hk : k < 64) : (zipTo g A B k).set k (g (rowM A k) (rowM B k)) = zipTo g A B (k + 1) :=
  rows_ext (by rw [List.length_set, zipTo_len]) (zipTo_len _ _ _ _) fun i hi => by
    rw [row_set (by rw [zipTo_len]; exact hk), row_zipTo _ _ _ _ hi, row_zipTo _ _ _ _ hi]
    by_cases e : i = k
    · subst e; simp
    · have : (i < k) = (i < k + 1) := by apply propext; omega
      simp [e, this]

set_option maxRecDepth 100000 in
set_option maxHeartbeats 2000000 in
theorem combine_any (K : Nat) (g : Nat → Nat → Nat) (hK : WordFn K g) (cs ws is cs2 ws2 js : List Int) (va vb : Value) (w : World) (ha : SetV w va cs ws is) (hb : SetV w vb cs2 ws2 js) (hT : DeB w) :
    Calls Tryz.prog 108 #[va, vb, .func (.func K) #[] #[]] w (CombPost g cs ws is cs2 ws2 js w) := by
  obtain ⟨ca, cc, wa, wcp, ia, ic, rfl, a1, a2, a3⟩ := ha.shape
  obtain ⟨ca2, cc2, wa2, wc2, ia2, ic2, rfl, b1, b2, b3⟩ := hb.shape
  obtain ⟨W, hW⟩ : ∃ W, W = ((w.alloc (.cells #[.slice ca cs.length cc, .slice wa ws.length wcp, .slice ia is.length ic] 31)).alloc (.cells #[.slice ca2 cs2.length cc2, .slice wa2 ws2.length wc2, .slice ia2 js.length ic2] 31)).alloc (.cells #[.slice none 0 0, .slice none 0 0, .slice none 0 0] 31) := ⟨_, rfl⟩
  have hx : Ext w W := by rw [hW]; exact (((Ext.refl w).alloc _).alloc _).alloc _
  have hz : W.heap.size = w.heap.size + 3 := by rw [hW]; simp
  have hB1 : W.heap[w.heap.size]? = some (.cells #[.slice ca cs.length cc, .slice wa ws.length wcp, .slice ia is.length ic] 31 (0, 0)) := by
    rw [hW, heap_alloc_old _ _ (by simp; omega), heap_alloc_old _ _ (by simp)]; exact heap_new _ _
  have hB2 : W.heap[w.heap.size + 1]? = some (.cells #[.slice ca2 cs2.length cc2, .slice wa2 ws2.length wc2, .slice ia2 js.length ic2] 31 (0, 0)) := by
    rw [hW, heap_alloc_old _ _ (by simp)]
    have := heap_new (w.alloc (.cells #[.slice ca cs.length cc, .slice wa ws.length wcp, .slice ia is.length ic] 31)) (.cells #[.slice ca2 cs2.length cc2, .slice wa2 ws2.length wc2, .slice ia2 js.length ic2] 31)
    rw [World.size_alloc] at this; exact this
  have hB3 : W.heap[w.heap.size + 2]? = some (.cells #[.slice none 0 0, .slice none 0 0, .slice none 0 0] 31 (0, 0)) := by
    rw [hW]
    have := heap_new ((w.alloc (.cells #[.slice ca cs.length cc, .slice wa ws.length wcp, .slice ia is.length ic] 31)).alloc (.cells #[.slice ca2 cs2.length cc2, .slice wa2 ws2.length wc2, .slice ia2 js.length ic2] 31)) (.cells #[.slice none 0 0, .slice none 0 0, .slice none 0 0] 31)
    rw [World.size_alloc, World.size_alloc] at this; exact this
  have HA := Lib.hid (ha.ext hx); have HB := Lib.hid (hb.ext hx)
  have A1 := Lib.hid (a1.ext hx); have A2 := Lib.hid (a2.ext hx); have A3 := Lib.hid (a3.ext hx)
  have C1 := Lib.hid (b1.ext hx); have C2 := Lib.hid (b2.ext hx); have C3 := Lib.hid (b3.ext hx)
  have HX := Lib.hid hx; have HZ := Lib.hid hz; have HW := Lib.hid hW; have B1 := Lib.hid hB1; have B2 := Lib.hid hB2; have B3 := Lib.hid hB3; have HK := Lib.hid hK; have HT := Lib.hid (hT.ext hx)
  have CB : Hid (combB cs ws is cs2 ws2 js = (validB cs ws is && validB cs2 ws2 js && decide (cs = cs2) && decide (ws = ws2))) := rfl
  clear ha hb a1 a2 a3 b1 b2 b3 hx hz hW hB1 hB2 hB3 hK hT
  obtain ⟨p0, p1, p2⟩ := cells3 B1.out
  obtain ⟨q0, q1, q2⟩ := cells3 B2.out
  go_enter Tryz.func108, Tryz.ntmps108
  go_upto_region 1 with fail
  rw [← HW.out]
  go_wp2_with fail
  refine (valid_any cs ws is _ _ HA.out).mono ?_
  rintro r w1 ⟨rfl, x1⟩
  have Y1 := Lib.hid (x1)
  clear x1
  have p01 := Y1.out.cell p0; have p11 := Y1.out.cell p1; have p21 := Y1.out.cell p2; have q01 := Y1.out.cell q0; have q11 := Y1.out.cell q1; have q21 := Y1.out.cell q2
  cases hv1 : validB cs ws is with
  | false =>
    have V1 := Lib.hid hv1; clear hv1
    have HF : Hid (combB cs ws is cs2 ws2 js = false) := by unfold Hid; rw [CB.out, V1.out]; simp
    have hR := Y1.out.block (w.heap.size + 2) (by have := HZ.out; omega)
    rw [B3.out] at hR
    obtain ⟨z0, z1, z2, f0, f1, f2⟩ := block3 hR
    have HR := Lib.hid (put3_new (x := .slice none 0 0) (y := .slice none 0 0) (z := .slice none 0 0) hR)
    have HE := Lib.hid ((HX.out.trans Y1.out).put3 (b := w.heap.size + 2) (by omega) (.slice none 0 0) (.slice none 0 0) (.slice none 0 0))
    clear hR
    go_wp2_with fail
    exact bodyPost_ret (v := .tuple #[.agg #[.slice none 0 0, .slice none 0 0, .slice none 0 0], .int .i64 1]) (results_row_tmp Tryz.results108 _ _ (w.heap.size + 2) 31 _ (0, 0) _ rfl HR.out Tryz.underlying31 rfl sizeSet) rfl (CombPost.bad HF.out HE.out)
  | true =>
    have V1 := Lib.hid hv1; clear hv1
    go_wp2_with fail
    refine (valid_any cs2 ws2 js _ _ (HB.out.ext Y1.out)).mono ?_
    rintro r w2 ⟨rfl, x2⟩
    have Y2 := Lib.hid (Y1.out.trans x2)
    clear x2
    have p02 := Y2.out.cell p0; have p12 := Y2.out.cell p1; have p22 := Y2.out.cell p2; have q02 := Y2.out.cell q0; have q12 := Y2.out.cell q1; have q22 := Y2.out.cell q2
    cases hv2 : validB cs2 ws2 js with
    | false =>
      have V2 := Lib.hid hv2; clear hv2
      have HF : Hid (combB cs ws is cs2 ws2 js = false) := by unfold Hid; rw [CB.out, V1.out, V2.out]; simp
      have hR := Y2.out.block (w.heap.size + 2) (by have := HZ.out; omega)
      rw [B3.out] at hR
      obtain ⟨z0, z1, z2, f0, f1, f2⟩ := block3 hR
      have HR := Lib.hid (put3_new (x := .slice none 0 0) (y := .slice none 0 0) (z := .slice none 0 0) hR)
      have HE := Lib.hid ((HX.out.trans Y2.out).put3 (b := w.heap.size + 2) (by omega) (.slice none 0 0) (.slice none 0 0) (.slice none 0 0))
      clear hR
      go_wp2_with fail
      exact bodyPost_ret (v := .tuple #[.agg #[.slice none 0 0, .slice none 0 0, .slice none 0 0], .int .i64 1]) (results_row_tmp Tryz.results108 _ _ (w.heap.size + 2) 31 _ (0, 0) _ rfl HR.out Tryz.underlying31 rfl sizeSet) rfl (CombPost.bad HF.out HE.out)
    | true =>
      have V2 := Lib.hid hv2; clear hv2
      go_wp2_with fail
      refine (Equal_any cs cs2 _ _ _ (A1.out.ext Y2.out) (C1.out.ext Y2.out)).mono ?_
      rintro r w3 ⟨rfl, x3⟩
      have Y3 := Lib.hid (Y2.out.trans x3)
      clear x3
      have p03 := Y3.out.cell p0; have p13 := Y3.out.cell p1; have p23 := Y3.out.cell p2; have q03 := Y3.out.cell q0; have q13 := Y3.out.cell q1; have q23 := Y3.out.cell q2
      cases hv3 : decide (cs = cs2) with
      | false =>
        have V3 := Lib.hid hv3; clear hv3
        have HF : Hid (combB cs ws is cs2 ws2 js = false) := by unfold Hid; rw [CB.out, V1.out, V2.out, V3.out]; simp
        have hR := Y3.out.block (w.heap.size + 2) (by have := HZ.out; omega)
        rw [B3.out] at hR
        obtain ⟨z0, z1, z2, f0, f1, f2⟩ := block3 hR
        have HR := Lib.hid (put3_new (x := .slice none 0 0) (y := .slice none 0 0) (z := .slice none 0 0) hR)
        have HE := Lib.hid ((HX.out.trans Y3.out).put3 (b := w.heap.size + 2) (by omega) (.slice none 0 0) (.slice none 0 0) (.slice none 0 0))
        clear hR
        go_wp2_with fail
        exact bodyPost_ret (v := .tuple #[.agg #[.slice none 0 0, .slice none 0 0, .slice none 0 0], .int .i64 1]) (results_row_tmp Tryz.results108 _ _ (w.heap.size + 2) 31 _ (0, 0) _ rfl HR.out Tryz.underlying31 rfl sizeSet) rfl (CombPost.bad HF.out HE.out)
      | true =>
        have V3 := Lib.hid hv3; clear hv3
        go_wp2_with fail
        refine (Equal_any ws ws2 _ _ _ (A2.out.ext Y3.out) (C2.out.ext Y3.out)).mono ?_
        rintro r w4 ⟨rfl, x4⟩
        have Y4 := Lib.hid (Y3.out.trans x4)
        clear x4
        have p04 := Y4.out.cell p0; have p14 := Y4.out.cell p1; have p24 := Y4.out.cell p2; have q04 := Y4.out.cell q0; have q14 := Y4.out.cell q1; have q24 := Y4.out.cell q2
        cases hv4 : decide (ws = ws2) with
        | false =>
          have V4 := Lib.hid hv4; clear hv4
          have HF : Hid (combB cs ws is cs2 ws2 js = false) := by unfold Hid; rw [CB.out, V1.out, V2.out, V3.out, V4.out]; simp
          have hR := Y4.out.block (w.heap.size + 2) (by have := HZ.out; omega)
          rw [B3.out] at hR
          obtain ⟨z0, z1, z2, f0, f1, f2⟩ := block3 hR
          have HR := Lib.hid (put3_new (x := .slice none 0 0) (y := .slice none 0 0) (z := .slice none 0 0) hR)
          have HE := Lib.hid ((HX.out.trans Y4.out).put3 (b := w.heap.size + 2) (by omega) (.slice none 0 0) (.slice none 0 0) (.slice none 0 0))
          clear hR
          go_wp2_with fail
          exact bodyPost_ret (v := .tuple #[.agg #[.slice none 0 0, .slice none 0 0, .slice none 0 0], .int .i64 1]) (results_row_tmp Tryz.results108 _ _ (w.heap.size + 2) 31 _ (0, 0) _ rfl HR.out Tryz.underlying31 rfl sizeSet) rfl (CombPost.bad HF.out HE.out)
        | true =>
          have V4 := Lib.hid hv4; clear hv4
          have HF : Hid (combB cs ws is cs2 ws2 js = true) := by unfold Hid; rw [CB.out, V1.out, V2.out, V3.out, V4.out]; rfl
          obtain ⟨n1, s1⟩ := valid_nat V1.out
          obtain ⟨n2, s2⟩ := valid_nat V2.out
          have N1 := Lib.hid n1; have N2 := Lib.hid n2; have S1 := Lib.hid s1; have S2 := Lib.hid s2
          clear n1 n2 s1 s2 p01 p11 p21 q01 q11 q21 p02 p12 p22 q02 q12 q22 p03 p13 p23 q03 q13 q23
          have E4 := Lib.hid (HX.out.trans Y4.out)
          have HZ4 : Hid (w.heap.size + 3 ≤ w4.heap.size) := by have := Y4.out.size; have := HZ.out; unfold Hid; omega
          go_upto_region 3 with fail
          go_cut [8, 9] (fun s8 s9 V => ∃ b8 b9 : Nat, s8 = .pointer (some ⟨b8, 0, none⟩) ∧ s9 = .pointer (some ⟨b9, 0, none⟩) ∧ b8 ≠ b9 ∧ w4.heap.size ≤ b8 ∧ w4.heap.size ≤ b9 ∧ WordsAt 112 V b8 (mapL (natL is)) ∧ WordsAt 112 V b9 (mapL (natL js)) ∧ Ext w4 V)
          case first =>
            refine wp_region_held (S := fun w' => Ext w4 w') (by kernel_rfl) ?_
            refine wpAnyH_take (i := 0) (v := .pointer (some ⟨w.heap.size, 2, none⟩)) rfl (by kernel_rfl) (by kernel_rfl) (by kernel_rfl) (fun _ _ _ h => h) (.inl ⟨rfl, fun w' hx' => by go_simp⟩) (Ext.refl w4).drew ?_
            refine wpAnyH_take (i := 1) (v := .slice ia is.length ic) rfl (by kernel_rfl) (by kernel_rfl) (by kernel_rfl) (fun _ _ _ h => h) (.inl ⟨rfl, fun w' hx' => by have c0 := hx'.cell p24; go_simp⟩) (Ext.refl w4).drew ?_
            refine wpAnyH_take (i := 3) (v := .pointer (some ⟨w.heap.size + 1, 2, none⟩)) rfl (by kernel_rfl) (by kernel_rfl) (by kernel_rfl) (fun _ _ _ h => h) (.inl ⟨rfl, fun w' hx' => by go_simp⟩) (Ext.refl w4).drew ?_
            refine wpAnyH_take (i := 4) (v := .slice ia2 js.length ic2) rfl (by kernel_rfl) (by kernel_rfl) (by kernel_rfl) (fun _ _ _ h => h) (.inl ⟨rfl, fun w' hx' => by have c0 := hx'.cell q24; go_simp⟩) (Ext.refl w4).drew ?_
            generalize hv0 : ({ w4 with drawn := w4.drawn + 1 } : World) = v0
            have E0 : Ext w4 v0 := by rw [← hv0]; exact (Ext.refl w4).drew
            clear hv0
            refine wpAnyH_all (rs := [2, 6, 7]) (by kernel_rfl) (by simp) ?_
            intro i hi
            have hi' : i = 2 ∨ i = 6 ∨ i = 7 := by simpa using hi
            clear hi
            rcases hi' with rfl | rfl | rfl
            · unfold wpOp
              go_simp
              refine .inl ((mapOf_any (natL is) _ _ (by rw [N1.out]; exact A3.out.ext (Y4.out.trans (E0))) S1.out.lt4096).mono ?_)
              rintro r v1 ⟨rfl, y1⟩
              have E1 : Ext w4 v1 := (E0).trans y1
              refine ⟨E1, ?_⟩
              refine wpAnyH_all (rs := [5, 6, 7]) (by kernel_rfl) (by simp) ?_
              intro i hi
              have hi' : i = 5 ∨ i = 6 ∨ i = 7 := by simpa using hi
              clear hi
              rcases hi' with rfl | rfl | rfl
              · unfold wpOp
                go_simp
                refine .inl ((mapOf_any (natL js) _ _ (by rw [N2.out]; exact C3.out.ext (Y4.out.trans (E1))) S2.out.lt4096).mono ?_)
                rintro r v2 ⟨rfl, y2⟩
                have E2 : Ext w4 v2 := (E1).trans y2
                refine ⟨E2, ?_⟩
                refine wpAnyH_all (rs := [6, 7]) (by kernel_rfl) (by simp) ?_
                intro i hi
                have hi' : i = 6 ∨ i = 7 := by simpa using hi
                clear hi
                rcases hi' with rfl | rfl
                · unfold wpOp
                  go_simp
                  rw [← words_zero]
                  refine .inl ⟨(E2).alloc _, ?_⟩
                  have Q3 : WordsAt 112 (v2.alloc (.cells (wordsV zeroM) 112)) v2.heap.size zeroM := WordsAt.new _ _ zeroM len_zeroM zero_lt
                  have L3 : w4.heap.size ≤ v2.heap.size := Ext.size (E2)
                  obtain ⟨v3, hv3⟩ : ∃ v, v = v2.alloc (.cells (wordsV zeroM) 112) := ⟨_, rfl⟩
                  have y3 : Ext v2 v3 := by rw [hv3]; exact (Ext.refl _).alloc _
                  rw [← hv3] at Q3 ⊢
                  have HV3 := Lib.hid hv3; clear hv3
                  refine wpAnyH_all (rs := [7]) (by kernel_rfl) (by simp) ?_
                  intro i hi
                  obtain rfl : i = 7 := by simpa using hi
                  unfold wpOp
                  go_simp
                  rw [← words_zero]
                  refine .inl ⟨(((E2).trans y3)).alloc _, ?_⟩
                  have Q4 : WordsAt 112 (v3.alloc (.cells (wordsV zeroM) 112)) v3.heap.size zeroM := WordsAt.new _ _ zeroM len_zeroM zero_lt
                  have L4 : w4.heap.size ≤ v3.heap.size := Ext.size (((E2).trans y3))
                  obtain ⟨v4, hv4⟩ : ∃ v, v = v3.alloc (.cells (wordsV zeroM) 112) := ⟨_, rfl⟩
                  have y4 : Ext v3 v4 := by rw [hv4]; exact (Ext.refl _).alloc _
                  rw [← hv4] at Q4 ⊢
                  have HV4 := Lib.hid hv4; clear hv4
                  refine wpAnyH_all (rs := [8]) (by kernel_rfl) (by simp) ?_
                  intro i hi
                  obtain rfl : i = 8 := by simpa using hi
                  refine wpOp_store_words 112 sizeBm rfl rfl rfl (.tmp 8) (.tmp 38) rfl _ _ (mapL (natL is)) rfl rfl 112 (((Q3).ext y4)) ?_
                  refine ⟨(((((E2).trans y3)).trans y4)).setRow (L3) _, ?_⟩
                  refine wpAnyH_all (rs := [9]) (by kernel_rfl) (by simp) ?_
                  intro i hi
                  obtain rfl : i = 9 := by simpa using hi
                  refine wpOp_store_words 112 sizeBm rfl rfl rfl (.tmp 9) (.tmp 41) rfl _ _ (mapL (natL js)) rfl rfl 112 (((Q4).setRow_other ((Ne.symm (Nat.ne_of_lt ((Q3).lt_size)))) _)) ?_
                  refine ⟨(((((((E2).trans y3)).trans y4)).setRow (L3) _)).setRow (L4) _, ?_⟩
                  refine wpAnyH_done (by kernel_rfl) ?_ _
                  go_wp2_with fail
                  go_meet
                  exact ⟨_, _, rfl, rfl, (Nat.ne_of_lt ((Q3).lt_size)), L3, L4, ((((((Q3).ext y4)).setRow (len_mapL S1.out.lt4096) (map_lt _))).setRow_other ((Nat.ne_of_lt ((Q3).lt_size))) _), ((((Q4).setRow_other ((Ne.symm (Nat.ne_of_lt ((Q3).lt_size)))) _)).setRow (len_mapL S2.out.lt4096) (map_lt _)), ((((((((E2).trans y3)).trans y4)).setRow (L3) _)).setRow (L4) _)⟩
                · unfold wpOp
                  go_simp
                  rw [← words_zero]
                  refine .inl ⟨(E2).alloc _, ?_⟩
                  have Q3 : WordsAt 112 (v2.alloc (.cells (wordsV zeroM) 112)) v2.heap.size zeroM := WordsAt.new _ _ zeroM len_zeroM zero_lt
                  have L3 : w4.heap.size ≤ v2.heap.size := Ext.size (E2)
                  obtain ⟨v3, hv3⟩ : ∃ v, v = v2.alloc (.cells (wordsV zeroM) 112) := ⟨_, rfl⟩
                  have y3 : Ext v2 v3 := by rw [hv3]; exact (Ext.refl _).alloc _
                  rw [← hv3] at Q3 ⊢
                  have HV3 := Lib.hid hv3; clear hv3
                  refine wpAnyH_all (rs := [6]) (by kernel_rfl) (by simp) ?_
                  intro i hi
                  obtain rfl : i = 6 := by simpa using hi
                  unfold wpOp
                  go_simp
                  rw [← words_zero]
                  refine .inl ⟨(((E2).trans y3)).alloc _, ?_⟩
                  have Q4 : WordsAt 112 (v3.alloc (.cells (wordsV zeroM) 112)) v3.heap.size zeroM := WordsAt.new _ _ zeroM len_zeroM zero_lt
                  have L4 : w4.heap.size ≤ v3.heap.size := Ext.size (((E2).trans y3))
                  obtain ⟨v4, hv4⟩ : ∃ v, v = v3.alloc (.cells (wordsV zeroM) 112) := ⟨_, rfl⟩
                  have y4 : Ext v3 v4 := by rw [hv4]; exact (Ext.refl _).alloc _
                  rw [← hv4] at Q4 ⊢
                  have HV4 := Lib.hid hv4; clear hv4
                  refine wpAnyH_all (rs := [8]) (by kernel_rfl) (by simp) ?_
                  intro i hi
                  obtain rfl : i = 8 := by simpa using hi
                  refine wpOp_store_words 112 sizeBm rfl rfl rfl (.tmp 8) (.tmp 38) rfl _ _ (mapL (natL is)) rfl rfl 112 (Q4) ?_
                  refine ⟨(((((E2).trans y3)).trans y4)).setRow (L4) _, ?_⟩
                  refine wpAnyH_all (rs := [9]) (by kernel_rfl) (by simp) ?_
                  intro i hi
                  obtain rfl : i = 9 := by simpa using hi
                  refine wpOp_store_words 112 sizeBm rfl rfl rfl (.tmp 9) (.tmp 41) rfl _ _ (mapL (natL js)) rfl rfl 112 (((((Q3).ext y4)).setRow_other ((Ne.symm (Nat.ne_of_gt ((Q3).lt_size)))) _)) ?_
                  refine ⟨(((((((E2).trans y3)).trans y4)).setRow (L4) _)).setRow (L3) _, ?_⟩
                  refine wpAnyH_done (by kernel_rfl) ?_ _
                  go_wp2_with fail
                  go_meet
                  exact ⟨_, _, rfl, rfl, (Nat.ne_of_gt ((Q3).lt_size)), L4, L3, ((((Q4).setRow (len_mapL S1.out.lt4096) (map_lt _))).setRow_other ((Nat.ne_of_gt ((Q3).lt_size))) _), ((((((Q3).ext y4)).setRow_other ((Ne.symm (Nat.ne_of_gt ((Q3).lt_size)))) _)).setRow (len_mapL S2.out.lt4096) (map_lt _)), ((((((((E2).trans y3)).trans y4)).setRow (L4) _)).setRow (L3) _)⟩
              · unfold wpOp
                go_simp
                rw [← words_zero]
                refine .inl ⟨(E1).alloc _, ?_⟩
                have Q2 : WordsAt 112 (v1.alloc (.cells (wordsV zeroM) 112)) v1.heap.size zeroM := WordsAt.new _ _ zeroM len_zeroM zero_lt
                have L2 : w4.heap.size ≤ v1.heap.size := Ext.size (E1)
                obtain ⟨v2, hv2⟩ : ∃ v, v = v1.alloc (.cells (wordsV zeroM) 112) := ⟨_, rfl⟩
                have y2 : Ext v1 v2 := by rw [hv2]; exact (Ext.refl _).alloc _
                rw [← hv2] at Q2 ⊢
                have HV2 := Lib.hid hv2; clear hv2
                refine wpAnyH_all (rs := [5, 7]) (by kernel_rfl) (by simp) ?_
                intro i hi
                have hi' : i = 5 ∨ i = 7 := by simpa using hi
                clear hi
                rcases hi' with rfl | rfl
                · unfold wpOp
                  go_simp
                  refine .inl ((mapOf_any (natL js) _ _ (by rw [N2.out]; exact C3.out.ext (Y4.out.trans (((E1).trans y2)))) S2.out.lt4096).mono ?_)
                  rintro r v3 ⟨rfl, y3⟩
                  have E3 : Ext w4 v3 := (((E1).trans y2)).trans y3
                  refine ⟨E3, ?_⟩
                  refine wpAnyH_all (rs := [7]) (by kernel_rfl) (by simp) ?_
                  intro i hi
                  obtain rfl : i = 7 := by simpa using hi
                  unfold wpOp
                  go_simp
                  rw [← words_zero]
                  refine .inl ⟨(E3).alloc _, ?_⟩
                  have Q4 : WordsAt 112 (v3.alloc (.cells (wordsV zeroM) 112)) v3.heap.size zeroM := WordsAt.new _ _ zeroM len_zeroM zero_lt
                  have L4 : w4.heap.size ≤ v3.heap.size := Ext.size (E3)
                  obtain ⟨v4, hv4⟩ : ∃ v, v = v3.alloc (.cells (wordsV zeroM) 112) := ⟨_, rfl⟩
                  have y4 : Ext v3 v4 := by rw [hv4]; exact (Ext.refl _).alloc _
                  rw [← hv4] at Q4 ⊢
                  have HV4 := Lib.hid hv4; clear hv4
                  refine wpAnyH_all (rs := [8]) (by kernel_rfl) (by simp) ?_
                  intro i hi
                  obtain rfl : i = 8 := by simpa using hi
                  refine wpOp_store_words 112 sizeBm rfl rfl rfl (.tmp 8) (.tmp 38) rfl _ _ (mapL (natL is)) rfl rfl 112 (((((Q2).ext y3)).ext y4)) ?_
                  refine ⟨(((E3).trans y4)).setRow (L2) _, ?_⟩
                  refine wpAnyH_all (rs := [9]) (by kernel_rfl) (by simp) ?_
                  intro i hi
                  obtain rfl : i = 9 := by simpa using hi
                  refine wpOp_store_words 112 sizeBm rfl rfl rfl (.tmp 9) (.tmp 41) rfl _ _ (mapL (natL js)) rfl rfl 112 (((Q4).setRow_other ((Ne.symm (Nat.ne_of_lt ((((Q2).ext y3)).lt_size)))) _)) ?_
                  refine ⟨(((((E3).trans y4)).setRow (L2) _)).setRow (L4) _, ?_⟩
                  refine wpAnyH_done (by kernel_rfl) ?_ _
                  go_wp2_with fail
                  go_meet
                  exact ⟨_, _, rfl, rfl, (Nat.ne_of_lt ((((Q2).ext y3)).lt_size)), L2, L4, ((((((((Q2).ext y3)).ext y4)).setRow (len_mapL S1.out.lt4096) (map_lt _))).setRow_other ((Nat.ne_of_lt ((((Q2).ext y3)).lt_size))) _), ((((Q4).setRow_other ((Ne.symm (Nat.ne_of_lt ((((Q2).ext y3)).lt_size)))) _)).setRow (len_mapL S2.out.lt4096) (map_lt _)), ((((((E3).trans y4)).setRow (L2) _)).setRow (L4) _)⟩
                · unfold wpOp
                  go_simp
                  rw [← words_zero]
                  refine .inl ⟨(((E1).trans y2)).alloc _, ?_⟩
                  have Q3 : WordsAt 112 (v2.alloc (.cells (wordsV zeroM) 112)) v2.heap.size zeroM := WordsAt.new _ _ zeroM len_zeroM zero_lt
                  have L3 : w4.heap.size ≤ v2.heap.size := Ext.size (((E1).trans y2))
                  obtain ⟨v3, hv3⟩ : ∃ v, v = v2.alloc (.cells (wordsV zeroM) 112) := ⟨_, rfl⟩
                  have y3 : Ext v2 v3 := by rw [hv3]; exact (Ext.refl _).alloc _
                  rw [← hv3] at Q3 ⊢
                  have HV3 := Lib.hid hv3; clear hv3
                  refine wpAnyH_all (rs := [5]) (by kernel_rfl) (by simp) ?_
                  intro i hi
                  obtain rfl : i = 5 := by simpa using hi
                  unfold wpOp
                  go_simp
                  refine .inl ((mapOf_any (natL js) _ _ (by rw [N2.out]; exact C3.out.ext (Y4.out.trans (((((E1).trans y2)).trans y3)))) S2.out.lt4096).mono ?_)
                  rintro r v4 ⟨rfl, y4⟩
                  have E4 : Ext w4 v4 := (((((E1).trans y2)).trans y3)).trans y4
                  refine ⟨E4, ?_⟩
                  refine wpAnyH_all (rs := [8]) (by kernel_rfl) (by simp) ?_
                  intro i hi
                  obtain rfl : i = 8 := by simpa using hi
                  refine wpOp_store_words 112 sizeBm rfl rfl rfl (.tmp 8) (.tmp 38) rfl _ _ (mapL (natL is)) rfl rfl 112 (((((Q2).ext y3)).ext y4)) ?_
                  refine ⟨(E4).setRow (L2) _, ?_⟩
                  refine wpAnyH_all (rs := [9]) (by kernel_rfl) (by simp) ?_
                  intro i hi
                  obtain rfl : i = 9 := by simpa using hi
                  refine wpOp_store_words 112 sizeBm rfl rfl rfl (.tmp 9) (.tmp 41) rfl _ _ (mapL (natL js)) rfl rfl 112 (((((Q3).ext y4)).setRow_other ((Ne.symm (Nat.ne_of_lt ((Q2).lt_size)))) _)) ?_
                  refine ⟨(((E4).setRow (L2) _)).setRow (L3) _, ?_⟩
                  refine wpAnyH_done (by kernel_rfl) ?_ _
                  go_wp2_with fail
                  go_meet
                  exact ⟨_, _, rfl, rfl, (Nat.ne_of_lt ((Q2).lt_size)), L2, L3, ((((((((Q2).ext y3)).ext y4)).setRow (len_mapL S1.out.lt4096) (map_lt _))).setRow_other ((Nat.ne_of_lt ((Q2).lt_size))) _), ((((((Q3).ext y4)).setRow_other ((Ne.symm (Nat.ne_of_lt ((Q2).lt_size)))) _)).setRow (len_mapL S2.out.lt4096) (map_lt _)), ((((E4).setRow (L2) _)).setRow (L3) _)⟩
              · unfold wpOp
                go_simp
                rw [← words_zero]
                refine .inl ⟨(E1).alloc _, ?_⟩
                have Q2 : WordsAt 112 (v1.alloc (.cells (wordsV zeroM) 112)) v1.heap.size zeroM := WordsAt.new _ _ zeroM len_zeroM zero_lt
                have L2 : w4.heap.size ≤ v1.heap.size := Ext.size (E1)
                obtain ⟨v2, hv2⟩ : ∃ v, v = v1.alloc (.cells (wordsV zeroM) 112) := ⟨_, rfl⟩
                have y2 : Ext v1 v2 := by rw [hv2]; exact (Ext.refl _).alloc _
                rw [← hv2] at Q2 ⊢
                have HV2 := Lib.hid hv2; clear hv2
                refine wpAnyH_all (rs := [5, 6]) (by kernel_rfl) (by simp) ?_
                intro i hi
                have hi' : i = 5 ∨ i = 6 := by simpa using hi
                clear hi
                rcases hi' with rfl | rfl
                · unfold wpOp
                  go_simp
                  refine .inl ((mapOf_any (natL js) _ _ (by rw [N2.out]; exact C3.out.ext (Y4.out.trans (((E1).trans y2)))) S2.out.lt4096).mono ?_)
                  rintro r v3 ⟨rfl, y3⟩
                  have E3 : Ext w4 v3 := (((E1).trans y2)).trans y3
                  refine ⟨E3, ?_⟩
                  refine wpAnyH_all (rs := [6]) (by kernel_rfl) (by simp) ?_
                  intro i hi
                  obtain rfl : i = 6 := by simpa using hi
                  unfold wpOp
                  go_simp
                  rw [← words_zero]
                  refine .inl ⟨(E3).alloc _, ?_⟩
                  have Q4 : WordsAt 112 (v3.alloc (.cells (wordsV zeroM) 112)) v3.heap.size zeroM := WordsAt.new _ _ zeroM len_zeroM zero_lt
                  have L4 : w4.heap.size ≤ v3.heap.size := Ext.size (E3)
                  obtain ⟨v4, hv4⟩ : ∃ v, v = v3.alloc (.cells (wordsV zeroM) 112) := ⟨_, rfl⟩
                  have y4 : Ext v3 v4 := by rw [hv4]; exact (Ext.refl _).alloc _
                  rw [← hv4] at Q4 ⊢
                  have HV4 := Lib.hid hv4; clear hv4
                  refine wpAnyH_all (rs := [8]) (by kernel_rfl) (by simp) ?_
                  intro i hi
                  obtain rfl : i = 8 := by simpa using hi
                  refine wpOp_store_words 112 sizeBm rfl rfl rfl (.tmp 8) (.tmp 38) rfl _ _ (mapL (natL is)) rfl rfl 112 (Q4) ?_
                  refine ⟨(((E3).trans y4)).setRow (L4) _, ?_⟩
                  refine wpAnyH_all (rs := [9]) (by kernel_rfl) (by simp) ?_
                  intro i hi
                  obtain rfl : i = 9 := by simpa using hi
                  refine wpOp_store_words 112 sizeBm rfl rfl rfl (.tmp 9) (.tmp 41) rfl _ _ (mapL (natL js)) rfl rfl 112 (((((((Q2).ext y3)).ext y4)).setRow_other ((Ne.symm (Nat.ne_of_gt ((((Q2).ext y3)).lt_size)))) _)) ?_
                  refine ⟨(((((E3).trans y4)).setRow (L4) _)).setRow (L2) _, ?_⟩
                  refine wpAnyH_done (by kernel_rfl) ?_ _
                  go_wp2_with fail
                  go_meet
                  exact ⟨_, _, rfl, rfl, (Nat.ne_of_gt ((((Q2).ext y3)).lt_size)), L4, L2, ((((Q4).setRow (len_mapL S1.out.lt4096) (map_lt _))).setRow_other ((Nat.ne_of_gt ((((Q2).ext y3)).lt_size))) _), ((((((((Q2).ext y3)).ext y4)).setRow_other ((Ne.symm (Nat.ne_of_gt ((((Q2).ext y3)).lt_size)))) _)).setRow (len_mapL S2.out.lt4096) (map_lt _)), ((((((E3).trans y4)).setRow (L4) _)).setRow (L2) _)⟩
                · unfold wpOp
                  go_simp
                  rw [← words_zero]
                  refine .inl ⟨(((E1).trans y2)).alloc _, ?_⟩
                  have Q3 : WordsAt 112 (v2.alloc (.cells (wordsV zeroM) 112)) v2.heap.size zeroM := WordsAt.new _ _ zeroM len_zeroM zero_lt
                  have L3 : w4.heap.size ≤ v2.heap.size := Ext.size (((E1).trans y2))
                  obtain ⟨v3, hv3⟩ : ∃ v, v = v2.alloc (.cells (wordsV zeroM) 112) := ⟨_, rfl⟩
                  have y3 : Ext v2 v3 := by rw [hv3]; exact (Ext.refl _).alloc _
                  rw [← hv3] at Q3 ⊢
                  have HV3 := Lib.hid hv3; clear hv3
                  refine wpAnyH_all (rs := [5]) (by kernel_rfl) (by simp) ?_
                  intro i hi
                  obtain rfl : i = 5 := by simpa using hi
                  unfold wpOp
                  go_simp
                  refine .inl ((mapOf_any (natL js) _ _ (by rw [N2.out]; exact C3.out.ext (Y4.out.trans (((((E1).trans y2)).trans y3)))) S2.out.lt4096).mono ?_)
                  rintro r v4 ⟨rfl, y4⟩
                  have E4 : Ext w4 v4 := (((((E1).trans y2)).trans y3)).trans y4
                  refine ⟨E4, ?_⟩
                  refine wpAnyH_all (rs := [8]) (by kernel_rfl) (by simp) ?_
                  intro i hi
                  obtain rfl : i = 8 := by simpa using hi
                  refine wpOp_store_words 112 sizeBm rfl rfl rfl (.tmp 8) (.tmp 38) rfl _ _ (mapL (natL is)) rfl rfl 112 (((Q3).ext y4)) ?_
                  refine ⟨(E4).setRow (L3) _, ?_⟩
                  refine wpAnyH_all (rs := [9]) (by kernel_rfl) (by simp) ?_
                  intro i hi
                  obtain rfl : i = 9 := by simpa using hi
                  refine wpOp_store_words 112 sizeBm rfl rfl rfl (.tmp 9) (.tmp 41) rfl _ _ (mapL (natL js)) rfl rfl 112 (((((((Q2).ext y3)).ext y4)).setRow_other ((Ne.symm (Nat.ne_of_gt ((Q2).lt_size)))) _)) ?_
                  refine ⟨(((E4).setRow (L3) _)).setRow (L2) _, ?_⟩
                  refine wpAnyH_done (by kernel_rfl) ?_ _
                  go_wp2_with fail
                  go_meet
                  exact ⟨_, _, rfl, rfl, (Nat.ne_of_gt ((Q2).lt_size)), L3, L2, ((((((Q3).ext y4)).setRow (len_mapL S1.out.lt4096) (map_lt _))).setRow_other ((Nat.ne_of_gt ((Q2).lt_size))) _), ((((((((Q2).ext y3)).ext y4)).setRow_other ((Ne.symm (Nat.ne_of_gt ((Q2).lt_size)))) _)).setRow (len_mapL S2.out.lt4096) (map_lt _)), ((((E4).setRow (L3) _)).setRow (L2) _)⟩
            · unfold wpOp
              go_simp
              rw [← words_zero]
              refine .inl ⟨(E0).alloc _, ?_⟩
              have Q1 : WordsAt 112 (v0.alloc (.cells (wordsV zeroM) 112)) v0.heap.size zeroM := WordsAt.new _ _ zeroM len_zeroM zero_lt
              have L1 : w4.heap.size ≤ v0.heap.size := Ext.size (E0)
              obtain ⟨v1, hv1⟩ : ∃ v, v = v0.alloc (.cells (wordsV zeroM) 112) := ⟨_, rfl⟩
              have y1 : Ext v0 v1 := by rw [hv1]; exact (Ext.refl _).alloc _
              rw [← hv1] at Q1 ⊢
              have HV1 := Lib.hid hv1; clear hv1
              refine wpAnyH_all (rs := [2, 7]) (by kernel_rfl) (by simp) ?_
              intro i hi
              have hi' : i = 2 ∨ i = 7 := by simpa using hi
              clear hi
              rcases hi' with rfl | rfl
              · unfold wpOp
                go_simp
                refine .inl ((mapOf_any (natL is) _ _ (by rw [N1.out]; exact A3.out.ext (Y4.out.trans (((E0).trans y1)))) S1.out.lt4096).mono ?_)
                rintro r v2 ⟨rfl, y2⟩
                have E2 : Ext w4 v2 := (((E0).trans y1)).trans y2
                refine ⟨E2, ?_⟩
                refine wpAnyH_all (rs := [5, 7]) (by kernel_rfl) (by simp) ?_
                intro i hi
                have hi' : i = 5 ∨ i = 7 := by simpa using hi
                clear hi
                rcases hi' with rfl | rfl
                · unfold wpOp
                  go_simp
                  refine .inl ((mapOf_any (natL js) _ _ (by rw [N2.out]; exact C3.out.ext (Y4.out.trans (E2))) S2.out.lt4096).mono ?_)
                  rintro r v3 ⟨rfl, y3⟩
                  have E3 : Ext w4 v3 := (E2).trans y3
                  refine ⟨E3, ?_⟩
                  refine wpAnyH_all (rs := [7]) (by kernel_rfl) (by simp) ?_
                  intro i hi
                  obtain rfl : i = 7 := by simpa using hi
                  unfold wpOp
                  go_simp
                  rw [← words_zero]
                  refine .inl ⟨(E3).alloc _, ?_⟩
                  have Q4 : WordsAt 112 (v3.alloc (.cells (wordsV zeroM) 112)) v3.heap.size zeroM := WordsAt.new _ _ zeroM len_zeroM zero_lt
                  have L4 : w4.heap.size ≤ v3.heap.size := Ext.size (E3)
                  obtain ⟨v4, hv4⟩ : ∃ v, v = v3.alloc (.cells (wordsV zeroM) 112) := ⟨_, rfl⟩
                  have y4 : Ext v3 v4 := by rw [hv4]; exact (Ext.refl _).alloc _
                  rw [← hv4] at Q4 ⊢
                  have HV4 := Lib.hid hv4; clear hv4
                  refine wpAnyH_all (rs := [8]) (by kernel_rfl) (by simp) ?_
                  intro i hi
                  obtain rfl : i = 8 := by simpa using hi
                  refine wpOp_store_words 112 sizeBm rfl rfl rfl (.tmp 8) (.tmp 38) rfl _ _ (mapL (natL is)) rfl rfl 112 (((((((Q1).ext y2)).ext y3)).ext y4)) ?_
                  refine ⟨(((E3).trans y4)).setRow (L1) _, ?_⟩
                  refine wpAnyH_all (rs := [9]) (by kernel_rfl) (by simp) ?_
                  intro i hi
                  obtain rfl : i = 9 := by simpa using hi
                  refine wpOp_store_words 112 sizeBm rfl rfl rfl (.tmp 9) (.tmp 41) rfl _ _ (mapL (natL js)) rfl rfl 112 (((Q4).setRow_other ((Ne.symm (Nat.ne_of_lt ((((((Q1).ext y2)).ext y3)).lt_size)))) _)) ?_
                  refine ⟨(((((E3).trans y4)).setRow (L1) _)).setRow (L4) _, ?_⟩
                  refine wpAnyH_done (by kernel_rfl) ?_ _
                  go_wp2_with fail
                  go_meet
                  exact ⟨_, _, rfl, rfl, (Nat.ne_of_lt ((((((Q1).ext y2)).ext y3)).lt_size)), L1, L4, ((((((((((Q1).ext y2)).ext y3)).ext y4)).setRow (len_mapL S1.out.lt4096) (map_lt _))).setRow_other ((Nat.ne_of_lt ((((((Q1).ext y2)).ext y3)).lt_size))) _), ((((Q4).setRow_other ((Ne.symm (Nat.ne_of_lt ((((((Q1).ext y2)).ext y3)).lt_size)))) _)).setRow (len_mapL S2.out.lt4096) (map_lt _)), ((((((E3).trans y4)).setRow (L1) _)).setRow (L4) _)⟩
                · unfold wpOp
                  go_simp
                  rw [← words_zero]
                  refine .inl ⟨(E2).alloc _, ?_⟩
                  have Q3 : WordsAt 112 (v2.alloc (.cells (wordsV zeroM) 112)) v2.heap.size zeroM := WordsAt.new _ _ zeroM len_zeroM zero_lt
                  have L3 : w4.heap.size ≤ v2.heap.size := Ext.size (E2)
                  obtain ⟨v3, hv3⟩ : ∃ v, v = v2.alloc (.cells (wordsV zeroM) 112) := ⟨_, rfl⟩
                  have y3 : Ext v2 v3 := by rw [hv3]; exact (Ext.refl _).alloc _
                  rw [← hv3] at Q3 ⊢
                  have HV3 := Lib.hid hv3; clear hv3
                  refine wpAnyH_all (rs := [5]) (by kernel_rfl) (by simp) ?_
                  intro i hi
                  obtain rfl : i = 5 := by simpa using hi
                  unfold wpOp
                  go_simp
                  refine .inl ((mapOf_any (natL js) _ _ (by rw [N2.out]; exact C3.out.ext (Y4.out.trans (((E2).trans y3)))) S2.out.lt4096).mono ?_)
                  rintro r v4 ⟨rfl, y4⟩
                  have E4 : Ext w4 v4 := (((E2).trans y3)).trans y4
                  refine ⟨E4, ?_⟩
                  refine wpAnyH_all (rs := [8]) (by kernel_rfl) (by simp) ?_
                  intro i hi
                  obtain rfl : i = 8 := by simpa using hi
                  refine wpOp_store_words 112 sizeBm rfl rfl rfl (.tmp 8) (.tmp 38) rfl _ _ (mapL (natL is)) rfl rfl 112 (((((((Q1).ext y2)).ext y3)).ext y4)) ?_
                  refine ⟨(E4).setRow (L1) _, ?_⟩
                  refine wpAnyH_all (rs := [9]) (by kernel_rfl) (by simp) ?_
                  intro i hi
                  obtain rfl : i = 9 := by simpa using hi
                  refine wpOp_store_words 112 sizeBm rfl rfl rfl (.tmp 9) (.tmp 41) rfl _ _ (mapL (natL js)) rfl rfl 112 (((((Q3).ext y4)).setRow_other ((Ne.symm (Nat.ne_of_lt ((((Q1).ext y2)).lt_size)))) _)) ?_
                  refine ⟨(((E4).setRow (L1) _)).setRow (L3) _, ?_⟩
                  refine wpAnyH_done (by kernel_rfl) ?_ _
                  go_wp2_with fail
                  go_meet
                  exact ⟨_, _, rfl, rfl, (Nat.ne_of_lt ((((Q1).ext y2)).lt_size)), L1, L3, ((((((((((Q1).ext y2)).ext y3)).ext y4)).setRow (len_mapL S1.out.lt4096) (map_lt _))).setRow_other ((Nat.ne_of_lt ((((Q1).ext y2)).lt_size))) _), ((((((Q3).ext y4)).setRow_other ((Ne.symm (Nat.ne_of_lt ((((Q1).ext y2)).lt_size)))) _)).setRow (len_mapL S2.out.lt4096) (map_lt _)), ((((E4).setRow (L1) _)).setRow (L3) _)⟩
              · unfold wpOp
                go_simp
                rw [← words_zero]
                refine .inl ⟨(((E0).trans y1)).alloc _, ?_⟩
                have Q2 : WordsAt 112 (v1.alloc (.cells (wordsV zeroM) 112)) v1.heap.size zeroM := WordsAt.new _ _ zeroM len_zeroM zero_lt
                have L2 : w4.heap.size ≤ v1.heap.size := Ext.size (((E0).trans y1))
                obtain ⟨v2, hv2⟩ : ∃ v, v = v1.alloc (.cells (wordsV zeroM) 112) := ⟨_, rfl⟩
                have y2 : Ext v1 v2 := by rw [hv2]; exact (Ext.refl _).alloc _
                rw [← hv2] at Q2 ⊢
                have HV2 := Lib.hid hv2; clear hv2
                refine wpAnyH_all (rs := [2]) (by kernel_rfl) (by simp) ?_
                intro i hi
                obtain rfl : i = 2 := by simpa using hi
                unfold wpOp
                go_simp
                refine .inl ((mapOf_any (natL is) _ _ (by rw [N1.out]; exact A3.out.ext (Y4.out.trans (((((E0).trans y1)).trans y2)))) S1.out.lt4096).mono ?_)
                rintro r v3 ⟨rfl, y3⟩
                have E3 : Ext w4 v3 := (((((E0).trans y1)).trans y2)).trans y3
                refine ⟨E3, ?_⟩
                refine wpAnyH_all (rs := [5]) (by kernel_rfl) (by simp) ?_
                intro i hi
                obtain rfl : i = 5 := by simpa using hi
                unfold wpOp
                go_simp
                refine .inl ((mapOf_any (natL js) _ _ (by rw [N2.out]; exact C3.out.ext (Y4.out.trans (E3))) S2.out.lt4096).mono ?_)
                rintro r v4 ⟨rfl, y4⟩
                have E4 : Ext w4 v4 := (E3).trans y4
                refine ⟨E4, ?_⟩
                refine wpAnyH_all (rs := [8]) (by kernel_rfl) (by simp) ?_
                intro i hi
                obtain rfl : i = 8 := by simpa using hi
                refine wpOp_store_words 112 sizeBm rfl rfl rfl (.tmp 8) (.tmp 38) rfl _ _ (mapL (natL is)) rfl rfl 112 (((((((Q1).ext y2)).ext y3)).ext y4)) ?_
                refine ⟨(E4).setRow (L1) _, ?_⟩
                refine wpAnyH_all (rs := [9]) (by kernel_rfl) (by simp) ?_
                intro i hi
                obtain rfl : i = 9 := by simpa using hi
                refine wpOp_store_words 112 sizeBm rfl rfl rfl (.tmp 9) (.tmp 41) rfl _ _ (mapL (natL js)) rfl rfl 112 (((((((Q2).ext y3)).ext y4)).setRow_other ((Ne.symm (Nat.ne_of_lt ((Q1).lt_size)))) _)) ?_
                refine ⟨(((E4).setRow (L1) _)).setRow (L2) _, ?_⟩
                refine wpAnyH_done (by kernel_rfl) ?_ _
                go_wp2_with fail
                go_meet
                exact ⟨_, _, rfl, rfl, (Nat.ne_of_lt ((Q1).lt_size)), L1, L2, ((((((((((Q1).ext y2)).ext y3)).ext y4)).setRow (len_mapL S1.out.lt4096) (map_lt _))).setRow_other ((Nat.ne_of_lt ((Q1).lt_size))) _), ((((((((Q2).ext y3)).ext y4)).setRow_other ((Ne.symm (Nat.ne_of_lt ((Q1).lt_size)))) _)).setRow (len_mapL S2.out.lt4096) (map_lt _)), ((((E4).setRow (L1) _)).setRow (L2) _)⟩
            · unfold wpOp
              go_simp
              rw [← words_zero]
              refine .inl ⟨(E0).alloc _, ?_⟩
              have Q1 : WordsAt 112 (v0.alloc (.cells (wordsV zeroM) 112)) v0.heap.size zeroM := WordsAt.new _ _ zeroM len_zeroM zero_lt
              have L1 : w4.heap.size ≤ v0.heap.size := Ext.size (E0)
              obtain ⟨v1, hv1⟩ : ∃ v, v = v0.alloc (.cells (wordsV zeroM) 112) := ⟨_, rfl⟩
              have y1 : Ext v0 v1 := by rw [hv1]; exact (Ext.refl _).alloc _
              rw [← hv1] at Q1 ⊢
              have HV1 := Lib.hid hv1; clear hv1
              refine wpAnyH_all (rs := [2, 6]) (by kernel_rfl) (by simp) ?_
              intro i hi
              have hi' : i = 2 ∨ i = 6 := by simpa using hi
              clear hi
              rcases hi' with rfl | rfl
              · unfold wpOp
                go_simp
                refine .inl ((mapOf_any (natL is) _ _ (by rw [N1.out]; exact A3.out.ext (Y4.out.trans (((E0).trans y1)))) S1.out.lt4096).mono ?_)
                rintro r v2 ⟨rfl, y2⟩
                have E2 : Ext w4 v2 := (((E0).trans y1)).trans y2
                refine ⟨E2, ?_⟩
                refine wpAnyH_all (rs := [5, 6]) (by kernel_rfl) (by simp) ?_
                intro i hi
                have hi' : i = 5 ∨ i = 6 := by simpa using hi
                clear hi
                rcases hi' with rfl | rfl
                · unfold wpOp
                  go_simp
                  refine .inl ((mapOf_any (natL js) _ _ (by rw [N2.out]; exact C3.out.ext (Y4.out.trans (E2))) S2.out.lt4096).mono ?_)
                  rintro r v3 ⟨rfl, y3⟩
                  have E3 : Ext w4 v3 := (E2).trans y3
                  refine ⟨E3, ?_⟩
                  refine wpAnyH_all (rs := [6]) (by kernel_rfl) (by simp) ?_
                  intro i hi
                  obtain rfl : i = 6 := by simpa using hi
                  unfold wpOp
                  go_simp
                  rw [← words_zero]
                  refine .inl ⟨(E3).alloc _, ?_⟩
                  have Q4 : WordsAt 112 (v3.alloc (.cells (wordsV zeroM) 112)) v3.heap.size zeroM := WordsAt.new _ _ zeroM len_zeroM zero_lt
                  have L4 : w4.heap.size ≤ v3.heap.size := Ext.size (E3)
                  obtain ⟨v4, hv4⟩ : ∃ v, v = v3.alloc (.cells (wordsV zeroM) 112) := ⟨_, rfl⟩
                  have y4 : Ext v3 v4 := by rw [hv4]; exact (Ext.refl _).alloc _
                  rw [← hv4] at Q4 ⊢
                  have HV4 := Lib.hid hv4; clear hv4
                  refine wpAnyH_all (rs := [8]) (by kernel_rfl) (by simp) ?_
                  intro i hi
                  obtain rfl : i = 8 := by simpa using hi
                  refine wpOp_store_words 112 sizeBm rfl rfl rfl (.tmp 8) (.tmp 38) rfl _ _ (mapL (natL is)) rfl rfl 112 (Q4) ?_
                  refine ⟨(((E3).trans y4)).setRow (L4) _, ?_⟩
                  refine wpAnyH_all (rs := [9]) (by kernel_rfl) (by simp) ?_
                  intro i hi
                  obtain rfl : i = 9 := by simpa using hi
                  refine wpOp_store_words 112 sizeBm rfl rfl rfl (.tmp 9) (.tmp 41) rfl _ _ (mapL (natL js)) rfl rfl 112 (((((((((Q1).ext y2)).ext y3)).ext y4)).setRow_other ((Ne.symm (Nat.ne_of_gt ((((((Q1).ext y2)).ext y3)).lt_size)))) _)) ?_
                  refine ⟨(((((E3).trans y4)).setRow (L4) _)).setRow (L1) _, ?_⟩
                  refine wpAnyH_done (by kernel_rfl) ?_ _
                  go_wp2_with fail
                  go_meet
                  exact ⟨_, _, rfl, rfl, (Nat.ne_of_gt ((((((Q1).ext y2)).ext y3)).lt_size)), L4, L1, ((((Q4).setRow (len_mapL S1.out.lt4096) (map_lt _))).setRow_other ((Nat.ne_of_gt ((((((Q1).ext y2)).ext y3)).lt_size))) _), ((((((((((Q1).ext y2)).ext y3)).ext y4)).setRow_other ((Ne.symm (Nat.ne_of_gt ((((((Q1).ext y2)).ext y3)).lt_size)))) _)).setRow (len_mapL S2.out.lt4096) (map_lt _)), ((((((E3).trans y4)).setRow (L4) _)).setRow (L1) _)⟩
                · unfold wpOp
                  go_simp
                  rw [← words_zero]
                  refine .inl ⟨(E2).alloc _, ?_⟩
                  have Q3 : WordsAt 112 (v2.alloc (.cells (wordsV zeroM) 112)) v2.heap.size zeroM := WordsAt.new _ _ zeroM len_zeroM zero_lt
                  have L3 : w4.heap.size ≤ v2.heap.size := Ext.size (E2)
                  obtain ⟨v3, hv3⟩ : ∃ v, v = v2.alloc (.cells (wordsV zeroM) 112) := ⟨_, rfl⟩
                  have y3 : Ext v2 v3 := by rw [hv3]; exact (Ext.refl _).alloc _
                  rw [← hv3] at Q3 ⊢
                  have HV3 := Lib.hid hv3; clear hv3
                  refine wpAnyH_all (rs := [5]) (by kernel_rfl) (by simp) ?_
                  intro i hi
                  obtain rfl : i = 5 := by simpa using hi
                  unfold wpOp
                  go_simp
                  refine .inl ((mapOf_any (natL js) _ _ (by rw [N2.out]; exact C3.out.ext (Y4.out.trans (((E2).trans y3)))) S2.out.lt4096).mono ?_)
                  rintro r v4 ⟨rfl, y4⟩
                  have E4 : Ext w4 v4 := (((E2).trans y3)).trans y4
                  refine ⟨E4, ?_⟩
                  refine wpAnyH_all (rs := [8]) (by kernel_rfl) (by simp) ?_
                  intro i hi
                  obtain rfl : i = 8 := by simpa using hi
                  refine wpOp_store_words 112 sizeBm rfl rfl rfl (.tmp 8) (.tmp 38) rfl _ _ (mapL (natL is)) rfl rfl 112 (((Q3).ext y4)) ?_
                  refine ⟨(E4).setRow (L3) _, ?_⟩
                  refine wpAnyH_all (rs := [9]) (by kernel_rfl) (by simp) ?_
                  intro i hi
                  obtain rfl : i = 9 := by simpa using hi
                  refine wpOp_store_words 112 sizeBm rfl rfl rfl (.tmp 9) (.tmp 41) rfl _ _ (mapL (natL js)) rfl rfl 112 (((((((((Q1).ext y2)).ext y3)).ext y4)).setRow_other ((Ne.symm (Nat.ne_of_gt ((((Q1).ext y2)).lt_size)))) _)) ?_
                  refine ⟨(((E4).setRow (L3) _)).setRow (L1) _, ?_⟩
                  refine wpAnyH_done (by kernel_rfl) ?_ _
                  go_wp2_with fail
                  go_meet
                  exact ⟨_, _, rfl, rfl, (Nat.ne_of_gt ((((Q1).ext y2)).lt_size)), L3, L1, ((((((Q3).ext y4)).setRow (len_mapL S1.out.lt4096) (map_lt _))).setRow_other ((Nat.ne_of_gt ((((Q1).ext y2)).lt_size))) _), ((((((((((Q1).ext y2)).ext y3)).ext y4)).setRow_other ((Ne.symm (Nat.ne_of_gt ((((Q1).ext y2)).lt_size)))) _)).setRow (len_mapL S2.out.lt4096) (map_lt _)), ((((E4).setRow (L3) _)).setRow (L1) _)⟩
              · unfold wpOp
                go_simp
                rw [← words_zero]
                refine .inl ⟨(((E0).trans y1)).alloc _, ?_⟩
                have Q2 : WordsAt 112 (v1.alloc (.cells (wordsV zeroM) 112)) v1.heap.size zeroM := WordsAt.new _ _ zeroM len_zeroM zero_lt
                have L2 : w4.heap.size ≤ v1.heap.size := Ext.size (((E0).trans y1))
                obtain ⟨v2, hv2⟩ : ∃ v, v = v1.alloc (.cells (wordsV zeroM) 112) := ⟨_, rfl⟩
                have y2 : Ext v1 v2 := by rw [hv2]; exact (Ext.refl _).alloc _
                rw [← hv2] at Q2 ⊢
                have HV2 := Lib.hid hv2; clear hv2
                refine wpAnyH_all (rs := [2]) (by kernel_rfl) (by simp) ?_
                intro i hi
                obtain rfl : i = 2 := by simpa using hi
                unfold wpOp
                go_simp
                refine .inl ((mapOf_any (natL is) _ _ (by rw [N1.out]; exact A3.out.ext (Y4.out.trans (((((E0).trans y1)).trans y2)))) S1.out.lt4096).mono ?_)
                rintro r v3 ⟨rfl, y3⟩
                have E3 : Ext w4 v3 := (((((E0).trans y1)).trans y2)).trans y3
                refine ⟨E3, ?_⟩
                refine wpAnyH_all (rs := [5]) (by kernel_rfl) (by simp) ?_
                intro i hi
                obtain rfl : i = 5 := by simpa using hi
                unfold wpOp
                go_simp
                refine .inl ((mapOf_any (natL js) _ _ (by rw [N2.out]; exact C3.out.ext (Y4.out.trans (E3))) S2.out.lt4096).mono ?_)
                rintro r v4 ⟨rfl, y4⟩
                have E4 : Ext w4 v4 := (E3).trans y4
                refine ⟨E4, ?_⟩
                refine wpAnyH_all (rs := [8]) (by kernel_rfl) (by simp) ?_
                intro i hi
                obtain rfl : i = 8 := by simpa using hi
                refine wpOp_store_words 112 sizeBm rfl rfl rfl (.tmp 8) (.tmp 38) rfl _ _ (mapL (natL is)) rfl rfl 112 (((((Q2).ext y3)).ext y4)) ?_
                refine ⟨(E4).setRow (L2) _, ?_⟩
                refine wpAnyH_all (rs := [9]) (by kernel_rfl) (by simp) ?_
                intro i hi
                obtain rfl : i = 9 := by simpa using hi
                refine wpOp_store_words 112 sizeBm rfl rfl rfl (.tmp 9) (.tmp 41) rfl _ _ (mapL (natL js)) rfl rfl 112 (((((((((Q1).ext y2)).ext y3)).ext y4)).setRow_other ((Ne.symm (Nat.ne_of_gt ((Q1).lt_size)))) _)) ?_
                refine ⟨(((E4).setRow (L2) _)).setRow (L1) _, ?_⟩
                refine wpAnyH_done (by kernel_rfl) ?_ _
                go_wp2_with fail
                go_meet
                exact ⟨_, _, rfl, rfl, (Nat.ne_of_gt ((Q1).lt_size)), L2, L1, ((((((((Q2).ext y3)).ext y4)).setRow (len_mapL S1.out.lt4096) (map_lt _))).setRow_other ((Nat.ne_of_gt ((Q1).lt_size))) _), ((((((((((Q1).ext y2)).ext y3)).ext y4)).setRow_other ((Ne.symm (Nat.ne_of_gt ((Q1).lt_size)))) _)).setRow (len_mapL S2.out.lt4096) (map_lt _)), ((((E4).setRow (L2) _)).setRow (L1) _)⟩
          case rest =>
            obtain ⟨b8, b9, rfl, rfl, hne, l8, l9, hM8, hM9, hV⟩ := hcut
            have M8 := Lib.hid hM8; have M9 := Lib.hid hM9; have HV := Lib.hid hV; have NE := Lib.hid hne
            clear hM8 hM9 hV hne
            generalize hA : mapL (natL is) = A at *
            generalize hB : mapL (natL js) = B at *
            have HCL : Hid (combL g is js = castL (listM (zipM g A B))) := by unfold Hid combL; rw [hA, hB]
            clear hA hB
            have HT5 := Lib.hid (HT.out.ext (Y4.out.trans HV.out))
            generalize wc = w5 at *
            go_wp2_with fail
            go_loopw [42] (fun i wr => ∃ k : Nat, k ≤ 64 ∧ i = .int .i64 k ∧ Ext w4 wr ∧ WordsAt 112 wr b8 (zipTo g A B k) ∧ WordsAt 112 wr b9 B) (fun i _ => 64 - (intOf i).toNat)
            case atStart => exact ⟨0, Nat.zero_le _, rfl, HV.out, by rw [zipTo_zero g B M8.out.len]; exact M8.out, M9.out⟩
            case round =>
              obtain ⟨k, hk, rfl, hX, hP, hO⟩ := hrel
              have HX5 := Lib.hid hX; have HP := Lib.hid hP; have HO := Lib.hid hO; clear hX hP hO
              by_cases hlt : k < 64
              · have c8 := HP.out.cell hlt
                have c9 := HO.out.cell hlt
                have f8 := HP.out.frozen k
                have hrow := row_zipTo g A B k hlt
                rw [if_neg (Nat.lt_irrefl k)] at hrow
                rw [hrow] at c8
                have HSET := Lib.hid (zipTo_set g A B hlt)
                have LA : Hid (rowM A k < 18446744073709551616) := by have := HP.out.lt k; rw [hrow] at this; exact this
                have LB := Lib.hid (HO.out.lt k)
                have i0 : (0 : Int) ≤ (k : Int) := by omega
                have i1 : (k : Int) < 64 := by omega
                clear hrow
                generalize rowM A k = x at *
                generalize rowM B k = y at *
                go_upto_region 7 with fail
                go_still_tail 10, (by kernel_rfl)
                refine wpStill_step ?_
                intro KK hKK
                have cf := HK.out.2.1 #[.int .u64 x, .int .u64 y]
                go_simp
                clear cf
                refine ⟨.int .u64 (g x y), HK.out.2.2 x y _ LA.out LB.out, hKK _ ?_⟩
                clear hKK KK
                repeat still_step
                refine wpStill_nil ?_
                have hLG : g x y < 18446744073709551616 := HK.out.1 x y LA.out LB.out
                have P1 := Lib.hid (HP.out.set hlt hLG)
                have O1 := Lib.hid (HO.out.other (p := ⟨b8, k, none⟩) (Ne.symm NE.out) (.int .u64 (g x y)))
                have X1 := Lib.hid (HX5.out.setCell (p := ⟨b8, k, none⟩) l8 (.int .u64 (g x y)))
                clear hLG
                go_wp2_with fail
                exact ⟨⟨k + 1, by omega, by go_num, X1.out.drew, by rw [← HSET.out]; exact P1.out.drewN 1, O1.out.drewN 1⟩, by simp [intOf]; omega⟩
              · obtain rfl : k = 64 := by omega
                rw [zipTo_all] at HP
                have p05 := HX5.out.cell p04; have p15 := HX5.out.cell p14
                have T5 := Lib.hid (HT.out.ext (Y4.out.trans HX5.out))
                have A1' := Lib.hid (A1.out.ext (Y4.out.trans HX5.out)); have A2' := Lib.hid (A2.out.ext (Y4.out.trans HX5.out))
                go_upto_region 9 with fail
                have HS0 : Hid (Two w (.slice ca cs.length cc) (.slice wa ws.length wcp) wr) := ⟨E4.out.trans HX5.out, p05, p15⟩
                refine wp_region_held (S := Two w (.slice ca cs.length cc) (.slice wa ws.length wcp)) (by kernel_rfl) ?_
                refine wpAnyH_take (i := 0) (v := .pointer (some ⟨w.heap.size, 0, none⟩)) rfl (by kernel_rfl) (by kernel_rfl) (by kernel_rfl) (fun _ _ _ h => h) (.inl ⟨rfl, fun w' hx' => by go_simp⟩) (HS0.out.ext (Ext.refl wr).drew) ?_
                refine wpAnyH_take (i := 1) (v := .slice ca cs.length cc) rfl (by kernel_rfl) (by kernel_rfl) (by kernel_rfl) (fun _ _ _ h => h) (.inl ⟨rfl, fun w' hx' => by have c0 := hx'.2.1; go_simp⟩) (HS0.out.ext (Ext.refl wr).drew) ?_
                refine wpAnyH_take (i := 2) (v := .pointer (some ⟨w.heap.size, 1, none⟩)) rfl (by kernel_rfl) (by kernel_rfl) (by kernel_rfl) (fun _ _ _ h => h) (.inl ⟨rfl, fun w' hx' => by go_simp⟩) (HS0.out.ext (Ext.refl wr).drew) ?_
                refine wpAnyH_take (i := 3) (v := .slice wa ws.length wcp) rfl (by kernel_rfl) (by kernel_rfl) (by kernel_rfl) (fun _ _ _ h => h) (.inl ⟨rfl, fun w' hx' => by have c0 := hx'.2.2; go_simp⟩) (HS0.out.ext (Ext.refl wr).drew) ?_
                refine wpAnyH_all (rs := [4]) (by kernel_rfl) (by simp) ?_
                intro i hi
                obtain rfl : i = 4 := by simpa using hi
                unfold wpOp
                go_simp
                refine .inl ((list_any (zipM g A B) b8 _ (HP.out.drewN 1) (T5.out.ext (Ext.refl wr).drew)).mono ?_)
                rintro r v1 ⟨u1, rfl, o1, y1⟩
                obtain ⟨la, lc, rfl⟩ := o1.ints.shape
                have E1 : Ext wr v1 := (Ext.refl wr).drew.trans y1
                refine ⟨HS0.out.ext E1, ?_⟩
                refine wpAnyH_all (rs := [5]) (by kernel_rfl) (by simp) ?_
                intro i hi
                obtain rfl : i = 5 := by simpa using hi
                unfold wpOp
                go_simp
                obtain ⟨hsh, hwd, _, _⟩ := small_sum S1.out.small
                refine .inl ((set_any cs ws (castL (listM (zipM g A B))) _ _ _ _ (A1'.out.ext E1) (A2'.out.ext E1) o1.ints (by have := (shape_iff.1 hsh).1; have := hwd.1; omega) (by have := hwd.1; omega)).mono ?_)
                rintro r v2 ⟨u2, u3, rfl, hS1, hS2, _, y2⟩
                obtain ⟨sa, sb, rfl⟩ := hS1.ints.shape
                obtain ⟨sc, sd, rfl⟩ := hS2.ints.shape
                have hz1 := y1.size
                have hz2 : wr.heap.size ≤ v1.heap.size := E1.size
                have E2 : Ext wr v2 := E1.trans y2
                refine ⟨HS0.out.ext E2, ?_⟩
                have hR := (Y4.out.trans (HX5.out.trans E2)).block (w.heap.size + 2) (by have := HZ.out; omega)
                rw [B3.out] at hR
                obtain ⟨z0, z1, z2, f0, f1, f2⟩ := block3 hR
                have HR := Lib.hid (put3_new (x := .slice sa cs.length sb) (y := .slice sc ws.length sd) (z := .slice la (castL (listM (zipM g A B))).length lc) hR)
                have hb2 : w.heap.size + 2 < wr.heap.size := by have := HZ4.out; have := HX5.out.size; omega
                refine wpAnyH_all (rs := [6]) (by kernel_rfl) (by simp) ?_
                intro i hi
                obtain rfl : i = 6 := by simpa using hi
                unfold wpOp
                go_simp
                refine .inl ⟨(HS0.out.ext E2).put3 (b := w.heap.size + 1 + 1) (by omega) _ _ _, ?_⟩
                refine wpAnyH_all (rs := [7]) (by kernel_rfl) (by simp) ?_
                intro i hi
                obtain rfl : i = 7 := by simpa using hi
                unfold wpOp
                go_simp
                refine .inl ⟨(HS0.out.ext E2).put3 (b := w.heap.size + 1 + 1) (by omega) _ _ _, ?_⟩
                have HFIN : Hid (CombPost g cs ws is cs2 ws2 js w (.returned (.tuple #[.agg #[.slice sa cs.length sb, .slice sc ws.length sd, .slice la (castL (listM (zipM g A B))).length lc], .int .i64 0])) (put3 v2 (w.heap.size + 2) (.slice sa cs.length sb) (.slice sc ws.length sd) (.slice la (castL (listM (zipM g A B))).length lc))) := by
                  unfold Hid CombPost
                  rw [HF.out, HCL.out]
                  exact ⟨_, rfl, ⟨_, _, _, rfl, (hS1.put3 (by omega) _ _ _).mono (by omega), (hS2.put3 (by omega) _ _ _).mono (by omega), (((o1.kept y2).mono (base' := wr.heap.size) (Nat.le_refl _)).put3 (by omega) _ _ _).mono (by omega)⟩, ((HS0.out.ext E2).1).put3 (by omega) _ _ _⟩
                clear hS1 hS2 y1 y2 E1 E2 o1 hR hsh hwd hz1 hz2
                refine wpAnyH_done (by kernel_rfl) ?_ _
                go_wp2_with fail
                exact bodyPost_ret (v := .tuple #[.agg #[.slice sa cs.length sb, .slice sc ws.length sd, .slice la (castL (listM (zipM g A B))).length lc], .int .i64 0]) (results_row_tmp Tryz.results108 _ _ (w.heap.size + 2) 31 _ (0, 0) _ rfl HR.out Tryz.underlying31 rfl sizeSet) rfl HFIN.out
end Go.Proofs.YtlnahhlddekhoaaGreatDoor
namespace Go.Proofs.YtlnahhlddekhoaaGreatDoor
open Go.RowKit

theorem CombPost.res {g : Nat → Nat → Nat} {cs ws is cs2 ws2 js : List Int} {w : World} {r : Ending} {w' : World} (h : CombPost g cs ws is cs2 ws2 js w r w') : ∃ e C D I, SetRes e C D I w r w' ∧ ∀ w0 r2 w2, SetRes e C D I w0 r2 w2 → CombPost g cs ws is cs2 ws2 js w0 r2 w2 := by
  unfold CombPost at *
  cases hc : combB cs ws is cs2 ws2 js with
  | true => rw [hc] at h; exact ⟨_, _, _, _, h, fun _ _ _ h => h⟩
  | false => rw [hc] at h; exact ⟨_, _, _, _, h, fun _ _ _ h => h⟩
theorem and_word : WordFn 109 (· &&& ·) := by
  refine ⟨fun x y hx hy => Nat.and_lt_two_pow (n := 64) x hy, fun args w => by go_simp, fun x y w hx hy => ?_⟩
  have HB := Lib.hid (u64_and hx hy)
  go_enter Tryz.func109, Tryz.ntmps109
  go_wp2_with fail
  go_ret
  exact ⟨by rw [HB.out]; rfl, rfl⟩

set_option maxHeartbeats 1000000 in
theorem Meet_any (cs ws is cs2 ws2 js : List Int) (va vb : Value) (w : World) (ha : SetV w va cs ws is) (hb : SetV w vb cs2 ws2 js) (hT : DeB w) : Calls Tryz.prog 94 #[va, vb] w (CombPost (· &&& ·) cs ws is cs2 ws2 js w) := by
  obtain ⟨ca, cc, wa, wcp, ia, ic, rfl, a1, a2, a3⟩ := ha.shape
  obtain ⟨ca2, cc2, wa2, wc2, ia2, ic2, rfl, b1, b2, b3⟩ := hb.shape
  obtain ⟨W, hW⟩ : ∃ W, W = ((w.alloc (.cells #[.slice ca cs.length cc, .slice wa ws.length wcp, .slice ia is.length ic] 31)).alloc (.cells #[.slice ca2 cs2.length cc2, .slice wa2 ws2.length wc2, .slice ia2 js.length ic2] 31)).alloc (.cells #[.slice none 0 0, .slice none 0 0, .slice none 0 0] 31) := ⟨_, rfl⟩
  have hx : Ext w W := by rw [hW]; exact (((Ext.refl w).alloc _).alloc _).alloc _
  have hz : W.heap.size = w.heap.size + 3 := by rw [hW]; simp
  have hB1 : W.heap[w.heap.size]? = some (.cells #[.slice ca cs.length cc, .slice wa ws.length wcp, .slice ia is.length ic] 31 (0, 0)) := by
    rw [hW, heap_alloc_old _ _ (by simp; omega), heap_alloc_old _ _ (by simp)]; exact heap_new _ _
  have hB2 : W.heap[w.heap.size + 1]? = some (.cells #[.slice ca2 cs2.length cc2, .slice wa2 ws2.length wc2, .slice ia2 js.length ic2] 31 (0, 0)) := by
    rw [hW, heap_alloc_old _ _ (by simp)]
    have := heap_new (w.alloc (.cells #[.slice ca cs.length cc, .slice wa ws.length wcp, .slice ia is.length ic] 31)) (.cells #[.slice ca2 cs2.length cc2, .slice wa2 ws2.length wc2, .slice ia2 js.length ic2] 31)
    rw [World.size_alloc] at this; exact this
  have hB3 : W.heap[w.heap.size + 2]? = some (.cells #[.slice none 0 0, .slice none 0 0, .slice none 0 0] 31 (0, 0)) := by
    rw [hW]
    have := heap_new ((w.alloc (.cells #[.slice ca cs.length cc, .slice wa ws.length wcp, .slice ia is.length ic] 31)).alloc (.cells #[.slice ca2 cs2.length cc2, .slice wa2 ws2.length wc2, .slice ia2 js.length ic2] 31)) (.cells #[.slice none 0 0, .slice none 0 0, .slice none 0 0] 31)
    rw [World.size_alloc, World.size_alloc] at this; exact this
  have HA := Lib.hid (ha.ext hx); have HB := Lib.hid (hb.ext hx)
  have HX := Lib.hid hx; have HZ := Lib.hid hz; have HW := Lib.hid hW; have B3 := Lib.hid hB3; have HT := Lib.hid (hT.ext hx)
  obtain ⟨p0, p1, p2⟩ := cells3 hB1
  obtain ⟨q0, q1, q2⟩ := cells3 hB2
  clear ha hb a1 a2 a3 b1 b2 b3 hx hz hW hB1 hB2 hB3 hT
  go_enter Tryz.func94, Tryz.ntmps94
  go_upto_region 1 with fail
  rw [← HW.out]
  go_wp2_with fail
  refine (combine_any 109 (· &&& ·) and_word cs ws is cs2 ws2 js _ _ _ HA.out HB.out HT.out).mono ?_
  intro r w1 h1
  obtain ⟨e, C, D, I, ⟨v, rfl, hv, x1⟩, hback⟩ := h1.res
  obtain ⟨sa, sb, sc, sd, se, sf, rfl⟩ := hv.shape
  clear h1
  have hR := x1.block (w.heap.size + 2) (by have := HZ.out; omega)
  rw [B3.out] at hR
  obtain ⟨z0, z1, z2, f0, f1, f2⟩ := block3 hR
  have HR := Lib.hid (put3_new (x := .slice sa C.length sb) (y := .slice sc D.length sd) (z := .slice se I.length sf) hR)
  have HF : Hid (CombPost (· &&& ·) cs ws is cs2 ws2 js w (.returned (.tuple #[.agg #[.slice sa C.length sb, .slice sc D.length sd, .slice se I.length sf], .int .i64 e])) (put3 w1 (w.heap.size + 2) (.slice sa C.length sb) (.slice sc D.length sd) (.slice se I.length sf))) := by
    have hz := HZ.out
    exact hback _ _ _ ⟨_, rfl, (hv.put3 (by omega) _ _ _).mono (by omega), (HX.out.trans x1).put3 (by omega) _ _ _⟩
  clear hR hback hv x1
  go_wp2_with fail
  exact bodyPost_ret (v := .tuple #[.agg #[.slice sa C.length sb, .slice sc D.length sd, .slice se I.length sf], .int .i64 e]) (results_row_tmp Tryz.results94 _ _ (w.heap.size + 2) 31 _ (0, 0) _ rfl HR.out Tryz.underlying31 rfl sizeSet) rfl HF.out


end Go.Proofs.YtlnahhlddekhoaaGreatDoor
