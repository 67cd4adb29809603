/-
  The walk of Support.
  The walk of states.Of. Printed by gen_of.py out of XOf3.src.
  The numbers of states, digit by digit; expressions at states that agree on the leaves.
-/
import Derived.Test.YtlcgbdjmlnjhcaaGreatDoorG09
import Derived.Test.YtlcgbdjmlnjhcaaGreatDoorG05
import Derived.Test.YtlcgbdjmlnjhcaaGreatDoorG06
import Derived.Test.YtlcgbdjmlnjhcaaGreatDoorG08
namespace Go.Proofs.YtlcgbdjmlnjhcaaGreatDoor
open Go.RowKit

/-- The block A is a variable of type [32]bool that holds f. -/
def BoolsAt (w : World) (A : Nat) (f : Nat → Bool) : Prop := w.heap[A]? = some (.cells (bools f) 124 (0, 0))
theorem BoolsAt.cell {w : World} {A : Nat} {f : Nat → Bool} (h : BoolsAt w A f) (n : Nat) (hn : n < 32) : w.cell? ⟨A, n, none⟩ = some (.bool (f n)) := by
  unfold BoolsAt at h
  simp [World.cell?, h, bools_get f n hn]
theorem BoolsAt.frozen {w : World} {A : Nat} {f : Nat → Bool} (h : BoolsAt w A f) (n : Nat) : w.frozen? ⟨A, n, none⟩ = false := by
  unfold BoolsAt at h
  simp [World.frozen?, h]
theorem BoolsAt.lt {w : World} {A : Nat} {f : Nat → Bool} (h : BoolsAt w A f) : A < w.heap.size := by
  rcases Nat.lt_or_ge A w.heap.size with h' | h'
  · exact h'
  · unfold BoolsAt at h; rw [Array.getElem?_eq_none_iff.2 h'] at h; cases h
theorem BoolsAt.set {w : World} {A : Nat} {f : Nat → Bool} (h : BoolsAt w A f) (n : Nat) : BoolsAt (w.setCell ⟨A, n, none⟩ (.bool true)) A (fun j => f j || decide (j = n)) := by
  unfold BoolsAt at h ⊢
  simp only [World.setCell, Array.getElem?_modify, if_true, h, Option.map_some]
  have e : (bools f).setIfInBounds n (.bool true) = bools (fun j => f j || decide (j = n)) := by
    apply Array.ext
    · simp [bools_size]
    · intro i h1 h2
      have hi : i < 32 := by simpa [bools_size] using h1
      rw [Array.getElem_setIfInBounds (by simpa [bools_size] using hi)]
      have g1 := bools_get f i hi
      have g2 := bools_get (fun j => f j || decide (j = n)) i hi
      rw [Array.getElem?_eq_getElem (by simpa [bools_size] using hi)] at g1 g2
      simp only [Option.some.injEq] at g1 g2
      rw [g2, g1]
      by_cases c : n = i
      · simp [c]
      · rw [if_neg c]; simp [show ¬ i = n from fun h => c h.symm]
  simp [e]
theorem BoolsAt.other {w : World} {A B n : Nat} {f : Nat → Bool} {v : Value} (h : BoolsAt w A f) (hAB : A ≠ B) : BoolsAt (w.setCell ⟨B, n, none⟩ v) A f := by
  unfold BoolsAt at h ⊢
  rw [Below.heap_setCell _ _ _ _ hAB]; exact h
theorem BoolsAt.ext {w w' : World} {A : Nat} {f : Nat → Bool} (h : BoolsAt w A f) (hx : Ext w w') : BoolsAt w' A f := by
  have := h.lt
  unfold BoolsAt at h ⊢
  rw [hx.block A this]; exact h
theorem BoolsAt.congr {w : World} {A : Nat} {f g : Nat → Bool} (h : BoolsAt w A f) (e : f = g) : BoolsAt w A g := e ▸ h

/-- The cell j occurs in a leaf with the operator op. -/
def occurs (op : Int) (l : List E) (j : Nat) : Bool := l.any fun x => decide (x.op = op) && decide (x.n = j)
theorem occurs_snoc (op : Int) (l : List E) (x : E) : occurs op (l ++ [x]) = fun j => occurs op l j || (decide (x.op = op) && decide (x.n = j)) := by
  funext j; simp [occurs]
theorem occ_eq (x : Bool) (op : Int) (m j : Nat) : (x || decide (j = m)) = (x || (decide (op = op) && decide ((m : Int) = (j : Int)))) := by
  have : decide (j = m) = decide ((m : Int) = (j : Int)) := by rw [Bool.eq_iff_iff]; simp only [decide_eq_true_eq]; omega
  rw [this]; simp
def SupInv (A B : Nat) (w : World) (acc : List E) : Prop := BoolsAt w A (occurs 3 acc) ∧ BoolsAt w B (occurs 2 acc)

set_option maxHeartbeats 1000000 in
theorem Support1_any (w0 : World) (A B : Nat) (hA : w0.heap.size ≤ A) (hB : w0.heap.size ≤ B) (hAB : A ≠ B) (x : E) (w : World) (b o : Nat) (acc : List E) (hs : shapedW x.op x.wd x.n [] = true) (hE : IsE w0 b o x) (hx : Ext w0 w) (hI : SupInv A B w acc) :
    Calls Tryz.prog 87 #[.pointer (some ⟨b, o, none⟩), .pointer (some ⟨A, 0, none⟩), .pointer (some ⟨B, 0, none⟩)] w fun r w' => r = .returned (.tuple #[]) ∧ Ext w0 w' ∧ SupInv A B w' (acc ++ [x]) := by
  obtain ⟨h0, h1, h2, kv, h3, hk⟩ := (hE.ext hx).cells
  obtain ⟨op, wd, n, ks⟩ := x
  simp only [E.op_mk, E.wd_mk, E.n_mk, E.kids_mk] at h0 h1 h2 hk hs
  obtain ⟨hop, hn0, hn32⟩ := shapedW_leaf hs
  clear hk h3 hE h1 hs
  obtain ⟨i1, i2⟩ := hI
  have HX := Lib.hid hx; have I1 := Lib.hid i1; have I2 := Lib.hid i2
  clear hx i1 i2
  obtain ⟨m, rfl⟩ := Int.eq_ofNat_of_zero_le hn0
  rcases hop with rfl | rfl | rfl
  · have HF : Hid (SupInv A B w (acc ++ [.mk 1 wd m ks])) := ⟨I1.out.congr (by rw [occurs_snoc]; simp), I2.out.congr (by rw [occurs_snoc]; simp)⟩
    go_enter Tryz.func87, Tryz.ntmps87
    go_wp2_with fail
    go_end0
    exact ⟨rfl, HX.out, HF.out⟩
  · have hm : m < 32 := by have := hn32 (by decide); omega
    have c1 := I2.out.cell m hm
    have c2 := I2.out.frozen m
    have HF : Hid (SupInv A B (w.setCell ⟨B, m, none⟩ (.bool true)) (acc ++ [.mk 2 wd m ks])) :=
      ⟨(I1.out.other hAB).congr (by rw [occurs_snoc]; simp), (I2.out.set m).congr (by rw [occurs_snoc]; funext j; exact occ_eq _ _ m j)⟩
    go_enter Tryz.func87, Tryz.ntmps87
    go_wp2_with fail
    go_end0
    exact ⟨rfl, HX.out.setCell hB _, HF.out⟩
  · have hm : m < 32 := by have := hn32 (by decide); omega
    have c1 := I1.out.cell m hm
    have c2 := I1.out.frozen m
    have HF : Hid (SupInv A B (w.setCell ⟨A, m, none⟩ (.bool true)) (acc ++ [.mk 3 wd m ks])) :=
      ⟨(I1.out.set m).congr (by rw [occurs_snoc]; funext j; exact occ_eq _ _ m j), (I2.out.other (Ne.symm hAB)).congr (by rw [occurs_snoc]; simp)⟩
    go_enter Tryz.func87, Tryz.ntmps87
    go_wp2_with fail
    go_end0
    exact ⟨rfl, HX.out.setCell hA _, HF.out⟩
/-- The cells in OpOld; in OpCell. -/
def E.supOld (e : E) : List Int := if e.wf then upTo (occurs 3 e.leaves) 32 else []
def E.supNow (e : E) : List Int := if e.wf then upTo (occurs 2 e.leaves) 32 else []
def SupPost (e : E) (w : World) (r : Ending) (w' : World) : Prop := ∃ v1 v2, r = .returned (.tuple #[v1, v2]) ∧ Ints w' v1 e.supOld ∧ Ints w' v2 e.supNow ∧ Ext w w'

theorem boolsNew (w : World) (f : Nat → Bool) : BoolsAt (w.alloc (.cells (bools f) 124)) w.heap.size f := heap_new _ _
theorem bools_false : bools (fun _ => false) = #[.bool false, .bool false, .bool false, .bool false, .bool false, .bool false, .bool false, .bool false, .bool false, .bool false, .bool false, .bool false, .bool false, .bool false, .bool false, .bool false,
  .bool false, .bool false, .bool false, .bool false, .bool false, .bool false, .bool false, .bool false, .bool false, .bool false, .bool false, .bool false, .bool false, .bool false, .bool false, .bool false] := rfl

/-- In a region that draws its order: a whole variable is loaded; a slot is assigned. -/
theorem yields_load_row {P : Program} {ops : Array Oper} {S : World → Prop} {o : Oper} {a : Act} (ty : TypeId) (x : Operand) (hgd : o.guard = none) (ho : o.op = .load ty x) (g : Nat) (hx : a.eval x = .pointer (some ⟨g, 0, none⟩))
    (t : TypeId) (cs : Array Value) (fr : Nat × Nat) (d : TypeDesc) (hg : ∀ w, S w → w.heap[g]? = some (.cells cs t fr)) (hu : P.underlying ty = some d) (hd : (match d with | .struct _ | .array _ _ => true | _ => false) = true) (hi : (P.info? ty).map (·.size) = some cs.size) :
    YieldsIf P ops S o (.agg cs) a := by
  refine .inl ⟨by simp [Region.wanted, hgd], fun w hS => ?_⟩
  unfold execOp
  simp only [ho, hx, Instr.loadAt, Instr.sureAddr, Sem.run_bind, Sem.run_pure, Result.andThen_ok, run_loadVar_row w g t ty cs fr d (hg w hS) hu hd hi]

set_option maxRecDepth 100000 in
set_option maxHeartbeats 1000000 in
theorem Support_any (e : E) (v : Value) (w : World) (he : EVal w v e) (hM : Masks w) : Calls Tryz.prog 63 #[v] w (SupPost e w) := by
  obtain ⟨k, rfl, hk⟩ := he
  have hE := IsE.box (w := w) (e := e) (t := 25) hk
  generalize hw0 : w.alloc (.cells #[.int .i64 e.op, .int .i64 e.wd, .int .i64 e.n, k] 25) = w0 at hE
  have hx0 : Ext w w0 := by rw [← hw0]; exact (Ext.refl w).alloc _
  have hs0 : w0.heap.size = w.heap.size + 1 := by rw [← hw0]; simp
  have hv0 : EVal w0 (.agg #[.int .i64 e.op, .int .i64 e.wd, .int .i64 e.n, k]) e := ⟨k, rfl, hk.ext hx0⟩
  have H0 := Lib.hid hw0; have HX0 := Lib.hid hx0; have HS0 := Lib.hid hs0; have HE := Lib.hid hE; have HV0 := Lib.hid hv0
  have HM0 := Lib.hid (hM.ext hx0)
  clear hw0 hx0 hs0 hE hk hM hv0
  cases hw : e.wf with
  | false =>
    have HW := Lib.hid hw; clear hw
    go_enter Tryz.func63, Tryz.ntmps63
    go_wp2_with fail
    rw [H0.out]
    refine (wellFormed_any e _ _ HV0.out HM0.out).mono ?_
    rintro r w1 ⟨rfl, hx1⟩
    rw [HW.out]
    have HX1 := Lib.hid hx1; clear hx1
    go_wp2_with fail
    go_ret2
    exact ⟨_, _, rfl, by simp only [E.supOld, HW.out]; exact .inl ⟨⟨_, _, rfl⟩, rfl⟩, by simp only [E.supNow, HW.out]; exact .inl ⟨⟨_, _, rfl⟩, rfl⟩, HX0.out.trans HX1.out⟩
  | true =>
    have HW := Lib.hid hw; clear hw
    go_enter Tryz.func63, Tryz.ntmps63
    go_wp2_with fail
    rw [H0.out]
    refine (wellFormed_any e _ _ HV0.out HM0.out).mono ?_
    rintro r w1 ⟨rfl, hx1⟩
    rw [HW.out]
    have HX1 := Lib.hid hx1; clear hx1
    go_wp2_with fail
    rw [← bools_false]
    have hs1 : w0.heap.size ≤ w1.heap.size := HX1.out.size
    refine (leaves_support w0 w1.heap.size (w1.heap.size + 1) (fun x => shapedW x.op x.wd x.n [] = true) (SupInv w1.heap.size (w1.heap.size + 1))
      (fun x w b o acc h1 h2 h3 h4 => Support1_any w0 _ _ hs1 (by omega) (by omega) x w b o acc h1 h2 h3 h4)
      e.size e _ _ _ [] (Nat.le_refl _) (fun x hx => (leaves_shaped e 40 (wf_deep HW.out) x hx).2) HE.out ((HX1.out.alloc _).alloc _) ?_).mono ?_
    · refine ⟨(boolsNew w1 _).ext ((Ext.refl _).alloc _), ?_⟩
      have := boolsNew (w1.alloc (.cells (bools fun _ => false) 124)) (fun _ => false)
      exact BoolsAt.congr (by simpa using this) (by funext j; simp [occurs])
    rintro r w2 ⟨rfl, hx2, hI1, hI2⟩
    simp only [List.nil_append] at hI1 hI2
    have HX2 := Lib.hid hx2; have I1 := Lib.hid hI1; have I2 := Lib.hid hI2
    clear hx2 hI1 hI2
    go_wp2_with fail
    refine wp_region_held (S := fun w' => Ext w2 w') (by kernel_rfl) ?_
    refine wpAnyH_take (i := 0) (v := .agg (bools (occurs 3 e.leaves))) rfl (by kernel_rfl) (by kernel_rfl) (by kernel_rfl) (fun _ _ _ h => h) (yields_load_row _ _ rfl rfl w1.heap.size rfl _ _ _ _ (fun w' hx' => I1.out.ext hx') under32 rfl (by rw [bools_size]; exact size32)) ((Ext.refl w2).drew) ?_
    refine wpAnyH_take (i := 2) (v := .agg (bools (occurs 2 e.leaves))) rfl (by kernel_rfl) (by kernel_rfl) (by kernel_rfl) (fun _ _ _ h => h) (yields_load_row _ _ rfl rfl (w1.heap.size + 1) rfl _ _ _ _ (fun w' hx' => I2.out.ext hx') under32 rfl (by rw [bools_size]; exact size32)) ((Ext.refl w2).drew) ?_
    refine wpAnyH_all (rs := [1]) (by kernel_rfl) (by simp) ?_
    intro i hi
    obtain rfl : i = 1 := by simpa using hi
    unfold wpOp
    go_simp
    refine .inl ((members_any _ _).mono ?_)
    rintro r w3 ⟨v1, rfl, hi1, hx3⟩
    have hx23 : Ext w2 w3 := ((Ext.refl w2).drew).trans hx3
    refine ⟨hx23, ?_⟩
    refine wpAnyH_all (rs := [3]) (by kernel_rfl) (by simp) ?_
    intro i hi
    obtain rfl : i = 3 := by simpa using hi
    unfold wpOp
    go_simp
    refine .inl ((members_any _ _).mono ?_)
    rintro r w4 ⟨v2, rfl, hi2, hx4⟩
    have hx24 : Ext w2 w4 := hx23.trans hx4
    refine ⟨hx24, ?_⟩
    refine wpAnyH_take (i := 4) (v := v1) rfl (by kernel_rfl) (by kernel_rfl) (by kernel_rfl) (fun _ _ _ h => h) (.inl ⟨rfl, fun _ _ => rfl⟩) hx24 ?_
    refine wpAnyH_take (i := 5) (v := v2) rfl (by kernel_rfl) (by kernel_rfl) (by kernel_rfl) (fun _ _ _ h => h) (.inl ⟨rfl, fun _ _ => rfl⟩) hx24 ?_
    refine wpAnyH_done (by kernel_rfl) ?_ _
    have HF : Hid (SupPost e w (.returned (.tuple #[v1, v2])) w4) :=
      ⟨_, _, rfl, by simp only [E.supOld, HW.out]; exact hi1.ext hx4, by simp only [E.supNow, HW.out]; exact hi2, HX0.out.trans (HX2.out.trans hx24)⟩
    clear hi1 hi2 hx3 hx4 hx23 hx24
    go_wp2_with fail
    go_ret2
    exact HF.out
end Go.Proofs.YtlcgbdjmlnjhcaaGreatDoor
namespace Go.Proofs.YtlcgbdjmlnjhcaaGreatDoor
open Go.RowKit

def zeros32 : List Int := List.replicate 32 0
/-- The state with a number. -/
def stN (cs ws : List Int) (n : Nat) : List Int := stateS cs ws (n : Int) zeros32
def supB (list : List Int) (e : E) : Bool := e.supNow.all fun c => list.contains c
def ofErr (cells : List CellD) (list : List Int) (e : E) : Int :=
  if widthsB cells list then if sumI (wOf cells list) ≤ 12 then if e.valid cells false && decide (e.wd = 1) then if supB list e then 0 else 1 else 60 else 2 else 1
def ofIn (cells : List CellD) (list : List Int) (e : E) : List Nat := (List.range (pw (sumI (wOf cells list))).toNat).filter fun n => decide (e.eval (stN list (wOf cells list) n) (stN list (wOf cells list) n) = 1)
def OfPost (cells : List CellD) (list : List Int) (e : E) (w : World) (r : Ending) (w' : World) : Prop :=
  if ofErr cells list e = 0 then SetRes 0 list (wOf cells list) (castL (ofIn cells list e)) w r w' else SetRes (ofErr cells list e) [] [] [] w r w'
theorem OfPost.bad {cells : List CellD} {list : List Int} {e : E} {w w' : World} {k : Int} (h : ofErr cells list e = k) (hk : k ≠ 0) (hx : Ext w w') : OfPost cells list e w (.returned (.tuple #[.agg #[.slice none 0 0, .slice none 0 0, .slice none 0 0], .int .i64 k])) w' := by
  unfold OfPost; rw [h, if_neg hk]; exact ⟨_, rfl, SetO.nil _ _, hx⟩

/-- make([]int, 32). -/
def ints32 : Array Value := (zeros32.map (Value.int .i64)).toArray
theorem made32 : madeCells (Value.int .i64 0).cells (Int.toNat 32 * 1) = ints32 := by kernel_rfl
theorem makeState32 (W : World) : (Instr.makeSlice 35 (.int .i64 32) (.int .i64 32)).run Tryz.prog W = .ok (.slice (some ⟨W.heap.size, 0, none⟩) 32 32) (W.alloc (.cells ints32 3)) := by
  obtain ⟨i, hi, hz⟩ := Option.map_eq_some_iff.1 infoInt
  simp only [Prod.mk.injEq] at hz
  have hr := run_make (P := Tryz.prog) W 35 3 i (.int .i64 0) Tryz.underlying35 hi hz.1 .i64 .i64 32 32 (by omega) (by omega) (by rw [hz.2.2]; decide) (by decide)
  rw [hr, hz.2.1, made32]; rfl
theorem ints32_at {w : World} {b : Nat} (h : w.heap[b]? = some (.cells ints32 3 (0, 0))) : Ints w (.slice (some ⟨b, 0, none⟩) 32 32) zeros32 := by
  refine .inr ⟨b, 0, 32, rfl, by simp [zeros32], fun i hi => ?_⟩
  unfold IntAt
  rw [cell_of_row _ _ _ _ _ _ h, Nat.mul_one, Nat.zero_add]
  unfold ints32
  rw [List.getElem?_toArray, List.getElem?_map, List.getElem?_eq_getElem hi]; rfl
def ofTo (cells : List CellD) (list : List Int) (e : E) (k : Nat) : List Nat := (List.range k).filter fun n => decide (e.eval (stN list (wOf cells list) n) (stN list (wOf cells list) n) = 1)
theorem ofTo_succ (cells : List CellD) (list : List Int) (e : E) (k : Nat) : ofTo cells list e (k + 1) = if e.eval (stN list (wOf cells list) k) (stN list (wOf cells list) k) = 1 then ofTo cells list e k ++ [k] else ofTo cells list e k := by
  unfold ofTo
  rw [List.range_succ, List.filter_append]
  by_cases h : e.eval (stN list (wOf cells list) k) (stN list (wOf cells list) k) = 1 <;> simp [h]
theorem ofTo_lt {cells : List CellD} {list : List Int} {e : E} {k : Nat} (hk : k ≤ 4096) : ∀ x ∈ ofTo cells list e k, x < 4096 := fun x hx => by
  have := List.mem_range.1 (List.mem_filter.1 hx).1; omega
theorem mapL_app (l : List Nat) (n : Nat) : mapL (l ++ [n]) = orAt (mapL l) (n / 64) (1 <<< (n % 64)) := by unfold mapL; rw [List.foldl_append]; rfl
theorem pw12_nat {s : Int} (h0 : 0 ≤ s) (h : s ≤ 12) : ∃ n : Nat, pw s = (n : Int) ∧ n ≤ 4096 := by
  refine ⟨(pw s).toNat, ?_, ?_⟩
  · have : 0 ≤ pw s := by unfold pw; exact Int.pow_nonneg (by decide)
    omega
  · have h1 := pw_mono h0 h
    have e : pw 12 = 4096 := by decide
    omega
/-- slices.Contains. -/
theorem Contains_any (l : List Int) (x : Int) (v : Value) (w : World) (hl : Ints w v l) : Calls Tryz.prog 89 #[v, .int .i64 x] w fun r w' => r = .returned (.bool (l.contains x)) ∧ w' = w := by
  rcases hl with ⟨⟨a, c, rfl⟩, rfl⟩ | ⟨b, o, cap, rfl, hm, hc⟩
  · exact Tryz.slices_Contains_int_empty a c x w
  · have := Tryz.slices_Contains_int b o l.length cap l x w (Nat.le_refl _) hm fun j hj => by
      have := hc j hj; rw [Nat.mul_one] at this; rw [this]; simp [List.getD, hj]
    rw [List.take_length] at this
    exact this

end Go.Proofs.YtlcgbdjmlnjhcaaGreatDoor
namespace Go.Proofs.YtlcgbdjmlnjhcaaGreatDoor
open Go.RowKit

/-- Two pairs of states agree on a leaf. -/
def LeafEq (o1 n1 o2 n2 : List Int) (x : E) : Prop := (x.op = 2 → elemS n1 x.n % pw x.wd = elemS n2 x.n % pw x.wd) ∧ (x.op = 3 → elemS o1 x.n % pw x.wd = elemS o2 x.n % pw x.wd)
theorem shapedW_nokids {op wd n : Int} {ws : List Int} (h : shapedW op wd n ws = true) (ho : op = 2 ∨ op = 3) : ws = [] := by
  unfold shapedW at h
  rw [Bool.and_eq_true, if_neg (by omega), if_pos ho] at h
  simp only [Bool.and_eq_true, decide_eq_true_eq] at h
  exact h.2.1.1
mutual
theorem val_leaf (o1 n1 o2 n2 : List Int) : (e : E) → (d : Nat) → e.deep d = true → (∀ x ∈ e.leaves, LeafEq o1 n1 o2 n2 x) → e.val o1 n1 = e.val o2 n2
  | .mk op wd n ks, d, hd, h => by
    simp only [E.deep, Bool.and_eq_true] at hd
    obtain ⟨⟨_, hs⟩, hk⟩ := hd
    rw [E.val, E.val]
    by_cases c1 : op = 1
    · rw [if_pos c1, if_pos c1]
    · rw [if_neg c1, if_neg c1]
      by_cases c2 : op = 2
      · have := shapedW_nokids hs (.inl c2)
        have hks : ks = [] := List.map_eq_nil_iff.1 this
        subst hks
        rw [leaves_nil] at h
        rw [if_pos c2, if_pos c2]
        exact (h (.mk op wd n []) (by simp)).1 c2
      · rw [if_neg c2, if_neg c2]
        by_cases c3 : op = 3
        · have := shapedW_nokids hs (.inr c3)
          have hks : ks = [] := List.map_eq_nil_iff.1 this
          subst hks
          rw [leaves_nil] at h
          rw [if_pos c3, if_pos c3]
          exact (h (.mk op wd n []) (by simp)).2 c3
        · rw [if_neg c3, if_neg c3]
          have e : valAll o1 n1 ks = valAll o2 n2 ks := by
            by_cases c : ks = []
            · subst c; rfl
            · rw [leaves_cons c] at h
              exact val_leaf_list o1 n1 o2 n2 ks (d - 1) hk h
          rw [e]
theorem val_leaf_list (o1 n1 o2 n2 : List Int) : (ks : List E) → (d : Nat) → deepAll ks d = true → (∀ x ∈ leavesAll ks, LeafEq o1 n1 o2 n2 x) → valAll o1 n1 ks = valAll o2 n2 ks
  | [], _, _, _ => rfl
  | e :: r, d, hd, h => by
    simp only [deepAll, Bool.and_eq_true] at hd
    simp only [leavesAll, List.mem_append] at h
    rw [valAll, valAll, val_leaf o1 n1 o2 n2 e d hd.1 (fun x hx => h x (.inl hx)), val_leaf_list o1 n1 o2 n2 r d hd.2 (fun x hx => h x (.inr hx))]
end
theorem eval_leaf {o1 n1 o2 n2 : List Int} {e : E} (h : ∀ x ∈ e.leaves, LeafEq o1 n1 o2 n2 x) : e.eval o1 n1 = e.eval o2 n2 := by
  unfold E.eval
  split
  · next hw =>
    simp only [E.wf, Bool.and_eq_true] at hw
    exact val_leaf o1 n1 o2 n2 e 40 hw.2 h
  · rfl

section
variable {cs ws : List Int} (hl : cs.length = ws.length) (hw : ∀ x ∈ ws, 1 ≤ x ∧ x ≤ 8) (hinc : incB cs = true) (hb : ∀ i, i < cs.length → 0 ≤ cs.getD i 0 ∧ cs.getD i 0 < 32)
include hl hw
/-- The low bits below a cell. -/
theorem low_le {i k : Nat} (h : i < k) (hk : k ≤ cs.length) : ∃ r, 0 ≤ r ∧ sumI (ws.take k) = sumI (ws.take i) + (ws.getD i 0) + r ∧ 0 ≤ sumI (ws.take i) ∧ 1 ≤ ws.getD i 0 ∧ ws.getD i 0 ≤ 8 := by
  have hg : ws.getD i 0 = ws[i]'(by omega) := by simp [List.getD, show i < ws.length by omega]
  have hx := hw (ws[i]'(by omega)) (List.getElem_mem _)
  have key : ∀ j, i + 1 + j ≤ cs.length → ∃ r, 0 ≤ r ∧ sumI (ws.take (i + 1 + j)) = sumI (ws.take i) + (ws.getD i 0) + r := by
    intro j
    induction j with
    | zero => intro _; exact ⟨0, by omega, by rw [Nat.add_zero, sum_take (show i < ws.length by omega), hg]; omega⟩
    | succ j ih =>
      intro hj
      obtain ⟨r, h0, h1⟩ := ih (by omega)
      have h2 := hw _ (List.getElem_mem (show i + 1 + j < ws.length by omega))
      refine ⟨r + ws[i + 1 + j]'(by omega), by omega, ?_⟩
      rw [← Nat.add_assoc, sum_take (show i + 1 + j < ws.length by omega), h1]; omega
  obtain ⟨r, h0, h1⟩ := key (k - i - 1) (by omega)
  rw [show i + 1 + (k - i - 1) = k by omega] at h1
  exact ⟨r, h0, h1, (sum_bound hw i (by omega)).1, by omega, by omega⟩
theorem num_digit (st : List Int) : ∀ k, k ≤ cs.length → ∀ i, i < k → (numTo cs ws st k).1 / pw (sumI (ws.take i)) % pw (ws.getD i 0) = elemS st (cs.getD i 0) % pw (ws.getD i 0) := by
  intro k
  induction k with
  | zero => intro _ i hi; omega
  | succ k ih =>
    intro hk i hi
    obtain ⟨_, h2, h3⟩ := num_bd st hl hw k (by omega)
    have hlow := num_low st hl k (by omega)
    rw [hlow] at h3
    have hc : cs.getD k 0 = cs[k]'(by omega) := by simp [List.getD, show k < cs.length by omega]
    have hwk : ws.getD k 0 = ws[k]'(by omega) := by simp [List.getD, show k < ws.length by omega]
    have hv : ∃ v, (numTo cs ws st (k + 1)).1 = (numTo cs ws st k).1 + v * pw (sumI (ws.take k)) ∧ v = elemS st (cs.getD k 0) % pw (ws.getD k 0) := by
      refine ⟨_, ?_, rfl⟩
      rw [numTo_succ st hl (by omega)]
      unfold numStep elemS
      dsimp only
      rw [hlow, hc, hwk]
      split
      · rfl
      · next hn =>
        have : st.getD (cs[k]'(by omega)).toNat 0 = 0 := by simp [List.getD, show st.length ≤ (cs[k]'(by omega)).toNat by omega]
        rw [this]; simp
    obtain ⟨v, hv, hv2⟩ := hv
    rw [hv]
    have hq := @pw_pos (sumI (ws.take i))
    by_cases e : i = k
    · subst e
      rw [Int.add_mul_ediv_right _ _ (by omega), Int.ediv_eq_zero_of_lt h2 h3, Int.zero_add, hv2, Int.emod_emod]
    · obtain ⟨r, r0, r1, r2, r3, _⟩ := low_le hl hw (show i < k by omega) (by omega)
      rw [← ih (by omega) i (by omega), r1, pw_add (by omega) r0, pw_add r2 (by omega)]
      rw [show v * (pw (sumI (ws.take i)) * pw (ws.getD i 0) * pw r) = v * pw r * pw (ws.getD i 0) * pw (sumI (ws.take i)) by ac_rfl]
      rw [Int.add_mul_ediv_right _ _ (by omega), Int.add_mul_emod_self_right]
include hinc hb
theorem st_digit (n : Int) (base : List Int) (h32 : base.length = 32) : ∀ k, k ≤ cs.length → (stTo cs ws n base k).1 = n / pw (sumI (ws.take k)) ∧ (stTo cs ws n base k).2.length = 32 ∧
    ∀ i, i < k → elemS (stTo cs ws n base k).2 (cs.getD i 0) = n / pw (sumI (ws.take i)) % pw (ws.getD i 0) := by
  intro k
  induction k with
  | zero => intro _; exact ⟨by simp [stTo, sumI, pw], h32, fun i hi => by omega⟩
  | succ k ih =>
    intro hk
    obtain ⟨h1, h2, h3⟩ := ih (by omega)
    have hc : cs.getD k 0 = cs[k]'(by omega) := by simp [List.getD, show k < cs.length by omega]
    have hwk : ws.getD k 0 = ws[k]'(by omega) := by simp [List.getD, show k < ws.length by omega]
    have hbk := hb k (by omega)
    have hs0 := (sum_bound hw k (by omega)).1
    have hx := hw (ws[k]'(by omega)) (List.getElem_mem _)
    rw [stTo_succ n base hl (by omega)]
    unfold stStep
    dsimp only
    rw [hc] at hbk
    rw [if_pos (by rw [h2]; omega)]
    refine ⟨?_, by rw [List.length_set]; exact h2, fun i hi => ?_⟩
    · rw [h1, sum_take (show k < ws.length by omega), pw_add hs0 (by omega), Int.ediv_ediv_of_nonneg (Int.le_of_lt pw_pos)]
    · unfold elemS at *
      by_cases e : i = k
      · subst e
        rw [hc, hwk, h1]
        simp [List.getD, show (cs[i]'(by omega)).toNat < (stTo cs ws n base i).2.length by rw [h2]; omega]
      · have hlt := inc_all hinc i k (by omega) (by omega)
        have hbi := hb i (by omega)
        rw [hc] at hlt
        rw [← h3 i (by omega)]
        simp only [List.getD, List.getElem?_set]
        rw [if_neg (by simp only [List.getD] at hlt hbi; omega)]
end
theorem st_of_num {cs ws : List Int} (hs : smallB cs ws = true) (st : List Int) {i : Nat} (hi : i < cs.length) : elemS (stN cs ws (numS cs ws st).toNat) (cs.getD i 0) = elemS st (cs.getD i 0) % pw (ws.getD i 0) := by
  obtain ⟨h1, hwd, _, _⟩ := small_sum hs
  obtain ⟨hl, hinc, hin⟩ := shape_iff.1 h1
  have hb := num_bd st hl hwd.2 cs.length (Nat.le_refl _)
  have hN : ((numS cs ws st).toNat : Int) = (numTo cs ws st cs.length).1 := by unfold numS; rw [hs, if_pos rfl]; omega
  unfold stN stateS
  rw [hs, if_pos rfl, hN]
  rw [(st_digit hl hwd.2 hinc (fun i h => ⟨(hin i h).1, (hin i h).2.1⟩) _ zeros32 (by simp [zeros32]) cs.length (Nat.le_refl _)).2.2 i hi]
  exact num_digit hl hwd.2 st cs.length (Nat.le_refl _) i hi
theorem num_lt {cs ws : List Int} (hs : smallB cs ws = true) (st : List Int) : 0 ≤ numS cs ws st ∧ numS cs ws st < pw (sumI ws) := by
  obtain ⟨h1, hwd, _, _⟩ := small_sum hs
  obtain ⟨hl, _, _⟩ := shape_iff.1 h1
  have hb := num_bd st hl hwd.2 cs.length (Nat.le_refl _)
  have hlow := num_low st hl cs.length (Nat.le_refl _)
  rw [hlow, hl, List.take_length] at hb
  unfold numS
  rw [hs, if_pos rfl, hl]
  exact ⟨hb.2.1, hb.2.2⟩
theorem occurs_of {op : Int} {e : E} {x : E} (hx : x ∈ e.leaves) (ho : x.op = op) {j : Nat} (hj : x.n = (j : Int)) : occurs op e.leaves j = true := by
  unfold occurs
  rw [List.any_eq_true]
  exact ⟨x, hx, by rw [Bool.and_eq_true, decide_eq_true_eq, decide_eq_true_eq]; exact ⟨ho, hj⟩⟩
theorem mem_upTo' {f : Nat → Bool} {k j : Nat} (hj : j < k) (hf : f j = true) : (j : Int) ∈ upTo f k := by
  unfold upTo
  exact List.mem_map.2 ⟨j, List.mem_filter.2 ⟨List.mem_range.2 hj, hf⟩, rfl⟩
/-- A leaf that is a cell of the list, at the number's state and at the state. -/
theorem leaf_num {cells : List CellD} {list : List Int} {pr : Bool} (hs : smallB list (wOf cells list) = true) {x : E} (hok : okLeaf cells pr x = true) (h1 : x.op ≠ 1) (hmem : x.n ∈ list) (st : List Int) :
    elemS (stN list (wOf cells list) (numS list (wOf cells list) st).toNat) x.n % pw x.wd = elemS st x.n % pw x.wd := by
  obtain ⟨i, hi, hn⟩ := List.getElem_of_mem hmem
  have hg : list.getD i 0 = x.n := by simp [List.getD, hi, hn]
  unfold okLeaf at hok
  simp only [Bool.or_eq_true, Bool.and_eq_true, decide_eq_true_eq] at hok
  rcases hok with c | c
  · exact absurd c h1
  have hwi : (wOf cells list).getD i 0 = x.wd := by
    have e : (cells.map CellD.W).getD x.n.toNat 0 = x.wd := c.1.2
    unfold wOf
    simp only [List.getD, List.getElem?_map, List.getElem?_eq_getElem hi, Option.map_some, Option.getD_some, hn] at e ⊢
    unfold wAt
    simpa using e
  have := st_of_num hs st hi
  rw [hg, hwi] at this
  rw [this, Int.emod_emod]
end Go.Proofs.YtlcgbdjmlnjhcaaGreatDoor
