/-
  The reference's Value: what an expression is worth.
  The walk of the reference's merge.
  A table of the reference of relations: a row of n rows of n truth values, all of its own. Its Empty.
-/
import Derived.Test.YtlnahhlddekhoaaGreatDoorG13
import Derived.Test.YtlnahhlddekhoaaGreatDoorG04
import Derived.Test.YtlnahhlddekhoaaGreatDoorG07
import Derived.Deep.OwnRows
namespace Go.Proofs.YtlnahhlddekhoaaGreatDoor
open Go.RowKit

set_option maxHeartbeats 2000000 in
theorem apply_const (wd n : Int) (a : Option Addr) (m c : Nat) (va : Value) (w : World) :
    Calls Tryz.prog 91 #[.agg #[.int .i64 1, .int .i64 wd, .int .i64 n, .slice a m c], va] w fun r w' => r = .returned (.int .i64 n) ∧ Ext w w' := by
  go_enter Tryz.func91, Tryz.ntmps91
  go_wp2_with fail
  go_ret
  exact ⟨rfl, (Ext.refl w).alloc _⟩

theorem len_two {α : Type} {l : List α} (h : l.length = 2) : ∃ x y, l = [x, y] := by
  match l, h with
  | [x, y], _ => exact ⟨x, y, rfl⟩
theorem len_three {α : Type} {l : List α} (h : l.length = 3) : ∃ x y z, l = [x, y, z] := by
  match l, h with
  | [x, y, z], _ => exact ⟨x, y, z, rfl⟩

set_option maxHeartbeats 2000000 in
/-- Apply on a node and its kids' values: the node's value. -/
theorem RApply_any (old now : List Int) (op wd n : Int) (ks : List E) (d : Nat) (hd : (E.mk op wd n ks).deep d = true) (h2 : op ≠ 2) (h3 : op ≠ 3) (a : Option Addr) (m c : Nat) (va : Value) (w : World) (hv : Ints w va (ks.map (·.val old now))) :
    Calls Tryz.prog 91 #[.agg #[.int .i64 op, .int .i64 wd, .int .i64 n, .slice a m c], va] w fun r w' => r = .returned (.int .i64 ((E.mk op wd n ks).val old now)) ∧ Ext w w' := by
  have hs := deep_shape hd
  have hda : ∀ k ∈ ks, k.deep (d - 1) = true := by
    intro k hk
    obtain ⟨i, hi, rfl⟩ := List.mem_iff_getElem.1 hk
    exact deep_kid hd hi
  by_cases h1 : op = 1
  · subst h1
    have : (E.mk 1 wd n ks).val old now = n := by simp [E.val]
    rw [this]
    exact apply_const wd n a m c va w
  obtain ⟨hw1, hw8⟩ := shapedW_wd hs
  obtain ⟨rfl, ho4, ho14, hsh⟩ := shapedW_inner hs h1 h2 h3
  have hval : (E.mk op wd 0 ks).val old now = applyS op ((ks.map (·.val old now)).getD 0 0) ((ks.map (·.val old now)).getD 1 0) ((ks.map (·.val old now)).getD 2 0) % pw wd := by
    rw [E.val, if_neg h1, if_neg h2, if_neg h3, valAll_eq]
  have hr : ∀ k ∈ ks, 0 ≤ k.val old now ∧ k.val old now < pw k.wd := fun k hk => val_range old now k _ (hda k hk)
  have hw : ∀ k ∈ ks, k.wd ≤ 8 := fun k hk => (deep_wd (hda k hk)).2
  rw [hval]
  clear hval hda hs hd
  rcases hsh with ⟨rfl, e⟩ | ⟨o5, o10, e⟩ | ⟨o11, o13, rfl, u, e⟩ | ⟨rfl, e⟩
  · have hl : ks.length = 1 := by have := congrArg List.length e; simpa using this
    obtain ⟨k1, rfl⟩ := List.length_eq_one_iff.1 hl
    simp only [List.map_cons, List.map_nil, List.cons.injEq, and_true] at e
    have r1 := hr k1 (by simp)
    rw [e] at r1
    exact apply_not wd (k1.val old now) a m c va w hv hw1 hw8 r1
  · have hl : ks.length = 2 := by have := congrArg List.length e; simpa using this
    obtain ⟨k1, k2, rfl⟩ := len_two hl
    simp only [List.map_cons, List.map_nil, List.cons.injEq, and_true] at e
    obtain ⟨e1, e2⟩ := e
    have r1 := hr k1 (by simp)
    have r2 := hr k2 (by simp)
    rw [e1] at r1
    rw [e2] at r2
    have : op = 5 ∨ op = 6 ∨ op = 7 ∨ op = 8 ∨ op = 9 ∨ op = 10 := by omega
    rcases this with rfl | rfl | rfl | rfl | rfl | rfl
    · exact apply_and wd _ _ a m c va w hv hw1 hw8 r1 r2
    · exact apply_or wd _ _ a m c va w hv hw1 hw8 r1 r2
    · exact apply_xor wd _ _ a m c va w hv hw1 hw8 r1 r2
    · exact apply_add wd _ _ a m c va w hv hw1 hw8 r1 r2
    · exact apply_sub wd _ _ a m c va w hv hw1 hw8 r1 r2
    · exact apply_mul wd _ _ a m c va w hv hw1 hw8 r1 r2
  · have hl : ks.length = 2 := by have := congrArg List.length e; simpa using this
    obtain ⟨k1, k2, rfl⟩ := len_two hl
    have r1 := hr k1 (by simp)
    have r2 := hr k2 (by simp)
    have w1 := pw_le (hw k1 (by simp))
    have w2 := pw_le (hw k2 (by simp))
    have : op = 11 ∨ op = 12 ∨ op = 13 := by omega
    rcases this with rfl | rfl | rfl
    · exact apply_eq 1 (k1.val old now) (k2.val old now) a m c va w hv hw1 hw8 (by omega) (by omega)
    · exact apply_lt 1 (k1.val old now) (k2.val old now) a m c va w hv hw1 hw8 (by omega) (by omega)
    · exact apply_le 1 (k1.val old now) (k2.val old now) a m c va w hv hw1 hw8 (by omega) (by omega)
  · have hl : ks.length = 3 := by have := congrArg List.length e; simpa using this
    obtain ⟨k1, k2, k3, rfl⟩ := len_three hl
    simp only [List.map_cons, List.map_nil, List.cons.injEq, and_true] at e
    obtain ⟨e1, e2, e3⟩ := e
    have r1 := hr k1 (by simp)
    have r2 := hr k2 (by simp)
    have r3 := hr k3 (by simp)
    rw [e1] at r1
    rw [e2] at r2
    rw [e3] at r3
    have p1 : pw 1 = 2 := by decide
    exact apply_ite wd (k1.val old now) (k2.val old now) (k3.val old now) a m c va w hv hw1 hw8 (by omega) r2 r3

set_option maxHeartbeats 4000000 in
theorem RValue_leaf (old now : List Int) (vo vn : Value) (op wd n : Int) (a : Option Addr) (m c : Nat) (w : World) (h23 : op = 2 ∨ op = 3) (h1 : 1 ≤ wd) (h8 : wd ≤ 8) (h0 : 0 ≤ n) (hO : Ints w vo old) (hN : Ints w vn now) :
    Calls Tryz.prog 46 #[.agg #[.int .i64 op, .int .i64 wd, .int .i64 n, .slice a m c], vo, vn] w fun r w' => r = .returned (.int .i64 (elemS (if op = 2 then now else old) n % pw wd)) ∧ Ext w w' := by
  obtain ⟨W, hW⟩ : ∃ W, W = w.alloc (.cells #[.int .i64 op, .int .i64 wd, .int .i64 n, .slice a m c] 26) := ⟨_, rfl⟩
  have hX : Ext w W := by rw [hW]; exact (Ext.refl _).alloc _
  have hb : W.heap[w.heap.size]? = some (.cells #[.int .i64 op, .int .i64 wd, .int .i64 n, .slice a m c] 26 (0, 0)) := by rw [hW]; exact heap_new _ _
  obtain ⟨p0, p1, p2, p3, _⟩ := cells_of_block hb
  have HA : Hid (∀ (u : Value) (l : List Int), Ints W u l → ∀ q : Nat, Calls Tryz.prog 90 #[u, .int .i64 n] (W.drewN q) fun e w' => e = .returned (.int .i64 (elemS l n)) ∧ ∃ x, w' = W.drewN x) := fun u l hu q =>
    Calls.quiet_of_same (at_q l n u (W.drewN q) (hu.ext ((Ext.refl W).drewN q)) h0)
  have HL : Hid (∀ (x : Int) (q : Nat), Calls Tryz.prog 89 #[.int .i64 x, .int .i64 wd] (W.drewN q) fun e w' => e = .returned (.int .i64 (x % pw wd)) ∧ ∃ x, w' = W.drewN x) := fun x q =>
    Calls.quiet_of_same (low_q x wd h1 h8 (W.drewN q))
  have HAO := Lib.hid (HA.out vo old (hO.ext hX))
  have HAN := Lib.hid (HA.out vn now (hN.ext hX))
  clear HA
  have HX := Lib.hid hX; have HW := Lib.hid hW
  clear hX hb hW hO hN
  go_enter Tryz.func46, Tryz.ntmps46
  go_upto_region 1 with fail
  rw [← HW.out]; clear HW
  generalize w.heap.size = B at *
  rcases h23 with rfl | rfl
  · go_wp2_with fail
    go_quiet (first | (go_at_call 90; with_reducible exact HAN.out _) | (go_at_call 89; with_reducible exact HL.out _ _))
    go_wp2_with fail
    go_ret
    exact ⟨rfl, by first | exact HX.out | exact HX.out.drewN _⟩
  · go_wp2_with fail
    go_quiet (first | (go_at_call 90; with_reducible exact HAO.out _) | (go_at_call 89; with_reducible exact HL.out _ _))
    go_wp2_with fail
    go_ret
    exact ⟨rfl, by first | exact HX.out | exact HX.out.drewN _⟩

theorem size_len (op wd n : Int) (ks : List E) : ks.length < (E.mk op wd n ks).size := by
  simp only [E.size]
  induction ks with
  | nil => simp [sizeAll]
  | cons e r ih => have := e.size_pos; simp only [sizeAll, List.length_cons]; omega

set_option maxHeartbeats 4000000 in
theorem RValue_any (old now : List Int) (vo vn : Value) (N : Nat) (hN1 : N ≤ 100000) : ∀ (e : E) (d : Nat) (v : Value) (w : World), e.size ≤ N → e.deep d = true → EVal w v e → Ints w vo old → Ints w vn now →
    Calls Tryz.prog 46 #[v, vo, vn] w fun r w' => r = .returned (.int .i64 (e.val old now)) ∧ Ext w w' := by
  induction N with
  | zero => intro e d v w h; have := e.size_pos; omega
  | succ N ih =>
    intro e d v w hN hd he hO hNw
    obtain ⟨kv, rfl, hk⟩ := he
    obtain ⟨op, wd, n, ks⟩ := e
    simp only [E.op_mk, E.wd_mk, E.n_mk, E.kids_mk] at hk ⊢
    obtain ⟨a, cap, rfl⟩ := SliceAt.shape hk
    have hs := deep_shape hd
    obtain ⟨hw1, hw8⟩ := shapedW_wd hs
    by_cases h23 : op = 2 ∨ op = 3
    · have hn := (shapedW_cell hs h23).2.1
      have hv : (E.mk op wd n ks).val old now = elemS (if op = 2 then now else old) n % pw wd := by
        rcases h23 with rfl | rfl <;> simp [E.val]
      rw [hv]
      exact RValue_leaf old now vo vn op wd n a _ cap w h23 hw1 hw8 hn hO hNw
    have hlen : ks.length ≤ 9223372036854775807 := SliceAt.len_le hk
    have hlen2 : ks.length ≤ 100000 := by
      have := size_len op wd n ks
      omega
    have hb2 : (op == 2) = false := by simp; omega
    have hb3 : (op == 3) = false := by simp; omega
    have HD := Lib.hid hd; have HH := Lib.hid h23
    have IH := Lib.hid (ih (by omega)); have HK := Lib.hid hk; have HO := Lib.hid hO; have HN := Lib.hid hNw
    clear ih hk hO hNw hd hs h23
    obtain ⟨W, hW⟩ : ∃ W, W = w.alloc (.cells #[.int .i64 op, .int .i64 wd, .int .i64 n, .slice a ks.length cap] 26) := ⟨_, rfl⟩
    have hX : Ext w W := by rw [hW]; exact (Ext.refl _).alloc _
    have hb : W.heap[w.heap.size]? = some (.cells #[.int .i64 op, .int .i64 wd, .int .i64 n, .slice a ks.length cap] 26 (0, 0)) := by rw [hW]; exact heap_new _ _
    obtain ⟨p0, p1, p2, p3, _⟩ := cells_of_block hb
    have HXW := Lib.hid hX; have HW := Lib.hid hW
    clear hX hb hW
    go_enter Tryz.func46, Tryz.ntmps46
    go_upto_region 1 with fail
    rw [← HW.out]; clear HW
    generalize w.heap.size = B at *
    go_wp2_with fail
    go_loopw [7, 8] (fun ov iv wr => ∃ k : Nat, k ≤ ks.length ∧ iv = .int .i64 k ∧ Ext W wr ∧ OwnInts wr W.heap.size ov ((ks.map (·.val old now)).take k)) (fun _ iv _ => ks.length - (intOf iv).toNat)
    case atStart => exact ⟨0, Nat.zero_le _, rfl, Ext.refl _, by simpa using OwnInts.nil _ _⟩
    case round =>
      obtain ⟨k, hk, rfl, hX, hR⟩ := hrel
      have c0 := hX.cell p0
      have c1 := hX.cell p1
      have c2 := hX.cell p2
      have c3 := hX.cell p3
      have hlw : W.heap.size ≤ wr.heap.size := hX.size
      have HX := Lib.hid hX; have HR := Lib.hid hR; clear hX hR
      by_cases hlt : k < ks.length
      · rcases HK.out with ⟨_, e⟩ | ⟨b', o', cap', e, _, hk'⟩
        · rw [e] at hlt; simp at hlt
        cases e
        have hE := (hk' k hlt).ext (HXW.out.trans HX.out)
        obtain ⟨g0, g1, g2, kv, g3, hkk⟩ := hE.cells
        obtain ⟨ka, kc, rfl⟩ := SliceAt.shape hkk
        have hin : ks[k] ∈ ks := List.getElem_mem hlt
        have hsz : ks[k].size ≤ N := by have := size_kid (op := op) (wd := wd) (n := n) hin; omega
        have HE : Hid (EVal wr (.agg #[.int .i64 ks[k].op, .int .i64 ks[k].wd, .int .i64 ks[k].n, .slice ka ks[k].kids.length kc]) ks[k]) := ⟨_, rfl, hkk⟩
        have HS : Hid ((ks.map (·.val old now)).take (k + 1) = (ks.map (·.val old now)).take k ++ [ks[k].val old now]) := by
          unfold Hid; rw [← List.map_take, ← List.map_take, List.take_succ_eq_append_getElem hlt, List.map_append]; rfl
        have HLN : Hid (((ks.map (·.val old now)).take k).length ≤ 1000000000) := by unfold Hid; simp; omega
        clear hkk hk' hE
        go_wp2_with fail
        refine (IH.out _ _ _ _ hsz (deep_kid HD.out hlt) HE.out (HO.out.ext (HXW.out.trans HX.out)) (HN.out.ext (HXW.out.trans HX.out))).mono ?_
        rintro r w2 ⟨rfl, hx2⟩
        have HX2 := Lib.hid hx2
        have hl2 : W.heap.size ≤ w2.heap.size := Nat.le_trans hlw hx2.size
        have HR2 := Lib.hid (HR.out.kept hx2)
        clear hx2
        go_wp2_with (at_builtin; refine wpList_append_int rfl (.tmp 36) (.tmp 45) rfl W.heap.size w2 _ _ (ks[k].val old now) rfl rfl HR2.out HLN.out hl2 ?_)
        intro v' w' hown' hg
        rw [← HS.out] at hown'
        have hx' : Ext W w' := (HX.out.trans HX2.out).grown hg (fun q hq => HR2.out.base q hq)
        have HO' := Lib.hid hown'; have HX' := Lib.hid hx'
        clear hown' hx' hg
        go_wp2_with fail
        exact ⟨⟨k + 1, by omega, by go_num, HX'.out, HO'.out⟩, by simp [intOf]; omega⟩
      · have hkl : k = ks.length := by omega
        rw [hkl, List.take_of_length_le (by simp)] at HR
        go_wp2_with fail
        refine (RApply_any old now op wd n ks d HD.out (fun e => HH.out (.inl e)) (fun e => HH.out (.inr e)) a _ cap _ wr HR.out.ints).mono ?_
        rintro r w2 ⟨rfl, hx2⟩
        have HX2 := Lib.hid hx2; clear hx2
        go_wp2_with fail
        go_ret
        exact ⟨rfl, (HXW.out.trans HX.out).trans HX2.out⟩
end Go.Proofs.YtlnahhlddekhoaaGreatDoor
namespace Go.Proofs.YtlnahhlddekhoaaGreatDoor
open Go.RowKit
attribute [local go_sem] Oper.semAt_some

theorem infoBit : (Tryz.prog.info? 4).map (fun i => (i.zero, i.size, i.bytes)) = some (some (.bool false), 1, 1) := by kernel_rfl
theorem makeBits32 (W : World) : (Instr.makeSlice 74 (.int .i64 32) (.int .i64 32)).run Tryz.prog W = .ok (.slice (some ⟨W.heap.size, 0, none⟩) 32 32) (W.alloc (.cells (madeCells #[.bool false] 32) 4)) :=
  run_make_row' (P := Tryz.prog) 74 4 (.bool false) 1 Tryz.underlying74 infoBit rfl .i64 .i64 32 (by omega) (by omega) W
/-- What is marked when ka elements of a and kb of b were met. -/
def mkF (a b : List Int) (ka kb : Nat) (j : Nat) : Bool := (a.take ka).contains (j : Int) || (b.take kb).contains (j : Int)
theorem contains_snoc (l : List Int) (x y : Int) : (l ++ [x]).contains y = (l.contains y || decide (y = x)) := by
  rw [Bool.eq_iff_iff]; simp
theorem mkF_a {a b : List Int} {k n kb : Nat} (hk : k < a.length) (hn : a[k] = (n : Int)) (j : Nat) : mkF a b (k + 1) kb j = (mkF a b k kb j || decide (j = n)) := by
  unfold mkF
  rw [List.take_succ_eq_append_getElem hk, contains_snoc, hn, show decide ((j : Int) = (n : Int)) = decide (j = n) by rw [decide_eq_decide]; omega]
  cases (a.take k).contains (j : Int) <;> cases (b.take kb).contains (j : Int) <;> cases decide (j = n) <;> rfl
theorem mkF_b {a b : List Int} {k n ka : Nat} (hk : k < b.length) (hn : b[k] = (n : Int)) (j : Nat) : mkF a b ka (k + 1) j = (mkF a b ka k j || decide (j = n)) := by
  unfold mkF
  rw [List.take_succ_eq_append_getElem hk, contains_snoc, hn, show decide ((j : Int) = (n : Int)) = decide (j = n) by rw [decide_eq_decide]; omega]
  cases (a.take ka).contains (j : Int) <;> cases (b.take k).contains (j : Int) <;> cases decide (j = n) <;> rfl
theorem row_mark {w : World} {g n : Nat} {f f' : Nat → Bool} (h : w.rowIs g 4 32 fun j => .bool (f j)) (e : ∀ j, f' j = (f j || decide (j = n))) : (w.setCell ⟨g, n, none⟩ (.bool true)).rowIs g 4 32 fun j => .bool (f' j) := by
  refine (h.set n (.bool true)).congr fun j _ => ?_
  show (if j = n then Value.bool true else Value.bool (f j)) = Value.bool (f' j)
  rw [e]
  by_cases c : j = n
  · rw [if_pos c, decide_eq_true c]; simp
  · rw [if_neg c, decide_eq_false c]; simp

end Go.Proofs.YtlnahhlddekhoaaGreatDoor
namespace Go.Proofs.YtlnahhlddekhoaaGreatDoor
open Go.RowKit

/-- The rows of a table: row i lies in block r i. -/
structure TabR (w : World) (base g n : Nat) (r : Nat → Nat) (T : Nat → Nat → Bool) (m : Nat) : Prop where
  le : base ≤ g
  top : ∃ z, w.rowIs g 74 n (fun i => if i < m then .slice (some ⟨r i, 0, none⟩) n n else z)
  row : ∀ i, i < m → g < r i ∧ w.rowIs (r i) 4 n (fun j => .bool (T i j))
  one : ∀ i j, i < m → j < m → r i = r j → i = j
/-- A table of n states. -/
def TabW (w : World) (base g n : Nat) (T : Nat → Nat → Bool) : Prop := ∃ r, TabR w base g n r T n

section
variable {w w' : World} {base g n m : Nat} {r : Nat → Nat} {T : Nat → Nat → Bool}
theorem TabR.lt (h : TabR w base g n r T m) : g < w.heap.size := h.top.elim fun _ h => h.lt
theorem TabR.rlt (h : TabR w base g n r T m) {i : Nat} (hi : i < m) : r i < w.heap.size := (h.row i hi).2.lt
theorem TabR.ext (h : TabR w base g n r T m) (hx : Ext w w') : TabR w' base g n r T m :=
  ⟨h.le, h.top.elim fun z q => ⟨z, q.of_block (hx.block _ h.lt)⟩, fun i hi => ⟨(h.row i hi).1, (h.row i hi).2.of_block (hx.block _ (h.rlt hi))⟩, h.one⟩
theorem TabR.cell (h : TabR w base g n r T m) {i : Nat} (hi : i < m) (hn : i < n) : w.cell? ⟨g, i, none⟩ = some (.slice (some ⟨r i, 0, none⟩) n n) := by
  obtain ⟨z, q⟩ := h.top
  have := q.cell hn
  rwa [if_pos hi] at this
theorem TabR.at (h : TabR w base g n r T m) {i j : Nat} (hi : i < m) (hj : j < n) : w.cell? ⟨r i, j, none⟩ = some (.bool (T i j)) := (h.row i hi).2.cell hj
/-- An element set. -/
theorem TabR.set (h : TabR w base g n r T m) {i j : Nat} (hi : i < m) (x : Bool) :
    TabR (w.setCell ⟨r i, j, none⟩ (.bool x)) base g n r (fun a b => if a = i ∧ b = j then x else T a b) m := by
  refine ⟨h.le, h.top.elim fun z q => ⟨z, q.setOther (by have := (h.row i hi).1; show g ≠ r i; omega) _⟩, fun a ha => ⟨(h.row a ha).1, ?_⟩, h.one⟩
  by_cases c : a = i
  · subst c
    refine ((h.row a ha).2.set j (.bool x)).congr fun b _ => ?_
    by_cases d : b = j
    · simp [d]
    · simp [d]
  · have hne : r a ≠ r i := fun e => c (h.one a i ha hi e)
    refine ((h.row a ha).2.setOther hne _).congr fun b _ => ?_
    simp [c]
/-- A row put where none was. -/
theorem TabR.put (h : TabR w base g n r T m) (hm : m < n) {q : Nat} (hq : w.rowIs q 4 n (fun j => .bool (T m j))) (hgq : g < q) (hnew : ∀ i, i < m → r i ≠ q) :
    TabR (w.setCell ⟨g, m, none⟩ (.slice (some ⟨q, 0, none⟩) n n)) base g n (fun i => if i = m then q else r i) T (m + 1) := by
  have hmn : m < n := hm
  refine ⟨h.le, h.top.elim fun z t => ⟨z, (t.set m _).congr fun i hi => ?_⟩, fun i hi => ?_, fun i j hi hj e => ?_⟩
  · by_cases c : i = m
    · subst c; simp
    · by_cases d : i < m
      · simp [c, d, show i < m + 1 by omega]
      · simp [c, d, show ¬ i < m + 1 by omega]
  · by_cases c : i = m
    · subst c; simp; exact ⟨hgq, hq.setOther (show q ≠ g by omega) _⟩
    · simp [c]
      obtain ⟨h1, h2⟩ := h.row i (by omega)
      exact ⟨h1, h2.setOther (show r i ≠ g by omega) _⟩
  · by_cases c : i = m <;> by_cases d : j = m <;> simp [c, d] at e ⊢
    · exact absurd e.symm (hnew j (by omega))
    · exact absurd e (hnew i (by omega))
    · exact h.one i j (by omega) (by omega) e
end
end Go.Proofs.YtlnahhlddekhoaaGreatDoor
