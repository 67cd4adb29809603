/-
  The walks of the references' Is, Old, Marked, merge.
  The reference's low, at, Apply and Value. Printed by gen_va.py.
  The reference's over and Valid.
-/
import Derived.Test.YtlnahhlddekhoaaGreatDoorG11
import Derived.Test.YtlnahhlddekhoaaGreatDoorG12
import Derived.Deep.OwnRows
import Derived.BigQuiet
import Derived.Test.YtlnahhlddekhoaaGreatDoorG01
import Derived.Test.YtlnahhlddekhoaaGreatDoorG05
namespace Go.Proofs.YtlnahhlddekhoaaGreatDoor
open Go.RowKit
attribute [local go_sem] Oper.semAt_some

def BitAt (w : World) (b o : Nat) (z : Bool) : Prop := w.cell? ⟨b, o, none⟩ = some (.bool z)
theorem bitKeeps : Keeps BitAt := fun _ _ _ _ _ hx h => hx.cell h
abbrev Bits := SliceAt 1 BitAt
theorem bits_at {w : World} {a : Option Addr} {n c : Nat} {l : List Bool} (h : Bits w (.slice a n c) l) {k : Nat} (hk : k < l.length) : ∃ b o, a = some ⟨b, o, none⟩ ∧ w.cell? ⟨b, o + k, none⟩ = some (.bool l[k]) := by
  rcases h with ⟨_, e⟩ | ⟨b, o, cap, e, _, hc⟩
  · rw [e] at hk; simp at hk
  cases e
  have := hc k hk
  rw [Nat.mul_one] at this
  exact ⟨b, o, rfl, this⟩
theorem row_bits {w : World} {b n : Nat} {f : Nat → Bool} (hm : n ≤ 1000000) (h : w.rowIs b 4 n fun j => .bool (f j)) : Bits w (.slice (some ⟨b, 0, none⟩) n n) ((List.range n).map f) := by
  refine .inr ⟨b, 0, n, by simp, by simp; omega, fun i hi => ?_⟩
  have hi' : i < n := by simpa using hi
  have := h.cell (i := i) hi'
  rw [Nat.mul_one, Nat.zero_add]
  simpa [BitAt] using this
theorem ints_at1 {w : World} {a : Option Addr} {n c : Nat} {l : List Int} (h : Ints w (.slice a n c) l) {k : Nat} (hk : k < l.length) : ∃ b o, a = some ⟨b, o, none⟩ ∧ w.cell? ⟨b, o + k, none⟩ = some (.int .i64 l[k]) := by
  rcases h with ⟨_, e⟩ | ⟨b, o, cap, e, _, hc⟩
  · rw [e] at hk; simp at hk
  cases e
  have := hc k hk
  rw [Nat.mul_one] at this
  exact ⟨b, o, rfl, this⟩
/-- The bits of a list. -/
def bitF (l : List Bool) (j : Nat) : Bool := l.getD j false
theorem upTo_congr {f g : Nat → Bool} {k : Nat} (h : ∀ j, j < k → f j = g j) : upTo f k = upTo g k := by
  unfold upTo
  rw [List.filter_congr fun j hj => h j (List.mem_range.1 hj)]

set_option maxRecDepth 100000 in
set_option maxHeartbeats 4000000 in
theorem RMarked_any (l : List Bool) (v : Value) (w : World) (hl : Bits w v l) (hn : l.length ≤ 1000) : Calls Tryz.prog 85 #[v] w fun r w' => (∃ u, r = .returned u ∧ OwnInts w' w.heap.size u (upTo (bitF l) l.length)) ∧ Ext w w' := by
  obtain ⟨va, vc, rfl⟩ := SliceAt.shape hl
  have HL := Lib.hid hl
  clear hl
  go_enter Tryz.func85, Tryz.ntmps85
  go_wp2_with fail
  go_loopw [3, 4] (fun ov iv wr => ∃ k : Nat, k ≤ l.length ∧ iv = .int .i64 k ∧ Ext w wr ∧ OwnInts wr w.heap.size ov (upTo (bitF l) k)) (fun _ iv _ => l.length - (intOf iv).toNat)
  case atStart => exact ⟨0, Nat.zero_le _, rfl, Ext.refl _, OwnInts.nil _ _⟩
  case round =>
    obtain ⟨k, hk, rfl, hX, hO⟩ := hrel
    have HXr := Lib.hid hX; have HO := Lib.hid hO
    have hlw : w.heap.size ≤ wr.heap.size := hX.size
    clear hX hO
    by_cases hlt : k < l.length
    · have hlt' : (k : Int) < (l.length : Int) := by omega
      obtain ⟨b3, o3, h3, g3⟩ := bits_at (SliceAt.ext bitKeeps HL.out HXr.out) hlt
      cases h3
      have HG : Hid (bitF l k = l[k]) := by unfold Hid bitF; simp [List.getD, hlt]
      have HLN := Lib.hid (upTo_length (bitF l) k)
      generalize l[k] = x at *
      cases x with
      | false =>
        have HS : Hid (upTo (bitF l) (k + 1) = upTo (bitF l) k) := upTo_succ_false HG.out
        go_wp2_with fail
        exact ⟨⟨k + 1, by omega, by go_num, HXr.out, by rw [HS.out]; exact HO.out⟩, by simp [intOf]; omega⟩
      | true =>
        have HS : Hid (upTo (bitF l) (k + 1) = upTo (bitF l) k ++ [(k : Int)]) := upTo_succ_true HG.out
        go_wp2_with (at_builtin; refine wpList_append_int rfl (.tmp 15) (.tmp 17) rfl w.heap.size wr _ _ (k : Int) rfl rfl HO.out (by have := HLN.out; omega) hlw ?_)
        intro v' w' hown' hg
        rw [← HS.out] at hown'
        have hx' : Ext w w' := HXr.out.grown hg (fun q hq => HO.out.base q hq)
        have HO' := Lib.hid hown'; have HX' := Lib.hid hx'
        clear hown' hx' hg
        go_wp2_with fail
        exact ⟨⟨k + 1, by omega, by go_num, HX'.out, HO'.out⟩, by simp [intOf]; omega⟩
    · have hkl : k = l.length := by omega
      subst hkl
      go_wp2_with fail
      go_ret
      exact ⟨⟨_, rfl, HO.out⟩, HXr.out⟩
end Go.Proofs.YtlnahhlddekhoaaGreatDoor
namespace Go.Proofs.YtlnahhlddekhoaaGreatDoor
open Go.RowKit

theorem low_q (n wd : Int) (h1 : 1 ≤ wd) (h8 : wd ≤ 8) (w : World) : Calls Tryz.prog 89 #[.int .i64 n, .int .i64 wd] w fun r w' => r = .returned (.int .i64 (n % pw wd)) ∧ w' = w := by
  have hm := mask_eq n wd h1 h8
  have hp := @pw_pos wd
  have hq := pw_le h8
  obtain ⟨P, hP⟩ : ∃ P, pw wd = P := ⟨_, rfl⟩
  have HPW := Lib.hid hP
  rw [hP] at hm hp hq ⊢
  have hw : wrap64 (P - 1) = P - 1 := by unfold wrap64; omega
  have HM := Lib.hid hm
  clear hm hP
  go_enter Tryz.func89, Tryz.ntmps89
  go_wp2_with fail
  refine (Power_any wd w (by omega)).mono ?_
  rintro r w1 ⟨rfl, rfl⟩
  rw [HPW.out]
  go_wp2_with fail
  go_ret
  exact ⟨by first | rfl | (rw [HM.out]; rfl), rfl⟩
theorem at_q (l : List Int) (n : Int) (v : Value) (w : World) (hl : Ints w v l) (h0 : 0 ≤ n) : Calls Tryz.prog 90 #[v, .int .i64 n] w fun r w' => r = .returned (.int .i64 (elemS l n)) ∧ w' = w := by
  obtain ⟨k, rfl⟩ := Int.eq_ofNat_of_zero_le h0
  obtain ⟨a, c, rfl⟩ := SliceAt.shape hl
  have hll := SliceAt.len_le hl
  by_cases hk : k < l.length
  · obtain ⟨b, o, rfl, g⟩ := ints_at1 hl hk
    have e : elemS l (k : Int) = l[k] := by unfold elemS; simp [List.getD, hk]
    have HE := Lib.hid e
    have hki : (k : Int) < (l.length : Int) := by omega
    clear e hl
    generalize l[k] = x at *
    go_enter Tryz.func90, Tryz.ntmps90
    go_wp2_with fail
    go_ret
    exact ⟨by rw [HE.out]; rfl, rfl⟩
  · have e : elemS l (k : Int) = 0 := by unfold elemS; simp [List.getD, hk]
    have HE := Lib.hid e
    have hki : ¬ (k : Int) < (l.length : Int) := by omega
    clear e hl
    go_enter Tryz.func90, Tryz.ntmps90
    go_wp2_with fail
    go_ret
    exact ⟨by rw [HE.out]; rfl, rfl⟩
theorem va_neg (x P : Int) (h0 : 0 ≤ x) (h1 : x < P) : (-1 - x) % P = P - 1 - x := by
  rw [← Int.add_emod_right, Int.emod_eq_of_lt (by omega) (by omega)]; omega
theorem nat_bits {wd x : Int} (h : 0 ≤ x ∧ x < pw wd) : x.toNat < 2 ^ wd.toNat := by
  have h2 := h.2
  unfold pw at h2
  have e : ((2 : Int) ^ wd.toNat) = ((2 ^ wd.toNat : Nat) : Int) := by push_cast; rfl
  rw [e] at h2; omega
theorem bits_in {wd : Int} {m : Nat} (h : m < 2 ^ wd.toNat) : ((m : Nat) : Int) % pw wd = (m : Int) := by
  refine Int.emod_eq_of_lt (by omega) ?_
  unfold pw
  have e : ((2 : Int) ^ wd.toNat) = ((2 ^ wd.toNat : Nat) : Int) := by push_cast; rfl
  rw [e]; exact_mod_cast h
set_option maxRecDepth 100000 in
set_option maxHeartbeats 4000000 in
theorem apply_and (wd : Int) (x y : Int) (a : Option Addr) (n c : Nat) (va : Value) (w : World) (hv : Ints w va [x, y]) (h1 : 1 ≤ wd) (h8 : wd ≤ 8) (hx : 0 ≤ x ∧ x < pw wd) (hy : 0 ≤ y ∧ y < pw wd) :
    Calls Tryz.prog 91 #[.agg #[.int .i64 5, .int .i64 wd, .int .i64 0, .slice a n c], va] w fun r w' => r = .returned (.int .i64 (applyS 5 x y 0 % pw wd)) ∧ Ext w w' := by
  have u_ := And.intro h1 (And.intro h8 (And.intro hx hy)); clear u_
  obtain ⟨W, hW⟩ : ∃ W, W = w.alloc (.cells #[.int .i64 5, .int .i64 wd, .int .i64 0, .slice a n c] 26) := ⟨_, rfl⟩
  have hX : Ext w W := by rw [hW]; exact (Ext.refl _).alloc _
  have hb : W.heap[w.heap.size]? = some (.cells #[.int .i64 5, .int .i64 wd, .int .i64 0, .slice a n c] 26 (0, 0)) := by rw [hW]; exact heap_new _ _
  obtain ⟨p0, p1, p2, p3, _⟩ := cells_of_block hb
  have hV := hv.ext hX
  obtain ⟨va1, va3, rfl⟩ := SliceAt.shape hV
  obtain ⟨b', o', rfl, g0⟩ := ints_at1 hV (k := 0) (by simp)
  skip
  obtain ⟨b1', o1', e1, g1⟩ := ints_at1 hV (k := 1) (by simp)
  cases e1
  skip
  simp only [List.getElem_cons_zero, List.getElem_cons_succ, List.length_cons, List.length_nil, Nat.zero_add, Nat.reduceAdd, Nat.add_zero] at *
  have hp := @pw_pos wd
  have hq := pw_le h8
  have hr : applyS 5 x y 0 % pw wd = bits .and .i64 x y := by
    rw [and_eq x y (by omega) (by omega) (by omega) (by omega)]
    unfold applyS; simp
    exact bits_in (Nat.and_lt_two_pow _ (nat_bits hy))
  have HR := Lib.hid hr
  clear hr hp hq hx hy h1 h8
  have HX := Lib.hid hX; have HW := Lib.hid hW
  clear hX hb hW hv hV
  go_enter Tryz.func91, Tryz.ntmps91
  go_upto_region 1 with fail
  rw [← HW.out]; clear HW
  generalize w.heap.size = B at *
  go_wp2_with fail
  go_quiet (fail)
  go_wp2_with fail
  go_ret
  exact ⟨by rw [HR.out]; first | done | rfl, by first | exact HX.out | exact HX.out.drewN _⟩
set_option maxRecDepth 100000 in
set_option maxHeartbeats 4000000 in
theorem apply_or (wd : Int) (x y : Int) (a : Option Addr) (n c : Nat) (va : Value) (w : World) (hv : Ints w va [x, y]) (h1 : 1 ≤ wd) (h8 : wd ≤ 8) (hx : 0 ≤ x ∧ x < pw wd) (hy : 0 ≤ y ∧ y < pw wd) :
    Calls Tryz.prog 91 #[.agg #[.int .i64 6, .int .i64 wd, .int .i64 0, .slice a n c], va] w fun r w' => r = .returned (.int .i64 (applyS 6 x y 0 % pw wd)) ∧ Ext w w' := by
  have u_ := And.intro h1 (And.intro h8 (And.intro hx hy)); clear u_
  obtain ⟨W, hW⟩ : ∃ W, W = w.alloc (.cells #[.int .i64 6, .int .i64 wd, .int .i64 0, .slice a n c] 26) := ⟨_, rfl⟩
  have hX : Ext w W := by rw [hW]; exact (Ext.refl _).alloc _
  have hb : W.heap[w.heap.size]? = some (.cells #[.int .i64 6, .int .i64 wd, .int .i64 0, .slice a n c] 26 (0, 0)) := by rw [hW]; exact heap_new _ _
  obtain ⟨p0, p1, p2, p3, _⟩ := cells_of_block hb
  have hV := hv.ext hX
  obtain ⟨va1, va3, rfl⟩ := SliceAt.shape hV
  obtain ⟨b', o', rfl, g0⟩ := ints_at1 hV (k := 0) (by simp)
  skip
  obtain ⟨b1', o1', e1, g1⟩ := ints_at1 hV (k := 1) (by simp)
  cases e1
  skip
  simp only [List.getElem_cons_zero, List.getElem_cons_succ, List.length_cons, List.length_nil, Nat.zero_add, Nat.reduceAdd, Nat.add_zero] at *
  have hp := @pw_pos wd
  have hq := pw_le h8
  have hr : applyS 6 x y 0 % pw wd = bits .or .i64 x y := by
    rw [or_eq x y (by omega) (by omega) (by omega) (by omega)]
    unfold applyS; simp
    exact bits_in (Nat.or_lt_two_pow (nat_bits hx) (nat_bits hy))
  have HR := Lib.hid hr
  clear hr hp hq hx hy h1 h8
  have HX := Lib.hid hX; have HW := Lib.hid hW
  clear hX hb hW hv hV
  go_enter Tryz.func91, Tryz.ntmps91
  go_upto_region 1 with fail
  rw [← HW.out]; clear HW
  generalize w.heap.size = B at *
  go_wp2_with fail
  go_quiet (fail)
  go_wp2_with fail
  go_ret
  exact ⟨by rw [HR.out]; first | done | rfl, by first | exact HX.out | exact HX.out.drewN _⟩
set_option maxRecDepth 100000 in
set_option maxHeartbeats 4000000 in
theorem apply_xor (wd : Int) (x y : Int) (a : Option Addr) (n c : Nat) (va : Value) (w : World) (hv : Ints w va [x, y]) (h1 : 1 ≤ wd) (h8 : wd ≤ 8) (hx : 0 ≤ x ∧ x < pw wd) (hy : 0 ≤ y ∧ y < pw wd) :
    Calls Tryz.prog 91 #[.agg #[.int .i64 7, .int .i64 wd, .int .i64 0, .slice a n c], va] w fun r w' => r = .returned (.int .i64 (applyS 7 x y 0 % pw wd)) ∧ Ext w w' := by
  have u_ := And.intro h1 (And.intro h8 (And.intro hx hy)); clear u_
  obtain ⟨W, hW⟩ : ∃ W, W = w.alloc (.cells #[.int .i64 7, .int .i64 wd, .int .i64 0, .slice a n c] 26) := ⟨_, rfl⟩
  have hX : Ext w W := by rw [hW]; exact (Ext.refl _).alloc _
  have hb : W.heap[w.heap.size]? = some (.cells #[.int .i64 7, .int .i64 wd, .int .i64 0, .slice a n c] 26 (0, 0)) := by rw [hW]; exact heap_new _ _
  obtain ⟨p0, p1, p2, p3, _⟩ := cells_of_block hb
  have hV := hv.ext hX
  obtain ⟨va1, va3, rfl⟩ := SliceAt.shape hV
  obtain ⟨b', o', rfl, g0⟩ := ints_at1 hV (k := 0) (by simp)
  skip
  obtain ⟨b1', o1', e1, g1⟩ := ints_at1 hV (k := 1) (by simp)
  cases e1
  skip
  simp only [List.getElem_cons_zero, List.getElem_cons_succ, List.length_cons, List.length_nil, Nat.zero_add, Nat.reduceAdd, Nat.add_zero] at *
  have hp := @pw_pos wd
  have hq := pw_le h8
  have hr : applyS 7 x y 0 % pw wd = bits .xor .i64 x y := by
    rw [xor_eq x y (by omega) (by omega) (by omega) (by omega)]
    unfold applyS; simp
    exact bits_in (Nat.xor_lt_two_pow (nat_bits hx) (nat_bits hy))
  have HR := Lib.hid hr
  clear hr hp hq hx hy h1 h8
  have HX := Lib.hid hX; have HW := Lib.hid hW
  clear hX hb hW hv hV
  go_enter Tryz.func91, Tryz.ntmps91
  go_upto_region 1 with fail
  rw [← HW.out]; clear HW
  generalize w.heap.size = B at *
  go_wp2_with fail
  go_quiet (fail)
  go_wp2_with fail
  go_ret
  exact ⟨by rw [HR.out]; first | done | rfl, by first | exact HX.out | exact HX.out.drewN _⟩
set_option maxRecDepth 100000 in
set_option maxHeartbeats 4000000 in
theorem apply_add (wd : Int) (x y : Int) (a : Option Addr) (n c : Nat) (va : Value) (w : World) (hv : Ints w va [x, y]) (h1 : 1 ≤ wd) (h8 : wd ≤ 8) (hx : 0 ≤ x ∧ x < pw wd) (hy : 0 ≤ y ∧ y < pw wd) :
    Calls Tryz.prog 91 #[.agg #[.int .i64 8, .int .i64 wd, .int .i64 0, .slice a n c], va] w fun r w' => r = .returned (.int .i64 (applyS 8 x y 0 % pw wd)) ∧ Ext w w' := by
  have u_ := And.intro h1 (And.intro h8 (And.intro hx hy)); clear u_
  obtain ⟨W, hW⟩ : ∃ W, W = w.alloc (.cells #[.int .i64 8, .int .i64 wd, .int .i64 0, .slice a n c] 26) := ⟨_, rfl⟩
  have hX : Ext w W := by rw [hW]; exact (Ext.refl _).alloc _
  have hb : W.heap[w.heap.size]? = some (.cells #[.int .i64 8, .int .i64 wd, .int .i64 0, .slice a n c] 26 (0, 0)) := by rw [hW]; exact heap_new _ _
  obtain ⟨p0, p1, p2, p3, _⟩ := cells_of_block hb
  have hV := hv.ext hX
  obtain ⟨va1, va3, rfl⟩ := SliceAt.shape hV
  obtain ⟨b', o', rfl, g0⟩ := ints_at1 hV (k := 0) (by simp)
  skip
  obtain ⟨b1', o1', e1, g1⟩ := ints_at1 hV (k := 1) (by simp)
  cases e1
  skip
  simp only [List.getElem_cons_zero, List.getElem_cons_succ, List.length_cons, List.length_nil, Nat.zero_add, Nat.reduceAdd, Nat.add_zero] at *
  have hp := @pw_pos wd
  have hq := pw_le h8
  obtain ⟨P, hP⟩ : ∃ P, pw wd = P := ⟨_, rfl⟩
  have hb0 : 0 ≤ x + y ∧ x + y ≤ 65536 := by
    rw [hP] at hx hy hp hq
    omega
  have hwr : wrap64 (x + y) = x + y := by unfold wrap64; omega
  have hwi : IntKind.i64.wrap (x + y) = x + y := by rw [IntKind.wrap_i64]; omega
  obtain ⟨R, hR⟩ : ∃ R, applyS 8 x y 0 % pw wd = R := ⟨_, rfl⟩
  have HR : Hid ((x + y) % pw wd = R) := by rw [Hid, ← hR]; simp [applyS]
  have HL : Hid (∀ q : Nat, Calls Tryz.prog 89 #[.int .i64 (x + y), .int .i64 wd] (W.drewN q) fun e w' => e = .returned (.int .i64 R) ∧ ∃ u, w' = W.drewN u) := fun q => by
    have := low_q (x + y) wd h1 h8 (W.drewN q)
    rw [HR.out] at this
    exact Calls.quiet_of_same this
  rw [hR]
  clear hR hP hp hq hx hy h1 h8 hb0
  have HX := Lib.hid hX; have HW := Lib.hid hW
  clear hX hb hW hv hV
  go_enter Tryz.func91, Tryz.ntmps91
  go_upto_region 1 with fail
  rw [← HW.out]; clear HW
  generalize w.heap.size = B at *
  go_wp2_with fail
  go_quiet ((go_at_call 89; with_reducible exact HL.out _))
  go_wp2_with fail
  go_ret
  exact ⟨rfl, by first | exact HX.out | exact HX.out.drewN _⟩
set_option maxRecDepth 100000 in
set_option maxHeartbeats 4000000 in
theorem apply_mul (wd : Int) (x y : Int) (a : Option Addr) (n c : Nat) (va : Value) (w : World) (hv : Ints w va [x, y]) (h1 : 1 ≤ wd) (h8 : wd ≤ 8) (hx : 0 ≤ x ∧ x < pw wd) (hy : 0 ≤ y ∧ y < pw wd) :
    Calls Tryz.prog 91 #[.agg #[.int .i64 10, .int .i64 wd, .int .i64 0, .slice a n c], va] w fun r w' => r = .returned (.int .i64 (applyS 10 x y 0 % pw wd)) ∧ Ext w w' := by
  have u_ := And.intro h1 (And.intro h8 (And.intro hx hy)); clear u_
  obtain ⟨W, hW⟩ : ∃ W, W = w.alloc (.cells #[.int .i64 10, .int .i64 wd, .int .i64 0, .slice a n c] 26) := ⟨_, rfl⟩
  have hX : Ext w W := by rw [hW]; exact (Ext.refl _).alloc _
  have hb : W.heap[w.heap.size]? = some (.cells #[.int .i64 10, .int .i64 wd, .int .i64 0, .slice a n c] 26 (0, 0)) := by rw [hW]; exact heap_new _ _
  obtain ⟨p0, p1, p2, p3, _⟩ := cells_of_block hb
  have hV := hv.ext hX
  obtain ⟨va1, va3, rfl⟩ := SliceAt.shape hV
  obtain ⟨b', o', rfl, g0⟩ := ints_at1 hV (k := 0) (by simp)
  skip
  obtain ⟨b1', o1', e1, g1⟩ := ints_at1 hV (k := 1) (by simp)
  cases e1
  skip
  simp only [List.getElem_cons_zero, List.getElem_cons_succ, List.length_cons, List.length_nil, Nat.zero_add, Nat.reduceAdd, Nat.add_zero] at *
  have hp := @pw_pos wd
  have hq := pw_le h8
  obtain ⟨P, hP⟩ : ∃ P, pw wd = P := ⟨_, rfl⟩
  have hb0 : 0 ≤ x * y ∧ x * y ≤ 65536 := by
    rw [hP] at hx hy hp hq
    exact ⟨Int.mul_nonneg hx.1 hy.1, Int.le_trans (Int.mul_le_mul (show x ≤ 256 by omega) (show y ≤ 256 by omega) hy.1 (by omega)) (by decide)⟩
  have hwr : wrap64 (x * y) = x * y := by unfold wrap64; omega
  have hwi : IntKind.i64.wrap (x * y) = x * y := by rw [IntKind.wrap_i64]; omega
  obtain ⟨R, hR⟩ : ∃ R, applyS 10 x y 0 % pw wd = R := ⟨_, rfl⟩
  have HR : Hid ((x * y) % pw wd = R) := by rw [Hid, ← hR]; simp [applyS]
  have HL : Hid (∀ q : Nat, Calls Tryz.prog 89 #[.int .i64 (x * y), .int .i64 wd] (W.drewN q) fun e w' => e = .returned (.int .i64 R) ∧ ∃ u, w' = W.drewN u) := fun q => by
    have := low_q (x * y) wd h1 h8 (W.drewN q)
    rw [HR.out] at this
    exact Calls.quiet_of_same this
  rw [hR]
  clear hR hP hp hq hx hy h1 h8 hb0
  have HX := Lib.hid hX; have HW := Lib.hid hW
  clear hX hb hW hv hV
  go_enter Tryz.func91, Tryz.ntmps91
  go_upto_region 1 with fail
  rw [← HW.out]; clear HW
  generalize w.heap.size = B at *
  go_wp2_with fail
  go_quiet ((go_at_call 89; with_reducible exact HL.out _))
  go_wp2_with fail
  go_ret
  exact ⟨rfl, by first | exact HX.out | exact HX.out.drewN _⟩
set_option maxRecDepth 100000 in
set_option maxHeartbeats 4000000 in
theorem apply_sub (wd : Int) (x y : Int) (a : Option Addr) (n c : Nat) (va : Value) (w : World) (hv : Ints w va [x, y]) (h1 : 1 ≤ wd) (h8 : wd ≤ 8) (hx : 0 ≤ x ∧ x < pw wd) (hy : 0 ≤ y ∧ y < pw wd) :
    Calls Tryz.prog 91 #[.agg #[.int .i64 9, .int .i64 wd, .int .i64 0, .slice a n c], va] w fun r w' => r = .returned (.int .i64 (applyS 9 x y 0 % pw wd)) ∧ Ext w w' := by
  have u_ := And.intro h1 (And.intro h8 (And.intro hx hy)); clear u_
  obtain ⟨W, hW⟩ : ∃ W, W = w.alloc (.cells #[.int .i64 9, .int .i64 wd, .int .i64 0, .slice a n c] 26) := ⟨_, rfl⟩
  have hX : Ext w W := by rw [hW]; exact (Ext.refl _).alloc _
  have hb : W.heap[w.heap.size]? = some (.cells #[.int .i64 9, .int .i64 wd, .int .i64 0, .slice a n c] 26 (0, 0)) := by rw [hW]; exact heap_new _ _
  obtain ⟨p0, p1, p2, p3, _⟩ := cells_of_block hb
  have hV := hv.ext hX
  obtain ⟨va1, va3, rfl⟩ := SliceAt.shape hV
  obtain ⟨b', o', rfl, g0⟩ := ints_at1 hV (k := 0) (by simp)
  skip
  obtain ⟨b1', o1', e1, g1⟩ := ints_at1 hV (k := 1) (by simp)
  cases e1
  skip
  simp only [List.getElem_cons_zero, List.getElem_cons_succ, List.length_cons, List.length_nil, Nat.zero_add, Nat.reduceAdd, Nat.add_zero] at *
  have hp := @pw_pos wd
  have hq := pw_le h8
  obtain ⟨R, hR⟩ : ∃ R, applyS 9 x y 0 % pw wd = R := ⟨_, rfl⟩
  have HR : Hid ((x - y + pw wd) % pw wd = R) := by rw [Hid, ← hR]; simp [applyS]
  have HPQ : Hid (∀ q : Nat, Calls Tryz.prog 87 #[.int .i64 wd] (W.drewN q) fun e w' => e = .returned (.int .i64 (pw wd)) ∧ ∃ u, w' = W.drewN u) := fun q => (Power_any wd (W.drewN q) (by omega)).mono fun _ _ h => ⟨h.1, q, h.2.symm⟩
  have HL : Hid (∀ q : Nat, Calls Tryz.prog 89 #[.int .i64 (x - y + pw wd), .int .i64 wd] (W.drewN q) fun e w' => e = .returned (.int .i64 R) ∧ ∃ u, w' = W.drewN u) := fun q => by
    have := low_q (x - y + pw wd) wd h1 h8 (W.drewN q)
    rw [HR.out] at this
    exact Calls.quiet_of_same this
  obtain ⟨P, hP⟩ : ∃ P, pw wd = P := ⟨_, rfl⟩
  rw [hP] at hx hy hp hq HPQ HL
  have hwr : wrap64 (x - y) = x - y := by unfold wrap64; omega
  have hwi : IntKind.i64.wrap (x - y) = x - y := by rw [IntKind.wrap_i64]; omega
  have hwr2 : wrap64 (x - y + P) = x - y + P := by unfold wrap64; omega
  have hwi2 : IntKind.i64.wrap (x - y + P) = x - y + P := by rw [IntKind.wrap_i64]; omega
  rw [hR]
  clear hR hP hp hq hx hy h1 h8 HR
  have HX := Lib.hid hX; have HW := Lib.hid hW
  clear hX hb hW hv hV
  go_enter Tryz.func91, Tryz.ntmps91
  go_upto_region 1 with fail
  rw [← HW.out]; clear HW
  generalize w.heap.size = B at *
  go_wp2_with fail
  go_quiet (first | (go_at_call 87; with_reducible exact HPQ.out _) | (go_at_call 89; with_reducible exact HL.out _))
  go_wp2_with fail
  go_ret
  exact ⟨rfl, by first | exact HX.out | exact HX.out.drewN _⟩
set_option maxRecDepth 100000 in
set_option maxHeartbeats 4000000 in
theorem apply_not (wd : Int) (x : Int) (a : Option Addr) (n c : Nat) (va : Value) (w : World) (hv : Ints w va [x]) (h1 : 1 ≤ wd) (h8 : wd ≤ 8) (hx : 0 ≤ x ∧ x < pw wd) :
    Calls Tryz.prog 91 #[.agg #[.int .i64 4, .int .i64 wd, .int .i64 0, .slice a n c], va] w fun r w' => r = .returned (.int .i64 (applyS 4 x 0 0 % pw wd)) ∧ Ext w w' := by
  have u_ := And.intro h1 (And.intro h8 hx); clear u_
  obtain ⟨W, hW⟩ : ∃ W, W = w.alloc (.cells #[.int .i64 4, .int .i64 wd, .int .i64 0, .slice a n c] 26) := ⟨_, rfl⟩
  have hX : Ext w W := by rw [hW]; exact (Ext.refl _).alloc _
  have hb : W.heap[w.heap.size]? = some (.cells #[.int .i64 4, .int .i64 wd, .int .i64 0, .slice a n c] 26 (0, 0)) := by rw [hW]; exact heap_new _ _
  obtain ⟨p0, p1, p2, p3, _⟩ := cells_of_block hb
  have hV := hv.ext hX
  obtain ⟨va1, va3, rfl⟩ := SliceAt.shape hV
  obtain ⟨b', o', rfl, g0⟩ := ints_at1 hV (k := 0) (by simp)
  skip
  simp only [List.getElem_cons_zero, List.length_cons, List.length_nil, Nat.zero_add, Nat.add_zero] at *
  have hp := @pw_pos wd
  have hq := pw_le h8
  have HPQ : Hid (∀ q : Nat, Calls Tryz.prog 87 #[.int .i64 wd] (W.drewN q) fun e w' => e = .returned (.int .i64 (pw wd)) ∧ ∃ u, w' = W.drewN u) := fun q => (Power_any wd (W.drewN q) (by omega)).mono fun _ _ h => ⟨h.1, q, h.2.symm⟩
  have HR : Hid (applyS 4 x 0 0 % pw wd = pw wd - 1 - x) := by unfold Hid applyS; rw [if_pos rfl, va_neg x _ hx.1 hx.2]
  obtain ⟨P, hP⟩ : ∃ P, pw wd = P := ⟨_, rfl⟩
  rw [hP] at hx hp hq HPQ HR ⊢
  have hwr : wrap64 (P - 1) = P - 1 := by unfold wrap64; omega
  have hwi : IntKind.i64.wrap (P - 1) = P - 1 := by rw [IntKind.wrap_i64]; omega
  have hwr2 : wrap64 (P - 1 - x) = P - 1 - x := by unfold wrap64; omega
  have hwi2 : IntKind.i64.wrap (P - 1 - x) = P - 1 - x := by rw [IntKind.wrap_i64]; omega
  clear hP hp hq hx h1 h8
  have HX := Lib.hid hX; have HW := Lib.hid hW
  clear hX hb hW hv hV
  go_enter Tryz.func91, Tryz.ntmps91
  go_upto_region 1 with fail
  rw [← HW.out]; clear HW
  generalize w.heap.size = B at *
  go_wp2_with fail
  go_quiet ((go_at_call 87; with_reducible exact HPQ.out _))
  go_wp2_with fail
  go_ret
  exact ⟨by rw [HR.out]; first | done | rfl, by first | exact HX.out | exact HX.out.drewN _⟩
set_option maxRecDepth 100000 in
set_option maxHeartbeats 4000000 in
theorem apply_eq (wd : Int) (x y : Int) (a : Option Addr) (n c : Nat) (va : Value) (w : World) (hv : Ints w va [x, y]) (h1 : 1 ≤ wd) (h8 : wd ≤ 8) (hx : 0 ≤ x ∧ x < 256) (hy : 0 ≤ y ∧ y < 256) :
    Calls Tryz.prog 91 #[.agg #[.int .i64 11, .int .i64 1, .int .i64 0, .slice a n c], va] w fun r w' => r = .returned (.int .i64 (applyS 11 x y 0 % pw 1)) ∧ Ext w w' := by
  have u_ := And.intro h1 (And.intro h8 (And.intro hx hy)); clear u_
  obtain ⟨W, hW⟩ : ∃ W, W = w.alloc (.cells #[.int .i64 11, .int .i64 1, .int .i64 0, .slice a n c] 26) := ⟨_, rfl⟩
  have hX : Ext w W := by rw [hW]; exact (Ext.refl _).alloc _
  have hb : W.heap[w.heap.size]? = some (.cells #[.int .i64 11, .int .i64 1, .int .i64 0, .slice a n c] 26 (0, 0)) := by rw [hW]; exact heap_new _ _
  obtain ⟨p0, p1, p2, p3, _⟩ := cells_of_block hb
  have hV := hv.ext hX
  obtain ⟨va1, va3, rfl⟩ := SliceAt.shape hV
  obtain ⟨b', o', rfl, g0⟩ := ints_at1 hV (k := 0) (by simp)
  skip
  obtain ⟨b1', o1', e1, g1⟩ := ints_at1 hV (k := 1) (by simp)
  cases e1
  skip
  simp only [List.getElem_cons_zero, List.getElem_cons_succ, List.length_cons, List.length_nil, Nat.zero_add, Nat.reduceAdd, Nat.add_zero] at *
  clear h1 h8
  have HX := Lib.hid hX; have HW := Lib.hid hW
  clear hX hb hW hv hV
  go_enter Tryz.func91, Tryz.ntmps91
  go_upto_region 1 with fail
  rw [← HW.out]; clear HW
  generalize w.heap.size = B at *
  by_cases hc : x = y
  · subst hc
    have HR : Hid (applyS 11 x x 0 % pw 1 = 1) := by simp [Hid, applyS, pw]
    have hbb : (x == x) = true := by simp
    go_wp2_with fail
    go_quiet (fail)
    go_wp2_with fail
    go_ret
    exact ⟨by rw [HR.out]; first | done | rfl, by first | exact HX.out | exact HX.out.drewN _⟩
  · have HR : Hid (applyS 11 x y 0 % pw 1 = 0) := by simp [Hid, applyS, pw, hc]
    have hbb : (x == y) = false := by simp [hc]
    go_wp2_with fail
    go_quiet (fail)
    go_wp2_with fail
    go_ret
    exact ⟨by rw [HR.out]; first | done | rfl, by first | exact HX.out | exact HX.out.drewN _⟩
set_option maxRecDepth 100000 in
set_option maxHeartbeats 4000000 in
theorem apply_lt (wd : Int) (x y : Int) (a : Option Addr) (n c : Nat) (va : Value) (w : World) (hv : Ints w va [x, y]) (h1 : 1 ≤ wd) (h8 : wd ≤ 8) (hx : 0 ≤ x ∧ x < 256) (hy : 0 ≤ y ∧ y < 256) :
    Calls Tryz.prog 91 #[.agg #[.int .i64 12, .int .i64 1, .int .i64 0, .slice a n c], va] w fun r w' => r = .returned (.int .i64 (applyS 12 x y 0 % pw 1)) ∧ Ext w w' := by
  have u_ := And.intro h1 (And.intro h8 (And.intro hx hy)); clear u_
  obtain ⟨W, hW⟩ : ∃ W, W = w.alloc (.cells #[.int .i64 12, .int .i64 1, .int .i64 0, .slice a n c] 26) := ⟨_, rfl⟩
  have hX : Ext w W := by rw [hW]; exact (Ext.refl _).alloc _
  have hb : W.heap[w.heap.size]? = some (.cells #[.int .i64 12, .int .i64 1, .int .i64 0, .slice a n c] 26 (0, 0)) := by rw [hW]; exact heap_new _ _
  obtain ⟨p0, p1, p2, p3, _⟩ := cells_of_block hb
  have hV := hv.ext hX
  obtain ⟨va1, va3, rfl⟩ := SliceAt.shape hV
  obtain ⟨b', o', rfl, g0⟩ := ints_at1 hV (k := 0) (by simp)
  skip
  obtain ⟨b1', o1', e1, g1⟩ := ints_at1 hV (k := 1) (by simp)
  cases e1
  skip
  simp only [List.getElem_cons_zero, List.getElem_cons_succ, List.length_cons, List.length_nil, Nat.zero_add, Nat.reduceAdd, Nat.add_zero] at *
  clear h1 h8
  have HX := Lib.hid hX; have HW := Lib.hid hW
  clear hX hb hW hv hV
  go_enter Tryz.func91, Tryz.ntmps91
  go_upto_region 1 with fail
  rw [← HW.out]; clear HW
  generalize w.heap.size = B at *
  by_cases hc : x < y
  · skip
    have HR : Hid (applyS 12 x y 0 % pw 1 = 1) := by simp [Hid, applyS, pw, hc]
    have hbb : decide (x < y) = true := decide_eq_true hc
    go_wp2_with fail
    go_quiet (fail)
    go_wp2_with fail
    go_ret
    exact ⟨by rw [HR.out]; first | done | rfl, by first | exact HX.out | exact HX.out.drewN _⟩
  · have HR : Hid (applyS 12 x y 0 % pw 1 = 0) := by simp [Hid, applyS, pw, hc]
    have hbb : decide (x < y) = false := decide_eq_false hc
    go_wp2_with fail
    go_quiet (fail)
    go_wp2_with fail
    go_ret
    exact ⟨by rw [HR.out]; first | done | rfl, by first | exact HX.out | exact HX.out.drewN _⟩
set_option maxRecDepth 100000 in
set_option maxHeartbeats 4000000 in
theorem apply_le (wd : Int) (x y : Int) (a : Option Addr) (n c : Nat) (va : Value) (w : World) (hv : Ints w va [x, y]) (h1 : 1 ≤ wd) (h8 : wd ≤ 8) (hx : 0 ≤ x ∧ x < 256) (hy : 0 ≤ y ∧ y < 256) :
    Calls Tryz.prog 91 #[.agg #[.int .i64 13, .int .i64 1, .int .i64 0, .slice a n c], va] w fun r w' => r = .returned (.int .i64 (applyS 13 x y 0 % pw 1)) ∧ Ext w w' := by
  have u_ := And.intro h1 (And.intro h8 (And.intro hx hy)); clear u_
  obtain ⟨W, hW⟩ : ∃ W, W = w.alloc (.cells #[.int .i64 13, .int .i64 1, .int .i64 0, .slice a n c] 26) := ⟨_, rfl⟩
  have hX : Ext w W := by rw [hW]; exact (Ext.refl _).alloc _
  have hb : W.heap[w.heap.size]? = some (.cells #[.int .i64 13, .int .i64 1, .int .i64 0, .slice a n c] 26 (0, 0)) := by rw [hW]; exact heap_new _ _
  obtain ⟨p0, p1, p2, p3, _⟩ := cells_of_block hb
  have hV := hv.ext hX
  obtain ⟨va1, va3, rfl⟩ := SliceAt.shape hV
  obtain ⟨b', o', rfl, g0⟩ := ints_at1 hV (k := 0) (by simp)
  skip
  obtain ⟨b1', o1', e1, g1⟩ := ints_at1 hV (k := 1) (by simp)
  cases e1
  skip
  simp only [List.getElem_cons_zero, List.getElem_cons_succ, List.length_cons, List.length_nil, Nat.zero_add, Nat.reduceAdd, Nat.add_zero] at *
  clear h1 h8
  have HX := Lib.hid hX; have HW := Lib.hid hW
  clear hX hb hW hv hV
  go_enter Tryz.func91, Tryz.ntmps91
  go_upto_region 1 with fail
  rw [← HW.out]; clear HW
  generalize w.heap.size = B at *
  by_cases hc : x ≤ y
  · skip
    have HR : Hid (applyS 13 x y 0 % pw 1 = 1) := by simp [Hid, applyS, pw, hc]
    have hbb : decide (x ≤ y) = true := decide_eq_true hc
    go_wp2_with fail
    go_quiet (fail)
    go_wp2_with fail
    go_ret
    exact ⟨by rw [HR.out]; first | done | rfl, by first | exact HX.out | exact HX.out.drewN _⟩
  · have HR : Hid (applyS 13 x y 0 % pw 1 = 0) := by simp [Hid, applyS, pw, hc]
    have hbb : decide (x ≤ y) = false := decide_eq_false hc
    go_wp2_with fail
    go_quiet (fail)
    go_wp2_with fail
    go_ret
    exact ⟨by rw [HR.out]; first | done | rfl, by first | exact HX.out | exact HX.out.drewN _⟩
set_option maxRecDepth 100000 in
set_option maxHeartbeats 4000000 in
theorem apply_ite (wd : Int) (x y z : Int) (a : Option Addr) (n c : Nat) (va : Value) (w : World) (hv : Ints w va [x, y, z]) (h1 : 1 ≤ wd) (h8 : wd ≤ 8) (hx : x = 0 ∨ x = 1) (hy : 0 ≤ y ∧ y < pw wd) (hz : 0 ≤ z ∧ z < pw wd) :
    Calls Tryz.prog 91 #[.agg #[.int .i64 14, .int .i64 wd, .int .i64 0, .slice a n c], va] w fun r w' => r = .returned (.int .i64 (applyS 14 x y z % pw wd)) ∧ Ext w w' := by
  have u_ := And.intro h1 (And.intro h8 (And.intro hx hy)); clear u_
  obtain ⟨W, hW⟩ : ∃ W, W = w.alloc (.cells #[.int .i64 14, .int .i64 wd, .int .i64 0, .slice a n c] 26) := ⟨_, rfl⟩
  have hX : Ext w W := by rw [hW]; exact (Ext.refl _).alloc _
  have hb : W.heap[w.heap.size]? = some (.cells #[.int .i64 14, .int .i64 wd, .int .i64 0, .slice a n c] 26 (0, 0)) := by rw [hW]; exact heap_new _ _
  obtain ⟨p0, p1, p2, p3, _⟩ := cells_of_block hb
  have hV := hv.ext hX
  obtain ⟨va1, va3, rfl⟩ := SliceAt.shape hV
  obtain ⟨b', o', rfl, g0⟩ := ints_at1 hV (k := 0) (by simp)
  skip
  obtain ⟨b1', o1', e1, g1⟩ := ints_at1 hV (k := 1) (by simp)
  cases e1
  skip
  obtain ⟨b2', o2', e2, g2⟩ := ints_at1 hV (k := 2) (by simp)
  cases e2
  skip
  simp only [List.getElem_cons_zero, List.getElem_cons_succ, List.length_cons, List.length_nil, Nat.zero_add, Nat.reduceAdd, Nat.add_zero] at *
  have HR0 : Hid (x = 0 → applyS 14 x y z % pw wd = z) := by rintro rfl; simp [applyS]; exact Int.emod_eq_of_lt hz.1 hz.2
  have HR1 : Hid (x = 1 → applyS 14 x y z % pw wd = y) := by rintro rfl; simp [applyS]; exact Int.emod_eq_of_lt hy.1 hy.2
  clear hy hz h1 h8
  have HX := Lib.hid hX; have HW := Lib.hid hW
  clear hX hb hW hv hV
  go_enter Tryz.func91, Tryz.ntmps91
  go_upto_region 1 with fail
  rw [← HW.out]; clear HW
  generalize w.heap.size = B at *
  rcases hx with rfl | rfl
  · have HR : Hid (applyS 14 0 y z % pw wd = z) := HR0.out rfl
    clear HR0 HR1
    go_wp2_with fail
    go_ret
    exact ⟨by rw [HR.out]; first | done | rfl, by first | exact HX.out | exact HX.out.drewN _⟩
  · have HR : Hid (applyS 14 1 y z % pw wd = y) := HR1.out rfl
    clear HR0 HR1
    go_wp2_with fail
    go_ret
    exact ⟨by rw [HR.out]; first | done | rfl, by first | exact HX.out | exact HX.out.drewN _⟩
end Go.Proofs.YtlnahhlddekhoaaGreatDoor
namespace Go.Proofs.YtlnahhlddekhoaaGreatDoor
open Go.RowKit

theorem over_no_kid {cells : List CellD} {pair : Bool} {ks : List E} {k : Nat} (hk : k < ks.length) (h : ks[k].leaves.all (okLeaf cells pair) = false) : (leavesAll ks).all (okLeaf cells pair) = false := by
  cases hq : (leavesAll ks).all (okLeaf cells pair) with
  | false => rfl
  | true =>
    rw [List.all_eq_true] at hq
    have : ks[k].leaves.all (okLeaf cells pair) = true := by
      rw [List.all_eq_true]
      intro x hx
      exact hq x (mem_leavesAll.2 ⟨_, List.getElem_mem hk, hx⟩)
    rw [h] at this; cases this
theorem over_yes {cells : List CellD} {pair : Bool} {ks : List E} (h : ∀ (i : Nat) (h : i < ks.length), ks[i].leaves.all (okLeaf cells pair) = true) : (leavesAll ks).all (okLeaf cells pair) = true := by
  rw [List.all_eq_true]
  intro x hx
  obtain ⟨e, he, hxe⟩ := mem_leavesAll.1 hx
  obtain ⟨i, hi, rfl⟩ := List.mem_iff_getElem.1 he
  exact List.all_eq_true.1 (h i hi) x hxe
theorem deep_kid {op wd n : Int} {ks : List E} {d k : Nat} (h : (E.mk op wd n ks).deep d = true) (hk : k < ks.length) : ks[k].deep (d - 1) = true := by
  simp only [E.deep, Bool.and_eq_true] at h
  exact (deepAll_iff _ _).1 h.2 _ (List.getElem_mem hk)
theorem deep_shape {op wd n : Int} {ks : List E} {d : Nat} (h : (E.mk op wd n ks).deep d = true) : shapedW op wd n (ks.map E.wd) = true := by
  simp only [E.deep, Bool.and_eq_true] at h
  exact h.1.2
/-- A node with kids is no cell. -/
theorem deep_inner {op wd n : Int} {ks : List E} {d : Nat} (h : (E.mk op wd n ks).deep d = true) (hk : ks ≠ []) : op ≠ 2 ∧ op ≠ 3 := by
  have hs := deep_shape h
  constructor
  · rintro rfl
    have := (shapedW_cell hs (.inl rfl)).1
    exact hk (by simpa using this)
  · rintro rfl
    have := (shapedW_cell hs (.inr rfl)).1
    exact hk (by simpa using this)

set_option maxHeartbeats 2000000 in
theorem Rover_leaf (op wd : Int) (m : Nat) (cells : List CellD) (cv : Value) (pair : Bool) (a : Option Addr) (cap : Nat) (w : World) (ho : op = 1 ∨ op = 2 ∨ op = 3) (hC : Cells w cv cells) :
    Calls Tryz.prog 83 #[.agg #[.int .i64 op, .int .i64 wd, .int .i64 m, .slice a 0 cap], cv, .bool pair] w fun r w' => r = .returned (.bool (okLeaf cells pair (.mk op wd m []))) ∧ Ext w w' := by
  obtain ⟨ca, cc, rfl⟩ := SliceAt.shape hC
  have hcl := SliceAt.len_le hC
  have HC := Lib.hid hC; clear hC
  rcases ho with rfl | rfl | rfl
  · have HO : Hid (okLeaf cells pair (.mk 1 wd m []) = true) := by simp [Hid, okLeaf]
    go_enter Tryz.func83, Tryz.ntmps83
    go_wp2_with fail
    go_quiet (fail)
    go_wp2_with fail
    go_loopw [7] (fun i wr => i = .int .i64 (0 : Nat) ∧ Ext w wr ∧ wr.cell? ⟨w.heap.size, 3, none⟩ = some (.slice a 0 cap)) (fun i _ => 0)
    case atStart => exact ⟨rfl, ((Ext.refl w).alloc _).drewN _, by simp⟩
    case round =>
      obtain ⟨rfl, hX, c3⟩ := hrel
      have HX := Lib.hid hX; clear hX
      go_wp2_with fail
      go_ret
      exact ⟨by rw [HO.out]; rfl, HX.out⟩
  · by_cases hm : m < cells.length
    · obtain ⟨cb, co, rfl, hcW⟩ : ∃ (cb co : Nat), ca = some ⟨cb, co, none⟩ ∧ ∀ w', Ext w w' → w'.cell? ⟨cb, co + m * 6 + 1, none⟩ = some (.int .i64 cells[m].W) := by
        rcases HC.out with ⟨_, ee⟩ | ⟨cb, co, cap', ee, _, hcc⟩
        · rw [ee] at hm; simp at hm
        cases ee
        exact ⟨cb, co, rfl, fun w' hx => hx.cell (hcc m hm).2.1⟩
      have hW0 := hcW _ (((Ext.refl w).alloc (.cells #[.int .i64 2, .int .i64 wd, .int .i64 m, .slice a 0 cap] 26)))
      have hmI : (m : Int) < (cells.length : Int) := by omega
      have hm0 : (0 : Int) ≤ (m : Int) := by omega
      have HCW := Lib.hid hcW
      clear hcW
      have HG : Hid ((cells.map CellD.W).getD m 0 = cells[m].W) := by unfold Hid; simp [List.getD, hm]
      generalize cells[m].W = cw at *
      by_cases hwe : cw = wd
      · subst hwe
        have hb : (cw != cw) = false := by unfold bne; simp
        have HO : Hid (okLeaf cells pair (.mk 2 cw m []) = true) := by
          have := HG.out
          simp only [Hid, okLeaf, E.op_mk, E.wd_mk, E.n_mk, Int.toNat_natCast, this]; simp [hm]
        clear HG
        go_enter Tryz.func83, Tryz.ntmps83
        go_wp2_with fail
        go_quiet (fail)
        go_wp2_with fail
        go_loopw [7] (fun i wr => i = .int .i64 (0 : Nat) ∧ Ext w wr ∧ wr.cell? ⟨w.heap.size, 3, none⟩ = some (.slice a 0 cap)) (fun i _ => 0)
        case atStart => exact ⟨rfl, ((Ext.refl w).alloc _).drewN _, by simp⟩
        case round =>
          obtain ⟨rfl, hX, c3⟩ := hrel
          have HX := Lib.hid hX; clear hX
          go_wp2_with fail
          go_ret
          exact ⟨by rw [HO.out]; rfl, HX.out⟩

      · have hb : (cw != wd) = true := by rw [bne_iff_ne]; exact hwe
        have HO : Hid (okLeaf cells pair (.mk 2 wd m []) = false) := by
          have := HG.out
          simp only [Hid, okLeaf, E.op_mk, E.wd_mk, E.n_mk, Int.toNat_natCast, this]; simp [hm, hwe]
        clear HG
        go_enter Tryz.func83, Tryz.ntmps83
        go_wp2_with fail
        go_quiet (fail)
        go_wp2_with fail
        go_ret
        exact ⟨by rw [HO.out]; rfl, by first | exact ((Ext.refl w).alloc _).drewN _ | exact (Ext.refl w).alloc _ | exact (((Ext.refl w).alloc _).drewN _).drewN _⟩

    · have hmI : (cells.length : Int) ≤ (m : Int) := by omega
      have HO : Hid (okLeaf cells pair (.mk 2 wd m []) = false) := by simp only [Hid, okLeaf, E.op_mk, E.wd_mk, E.n_mk, Int.toNat_natCast]; simp [hm]
      go_enter Tryz.func83, Tryz.ntmps83
      go_wp2_with fail
      go_quiet (fail)
      go_wp2_with fail
      go_ret
      exact ⟨by rw [HO.out]; rfl, by first | exact ((Ext.refl w).alloc _).drewN _ | exact (Ext.refl w).alloc _ | exact (((Ext.refl w).alloc _).drewN _).drewN _⟩
  · cases pair with
    | false =>
      have HO : Hid (okLeaf cells false (.mk 3 wd m []) = false) := by simp [Hid, okLeaf]
      go_enter Tryz.func83, Tryz.ntmps83
      go_wp2_with fail
      go_ret
      exact ⟨by rw [HO.out]; rfl, by first | exact ((Ext.refl w).alloc _).drewN _ | exact (Ext.refl w).alloc _ | exact (((Ext.refl w).alloc _).drewN _).drewN _⟩
    | true =>
      by_cases hm : m < cells.length
      · obtain ⟨cb, co, rfl, hcW⟩ : ∃ (cb co : Nat), ca = some ⟨cb, co, none⟩ ∧ ∀ w', Ext w w' → w'.cell? ⟨cb, co + m * 6 + 1, none⟩ = some (.int .i64 cells[m].W) := by
          rcases HC.out with ⟨_, ee⟩ | ⟨cb, co, cap', ee, _, hcc⟩
          · rw [ee] at hm; simp at hm
          cases ee
          exact ⟨cb, co, rfl, fun w' hx => hx.cell (hcc m hm).2.1⟩
        have hW0 := hcW _ (((Ext.refl w).alloc (.cells #[.int .i64 3, .int .i64 wd, .int .i64 m, .slice a 0 cap] 26)))
        have hmI : (m : Int) < (cells.length : Int) := by omega
        have hm0 : (0 : Int) ≤ (m : Int) := by omega
        have HCW := Lib.hid hcW
        clear hcW
        have HG : Hid ((cells.map CellD.W).getD m 0 = cells[m].W) := by unfold Hid; simp [List.getD, hm]
        generalize cells[m].W = cw at *
        by_cases hwe : cw = wd
        · subst hwe
          have hb : (cw != cw) = false := by unfold bne; simp
          have HO : Hid (okLeaf cells true (.mk 3 cw m []) = true) := by
            have := HG.out
            simp only [Hid, okLeaf, E.op_mk, E.wd_mk, E.n_mk, Int.toNat_natCast, this]; simp [hm]
          clear HG
          go_enter Tryz.func83, Tryz.ntmps83
          go_wp2_with fail
          go_quiet (fail)
          go_wp2_with fail
          go_loopw [7] (fun i wr => i = .int .i64 (0 : Nat) ∧ Ext w wr ∧ wr.cell? ⟨w.heap.size, 3, none⟩ = some (.slice a 0 cap)) (fun i _ => 0)
          case atStart => exact ⟨rfl, ((Ext.refl w).alloc _).drewN _, by simp⟩
          case round =>
            obtain ⟨rfl, hX, c3⟩ := hrel
            have HX := Lib.hid hX; clear hX
            go_wp2_with fail
            go_ret
            exact ⟨by rw [HO.out]; rfl, HX.out⟩

        · have hb : (cw != wd) = true := by rw [bne_iff_ne]; exact hwe
          have HO : Hid (okLeaf cells true (.mk 3 wd m []) = false) := by
            have := HG.out
            simp only [Hid, okLeaf, E.op_mk, E.wd_mk, E.n_mk, Int.toNat_natCast, this]; simp [hm, hwe]
          clear HG
          go_enter Tryz.func83, Tryz.ntmps83
          go_wp2_with fail
          go_quiet (fail)
          go_wp2_with fail
          go_ret
          exact ⟨by rw [HO.out]; rfl, by first | exact ((Ext.refl w).alloc _).drewN _ | exact (Ext.refl w).alloc _ | exact (((Ext.refl w).alloc _).drewN _).drewN _⟩

      · have hmI : (cells.length : Int) ≤ (m : Int) := by omega
        have HO : Hid (okLeaf cells true (.mk 3 wd m []) = false) := by simp only [Hid, okLeaf, E.op_mk, E.wd_mk, E.n_mk, Int.toNat_natCast]; simp [hm]
        go_enter Tryz.func83, Tryz.ntmps83
        go_wp2_with fail
        go_quiet (fail)
        go_wp2_with fail
        go_ret
        exact ⟨by rw [HO.out]; rfl, by first | exact ((Ext.refl w).alloc _).drewN _ | exact (Ext.refl w).alloc _ | exact (((Ext.refl w).alloc _).drewN _).drewN _⟩

set_option maxHeartbeats 4000000 in
theorem Rover_any (N : Nat) (cells : List CellD) (cv : Value) (pair : Bool) : ∀ (e : E) (d : Nat) (v : Value) (w : World), e.size ≤ N → e.deep d = true → EVal w v e → Cells w cv cells →
    Calls Tryz.prog 83 #[v, cv, .bool pair] w fun r w' => r = .returned (.bool (e.leaves.all (okLeaf cells pair))) ∧ Ext w w' := by
  induction N with
  | zero => intro e d v w h; have := e.size_pos; omega
  | succ N ih =>
    intro e d v w hN hd he hC
    obtain ⟨kv, rfl, hk⟩ := he
    obtain ⟨op, wd, n, ks⟩ := e
    simp only [E.op_mk, E.wd_mk, E.n_mk, E.kids_mk] at hk ⊢
    obtain ⟨a, cap, rfl⟩ := SliceAt.shape hk
    by_cases hks : ks = []
    · subst hks
      obtain ⟨h1, h2, _⟩ := shapedW_leaf (by simpa using deep_shape hd)
      obtain ⟨m, rfl⟩ := Int.eq_ofNat_of_zero_le h2
      rw [leaves_nil]
      simp only [List.all_cons, List.all_nil, Bool.and_true]
      exact Rover_leaf op wd m cells cv pair a cap w h1 hC
    · obtain ⟨n2, n3⟩ := deep_inner hd hks
      rw [leaves_cons hks]
      have hlen : ks.length ≤ 9223372036854775807 := SliceAt.len_le hk
      have hb2 : (op == 2) = false := by simpa using n2
      have hb3 : (op == 3) = false := by simpa using n3
      have IH := Lib.hid ih; have HK := Lib.hid hk; have HC := Lib.hid hC; have HD := Lib.hid hd
      clear ih hk hC hd hks n2 n3
      obtain ⟨ca, cc, rfl⟩ := SliceAt.shape HC.out
      go_enter Tryz.func83, Tryz.ntmps83
      go_wp2_with fail
      go_quiet (fail)
      go_wp2_with fail
      go_loopw [7] (fun i wr => ∃ (k : Nat), k ≤ ks.length ∧ i = .int .i64 k ∧ Ext w wr ∧ wr.cell? ⟨w.heap.size, 3, none⟩ = some (.slice a ks.length cap) ∧ ∀ (j : Nat) (h : j < ks.length), j < k → ks[j].leaves.all (okLeaf cells pair) = true) (fun i _ => ks.length - (intOf i).toNat)
      case atStart => exact ⟨0, Nat.zero_le _, rfl, by first | exact ((Ext.refl w).alloc _).drewN _ | exact (Ext.refl w).alloc _, by simp, fun j _ h => absurd h (Nat.not_lt_zero _)⟩
      case round =>
        obtain ⟨k, hk, rfl, hX, c3, hR⟩ := hrel
        have HX := Lib.hid hX; have HR := Lib.hid hR; have HC3 := Lib.hid c3; clear hX hR
        by_cases hlt : k < ks.length
        · rcases HK.out with ⟨_, e⟩ | ⟨b', o', cap', e, _, hk'⟩
          · rw [e] at hlt; simp at hlt
          cases e
          have hE := (hk' k hlt).ext HX.out
          obtain ⟨g0, g1, g2, kv, g3, hkk⟩ := hE.cells
          obtain ⟨ka, kc, rfl⟩ := SliceAt.shape hkk
          have hin : ks[k] ∈ ks := List.getElem_mem hlt
          have hsz : ks[k].size ≤ N := by have := size_kid (op := op) (wd := wd) (n := n) hin; omega
          have HE : Hid (EVal wr (.agg #[.int .i64 ks[k].op, .int .i64 ks[k].wd, .int .i64 ks[k].n, .slice ka ks[k].kids.length kc]) ks[k]) := ⟨_, rfl, hkk⟩
          clear hkk hk' hE
          go_wp2_with fail
          refine (IH.out _ _ _ _ hsz (deep_kid HD.out hlt) HE.out (HC.out.ext HX.out)).mono ?_
          rintro r w2 ⟨rfl, hx2⟩
          have HX2 := Lib.hid (HX.out.trans hx2)
          have HC32 := Lib.hid (hx2.cell HC3.out)
          clear hx2
          cases hq : ks[k].leaves.all (okLeaf cells pair) with
          | false =>
            have HF : Hid ((leavesAll ks).all (okLeaf cells pair) = false) := over_no_kid hlt hq
            clear hq
            go_wp2_with fail
            go_ret
            exact ⟨by rw [HF.out]; rfl, HX2.out⟩
          | true =>
            have HQ := Lib.hid hq; clear hq
            go_wp2_with fail
            refine ⟨⟨k + 1, by omega, by go_num, HX2.out, HC32.out, fun j h hj => ?_⟩, by simp [intOf]; omega⟩
            by_cases c : j = k
            · subst c; exact HQ.out
            · exact HR.out j h (by omega)
        · have HF : Hid ((leavesAll ks).all (okLeaf cells pair) = true) := over_yes fun i h => HR.out i h (by omega)
          go_wp2_with fail
          go_ret
          exact ⟨by rw [HF.out]; rfl, HX.out⟩

set_option maxHeartbeats 400000 in
theorem RValidE_any (e : E) (cells : List CellD) (v cv : Value) (pair : Bool) (w : World) (he : EVal w v e) (hC : Cells w cv cells) :
    Calls Tryz.prog 41 #[v, cv, .bool pair] w fun r w' => r = .returned (.bool (e.valid cells pair)) ∧ Ext w w' := by
  obtain ⟨kv, rfl, hk⟩ := he
  obtain ⟨a, cap, rfl⟩ := SliceAt.shape hk
  obtain ⟨ca, cc, rfl⟩ := SliceAt.shape hC
  have HE : Hid (EVal w (.agg #[.int .i64 e.op, .int .i64 e.wd, .int .i64 e.n, .slice a e.kids.length cap]) e) := ⟨_, rfl, hk⟩
  have HC := Lib.hid hC; clear hk hC
  have HX0 : Hid (∀ x, Ext w (w.alloc x)) := fun x => (Ext.refl w).alloc x
  go_enter Tryz.func41, Tryz.ntmps41
  go_wp2_with fail
  refine (RFormed_any e _ _ (HE.out.ext (HX0.out _))).mono ?_
  rintro r w1 ⟨rfl, hx1⟩
  have c0 : w1.cell? ⟨w.heap.size, 0, none⟩ = some (.int .i64 e.op) := hx1.cell (by simp)
  have c1 : w1.cell? ⟨w.heap.size, 1, none⟩ = some (.int .i64 e.wd) := hx1.cell (by simp)
  have c2 : w1.cell? ⟨w.heap.size, 2, none⟩ = some (.int .i64 e.n) := hx1.cell (by simp)
  have c3 : w1.cell? ⟨w.heap.size, 3, none⟩ = some (.slice a e.kids.length cap) := hx1.cell (by simp)
  have HX := Lib.hid ((HX0.out _).trans hx1); clear hx1
  cases hf : e.wf with
  | true =>
    have HF : Hid (e.valid cells pair = e.leaves.all (okLeaf cells pair)) := by unfold Hid E.valid; rw [hf, Bool.true_and]
    have HD : Hid (e.deep 40 = true) := by
      unfold E.wf at hf
      simp only [Bool.and_eq_true] at hf
      exact hf.2
    clear hf
    go_wp2_with fail
    refine (Rover_any e.size cells _ pair e 40 _ _ (Nat.le_refl _) HD.out (HE.out.ext HX.out) (HC.out.ext HX.out)).mono ?_
    rintro r w2 ⟨rfl, hx2⟩
    have HX2 := Lib.hid (HX.out.trans hx2); clear hx2
    go_wp2_with fail
    go_ret
    exact ⟨by rw [HF.out]; rfl, HX2.out⟩
  | false =>
    have HF : Hid (e.valid cells pair = false) := by unfold Hid E.valid; rw [hf, Bool.false_and]
    clear hf
    go_wp2_with fail
    go_ret
    exact ⟨by rw [HF.out]; rfl, HX.out⟩
end Go.Proofs.YtlnahhlddekhoaaGreatDoor
