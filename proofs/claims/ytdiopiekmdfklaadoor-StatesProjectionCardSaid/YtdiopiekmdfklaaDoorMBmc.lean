/-
  The walks of states.Meet and Join. Printed by gen_meet.py.
  Two or three new blocks.
  The walk of states.Minus.
-/
import Derived.Test.YtdiopiekmdfklaaDoorMBmb
namespace Go.Proofs.YtdiopiekmdfklaaDoor
open Go.RowKit

theorem CombPost.res {g : Nat → Nat → Nat} {cs ws is cs2 ws2 js : List Int} {w : World} {r : Ending} {w' : World} (h : CombPost g cs ws is cs2 ws2 js w r w') : ∃ e C D I, SetRes e C D I w r w' ∧ ∀ w0 r2 w2, SetRes e C D I w0 r2 w2 → CombPost g cs ws is cs2 ws2 js w0 r2 w2 := by
  unfold CombPost at *
  cases hc : combB cs ws is cs2 ws2 js with
  | true => rw [hc] at h; exact ⟨_, _, _, _, h, fun _ _ _ h => h⟩
  | false => rw [hc] at h; exact ⟨_, _, _, _, h, fun _ _ _ h => h⟩
theorem and_word : WordFn 65 (· &&& ·) := by
  refine ⟨fun x y hx hy => Nat.and_lt_two_pow (n := 64) x hy, fun args w => by go_simp, fun x y w hx hy => ?_⟩
  have HB := Lib.hid (u64_and hx hy)
  go_enter Tryd.func65, Tryd.ntmps65
  go_wp2_with fail
  go_ret
  exact ⟨by rw [HB.out]; rfl, rfl⟩
theorem or_word : WordFn 64 (· ||| ·) := by
  refine ⟨fun x y hx hy => Nat.or_lt_two_pow (n := 64) hx hy, fun args w => by go_simp, fun x y w hx hy => ?_⟩
  have HB := Lib.hid (u64_or hx hy)
  go_enter Tryd.func64, Tryd.ntmps64
  go_wp2_with fail
  go_ret
  exact ⟨by rw [HB.out]; rfl, rfl⟩

set_option maxHeartbeats 1000000 in
theorem Meet_any (cs ws is cs2 ws2 js : List Int) (va vb : Value) (w : World) (ha : SetV w va cs ws is) (hb : SetV w vb cs2 ws2 js) (hT : DeB w) : Calls Tryd.prog 32 #[va, vb] w (CombPost (· &&& ·) cs ws is cs2 ws2 js w) := by
  obtain ⟨ca, cc, wa, wcp, ia, ic, rfl, a1, a2, a3⟩ := ha.shape
  obtain ⟨ca2, cc2, wa2, wc2, ia2, ic2, rfl, b1, b2, b3⟩ := hb.shape
  obtain ⟨W, hW⟩ : ∃ W, W = ((w.alloc (.cells #[.slice ca cs.length cc, .slice wa ws.length wcp, .slice ia is.length ic] 31)).alloc (.cells #[.slice ca2 cs2.length cc2, .slice wa2 ws2.length wc2, .slice ia2 js.length ic2] 31)).alloc (.cells #[.slice none 0 0, .slice none 0 0, .slice none 0 0] 31) := ⟨_, rfl⟩
  have hx : Ext w W := by rw [hW]; exact (((Ext.refl w).alloc _).alloc _).alloc _
  have hz : W.heap.size = w.heap.size + 3 := by rw [hW]; simp
  have hB1 : W.heap[w.heap.size]? = some (.cells #[.slice ca cs.length cc, .slice wa ws.length wcp, .slice ia is.length ic] 31 (0, 0)) := by
    rw [hW, heap_alloc_old _ _ (by simp; omega), heap_alloc_old _ _ (by simp)]; exact heap_new _ _
  have hB2 : W.heap[w.heap.size + 1]? = some (.cells #[.slice ca2 cs2.length cc2, .slice wa2 ws2.length wc2, .slice ia2 js.length ic2] 31 (0, 0)) := by
    rw [hW, heap_alloc_old _ _ (by simp)]
    have := heap_new (w.alloc (.cells #[.slice ca cs.length cc, .slice wa ws.length wcp, .slice ia is.length ic] 31)) (.cells #[.slice ca2 cs2.length cc2, .slice wa2 ws2.length wc2, .slice ia2 js.length ic2] 31)
    rw [World.size_alloc] at this; exact this
  have hB3 : W.heap[w.heap.size + 2]? = some (.cells #[.slice none 0 0, .slice none 0 0, .slice none 0 0] 31 (0, 0)) := by
    rw [hW]
    have := heap_new ((w.alloc (.cells #[.slice ca cs.length cc, .slice wa ws.length wcp, .slice ia is.length ic] 31)).alloc (.cells #[.slice ca2 cs2.length cc2, .slice wa2 ws2.length wc2, .slice ia2 js.length ic2] 31)) (.cells #[.slice none 0 0, .slice none 0 0, .slice none 0 0] 31)
    rw [World.size_alloc, World.size_alloc] at this; exact this
  have HA := Lib.hid (ha.ext hx); have HB := Lib.hid (hb.ext hx)
  have HX := Lib.hid hx; have HZ := Lib.hid hz; have HW := Lib.hid hW; have B3 := Lib.hid hB3; have HT := Lib.hid (hT.ext hx)
  obtain ⟨p0, p1, p2⟩ := cells3 hB1
  obtain ⟨q0, q1, q2⟩ := cells3 hB2
  clear ha hb a1 a2 a3 b1 b2 b3 hx hz hW hB1 hB2 hB3 hT
  go_enter Tryd.func32, Tryd.ntmps32
  go_upto_region 1 with fail
  rw [← HW.out]
  go_wp2_with fail
  refine (combine_any 65 (· &&& ·) and_word cs ws is cs2 ws2 js _ _ _ HA.out HB.out HT.out).mono ?_
  intro r w1 h1
  obtain ⟨e, C, D, I, ⟨v, rfl, hv, x1⟩, hback⟩ := h1.res
  obtain ⟨sa, sb, sc, sd, se, sf, rfl⟩ := hv.shape
  clear h1
  have hR := x1.block (w.heap.size + 2) (by have := HZ.out; omega)
  rw [B3.out] at hR
  obtain ⟨z0, z1, z2, f0, f1, f2⟩ := block3 hR
  have HR := Lib.hid (put3_new (x := .slice sa C.length sb) (y := .slice sc D.length sd) (z := .slice se I.length sf) hR)
  have HF : Hid (CombPost (· &&& ·) cs ws is cs2 ws2 js w (.returned (.tuple #[.agg #[.slice sa C.length sb, .slice sc D.length sd, .slice se I.length sf], .int .i64 e])) (put3 w1 (w.heap.size + 2) (.slice sa C.length sb) (.slice sc D.length sd) (.slice se I.length sf))) := by
    have hz := HZ.out
    exact hback _ _ _ ⟨_, rfl, (hv.put3 (by omega) _ _ _).mono (by omega), (HX.out.trans x1).put3 (by omega) _ _ _⟩
  clear hR hback hv x1
  go_wp2_with fail
  exact bodyPost_ret (v := .tuple #[.agg #[.slice sa C.length sb, .slice sc D.length sd, .slice se I.length sf], .int .i64 e]) (results_row_tmp Tryd.results32 _ _ (w.heap.size + 2) 31 _ (0, 0) _ rfl HR.out Tryd.underlying31 rfl sizeSet) rfl HF.out

set_option maxHeartbeats 1000000 in
theorem Join_any (cs ws is cs2 ws2 js : List Int) (va vb : Value) (w : World) (ha : SetV w va cs ws is) (hb : SetV w vb cs2 ws2 js) (hT : DeB w) : Calls Tryd.prog 31 #[va, vb] w (CombPost (· ||| ·) cs ws is cs2 ws2 js w) := by
  obtain ⟨ca, cc, wa, wcp, ia, ic, rfl, a1, a2, a3⟩ := ha.shape
  obtain ⟨ca2, cc2, wa2, wc2, ia2, ic2, rfl, b1, b2, b3⟩ := hb.shape
  obtain ⟨W, hW⟩ : ∃ W, W = ((w.alloc (.cells #[.slice ca cs.length cc, .slice wa ws.length wcp, .slice ia is.length ic] 31)).alloc (.cells #[.slice ca2 cs2.length cc2, .slice wa2 ws2.length wc2, .slice ia2 js.length ic2] 31)).alloc (.cells #[.slice none 0 0, .slice none 0 0, .slice none 0 0] 31) := ⟨_, rfl⟩
  have hx : Ext w W := by rw [hW]; exact (((Ext.refl w).alloc _).alloc _).alloc _
  have hz : W.heap.size = w.heap.size + 3 := by rw [hW]; simp
  have hB1 : W.heap[w.heap.size]? = some (.cells #[.slice ca cs.length cc, .slice wa ws.length wcp, .slice ia is.length ic] 31 (0, 0)) := by
    rw [hW, heap_alloc_old _ _ (by simp; omega), heap_alloc_old _ _ (by simp)]; exact heap_new _ _
  have hB2 : W.heap[w.heap.size + 1]? = some (.cells #[.slice ca2 cs2.length cc2, .slice wa2 ws2.length wc2, .slice ia2 js.length ic2] 31 (0, 0)) := by
    rw [hW, heap_alloc_old _ _ (by simp)]
    have := heap_new (w.alloc (.cells #[.slice ca cs.length cc, .slice wa ws.length wcp, .slice ia is.length ic] 31)) (.cells #[.slice ca2 cs2.length cc2, .slice wa2 ws2.length wc2, .slice ia2 js.length ic2] 31)
    rw [World.size_alloc] at this; exact this
  have hB3 : W.heap[w.heap.size + 2]? = some (.cells #[.slice none 0 0, .slice none 0 0, .slice none 0 0] 31 (0, 0)) := by
    rw [hW]
    have := heap_new ((w.alloc (.cells #[.slice ca cs.length cc, .slice wa ws.length wcp, .slice ia is.length ic] 31)).alloc (.cells #[.slice ca2 cs2.length cc2, .slice wa2 ws2.length wc2, .slice ia2 js.length ic2] 31)) (.cells #[.slice none 0 0, .slice none 0 0, .slice none 0 0] 31)
    rw [World.size_alloc, World.size_alloc] at this; exact this
  have HA := Lib.hid (ha.ext hx); have HB := Lib.hid (hb.ext hx)
  have HX := Lib.hid hx; have HZ := Lib.hid hz; have HW := Lib.hid hW; have B3 := Lib.hid hB3; have HT := Lib.hid (hT.ext hx)
  obtain ⟨p0, p1, p2⟩ := cells3 hB1
  obtain ⟨q0, q1, q2⟩ := cells3 hB2
  clear ha hb a1 a2 a3 b1 b2 b3 hx hz hW hB1 hB2 hB3 hT
  go_enter Tryd.func31, Tryd.ntmps31
  go_upto_region 1 with fail
  rw [← HW.out]
  go_wp2_with fail
  refine (combine_any 64 (· ||| ·) or_word cs ws is cs2 ws2 js _ _ _ HA.out HB.out HT.out).mono ?_
  intro r w1 h1
  obtain ⟨e, C, D, I, ⟨v, rfl, hv, x1⟩, hback⟩ := h1.res
  obtain ⟨sa, sb, sc, sd, se, sf, rfl⟩ := hv.shape
  clear h1
  have hR := x1.block (w.heap.size + 2) (by have := HZ.out; omega)
  rw [B3.out] at hR
  obtain ⟨z0, z1, z2, f0, f1, f2⟩ := block3 hR
  have HR := Lib.hid (put3_new (x := .slice sa C.length sb) (y := .slice sc D.length sd) (z := .slice se I.length sf) hR)
  have HF : Hid (CombPost (· ||| ·) cs ws is cs2 ws2 js w (.returned (.tuple #[.agg #[.slice sa C.length sb, .slice sc D.length sd, .slice se I.length sf], .int .i64 e])) (put3 w1 (w.heap.size + 2) (.slice sa C.length sb) (.slice sc D.length sd) (.slice se I.length sf))) := by
    have hz := HZ.out
    exact hback _ _ _ ⟨_, rfl, (hv.put3 (by omega) _ _ _).mono (by omega), (HX.out.trans x1).put3 (by omega) _ _ _⟩
  clear hR hback hv x1
  go_wp2_with fail
  exact bodyPost_ret (v := .tuple #[.agg #[.slice sa C.length sb, .slice sc D.length sd, .slice se I.length sf], .int .i64 e]) (results_row_tmp Tryd.results31 _ _ (w.heap.size + 2) 31 _ (0, 0) _ rfl HR.out Tryd.underlying31 rfl sizeSet) rfl HF.out

end Go.Proofs.YtdiopiekmdfklaaDoor
namespace Go.Proofs.YtdiopiekmdfklaaDoor
open Go.RowKit

theorem lt_heap {w : World} {b : Nat} {o : Obj} (h : w.heap[b]? = some o) : b < w.heap.size := (Array.getElem?_eq_some_iff.1 h).1
theorem own_lt {w : World} {base : Nat} {v : Value} {l : List Int} (h : OwnInts w base v l) (k : Nat) (hk : v.ownBlock = some k) : k < w.heap.size := by
  rcases h.2 with ⟨rfl, _⟩ | ⟨g, cap, cur, rfl, hg, hh, _⟩
  · cases hk
  · cases hk; exact lt_heap hh
/-- Two boxes. -/
structure Boxes (w0 W : World) (x y : Obj) : Prop where
  eq : W = (w0.alloc x).alloc y
  ext : Ext w0 W
  size : W.heap.size = w0.heap.size + 2
  b0 : W.heap[w0.heap.size]? = some x
  b1 : W.heap[w0.heap.size + 1]? = some y
theorem Boxes.mk' (w0 : World) (x y : Obj) : Boxes w0 ((w0.alloc x).alloc y) x y :=
  ⟨rfl, ((Ext.refl w0).alloc _).alloc _, by simp, by rw [heap_alloc_old _ _ (by simp)]; exact heap_new _ _, by have := heap_new (w0.alloc x) y; rw [World.size_alloc] at this; exact this⟩
/-- Three. -/
structure Boxes3 (w0 W : World) (x y z : Obj) : Prop where
  eq : W = ((w0.alloc x).alloc y).alloc z
  ext : Ext w0 W
  size : W.heap.size = w0.heap.size + 3
  b0 : W.heap[w0.heap.size]? = some x
  b1 : W.heap[w0.heap.size + 1]? = some y
  b2 : W.heap[w0.heap.size + 2]? = some z
theorem Boxes3.mk' (w0 : World) (x y z : Obj) : Boxes3 w0 (((w0.alloc x).alloc y).alloc z) x y z :=
  ⟨rfl, (((Ext.refl w0).alloc _).alloc _).alloc _, by simp, by rw [heap_alloc_old _ _ (by simp; omega)]; exact (Boxes.mk' w0 x y).b0, by rw [heap_alloc_old _ _ (by simp)]; exact (Boxes.mk' w0 x y).b1,
    by have := heap_new ((w0.alloc x).alloc y) z; rw [World.size_alloc, World.size_alloc] at this; exact this⟩
end Go.Proofs.YtdiopiekmdfklaaDoor
namespace Go.Proofs.YtdiopiekmdfklaaDoor
open Go.RowKit

def dif (x y : Nat) : Nat := x ^^^ (x &&& y)
theorem dif_bit (x y j : Nat) : (dif x y).testBit j = (x.testBit j && !y.testBit j) := by
  unfold dif
  rw [Nat.testBit_xor, Nat.testBit_and]
  cases x.testBit j <;> cases y.testBit j <;> rfl
theorem u64_dif {x y : Nat} (hx : x < 18446744073709551616) (hy : y < 18446744073709551616) : bits .andNot .u64 x y = ((dif x y : Nat) : Int) := by
  have h1 : (BitVec.ofInt 64 (x : Int)).toNat = x := by rw [BitVec.ofInt_natCast, BitVec.toNat_ofNat]; exact Nat.mod_eq_of_lt hx
  have h2 : (BitVec.ofInt 64 (y : Int)).toNat = y := by rw [BitVec.ofInt_natCast, BitVec.toNat_ofNat]; exact Nat.mod_eq_of_lt hy
  have e : bits .andNot .u64 x y = IntKind.u64.wrap ((BitVec.ofInt 64 (x : Int) &&& ~~~ BitVec.ofInt 64 (y : Int)).toNat : Nat) := rfl
  rw [e, u64_id _ (Int.natCast_nonneg _) (by exact_mod_cast (BitVec.ofInt 64 (x : Int) &&& ~~~ BitVec.ofInt 64 (y : Int)).isLt)]
  generalize BitVec.ofInt 64 (x : Int) = A at *
  generalize BitVec.ofInt 64 (y : Int) = B at *
  subst h1 h2
  congr 1
  apply Nat.eq_of_testBit_eq
  intro i
  rw [dif_bit]
  show (A &&& ~~~B).getLsbD i = (A.getLsbD i && !B.getLsbD i)
  rw [BitVec.getLsbD_and, BitVec.getLsbD_not]
  cases c : A.getLsbD i with
  | false => simp
  | true => simp [BitVec.lt_of_getLsbD c]
theorem dif_word : WordFn 66 dif := by
  refine ⟨fun x y hx hy => Nat.xor_lt_two_pow (n := 64) hx (Nat.lt_of_le_of_lt Nat.and_le_left hx), fun args w => by go_simp, fun x y w hx hy => ?_⟩
  have HB := Lib.hid (u64_dif hx hy)
  go_enter Tryd.func66, Tryd.ntmps66
  go_wp2_with fail
  go_ret
  exact ⟨by rw [HB.out]; rfl, rfl⟩
set_option maxHeartbeats 1000000 in
theorem Minus_any (cs ws is cs2 ws2 js : List Int) (va vb : Value) (w : World) (ha : SetV w va cs ws is) (hb : SetV w vb cs2 ws2 js) (hT : DeB w) : Calls Tryd.prog 33 #[va, vb] w (CombPost dif cs ws is cs2 ws2 js w) := by
  obtain ⟨ca, cc, wa, wcp, ia, ic, rfl, a1, a2, a3⟩ := ha.shape
  obtain ⟨ca2, cc2, wa2, wc2, ia2, ic2, rfl, b1, b2, b3⟩ := hb.shape
  obtain ⟨W, hW⟩ : ∃ W, W = ((w.alloc (.cells #[.slice ca cs.length cc, .slice wa ws.length wcp, .slice ia is.length ic] 31)).alloc (.cells #[.slice ca2 cs2.length cc2, .slice wa2 ws2.length wc2, .slice ia2 js.length ic2] 31)).alloc (.cells #[.slice none 0 0, .slice none 0 0, .slice none 0 0] 31) := ⟨_, rfl⟩
  have hx : Ext w W := by rw [hW]; exact (((Ext.refl w).alloc _).alloc _).alloc _
  have hz : W.heap.size = w.heap.size + 3 := by rw [hW]; simp
  have hB1 : W.heap[w.heap.size]? = some (.cells #[.slice ca cs.length cc, .slice wa ws.length wcp, .slice ia is.length ic] 31 (0, 0)) := by
    rw [hW, heap_alloc_old _ _ (by simp; omega), heap_alloc_old _ _ (by simp)]; exact heap_new _ _
  have hB2 : W.heap[w.heap.size + 1]? = some (.cells #[.slice ca2 cs2.length cc2, .slice wa2 ws2.length wc2, .slice ia2 js.length ic2] 31 (0, 0)) := by
    rw [hW, heap_alloc_old _ _ (by simp)]
    have := heap_new (w.alloc (.cells #[.slice ca cs.length cc, .slice wa ws.length wcp, .slice ia is.length ic] 31)) (.cells #[.slice ca2 cs2.length cc2, .slice wa2 ws2.length wc2, .slice ia2 js.length ic2] 31)
    rw [World.size_alloc] at this; exact this
  have hB3 : W.heap[w.heap.size + 2]? = some (.cells #[.slice none 0 0, .slice none 0 0, .slice none 0 0] 31 (0, 0)) := by
    rw [hW]
    have := heap_new ((w.alloc (.cells #[.slice ca cs.length cc, .slice wa ws.length wcp, .slice ia is.length ic] 31)).alloc (.cells #[.slice ca2 cs2.length cc2, .slice wa2 ws2.length wc2, .slice ia2 js.length ic2] 31)) (.cells #[.slice none 0 0, .slice none 0 0, .slice none 0 0] 31)
    rw [World.size_alloc, World.size_alloc] at this; exact this
  have HA := Lib.hid (ha.ext hx); have HB := Lib.hid (hb.ext hx)
  have HX := Lib.hid hx; have HZ := Lib.hid hz; have HW := Lib.hid hW; have B3 := Lib.hid hB3; have HT := Lib.hid (hT.ext hx)
  obtain ⟨p0, p1, p2⟩ := cells3 hB1
  obtain ⟨q0, q1, q2⟩ := cells3 hB2
  clear ha hb a1 a2 a3 b1 b2 b3 hx hz hW hB1 hB2 hB3 hT
  go_enter Tryd.func33, Tryd.ntmps33
  go_upto_region 1 with fail
  rw [← HW.out]
  go_wp2_with fail
  refine (combine_any 66 dif dif_word cs ws is cs2 ws2 js _ _ _ HA.out HB.out HT.out).mono ?_
  intro r w1 h1
  obtain ⟨e, C, D, I, ⟨v, rfl, hv, x1⟩, hback⟩ := h1.res
  obtain ⟨sa, sb, sc, sd, se, sf, rfl⟩ := hv.shape
  clear h1
  have hR := x1.block (w.heap.size + 2) (by have := HZ.out; omega)
  rw [B3.out] at hR
  obtain ⟨z0, z1, z2, f0, f1, f2⟩ := block3 hR
  have HR := Lib.hid (put3_new (x := .slice sa C.length sb) (y := .slice sc D.length sd) (z := .slice se I.length sf) hR)
  have HF : Hid (CombPost dif cs ws is cs2 ws2 js w (.returned (.tuple #[.agg #[.slice sa C.length sb, .slice sc D.length sd, .slice se I.length sf], .int .i64 e])) (put3 w1 (w.heap.size + 2) (.slice sa C.length sb) (.slice sc D.length sd) (.slice se I.length sf))) := by
    have hz := HZ.out
    exact hback _ _ _ ⟨_, rfl, (hv.put3 (by omega) _ _ _).mono (by omega), (HX.out.trans x1).put3 (by omega) _ _ _⟩
  clear hR hback hv x1
  go_wp2_with fail
  exact bodyPost_ret (v := .tuple #[.agg #[.slice sa C.length sb, .slice sc D.length sd, .slice se I.length sf], .int .i64 e]) (results_row_tmp Tryd.results33 _ _ (w.heap.size + 2) 31 _ (0, 0) _ rfl HR.out Tryd.underlying31 rfl sizeSet) rfl HF.out
end Go.Proofs.YtdiopiekmdfklaaDoor
