/-
  The walks of states.Meet and Join. Printed by gen_meet.py.
-/
import Derived.Test.YtlnahhlddekhoaaDoorMBmb
namespace Go.Proofs.YtlnahhlddekhoaaDoor
open Go.RowKit

theorem CombPost.res {g : Nat → Nat → Nat} {cs ws is cs2 ws2 js : List Int} {w : World} {r : Ending} {w' : World} (h : CombPost g cs ws is cs2 ws2 js w r w') : ∃ e C D I, SetRes e C D I w r w' ∧ ∀ w0 r2 w2, SetRes e C D I w0 r2 w2 → CombPost g cs ws is cs2 ws2 js w0 r2 w2 := by
  unfold CombPost at *
  cases hc : combB cs ws is cs2 ws2 js with
  | true => rw [hc] at h; exact ⟨_, _, _, _, h, fun _ _ _ h => h⟩
  | false => rw [hc] at h; exact ⟨_, _, _, _, h, fun _ _ _ h => h⟩
theorem and_word : WordFn 43 (· &&& ·) := by
  refine ⟨fun x y hx hy => Nat.and_lt_two_pow (n := 64) x hy, fun args w => by go_simp, fun x y w hx hy => ?_⟩
  have HB := Lib.hid (u64_and hx hy)
  go_enter Tryd.func43, Tryd.ntmps43
  go_wp2_with fail
  go_ret
  exact ⟨by rw [HB.out]; rfl, rfl⟩
theorem or_word : WordFn 62 (· ||| ·) := by
  refine ⟨fun x y hx hy => Nat.or_lt_two_pow (n := 64) hx hy, fun args w => by go_simp, fun x y w hx hy => ?_⟩
  have HB := Lib.hid (u64_or hx hy)
  go_enter Tryd.func62, Tryd.ntmps62
  go_wp2_with fail
  go_ret
  exact ⟨by rw [HB.out]; rfl, rfl⟩

set_option maxHeartbeats 1000000 in
theorem Meet_any (cs ws is cs2 ws2 js : List Int) (va vb : Value) (w : World) (ha : SetV w va cs ws is) (hb : SetV w vb cs2 ws2 js) (hT : DeB w) : Calls Tryd.prog 13 #[va, vb] w (CombPost (· &&& ·) cs ws is cs2 ws2 js w) := by
  obtain ⟨ca, cc, wa, wcp, ia, ic, rfl, a1, a2, a3⟩ := ha.shape
  obtain ⟨ca2, cc2, wa2, wc2, ia2, ic2, rfl, b1, b2, b3⟩ := hb.shape
  obtain ⟨W, hW⟩ : ∃ W, W = ((w.alloc (.cells #[.slice ca cs.length cc, .slice wa ws.length wcp, .slice ia is.length ic] 27)).alloc (.cells #[.slice ca2 cs2.length cc2, .slice wa2 ws2.length wc2, .slice ia2 js.length ic2] 27)).alloc (.cells #[.slice none 0 0, .slice none 0 0, .slice none 0 0] 27) := ⟨_, rfl⟩
  have hx : Ext w W := by rw [hW]; exact (((Ext.refl w).alloc _).alloc _).alloc _
  have hz : W.heap.size = w.heap.size + 3 := by rw [hW]; simp
  have hB1 : W.heap[w.heap.size]? = some (.cells #[.slice ca cs.length cc, .slice wa ws.length wcp, .slice ia is.length ic] 27 (0, 0)) := by
    rw [hW, heap_alloc_old _ _ (by simp; omega), heap_alloc_old _ _ (by simp)]; exact heap_new _ _
  have hB2 : W.heap[w.heap.size + 1]? = some (.cells #[.slice ca2 cs2.length cc2, .slice wa2 ws2.length wc2, .slice ia2 js.length ic2] 27 (0, 0)) := by
    rw [hW, heap_alloc_old _ _ (by simp)]
    have := heap_new (w.alloc (.cells #[.slice ca cs.length cc, .slice wa ws.length wcp, .slice ia is.length ic] 27)) (.cells #[.slice ca2 cs2.length cc2, .slice wa2 ws2.length wc2, .slice ia2 js.length ic2] 27)
    rw [World.size_alloc] at this; exact this
  have hB3 : W.heap[w.heap.size + 2]? = some (.cells #[.slice none 0 0, .slice none 0 0, .slice none 0 0] 27 (0, 0)) := by
    rw [hW]
    have := heap_new ((w.alloc (.cells #[.slice ca cs.length cc, .slice wa ws.length wcp, .slice ia is.length ic] 27)).alloc (.cells #[.slice ca2 cs2.length cc2, .slice wa2 ws2.length wc2, .slice ia2 js.length ic2] 27)) (.cells #[.slice none 0 0, .slice none 0 0, .slice none 0 0] 27)
    rw [World.size_alloc, World.size_alloc] at this; exact this
  have HA := Lib.hid (ha.ext hx); have HB := Lib.hid (hb.ext hx)
  have HX := Lib.hid hx; have HZ := Lib.hid hz; have HW := Lib.hid hW; have B3 := Lib.hid hB3; have HT := Lib.hid (hT.ext hx)
  obtain ⟨p0, p1, p2⟩ := cells3 hB1
  obtain ⟨q0, q1, q2⟩ := cells3 hB2
  clear ha hb a1 a2 a3 b1 b2 b3 hx hz hW hB1 hB2 hB3 hT
  go_enter Tryd.func13, Tryd.ntmps13
  go_upto_region 1 with fail
  rw [← HW.out]
  go_wp2_with fail
  refine (combine_any 43 (· &&& ·) and_word cs ws is cs2 ws2 js _ _ _ HA.out HB.out HT.out).mono ?_
  intro r w1 h1
  obtain ⟨e, C, D, I, ⟨v, rfl, hv, x1⟩, hback⟩ := h1.res
  obtain ⟨sa, sb, sc, sd, se, sf, rfl⟩ := hv.shape
  clear h1
  have hR := x1.block (w.heap.size + 2) (by have := HZ.out; omega)
  rw [B3.out] at hR
  obtain ⟨z0, z1, z2, f0, f1, f2⟩ := block3 hR
  have HR := Lib.hid (put3_new (x := .slice sa C.length sb) (y := .slice sc D.length sd) (z := .slice se I.length sf) hR)
  have HF : Hid (CombPost (· &&& ·) cs ws is cs2 ws2 js w (.returned (.tuple #[.agg #[.slice sa C.length sb, .slice sc D.length sd, .slice se I.length sf], .int .i64 e])) (put3 w1 (w.heap.size + 2) (.slice sa C.length sb) (.slice sc D.length sd) (.slice se I.length sf))) := by
    have hz := HZ.out
    exact hback _ _ _ ⟨_, rfl, (hv.put3 (by omega) _ _ _).mono (by omega), (HX.out.trans x1).put3 (by omega) _ _ _⟩
  clear hR hback hv x1
  go_wp2_with fail
  exact bodyPost_ret (v := .tuple #[.agg #[.slice sa C.length sb, .slice sc D.length sd, .slice se I.length sf], .int .i64 e]) (results_row_tmp Tryd.results13 _ _ (w.heap.size + 2) 27 _ (0, 0) _ rfl HR.out Tryd.underlying27 rfl sizeSet) rfl HF.out

set_option maxHeartbeats 1000000 in
theorem Join_any (cs ws is cs2 ws2 js : List Int) (va vb : Value) (w : World) (ha : SetV w va cs ws is) (hb : SetV w vb cs2 ws2 js) (hT : DeB w) : Calls Tryd.prog 28 #[va, vb] w (CombPost (· ||| ·) cs ws is cs2 ws2 js w) := by
  obtain ⟨ca, cc, wa, wcp, ia, ic, rfl, a1, a2, a3⟩ := ha.shape
  obtain ⟨ca2, cc2, wa2, wc2, ia2, ic2, rfl, b1, b2, b3⟩ := hb.shape
  obtain ⟨W, hW⟩ : ∃ W, W = ((w.alloc (.cells #[.slice ca cs.length cc, .slice wa ws.length wcp, .slice ia is.length ic] 27)).alloc (.cells #[.slice ca2 cs2.length cc2, .slice wa2 ws2.length wc2, .slice ia2 js.length ic2] 27)).alloc (.cells #[.slice none 0 0, .slice none 0 0, .slice none 0 0] 27) := ⟨_, rfl⟩
  have hx : Ext w W := by rw [hW]; exact (((Ext.refl w).alloc _).alloc _).alloc _
  have hz : W.heap.size = w.heap.size + 3 := by rw [hW]; simp
  have hB1 : W.heap[w.heap.size]? = some (.cells #[.slice ca cs.length cc, .slice wa ws.length wcp, .slice ia is.length ic] 27 (0, 0)) := by
    rw [hW, heap_alloc_old _ _ (by simp; omega), heap_alloc_old _ _ (by simp)]; exact heap_new _ _
  have hB2 : W.heap[w.heap.size + 1]? = some (.cells #[.slice ca2 cs2.length cc2, .slice wa2 ws2.length wc2, .slice ia2 js.length ic2] 27 (0, 0)) := by
    rw [hW, heap_alloc_old _ _ (by simp)]
    have := heap_new (w.alloc (.cells #[.slice ca cs.length cc, .slice wa ws.length wcp, .slice ia is.length ic] 27)) (.cells #[.slice ca2 cs2.length cc2, .slice wa2 ws2.length wc2, .slice ia2 js.length ic2] 27)
    rw [World.size_alloc] at this; exact this
  have hB3 : W.heap[w.heap.size + 2]? = some (.cells #[.slice none 0 0, .slice none 0 0, .slice none 0 0] 27 (0, 0)) := by
    rw [hW]
    have := heap_new ((w.alloc (.cells #[.slice ca cs.length cc, .slice wa ws.length wcp, .slice ia is.length ic] 27)).alloc (.cells #[.slice ca2 cs2.length cc2, .slice wa2 ws2.length wc2, .slice ia2 js.length ic2] 27)) (.cells #[.slice none 0 0, .slice none 0 0, .slice none 0 0] 27)
    rw [World.size_alloc, World.size_alloc] at this; exact this
  have HA := Lib.hid (ha.ext hx); have HB := Lib.hid (hb.ext hx)
  have HX := Lib.hid hx; have HZ := Lib.hid hz; have HW := Lib.hid hW; have B3 := Lib.hid hB3; have HT := Lib.hid (hT.ext hx)
  obtain ⟨p0, p1, p2⟩ := cells3 hB1
  obtain ⟨q0, q1, q2⟩ := cells3 hB2
  clear ha hb a1 a2 a3 b1 b2 b3 hx hz hW hB1 hB2 hB3 hT
  go_enter Tryd.func28, Tryd.ntmps28
  go_upto_region 1 with fail
  rw [← HW.out]
  go_wp2_with fail
  refine (combine_any 62 (· ||| ·) or_word cs ws is cs2 ws2 js _ _ _ HA.out HB.out HT.out).mono ?_
  intro r w1 h1
  obtain ⟨e, C, D, I, ⟨v, rfl, hv, x1⟩, hback⟩ := h1.res
  obtain ⟨sa, sb, sc, sd, se, sf, rfl⟩ := hv.shape
  clear h1
  have hR := x1.block (w.heap.size + 2) (by have := HZ.out; omega)
  rw [B3.out] at hR
  obtain ⟨z0, z1, z2, f0, f1, f2⟩ := block3 hR
  have HR := Lib.hid (put3_new (x := .slice sa C.length sb) (y := .slice sc D.length sd) (z := .slice se I.length sf) hR)
  have HF : Hid (CombPost (· ||| ·) cs ws is cs2 ws2 js w (.returned (.tuple #[.agg #[.slice sa C.length sb, .slice sc D.length sd, .slice se I.length sf], .int .i64 e])) (put3 w1 (w.heap.size + 2) (.slice sa C.length sb) (.slice sc D.length sd) (.slice se I.length sf))) := by
    have hz := HZ.out
    exact hback _ _ _ ⟨_, rfl, (hv.put3 (by omega) _ _ _).mono (by omega), (HX.out.trans x1).put3 (by omega) _ _ _⟩
  clear hR hback hv x1
  go_wp2_with fail
  exact bodyPost_ret (v := .tuple #[.agg #[.slice sa C.length sb, .slice sc D.length sd, .slice se I.length sf], .int .i64 e]) (results_row_tmp Tryd.results28 _ _ (w.heap.size + 2) 27 _ (0, 0) _ rfl HR.out Tryd.underlying27 rfl sizeSet) rfl HF.out

end Go.Proofs.YtlnahhlddekhoaaDoor
