/-
  The walk of states.Expr.
-/
import Derived.Test.YtdiopiekmdfklaaDoorMMen
import Derived.Test.YtdiopiekmdfklaaDoorMSiz
import Derived.Test.YtdiopiekmdfklaaDoorMBmb
import Derived.Test.YtdiopiekmdfklaaDoorMRra
namespace Go.Proofs.YtdiopiekmdfklaaDoor
open Go.RowKit Go.Shelf
attribute [local go_sem] Oper.semAt_some

theorem bits_le {ws : List Int} (hW : ∀ x ∈ ws, 1 ≤ x ∧ x ≤ 8) (h : sumI ws ≤ 12) : ∀ m, m ≤ ws.length → bitsN ws m ≤ 12 := by
  have key : ∀ d m, m + d = ws.length → bitsN ws m ≤ 12 := by
    intro d
    induction d with
    | zero =>
      intro m hm
      unfold bitsN
      rw [List.take_of_length_le (by omega)]; omega
    | succ d ih =>
      intro m hm
      have h1 := ih (m + 1) (by omega)
      have h2 := (bits_succ hW (show m < ws.length by omega)).1
      omega
  exact fun m hm => key (ws.length - m) m (by omega)
theorem treeF_size {leaf : List Nat → E} {B : Nat} (hB : ∀ x, (leaf x).size ≤ B) (wd c : Int) : ∀ (f : Nat) (l : List (Nat × List Nat)), l.length ≤ f → 0 < l.length → (treeF leaf wd c f l).size + 4 ≤ l.length * (B + 4) := by
  intro f
  induction f with
  | zero => intro l h1 h2; omega
  | succ f ih =>
    intro l h1 h2
    rw [treeF_succ]
    by_cases h : l.length = 1
    · rw [if_pos h, h]
      have := hB (l.getD 0 (0, [])).2
      omega
    · rw [if_neg h]
      have e1 : (l.take ((l.length + 1) / 2)).length = (l.length + 1) / 2 := by simp; omega
      have e2 : (l.drop ((l.length + 1) / 2)).length = l.length - (l.length + 1) / 2 := by simp
      have k1 := ih (l.take ((l.length + 1) / 2)) (by omega) (by omega)
      have k2 := ih (l.drop ((l.length + 1) / 2)) (by omega) (by omega)
      rw [e1] at k1; rw [e2] at k2
      have hs : l.length * (B + 4) = (l.length + 1) / 2 * (B + 4) + (l.length - (l.length + 1) / 2) * (B + 4) := by
        rw [← Nat.add_mul]; congr 1; omega
      rw [hs]
      simp only [E.size, sizeAll]
      omega
theorem mem_size {cs ws : List Int} (hW : ∀ x ∈ ws, 1 ≤ x ∧ x ≤ 8) : ∀ (m : Nat) (is : List Nat), m ≤ ws.length → (memF cs ws m is).size + 8 ≤ 9 * 2 ^ bitsN ws m := by
  intro m
  induction m with
  | zero =>
    intro is _
    have := Nat.two_pow_pos (bitsN ws 0)
    unfold memF
    split
    · simp [E.size, sizeAll]; omega
    · split <;> (simp [E.size, sizeAll]; omega)
  | succ m ih =>
    intro is hm
    have hp := Nat.two_pow_pos (bitsN ws (m + 1))
    have hb := bits_succ hW (show m < ws.length by omega)
    unfold memF
    split
    · simp [E.size, sizeAll]; omega
    · split
      · simp [E.size, sizeAll]; omega
      · have hpm := Nat.two_pow_pos (bitsN ws m)
        have hl := runsL_len (bitsN ws m) (ws.getD m 0).toNat is
        have h1 := treeF_size (leaf := memF cs ws m) (B := 9 * 2 ^ bitsN ws m - 8) (fun x => by have := ih x (by omega); omega) (ws.getD m 0) (cs.getD m 0) (2 ^ (ws.getD m 0).toNat) (runsL (bitsN ws m) (ws.getD m 0).toNat is) hl.1 hl.2
        have h2 : 2 ≤ 2 ^ (ws.getD m 0).toNat := by
          have := Nat.pow_le_pow_right (show 0 < 2 by decide) (show 1 ≤ (ws.getD m 0).toNat by omega)
          simpa using this
        rw [hb.1, Nat.pow_add]
        generalize 2 ^ bitsN ws m = a at *
        generalize 2 ^ (ws.getD m 0).toNat = q at *
        have h3 := Nat.mul_le_mul_right (9 * a - 8 + 4) hl.1
        have h4 : q * (9 * a - 8 + 4) + 4 * q = 9 * (a * q) := by
          have : 9 * a - 8 + 4 + 4 = 9 * a := by omega
          rw [Nat.mul_comm 4 q, ← Nat.mul_add, this, ← Nat.mul_assoc, Nat.mul_comm q, Nat.mul_assoc]
          rw [Nat.mul_comm q a]
        omega
def exprS (cs ws is : List Int) : E := if validB cs ws is = true then (if 600 < (memF cs ws ws.length (natL is)).size then .mk 0 0 0 [] else memF cs ws ws.length (natL is)) else .mk 0 0 0 []
def SetC (w : World) (v : Value) (cs ws is : List Int) : Prop := ∃ vc vw vi, v = .agg #[vc, vw, vi] ∧ IntsC w vc cs ∧ IntsC w vw ws ∧ IntsC w vi is
theorem SetC.setV {w : World} {v : Value} {cs ws is : List Int} (h : SetC w v cs ws is) : SetV w v cs ws is := by
  obtain ⟨a, b, c, h0, h1, h2, h3⟩ := h; exact ⟨a, b, c, h0, h1.1, h2.1, h3.1⟩
set_option maxRecDepth 100000 in
set_option maxHeartbeats 4000000 in
theorem Expr_any (cs ws is : List Int) (v : Value) (w : World) (hv : SetC w v cs ws is) : Calls Tryd.prog 17 #[v] w (NewE (exprS cs ws is) w) := by
  have hV := hv.setV
  obtain ⟨vc, vw, vi, rfl, h1, h2, h3⟩ := hv
  obtain ⟨_, ca, cc, rfl, _⟩ := id h1
  obtain ⟨_, wa, wcc, rfl, _⟩ := id h2
  obtain ⟨_, ia, ic, rfl, _⟩ := id h3
  obtain ⟨W, hW⟩ : ∃ W, W = (w.alloc (.cells #[.slice ca cs.length cc, .slice wa ws.length wcc, .slice ia is.length ic] 31)).alloc (.cells #[.int .i64 0, .int .i64 0, .int .i64 0, .slice none 0 0] 26) := ⟨_, rfl⟩
  have hx : Ext w W := by rw [hW]; exact ((Ext.refl w).alloc _).alloc _
  have HB : Hid (W.heap[w.heap.size]? = some (.cells #[.slice ca cs.length cc, .slice wa ws.length wcc, .slice ia is.length ic] 31 (0, 0))) := by
    unfold Hid; rw [hW, heap_alloc_old _ _ (by simp)]; exact heap_new _ _
  have HR : Hid (W.heap[w.heap.size + 1]? = some (.cells #[.int .i64 0, .int .i64 0, .int .i64 0, .slice none 0 0] 26 (0, 0))) := by
    unfold Hid; rw [hW]
    have := heap_new (w.alloc (.cells #[.slice ca cs.length cc, .slice wa ws.length wcc, .slice ia is.length ic] 31)) (.cells #[.int .i64 0, .int .i64 0, .int .i64 0, .slice none 0 0] 26)
    rw [World.size_alloc] at this
    exact this
  have HZ : Hid (W.heap.size = w.heap.size + 2) := by unfold Hid; rw [hW]; simp
  have HX := Lib.hid hx; have HW := Lib.hid hW; have HV := Lib.hid (hV.ext hx); have H1 := Lib.hid h1; have H2 := Lib.hid h2; have H3 := Lib.hid h3
  clear hx hW hV h1 h2 h3
  obtain ⟨p0, p1, p2⟩ := cells3 HB.out
  cases hval : validB cs ws is with
  | false =>
    have HE : Hid (exprS cs ws is = .mk 0 0 0 []) := by unfold Hid exprS; rw [hval]; rfl
    have HVAL := Lib.hid hval
    clear hval
    go_enter Tryd.func17, Tryd.ntmps17
    go_upto_region 1 with fail
    rw [← HW.out]
    go_wp2_with fail
    refine (valid_any cs ws is _ _ HV.out).mono ?_
    rintro r w1 ⟨rfl, x1⟩
    rw [HVAL.out]
    have HX1 := Lib.hid x1
    have hR1 := (x1.block _ (by rw [HZ.out]; omega)).trans HR.out
    obtain ⟨c0, c1, c2, c3, f0, f1, f2, f3⟩ := cells_of_block hR1
    have HB4 := Lib.hid (put4_new (x := .int .i64 0) (y := .int .i64 0) (z := .int .i64 0) (u := .slice none 0 0) hR1)
    clear x1 hR1
    go_wp2_with fail
    refine bodyPost_ret (v := .agg #[.int .i64 0, .int .i64 0, .int .i64 0, .slice none 0 0]) (results_cell_row Tryd.results17 _ _ (w.heap.size + 1) 26 _ (0, 0) _ rfl HB4.out Tryd.underlying26 rfl sizeExpr) rfl ⟨⟨_, rfl, ?_⟩, Below.trans (HX.out.trans HX1.out) (below_put4 (Nat.le_succ _))⟩
    rw [HE.out]
    exact ⟨_, rfl, kidsB_nil _ _⟩
  | true =>
    obtain ⟨hcast, hvs⟩ := valid_nat hval
    obtain ⟨hsh, hWd, hs0, hs12⟩ := small_sum hvs.small
    have hlen := (shape_iff.1 hsh).1
    have hl32 := shape_len hsh
    have hbits := bits_le hWd.2 hs12
    have hok := member_any cs ws hWd.2 hlen (by omega) hbits ws.length (Nat.le_refl _)
    have hsz := mem_size (cs := cs) hWd.2 ws.length (natL is) (Nat.le_refl _)
    have hsz2 : (memF cs ws ws.length (natL is)).size ≤ 100000 := by
      have h1 := hbits ws.length (Nat.le_refl _)
      have h2 : 2 ^ bitsN ws ws.length ≤ 4096 := by
        have := Nat.pow_le_pow_right (show 0 < 2 by decide) h1
        simpa using this
      omega
    have hlt : ∀ x ∈ natL is, x < 2 ^ bitsN ws ws.length := fun x hx => by
      have h1 := hvs.lt x hx
      have h2 : bitsN ws ws.length = (sumI ws).toNat := by unfold bitsN; rw [List.take_length]
      rw [h2]
      unfold pw at h1
      exact_mod_cast h1
    have hes : exprS cs ws is = if 600 < (memF cs ws ws.length (natL is)).size then .mk 0 0 0 [] else memF cs ws ws.length (natL is) := by unfold exprS; rw [if_pos hval]
    have hsort := hvs.sorted
    have C1 : Hid (∀ V, Ext w V → Calls Tryd.prog 55 #[.slice ca cs.length cc, .slice wa ws.length wcc, .slice ia is.length ic] V (NewE (memF cs ws ws.length (natL is)) V)) := fun V hx =>
      hok (natL is) _ _ _ V (by rw [← hlen, List.take_length]; exact H1.out.ext hx) (by rw [List.take_length]; exact H2.out.ext hx) (by rw [hcast]; exact H3.out.ext hx) hsort hlt
    generalize memF cs ws ws.length (natL is) = e at *
    have HES := Lib.hid hes; have HSZ := Lib.hid hsz2; have HVAL := Lib.hid hval
    clear hcast hvs hsh hWd hs0 hs12 hlen hl32 hbits hok hsz hsz2 hlt hes hsort hval
    go_enter Tryd.func17, Tryd.ntmps17
    go_upto_region 1 with fail
    rw [← HW.out]
    go_wp2_with fail
    refine (valid_any cs ws is _ _ HV.out).mono ?_
    rintro r w1 ⟨rfl, x1⟩
    rw [HVAL.out]
    have HX1 := Lib.hid x1
    have hR1 := (x1.block _ (by rw [HZ.out]; omega)).trans HR.out
    have hB1 := (x1.block _ (by rw [HZ.out]; omega)).trans HB.out
    obtain ⟨r0, r1, r2⟩ := cells3 hB1
    have HR1 := Lib.hid hR1
    clear x1 hR1 hB1
    go_wp2_with fail
    refine (C1.out w1 (HX.out.trans HX1.out)).mono ?_
    rintro r w2 ⟨⟨v2, rfl, he⟩, x2⟩
    obtain ⟨ka, kn, kc, rfl, hk⟩ := he.shape
    have HK := Lib.hid hk; have HX2 := Lib.hid x2
    have HR2 := Lib.hid ((x2.block _ (Array.getElem?_eq_some_iff.1 HR1.out).1).trans HR1.out)
    clear he hk x2 r0 r1 r2
    go_upto_region 4 with fail
    obtain ⟨W3, hW3⟩ : ∃ W3, W3 = w2.alloc (.cells #[.int .i64 e.op, .int .i64 e.wd, .int .i64 e.n, .slice ka kn kc] 26) := ⟨_, rfl⟩
    rw [← hW3]
    have x3 : Ext w2 W3 := by rw [hW3]; exact (Ext.refl w2).alloc _
    have hb3 : W3.heap[w2.heap.size]? = some (.cells #[.int .i64 e.op, .int .i64 e.wd, .int .i64 e.n, .slice ka kn kc] 26 (0, 0)) := by rw [hW3]; exact heap_new _ _
    obtain ⟨b0, b1, b2, b3, _⟩ := cells_of_block hb3
    have HB3 := Lib.hid hb3; have HX3 := Lib.hid x3
    have HKB : Hid (KidsB w1.heap.size W3 (.slice ka kn kc) e.kids) := HK.out.keep (x3.asFrom _)
    clear hW3 x3 hb3
    go_wp2_with fail
    refine (Size_all e _ W3 601 ⟨_, rfl, HKB.out.kids⟩ HSZ.out (by omega) (by omega)).mono ?_
    rintro r w4 ⟨rfl, x4⟩
    have HX4 := Lib.hid x4
    have HR4 := Lib.hid (((HX3.out.trans x4).block _ (Array.getElem?_eq_some_iff.1 HR2.out).1).trans HR2.out)
    have HB4 := Lib.hid ((x4.block _ (Array.getElem?_eq_some_iff.1 HB3.out).1).trans HB3.out)
    clear x4 b0 b1 b2 b3
    obtain ⟨mn, hmn⟩ : ∃ mn, mn = min (e.size : Int) 601 := ⟨_, rfl⟩
    rw [← hmn]
    obtain ⟨c0, c1, c2, c3, f0, f1, f2, f3⟩ := cells_of_block HR4.out
    by_cases hbig : 600 < e.size
    · have hd : decide ((600 : Int) < mn) = true := decide_eq_true (by omega)
      have HE : Hid (exprS cs ws is = .mk 0 0 0 []) := by unfold Hid; rw [HES.out, if_pos hbig]
      have HB5 := Lib.hid (put4_new (x := .int .i64 0) (y := .int .i64 0) (z := .int .i64 0) (u := .slice none 0 0) HR4.out)
      clear hbig hmn
      go_wp2_with fail
      refine bodyPost_ret (v := .agg #[.int .i64 0, .int .i64 0, .int .i64 0, .slice none 0 0]) (results_cell_row Tryd.results17 _ _ (w.heap.size + 1) 26 _ (0, 0) _ rfl HB5.out Tryd.underlying26 rfl sizeExpr) rfl ⟨⟨_, rfl, ?_⟩, Below.trans ((((HX.out.trans HX1.out).trans HX2.out).trans HX3.out).trans HX4.out) (below_put4 (Nat.le_succ _))⟩
      rw [HE.out]
      exact ⟨_, rfl, kidsB_nil _ _⟩
    · have hd : decide ((600 : Int) < mn) = false := decide_eq_false (by omega)
      have HE : Hid (exprS cs ws is = e) := by unfold Hid; rw [HES.out, if_neg hbig]
      have HB5 := Lib.hid (put4_new (x := .int .i64 e.op) (y := .int .i64 e.wd) (z := .int .i64 e.n) (u := .slice ka kn kc) HR4.out)
      obtain ⟨d0, d1, d2, d3, _⟩ := cells_of_block HB4.out
      clear hbig hmn
      go_wp2_with fail
      refine bodyPost_ret (v := .agg #[.int .i64 e.op, .int .i64 e.wd, .int .i64 e.n, .slice ka kn kc]) (results_cell_row Tryd.results17 _ _ (w.heap.size + 1) 26 _ (0, 0) _ rfl HB5.out Tryd.underlying26 rfl sizeExpr) rfl ⟨⟨_, rfl, ?_⟩, Below.trans ((((HX.out.trans HX1.out).trans HX2.out).trans HX3.out).trans HX4.out) (below_put4 (Nat.le_succ _))⟩
      rw [HE.out]
      have hz := HZ.out; have hs1 := HX1.out.size
      exact ⟨_, rfl, ((HKB.out.keep (HX4.out.asFrom _)).keep (fun q h1 _ => put4_heap q (by omega))).mono (by omega)⟩
end Go.Proofs.YtdiopiekmdfklaaDoor
