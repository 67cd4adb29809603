/-
  The walk of states.Expr.
  The walks of strings.Builder's copyCheck and WriteString at this translation (after the shelf's own proofs, whose closure is another one).
  What Text computes; the walks of letter and Itoa; a builder in a world that grows.
-/
import Derived.Test.YtlcgbdjmlnjhcaaGreatDoorG16
import Derived.Test.YtlcgbdjmlnjhcaaGreatDoorG01
import Derived.Test.YtlcgbdjmlnjhcaaGreatDoorG10
import Derived.Test.YtlcgbdjmlnjhcaaGreatDoorG08
import Derived.Shelf.Strings.BuilderK
import Derived.Test.YtlcgbdjmlnjhcaaGreatDoorG12
import Derived.Lib.ItoaLen
namespace Go.Proofs.YtlcgbdjmlnjhcaaGreatDoor
open Go.RowKit Go.Shelf
attribute [local go_sem] Oper.semAt_some

theorem bits_le {ws : List Int} (hW : ∀ x ∈ ws, 1 ≤ x ∧ x ≤ 8) (h : sumI ws ≤ 12) : ∀ m, m ≤ ws.length → bitsN ws m ≤ 12 := by
  have key : ∀ d m, m + d = ws.length → bitsN ws m ≤ 12 := by
    intro d
    induction d with
    | zero =>
      intro m hm
      unfold bitsN
      rw [List.take_of_length_le (by omega)]; omega
    | succ d ih =>
      intro m hm
      have h1 := ih (m + 1) (by omega)
      have h2 := (bits_succ hW (show m < ws.length by omega)).1
      omega
  exact fun m hm => key (ws.length - m) m (by omega)
theorem treeF_size {leaf : List Nat → E} {B : Nat} (hB : ∀ x, (leaf x).size ≤ B) (wd c : Int) : ∀ (f : Nat) (l : List (Nat × List Nat)), l.length ≤ f → 0 < l.length → (treeF leaf wd c f l).size + 4 ≤ l.length * (B + 4) := by
  intro f
  induction f with
  | zero => intro l h1 h2; omega
  | succ f ih =>
    intro l h1 h2
    rw [treeF_succ]
    by_cases h : l.length = 1
    · rw [if_pos h, h]
      have := hB (l.getD 0 (0, [])).2
      omega
    · rw [if_neg h]
      have e1 : (l.take ((l.length + 1) / 2)).length = (l.length + 1) / 2 := by simp; omega
      have e2 : (l.drop ((l.length + 1) / 2)).length = l.length - (l.length + 1) / 2 := by simp
      have k1 := ih (l.take ((l.length + 1) / 2)) (by omega) (by omega)
      have k2 := ih (l.drop ((l.length + 1) / 2)) (by omega) (by omega)
      rw [e1] at k1; rw [e2] at k2
      have hs : l.length * (B + 4) = (l.length + 1) / 2 * (B + 4) + (l.length - (l.length + 1) / 2) * (B + 4) := by
        rw [← Nat.add_mul]; congr 1; omega
      rw [hs]
      simp only [E.size, sizeAll]
      omega
theorem mem_size {cs ws : List Int} (hW : ∀ x ∈ ws, 1 ≤ x ∧ x ≤ 8) : ∀ (m : Nat) (is : List Nat), m ≤ ws.length → (memF cs ws m is).size + 8 ≤ 9 * 2 ^ bitsN ws m := by
  intro m
  induction m with
  | zero =>
    intro is _
    have := Nat.two_pow_pos (bitsN ws 0)
    unfold memF
    split
    · simp [E.size, sizeAll]; omega
    · split <;> (simp [E.size, sizeAll]; omega)
  | succ m ih =>
    intro is hm
    have hp := Nat.two_pow_pos (bitsN ws (m + 1))
    have hb := bits_succ hW (show m < ws.length by omega)
    unfold memF
    split
    · simp [E.size, sizeAll]; omega
    · split
      · simp [E.size, sizeAll]; omega
      · have hpm := Nat.two_pow_pos (bitsN ws m)
        have hl := runsL_len (bitsN ws m) (ws.getD m 0).toNat is
        have h1 := treeF_size (leaf := memF cs ws m) (B := 9 * 2 ^ bitsN ws m - 8) (fun x => by have := ih x (by omega); omega) (ws.getD m 0) (cs.getD m 0) (2 ^ (ws.getD m 0).toNat) (runsL (bitsN ws m) (ws.getD m 0).toNat is) hl.1 hl.2
        have h2 : 2 ≤ 2 ^ (ws.getD m 0).toNat := by
          have := Nat.pow_le_pow_right (show 0 < 2 by decide) (show 1 ≤ (ws.getD m 0).toNat by omega)
          simpa using this
        rw [hb.1, Nat.pow_add]
        generalize 2 ^ bitsN ws m = a at *
        generalize 2 ^ (ws.getD m 0).toNat = q at *
        have h3 := Nat.mul_le_mul_right (9 * a - 8 + 4) hl.1
        have h4 : q * (9 * a - 8 + 4) + 4 * q = 9 * (a * q) := by
          have : 9 * a - 8 + 4 + 4 = 9 * a := by omega
          rw [Nat.mul_comm 4 q, ← Nat.mul_add, this, ← Nat.mul_assoc, Nat.mul_comm q, Nat.mul_assoc]
          rw [Nat.mul_comm q a]
        omega
def exprS (cs ws is : List Int) : E := if validB cs ws is = true then (if 600 < (memF cs ws ws.length (natL is)).size then .mk 0 0 0 [] else memF cs ws ws.length (natL is)) else .mk 0 0 0 []
def SetC (w : World) (v : Value) (cs ws is : List Int) : Prop := ∃ vc vw vi, v = .agg #[vc, vw, vi] ∧ IntsC w vc cs ∧ IntsC w vw ws ∧ IntsC w vi is
theorem SetC.setV {w : World} {v : Value} {cs ws is : List Int} (h : SetC w v cs ws is) : SetV w v cs ws is := by
  obtain ⟨a, b, c, h0, h1, h2, h3⟩ := h; exact ⟨a, b, c, h0, h1.1, h2.1, h3.1⟩
set_option maxRecDepth 100000 in
set_option maxHeartbeats 4000000 in
theorem Expr_any (cs ws is : List Int) (v : Value) (w : World) (hv : SetC w v cs ws is) : Calls Tryz.prog 31 #[v] w (NewE (exprS cs ws is) w) := by
  have hV := hv.setV
  obtain ⟨vc, vw, vi, rfl, h1, h2, h3⟩ := hv
  obtain ⟨_, ca, cc, rfl, _⟩ := id h1
  obtain ⟨_, wa, wcc, rfl, _⟩ := id h2
  obtain ⟨_, ia, ic, rfl, _⟩ := id h3
  obtain ⟨W, hW⟩ : ∃ W, W = (w.alloc (.cells #[.slice ca cs.length cc, .slice wa ws.length wcc, .slice ia is.length ic] 60)).alloc (.cells #[.int .i64 0, .int .i64 0, .int .i64 0, .slice none 0 0] 25) := ⟨_, rfl⟩
  have hx : Ext w W := by rw [hW]; exact ((Ext.refl w).alloc _).alloc _
  have HB : Hid (W.heap[w.heap.size]? = some (.cells #[.slice ca cs.length cc, .slice wa ws.length wcc, .slice ia is.length ic] 60 (0, 0))) := by
    unfold Hid; rw [hW, heap_alloc_old _ _ (by simp)]; exact heap_new _ _
  have HR : Hid (W.heap[w.heap.size + 1]? = some (.cells #[.int .i64 0, .int .i64 0, .int .i64 0, .slice none 0 0] 25 (0, 0))) := by
    unfold Hid; rw [hW]
    have := heap_new (w.alloc (.cells #[.slice ca cs.length cc, .slice wa ws.length wcc, .slice ia is.length ic] 60)) (.cells #[.int .i64 0, .int .i64 0, .int .i64 0, .slice none 0 0] 25)
    rw [World.size_alloc] at this
    exact this
  have HZ : Hid (W.heap.size = w.heap.size + 2) := by unfold Hid; rw [hW]; simp
  have HX := Lib.hid hx; have HW := Lib.hid hW; have HV := Lib.hid (hV.ext hx); have H1 := Lib.hid h1; have H2 := Lib.hid h2; have H3 := Lib.hid h3
  clear hx hW hV h1 h2 h3
  obtain ⟨p0, p1, p2⟩ := cells3 HB.out
  cases hval : validB cs ws is with
  | false =>
    have HE : Hid (exprS cs ws is = .mk 0 0 0 []) := by unfold Hid exprS; rw [hval]; rfl
    have HVAL := Lib.hid hval
    clear hval
    go_enter Tryz.func31, Tryz.ntmps31
    go_upto_region 1 with fail
    rw [← HW.out]
    go_wp2_with fail
    refine (valid_any cs ws is _ _ HV.out).mono ?_
    rintro r w1 ⟨rfl, x1⟩
    rw [HVAL.out]
    have HX1 := Lib.hid x1
    have hR1 := (x1.block _ (by rw [HZ.out]; omega)).trans HR.out
    obtain ⟨c0, c1, c2, c3, f0, f1, f2, f3⟩ := cells_of_block hR1
    have HB4 := Lib.hid (put4_new (x := .int .i64 0) (y := .int .i64 0) (z := .int .i64 0) (u := .slice none 0 0) hR1)
    clear x1 hR1
    go_wp2_with fail
    refine bodyPost_ret (v := .agg #[.int .i64 0, .int .i64 0, .int .i64 0, .slice none 0 0]) (results_cell_row Tryz.results31 _ _ (w.heap.size + 1) 25 _ (0, 0) _ rfl HB4.out Tryz.underlying25 rfl sizeExpr) rfl ⟨⟨_, rfl, ?_⟩, Below.trans (HX.out.trans HX1.out) (below_put4 (Nat.le_succ _))⟩
    rw [HE.out]
    exact ⟨_, rfl, kidsB_nil _ _⟩
  | true =>
    obtain ⟨hcast, hvs⟩ := valid_nat hval
    obtain ⟨hsh, hWd, hs0, hs12⟩ := small_sum hvs.small
    have hlen := (shape_iff.1 hsh).1
    have hl32 := shape_len hsh
    have hbits := bits_le hWd.2 hs12
    have hok := member_any cs ws hWd.2 hlen (by omega) hbits ws.length (Nat.le_refl _)
    have hsz := mem_size (cs := cs) hWd.2 ws.length (natL is) (Nat.le_refl _)
    have hsz2 : (memF cs ws ws.length (natL is)).size ≤ 100000 := by
      have h1 := hbits ws.length (Nat.le_refl _)
      have h2 : 2 ^ bitsN ws ws.length ≤ 4096 := by
        have := Nat.pow_le_pow_right (show 0 < 2 by decide) h1
        simpa using this
      omega
    have hlt : ∀ x ∈ natL is, x < 2 ^ bitsN ws ws.length := fun x hx => by
      have h1 := hvs.lt x hx
      have h2 : bitsN ws ws.length = (sumI ws).toNat := by unfold bitsN; rw [List.take_length]
      rw [h2]
      unfold pw at h1
      exact_mod_cast h1
    have hes : exprS cs ws is = if 600 < (memF cs ws ws.length (natL is)).size then .mk 0 0 0 [] else memF cs ws ws.length (natL is) := by unfold exprS; rw [if_pos hval]
    have hsort := hvs.sorted
    have C1 : Hid (∀ V, Ext w V → Calls Tryz.prog 61 #[.slice ca cs.length cc, .slice wa ws.length wcc, .slice ia is.length ic] V (NewE (memF cs ws ws.length (natL is)) V)) := fun V hx =>
      hok (natL is) _ _ _ V (by rw [← hlen, List.take_length]; exact H1.out.ext hx) (by rw [List.take_length]; exact H2.out.ext hx) (by rw [hcast]; exact H3.out.ext hx) hsort hlt
    generalize memF cs ws ws.length (natL is) = e at *
    have HES := Lib.hid hes; have HSZ := Lib.hid hsz2; have HVAL := Lib.hid hval
    clear hcast hvs hsh hWd hs0 hs12 hlen hl32 hbits hok hsz hsz2 hlt hes hsort hval
    go_enter Tryz.func31, Tryz.ntmps31
    go_upto_region 1 with fail
    rw [← HW.out]
    go_wp2_with fail
    refine (valid_any cs ws is _ _ HV.out).mono ?_
    rintro r w1 ⟨rfl, x1⟩
    rw [HVAL.out]
    have HX1 := Lib.hid x1
    have hR1 := (x1.block _ (by rw [HZ.out]; omega)).trans HR.out
    have hB1 := (x1.block _ (by rw [HZ.out]; omega)).trans HB.out
    obtain ⟨r0, r1, r2⟩ := cells3 hB1
    have HR1 := Lib.hid hR1
    clear x1 hR1 hB1
    go_wp2_with fail
    refine (C1.out w1 (HX.out.trans HX1.out)).mono ?_
    rintro r w2 ⟨⟨v2, rfl, he⟩, x2⟩
    obtain ⟨ka, kn, kc, rfl, hk⟩ := he.shape
    have HK := Lib.hid hk; have HX2 := Lib.hid x2
    have HR2 := Lib.hid ((x2.block _ (Array.getElem?_eq_some_iff.1 HR1.out).1).trans HR1.out)
    clear he hk x2 r0 r1 r2
    go_upto_region 4 with fail
    obtain ⟨W3, hW3⟩ : ∃ W3, W3 = w2.alloc (.cells #[.int .i64 e.op, .int .i64 e.wd, .int .i64 e.n, .slice ka kn kc] 25) := ⟨_, rfl⟩
    rw [← hW3]
    have x3 : Ext w2 W3 := by rw [hW3]; exact (Ext.refl w2).alloc _
    have hb3 : W3.heap[w2.heap.size]? = some (.cells #[.int .i64 e.op, .int .i64 e.wd, .int .i64 e.n, .slice ka kn kc] 25 (0, 0)) := by rw [hW3]; exact heap_new _ _
    obtain ⟨b0, b1, b2, b3, _⟩ := cells_of_block hb3
    have HB3 := Lib.hid hb3; have HX3 := Lib.hid x3
    have HKB : Hid (KidsB w1.heap.size W3 (.slice ka kn kc) e.kids) := HK.out.keep (x3.asFrom _)
    clear hW3 x3 hb3
    go_wp2_with fail
    refine (Size_all e _ W3 601 ⟨_, rfl, HKB.out.kids⟩ HSZ.out (by omega) (by omega)).mono ?_
    rintro r w4 ⟨rfl, x4⟩
    have HX4 := Lib.hid x4
    have HR4 := Lib.hid (((HX3.out.trans x4).block _ (Array.getElem?_eq_some_iff.1 HR2.out).1).trans HR2.out)
    have HB4 := Lib.hid ((x4.block _ (Array.getElem?_eq_some_iff.1 HB3.out).1).trans HB3.out)
    clear x4 b0 b1 b2 b3
    obtain ⟨mn, hmn⟩ : ∃ mn, mn = min (e.size : Int) 601 := ⟨_, rfl⟩
    rw [← hmn]
    obtain ⟨c0, c1, c2, c3, f0, f1, f2, f3⟩ := cells_of_block HR4.out
    by_cases hbig : 600 < e.size
    · have hd : decide ((600 : Int) < mn) = true := decide_eq_true (by omega)
      have HE : Hid (exprS cs ws is = .mk 0 0 0 []) := by unfold Hid; rw [HES.out, if_pos hbig]
      have HB5 := Lib.hid (put4_new (x := .int .i64 0) (y := .int .i64 0) (z := .int .i64 0) (u := .slice none 0 0) HR4.out)
      clear hbig hmn
      go_wp2_with fail
      refine bodyPost_ret (v := .agg #[.int .i64 0, .int .i64 0, .int .i64 0, .slice none 0 0]) (results_cell_row Tryz.results31 _ _ (w.heap.size + 1) 25 _ (0, 0) _ rfl HB5.out Tryz.underlying25 rfl sizeExpr) rfl ⟨⟨_, rfl, ?_⟩, Below.trans ((((HX.out.trans HX1.out).trans HX2.out).trans HX3.out).trans HX4.out) (below_put4 (Nat.le_succ _))⟩
      rw [HE.out]
      exact ⟨_, rfl, kidsB_nil _ _⟩
    · have hd : decide ((600 : Int) < mn) = false := decide_eq_false (by omega)
      have HE : Hid (exprS cs ws is = e) := by unfold Hid; rw [HES.out, if_neg hbig]
      have HB5 := Lib.hid (put4_new (x := .int .i64 e.op) (y := .int .i64 e.wd) (z := .int .i64 e.n) (u := .slice ka kn kc) HR4.out)
      obtain ⟨d0, d1, d2, d3, _⟩ := cells_of_block HB4.out
      clear hbig hmn
      go_wp2_with fail
      refine bodyPost_ret (v := .agg #[.int .i64 e.op, .int .i64 e.wd, .int .i64 e.n, .slice ka kn kc]) (results_cell_row Tryz.results31 _ _ (w.heap.size + 1) 25 _ (0, 0) _ rfl HB5.out Tryz.underlying25 rfl sizeExpr) rfl ⟨⟨_, rfl, ?_⟩, Below.trans ((((HX.out.trans HX1.out).trans HX2.out).trans HX3.out).trans HX4.out) (below_put4 (Nat.le_succ _))⟩
      rw [HE.out]
      have hz := HZ.out; have hs1 := HX1.out.size
      exact ⟨_, rfl, ((HKB.out.keep (HX4.out.asFrom _)).keep (fun q h1 _ => put4_heap q (by omega))).mono (by omega)⟩
end Go.Proofs.YtlcgbdjmlnjhcaaGreatDoor
namespace Go.Proofs.YtlcgbdjmlnjhcaaGreatDoor
open Go.RowKit

theorem sizeBuilder : (Tryz.prog.info? 90).map (·.size) = some 2 := by kernel_rfl
theorem liesBuilder : liesAt Tryz.prog Tryz.prog.depth 90 (2 / Tryz.prog.cellsOf 90) 0 90 1 = true := by kernel_rfl
theorem infoByte : (Tryz.prog.info? 5).map (fun i => (i.zero, i.size, i.bytes)) = some (some (.int .u8 0), 1, 1) := by kernel_rfl

set_option maxHeartbeats 1000000 in
set_option maxRecDepth 100000 in
theorem copyCheck_used (b : Nat) (w : World) (h0 : w.cell? ⟨b, 0, none⟩ = some (.pointer (some ⟨b, 0, none⟩))) :
    Calls Tryz.prog 79 #[.pointer (some ⟨b, 0, none⟩)] w fun e w' => e = .returned (.tuple #[]) ∧ w' = w := by
  obtain ⟨j, hj, _⟩ := Option.map_eq_some_iff.1 sizeBuilder
  go_enter Tryz.func79, Tryz.ntmps79
  go_wp2
  rw [Lib.run_neq_ptr_same w _ Tryz.underlying87 hj]
  go_wp2
  go_end0
  exact ⟨rfl, rfl⟩

set_option maxHeartbeats 1000000 in
set_option maxRecDepth 100000 in
theorem copyCheck_fresh (b : Nat) (w : World) (h0 : w.cell? ⟨b, 0, none⟩ = some (.pointer none)) (hsh : w.shape? b = some (90, 2)) (hfz : w.frozen? ⟨b, 0, none⟩ = false) :
    Calls Tryz.prog 79 #[.pointer (some ⟨b, 0, none⟩)] w fun e w' => e = .returned (.tuple #[]) ∧ w' = w.setCell ⟨b, 0, none⟩ (.pointer (some ⟨b, 0, none⟩)) := by
  obtain ⟨j, hj, hjs⟩ := Option.map_eq_some_iff.1 sizeBuilder
  go_enter Tryz.func79, Tryz.ntmps79
  go_wp2
  rw [Lib.run_to_unsafe w ⟨b, 0, none⟩ Tryz.underlying87 Tryz.underlying135 hj (by rw [hjs]; decide) hsh (Nat.zero_lt_succ 1)]
  simp only [Result.andThen]
  rw [Oper.upon_value]
  go_wp2
  rw [run_callFunc_extern Tryz.func104 (by kernel_rfl) (by kernel_rfl) (by kernel_rfl) (e := Extern.AbiNoEscape.same) (by kernel_rfl)]
  rw [Lib.run_noEscape]
  simp only [Result.andThen]
  rw [Oper.upon_value]
  go_wp2
  rw [Lib.run_from_unsafe w ⟨b, 0, none⟩ Tryz.underlying135 Tryz.underlying87 hj hsh liesBuilder]
  simp only [Result.andThen]
  rw [Oper.upon_value]
  go_wp2
  go_end0
  exact ⟨rfl, rfl⟩

theorem copyCheck_any (B b : Nat) (bs : List Value) (w : World) (h : Lib.IsBuilderF 90 5 B b bs w) :
    Calls Tryz.prog 79 #[.pointer (some ⟨b, 0, none⟩)] w fun e w' => e = .returned (.tuple #[]) ∧ (Lib.BuilderAtF 90 5 B b (.pointer (some ⟨b, 0, none⟩)) bs w' ∧ Below B w w' ∧ Lib.OthersKept 5 (some b) w w') := by
  rcases h with h | h
  · refine (copyCheck_fresh b w h.cell0 h.shape h.frozen0).mono ?_
    rintro e w' ⟨rfl, rfl⟩
    exact ⟨rfl, h.used _, (Below.refl B w).setCell (p := ⟨b, 0, none⟩) h.1 _, (Lib.OthersKept.refl _ _ w).setCell ⟨b, 0, none⟩ rfl _⟩
  · refine (copyCheck_used b w h.cell0).mono ?_
    rintro e w' ⟨rfl, rfl⟩
    exact ⟨rfl, h, Below.refl B _, Lib.OthersKept.refl _ _ _⟩

set_option maxHeartbeats 2000000 in
set_option maxRecDepth 100000 in
theorem WriteString_any (B b : Nat) (bs : List Value) (s : ByteArray) (w : World) (h : Lib.IsBuilderF 90 5 B b bs w) (hlen : bs.length + s.size ≤ 140737488355328) (hBw : B ≤ w.heap.size) :
    Calls Tryz.prog 56 #[.pointer (some ⟨b, 0, none⟩), .string s] w fun e w' => e = .returned (.tuple #[.int .i64 s.size, .nilIface]) ∧ (Lib.BuilderAtF 90 5 B b (.pointer (some ⟨b, 0, none⟩)) (bs ++ Lib.strCells s) w' ∧ Below B w w' ∧ Lib.OthersKept 5 (some b) w w') := by
  obtain ⟨i0, hi, hz0, hz1, hz2⟩ := info_parts infoByte
  have H := Lib.hid h; clear h
  go_enter Tryz.func56, Tryz.ntmps56
  go_wp2_with (go_at_call 79; refine (copyCheck_any B b bs _ H.out).mono ?_)
  rintro e w1 ⟨rfl, h1, hb1, hk1⟩
  obtain ⟨hB, v, hbk, hown, hne⟩ := h1
  have c0 : w1.cell? ⟨b, 0, none⟩ = some (.pointer (some ⟨b, 0, none⟩)) := by rw [Lib.cell_of_heap hbk]; rfl
  have c1 : w1.cell? ⟨b, 1, none⟩ = some v := by rw [Lib.cell_of_heap hbk]; rfl
  go_wp2_with (at_builtin; refine Lib.wpList_append_own_stringF _ rfl _ _ 88 9 rfl B 5 i0 Tryz.underlying88 Tryz.underlying9 hi hz0 hz1 hz2 _ _ _ rfl hown s rfl ?c3 ?c4 ?c5 ?_)
  case c3 => unfold maxLen; omega
  case c4 => omega
  case c5 => have := hb1.size; omega
  intro v' w2 hown' hgrow _
  have hlt : b < w1.heap.size := by
    rcases Nat.lt_or_ge b w1.heap.size with h' | h'
    · exact h'
    · simp [Array.getElem?_eq_none h'] at hbk
  have hb2 : w2.heap[b]? = some (.cells #[.pointer (some ⟨b, 0, none⟩), v] 90 (0, 0)) := by
    rw [hgrow.block b hlt (fun e => hne e.symm)]
    exact hbk
  have d0 : w2.cell? ⟨b, 0, none⟩ = some (.pointer (some ⟨b, 0, none⟩)) := by rw [Lib.cell_of_heap hb2]; rfl
  have d1 : w2.cell? ⟨b, 1, none⟩ = some v := by rw [Lib.cell_of_heap hb2]; rfl
  have f1 : w2.frozen? ⟨b, 1, none⟩ = false := Lib.frozen_of_heap hb2 1
  obtain ⟨ao, n', cap, rfl⟩ : ∃ ao n' cap, v' = .slice ao n' cap := by
    rcases hown'.2 with ⟨hv, _⟩ | ⟨g, cap, cur, fz, hv, _⟩
    · exact ⟨_, _, _, hv⟩
    · exact ⟨_, _, _, hv⟩
  go_wp2
  go_ret2
  refine ⟨rfl, ?_, ?_, (hk1.grown hgrow (Lib.ownsRowF_kind hown)).setCell ⟨b, 1, none⟩ rfl _⟩
  · exact Lib.BuilderAtF.put (T := 90) (e := 5) hB hb2 (bs' := bs ++ Lib.strCells s) (by simpa [Lib.strCells_length] using hown') (by decide)
  · exact (hb1.grown hgrow (by have := hb1.size; omega) (fun k hk => (hown.lt k hk).1)).setCell (p := ⟨b, 1, none⟩) hB _
end Go.Proofs.YtlcgbdjmlnjhcaaGreatDoor
namespace Go.Proofs.YtlcgbdjmlnjhcaaGreatDoor
open Go.RowKit

def letterS (op : Int) : List UInt8 := if op = 2 then [99] else if op = 3 then [111] else []
/-- The names of the operators from 4 to 14. -/
def namesL : List (List UInt8) := [[110, 111, 116], [97, 110, 100], [111, 114], [120, 111, 114], [97, 100, 100], [115, 117, 98], [109, 117, 108], [101, 113], [108, 116], [108, 101], [105, 116, 101]]
def nameS (op : Int) : List UInt8 := namesL.getD (op - 4).toNat []
mutual
/-- The text of an expression. -/
def E.text : E → List UInt8
  | .mk op wd n ks => if op = 1 ∨ op = 2 ∨ op = 3 then letterS op ++ Lib.itoa n ++ [58] ++ Lib.itoa wd else nameS op ++ textAll [40] ks ++ [41]
def textAll (sep : List UInt8) : List E → List UInt8
  | [] => []
  | e :: r => sep ++ e.text ++ textAll [44] r
end
/-- The table of names. -/
def namesA : Array Value := (namesL.map fun l => Value.string ⟨l.toArray⟩).toArray
def Names (w : World) : Prop := ∃ t fr, w.heap[0]? = some (.cells namesA t fr)
theorem Names.ext {w w' : World} (h : Names w) (he : Ext w w') : Names w' := by
  obtain ⟨t, fr, h⟩ := h
  have hlt : 0 < w.heap.size := by
    rcases Nat.lt_or_ge 0 w.heap.size with h1 | h1
    · exact h1
    · rw [Array.getElem?_eq_none_iff.2 h1] at h; cases h
  exact ⟨t, fr, by rw [he.block _ hlt]; exact h⟩
theorem names_cases {k : Nat} (h : k < 11) : k = 0 ∨ k = 1 ∨ k = 2 ∨ k = 3 ∨ k = 4 ∨ k = 5 ∨ k = 6 ∨ k = 7 ∨ k = 8 ∨ k = 9 ∨ k = 10 := by omega
theorem Names.cell {w : World} (h : Names w) (k : Nat) (hk : k < 11) : w.cell? ⟨0, k, none⟩ = some (.string ⟨(namesL.getD k []).toArray⟩) := by
  obtain ⟨t, fr, h⟩ := h
  rw [Lib.cell_of_heap h]
  rcases names_cases hk with rfl | rfl | rfl | rfl | rfl | rfl | rfl | rfl | rfl | rfl | rfl <;> rfl
/-- The table of strconv's. -/
def Pow10 (w : World) : Prop := Lib.TabIs Tryz.prog w "internal/strconv.uint64pow10" .u64 Lib.pow10Tab
theorem Pow10.ext {w w' : World} (h : Pow10 w) (he : Ext w w') : Pow10 w' := by
  unfold Pow10 Lib.TabIs World.var? at *
  rw [show Tryz.prog.globalNamed "internal/strconv.uint64pow10" = some 2 by kernel_rfl] at h ⊢
  simp only [Option.bind_some] at h ⊢
  have hlt : 2 < w.heap.size := by
    rcases Nat.lt_or_ge 2 w.heap.size with h1 | h1
    · exact h1
    · rw [Array.getElem?_eq_none_iff.2 h1] at h; cases h
  rw [he.block _ hlt]; exact h
theorem ext_grow (w : World) (k : Nat) (os : Array Obj) : Ext w (Sort.grow (w.drewN k) os) :=
  ⟨rfl, rfl, rfl, by simp [Sort.grow], fun i hi => by simp [Sort.grow, World.drewN, Array.getElem?_append_left hi]⟩

theorem Itoa_any (n : Int) (w : World) (h0 : -9223372036854775808 ≤ n) (h1 : n ≤ 9223372036854775807) (hP : Pow10 w) :
    Calls Tryz.prog 58 #[.int .i64 n] w fun e w' => e = .returned (.string ⟨(Lib.itoa n).toArray⟩) ∧ Ext w w' :=
  (Tryz.strconv_Itoa n h0 h1 w hP).mono fun e w' ⟨h, k, os, hw⟩ => ⟨h, by rw [hw]; exact ext_grow w k os⟩

set_option maxHeartbeats 400000 in
theorem letter_any (op : Int) (w : World) (h : op = 1 ∨ op = 2 ∨ op = 3) : Calls Tryz.prog 57 #[.int .i64 op] w fun e w' => e = .returned (.string ⟨(letterS op).toArray⟩) ∧ w = w' := by
  rcases h with rfl | rfl | rfl
  all_goals
    go_enter Tryz.func57, Tryz.ntmps57
    go_wp2
    go_ret
    exact ⟨rfl, rfl⟩

/-- A builder stays one when the world grows. -/
theorem builder_ext {B b : Nat} {bs : List Value} {w w' : World} (h : Lib.IsBuilderF 90 5 B b bs w) (hx : Ext w w') : Lib.IsBuilderF 90 5 B b bs w' := by
  have key : ∀ p, Lib.BuilderAtF 90 5 B b p bs w → Lib.BuilderAtF 90 5 B b p bs w' := by
    rintro p hq
    have hlt := hq.lt
    obtain ⟨hB, v, hb, hown, hne⟩ := hq
    refine ⟨hB, v, by rw [hx.block b hlt]; exact hb, hown.kept (row := none) ⟨hx.os, hx.tape, hx.output, hx.size, fun i hi _ => hx.block i hi⟩ ?_, hne⟩
    cases v.ownBlock <;> simp
  exact h.elim (fun x => .inl (key _ x)) (fun x => .inr (key _ x))
theorem kept_ext {b : Option Nat} {w w' : World} (hx : Ext w w') : Lib.OthersKept 5 b w w' := fun k o hk _ _ => by
  have hlt : k < w.heap.size := by
    rcases Nat.lt_or_ge k w.heap.size with h1 | h1
    · exact h1
    · rw [Array.getElem?_eq_none_iff.2 h1] at hk; cases hk
  rw [hx.block k hlt]; exact hk
theorem strCells_list (l : List UInt8) : Lib.strCells ⟨l.toArray⟩ = Lib.byteCells l := by simp [Lib.strCells, Lib.byteCells]

/-- What the writing of an expression needs: the builder, the variable that holds the function, the frame. -/
def WEnv (B b V : Nat) (bs : List UInt8) (w : World) : Prop :=
  Lib.IsBuilderF 90 5 B b (Lib.byteCells bs) w ∧ w.heap[V]? = some (.cells #[.func (.func 55) #[] #[.pointer (some ⟨b, 0, none⟩), .pointer (some ⟨V, 0, none⟩)]] 76 (0, 0))
theorem WEnv.ext {B b V : Nat} {bs : List UInt8} {w w' : World} (h : WEnv B b V bs w) (hx : Ext w w') : WEnv B b V bs w' := by
  refine ⟨builder_ext h.1 hx, ?_⟩
  have hk := h.2
  have hlt : V < w.heap.size := by
    rcases Nat.lt_or_ge V w.heap.size with h1 | h1
    · exact h1
    · rw [Array.getElem?_eq_none_iff.2 h1] at hk; cases hk
  rw [hx.block V hlt]; exact hk
theorem WEnv.cell {B b V : Nat} {bs : List UInt8} {w : World} (h : WEnv B b V bs w) : w.cell? ⟨V, 0, none⟩ = some (.func (.func 55) #[] #[.pointer (some ⟨b, 0, none⟩), .pointer (some ⟨V, 0, none⟩)]) := by
  rw [Lib.cell_of_heap h.2]; rfl

/-- Some bytes are written. -/
theorem write_str (w0 : World) (b V : Nat) (bs l : List UInt8) (w : World) (hV : V ≠ b) (hE : WEnv w0.heap.size b V bs w) (hx : Ext w0 w) (hl : bs.length + l.length ≤ 1000000) :
    Calls Tryz.prog 56 #[.pointer (some ⟨b, 0, none⟩), .string ⟨l.toArray⟩] w fun e w' => e = .returned (.tuple #[.int .i64 l.length, .nilIface]) ∧ WEnv w0.heap.size b V (bs ++ l) w' ∧ Ext w0 w' := by
  have hs : ByteArray.size ⟨l.toArray⟩ = l.length := by simp [ByteArray.size]
  refine (WriteString_any w0.heap.size b (Lib.byteCells bs) ⟨l.toArray⟩ w hE.1 (by rw [Lib.byteCells_length, hs]; omega) hx.size).mono ?_
  rintro e w' ⟨rfl, h1, h2, h3⟩
  refine ⟨by rw [hs], ⟨.inr ?_, ?_⟩, Below.trans hx h2⟩
  · rw [strCells_list] at h1
    have : Lib.byteCells (bs ++ l) = Lib.byteCells bs ++ Lib.byteCells l := by simp [Lib.byteCells]
    rw [this]; exact h1
  · exact h3 V _ hE.2 (by simpa using hV) (fun c fz e => by cases e)
end Go.Proofs.YtlcgbdjmlnjhcaaGreatDoor
