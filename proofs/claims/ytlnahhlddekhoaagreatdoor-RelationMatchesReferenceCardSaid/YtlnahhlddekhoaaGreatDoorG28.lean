/-
  The reference's through: the composition of two tables.
  The reference's Compose: its refusal.
  The reference's Compose, where it composes.
-/
import Derived.Test.YtlnahhlddekhoaaGreatDoorG27
import Derived.BigRegion
namespace Go.Proofs.YtlnahhlddekhoaaGreatDoor
open Go.RowKit

theorem TabR.congr {w : World} {base g n m : Nat} {r : Nat → Nat} {T T' : Nat → Nat → Bool} (h : TabR w base g n r T m) (e : ∀ i, i < m → ∀ j, j < n → T i j = T' i j) : TabR w base g n r T' m :=
  ⟨h.le, h.top, fun i hi => ⟨(h.row i hi).1, (h.row i hi).2.congr fun j hj => by rw [e i hi j hj]⟩, h.one⟩
/-- The next row, made and put, beside rows of any kind. -/
theorem TabR.nextF {w : World} {base g n m : Nat} {r : Nat → Nat} {T : Nat → Nat → Bool} (h : TabR w base g n r T m) (hm : m < n) (hF : ∀ j, j < n → T m j = false) :
    ∃ r', TabR ((w.setCell ⟨g, m, none⟩ (.slice (some ⟨w.heap.size, 0, none⟩) n n)).alloc (.cells (madeCells #[.bool false] n) 4)) base g n r' T (m + 1) := by
  have hg := h.lt
  rw [← World.setCell_alloc_past (w := w) (.cells (madeCells #[.bool false] n) 4) g m _ hg]
  have hx : Ext w (w.alloc (.cells (madeCells #[.bool false] n) 4)) := (Ext.refl w).alloc _
  exact ⟨_, (h.ext hx).put hm ((World.rowIs_made w _ n _).congr fun j hj => by rw [hF j hj]) hg fun i hi => Nat.ne_of_lt (h.rlt hi)⟩

def accT (S T : Nat → Nat → Bool) (y i j : Nat) : Bool := (List.range y).any fun q => S i q && T q j
theorem accT_zero (S T : Nat → Nat → Bool) (i j : Nat) : accT S T 0 i j = false := rfl
theorem accT_succ (S T : Nat → Nat → Bool) (y i j : Nat) : accT S T (y + 1) i j = (accT S T y i j || (S i y && T y j)) := by
  unfold accT; rw [List.range_succ, List.any_append]; simp
/-- The table while row x is filled: its pairs over y up to z. -/
def curT (S T : Nat → Nat → Bool) (n x y z i j : Nat) : Bool := if i < x then accT S T n i j else (accT S T y i j || (decide (j < z) && (S i y && T y j)))
theorem curT_start (S T : Nat → Nat → Bool) (n x : Nat) (j : Nat) : curT S T n x 0 0 x j = false := by simp [curT, accT_zero]
theorem curT_row {S T : Nat → Nat → Bool} {n x y z : Nat} (h : S x y = false ∨ z = n) (i : Nat) (hi : i < x + 1) (j : Nat) (hj : j < n) : curT S T n x y z i j = curT S T n x (y + 1) 0 i j := by
  unfold curT
  by_cases c : i < x
  · rw [if_pos c, if_pos c]
  · have e : i = x := by omega
    subst e
    rw [if_neg c, if_neg c, accT_succ]
    rcases h with h | h
    · simp [h]
    · subst h; simp [hj]
theorem curT_end {S T : Nat → Nat → Bool} {n x : Nat} (i : Nat) (hi : i < x + 1) (j : Nat) (_ : j < n) : curT S T n x n 0 i j = curT S T n (x + 1) 0 0 i j := by
  unfold curT
  by_cases c : i < x
  · rw [if_pos c, if_pos (by omega)]
  · rw [if_neg c, if_pos hi]; simp
theorem curT_step {S T : Nat → Nat → Bool} {n x y z : Nat} (hs : S x y = true) (i : Nat) (_ : i < x + 1) (j : Nat) (_ : j < n) :
    (if i = x ∧ j = z then (curT S T n x y z x z || T y z) else curT S T n x y z i j) = curT S T n x y (z + 1) i j := by
  by_cases c : i = x ∧ j = z
  · obtain ⟨rfl, rfl⟩ := c
    rw [if_pos ⟨rfl, rfl⟩]
    unfold curT
    rw [if_neg (Nat.lt_irrefl _), if_neg (Nat.lt_irrefl _)]
    simp [hs]
  · rw [if_neg c]
    unfold curT
    by_cases d : i < x
    · rw [if_pos d, if_pos d]
    · rw [if_neg d, if_neg d]
      have e : decide (j < z + 1) = decide (j < z) := decide_eq_decide.2 (by omega)
      rw [e]

set_option maxRecDepth 100000 in
set_option maxHeartbeats 8000000 in
theorem Rthrough_any (n g1 g2 b1 b2 : Nat) (S T : Nat → Nat → Bool) (w : World) (h1 : TabW w b1 g1 n S) (h2 : TabW w b2 g2 n T) (h64 : n ≤ 4096) :
    Calls Tryz.prog 56 #[.slice (some ⟨g1, 0, none⟩) n n, .slice (some ⟨g2, 0, none⟩) n n] w fun r w' => ∃ g, r = .returned (.slice (some ⟨g, 0, none⟩) n n) ∧ TabW w' w.heap.size g n (accT S T n) ∧ Ext w w' := by
  obtain ⟨r1, h1⟩ := h1
  obtain ⟨r2, h2⟩ := h2
  have H1 := Lib.hid h1; have H2 := Lib.hid h2
  have hmk := run_make_row' (P := Tryz.prog) 72 74 (.slice none 0 0) 24 Tryz.underlying72 infoBits rfl .i64 .i64 n (by omega) (by omega)
  have hmk2 := run_make_row' (P := Tryz.prog) 74 4 (.bool false) 1 Tryz.underlying74 infoBit rfl .i64 .i64 n (by omega) (by omega)
  clear h1 h2
  go_enter Tryz.func56, Tryz.ntmps56
  go_wp2_with fail
  go_loopw [6] (fun i wr => ∃ (x : Nat) (r : Nat → Nat), x ≤ n ∧ i = .int .i64 x ∧ TabR wr w.heap.size w.heap.size n r (curT S T n x 0 0) x ∧ Ext w wr) (fun i _ => n - (intOf i).toNat)
  case atStart => exact ⟨0, _, Nat.zero_le _, rfl, (TabR.made _ _).congr (fun i hi => absurd hi (Nat.not_lt_zero _)), (Ext.refl _).alloc _⟩
  case round =>
    obtain ⟨x, r, hx, rfl, hT, hX⟩ := hrel
    have HT := Lib.hid hT; have HX := Lib.hid hX
    obtain ⟨z, hz⟩ := hT.top
    have hgl : w.heap.size < wr.heap.size := hT.lt
    by_cases hlx : x < n
    · have c1 := hz.cell hlx
      have f1 := hz.frozen x
      obtain ⟨r', ht⟩ := HT.out.nextF hlx (fun j _ => curT_start S T n x j)
      have x1 := (HX.out.setCell (p := ⟨w.heap.size, x, none⟩) (Nat.le_refl _) (.slice (some ⟨wr.heap.size, 0, none⟩) n n)).alloc (.cells (madeCells #[.bool false] n) 4)
      have HT' := Lib.hid ht; have HX' := Lib.hid x1
      clear hz hT hX ht x1
      go_upto_region 6 with fail
      generalize hW1 : ((wr.setCell ⟨w.heap.size, x, none⟩ (.slice (some ⟨wr.heap.size, 0, none⟩) n n)).alloc (.cells (madeCells #[.bool false] n) 4)) = W1 at HT' HX' ⊢
      clear hW1 c1 f1 HT HX hgl
      go_wp2_with fail
      go_loopw [7] (fun i wr => ∃ (y : Nat), y ≤ n ∧ i = .int .i64 y ∧ TabR wr w.heap.size w.heap.size n r' (curT S T n x y 0) (x + 1) ∧ Ext w wr) (fun i _ => n - (intOf i).toNat)
      case atStart => exact ⟨0, Nat.zero_le _, rfl, HT'.out, HX'.out⟩
      case round =>
        obtain ⟨y, hy, rfl, hT, hX⟩ := hrel
        clear HT' HX'
        generalize wr = wy at *
        have HT := Lib.hid hT; have HX := Lib.hid hX
        clear hT hX
        by_cases hly : y < n
        · go_wp2_with fail
          go_loopw [8] (fun i wr => ∃ (z : Nat), z ≤ n ∧ i = .int .i64 z ∧ TabR wr w.heap.size w.heap.size n r' (curT S T n x y z) (x + 1) ∧ Ext w wr) (fun i _ => n - (intOf i).toNat)
          case atStart => exact ⟨0, Nat.zero_le _, rfl, HT.out, HX.out⟩
          case round =>
            obtain ⟨z, hz, rfl, hT, hX⟩ := hrel
            clear HT HX
            generalize wr = wz at *
            have HT := Lib.hid hT; have HX := Lib.hid hX
            have a1 := (H1.out.ext hX).cell hlx hlx
            have a2 := (H1.out.ext hX).at hlx hly
            clear hT hX
            by_cases hlz : z < n
            · cases hb : S x y with
              | false =>
                rw [hb] at a2
                have HN : Hid (TabR wz w.heap.size w.heap.size n r' (curT S T n x (y + 1) 0) (x + 1)) := HT.out.congr (curT_row (.inl hb))
                clear hb
                go_wp2_with fail
                exact ⟨⟨y + 1, by omega, by go_num, HN.out, HX.out⟩, by simp [intOf]; omega⟩
              | true =>
                rw [hb] at a2
                have HS := Lib.hid hb
                clear hb
                have d1 := (H2.out.ext HX.out).cell hly hly
                have d2 := (H2.out.ext HX.out).at hly hlz
                have o1 := HT.out.cell (Nat.lt_succ_self x) hlx
                have o2 := HT.out.at (Nat.lt_succ_self x) hlz
                have f2 := (HT.out.row _ (Nat.lt_succ_self x)).2.frozen z
                have HG : Hid (w.heap.size ≤ r' x) := Nat.le_of_lt (Nat.lt_of_le_of_lt HT.out.le (HT.out.row _ (Nat.lt_succ_self x)).1)
                have HSt : Hid (TabR (wz.setCell ⟨r' x, z, none⟩ (.bool (curT S T n x y z x z || T y z))) w.heap.size w.heap.size n r' (curT S T n x y (z + 1)) (x + 1)) :=
                  (HT.out.set (Nat.lt_succ_self x) _).congr (curT_step HS.out)
                generalize curT S T n x y z x z = p at *
                generalize T y z = q at *
                cases p with
                | true =>
                  go_wp2_with fail
                  go_region
                  go_wp2_with fail
                  exact ⟨⟨z + 1, by omega, by go_num, HSt.out.ext (Ext.refl _).drew, (HX.out.setCell HG.out _).trans (Ext.refl _).drew⟩, by simp [intOf]; omega⟩
                | false =>
                  go_wp2_with fail
                  go_region
                  go_wp2_with fail
                  exact ⟨⟨z + 1, by omega, by go_num, HSt.out.ext (Ext.refl _).drew, (HX.out.setCell HG.out _).trans (Ext.refl _).drew⟩, by simp [intOf]; omega⟩
            · have hzn : z = n := by omega
              subst hzn
              have HN : Hid (TabR wz w.heap.size w.heap.size z r' (curT S T z x (y + 1) 0) (x + 1)) := HT.out.congr (curT_row (.inr rfl))
              go_wp2_with fail
              exact ⟨⟨y + 1, by omega, by go_num, HN.out, HX.out⟩, by simp [intOf]; omega⟩
        · have hyn : y = n := by omega
          subst hyn
          have HN : Hid (TabR wy w.heap.size w.heap.size y r' (curT S T y (x + 1) 0 0) (x + 1)) := HT.out.congr curT_end
          go_wp2_with fail
          exact ⟨⟨x + 1, r', by omega, by go_num, HN.out, HX.out⟩, by simp [intOf]; omega⟩
    · have hkn : x = n := by omega
      subst hkn
      clear hz hT hX
      go_wp2_with fail
      go_ret
      exact ⟨_, rfl, ⟨r, HT.out.congr fun i hi j _ => by unfold curT; rw [if_pos hi]⟩, HX.out⟩
end Go.Proofs.YtlnahhlddekhoaaGreatDoor
namespace Go.Proofs.YtlnahhlddekhoaaGreatDoor
open Go.RowKit

theorem TabW.ext {w w' : World} {base g n : Nat} {T : Nat → Nat → Bool} (h : TabW w base g n T) (hx : Ext w w') : TabW w' base g n T := h.elim fun r h => ⟨r, h.ext hx⟩

set_option maxRecDepth 100000 in
set_option maxHeartbeats 4000000 in
theorem RCompose_no (cs ws : List Int) (P : List (Int × Int)) (cs2 ws2 : List Int) (Q : List (Int × Int)) (va vs : Value) (w : World) (ha : RelV w va cs ws P) (hs : RelV w vs cs2 ws2 Q) (hno : alikeR cs ws P cs2 ws2 Q = false) :
    Calls Tryz.prog 16 #[va, vs] w (RelRes 1 [] [] [] w) := by
  obtain ⟨ca, cc, wa, wcp, ia, ic, rfl, a1, a2, a3⟩ := ha.shape
  obtain ⟨ca2, cc2, wa2, wc2, ia2, ic2, rfl, b1, b2, b3⟩ := hs.shape
  obtain ⟨W, hW⟩ : ∃ W, Boxes3 w W (.cells #[.slice ca cs.length cc, .slice wa ws.length wcp, .slice ia P.length ic] 29) (.cells #[.slice ca2 cs2.length cc2, .slice wa2 ws2.length wc2, .slice ia2 Q.length ic2] 29) (.cells #[.slice none 0 0, .slice none 0 0, .slice none 0 0] 29) := ⟨_, Boxes3.mk' _ _ _ _⟩
  obtain ⟨p0, p1, p2⟩ := cells3 hW.b0
  obtain ⟨q0, q1, q2⟩ := cells3 hW.b1
  have HA := Lib.hid (ha.ext hW.ext); have HS := Lib.hid (hs.ext hW.ext)
  have HW := Lib.hid hW; have HNO := Lib.hid hno
  clear ha hs a1 a2 a3 b1 b2 b3 hW hno
  go_enter Tryz.func16, Tryz.ntmps16
  go_upto_region 1 with fail
  rw [← HW.out.eq]
  go_wp2_with fail
  refine (RAlike_any cs ws P cs2 ws2 Q _ _ _ HA.out HS.out).mono ?_
  rintro r w1 ⟨rfl, x1⟩
  rw [HNO.out]
  have X1 := Lib.hid x1; clear x1
  have hR := X1.out.block (w.heap.size + 2) (by have := HW.out.size; omega)
  rw [HW.out.b2] at hR
  obtain ⟨z0, z1, z2, f0, f1, f2⟩ := block3 hR
  have HR := Lib.hid (put3_new (x := .slice none 0 0) (y := .slice none 0 0) (z := .slice none 0 0) hR)
  have HE : Hid (RelRes 1 [] [] [] w (.returned (.tuple #[.agg #[.slice none 0 0, .slice none 0 0, .slice none 0 0], .int .i64 1])) (put3 w1 (w.heap.size + 2) (.slice none 0 0) (.slice none 0 0) (.slice none 0 0))) :=
    ⟨_, rfl, RelO.nil _ _, (HW.out.ext.trans X1.out).put3 (by omega) _ _ _⟩
  clear hR
  go_wp2_with fail
  exact bodyPost_ret (v := .tuple #[.agg #[.slice none 0 0, .slice none 0 0, .slice none 0 0], .int .i64 1]) (results_row_tmp Tryz.results16 _ _ (w.heap.size + 2) 29 _ (0, 0) _ rfl HR.out Tryz.underlying29 rfl sizeRel) rfl HE.out

end Go.Proofs.YtlnahhlddekhoaaGreatDoor
namespace Go.Proofs.YtlnahhlddekhoaaGreatDoor
open Go.RowKit

def BoxS2 (b : Nat) (x0 x1 x2 y0 y1 y2 : Value) (w' : World) : Prop :=
  w'.cell? ⟨b, 0, none⟩ = some x0 ∧ w'.cell? ⟨b, 1, none⟩ = some x1 ∧ w'.cell? ⟨b, 2, none⟩ = some x2 ∧ w'.cell? ⟨b + 1, 0, none⟩ = some y0 ∧ w'.cell? ⟨b + 1, 1, none⟩ = some y1 ∧ w'.cell? ⟨b + 1, 2, none⟩ = some y2

set_option maxRecDepth 100000 in
set_option maxHeartbeats 4000000 in
theorem RCompose_yes (cs ws : List Int) (p q : List (Nat × Nat)) (va vs : Value) (w : World) (ha : RelV w va cs ws (castP p)) (hs : RelV w vs cs ws (castP q)) (hyes : alikeR cs ws (castP p) cs ws (castP q) = true) (hp : ValidR cs ws p) (hq : ValidR cs ws q) :
    Calls Tryz.prog 16 #[va, vs] w (RelRes 0 cs ws (castP (relTo (nn ws) (accT (memT p p.length) (memT q q.length) (nn ws)) (nn ws) 0)) w) := by
  obtain ⟨hw, h0, h20, hn, h64, hM, lc, lw⟩ := hp.nums
  obtain ⟨_, _, _, _, _, hMq, _, _⟩ := hq.nums
  obtain ⟨ca, cc, wa, wcp, ia, ic, rfl, a1, a2, a3⟩ := ha.shape
  obtain ⟨ca2, cc2, wa2, wc2, ia2, ic2, rfl, b1, b2, b3⟩ := hs.shape
  obtain ⟨W, hW⟩ : ∃ W, Boxes3 w W (.cells #[.slice ca cs.length cc, .slice wa ws.length wcp, .slice ia (castP p).length ic] 29) (.cells #[.slice ca2 cs.length cc2, .slice wa2 ws.length wc2, .slice ia2 (castP q).length ic2] 29) (.cells #[.slice none 0 0, .slice none 0 0, .slice none 0 0] 29) := ⟨_, Boxes3.mk' _ _ _ _⟩
  have hlen := SliceAt.len_le b3
  obtain ⟨p0, p1, p2⟩ := cells3 hW.b0
  obtain ⟨q0, q1, q2⟩ := cells3 hW.b1
  have HA := Lib.hid (ha.ext hW.ext); have HS := Lib.hid (hs.ext hW.ext)
  have A1 := Lib.hid (a1.ext hW.ext); have A2 := Lib.hid (a2.ext hW.ext)
  have HW := Lib.hid hW; have HYES := Lib.hid hyes; have HTA := Lib.hid (fun v w' hv => RTableR_any cs ws p v w' (nn ws) hv hw h0 hn h20 (by omega) hM); have HTB := Lib.hid (fun v w' hv => RTableR_any cs ws q v w' (nn ws) hv hw h0 hn h20 (by omega) hMq)
  clear ha hs a1 a2 a3 b1 b2 b3 hW hyes hw h0 h20 hn hM hMq hp hq hlen
  generalize nn ws = n at *
  go_enter Tryz.func16, Tryz.ntmps16
  go_upto_region 1 with fail
  rw [← HW.out.eq]
  go_wp2_with fail
  refine (RAlike_any cs ws _ cs ws _ _ _ _ HA.out HS.out).mono ?_
  rintro r w1 ⟨rfl, x1⟩
  rw [HYES.out]
  have X1 := Lib.hid x1
  have hR := x1.block (w.heap.size + 2) (by have := HW.out.size; omega)
  rw [HW.out.b2] at hR
  have K1 : Hid (∀ w', Ext w1 w' → BoxS2 w.heap.size (.slice ca cs.length cc) (.slice wa ws.length wcp) (.slice ia (castP p).length ic) (.slice ca2 cs.length cc2) (.slice wa2 ws.length wc2) (.slice ia2 (castP q).length ic2) w') := fun w' h => ⟨(x1.trans h).cell p0, (x1.trans h).cell p1, (x1.trans h).cell p2, (x1.trans h).cell q0, (x1.trans h).cell q1, (x1.trans h).cell q2⟩
  have HRR := Lib.hid hR
  clear x1 p0 p1 p2 q0 q1 q2 hR
  go_wp2_with fail
  have Y0 : Hid (Ext w1 w1.drew) := (Ext.refl _).drew
  refine wp_region_held (S := (BoxS2 w.heap.size (.slice ca cs.length cc) (.slice wa ws.length wcp) (.slice ia (castP p).length ic) (.slice ca2 cs.length cc2) (.slice wa2 ws.length wc2) (.slice ia2 (castP q).length ic2))) (by kernel_rfl) ?_
  change wpAnyH _ _ _ _ _ _ _ _ w1.drew
  have Y := Y0; clear Y0
  have HSS := Lib.hid (K1.out _ Y.out)
  generalize w1.drew = y at *
  refine wpAnyH_take (i := 0) (v := .pointer (some ⟨w.heap.size, 0, none⟩)) rfl (by kernel_rfl) (by kernel_rfl) (by kernel_rfl) (fun _ _ _ h => h) (.inl ⟨rfl, fun w' hx' => by obtain ⟨q0, q1, q2, q3, q4, q5⟩ := hx'; go_simp⟩) HSS.out ?_
  refine wpAnyH_take (i := 1) (v := .slice ca cs.length cc) rfl (by kernel_rfl) (by kernel_rfl) (by kernel_rfl) (fun _ _ _ h => h) (.inl ⟨rfl, fun w' hx' => by obtain ⟨q0, q1, q2, q3, q4, q5⟩ := hx'; go_simp⟩) HSS.out ?_
  refine wpAnyH_take (i := 2) (v := .pointer (some ⟨w.heap.size, 1, none⟩)) rfl (by kernel_rfl) (by kernel_rfl) (by kernel_rfl) (fun _ _ _ h => h) (.inl ⟨rfl, fun w' hx' => by obtain ⟨q0, q1, q2, q3, q4, q5⟩ := hx'; go_simp⟩) HSS.out ?_
  refine wpAnyH_take (i := 3) (v := .slice wa ws.length wcp) rfl (by kernel_rfl) (by kernel_rfl) (by kernel_rfl) (fun _ _ _ h => h) (.inl ⟨rfl, fun w' hx' => by obtain ⟨q0, q1, q2, q3, q4, q5⟩ := hx'; go_simp⟩) HSS.out ?_
  refine wpAnyH_take (i := 4) (v := .agg #[.slice ca cs.length cc, .slice wa ws.length wcp, .slice ia (castP p).length ic]) rfl (by kernel_rfl) (by kernel_rfl) (by kernel_rfl) (fun _ _ _ h => h) (.inl ⟨rfl, fun w' hx' => by obtain ⟨q0, q1, q2, q3, q4, q5⟩ := hx'; go_simp⟩) HSS.out ?_
  refine wpAnyH_take (i := 6) (v := .agg #[.slice ca2 cs.length cc2, .slice wa2 ws.length wc2, .slice ia2 (castP q).length ic2]) rfl (by kernel_rfl) (by kernel_rfl) (by kernel_rfl) (fun _ _ _ h => h) (.inl ⟨rfl, fun w' hx' => by obtain ⟨q0, q1, q2, q3, q4, q5⟩ := hx'; go_simp⟩) HSS.out ?_
  refine wpAnyH_all (rs := [5]) (by kernel_rfl) (by simp) ?_
  intro i hi
  replace hi : i = 5 := by simpa using hi
  subst hi
  unfold wpOp
  go_simp
  refine .inl ((HTA.out _ _ (HA.out.ext (X1.out.trans Y.out))).mono ?_)
  rintro r y ⟨ga, rfl, hta, x⟩
  replace Y := Lib.hid (Y.out.trans x); replace HSS := Lib.hid (K1.out _ Y.out)
  have HTa := Lib.hid hta
  clear x hta
  refine ⟨HSS.out, ?_⟩
  refine wpAnyH_all (rs := [7]) (by kernel_rfl) (by simp) ?_
  intro i hi
  replace hi : i = 7 := by simpa using hi
  subst hi
  unfold wpOp
  go_simp
  refine .inl ((HTB.out _ _ (HS.out.ext (X1.out.trans Y.out))).mono ?_)
  rintro r y ⟨gb, rfl, htb, x⟩
  replace HTa := Lib.hid (HTa.out.ext x)
  replace Y := Lib.hid (Y.out.trans x); replace HSS := Lib.hid (K1.out _ Y.out)
  have HTb := Lib.hid htb
  clear x htb
  refine ⟨HSS.out, ?_⟩
  refine wpAnyH_all (rs := [8]) (by kernel_rfl) (by simp) ?_
  intro i hi
  replace hi : i = 8 := by simpa using hi
  subst hi
  unfold wpOp
  go_simp
  refine .inl ((Rthrough_any n ga gb _ _ _ _ _ HTa.out HTb.out (by omega)).mono ?_)
  rintro r y ⟨gt, rfl, ht, x⟩
  replace Y := Lib.hid (Y.out.trans x); replace HSS := Lib.hid (K1.out _ Y.out)
  have HTt := Lib.hid ht
  clear x ht HTa HTb
  refine ⟨HSS.out, ?_⟩
  refine wpAnyH_all (rs := [9]) (by kernel_rfl) (by simp) ?_
  intro i hi
  replace hi : i = 9 := by simpa using hi
  subst hi
  unfold wpOp
  go_simp
  refine .inl ((RRelT_any cs ws n gt _ _ _ _ _ (A1.out.ext (X1.out.trans Y.out)) (A2.out.ext (X1.out.trans Y.out)) HTt.out lc lw h64).mono ?_)
  rintro r yr ⟨v, rfl, hv, x⟩
  obtain ⟨sa, sb, sc, sd, se, sf, rfl⟩ := hv.shape
  have hsz := Y.out.size
  replace Y := Lib.hid (Y.out.trans x); replace HSS := Lib.hid (K1.out _ Y.out)
  have hR := Y.out.block (w.heap.size + 2) (lt_heap HRR.out)
  rw [HRR.out] at hR
  obtain ⟨z0, z1, z2, f0, f1, f2⟩ := block3 hR
  have hz := HW.out.size
  have hz1 := X1.out.size
  generalize castP (relTo n (accT (memT p p.length) (memT q q.length) n) n 0) = I at *
  have HR := Lib.hid (put3_new (x := .slice sa cs.length sb) (y := .slice sc ws.length sd) (z := .slice se I.length sf) hR)
  have HF : Hid (RelRes 0 cs ws I w (.returned (.tuple #[.agg #[.slice sa cs.length sb, .slice sc ws.length sd, .slice se I.length sf], .int .i64 0])) (put3 yr (w.heap.size + 2) (.slice sa cs.length sb) (.slice sc ws.length sd) (.slice se I.length sf))) :=
    ⟨_, rfl, (hv.put3 (by omega) _ _ _).mono (by omega), (HW.out.ext.trans (X1.out.trans Y.out)).put3 (by omega) _ _ _⟩
  have HS2 : Hid ((BoxS2 w.heap.size (.slice ca cs.length cc) (.slice wa ws.length wcp) (.slice ia (castP p).length ic) (.slice ca2 cs.length cc2) (.slice wa2 ws.length wc2) (.slice ia2 (castP q).length ic2)) (put3 yr (w.heap.size + 2) (.slice sa cs.length sb) (.slice sc ws.length sd) (.slice se I.length sf))) := by
    obtain ⟨u0, u1, u2, u3, u4, u5⟩ := HSS.out
    have o0 : ∀ k (x y z : Value), k ≠ w.heap.size + 2 → (put3 yr (w.heap.size + 2) x y z).heap[k]? = yr.heap[k]? := fun k x y z hk => put3_other k hk
    exact ⟨(World.cell?_of_block (o0 _ _ _ _ (by simp))).trans u0, (World.cell?_of_block (o0 _ _ _ _ (by simp))).trans u1, (World.cell?_of_block (o0 _ _ _ _ (by simp))).trans u2, (World.cell?_of_block (o0 _ _ _ _ (by simp))).trans u3, (World.cell?_of_block (o0 _ _ _ _ (by simp))).trans u4, (World.cell?_of_block (o0 _ _ _ _ (by simp))).trans u5⟩
  clear hR hv x
  refine ⟨HSS.out, ?_⟩
  refine wpAnyH_all (rs := [10]) (by kernel_rfl) (by simp) ?_
  intro i hi
  replace hi : i = 10 := by simpa using hi
  subst hi
  unfold wpOp
  go_simp
  refine .inl ⟨HS2.out, ?_⟩
  refine wpAnyH_all (rs := [11]) (by kernel_rfl) (by simp) ?_
  intro i hi
  replace hi : i = 11 := by simpa using hi
  subst hi
  unfold wpOp
  go_simp
  refine .inl ⟨HS2.out, ?_⟩
  refine wpAnyH_done (by kernel_rfl) ?_ _
  go_wp2_with fail
  exact bodyPost_ret (v := .tuple #[.agg #[.slice sa cs.length sb, .slice sc ws.length sd, .slice se I.length sf], .int .i64 0]) (results_row_tmp Tryz.results16 _ _ (w.heap.size + 2) 29 _ (0, 0) _ rfl HR.out Tryz.underlying29 rfl sizeRel) rfl HF.out
end Go.Proofs.YtlnahhlddekhoaaGreatDoor
