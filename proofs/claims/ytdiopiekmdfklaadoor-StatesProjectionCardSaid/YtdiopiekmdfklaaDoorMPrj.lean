/-
  The plain side of states.Project: the widths and the numbers of a projection. No program in sight.
  The walk of states.Project. Printed by gen_prj.py out of XPrj.src.
-/
import Derived.Test.YtdiopiekmdfklaaDoorMNum
import Derived.Test.YtdiopiekmdfklaaDoorMOf
import Derived.Test.YtdiopiekmdfklaaDoorMRra
import Derived.Test.YtdiopiekmdfklaaDoorShelf
import Derived.Deep.RegionHeld3
namespace Go.Proofs.YtdiopiekmdfklaaDoor
open Go.RowKit

/-- The width of a cell of a shape. -/
def wdOf (cs ws : List Int) (c : Int) : Int := ws.getD (cs.countP fun x => decide (x < c)) 0
def wPr (cs ws list : List Int) : List Int := list.map (wdOf cs ws)
def subB (cs list : List Int) : Bool := list.all fun c => cs.contains c
def prB (cs ws is list : List Int) : Bool := validB cs ws is && incB list && subB cs list
/-- The number of the projection of a state that has a number. -/
def prN (cs ws list : List Int) (n : Nat) : Nat := (numS list (wPr cs ws list) (stN cs ws n)).toNat
def prL (cs ws : List Int) (S : List Nat) (list : List Int) : List Nat := listM (mapL (S.map (prN cs ws list)))
theorem inc_pw {l : List Int} (h : incB l = true) : l.Pairwise (· < ·) := by
  rw [List.pairwise_iff_getElem]
  intro i j hi hj hij
  have := inc_all h i j hij hj
  simpa [List.getD, hi, hj] using this
theorem pw_inc {l : List Int} (h : l.Pairwise (· < ·)) : incB l = true := by
  rw [inc_iff]
  intro i hi
  have := List.pairwise_iff_getElem.1 h i (i + 1) (by omega) hi (by omega)
  simpa [List.getD, hi, show i < l.length by omega] using this
theorem count_none {l : List Int} {x : Int} (h : ∀ y ∈ l, x ≤ y) : (l.countP fun y => decide (y < x)) = 0 := by
  rw [List.countP_eq_zero]
  intro y hy
  have := h y hy
  simp; omega
theorem count_at : ∀ {l : List Int}, l.Pairwise (· < ·) → ∀ {i : Nat}, i < l.length → (l.countP fun y => decide (y < l.getD i 0)) = i := by
  intro l
  induction l with
  | nil => intro _ i hi; simp at hi
  | cons a r ih =>
    intro h i hi
    rw [List.pairwise_cons] at h
    cases i with
    | zero =>
      apply count_none
      intro y hy
      rcases List.mem_cons.1 hy with rfl | hy
      · exact Int.le_refl _
      · exact Int.le_of_lt (h.1 y hy)
    | succ i =>
      have hi' : i < r.length := by simpa using hi
      have e : (a :: r).getD (i + 1) 0 = r.getD i 0 := by simp [List.getD]
      rw [e, List.countP_cons, ih h.2 hi']
      have : a < r.getD i 0 := h.1 _ (by rw [List.getD_eq_getElem?_getD, List.getElem?_eq_getElem hi']; exact List.getElem_mem hi')
      rw [decide_eq_true this]; rfl
theorem wd_at {cs ws : List Int} (h : incB cs = true) {i : Nat} (hi : i < cs.length) : wdOf cs ws (cs.getD i 0) = ws.getD i 0 := by
  unfold wdOf
  rw [count_at (inc_pw h) hi]
theorem mem_idx {cs : List Int} {c : Int} (h : c ∈ cs) : ∃ i, i < cs.length ∧ cs.getD i 0 = c := by
  obtain ⟨i, hi, e⟩ := List.getElem_of_mem h
  exact ⟨i, hi, by simp [List.getD, hi, e]⟩
theorem sub_mem {cs list : List Int} (h : subB cs list = true) {c : Int} (hc : c ∈ list) : c ∈ cs := by
  unfold subB at h
  rw [List.all_eq_true] at h
  exact List.contains_iff_mem.1 (h c hc)
theorem sumI_cons (a : Int) (r : List Int) : sumI (a :: r) = a + sumI r := by
  have key : ∀ (l : List Int) (x : Int), l.foldl (· + ·) x = x + l.foldl (· + ·) 0 := by
    intro l
    induction l with
    | nil => intro x; simp
    | cons b s ih => intro x; simp only [List.foldl_cons]; rw [ih, ih (0 + b)]; omega
  unfold sumI
  rw [List.foldl_cons, key]; omega
theorem sumI_nil : sumI [] = 0 := rfl
theorem sum_sub {f : Int → Int} : ∀ (cs list : List Int), cs.Pairwise (· < ·) → list.Pairwise (· < ·) → (∀ c ∈ cs, 0 ≤ f c) → (∀ c ∈ list, c ∈ cs) → sumI (list.map f) ≤ sumI (cs.map f) := by
  intro cs
  induction cs with
  | nil =>
    intro list _ _ _ h
    cases list with
    | nil => exact Int.le_refl _
    | cons b t => exact absurd (h b (by simp)) (by simp)
  | cons a r ih =>
    intro list hc hl hf h
    rw [List.pairwise_cons] at hc
    have hfa := hf a (by simp)
    cases list with
    | nil =>
      have := ih [] hc.2 List.Pairwise.nil (fun c hcc => hf c (by simp [hcc])) (fun c hcc => absurd hcc (by simp))
      rw [List.map_cons, sumI_cons]; simp only [List.map_nil] at *; omega
    | cons b t =>
      rw [List.pairwise_cons] at hl
      by_cases e : b = a
      · subst e
        have := ih t hc.2 hl.2 (fun c hcc => hf c (by simp [hcc])) (fun c hcc => by
          rcases List.mem_cons.1 (h c (by simp [hcc])) with e | e
          · have := hl.1 c hcc; omega
          · exact e)
        rw [List.map_cons, List.map_cons, sumI_cons, sumI_cons]; omega
      · have hb : b ∈ r := by
          rcases List.mem_cons.1 (h b (by simp)) with e' | e'
          · exact absurd e' e
          · exact e'
        have := ih (b :: t) hc.2 (List.pairwise_cons.2 hl) (fun c hcc => hf c (by simp [hcc])) (fun c hcc => by
          rcases List.mem_cons.1 (h c hcc) with e' | e'
          · exfalso
            have h1 := hc.1 b hb
            rcases List.mem_cons.1 hcc with e2 | e2
            · omega
            · have := hl.1 c e2; omega
          · exact e')
        rw [List.map_cons (l := r), sumI_cons]; omega
theorem map_wd {cs ws : List Int} (h : incB cs = true) (hl : cs.length = ws.length) : cs.map (wdOf cs ws) = ws := by
  apply List.ext_getElem (by simp [hl])
  intro i h1 h2
  have hi : i < cs.length := by simpa using h1
  have := wd_at (ws := ws) h hi
  simpa [List.getD, hi, h2] using this
theorem wPr_len (cs ws list : List Int) : (wPr cs ws list).length = list.length := by simp [wPr]
theorem pr_small {cs ws list : List Int} (h : smallB cs ws = true) (hi : incB list = true) (hs : subB cs list = true) : smallB list (wPr cs ws list) = true := by
  obtain ⟨h1, hw, hs0, hs12⟩ := small_sum h
  obtain ⟨hl, hinc, hin⟩ := shape_iff.1 h1
  refine small_of (shape_iff.2 ⟨(wPr_len _ _ _).symm, hi, fun i hi' => ?_⟩) ?_
  · have hm : list.getD i 0 ∈ list := by rw [List.getD_eq_getElem?_getD, List.getElem?_eq_getElem hi']; exact List.getElem_mem hi'
    obtain ⟨j, hj, e⟩ := mem_idx (sub_mem hs hm)
    have hb := hin j hj
    have hwd : (wPr cs ws list).getD i 0 = wdOf cs ws (list.getD i 0) := by simp [wPr, List.getD, hi']
    rw [hwd, ← e, wd_at hinc hj]
    exact hb
  · have hle := sum_sub (f := wdOf cs ws) cs list (inc_pw hinc) (inc_pw hi) (fun c hc => by
      obtain ⟨j, hj, e⟩ := mem_idx hc
      rw [← e, wd_at hinc hj]; have := hin j hj; omega) (fun c hc => sub_mem hs hc)
    rw [map_wd hinc hl] at hle
    exact Int.le_trans hle hs12
theorem prN_lt {cs ws list : List Int} (h : smallB list (wPr cs ws list) = true) (n : Nat) : prN cs ws list n < 4096 ∧ ((prN cs ws list n : Nat) : Int) = numS list (wPr cs ws list) (stN cs ws n) ∧ ((prN cs ws list n : Nat) : Int) < pw (sumI (wPr cs ws list)) := by
  have h1 := num_lt h (stN cs ws n)
  obtain ⟨_, _, hs0, hs12⟩ := small_sum h
  have h2 := pw_mono hs0 hs12
  have e : pw 12 = 4096 := by decide
  unfold prN
  omega
theorem mem_prL {cs ws list : List Int} (h : smallB list (wPr cs ws list) = true) (S : List Nat) {x : Nat} : x ∈ prL cs ws S list ↔ ∃ n ∈ S, prN cs ws list n = x := by
  unfold prL
  have hb : ∀ y ∈ S.map (prN cs ws list), y < 4096 := fun y hy => by
    obtain ⟨n, _, rfl⟩ := List.mem_map.1 hy
    exact (prN_lt h n).1
  rw [mem_listM, bit_mapL_at hb, decide_eq_true_eq, List.mem_map]
  exact ⟨fun h => h.2, fun h' => ⟨hb x (List.mem_map.2 h'), h'⟩⟩
theorem pr_valid {cs ws list : List Int} (h : smallB list (wPr cs ws list) = true) (S : List Nat) : ValidS list (wPr cs ws list) (prL cs ws S list) :=
  ⟨h, listM_sorted _, fun x hx => by
    obtain ⟨n, _, rfl⟩ := (mem_prL h S).1 hx
    exact (prN_lt h n).2.2⟩
end Go.Proofs.YtdiopiekmdfklaaDoor
namespace Go.Proofs.YtdiopiekmdfklaaDoor
open Go.RowKit

def ProjPost (cs ws is list : List Int) (w : World) (r : Ending) (w' : World) : Prop :=
  if prB cs ws is list then SetRes 0 list (wPr cs ws list) (castL (prL cs ws (natL is) list)) w r w' else SetRes 1 [] [] [] w r w'
theorem ProjPost.bad {cs ws is list : List Int} {w w' : World} (h : prB cs ws is list = false) (hx : Ext w w') : ProjPost cs ws is list w (.returned (.tuple #[.agg #[.slice none 0 0, .slice none 0 0, .slice none 0 0], .int .i64 1])) w' := by
  unfold ProjPost; rw [h]; exact ⟨_, rfl, SetO.nil _ _, hx⟩
/-- slices.BinarySearch. -/
theorem BSearch_any (l : List Int) (x : Int) (v : Value) (w : World) (hl : Ints w v l) (hs : l.Pairwise (· < ·)) (hn : l.length ≤ 1000000) : Calls Tryd.prog 62 #[v, .int .i64 x] w fun r w' => r = .returned (.tuple #[.int .i64 (l.countP fun y => decide (y < x) : Nat), .bool (l.contains x)]) ∧ Ext w w' := by
  rcases hl with ⟨⟨a, c, rfl⟩, rfl⟩ | ⟨b, o, cap, rfl, hm, hc⟩
  · refine (Tryd.slices_BinarySearch_int_empty a c x w).mono ?_
    rintro r w' ⟨rfl, rfl⟩
    exact ⟨rfl, Ext.refl _⟩
  · have := Tryd.slices_BinarySearch_int b o l.length cap l x w (Nat.le_refl _) (by omega) (fun j hj => by
      have := hc j hj; rw [Nat.mul_one] at this; rw [this]; simp [List.getD, hj]) (by rw [List.take_length]; exact hs.imp fun h => Int.le_of_lt h)
    rw [List.take_length] at this
    refine this.mono ?_
    rintro r w' ⟨rfl, q, rfl⟩
    exact ⟨rfl, (Ext.refl w).drewN _⟩
theorem wPr_snoc (cs ws list : List Int) {k : Nat} (h : k < list.length) : wPr cs ws (list.take (k + 1)) = wPr cs ws (list.take k) ++ [wdOf cs ws list[k]] := by
  unfold wPr; rw [List.take_succ_eq_append_getElem h, List.map_append]; rfl
theorem mapP_snoc (cs ws list : List Int) (S : List Nat) {k : Nat} (h : k < S.length) : mapL ((S.take (k + 1)).map (prN cs ws list)) = orAt (mapL ((S.take k).map (prN cs ws list))) (prN cs ws list S[k] / 64) (1 <<< (prN cs ws list S[k] % 64)) := by
  rw [List.take_succ_eq_append_getElem h, List.map_append, List.map_cons, List.map_nil, mapL_app]
theorem ofi_cells {W w5 V : World} {x y z p q r : Value} {M : List Nat} {b : Nat} (h : OfI w5 #[x, y, z] M V) (hx : Ext W w5) (h0 : W.cell? ⟨b, 0, none⟩ = some p) (h1 : W.cell? ⟨b, 1, none⟩ = some q) (h2 : W.cell? ⟨b, 2, none⟩ = some r) :
    (V.cell? ⟨w5.heap.size, 0, none⟩ = some x ∧ V.cell? ⟨w5.heap.size, 1, none⟩ = some y ∧ V.cell? ⟨w5.heap.size, 2, none⟩ = some z) ∧ (V.cell? ⟨b, 0, none⟩ = some p ∧ V.cell? ⟨b, 1, none⟩ = some q ∧ V.cell? ⟨b, 2, none⟩ = some r) := by
  obtain ⟨c0, c1, c2, _⟩ := block3 h.b0
  exact ⟨⟨c0, c1, c2⟩, (hx.trans h.ext).cell h0, (hx.trans h.ext).cell h1, (hx.trans h.ext).cell h2⟩
theorem setv_empty {w : World} {a b : Option Addr} {m n c d : Nat} {cs ws : List Int} (h1 : Ints w (.slice a m c) cs) (h2 : Ints w (.slice b n d) ws) : SetV w (.agg #[.slice a m c, .slice b n d, .slice none 0 0]) cs ws [] := ⟨_, _, _, rfl, h1, h2, .inl ⟨⟨_, _, rfl⟩, rfl⟩⟩

set_option maxRecDepth 100000 in
set_option maxHeartbeats 4000000 in
theorem Project_any (cs ws is list : List Int) (va vl : Value) (w : World) (ha : SetV w va cs ws is) (hl : Ints w vl list) (hb : list.length ≤ 1000000) (hT : DeB w) : Calls Tryd.prog 29 #[va, vl] w (ProjPost cs ws is list w) := by
  obtain ⟨ca, cc, wa, wcp, ia, ic, rfl, a1, a2, a3⟩ := ha.shape
  obtain ⟨la, lc, rfl⟩ := hl.shape
  obtain ⟨W, hW⟩ : ∃ W, Boxes w W (.cells #[.slice ca cs.length cc, .slice wa ws.length wcp, .slice ia is.length ic] 31) (.cells #[.slice none 0 0, .slice none 0 0, .slice none 0 0] 31) := ⟨_, Boxes.mk' _ _ _⟩
  have hx := hW.ext
  obtain ⟨p0, p1, p2⟩ := cells3 hW.b0
  have HA := Lib.hid (ha.ext hx); have A1 := Lib.hid (a1.ext hx); have A2 := Lib.hid (a2.ext hx); have A3 := Lib.hid (a3.ext hx); have HL := Lib.hid (hl.ext hx); have HT := Lib.hid (hT.ext hx); have HW := Lib.hid hW
  have P0 := Lib.hid p0; have P1 := Lib.hid p1; have P2 := Lib.hid p2
  have hlc := SliceAt.len_le a1; have hlw := SliceAt.len_le a2; have hli := SliceAt.len_le a3; have hll := SliceAt.len_le hl
  clear ha hl a1 a2 a3 hT hW hx
  go_enter Tryd.func29, Tryd.ntmps29
  go_upto_region 1 with fail
  rw [← HW.out.eq]
  go_wp2_with fail
  refine (valid_any cs ws is _ _ HA.out).mono ?_
  rintro r w1 ⟨rfl, x1⟩
  have X1 := Lib.hid x1
  clear x1 p0 p1 p2
  cases hval : validB cs ws is with
  | false =>
    have HVAL := Lib.hid hval
    clear hval
    have HN : Hid (prB cs ws is list = false) := by unfold Hid prB; simp [HVAL.out]
    have hR := (X1.out).block (w.heap.size + 1) (by have := HW.out.size; omega)
    rw [HW.out.b1] at hR
    obtain ⟨z0, z1, z2, f0, f1, f2⟩ := block3 hR
    have HR := Lib.hid (put3_new (x := .slice none 0 0) (y := .slice none 0 0) (z := .slice none 0 0) hR)
    have HE := Lib.hid ((HW.out.ext.trans (X1.out)).put3 (b := w.heap.size + 1) (by omega) (.slice none 0 0) (.slice none 0 0) (.slice none 0 0))
    clear hR
    go_wp2_with fail
    exact bodyPost_ret (v := .tuple #[.agg #[.slice none 0 0, .slice none 0 0, .slice none 0 0], .int .i64 1]) (results_row_tmp Tryd.results29 _ _ (w.heap.size + 1) 31 _ (0, 0) _ rfl HR.out Tryd.underlying31 rfl sizeSet) rfl (ProjPost.bad HN.out HE.out)
  | true =>
  obtain ⟨hcast, hvs⟩ := valid_nat hval
  obtain ⟨hsh, hWd, hs0, hs12⟩ := small_sum hvs.small
  obtain ⟨hlen, hinc, hin⟩ := shape_iff.1 hsh
  have HVAL := Lib.hid hval; have HVS := Lib.hid hvs; have HCAST := Lib.hid hcast; have HLEN := Lib.hid hlen; have HINC := Lib.hid hinc
  have hcl32 := shape_len hsh
  have HC32 := Lib.hid hcl32
  clear hval hcast hvs hsh hWd hs0 hs12 hlen hinc hin hcl32
  go_wp2_with fail
  refine (increasing_any list _ _ (HL.out.ext X1.out)).mono ?_
  rintro r w2 ⟨rfl, x2⟩
  have X2 := Lib.hid (X1.out.trans x2)
  clear x2
  cases hi : incB list with
  | false =>
    have HI := Lib.hid hi
    clear hi
    have HN : Hid (prB cs ws is list = false) := by unfold Hid prB; simp [HVAL.out, HI.out]
    have hR := (X2.out).block (w.heap.size + 1) (by have := HW.out.size; omega)
    rw [HW.out.b1] at hR
    obtain ⟨z0, z1, z2, f0, f1, f2⟩ := block3 hR
    have HR := Lib.hid (put3_new (x := .slice none 0 0) (y := .slice none 0 0) (z := .slice none 0 0) hR)
    have HE := Lib.hid ((HW.out.ext.trans (X2.out)).put3 (b := w.heap.size + 1) (by omega) (.slice none 0 0) (.slice none 0 0) (.slice none 0 0))
    clear hR
    go_wp2_with fail
    exact bodyPost_ret (v := .tuple #[.agg #[.slice none 0 0, .slice none 0 0, .slice none 0 0], .int .i64 1]) (results_row_tmp Tryd.results29 _ _ (w.heap.size + 1) 31 _ (0, 0) _ rfl HR.out Tryd.underlying31 rfl sizeSet) rfl (ProjPost.bad HN.out HE.out)
  | true =>
  have HI := Lib.hid hi
  clear hi
  go_wp2_with fail
  go_loopw [6, 27] (fun v i wr => ∃ k : Nat, k ≤ list.length ∧ i = .int .i64 k ∧ Ext w2 wr ∧ OwnInts wr w2.heap.size v (wPr cs ws (list.take k)) ∧ subB cs (list.take k) = true) (fun _ i _ => list.length - (intOf i).toNat)
  case atStart => exact ⟨0, Nat.zero_le _, rfl, Ext.refl _, OwnInts.nil _ _, rfl⟩
  case round =>
    obtain ⟨k, hk, rfl, hX, hO, hsub⟩ := hrel
    have HXr := Lib.hid hX; have HO := Lib.hid hO; have HSUB := Lib.hid hsub; clear hX hO hsub
    by_cases hlt : k < list.length
    · rcases HL.out with ⟨_, e⟩ | ⟨b, o, cap', e, _, hcl⟩
      · rw [e] at hlt; simp at hlt
      cases e
      have g0 : wr.cell? ⟨b, o + k, none⟩ = some (.int .i64 list[k]) := by have := (X2.out.trans HXr.out).cell (hcl k hlt); rw [Nat.mul_one] at this; exact this
      clear hcl
      have HS := Lib.hid (wPr_snoc cs ws list hlt)
      have HNO : Hid (cs.contains list[k] = false → subB cs list = false) := fun h => by
        rw [Bool.eq_false_iff]
        intro c
        unfold subB at c
        rw [List.all_eq_true] at c
        have := c _ (List.getElem_mem hlt)
        rw [h] at this; cases this
      have HYES : Hid (cs.contains list[k] = true → subB cs (list.take (k + 1)) = true) := fun h => by
        unfold subB
        rw [List.take_succ_eq_append_getElem hlt, List.all_append]
        have := HSUB.out
        unfold subB at this
        rw [this]; simp only [List.all_cons, List.all_nil, h]; rfl
      have HWD : Hid (wdOf cs ws list[k] = ws.getD (cs.countP fun y => decide (y < list[k])) 0) := rfl
      have HCT : Hid (cs.contains list[k] = true → (cs.countP fun y => decide (y < list[k])) < cs.length) := fun h => by
        obtain ⟨j, hj, e⟩ := mem_idx (List.contains_iff_mem.1 h)
        rw [← e, count_at (inc_pw HINC.out) hj]; exact hj
      generalize list[k] = c at *
      have q0 := (X2.out.trans HXr.out).cell P0.out
      go_wp2_with fail
      refine (BSearch_any cs c _ _ (A1.out.ext (X2.out.trans HXr.out)) (inc_pw HINC.out) (by have := HC32.out; omega)).mono ?_
      rintro r w3 ⟨rfl, x3⟩
      have HX3 := Lib.hid (HXr.out.trans x3); have HO3 := Lib.hid (HO.out.kept x3)
      clear x3 q0
      generalize (cs.countP fun y => decide (y < c)) = p at *
      cases hcn : cs.contains c with
      | false =>
        have HALL := Lib.hid (HNO.out hcn)
        clear hcn
        have HN : Hid (prB cs ws is list = false) := by unfold Hid prB; simp [HVAL.out, HI.out, HALL.out]
        have hR := (X2.out.trans HX3.out).block (w.heap.size + 1) (by have := HW.out.size; omega)
        rw [HW.out.b1] at hR
        obtain ⟨z0, z1, z2, f0, f1, f2⟩ := block3 hR
        have HR := Lib.hid (put3_new (x := .slice none 0 0) (y := .slice none 0 0) (z := .slice none 0 0) hR)
        have HE := Lib.hid ((HW.out.ext.trans (X2.out.trans HX3.out)).put3 (b := w.heap.size + 1) (by omega) (.slice none 0 0) (.slice none 0 0) (.slice none 0 0))
        clear hR
        go_wp2_with fail
        exact bodyPost_ret (v := .tuple #[.agg #[.slice none 0 0, .slice none 0 0, .slice none 0 0], .int .i64 1]) (results_row_tmp Tryd.results29 _ _ (w.heap.size + 1) 31 _ (0, 0) _ rfl HR.out Tryd.underlying31 rfl sizeSet) rfl (ProjPost.bad HN.out HE.out)
      | true =>
        have hp : p < ws.length := by have := HCT.out hcn; rw [HLEN.out] at this; exact this
        have HY := Lib.hid (HYES.out hcn)
        clear hcn
        rcases A2.out with ⟨_, e⟩ | ⟨b2, o2, cap2, e, _, hcl2⟩
        · rw [e] at hp; simp at hp
        cases e
        have g1 : w3.cell? ⟨b2, o2 + p, none⟩ = some (.int .i64 ws[p]) := by have := (X2.out.trans HX3.out).cell (hcl2 p hp); rw [Nat.mul_one] at this; exact this
        clear hcl2
        have hwx : wdOf cs ws c = ws[p] := by rw [HWD.out]; simp [List.getD, hp]
        have HWX := Lib.hid hwx
        clear hwx
        generalize ws[p] = x at *
        have q1 := (X2.out.trans HX3.out).cell P1.out
        have hlk : (wPr cs ws (list.take k)).length ≤ 1000000 := by rw [wPr_len, List.length_take]; omega
        have HLK := Lib.hid hlk
        have hlw2 : w2.heap.size ≤ w3.heap.size := HX3.out.size
        clear hlk HNO HYES HWD HCT
        go_wp2_with (at_builtin; refine wpList_append_int rfl (.tmp 41) (.tmp 47) rfl w2.heap.size w3 _ _ x rfl rfl HO3.out (by have := HLK.out; omega) hlw2 ?_)
        intro v' w' hown' hg
        rw [← HWX.out, ← HS.out] at hown'
        have hx' : Ext w2 w' := HX3.out.grown hg (fun q hq => HO3.out.base q hq)
        have HO' := Lib.hid hown'; have HX' := Lib.hid hx'
        clear hown' hx' hg
        go_wp2_with fail
        exact ⟨⟨k + 1, by omega, by go_num, HX'.out, HO'.out, HY.out⟩, by simp [intOf]; omega⟩
    · have HTk : Hid (list.take k = list) := List.take_of_length_le (by omega)
      rw [HTk.out] at HO HSUB
      have HN : Hid (prB cs ws is list = true) := by unfold Hid prB; rw [HVAL.out, HI.out, HSUB.out]; rfl
      have HSM := Lib.hid (pr_small HVS.out.small HI.out HSUB.out)
      have hlwp : (wPr cs ws list).length ≤ 1000000 := by rw [wPr_len]; exact hb
      obtain ⟨pa, pc, rfl⟩ := HO.out.ints.shape
      generalize hq : wPr cs ws list = q at *
      have HQ := Lib.hid hq
      clear hq
      generalize wr = wx at *
      go_wp2_with fail
      refine (set_any list q [] _ _ _ _ (HL.out.ext (X2.out.trans HXr.out)) HO.out.ints (.inl ⟨⟨_, _, rfl⟩, rfl⟩) (by omega) (by omega)).mono ?_
      rintro r w5 ⟨vc5, vw5, rfl, oc, ow, _, x5⟩
      obtain ⟨c5a, c5c, rfl⟩ := oc.ints.shape
      obtain ⟨w5a, w5c, rfl⟩ := ow.ints.shape
      have X5 := Lib.hid ((X2.out.trans HXr.out).trans x5); have OC := Lib.hid oc; have OW := Lib.hid ow
      have hz5 : wx.heap.size ≤ w5.heap.size := x5.size
      clear x5 oc ow
      have hmk := makeState32
      go_upto_region 15 with fail
      rw [← words_zero]
      obtain ⟨W6, hW6⟩ : ∃ W6, Boxes3 w5 W6 (.cells #[.slice c5a list.length c5c, .slice w5a q.length w5c, .slice none 0 0] 31) (.cells ints32 3) (.cells (wordsV zeroM) 71) := ⟨_, Boxes3.mk' _ _ _ _⟩
      rw [← hW6.eq]
      have I6 : Hid (OfI w5 #[.slice c5a list.length c5c, .slice w5a q.length w5c, .slice none 0 0] (mapL (((natL is).take 0).map (prN cs ws list))) W6) := ⟨hW6.ext, hW6.b0, hW6.b1, ⟨hW6.b2, len_zeroM, zero_lt⟩⟩
      have X6 := Lib.hid (X5.out.trans hW6.ext)
      clear hW6 hmk
      have q2 := X6.out.cell P2.out
      have hnl : (natL is).length = is.length := by simp [natL]
      have HNL := Lib.hid hnl
      clear hnl
      go_wp2_with fail
      go_loopw [57] (fun i wr => ∃ k : Nat, k ≤ is.length ∧ i = .int .i64 k ∧ OfI w5 #[.slice c5a list.length c5c, .slice w5a q.length w5c, .slice none 0 0] (mapL (((natL is).take k).map (prN cs ws list))) wr) (fun i _ => is.length - (intOf i).toNat)
      case atStart => exact ⟨0, Nat.zero_le _, rfl, I6.out⟩
      case round =>
        obtain ⟨k, hk, rfl, hI⟩ := hrel
        have HI2 := Lib.hid hI; clear hI
        by_cases hlt : k < is.length
        · have hltS : k < (natL is).length := by have := HNL.out; omega
          rcases A3.out with ⟨_, e⟩ | ⟨b3, o3, cap3, e, _, hcl3⟩
          · rw [e] at hlt; simp at hlt
          cases e
          have hn : is[k] = (((natL is)[k] : Nat) : Int) := by
            have := castL_get (natL is) hltS
            rw [← this]
            simp only [HCAST.out]
          have g0 : wr.cell? ⟨b3, o3 + k, none⟩ = some (.int .i64 ((natL is)[k] : Nat)) := by have := (X5.out.trans HI2.out.ext).cell (hcl3 k hlt); rw [Nat.mul_one] at this; rw [← hn]; exact this
          clear hcl3 hn
          have HS1 := Lib.hid (mapP_snoc cs ws list (natL is) hltS)
          generalize (natL is)[k] = n at *
          have HPN : Hid (prN cs ws list n < 4096 ∧ ((prN cs ws list n : Nat) : Int) = numS list q (stN cs ws n)) := by
            have h0 := HSM.out
            rw [← HQ.out] at h0
            have := prN_lt h0 n
            rw [HQ.out] at this
            exact ⟨this.1, this.2.1⟩
          have HB32 := Lib.hid (ints32_at HI2.out.b1)
          have hC0 := HI2.out.b0
          have HM0 := Lib.hid HI2.out.m
          generalize hM : mapL (((natL is).take k).map (prN cs ws list)) = M at *
          generalize hpn : prN cs ws list n = pn at *
          have HV0 : Hid (SetV wr (.agg #[.slice ca cs.length cc, .slice wa ws.length wcp, .slice (some ⟨b3, o3, none⟩) is.length ic]) cs ws is) := HA.out.ext (X5.out.trans HI2.out.ext)
          have HSB : Hid (SetV wr (.agg #[.slice c5a list.length c5c, .slice w5a q.length w5c, .slice none 0 0]) list q []) := setv_empty (OC.out.ints.ext HI2.out.ext) (OW.out.ints.ext HI2.out.ext)
          have hk0 := ofi_cells HI2.out X5.out P0.out P1.out P2.out
          have HR0 := Lib.hid ((Ext.refl wr).drew)
          obtain ⟨⟨c0, c1, c2⟩, p0, p1, p2⟩ := hk0
          clear hM hpn hC0 q2
          go_upto_region 18 with fail
          go_region_held3 (fun w' => (w'.cell? ⟨w5.heap.size, 0, none⟩ = some (.slice c5a list.length c5c) ∧ w'.cell? ⟨w5.heap.size, 1, none⟩ = some (.slice w5a q.length w5c) ∧ w'.cell? ⟨w5.heap.size, 2, none⟩ = some (.slice none 0 0)) ∧ (w'.cell? ⟨w.heap.size, 0, none⟩ = some (.slice ca cs.length cc) ∧ w'.cell? ⟨w.heap.size, 1, none⟩ = some (.slice wa ws.length wcp) ∧ w'.cell? ⟨w.heap.size, 2, none⟩ = some (.slice (some ⟨b3, o3, none⟩) is.length ic)))
            (first | (with_reducible exact hk3) | (with_reducible exact hk2) | (with_reducible exact hk1) | exact ⟨⟨c0, c1, c2⟩, p0, p1, p2⟩ | fail)
            ((first
              | (have hgo := HR2.out; clear hgo; go_at_call 46; refine (add_any pn _ M _ HPN.out.1 (HM0.out.ext HR2.out)).mono ?_; rintro r wh3 ⟨rfl, d, hd⟩; have I9 := (HI2.out.kept HR2.out).step HPN.out.1 d; rw [← hd] at I9; have J9 := Lib.hid I9; have hk3 := ofi_cells J9.out X5.out P0.out P1.out P2.out; clear hd I9)
              | (have hgo := HR1.out; clear hgo; go_at_call 22; refine (Number_any list q [] (stN cs ws n) _ _ _ (HSB.out.ext HR1.out) HST.out).mono ?_; rintro r wh2 ⟨rfl, x1⟩; rw [← HPN.out.2]; have HR2 := Lib.hid (HR1.out.trans x1); have hk2 := ofi_cells (HI2.out.kept HR2.out) X5.out P0.out P1.out P2.out; clear x1)
              | (have hgo := HR0.out; clear hgo; go_at_call 24; refine (State_any cs ws is (n : Int) zeros32 _ _ _ (HV0.out.ext HR0.out) (HB32.out.ext HR0.out) (by simp [zeros32])).mono ?_; rintro r wh1 ⟨v1, rfl, o1, x1⟩; obtain ⟨s1a, s1c, rfl⟩ := o1.ints.shape; have HST : Hid (Ints wh1 _ (stN cs ws n)) := Lib.hid o1.ints; have HR1 := Lib.hid (HR0.out.trans x1); have hk1 := ofi_cells (HI2.out.kept HR1.out) X5.out P0.out P1.out P2.out; clear x1 o1)))
          go_wp2_with fail
          exact ⟨⟨k + 1, by omega, by go_num, by rw [HS1.out]; exact J9.out⟩, by simp [intOf]; omega⟩
        · have HTk2 : Hid ((natL is).take k = natL is) := List.take_of_length_le (by have := HNL.out; omega)
          rw [HTk2.out] at HI2
          have HIE : Hid (castL (listM (mapL ((natL is).map (prN cs ws list)))) = castL (prL cs ws (natL is) list)) := rfl
          go_wp2_with fail
          refine (list_any _ _ _ HI2.out.m (HT.out.ext (X5.out.trans HI2.out.ext))).mono ?_
          rintro r w9 ⟨v9, rfl, o9, x9⟩
          rw [HIE.out] at o9
          generalize hio : castL (prL cs ws (natL is) list) = I at *
          have HIO := Lib.hid hio
          clear hio
          obtain ⟨s9a, s9c, rfl⟩ := o9.ints.shape
          have I9 := Lib.hid (HI2.out.kept x9); have O9 := Lib.hid o9
          have hzr : w5.heap.size + 2 < wr.heap.size := HI2.out.m.lt_size
          obtain ⟨c0, c1, c2, f0, f1, f2⟩ := block3 I9.out.b0
          have hS2 := heap_setCell_same w9 w5.heap.size 2 _ _ (.slice s9a I.length s9c) I9.out.b0
          have hoth : ∀ j, j ≠ w5.heap.size → (w9.setCell ⟨w5.heap.size, 2, none⟩ (.slice s9a I.length s9c)).heap[j]? = w9.heap[j]? := fun j hj => heap_setCell_other _ _ _ _ hj
          have hxS : Ext w (w9.setCell ⟨w5.heap.size, 2, none⟩ (.slice s9a I.length s9c)) := (HW.out.ext.trans (X5.out.trans I9.out.ext)).setCell (p := ⟨w5.heap.size, 2, none⟩) (by have := X5.out.size; have := HW.out.size; simp; omega) _
          have hRes : (w9.setCell ⟨w5.heap.size, 2, none⟩ (.slice s9a I.length s9c)).heap[w.heap.size + 1]? = some (.cells #[.slice none 0 0, .slice none 0 0, .slice none 0 0] 31 (0, 0)) := by
            have h1 := X5.out.size; have h2 := HW.out.size
            rw [hoth _ (by omega), (X5.out.trans I9.out.ext).block _ (by omega)]; exact HW.out.b1
          have hoc : OwnInts (w9.setCell ⟨w5.heap.size, 2, none⟩ (.slice s9a I.length s9c)) wx.heap.size (.slice c5a list.length c5c) list := by
            obtain ⟨h1, h2⟩ := OC.out.kept I9.out.ext
            refine ⟨h1, ?_⟩
            rcases h2 with h2 | ⟨g, cap, cur, hv, hg, hh, r⟩
            · exact .inl h2
            · have := own_lt OC.out g (by rw [hv]; rfl)
              exact .inr ⟨g, cap, cur, hv, hg, (hoth g (by omega)).trans hh, r⟩
          have how : OwnInts (w9.setCell ⟨w5.heap.size, 2, none⟩ (.slice s9a I.length s9c)) wx.heap.size (.slice w5a q.length w5c) q := by
            obtain ⟨h1, h2⟩ := OW.out.kept I9.out.ext
            refine ⟨h1, ?_⟩
            rcases h2 with h2 | ⟨g, cap, cur, hv, hg, hh, r⟩
            · exact .inl h2
            · have := own_lt OW.out g (by rw [hv]; rfl)
              exact .inr ⟨g, cap, cur, hv, hg, (hoth g (by omega)).trans hh, r⟩
          have hoi : OwnInts (w9.setCell ⟨w5.heap.size, 2, none⟩ (.slice s9a I.length s9c)) wr.heap.size (.slice s9a I.length s9c) I := by
            obtain ⟨h1, h2⟩ := O9.out
            refine ⟨h1, ?_⟩
            rcases h2 with h2 | ⟨g, cap, cur, hv, hg, hh, r⟩
            · exact .inl h2
            · exact .inr ⟨g, cap, cur, hv, hg, (hoth g (by omega)).trans hh, r⟩
          have HS2 := Lib.hid hS2; have HXS := Lib.hid hxS; have HRES := Lib.hid hRes
          have hw4 : w.heap.size + 2 ≤ wx.heap.size := by have h1 := X2.out.size; have h2 := HXr.out.size; have h3 := HW.out.size; omega
          have HFIN : Hid (ProjPost cs ws is list w (.returned (.tuple #[.agg #[.slice c5a list.length c5c, .slice w5a q.length w5c, .slice s9a I.length s9c], .int .i64 0])) (put3 (w9.setCell ⟨w5.heap.size, 2, none⟩ (.slice s9a I.length s9c)) (w.heap.size + 1) (.slice c5a list.length c5c) (.slice w5a q.length w5c) (.slice s9a I.length s9c))) := by
            unfold Hid ProjPost
            rw [HN.out, if_pos rfl, HIO.out, HQ.out]
            exact ⟨_, rfl, ⟨_, _, _, rfl, (hoc.put3 (by omega) _ _ _).mono (by omega), (how.put3 (by omega) _ _ _).mono (by omega), (hoi.put3 (by omega) _ _ _).mono (by omega)⟩, hxS.put3 (by omega) _ _ _⟩
          obtain ⟨z0, z1, z2, e0, e1, e2⟩ := block3 hRes
          obtain ⟨d0, d1, d2, _, _, _⟩ := block3 hS2
          clear hoc how hoi hoth hS2 hxS hRes x9 o9
          go_wp2_with fail
          have HR9 := put3_new (x := .slice c5a list.length c5c) (y := .slice w5a q.length w5c) (z := .slice s9a I.length s9c) HRES.out
          exact bodyPost_ret (v := .tuple #[.agg #[.slice c5a list.length c5c, .slice w5a q.length w5c, .slice s9a I.length s9c], .int .i64 0]) (results_row_tmp Tryd.results29 _ _ (w.heap.size + 1) 31 _ (0, 0) _ rfl HR9 Tryd.underlying31 rfl sizeSet) rfl HFIN.out
end Go.Proofs.YtdiopiekmdfklaaDoor
