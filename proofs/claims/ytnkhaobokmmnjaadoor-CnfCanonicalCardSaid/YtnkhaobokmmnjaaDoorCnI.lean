/-
  The walk of cnf.Normal.
-/
import Derived.Test.YtnkhaobokmmnjaaDoorCnH
namespace Go.Proofs.YtnkhaobokmmnjaaDoor
open Go.RowKit Go.Shelf

/-- What Normal gives. -/
def NormPost (w : World) (vars : Int) (cl : List (List Int)) (e : Ending) (w' : World) : Prop := Ext w w' ∧ ∃ N u, e = .returned (.agg #[.int .i64 vars, u]) ∧ NormF cl N ∧ Lists w' u N ∧ N.length ≤ cl.length ∧ ∀ n ∈ N, n.length ≤ 100000
theorem sizeCNF' : (Tryd.prog.info? 24).map (·.size) = some 2 := by kernel_rfl

theorem NormI.grown {w0 : World} {q r : Nat} {vars : Int} {fa : Option Addr} {fc : Nat} {cl : List (List Int)} {w w1 : World} (h : NormI w0 q r vars fa fc cl w) (hq : w0.heap.size ≤ q) (hr : q + 1 < r) {row : Option Nat} (hg : w.grownBy w1 row) (hrow : ∀ k, row = some k → r < k) : NormI w0 q r vars fa fc cl w1 :=
  ⟨h.ext.grown hg fun k e => by have := hrow k e; omega, (hg.block q (lt_heap h.f) fun e => by have := hrow q e.symm; omega).trans h.f, (hg.block (q + 1) (lt_heap h.z) fun e => by have := hrow (q + 1) e.symm; omega).trans h.z⟩
theorem row_some {w w' : World} {g n c : Nat} (h : w.grownBy w' (some g)) : w.grownBy w' (Value.slice (some ⟨g, 0, none⟩) n c).ownBlock := h
/-- The result is laid. -/
theorem norm_end {w0 w3 : World} {q r : Nat} {vars : Int} {fa : Option Addr} {fc : Nat} {cl N : List (List Int)} {u : Value} {us : List Value} (hq : w0.heap.size ≤ q) (hr : q + 1 < r) (hI : NormI w0 q r vars fa fc cl w3) (hR : NRow r vars w3 u us N) (hN : NormF cl N) (hl : N.length ≤ cl.length) (hb : ∀ n ∈ N, n.length ≤ 100000) {tm : Array Value} (h2 : tm.getD 2 undef = .pointer (some ⟨q + 1, 0, none⟩)) :
    bodyPost Tryd.prog Tryd.f12 (NormPost w0 vars cl) Exit.ret { tmps := tm, defers := [] } ((w3.setCell ⟨q + 1, 0, none⟩ (.int .i64 vars)).setCell ⟨q + 1, 1, none⟩ u) := by
  have hz := heap_setCell_same _ (q + 1) 1 _ _ u (heap_setCell_same w3 (q + 1) 0 _ _ (.int .i64 vars) hI.z)
  have ho : ∀ k, k ≠ q + 1 → ((w3.setCell ⟨q + 1, 0, none⟩ (.int .i64 vars)).setCell ⟨q + 1, 1, none⟩ u).heap[k]? = w3.heap[k]? := fun k hk => (heap_setCell_other _ _ _ _ hk).trans (heap_setCell_other _ _ _ _ hk)
  refine bodyPost_ret (v := .agg #[.int .i64 vars, u]) (results_cell_row Tryd.results12 tm _ (q + 1) 24 _ (0, 0) _ h2 hz Tryd.underlying24 rfl sizeCNF') rfl ?_
  refine ⟨(hI.ext.setCell (p := ⟨q + 1, 0, none⟩) (by show w0.heap.size ≤ q + 1; omega) _).setCell (p := ⟨q + 1, 1, none⟩) (by show w0.heap.size ≤ q + 1; omega) _, N, u, rfl, hN, ?_, hl, hb⟩
  have how : OwnL ((w3.setCell ⟨q + 1, 0, none⟩ (.int .i64 vars)).setCell ⟨q + 1, 1, none⟩ u) (r + 1) u us := hR.own.keep fun k e => ho k (by have := (hR.own.typed k e).1; omega)
  exact how.lists hR.len fun i h1 h2 => ((hR.el i h1 h2).keep fun k e => ho k (by have := (hR.el i h1 h2).base k e; omega)).ints

set_option maxRecDepth 100000 in
set_option maxHeartbeats 8000000 in
theorem CNormal_any (vars : Int) (cl : List (List Int)) (vf : Value) (w : World) (hf : CnfV w vf vars cl) (ht : TameC vars cl) (hv : validC vars cl = true) : Calls Tryd.prog 12 #[vf] w (NormPost w vars cl) := by
  obtain ⟨fa, fc, rfl, hcl⟩ := hf.shape
  have HT := Lib.hid ht; have HV := Lib.hid hv
  have HLIT : Hid (∀ c ∈ cl, ∀ x ∈ c, x ≠ 0 ∧ -8000 ≤ x ∧ x ≤ 8000) := by
    unfold validC at hv
    simp only [Bool.and_eq_true, decide_eq_true_eq, List.all_eq_true] at hv
    intro c hc x hx
    have h1 := absI_ok (hv.2 c hc x hx)
    have h2 := hv.1.1.2
    unfold absI at h1
    split at h1 <;> omega
  obtain ⟨W, hW⟩ : ∃ W, W = (w.alloc (.cells #[.int .i64 vars, .slice fa cl.length fc] 24)).alloc (.cells #[.int .i64 0, .slice none 0 0] 24) := ⟨_, rfl⟩
  have hx : Ext w W := by rw [hW]; exact ((Ext.refl w).alloc _).alloc _
  have hA : W.heap[w.heap.size]? = some (.cells #[.int .i64 vars, .slice fa cl.length fc] 24 (0, 0)) := by rw [hW]; exact (heap_alloc_old _ _ (by simp)).trans (heap_new _ _)
  have hZ : W.heap[w.heap.size + 1]? = some (.cells #[.int .i64 0, .slice none 0 0] 24 (0, 0)) := by
    have := heap_new (w.alloc (.cells #[.int .i64 vars, .slice fa cl.length fc] 24)) (.cells #[.int .i64 0, .slice none 0 0] 24)
    rw [World.size_alloc] at this; rw [hW]; exact this
  obtain ⟨p0, p1⟩ := CnfAt.cells hA
  have HI0 : Hid (NormI w w.heap.size 0 vars fa fc cl W) := ⟨hx, hA, hZ⟩
  have HL := Lib.hid (hcl.ext hx); have HW := Lib.hid hW
  have HCL := Lib.hid hcl
  clear hf hcl ht hv hx hW hA hZ
  go_enter Tryd.func12, Tryd.ntmps12
  go_upto_region 1 with fail
  rw [← HW.out]
  clear HW
  go_upto_region 3 with (go_at_call 15; refine (CValid_any vars cl _ W ⟨_, rfl, HL.out⟩ HT.out).mono ?_; rintro r w2 ⟨rfl, x2⟩; rw [HV.out])
  have hI2 := HI0.out.later x2
  have hrq : w.heap.size + 1 < w2.heap.size := lt_heap hI2.z
  obtain ⟨W3, hW3⟩ : ∃ W3, W3 = w2.alloc (.cells #[.int .i64 vars, .slice none 0 0] 24) := ⟨_, rfl⟩
  have x3 : Ext w2 W3 := by rw [hW3]; exact (Ext.refl w2).alloc _
  have hR0 : NRow w2.heap.size vars W3 (.slice none 0 0) [] [] := ⟨by rw [hW3]; exact heap_new _ _, OwnL.nil _ _, rfl, fun i h1 => by simp at h1⟩
  have HI3 : Hid (NormI w w.heap.size w2.heap.size vars fa fc cl W3) := by
    have := hI2.later x3; exact ⟨this.ext, this.f, this.z⟩
  have HR0 := Lib.hid hR0
  replace p0 := x2.cell p0; replace p1 := x2.cell p1
  clear x2 hI2 HI0 HL hR0 x3
  go_upto_region 4 with fail
  rw [← hW3]
  clear hW3 p0 p1
  have hln := HT.out.len
  have p1 : W3.cell? ⟨w.heap.size, 1, none⟩ = some (.slice fa cl.length fc) := (CnfAt.cells HI3.out.f).2
  generalize hr : w2.heap.size = r at *
  clear hr
  go_upto_region 5 with fail
  clear p1
  go_loopw [18] (fun i wr => ∃ k : Nat, i = .int .i64 k ∧ k ≤ cl.length ∧ NormI w w.heap.size r vars fa fc cl wr ∧ ∃ vcl vs M, NRow r vars wr vcl vs M ∧ NormM cl k M) (fun i _ => cl.length - (intOf i).toNat)
  case atStart => exact ⟨0, rfl, Nat.zero_le _, HI3.out, _, _, _, HR0.out, NormM.zero cl⟩
  case round =>
    obtain ⟨k, rfl, hk, hI, vcl, vs, M, hR, hM⟩ := hrel
    have HI := Lib.hid hI; have HR := Lib.hid hR; have HM := Lib.hid hM
    have HML := Lib.hid hM.len; have HVL := Lib.hid hR.len
    clear hI hR hM
    by_cases hlt : k < cl.length
    · rcases HCL.out.ext HI.out.ext with ⟨_, e⟩ | ⟨b, o, cap, e, _, hc⟩
      · rw [e] at hlt; simp at hlt
      cases e
      obtain ⟨v1, g1, i1⟩ := hc k hlt
      rw [Nat.mul_one] at g1
      obtain ⟨a1, c1, rfl⟩ := i1.shape
      have hlits := HLIT.out _ (List.getElem_mem hlt)
      have hcl1 := (HT.out.lits _ (List.getElem_mem hlt)).1
      have HNC := Lib.hid (normalClause_any cl[k] _ wr i1 hlits (by omega))
      have HADD : Hid (∀ n, NormC cl[k] n → n.length ≤ cl[k].length → NormM cl (k + 1) (M ++ [n])) := fun n h1 h2 => HM.out.add hlt h1 (by omega)
      have HSKIP : Hid (isTaut cl[k] = true → NormM cl (k + 1) M) := fun h => HM.out.skip hlt h fun x hx => (hlits x hx).1
      clear hc i1 hlits
      generalize cl[k] = c at *
      go_upto_region 8 with (go_at_call 22; refine HNC.out.mono ?_; rintro r w4 ⟨x4, hres⟩; rcases hres with ⟨u, n, rfl, hn1, hn2, hn3⟩ | ⟨rfl, ht⟩)
      · obtain ⟨u1, u2, u3, rfl⟩ := hn2.isSl
        have HR4 := Lib.hid (HR.out.later x4); have HI4 := Lib.hid (HI.out.later x4)
        have hrs := lt_heap HR.out.blk
        have HU : Hid (OwnInts w4 (r + 1) (.slice u1 u2 u3) n) := hn2.mono hrs
        have HM2 := Lib.hid (HADD.out n hn1 hn3)
        have hsz4 : r + 1 ≤ w4.heap.size := lt_heap HR4.out.blk
        obtain ⟨va, vc, rfl⟩ := HR4.out.own.shape
        have k1 : w4.cell? ⟨r, 1, none⟩ = some (.slice va vs.length vc) := by rw [Lib.cell_of_heap HR4.out.blk]; rfl
        have HSL := Lib.hid HU.out.isSl
        have hvs : vs.length ≤ 1000000 := by have h1 := HML.out; have h2 := HVL.out; omega
        clear x4 hn1 hn2 hn3 HNC HADD HSKIP g1 HR HI
        go_wp2_with (at_builtin; refine wpList_append_row rfl (.tmp 29) (.tmp 31) rfl (r + 1) w4 _ vs (.slice u1 u2 u3) rfl rfl HR4.out.own HSL.out hvs hsz4 ?_)
        intro v' w5 ho hg
        obtain ⟨pa, pc, rfl⟩ := ho.shape
        have hrow : ∀ k, (Value.slice va vs.length vc).ownBlock = some k → r < k := fun k e => by have := (HR4.out.own.typed k e).1; omega
        have hb5 := (hg.block r hsz4 (fun e => by have := hrow r e.symm; omega)).trans HR4.out.blk
        have k5 : w5.cell? ⟨r, 1, none⟩ = some (.slice va vs.length vc) := by rw [Lib.cell_of_heap hb5]; rfl
        have f5 := Lib.frozen_of_heap hb5 1
        have HR5 : Hid (NRow r vars (w5.setCell ⟨r, 1, none⟩ (.slice pa (vs ++ [Value.slice u1 u2 u3]).length pc)) (.slice pa (vs ++ [Value.slice u1 u2 u3]).length pc) (vs ++ [Value.slice u1 u2 u3]) (M ++ [n])) := by
          refine HR4.out.turn hg ho (by simp [HR4.out.len]) fun i h1 h2 => ?_
          have hll := HR4.out.len
          rcases Nat.lt_or_ge i vs.length with c' | c'
          · have e1 : (vs ++ [Value.slice u1 u2 u3])[i] = vs[i] := List.getElem_append_left c'
            have e2 : (M ++ [n])[i] = M[i]'(by omega) := List.getElem_append_left (by omega)
            rw [e1, e2]; exact HR4.out.el_grown hg (HR4.out.el i c' (by omega))
          · have hi : i = vs.length := by simp at h1; omega
            subst hi
            have e1 : (vs ++ [Value.slice u1 u2 u3])[vs.length] = .slice u1 u2 u3 := by simp
            have e2 : (M ++ [n])[vs.length]'h2 = n := by simp [hll]
            rw [e1, e2]; exact HR4.out.el_grown hg HU.out
        have HI5 := Lib.hid (HI4.out.turn (Nat.le_refl _) hrq hg hrow (.slice pa (vs ++ [Value.slice u1 u2 u3]).length pc))
        clear ho hg hrow hb5 k1
        generalize hvv : (vs ++ [Value.slice u1 u2 u3]).length = L5 at *
        go_wp2_with fail
        exact ⟨⟨k + 1, by go_num, by omega, HI5.out, _, _, _, HR5.out, HM2.out⟩, by simp [intOf]; omega⟩
      · have HR4 := Lib.hid (HR.out.later x4); have HI4 := Lib.hid (HI.out.later x4)
        have HM2 := Lib.hid (HSKIP.out ht)
        clear x4 ht HNC HADD HSKIP g1 HR HI
        go_wp2_with fail
        exact ⟨⟨k + 1, by go_num, by omega, HI4.out, _, _, _, HR4.out, HM2.out⟩, by simp [intOf]; omega⟩
    · have hkl : k = cl.length := by omega
      subst hkl
      have HMEM : Hid (∀ n, n ∈ M ↔ ∃ c ∈ cl, NormC c n) := by have := HM.out.mem; rw [List.take_length] at this; exact this
      have hML := HML.out
      have hbnd := HM.out.bnd
      have hrs := lt_heap HR.out.blk
      rcases HR.out.own.1.2 with ⟨rfl, hv0⟩ | ⟨g, gcap, gcur, rfl, hgb, _⟩
      · have hM0 : M = [] := List.length_eq_zero_iff.1 (by have := HVL.out; omega)
        subst hM0
        have HNF : Hid (NormF cl []) := ⟨.nil, HMEM.out⟩
        have k1 : wr.cell? ⟨r, 1, none⟩ = some (.slice none 0 0) := by rw [Lib.cell_of_heap HR.out.blk]; rfl
        have k0 : wr.cell? ⟨r, 0, none⟩ = some (.int .i64 vars) := by rw [Lib.cell_of_heap HR.out.blk]; rfl
        have f1 := Lib.frozen_of_heap HR.out.blk 1
        have z0 := (CnfAt.cells HI.out.z).1
        have z1 := (CnfAt.cells HI.out.z).2
        have y0 := Lib.frozen_of_heap HI.out.z 0
        have y1 := Lib.frozen_of_heap HI.out.z 1
        have HR2 : Hid (NRow r vars (wr.setCell ⟨r, 1, none⟩ (.slice none 0 0)) (.slice none 0 0) [] []) := HR.out.turn (World.grownBy.refl wr _) (OwnL.nil _ _) rfl fun i h1 => by simp at h1
        have HI2 := Lib.hid (HI.out.turn (Nat.le_refl _) hrq (World.grownBy.refl wr none) (fun k e => by cases e) (.slice none 0 0))
        have hnr : w.heap.size + 1 ≠ r := by omega
        clear hv0 hML hbnd hrs
        go_wp2_with (first | (go_at_call 23; refine (SortRows_none _).mono ?_; rintro r w4 ⟨rfl, rfl⟩) | (go_at_call 25; refine (CompactF_none _).mono ?_; rintro r w4 ⟨rfl, rfl⟩))
        exact norm_end (Nat.le_refl _) hrq HI2.out HR2.out HNF.out (Nat.zero_le _) (fun n hn => by simp at hn) (by rfl)
      · have k1 : wr.cell? ⟨r, 1, none⟩ = some (.slice (some ⟨g, 0, none⟩) vs.length gcap) := by rw [Lib.cell_of_heap HR.out.blk]; rfl
        have hgr : r < g := by omega
        have HSR := Lib.hid (SortRows_any M (r + 1) g gcap vs wr HR.out.own HVL.out HR.out.el (fun c hc => by have := hbnd c hc; omega) (by omega))
        go_upto_region 12 with (go_at_call 23; refine HSR.out.mono ?_; rintro rr w4 ⟨rfl, vs2, M2, hl2, hp2, hs2, ho2, hlm2, he2, hg2⟩)
        replace hs2 : M2.Pairwise fun x y => ¬ ordC y x < 0 := hs2.imp fun h => by omega
        have hb4 := (hg2.block r hrs (fun e => by cases e; omega)).trans HR.out.blk
        have HI4 := Lib.hid (HI.out.grown (Nat.le_refl _) hrq hg2 fun k e => by cases e; exact hgr)
        have hM2 : M2.length = M.length := hp2.length_eq
        rw [← hl2] at ho2
        have HCF := Lib.hid (CompactF_any M2 (r + 1) g gcap vs2 w4 ho2 hlm2 he2 (fun c hc => by have := hbnd c (hp2.mem_iff.1 hc); omega) (by omega))
        have HNF : Hid (NormF cl (Lib.compact M2)) := normF_compact HMEM.out hp2 hs2
        have hcl2 := Lib.compact_length_le M2
        have HB2 : Hid (∀ n ∈ Lib.compact M2, n.length ≤ 100000) := fun n hn => hbnd n (hp2.mem_iff.1 ((compact_sorted (R := fun a b => ordC a b < 0) ordC_tot hs2).2 n |>.1 hn))
        have HR4 : Hid (NRow r vars w4 (.slice (some ⟨g, 0, none⟩) vs2.length gcap) vs2 M2) := ⟨by rw [hl2]; exact hb4, ho2, hlm2, he2⟩
        have k4 : w4.cell? ⟨r, 1, none⟩ = some (.slice (some ⟨g, 0, none⟩) vs.length gcap) := by rw [← hl2, Lib.cell_of_heap HR4.out.blk]; rfl
        have hr4 := lt_heap HR4.out.blk
        rw [hl2] at HCF
        clear hp2 hs2 ho2 he2 hg2 hb4 k1 HSR
        go_wp2_with fail
        refine HCF.out.mono ?_
        rintro rr w5 ⟨us, rfl, ho5, hl5, he5, hg5⟩
        have hb5 := (hg5.block r hr4 (fun e => by cases e; omega)).trans HR4.out.blk
        have k5 : w5.cell? ⟨r, 1, none⟩ = some (.slice (some ⟨g, 0, none⟩) vs.length gcap) := by rw [← hl2, Lib.cell_of_heap hb5]; rfl
        have k6 : w5.cell? ⟨r, 0, none⟩ = some (.int .i64 vars) := by rw [Lib.cell_of_heap hb5]; rfl
        have f5 := Lib.frozen_of_heap hb5 1
        have HR6 : Hid (NRow r vars (w5.setCell ⟨r, 1, none⟩ (.slice (some ⟨g, 0, none⟩) us.length gcap)) (.slice (some ⟨g, 0, none⟩) us.length gcap) us (Lib.compact M2)) := HR4.out.turn (row_some hg5) ho5 hl5 he5
        have HI6 := Lib.hid (HI4.out.turn (Nat.le_refl _) hrq hg5 (fun k e => by cases e; exact hgr) (.slice (some ⟨g, 0, none⟩) us.length gcap))
        have hz5 : w5.heap[w.heap.size + 1]? = some (.cells #[.int .i64 0, .slice none 0 0] 24 (0, 0)) := (hg5.block _ (lt_heap HI4.out.z) (fun e => by cases e; omega)).trans HI4.out.z
        have z0 := (CnfAt.cells hz5).1
        have z1 := (CnfAt.cells hz5).2
        have y0 := Lib.frozen_of_heap hz5 0
        have y1 := Lib.frozen_of_heap hz5 1
        have hnr : w.heap.size + 1 ≠ r := by omega
        clear ho5 hl5 he5 hg5 hb5 hz5 HCF k4
        go_wp2_with fail
        exact norm_end (Nat.le_refl _) hrq HI6.out HR6.out HNF.out (by omega) HB2.out (by rfl)
end Go.Proofs.YtnkhaobokmmnjaaDoor
