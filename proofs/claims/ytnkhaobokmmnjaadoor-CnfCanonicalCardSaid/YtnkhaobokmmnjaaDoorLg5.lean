/-
  The walk of CnfCanonical.
-/
import Derived.Test.YtnkhaobokmmnjaaDoorLgC
import Derived.Test.YtnkhaobokmmnjaaDoorOpenN
namespace Go.Proofs.YtnkhaobokmmnjaaDoor
open Go.RowKit Go.Shelf
attribute [local go_sem] Oper.semAt_some

theorem byteKeeps : Keeps ByteAt := fun _ _ b o z hx h => ByteAt.keeps hx b o z h
theorem bytes_at {w : World} {a : Option Addr} {n c : Nat} {l : List Int} (h : BytesI w (.slice a n c) l) {k : Nat} (hk : k < l.length) : ∃ b o, a = some ⟨b, o, none⟩ ∧ w.cell? ⟨b, o + k, none⟩ = some (.int .u8 l[k]) ∧ 0 ≤ l[k] ∧ l[k] ≤ 255 := by
  rcases h with ⟨_, e⟩ | ⟨b, o, cap, e, _, hc⟩
  · rw [e] at hk; simp at hk
  cases e
  have := hc k hk
  rw [Nat.mul_one] at this
  exact ⟨b, o, rfl, this.1, this.2⟩
theorem OwnInts.two (w : World) (x y : Int) : OwnInts (w.alloc (.cells #[.int .i64 x, .int .i64 y] 3)) w.heap.size (.slice (some ⟨w.heap.size, 0, none⟩) 2 2) [x, y] :=
  ⟨rfl, .inr ⟨w.heap.size, 2, #[.int .i64 x, .int .i64 y], rfl, Nat.le_refl _, heap_new _ _, Nat.le_refl _, by unfold maxLen; omega, rfl, rfl⟩⟩
theorem turned_eq {p : Nat} {F : List (List Int)} {o : List Int} {k j : Nat} (hk : k < o.length) (hj : j < F.length) (e : o[k] = (j : Int)) : turned p F o k = dupC (shuf p F[j] F[j].length) k := by
  unfold turned
  rw [show o.getD k 0 = o[k] by simp [List.getD, hk], e]
  simp [List.getD, hj]

set_option maxRecDepth 100000 in
set_option maxHeartbeats 8000000 in
theorem CnfCanonical_any (vars : Int) (cl : List (List Int)) (p : Nat) (tw : List Int) (v : Nat) (vf vv : Value) (w : World) (hf : CnfV w vf vars cl) (hn : CnfN vars cl) (hp : p ≤ 255) (hv : BytesI w vv tw) (hv16 : v ≤ 65535) (hT : CTab w) :
    Calls Tryd.prog 4 #[vf, .int .u8 (p : Int), vv, .int .u16 (v : Int)] w fun r w' => r = .returned (.bool true) ∧ Ext w w' := by
  obtain ⟨fa, fc, rfl, hcl⟩ := hf.shape
  obtain ⟨va, vc, rfl⟩ := SliceAt.shape hv
  obtain ⟨W, hW⟩ : ∃ W, W = w.alloc (.cells #[.int .i64 vars, .slice fa cl.length fc] 24) := ⟨_, rfl⟩
  have hx : Ext w W := by rw [hW]; exact (Ext.refl w).alloc _
  have hA : W.heap[w.heap.size]? = some (.cells #[.int .i64 vars, .slice fa cl.length fc] 24 (0, 0)) := by rw [hW]; exact heap_new _ _
  have HF := Lib.hid hf; have HX := Lib.hid hx; have HW := Lib.hid hW; have HN := Lib.hid hn; have HV := Lib.hid hv; have HT := Lib.hid (hT.ext hx); have HA := Lib.hid (CnfAt.cells hA)
  have hvl := SliceAt.len_le hv
  clear hf hx hW hn hv hT hcl hA
  go_enter Tryd.func4, Tryd.ntmps4
  go_upto_region 1 with fail
  rw [← HW.out]
  clear HW
  generalize w.heap.size = b0 at *
  go_wp2_with fail
  refine (head_any W HT.out).mono ?_
  rintro r w2 ⟨rfl, x2⟩
  have HX2 := Lib.hid x2
  obtain ⟨p0, p1⟩ := HA.out
  replace p0 := x2.cell p0; replace p1 := x2.cell p1
  clear x2
  go_wp2_with fail
  refine (LSmall_any vars cl _ w2 (HF.out.ext (HX.out.trans HX2.out))).mono ?_
  rintro r w3 ⟨rfl, x3⟩
  have HX3 := Lib.hid (HX2.out.trans x3)
  replace p0 := x3.cell p0; replace p1 := x3.cell p1
  clear x3
  cases hsm : smallC cl with
  | false =>
    go_wp2_with fail
    go_ret
    exact ⟨rfl, HX.out.trans HX3.out⟩
  | true =>
  have HTM := Lib.hid (HN.out.tame hsm)
  have HSM := Lib.hid (small_len hsm)
  clear hsm
  go_wp2_with fail
  refine (RValid_any vars cl _ w3 (HF.out.ext (HX.out.trans HX3.out)) HTM.out).mono ?_
  rintro r w4 ⟨rfl, x4⟩
  have HX4 := Lib.hid (HX.out.trans (HX3.out.trans x4))
  replace p0 := x4.cell p0; replace p1 := x4.cell p1
  clear x4
  cases hvd : validC vars cl with
  | false =>
    go_wp2_with fail
    go_ret
    exact ⟨rfl, HX4.out⟩
  | true =>
  have HVD := Lib.hid hvd
  clear hvd
  by_cases h20 : 20 < tw.length
  · have h20' : (20 : Int) < (tw.length : Int) := by omega
    go_wp2_with fail
    go_ret
    exact ⟨rfl, HX4.out⟩
  have h20' : ¬ (20 : Int) < (tw.length : Int) := by omega
  have HL4 := Lib.hid (HF.out.ext HX4.out)
  have HV4 := Lib.hid (SliceAt.ext byteKeeps HV.out HX4.out)
  have P0 := Lib.hid p0; have P1 := Lib.hid p1
  have h60 : cl.length ≤ 60 := HSM.out.1
  have hvr := validC_vars HVD.out
  clear HF HV HA HT HX HX2 HX3 hvl
  go_wp2_with fail
  clear p0 p1
  go_loopw [10, 11] (fun ov iv wr => ∃ k : Nat, k ≤ cl.length ∧ iv = .int .i64 k ∧ Ext w4 wr ∧ OwnInts wr w4.heap.size ov (idsTo k)) (fun _ iv _ => cl.length - (intOf iv).toNat)
  case atStart => exact ⟨0, Nat.zero_le _, rfl, Ext.refl _, OwnInts.nil _ _⟩
  case round =>
    obtain ⟨k, hk, rfl, hX, hO⟩ := hrel
    have HXr := Lib.hid hX; have HO := Lib.hid hO
    have p1 := hX.cell P1.out
    have hlw : w4.heap.size ≤ wr.heap.size := hX.size
    clear hX hO
    by_cases hlt : k < cl.length
    · have hlt' : (k : Int) < (cl.length : Int) := by omega
      have HSC := Lib.hid (idsTo_succ k)
      have HLN := Lib.hid (idsTo_len k)
      go_wp2_with (at_builtin; refine wpList_append_int rfl (.tmp 40) (.tmp 42) rfl w4.heap.size wr _ _ (k : Int) rfl rfl HO.out (by have := HLN.out; omega) hlw ?_)
      intro v' w' hown' hg
      rw [← HSC.out] at hown'
      have hx' : Ext w4 w' := HXr.out.grown hg (fun q hq => HO.out.base q hq)
      have HO' := Lib.hid hown'; have HX' := Lib.hid hx'
      clear hown' hx' hg
      go_wp2_with fail
      exact ⟨⟨k + 1, by omega, by go_num, HX'.out, HO'.out⟩, by simp [intOf]; omega⟩
    · have hkl : k = cl.length := by omega
      subst hkl
      clear hlt hk
      go_wp2_with fail
      clear p1
      go_loopw [10, 12] (fun ov iv wr => ∃ k : Nat, k ≤ tw.length ∧ iv = .int .i64 k ∧ Ext w4 wr ∧ OwnInts wr w4.heap.size ov (idsTo cl.length ++ twTo cl.length tw k) ∧ (0 < cl.length ∨ k = 0)) (fun _ iv _ => tw.length - (intOf iv).toNat)
      case atStart => exact ⟨0, Nat.zero_le _, rfl, HXr.out, by rw [show twTo cl.length tw 0 = [] from rfl, List.append_nil]; exact HO.out, .inr rfl⟩
      case round =>
        obtain ⟨k, hk, rfl, hX, hO, hz0⟩ := hrel
        have HXr := Lib.hid hX; have HO := Lib.hid hO; have HZ0 := Lib.hid hz0
        have p1 := hX.cell P1.out
        have hlw : w4.heap.size ≤ wr.heap.size := hX.size
        have HLN : Hid ((idsTo cl.length ++ twTo cl.length tw k).length ≤ 80) := by
          unfold Hid; rw [List.length_append, idsTo_len]; have := twTo_len cl.length tw k; omega
        clear hX hO hz0
        by_cases hgo : k < tw.length ∧ 0 < cl.length
        · obtain ⟨hlt, hpos⟩ := hgo
          have hlt' : (k : Int) < (tw.length : Int) := by omega
          have hpos' : (0 : Int) < (cl.length : Int) := by omega
          have hnz : ¬ cl.length = 0 := by omega
          obtain ⟨b3, o3, h3, g3, z0, z1⟩ := bytes_at HV4.out hlt
          cases h3
          have HSC := Lib.hid (twTo_succ (n := cl.length) hlt)
          generalize tw[k] = z at *
          obtain ⟨y, hy⟩ : ∃ y : Int, y = z % (cl.length : Int) := ⟨_, rfl⟩
          rw [← hy] at HSC
          have ey : z % (cl.length : Int) = y := hy.symm
          have et : z.tmod (cl.length : Int) = y := by rw [Int.tmod_eq_emod_of_nonneg z0, hy]
          have ez : IntKind.i64.wrap z = z := by rw [IntKind.wrap_i64]; omega
          have k0 : (0 : Int) ≤ (k : Int) := by omega
          clear hy
          have G3 := Lib.hid g3
          replace g3 := HXr.out.cell g3
          have HCE : Hid (∀ w', Ext w4 w' → w'.cell? ⟨b0, 1, none⟩ = some (.slice fa cl.length fc) ∧ w'.cell? ⟨b3, o3 + k, none⟩ = some (.int .u8 z)) := fun w' he => ⟨he.cell P1.out, he.cell G3.out⟩
          have HPOS := Lib.hid hpos
          have HSA : Hid (idsTo cl.length ++ twTo cl.length tw (k + 1) = (idsTo cl.length ++ twTo cl.length tw k) ++ [y]) := by unfold Hid; rw [HSC.out, List.append_assoc]
          obtain ⟨oa, oc, hov⟩ := HO.out.ints.shape
          subst hov
          generalize hol : idsTo cl.length ++ twTo cl.length tw k = ol at *
          have HOL := Lib.hid hol
          clear hol HSC
          have hk1 := fun o => HCE.out _ (HXr.out.alloc o).drew
          have hk0 := HCE.out _ HXr.out.drew
          have HOd : Hid (OwnInts wr.drew w4.heap.size (.slice oa ol.length oc) ol) := HO.out.kept (Ext.refl wr).drew
          go_upto_region 12 with fail
          go_region_held3 (fun w' => w'.cell? ⟨b0, 1, none⟩ = some (.slice fa cl.length fc) ∧ w'.cell? ⟨b3, o3 + k, none⟩ = some (.int .u8 z))
            ((first
              | exact hk0
              | (with_reducible exact hk2)
              | (with_reducible exact hk1 _)
              | exact ⟨p1, g3⟩
              | fail))
            ((first
              | (refine step_append_int rfl (.tmp 56) (.tmp 66) rfl w4.heap.size wr.drew wr.drew.heap.size rfl _ ol y rfl rfl HOd.out (by have := HLN.out; omega) hlw ?_
                 intro g cap w' ho hg
                 have HO3 := Lib.hid ho
                 have HX3 := Lib.hid ((HXr.out.drew).grown hg fun q hq => HOd.out.base q hq)
                 have hk2 := HCE.out _ HX3.out
                 clear ho hg)
              | fail))
          clear hk0 hk1 hk2
          have HO4 := HO3.out
          rw [← HSA.out] at HO4
          have HO4 := Lib.hid HO4
          go_wp2_with fail
          exact ⟨⟨k + 1, by omega, by go_num, HX3.out, HO4.out, .inl HPOS.out⟩, by simp [intOf]; omega⟩
        · have HPL : Hid (Places cl.length (idsTo cl.length ++ twTo cl.length tw k)) := ids_mem HZ0.out
          by_cases hlt : k < tw.length
          · have hlt' : (k : Int) < (tw.length : Int) := by omega
            have hpos' : ¬ 0 < cl.length := fun h => hgo ⟨hlt, h⟩
            obtain ⟨oa, oc, hov⟩ := HO.out.ints.shape
            subst hov
            have HLN2 := Lib.hid HLN.out
            obtain ⟨ol, hol⟩ : ∃ ol, ol = idsTo cl.length ++ twTo cl.length tw k := ⟨_, rfl⟩
            rw [← hol] at HO HPL HLN2
            rw [← hol]
            clear hol HLN
            go_wp2_with fail
            refine (Shuffled_any ol p _ wr HO.out.ints (by have := HLN2.out; omega) hp).mono ?_
            rintro r1 we ⟨⟨vo, rfl, ho6⟩, x6⟩
            have hsl6 := shuf_len p ol ol.length
            have HPLo : Hid (Places cl.length (shuf p ol ol.length)) := ⟨fun x hx => HPL.out.1 x ((shuf_all p ol x).1 hx), fun j hj => (shuf_all p ol _).2 (HPL.out.2 j hj)⟩
            generalize shuf p ol ol.length = od at *
            have hod : od.length ≤ 80 := by have := HLN2.out; omega
            obtain ⟨da, dc, rfl⟩ := ho6.ints.shape
            have HOI := Lib.hid ho6.ints; have HXw := Lib.hid (HXr.out.trans x6)
            clear x6 ho6 hsl6 p1 HO HPL HLN2
            have p0 := HXw.out.cell P0.out
            go_upto_region 15 with fail
            have x7 : Ext we (we.alloc (.cells #[.int .i64 vars, .slice none 0 0] 24)) := (Ext.refl _).alloc _
            have hR0 : NRow we.heap.size vars (we.alloc (.cells #[.int .i64 vars, .slice none 0 0] 24)) (.slice none 0 0) [] [] := ⟨heap_new _ _, OwnL.nil _ _, rfl, fun i h1 => by simp at h1⟩
            have HX7 := Lib.hid x7; have HR0 := Lib.hid hR0
            clear x7 hR0 p0
            generalize we.alloc (.cells #[.int .i64 vars, .slice none 0 0] 24) = w7 at *
            generalize hr : we.heap.size = r at *
            have HRZ := Lib.hid hr
            clear hr
            go_wp2_with fail
            go_loopw [14] (fun iv wx => ∃ k : Nat, k ≤ od.length ∧ iv = .int .i64 k ∧ Ext we wx ∧ ∃ gv gs, NRow r vars wx gv gs (gTo p cl od k)) (fun iv _ => od.length - (intOf iv).toNat)
            case atStart => exact ⟨0, Nat.zero_le _, rfl, HX7.out, _, _, HR0.out⟩
            case round =>
              obtain ⟨k, hk, rfl, hX, gv, gs, hG⟩ := hrel
              have HXi := Lib.hid hX; have HG := Lib.hid hG
              have p1 := (HXw.out.trans hX).cell P1.out
              have p0 := (HXw.out.trans hX).cell P0.out
              have HRI := Lib.hid (lt_heap hG.blk)
              have hgs : gs.length ≤ 1000000 := by have h1 := hG.len; rw [gTo_len] at h1; omega
              obtain ⟨ga, gcp, rfl⟩ := hG.own.shape
              clear hX hG
              by_cases hlt : k < od.length
              · obtain ⟨j, hj, _⟩ := HPLo.out.at hlt
                exfalso; omega
              · have hkl : od.length = k := by omega
                subst hkl
                clear hlt hk
                by_cases hv0 : 0 < vars
                · obtain ⟨x0, hx0⟩ : ∃ x0 : Int, x0 = (v : Int) % vars := ⟨_, rfl⟩
                  have HEX : Hid (extra vars v = [[1 + x0, -(1 + x0)]]) := by unfold Hid extra; rw [if_pos hv0, hx0]
                  have a0 : 0 ≤ x0 := by rw [hx0]; exact Int.emod_nonneg _ (by omega)
                  have a1 : x0 < vars := by rw [hx0]; exact Int.emod_lt_of_pos _ hv0
                  have ex1 : (v : Int) % vars = x0 := hx0.symm
                  have ex2 : (v : Int).tmod vars = x0 := by rw [Int.tmod_eq_emod_of_nonneg (by omega), hx0]
                  have vz : ¬ vars = 0 := by omega
                  have hv1 := canon_valid (p := p) (v := v) HPLo.out HVD.out (by omega)
                  have hv2 := canon_tame (p := p) (v := v) HTM.out HPLo.out HVD.out (by omega) HSM.out.2
                  have hv3 := fun N M hN hM => canon_eq (vars := vars) (p := p) (v := v) (N := N) (M := M) HPLo.out hN hM
                  rw [HEX.out] at hv1 hv2 hv3
                  have HVM := Lib.hid hv1; have HTMM := Lib.hid hv2; have HCANON : Hid (∀ N M, NormF cl N → NormF (gTo p cl od od.length ++ [[1 + x0, -(1 + x0)]]) M → M = N) := hv3
                  clear hx0 hv1 hv2 hv3
                  have k0r : wr.cell? ⟨r, 1, none⟩ = some (.slice ga gs.length gcp) := by rw [Lib.cell_of_heap HG.out.blk]; rfl
                  have HUr : Hid (OwnInts (wr.alloc (.cells #[.int .i64 (1 + x0), .int .i64 (-(1 + x0))] 3)) (r + 1) _ [1 + x0, -(1 + x0)]) := (OwnInts.two wr (1 + x0) (-(1 + x0))).mono HRI.out
                  have HXA : Ext wr (wr.alloc (.cells #[.int .i64 (1 + x0), .int .i64 (-(1 + x0))] 3)) := (Ext.refl wr).alloc _
                  have q1 : (wr.alloc (.cells #[.int .i64 (1 + x0), .int .i64 (-(1 + x0))] 3)).cell? ⟨b0, 1, none⟩ = some (.slice fa cl.length fc) := HXA.cell p1
                  have HSL := Lib.hid HUr.out.isSl
                  have HGr := Lib.hid (HG.out.later HXA)
                  have hsz : r + 1 ≤ (wr.alloc (.cells #[.int .i64 (1 + x0), .int .i64 (-(1 + x0))] 3)).heap.size := lt_heap HGr.out.blk
                  have k1 : (wr.alloc (.cells #[.int .i64 (1 + x0), .int .i64 (-(1 + x0))] 3)).cell? ⟨r, 1, none⟩ = some (.slice ga gs.length gcp) := by rw [Lib.cell_of_heap HGr.out.blk]; rfl
                  go_wp2_with (at_builtin; refine wpList_append_row rfl (.tmp 120) (.tmp 125) rfl (r + 1) (wr.alloc (.cells #[.int .i64 (1 + x0), .int .i64 (-(1 + x0))] 3)) _ gs (Value.slice (some ⟨wr.heap.size, 0, none⟩) 2 2) rfl (by rw [World.size_alloc]; rfl) HGr.out.own HSL.out hgs hsz ?_)
                  intro v' w5 ho hg
                  obtain ⟨pa, pc, rfl⟩ := ho.shape
                  have hrow : ∀ k, (Value.slice ga gs.length gcp).ownBlock = some k → r < k := fun k e => by have := (HGr.out.own.typed k e).1; omega
                  have hb5 := (hg.block r hsz (fun e => by have := hrow r e.symm; omega)).trans HGr.out.blk
                  have k5 : w5.cell? ⟨r, 1, none⟩ = some (.slice ga gs.length gcp) := by rw [Lib.cell_of_heap hb5]; rfl
                  have f5 := Lib.frozen_of_heap hb5 1
                  have HR5 := Lib.hid (HGr.out.add HUr.out hg ho)
                  have HE5 : Hid (Ext we (w5.setCell ⟨r, 1, none⟩ (.slice pa (gs ++ [Value.slice (some ⟨wr.heap.size, 0, none⟩) 2 2]).length pc))) :=
                    ((HXi.out.trans HXA).grown hg fun k e => by have := hrow k e; have := HRZ.out; omega).setCell (p := ⟨r, 1, none⟩) (by have := HRZ.out; show we.heap.size ≤ r; omega) _
                  skip
                  clear ho hg hrow hb5 k1
                  generalize hvv : (gs ++ [Value.slice (some ⟨wr.heap.size, 0, none⟩) 2 2]).length = L5 at *
                  have p0w := (HXw.out.trans HE5.out).cell P0.out
                  have p1w := (HXw.out.trans HE5.out).cell P1.out
                  go_wp2_with fail
                  have HXT := Lib.hid (HXw.out.trans HE5.out)
                  clear HG
                  have HG := HR5
                  clear HR5 HE5
                  generalize w5.setCell ⟨r, 1, none⟩ (.slice pa L5 pc) = wt at *
                  refine (CNormal_any vars cl _ wt (HL4.out.ext HXT.out) HTM.out HVD.out).mono ?_
                  rintro r5 w5 ⟨x5, N, u, rfl, hN, hNl, hNn, hNb⟩
                  obtain ⟨na, nc, rfl⟩ := SliceAt.shape hNl
                  have HN5 := Lib.hid hN; have HX5 := Lib.hid x5; have HNL5 := Lib.hid hNl; have HNB := Lib.hid hNb
                  have HVN := Lib.hid (normF_valid hN HVD.out hNn); have HTN := Lib.hid (normF_tame hN HTM.out hNn hNb)
                  clear x5 hN hNl hNn hNb
                  go_upto_region 26 with fail
                  have x6 : Ext w5 (w5.alloc (.cells #[.int .i64 vars, .slice na N.length nc] 24)) := (Ext.refl _).alloc _
                  have HBN := Lib.hid (CnfAt.cells (heap_new w5 (.cells #[.int .i64 vars, .slice na N.length nc] 24)))
                  have HX6 := Lib.hid (HX5.out.trans x6); have HNL := Lib.hid (HNL5.out.ext x6)
                  clear x6
                  generalize w5.alloc (.cells #[.int .i64 vars, .slice na N.length nc] 24) = w6 at *
                  generalize w5.heap.size = bn at *
                  have HG6 := Lib.hid (HG.out.later HX6.out)
                  have HE0 : Hid (∀ w', Ext w6 w' → Calls Tryd.prog 12 #[.agg #[.int .i64 vars, .slice pa L5 pc]] w' fun e w3 => (∃ ua uc, e = .returned (.agg #[.int .i64 vars, .slice ua N.length uc]) ∧ Lists w3 (.slice ua N.length uc) N) ∧ Ext w' w3) := fun w' he => by
                    refine (CNormal_any vars (gTo p cl od od.length ++ [[1 + x0, -(1 + x0)]]) _ w' ⟨_, rfl, HG6.out.lists.ext he⟩ HTMM.out HVM.out).mono ?_
                    rintro e w3 ⟨x3, N', u', rfl, hN', hNl', _, _⟩
                    obtain rfl := HCANON.out N N' HN5.out hN'
                    obtain ⟨ua, uc, rfl⟩ := SliceAt.shape hNl'
                    exact ⟨⟨ua, uc, rfl, hNl'⟩, x3⟩
                  have HE1 : Hid (∀ w', Ext w6 w' → Calls Tryd.prog 12 #[.agg #[.int .i64 vars, .slice na N.length nc]] w' fun e w3 => (∃ ua uc, e = .returned (.agg #[.int .i64 vars, .slice ua N.length uc]) ∧ Lists w3 (.slice ua N.length uc) N) ∧ Ext w' w3) := fun w' he => by
                    refine (CNormal_any vars N _ w' ⟨_, rfl, HNL.out.ext he⟩ HTN.out HVN.out).mono ?_
                    rintro e w3 ⟨x3, N', u', rfl, hN', hNl', _, _⟩
                    obtain rfl := HN5.out.again hN'
                    obtain ⟨ua, uc, rfl⟩ := SliceAt.shape hNl'
                    exact ⟨⟨ua, uc, rfl, hNl'⟩, x3⟩
                  have HS0 : Hid (∀ w' ua uc, Ext w6 w' → Lists w' (.slice ua N.length uc) N → Calls Tryd.prog 18 #[.agg #[.int .i64 vars, .slice ua N.length uc], .agg #[.int .i64 vars, .slice na N.length nc]] w' fun e w3 => e = .returned (.bool true) ∧ Ext w' w3) := fun w' ua uc he hl => by
                    have := RSame_any vars vars N N _ _ w' ⟨_, rfl, hl⟩ ⟨_, rfl, HNL.out.ext he⟩ (fun c hc => by have := HNB.out c hc; omega)
                    rw [show (decide (vars = vars ∧ N = N)) = true from by simp] at this; exact this
                  have HCE : Hid (∀ w', Ext w6 w' → w'.cell? ⟨b0, 0, none⟩ = some (.int .i64 vars) ∧ w'.cell? ⟨b0, 1, none⟩ = some (.slice fa cl.length fc) ∧ w'.cell? ⟨r, 0, none⟩ = some (.int .i64 vars) ∧ w'.cell? ⟨r, 1, none⟩ = some (.slice pa L5 pc) ∧ w'.cell? ⟨bn, 0, none⟩ = some (.int .i64 vars) ∧ w'.cell? ⟨bn, 1, none⟩ = some (.slice na N.length nc)) := fun w' he =>
                    ⟨(HXT.out.trans (HX6.out.trans he)).cell P0.out, (HXT.out.trans (HX6.out.trans he)).cell P1.out, he.cell (CnfAt.cells HG6.out.blk).1, he.cell (CnfAt.cells HG6.out.blk).2, he.cell HBN.out.1, he.cell HBN.out.2⟩
                  have HXR := Lib.hid (HX4.out.trans (HXT.out.trans HX6.out))
                  clear HN5 HNL5 HNL HVN HTN HG HG6 HL4
                  go_region_held3 (fun w' => w'.cell? ⟨b0, 0, none⟩ = some (.int .i64 vars) ∧ w'.cell? ⟨b0, 1, none⟩ = some (.slice fa cl.length fc) ∧ w'.cell? ⟨r, 0, none⟩ = some (.int .i64 vars) ∧ w'.cell? ⟨r, 1, none⟩ = some (.slice pa L5 pc) ∧ w'.cell? ⟨bn, 0, none⟩ = some (.int .i64 vars) ∧ w'.cell? ⟨bn, 1, none⟩ = some (.slice na N.length nc))
                    ((first
                      | assumption
                      | (refine HCE.out _ ?_; repeat (first | exact Ext.refl _ | exact Y4.out | apply Ext.drew | apply Ext.alloc)
                         done)
                      | (refine HCE.out _ ?_; repeat (first | exact Ext.refl _ | exact Y3.out | apply Ext.drew | apply Ext.alloc)
                         done)
                      | (refine HCE.out _ ?_; repeat (first | exact Ext.refl _ | exact Y2.out | apply Ext.drew | apply Ext.alloc)
                         done)
                      | (refine HCE.out _ ?_; repeat (first | exact Ext.refl _ | exact Y1.out | apply Ext.drew | apply Ext.alloc)
                         done)
                      | (refine HCE.out _ ?_; repeat (first | exact Ext.refl _ | apply Ext.drew | apply Ext.alloc)
                         done)
                      | fail))
                    ((first
                      | (go_at_call 18
                         have hg0 := Y3.out
                         clear hg0
                         refine (HS0.out _ _ _ (by repeat (first | exact Y3.out | apply Ext.drew | apply Ext.alloc)) HU2.out).mono ?_
                         rintro r y4 ⟨rfl, x4⟩
                         have Y4 : Hid (Ext w6 y4) := Ext.trans (by repeat (first | exact Y3.out | apply Ext.drew | apply Ext.alloc)) x4
                         clear x4)
                      | (go_at_call 12
                         have hg0 := Y2.out
                         clear hg0
                         refine (HE1.out _ (by repeat (first | exact Y2.out | apply Ext.drew | apply Ext.alloc))).mono ?_
                         rintro r y3 ⟨⟨ua2, uc2, rfl, hu2⟩, x3⟩
                         have Y3 : Hid (Ext w6 y3) := Ext.trans (by repeat (first | exact Y2.out | apply Ext.drew | apply Ext.alloc)) x3
                         have HU2 := Lib.hid hu2
                         clear hu2
                         clear x3)
                      | (go_at_call 18
                         have hg0 := Y1.out
                         clear hg0
                         refine (HS0.out _ _ _ (by repeat (first | exact Y1.out | apply Ext.drew | apply Ext.alloc)) HU1.out).mono ?_
                         rintro r y2 ⟨rfl, x2⟩
                         have Y2 : Hid (Ext w6 y2) := Ext.trans (by repeat (first | exact Y1.out | apply Ext.drew | apply Ext.alloc)) x2
                         clear x2)
                      | (go_at_call 12
                         refine (HE0.out _ (by repeat (first | exact Ext.refl _ | apply Ext.drew | apply Ext.alloc))).mono ?_
                         rintro r y1 ⟨⟨ua1, uc1, rfl, hu1⟩, x1⟩
                         have Y1 : Hid (Ext w6 y1) := Ext.trans (by repeat (first | exact Ext.refl _ | apply Ext.drew | apply Ext.alloc)) x1
                         have HU1 := Lib.hid hu1
                         clear hu1
                         clear x1)
                      | fail))
                  have HXE := Lib.hid (HXR.out.trans Y4.out)
                  go_wp2_with fail
                  go_ret
                  exact ⟨rfl, HXE.out⟩
                · have HEX : Hid (extra vars v = []) := by unfold Hid extra; rw [if_neg hv0]
                  have hv1 := canon_valid (p := p) (v := v) HPLo.out HVD.out (by omega)
                  have hv2 := canon_tame (p := p) (v := v) HTM.out HPLo.out HVD.out (by omega) HSM.out.2
                  have hv3 := fun N M hN hM => canon_eq (vars := vars) (p := p) (v := v) (N := N) (M := M) HPLo.out hN hM
                  rw [HEX.out, List.append_nil] at hv1 hv2 hv3
                  have HVM := Lib.hid hv1; have HTMM := Lib.hid hv2; have HCANON : Hid (∀ N M, NormF cl N → NormF (gTo p cl od od.length) M → M = N) := hv3
                  clear hv1 hv2 hv3
                  have HXT := Lib.hid (HXw.out.trans HXi.out)
                  go_wp2_with fail
                  refine (CNormal_any vars cl _ wr (HL4.out.ext HXT.out) HTM.out HVD.out).mono ?_
                  rintro r5 w5 ⟨x5, N, u, rfl, hN, hNl, hNn, hNb⟩
                  obtain ⟨na, nc, rfl⟩ := SliceAt.shape hNl
                  have HN5 := Lib.hid hN; have HX5 := Lib.hid x5; have HNL5 := Lib.hid hNl; have HNB := Lib.hid hNb
                  have HVN := Lib.hid (normF_valid hN HVD.out hNn); have HTN := Lib.hid (normF_tame hN HTM.out hNn hNb)
                  clear x5 hN hNl hNn hNb
                  go_upto_region 26 with fail
                  have x6 : Ext w5 (w5.alloc (.cells #[.int .i64 vars, .slice na N.length nc] 24)) := (Ext.refl _).alloc _
                  have HBN := Lib.hid (CnfAt.cells (heap_new w5 (.cells #[.int .i64 vars, .slice na N.length nc] 24)))
                  have HX6 := Lib.hid (HX5.out.trans x6); have HNL := Lib.hid (HNL5.out.ext x6)
                  clear x6
                  generalize w5.alloc (.cells #[.int .i64 vars, .slice na N.length nc] 24) = w6 at *
                  generalize w5.heap.size = bn at *
                  have HG6 := Lib.hid (HG.out.later HX6.out)
                  have HE0 : Hid (∀ w', Ext w6 w' → Calls Tryd.prog 12 #[.agg #[.int .i64 vars, .slice ga gs.length gcp]] w' fun e w3 => (∃ ua uc, e = .returned (.agg #[.int .i64 vars, .slice ua N.length uc]) ∧ Lists w3 (.slice ua N.length uc) N) ∧ Ext w' w3) := fun w' he => by
                    refine (CNormal_any vars (gTo p cl od od.length) _ w' ⟨_, rfl, HG6.out.lists.ext he⟩ HTMM.out HVM.out).mono ?_
                    rintro e w3 ⟨x3, N', u', rfl, hN', hNl', _, _⟩
                    obtain rfl := HCANON.out N N' HN5.out hN'
                    obtain ⟨ua, uc, rfl⟩ := SliceAt.shape hNl'
                    exact ⟨⟨ua, uc, rfl, hNl'⟩, x3⟩
                  have HE1 : Hid (∀ w', Ext w6 w' → Calls Tryd.prog 12 #[.agg #[.int .i64 vars, .slice na N.length nc]] w' fun e w3 => (∃ ua uc, e = .returned (.agg #[.int .i64 vars, .slice ua N.length uc]) ∧ Lists w3 (.slice ua N.length uc) N) ∧ Ext w' w3) := fun w' he => by
                    refine (CNormal_any vars N _ w' ⟨_, rfl, HNL.out.ext he⟩ HTN.out HVN.out).mono ?_
                    rintro e w3 ⟨x3, N', u', rfl, hN', hNl', _, _⟩
                    obtain rfl := HN5.out.again hN'
                    obtain ⟨ua, uc, rfl⟩ := SliceAt.shape hNl'
                    exact ⟨⟨ua, uc, rfl, hNl'⟩, x3⟩
                  have HS0 : Hid (∀ w' ua uc, Ext w6 w' → Lists w' (.slice ua N.length uc) N → Calls Tryd.prog 18 #[.agg #[.int .i64 vars, .slice ua N.length uc], .agg #[.int .i64 vars, .slice na N.length nc]] w' fun e w3 => e = .returned (.bool true) ∧ Ext w' w3) := fun w' ua uc he hl => by
                    have := RSame_any vars vars N N _ _ w' ⟨_, rfl, hl⟩ ⟨_, rfl, HNL.out.ext he⟩ (fun c hc => by have := HNB.out c hc; omega)
                    rw [show (decide (vars = vars ∧ N = N)) = true from by simp] at this; exact this
                  have HCE : Hid (∀ w', Ext w6 w' → w'.cell? ⟨b0, 0, none⟩ = some (.int .i64 vars) ∧ w'.cell? ⟨b0, 1, none⟩ = some (.slice fa cl.length fc) ∧ w'.cell? ⟨r, 0, none⟩ = some (.int .i64 vars) ∧ w'.cell? ⟨r, 1, none⟩ = some (.slice ga gs.length gcp) ∧ w'.cell? ⟨bn, 0, none⟩ = some (.int .i64 vars) ∧ w'.cell? ⟨bn, 1, none⟩ = some (.slice na N.length nc)) := fun w' he =>
                    ⟨(HXT.out.trans (HX6.out.trans he)).cell P0.out, (HXT.out.trans (HX6.out.trans he)).cell P1.out, he.cell (CnfAt.cells HG6.out.blk).1, he.cell (CnfAt.cells HG6.out.blk).2, he.cell HBN.out.1, he.cell HBN.out.2⟩
                  have HXR := Lib.hid (HX4.out.trans (HXT.out.trans HX6.out))
                  clear HN5 HNL5 HNL HVN HTN HG HG6 HL4
                  go_region_held3 (fun w' => w'.cell? ⟨b0, 0, none⟩ = some (.int .i64 vars) ∧ w'.cell? ⟨b0, 1, none⟩ = some (.slice fa cl.length fc) ∧ w'.cell? ⟨r, 0, none⟩ = some (.int .i64 vars) ∧ w'.cell? ⟨r, 1, none⟩ = some (.slice ga gs.length gcp) ∧ w'.cell? ⟨bn, 0, none⟩ = some (.int .i64 vars) ∧ w'.cell? ⟨bn, 1, none⟩ = some (.slice na N.length nc))
                    ((first
                      | assumption
                      | (refine HCE.out _ ?_; repeat (first | exact Ext.refl _ | exact Y4.out | apply Ext.drew | apply Ext.alloc)
                         done)
                      | (refine HCE.out _ ?_; repeat (first | exact Ext.refl _ | exact Y3.out | apply Ext.drew | apply Ext.alloc)
                         done)
                      | (refine HCE.out _ ?_; repeat (first | exact Ext.refl _ | exact Y2.out | apply Ext.drew | apply Ext.alloc)
                         done)
                      | (refine HCE.out _ ?_; repeat (first | exact Ext.refl _ | exact Y1.out | apply Ext.drew | apply Ext.alloc)
                         done)
                      | (refine HCE.out _ ?_; repeat (first | exact Ext.refl _ | apply Ext.drew | apply Ext.alloc)
                         done)
                      | fail))
                    ((first
                      | (go_at_call 18
                         have hg0 := Y3.out
                         clear hg0
                         refine (HS0.out _ _ _ (by repeat (first | exact Y3.out | apply Ext.drew | apply Ext.alloc)) HU2.out).mono ?_
                         rintro r y4 ⟨rfl, x4⟩
                         have Y4 : Hid (Ext w6 y4) := Ext.trans (by repeat (first | exact Y3.out | apply Ext.drew | apply Ext.alloc)) x4
                         clear x4)
                      | (go_at_call 12
                         have hg0 := Y2.out
                         clear hg0
                         refine (HE1.out _ (by repeat (first | exact Y2.out | apply Ext.drew | apply Ext.alloc))).mono ?_
                         rintro r y3 ⟨⟨ua2, uc2, rfl, hu2⟩, x3⟩
                         have Y3 : Hid (Ext w6 y3) := Ext.trans (by repeat (first | exact Y2.out | apply Ext.drew | apply Ext.alloc)) x3
                         have HU2 := Lib.hid hu2
                         clear hu2
                         clear x3)
                      | (go_at_call 18
                         have hg0 := Y1.out
                         clear hg0
                         refine (HS0.out _ _ _ (by repeat (first | exact Y1.out | apply Ext.drew | apply Ext.alloc)) HU1.out).mono ?_
                         rintro r y2 ⟨rfl, x2⟩
                         have Y2 : Hid (Ext w6 y2) := Ext.trans (by repeat (first | exact Y1.out | apply Ext.drew | apply Ext.alloc)) x2
                         clear x2)
                      | (go_at_call 12
                         refine (HE0.out _ (by repeat (first | exact Ext.refl _ | apply Ext.drew | apply Ext.alloc))).mono ?_
                         rintro r y1 ⟨⟨ua1, uc1, rfl, hu1⟩, x1⟩
                         have Y1 : Hid (Ext w6 y1) := Ext.trans (by repeat (first | exact Ext.refl _ | apply Ext.drew | apply Ext.alloc)) x1
                         have HU1 := Lib.hid hu1
                         clear hu1
                         clear x1)
                      | fail))
                  have HXE := Lib.hid (HXR.out.trans Y4.out)
                  go_wp2_with fail
                  go_ret
                  exact ⟨rfl, HXE.out⟩
          · have hlt' : ¬ (k : Int) < (tw.length : Int) := by omega
            obtain ⟨oa, oc, hov⟩ := HO.out.ints.shape
            subst hov
            have HLN2 := Lib.hid HLN.out
            obtain ⟨ol, hol⟩ : ∃ ol, ol = idsTo cl.length ++ twTo cl.length tw k := ⟨_, rfl⟩
            rw [← hol] at HO HPL HLN2
            rw [← hol]
            clear hol HLN
            go_wp2_with fail
            refine (Shuffled_any ol p _ wr HO.out.ints (by have := HLN2.out; omega) hp).mono ?_
            rintro r1 we ⟨⟨vo, rfl, ho6⟩, x6⟩
            have hsl6 := shuf_len p ol ol.length
            have HPLo : Hid (Places cl.length (shuf p ol ol.length)) := ⟨fun x hx => HPL.out.1 x ((shuf_all p ol x).1 hx), fun j hj => (shuf_all p ol _).2 (HPL.out.2 j hj)⟩
            generalize shuf p ol ol.length = od at *
            have hod : od.length ≤ 80 := by have := HLN2.out; omega
            obtain ⟨da, dc, rfl⟩ := ho6.ints.shape
            have HOI := Lib.hid ho6.ints; have HXw := Lib.hid (HXr.out.trans x6)
            clear x6 ho6 hsl6 p1 HO HPL HLN2
            have p0 := HXw.out.cell P0.out
            go_upto_region 15 with fail
            have x7 : Ext we (we.alloc (.cells #[.int .i64 vars, .slice none 0 0] 24)) := (Ext.refl _).alloc _
            have hR0 : NRow we.heap.size vars (we.alloc (.cells #[.int .i64 vars, .slice none 0 0] 24)) (.slice none 0 0) [] [] := ⟨heap_new _ _, OwnL.nil _ _, rfl, fun i h1 => by simp at h1⟩
            have HX7 := Lib.hid x7; have HR0 := Lib.hid hR0
            clear x7 hR0 p0
            generalize we.alloc (.cells #[.int .i64 vars, .slice none 0 0] 24) = w7 at *
            generalize hr : we.heap.size = r at *
            have HRZ := Lib.hid hr
            clear hr
            go_wp2_with fail
            go_loopw [14] (fun iv wx => ∃ k : Nat, k ≤ od.length ∧ iv = .int .i64 k ∧ Ext we wx ∧ ∃ gv gs, NRow r vars wx gv gs (gTo p cl od k)) (fun iv _ => od.length - (intOf iv).toNat)
            case atStart => exact ⟨0, Nat.zero_le _, rfl, HX7.out, _, _, HR0.out⟩
            case round =>
              obtain ⟨k, hk, rfl, hX, gv, gs, hG⟩ := hrel
              have HXi := Lib.hid hX; have HG := Lib.hid hG
              have p1 := (HXw.out.trans hX).cell P1.out
              have p0 := (HXw.out.trans hX).cell P0.out
              have HRI := Lib.hid (lt_heap hG.blk)
              have hgs : gs.length ≤ 1000000 := by have h1 := hG.len; rw [gTo_len] at h1; omega
              obtain ⟨ga, gcp, rfl⟩ := hG.own.shape
              clear hX hG
              by_cases hlt : k < od.length
              · have hlt' : (k : Int) < (od.length : Int) := by omega
                have k0 : (0 : Int) ≤ (k : Int) := by omega
                obtain ⟨j, hj, ej⟩ := HPLo.out.at hlt
                have j0 : (0 : Int) ≤ (j : Int) := by omega
                have j1 : (j : Int) < (cl.length : Int) := by omega
                obtain ⟨c, hc0⟩ : ∃ c, c = cl[j] := ⟨_, rfl⟩
                have HSUCC : Hid (gTo p cl od (k + 1) = gTo p cl od k ++ [dupC (shuf p c c.length) k]) := by
                  unfold Hid; rw [gTo_succ, turned_eq hlt hj ej, ← hc0]
                obtain ⟨b, q, c1, c2, gc, HC, hfa⟩ : ∃ b q c1 c2, w4.cell? ⟨b, q + j, none⟩ = some (.slice c1 c.length c2) ∧ Hid (Ints w4 (.slice c1 c.length c2) c) ∧ fa = some ⟨b, q, none⟩ := by
                  rcases HL4.out with ⟨_, e, hcl⟩
                  cases e
                  obtain ⟨b, o, c1, c2, e, gc, hc⟩ := lists_at hcl hj
                  rw [← hc0] at gc hc
                  exact ⟨b, o, c1, c2, gc, hc, e⟩
                subst hfa
                have hlc : c.length ≤ 20 := by rw [hc0]; exact HSM.out.2 _ (List.getElem_mem hj)
                obtain ⟨ob, oo, h3, g3⟩ := ints_at (HOI.out.ext HXi.out) k hlt
                subst h3
                rw [show od.getD k 0 = od[k] by simp [List.getD, hlt], ej] at g3
                replace gc := (HXw.out.trans HXi.out).cell gc
                have HCE : Hid (∀ w', Ext wr w' → w'.cell? ⟨b0, 1, none⟩ = some (.slice (some ⟨b, q, none⟩) cl.length fc) ∧ w'.cell? ⟨ob, oo + k, none⟩ = some (.int .i64 (j : Int)) ∧ w'.cell? ⟨b, q + j, none⟩ = some (.slice c1 c.length c2)) := fun w' he => ⟨he.cell p1, he.cell g3, he.cell gc⟩
                have HSHU : Hid (∀ w', Ext wr w' → Calls Tryd.prog 17 #[.slice c1 c.length c2, .int .u8 (p : Int)] w' fun e w3 => (∃ u, e = .returned u ∧ OwnInts w3 w'.heap.size u (shuf p c c.length)) ∧ Ext w' w3) := fun w' he => Shuffled_any c p _ w' (HC.out.ext (HXw.out.trans (HXi.out.trans he))) (by omega) hp
                have hsl := shuf_len p c c.length
                clear hc0 ej
                generalize shuf p c c.length = sh at *
                have HSLN := Lib.hid hsl
                clear hsl
                have hk0 := HCE.out _ (Ext.refl wr).drew
                clear p1 g3 gc p0
                have hk9 := HCE.out _ (Ext.refl wr)
                go_upto_region 18 with fail
                go_region_held3 (fun w' => w'.cell? ⟨b0, 1, none⟩ = some (.slice (some ⟨b, q, none⟩) cl.length fc) ∧ w'.cell? ⟨ob, oo + k, none⟩ = some (.int .i64 (j : Int)) ∧ w'.cell? ⟨b, q + j, none⟩ = some (.slice c1 c.length c2))
                  ((first
                    | assumption
                    | (refine HCE.out _ ?_; repeat (first | exact Ext.refl _ | exact Y1.out | apply Ext.drew | apply Ext.alloc)
                       done)
                    | (refine HCE.out _ ?_; repeat (first | exact Ext.refl _ | apply Ext.drew | apply Ext.alloc)
                       done)
                    | fail))
                  ((first
                    | (go_at_call 17
                       refine (HSHU.out _ (by repeat (first | exact Ext.refl _ | apply Ext.drew | apply Ext.alloc))).mono ?_
                       rintro r y1 ⟨⟨u, rfl, hu⟩, x1⟩
                       have Y1 : Hid (Ext wr y1) := Ext.trans (by repeat (first | exact Ext.refl _ | apply Ext.drew | apply Ext.alloc)) x1
                       have HU0 := Lib.hid hu
                       clear hu
                       clear x1)
                    | fail))
                obtain ⟨ua, uc, rfl⟩ := HU0.out.ints.shape
                have HU1 : Hid (OwnInts y1 wr.heap.size (.slice ua sh.length uc) sh) := HU0.out
                clear HU0 hk0 hk9 HSHU
                have hshl : sh.length ≤ 20 := by rw [HSLN.out]; exact hlc
                by_cases h0 : sh.length = 0
                · have HD : Hid (dupC sh k = sh) := by unfold Hid dupC; rw [if_neg (by omega)]
                  rw [HD.out] at HSUCC
                  generalize hm : sh.length = m at *
                  subst h0
                  clear hm hlc hshl
                  have HUr : Hid (OwnInts y1 (r + 1) _ sh) := HU1.out.mono HRI.out
                  have HSL := Lib.hid HUr.out.isSl
                  have HGr := Lib.hid (HG.out.later Y1.out)
                  have hsz : r + 1 ≤ y1.heap.size := lt_heap HGr.out.blk
                  have k1 : y1.cell? ⟨r, 1, none⟩ = some (.slice ga gs.length gcp) := by rw [Lib.cell_of_heap HGr.out.blk]; rfl
                  go_wp2_with (at_builtin; refine wpList_append_row rfl (.tmp 105) (.tmp 107) rfl (r + 1) y1 _ gs (Value.slice ua 0 uc) rfl rfl HGr.out.own HSL.out hgs hsz ?_)
                  intro v' w5 ho hg
                  obtain ⟨pa, pc, rfl⟩ := ho.shape
                  have hrow : ∀ k, (Value.slice ga gs.length gcp).ownBlock = some k → r < k := fun k e => by have := (HGr.out.own.typed k e).1; omega
                  have hb5 := (hg.block r hsz (fun e => by have := hrow r e.symm; omega)).trans HGr.out.blk
                  have k5 : w5.cell? ⟨r, 1, none⟩ = some (.slice ga gs.length gcp) := by rw [Lib.cell_of_heap hb5]; rfl
                  have f5 := Lib.frozen_of_heap hb5 1
                  have HR5 := Lib.hid (HGr.out.add HUr.out hg ho)
                  have HE5 : Hid (Ext we (w5.setCell ⟨r, 1, none⟩ (.slice pa (gs ++ [Value.slice ua 0 uc]).length pc))) :=
                    ((HXi.out.trans Y1.out).grown hg fun k e => by have := hrow k e; have := HRZ.out; omega).setCell (p := ⟨r, 1, none⟩) (by have := HRZ.out; show we.heap.size ≤ r; omega) _
                  rw [← HSUCC.out] at HR5
                  clear ho hg hrow hb5 k1
                  generalize hvv : (gs ++ [Value.slice ua 0 uc]).length = L5 at *
                  skip
                  go_wp2_with fail
                  exact ⟨⟨k + 1, by omega, by go_num, HE5.out, _, _, HR5.out⟩, by simp [intOf]; omega⟩
                · have h0' : 0 < sh.length := by omega
                  have h0i : (0 : Int) < (sh.length : Int) := by omega
                  by_cases hodd : k % 2 = 1
                  · have HD : Hid (dupC sh k = sh ++ [sh.getD 0 0]) := by unfold Hid dupC; rw [if_pos ⟨h0', hodd⟩]
                    rw [HD.out] at HSUCC
                    have e1 : (k : Int) % 2 = 1 := by omega
                    have e2 : (k : Int).tmod 2 = 1 := by rw [Int.tmod_eq_emod_of_nonneg (by omega)]; omega
                    obtain ⟨b5, o5, h5, g5⟩ := ints_at HU1.out.ints 0 h0'
                    subst h5
                    simp only [Nat.add_zero] at g5
                    have hsy : wr.heap.size ≤ y1.heap.size := Y1.out.size
                    generalize sh.getD 0 0 = s0 at *
                    clear hlc hodd
                    go_wp2_with (at_builtin; refine wpList_append_int rfl (.tmp 98) (.tmp 102) rfl wr.heap.size y1 _ sh s0 rfl rfl HU1.out (by omega) hsy ?_)
                    intro v2 w2 ho2 hg2
                    have HX2 : Hid (Ext wr w2) := Y1.out.grown hg2 fun q e => HU1.out.base q e
                    have HUr : Hid (OwnInts w2 (r + 1) v2 (sh ++ [s0])) := ho2.mono HRI.out
                    clear ho2 hg2 g5
                    obtain ⟨u1, u2, u3, rfl⟩ := HUr.out.isSl
                    have HSL := Lib.hid HUr.out.isSl
                    have HGr := Lib.hid (HG.out.later HX2.out)
                    have hsz : r + 1 ≤ w2.heap.size := lt_heap HGr.out.blk
                    have k1 : w2.cell? ⟨r, 1, none⟩ = some (.slice ga gs.length gcp) := by rw [Lib.cell_of_heap HGr.out.blk]; rfl
                    go_wp2_with (at_builtin; refine wpList_append_row rfl (.tmp 105) (.tmp 107) rfl (r + 1) w2 _ gs (Value.slice u1 u2 u3) rfl rfl HGr.out.own HSL.out hgs hsz ?_)
                    intro v' w5 ho hg
                    obtain ⟨pa, pc, rfl⟩ := ho.shape
                    have hrow : ∀ k, (Value.slice ga gs.length gcp).ownBlock = some k → r < k := fun k e => by have := (HGr.out.own.typed k e).1; omega
                    have hb5 := (hg.block r hsz (fun e => by have := hrow r e.symm; omega)).trans HGr.out.blk
                    have k5 : w5.cell? ⟨r, 1, none⟩ = some (.slice ga gs.length gcp) := by rw [Lib.cell_of_heap hb5]; rfl
                    have f5 := Lib.frozen_of_heap hb5 1
                    have HR5 := Lib.hid (HGr.out.add HUr.out hg ho)
                    have HE5 : Hid (Ext we (w5.setCell ⟨r, 1, none⟩ (.slice pa (gs ++ [Value.slice u1 u2 u3]).length pc))) :=
                      ((HXi.out.trans HX2.out).grown hg fun k e => by have := hrow k e; have := HRZ.out; omega).setCell (p := ⟨r, 1, none⟩) (by have := HRZ.out; show we.heap.size ≤ r; omega) _
                    rw [← HSUCC.out] at HR5
                    clear ho hg hrow hb5 k1
                    generalize hvv : (gs ++ [Value.slice u1 u2 u3]).length = L5 at *
                    skip
                    go_wp2_with fail
                    exact ⟨⟨k + 1, by omega, by go_num, HE5.out, _, _, HR5.out⟩, by simp [intOf]; omega⟩
                  · have HD : Hid (dupC sh k = sh) := by unfold Hid dupC; rw [if_neg (fun h => hodd h.2)]
                    rw [HD.out] at HSUCC
                    have e1 : ¬ (k : Int) % 2 = 1 := by omega
                    have e2 : ¬ (k : Int).tmod 2 = 1 := by rw [Int.tmod_eq_emod_of_nonneg (by omega)]; omega
                    have HUr : Hid (OwnInts y1 (r + 1) _ sh) := HU1.out.mono HRI.out
                    clear hlc hodd
                    have HSL := Lib.hid HUr.out.isSl
                    have HGr := Lib.hid (HG.out.later Y1.out)
                    have hsz : r + 1 ≤ y1.heap.size := lt_heap HGr.out.blk
                    have k1 : y1.cell? ⟨r, 1, none⟩ = some (.slice ga gs.length gcp) := by rw [Lib.cell_of_heap HGr.out.blk]; rfl
                    go_wp2_with (at_builtin; refine wpList_append_row rfl (.tmp 105) (.tmp 107) rfl (r + 1) y1 _ gs (Value.slice ua sh.length uc) rfl rfl HGr.out.own HSL.out hgs hsz ?_)
                    intro v' w5 ho hg
                    obtain ⟨pa, pc, rfl⟩ := ho.shape
                    have hrow : ∀ k, (Value.slice ga gs.length gcp).ownBlock = some k → r < k := fun k e => by have := (HGr.out.own.typed k e).1; omega
                    have hb5 := (hg.block r hsz (fun e => by have := hrow r e.symm; omega)).trans HGr.out.blk
                    have k5 : w5.cell? ⟨r, 1, none⟩ = some (.slice ga gs.length gcp) := by rw [Lib.cell_of_heap hb5]; rfl
                    have f5 := Lib.frozen_of_heap hb5 1
                    have HR5 := Lib.hid (HGr.out.add HUr.out hg ho)
                    have HE5 : Hid (Ext we (w5.setCell ⟨r, 1, none⟩ (.slice pa (gs ++ [Value.slice ua sh.length uc]).length pc))) :=
                      ((HXi.out.trans Y1.out).grown hg fun k e => by have := hrow k e; have := HRZ.out; omega).setCell (p := ⟨r, 1, none⟩) (by have := HRZ.out; show we.heap.size ≤ r; omega) _
                    rw [← HSUCC.out] at HR5
                    clear ho hg hrow hb5 k1
                    generalize hvv : (gs ++ [Value.slice ua sh.length uc]).length = L5 at *
                    skip
                    go_wp2_with fail
                    exact ⟨⟨k + 1, by omega, by go_num, HE5.out, _, _, HR5.out⟩, by simp [intOf]; omega⟩
              · have hkl : od.length = k := by omega
                subst hkl
                clear hlt hk
                by_cases hv0 : 0 < vars
                · obtain ⟨x0, hx0⟩ : ∃ x0 : Int, x0 = (v : Int) % vars := ⟨_, rfl⟩
                  have HEX : Hid (extra vars v = [[1 + x0, -(1 + x0)]]) := by unfold Hid extra; rw [if_pos hv0, hx0]
                  have a0 : 0 ≤ x0 := by rw [hx0]; exact Int.emod_nonneg _ (by omega)
                  have a1 : x0 < vars := by rw [hx0]; exact Int.emod_lt_of_pos _ hv0
                  have ex1 : (v : Int) % vars = x0 := hx0.symm
                  have ex2 : (v : Int).tmod vars = x0 := by rw [Int.tmod_eq_emod_of_nonneg (by omega), hx0]
                  have vz : ¬ vars = 0 := by omega
                  have hv1 := canon_valid (p := p) (v := v) HPLo.out HVD.out (by omega)
                  have hv2 := canon_tame (p := p) (v := v) HTM.out HPLo.out HVD.out (by omega) HSM.out.2
                  have hv3 := fun N M hN hM => canon_eq (vars := vars) (p := p) (v := v) (N := N) (M := M) HPLo.out hN hM
                  rw [HEX.out] at hv1 hv2 hv3
                  have HVM := Lib.hid hv1; have HTMM := Lib.hid hv2; have HCANON : Hid (∀ N M, NormF cl N → NormF (gTo p cl od od.length ++ [[1 + x0, -(1 + x0)]]) M → M = N) := hv3
                  clear hx0 hv1 hv2 hv3
                  have k0r : wr.cell? ⟨r, 1, none⟩ = some (.slice ga gs.length gcp) := by rw [Lib.cell_of_heap HG.out.blk]; rfl
                  have HUr : Hid (OwnInts (wr.alloc (.cells #[.int .i64 (1 + x0), .int .i64 (-(1 + x0))] 3)) (r + 1) _ [1 + x0, -(1 + x0)]) := (OwnInts.two wr (1 + x0) (-(1 + x0))).mono HRI.out
                  have HXA : Ext wr (wr.alloc (.cells #[.int .i64 (1 + x0), .int .i64 (-(1 + x0))] 3)) := (Ext.refl wr).alloc _
                  have q1 : (wr.alloc (.cells #[.int .i64 (1 + x0), .int .i64 (-(1 + x0))] 3)).cell? ⟨b0, 1, none⟩ = some (.slice fa cl.length fc) := HXA.cell p1
                  have HSL := Lib.hid HUr.out.isSl
                  have HGr := Lib.hid (HG.out.later HXA)
                  have hsz : r + 1 ≤ (wr.alloc (.cells #[.int .i64 (1 + x0), .int .i64 (-(1 + x0))] 3)).heap.size := lt_heap HGr.out.blk
                  have k1 : (wr.alloc (.cells #[.int .i64 (1 + x0), .int .i64 (-(1 + x0))] 3)).cell? ⟨r, 1, none⟩ = some (.slice ga gs.length gcp) := by rw [Lib.cell_of_heap HGr.out.blk]; rfl
                  go_wp2_with (at_builtin; refine wpList_append_row rfl (.tmp 120) (.tmp 125) rfl (r + 1) (wr.alloc (.cells #[.int .i64 (1 + x0), .int .i64 (-(1 + x0))] 3)) _ gs (Value.slice (some ⟨wr.heap.size, 0, none⟩) 2 2) rfl (by rw [World.size_alloc]; rfl) HGr.out.own HSL.out hgs hsz ?_)
                  intro v' w5 ho hg
                  obtain ⟨pa, pc, rfl⟩ := ho.shape
                  have hrow : ∀ k, (Value.slice ga gs.length gcp).ownBlock = some k → r < k := fun k e => by have := (HGr.out.own.typed k e).1; omega
                  have hb5 := (hg.block r hsz (fun e => by have := hrow r e.symm; omega)).trans HGr.out.blk
                  have k5 : w5.cell? ⟨r, 1, none⟩ = some (.slice ga gs.length gcp) := by rw [Lib.cell_of_heap hb5]; rfl
                  have f5 := Lib.frozen_of_heap hb5 1
                  have HR5 := Lib.hid (HGr.out.add HUr.out hg ho)
                  have HE5 : Hid (Ext we (w5.setCell ⟨r, 1, none⟩ (.slice pa (gs ++ [Value.slice (some ⟨wr.heap.size, 0, none⟩) 2 2]).length pc))) :=
                    ((HXi.out.trans HXA).grown hg fun k e => by have := hrow k e; have := HRZ.out; omega).setCell (p := ⟨r, 1, none⟩) (by have := HRZ.out; show we.heap.size ≤ r; omega) _
                  skip
                  clear ho hg hrow hb5 k1
                  generalize hvv : (gs ++ [Value.slice (some ⟨wr.heap.size, 0, none⟩) 2 2]).length = L5 at *
                  have p0w := (HXw.out.trans HE5.out).cell P0.out
                  have p1w := (HXw.out.trans HE5.out).cell P1.out
                  go_wp2_with fail
                  have HXT := Lib.hid (HXw.out.trans HE5.out)
                  clear HG
                  have HG := HR5
                  clear HR5 HE5
                  generalize w5.setCell ⟨r, 1, none⟩ (.slice pa L5 pc) = wt at *
                  refine (CNormal_any vars cl _ wt (HL4.out.ext HXT.out) HTM.out HVD.out).mono ?_
                  rintro r5 w5 ⟨x5, N, u, rfl, hN, hNl, hNn, hNb⟩
                  obtain ⟨na, nc, rfl⟩ := SliceAt.shape hNl
                  have HN5 := Lib.hid hN; have HX5 := Lib.hid x5; have HNL5 := Lib.hid hNl; have HNB := Lib.hid hNb
                  have HVN := Lib.hid (normF_valid hN HVD.out hNn); have HTN := Lib.hid (normF_tame hN HTM.out hNn hNb)
                  clear x5 hN hNl hNn hNb
                  go_upto_region 26 with fail
                  have x6 : Ext w5 (w5.alloc (.cells #[.int .i64 vars, .slice na N.length nc] 24)) := (Ext.refl _).alloc _
                  have HBN := Lib.hid (CnfAt.cells (heap_new w5 (.cells #[.int .i64 vars, .slice na N.length nc] 24)))
                  have HX6 := Lib.hid (HX5.out.trans x6); have HNL := Lib.hid (HNL5.out.ext x6)
                  clear x6
                  generalize w5.alloc (.cells #[.int .i64 vars, .slice na N.length nc] 24) = w6 at *
                  generalize w5.heap.size = bn at *
                  have HG6 := Lib.hid (HG.out.later HX6.out)
                  have HE0 : Hid (∀ w', Ext w6 w' → Calls Tryd.prog 12 #[.agg #[.int .i64 vars, .slice pa L5 pc]] w' fun e w3 => (∃ ua uc, e = .returned (.agg #[.int .i64 vars, .slice ua N.length uc]) ∧ Lists w3 (.slice ua N.length uc) N) ∧ Ext w' w3) := fun w' he => by
                    refine (CNormal_any vars (gTo p cl od od.length ++ [[1 + x0, -(1 + x0)]]) _ w' ⟨_, rfl, HG6.out.lists.ext he⟩ HTMM.out HVM.out).mono ?_
                    rintro e w3 ⟨x3, N', u', rfl, hN', hNl', _, _⟩
                    obtain rfl := HCANON.out N N' HN5.out hN'
                    obtain ⟨ua, uc, rfl⟩ := SliceAt.shape hNl'
                    exact ⟨⟨ua, uc, rfl, hNl'⟩, x3⟩
                  have HE1 : Hid (∀ w', Ext w6 w' → Calls Tryd.prog 12 #[.agg #[.int .i64 vars, .slice na N.length nc]] w' fun e w3 => (∃ ua uc, e = .returned (.agg #[.int .i64 vars, .slice ua N.length uc]) ∧ Lists w3 (.slice ua N.length uc) N) ∧ Ext w' w3) := fun w' he => by
                    refine (CNormal_any vars N _ w' ⟨_, rfl, HNL.out.ext he⟩ HTN.out HVN.out).mono ?_
                    rintro e w3 ⟨x3, N', u', rfl, hN', hNl', _, _⟩
                    obtain rfl := HN5.out.again hN'
                    obtain ⟨ua, uc, rfl⟩ := SliceAt.shape hNl'
                    exact ⟨⟨ua, uc, rfl, hNl'⟩, x3⟩
                  have HS0 : Hid (∀ w' ua uc, Ext w6 w' → Lists w' (.slice ua N.length uc) N → Calls Tryd.prog 18 #[.agg #[.int .i64 vars, .slice ua N.length uc], .agg #[.int .i64 vars, .slice na N.length nc]] w' fun e w3 => e = .returned (.bool true) ∧ Ext w' w3) := fun w' ua uc he hl => by
                    have := RSame_any vars vars N N _ _ w' ⟨_, rfl, hl⟩ ⟨_, rfl, HNL.out.ext he⟩ (fun c hc => by have := HNB.out c hc; omega)
                    rw [show (decide (vars = vars ∧ N = N)) = true from by simp] at this; exact this
                  have HCE : Hid (∀ w', Ext w6 w' → w'.cell? ⟨b0, 0, none⟩ = some (.int .i64 vars) ∧ w'.cell? ⟨b0, 1, none⟩ = some (.slice fa cl.length fc) ∧ w'.cell? ⟨r, 0, none⟩ = some (.int .i64 vars) ∧ w'.cell? ⟨r, 1, none⟩ = some (.slice pa L5 pc) ∧ w'.cell? ⟨bn, 0, none⟩ = some (.int .i64 vars) ∧ w'.cell? ⟨bn, 1, none⟩ = some (.slice na N.length nc)) := fun w' he =>
                    ⟨(HXT.out.trans (HX6.out.trans he)).cell P0.out, (HXT.out.trans (HX6.out.trans he)).cell P1.out, he.cell (CnfAt.cells HG6.out.blk).1, he.cell (CnfAt.cells HG6.out.blk).2, he.cell HBN.out.1, he.cell HBN.out.2⟩
                  have HXR := Lib.hid (HX4.out.trans (HXT.out.trans HX6.out))
                  clear HN5 HNL5 HNL HVN HTN HG HG6 HL4
                  go_region_held3 (fun w' => w'.cell? ⟨b0, 0, none⟩ = some (.int .i64 vars) ∧ w'.cell? ⟨b0, 1, none⟩ = some (.slice fa cl.length fc) ∧ w'.cell? ⟨r, 0, none⟩ = some (.int .i64 vars) ∧ w'.cell? ⟨r, 1, none⟩ = some (.slice pa L5 pc) ∧ w'.cell? ⟨bn, 0, none⟩ = some (.int .i64 vars) ∧ w'.cell? ⟨bn, 1, none⟩ = some (.slice na N.length nc))
                    ((first
                      | assumption
                      | (refine HCE.out _ ?_; repeat (first | exact Ext.refl _ | exact Y4.out | apply Ext.drew | apply Ext.alloc)
                         done)
                      | (refine HCE.out _ ?_; repeat (first | exact Ext.refl _ | exact Y3.out | apply Ext.drew | apply Ext.alloc)
                         done)
                      | (refine HCE.out _ ?_; repeat (first | exact Ext.refl _ | exact Y2.out | apply Ext.drew | apply Ext.alloc)
                         done)
                      | (refine HCE.out _ ?_; repeat (first | exact Ext.refl _ | exact Y1.out | apply Ext.drew | apply Ext.alloc)
                         done)
                      | (refine HCE.out _ ?_; repeat (first | exact Ext.refl _ | apply Ext.drew | apply Ext.alloc)
                         done)
                      | fail))
                    ((first
                      | (go_at_call 18
                         have hg0 := Y3.out
                         clear hg0
                         refine (HS0.out _ _ _ (by repeat (first | exact Y3.out | apply Ext.drew | apply Ext.alloc)) HU2.out).mono ?_
                         rintro r y4 ⟨rfl, x4⟩
                         have Y4 : Hid (Ext w6 y4) := Ext.trans (by repeat (first | exact Y3.out | apply Ext.drew | apply Ext.alloc)) x4
                         clear x4)
                      | (go_at_call 12
                         have hg0 := Y2.out
                         clear hg0
                         refine (HE1.out _ (by repeat (first | exact Y2.out | apply Ext.drew | apply Ext.alloc))).mono ?_
                         rintro r y3 ⟨⟨ua2, uc2, rfl, hu2⟩, x3⟩
                         have Y3 : Hid (Ext w6 y3) := Ext.trans (by repeat (first | exact Y2.out | apply Ext.drew | apply Ext.alloc)) x3
                         have HU2 := Lib.hid hu2
                         clear hu2
                         clear x3)
                      | (go_at_call 18
                         have hg0 := Y1.out
                         clear hg0
                         refine (HS0.out _ _ _ (by repeat (first | exact Y1.out | apply Ext.drew | apply Ext.alloc)) HU1.out).mono ?_
                         rintro r y2 ⟨rfl, x2⟩
                         have Y2 : Hid (Ext w6 y2) := Ext.trans (by repeat (first | exact Y1.out | apply Ext.drew | apply Ext.alloc)) x2
                         clear x2)
                      | (go_at_call 12
                         refine (HE0.out _ (by repeat (first | exact Ext.refl _ | apply Ext.drew | apply Ext.alloc))).mono ?_
                         rintro r y1 ⟨⟨ua1, uc1, rfl, hu1⟩, x1⟩
                         have Y1 : Hid (Ext w6 y1) := Ext.trans (by repeat (first | exact Ext.refl _ | apply Ext.drew | apply Ext.alloc)) x1
                         have HU1 := Lib.hid hu1
                         clear hu1
                         clear x1)
                      | fail))
                  have HXE := Lib.hid (HXR.out.trans Y4.out)
                  go_wp2_with fail
                  go_ret
                  exact ⟨rfl, HXE.out⟩
                · have HEX : Hid (extra vars v = []) := by unfold Hid extra; rw [if_neg hv0]
                  have hv1 := canon_valid (p := p) (v := v) HPLo.out HVD.out (by omega)
                  have hv2 := canon_tame (p := p) (v := v) HTM.out HPLo.out HVD.out (by omega) HSM.out.2
                  have hv3 := fun N M hN hM => canon_eq (vars := vars) (p := p) (v := v) (N := N) (M := M) HPLo.out hN hM
                  rw [HEX.out, List.append_nil] at hv1 hv2 hv3
                  have HVM := Lib.hid hv1; have HTMM := Lib.hid hv2; have HCANON : Hid (∀ N M, NormF cl N → NormF (gTo p cl od od.length) M → M = N) := hv3
                  clear hv1 hv2 hv3
                  have HXT := Lib.hid (HXw.out.trans HXi.out)
                  go_wp2_with fail
                  refine (CNormal_any vars cl _ wr (HL4.out.ext HXT.out) HTM.out HVD.out).mono ?_
                  rintro r5 w5 ⟨x5, N, u, rfl, hN, hNl, hNn, hNb⟩
                  obtain ⟨na, nc, rfl⟩ := SliceAt.shape hNl
                  have HN5 := Lib.hid hN; have HX5 := Lib.hid x5; have HNL5 := Lib.hid hNl; have HNB := Lib.hid hNb
                  have HVN := Lib.hid (normF_valid hN HVD.out hNn); have HTN := Lib.hid (normF_tame hN HTM.out hNn hNb)
                  clear x5 hN hNl hNn hNb
                  go_upto_region 26 with fail
                  have x6 : Ext w5 (w5.alloc (.cells #[.int .i64 vars, .slice na N.length nc] 24)) := (Ext.refl _).alloc _
                  have HBN := Lib.hid (CnfAt.cells (heap_new w5 (.cells #[.int .i64 vars, .slice na N.length nc] 24)))
                  have HX6 := Lib.hid (HX5.out.trans x6); have HNL := Lib.hid (HNL5.out.ext x6)
                  clear x6
                  generalize w5.alloc (.cells #[.int .i64 vars, .slice na N.length nc] 24) = w6 at *
                  generalize w5.heap.size = bn at *
                  have HG6 := Lib.hid (HG.out.later HX6.out)
                  have HE0 : Hid (∀ w', Ext w6 w' → Calls Tryd.prog 12 #[.agg #[.int .i64 vars, .slice ga gs.length gcp]] w' fun e w3 => (∃ ua uc, e = .returned (.agg #[.int .i64 vars, .slice ua N.length uc]) ∧ Lists w3 (.slice ua N.length uc) N) ∧ Ext w' w3) := fun w' he => by
                    refine (CNormal_any vars (gTo p cl od od.length) _ w' ⟨_, rfl, HG6.out.lists.ext he⟩ HTMM.out HVM.out).mono ?_
                    rintro e w3 ⟨x3, N', u', rfl, hN', hNl', _, _⟩
                    obtain rfl := HCANON.out N N' HN5.out hN'
                    obtain ⟨ua, uc, rfl⟩ := SliceAt.shape hNl'
                    exact ⟨⟨ua, uc, rfl, hNl'⟩, x3⟩
                  have HE1 : Hid (∀ w', Ext w6 w' → Calls Tryd.prog 12 #[.agg #[.int .i64 vars, .slice na N.length nc]] w' fun e w3 => (∃ ua uc, e = .returned (.agg #[.int .i64 vars, .slice ua N.length uc]) ∧ Lists w3 (.slice ua N.length uc) N) ∧ Ext w' w3) := fun w' he => by
                    refine (CNormal_any vars N _ w' ⟨_, rfl, HNL.out.ext he⟩ HTN.out HVN.out).mono ?_
                    rintro e w3 ⟨x3, N', u', rfl, hN', hNl', _, _⟩
                    obtain rfl := HN5.out.again hN'
                    obtain ⟨ua, uc, rfl⟩ := SliceAt.shape hNl'
                    exact ⟨⟨ua, uc, rfl, hNl'⟩, x3⟩
                  have HS0 : Hid (∀ w' ua uc, Ext w6 w' → Lists w' (.slice ua N.length uc) N → Calls Tryd.prog 18 #[.agg #[.int .i64 vars, .slice ua N.length uc], .agg #[.int .i64 vars, .slice na N.length nc]] w' fun e w3 => e = .returned (.bool true) ∧ Ext w' w3) := fun w' ua uc he hl => by
                    have := RSame_any vars vars N N _ _ w' ⟨_, rfl, hl⟩ ⟨_, rfl, HNL.out.ext he⟩ (fun c hc => by have := HNB.out c hc; omega)
                    rw [show (decide (vars = vars ∧ N = N)) = true from by simp] at this; exact this
                  have HCE : Hid (∀ w', Ext w6 w' → w'.cell? ⟨b0, 0, none⟩ = some (.int .i64 vars) ∧ w'.cell? ⟨b0, 1, none⟩ = some (.slice fa cl.length fc) ∧ w'.cell? ⟨r, 0, none⟩ = some (.int .i64 vars) ∧ w'.cell? ⟨r, 1, none⟩ = some (.slice ga gs.length gcp) ∧ w'.cell? ⟨bn, 0, none⟩ = some (.int .i64 vars) ∧ w'.cell? ⟨bn, 1, none⟩ = some (.slice na N.length nc)) := fun w' he =>
                    ⟨(HXT.out.trans (HX6.out.trans he)).cell P0.out, (HXT.out.trans (HX6.out.trans he)).cell P1.out, he.cell (CnfAt.cells HG6.out.blk).1, he.cell (CnfAt.cells HG6.out.blk).2, he.cell HBN.out.1, he.cell HBN.out.2⟩
                  have HXR := Lib.hid (HX4.out.trans (HXT.out.trans HX6.out))
                  clear HN5 HNL5 HNL HVN HTN HG HG6 HL4
                  go_region_held3 (fun w' => w'.cell? ⟨b0, 0, none⟩ = some (.int .i64 vars) ∧ w'.cell? ⟨b0, 1, none⟩ = some (.slice fa cl.length fc) ∧ w'.cell? ⟨r, 0, none⟩ = some (.int .i64 vars) ∧ w'.cell? ⟨r, 1, none⟩ = some (.slice ga gs.length gcp) ∧ w'.cell? ⟨bn, 0, none⟩ = some (.int .i64 vars) ∧ w'.cell? ⟨bn, 1, none⟩ = some (.slice na N.length nc))
                    ((first
                      | assumption
                      | (refine HCE.out _ ?_; repeat (first | exact Ext.refl _ | exact Y4.out | apply Ext.drew | apply Ext.alloc)
                         done)
                      | (refine HCE.out _ ?_; repeat (first | exact Ext.refl _ | exact Y3.out | apply Ext.drew | apply Ext.alloc)
                         done)
                      | (refine HCE.out _ ?_; repeat (first | exact Ext.refl _ | exact Y2.out | apply Ext.drew | apply Ext.alloc)
                         done)
                      | (refine HCE.out _ ?_; repeat (first | exact Ext.refl _ | exact Y1.out | apply Ext.drew | apply Ext.alloc)
                         done)
                      | (refine HCE.out _ ?_; repeat (first | exact Ext.refl _ | apply Ext.drew | apply Ext.alloc)
                         done)
                      | fail))
                    ((first
                      | (go_at_call 18
                         have hg0 := Y3.out
                         clear hg0
                         refine (HS0.out _ _ _ (by repeat (first | exact Y3.out | apply Ext.drew | apply Ext.alloc)) HU2.out).mono ?_
                         rintro r y4 ⟨rfl, x4⟩
                         have Y4 : Hid (Ext w6 y4) := Ext.trans (by repeat (first | exact Y3.out | apply Ext.drew | apply Ext.alloc)) x4
                         clear x4)
                      | (go_at_call 12
                         have hg0 := Y2.out
                         clear hg0
                         refine (HE1.out _ (by repeat (first | exact Y2.out | apply Ext.drew | apply Ext.alloc))).mono ?_
                         rintro r y3 ⟨⟨ua2, uc2, rfl, hu2⟩, x3⟩
                         have Y3 : Hid (Ext w6 y3) := Ext.trans (by repeat (first | exact Y2.out | apply Ext.drew | apply Ext.alloc)) x3
                         have HU2 := Lib.hid hu2
                         clear hu2
                         clear x3)
                      | (go_at_call 18
                         have hg0 := Y1.out
                         clear hg0
                         refine (HS0.out _ _ _ (by repeat (first | exact Y1.out | apply Ext.drew | apply Ext.alloc)) HU1.out).mono ?_
                         rintro r y2 ⟨rfl, x2⟩
                         have Y2 : Hid (Ext w6 y2) := Ext.trans (by repeat (first | exact Y1.out | apply Ext.drew | apply Ext.alloc)) x2
                         clear x2)
                      | (go_at_call 12
                         refine (HE0.out _ (by repeat (first | exact Ext.refl _ | apply Ext.drew | apply Ext.alloc))).mono ?_
                         rintro r y1 ⟨⟨ua1, uc1, rfl, hu1⟩, x1⟩
                         have Y1 : Hid (Ext w6 y1) := Ext.trans (by repeat (first | exact Ext.refl _ | apply Ext.drew | apply Ext.alloc)) x1
                         have HU1 := Lib.hid hu1
                         clear hu1
                         clear x1)
                      | fail))
                  have HXE := Lib.hid (HXR.out.trans Y4.out)
                  go_wp2_with fail
                  go_ret
                  exact ⟨rfl, HXE.out⟩
theorem u16_of {n : Int} (h : (Lit.int .u16 n).wf = true) : 0 ≤ n ∧ n ≤ 65535 := by
  have e1 : IntKind.u16.min = 0 := rfl
  have e2 : IntKind.u16.max = 65535 := rfl
  simp [Lit.wf, e1, e2] at h
  omega
theorem CnfCanonical_card (vars : Int) (cl : List (List Int)) (p : Int) (tw : List Int) (v : Int) (vf vt : Value) (w : World) (hf : CnfI w vf vars cl) (hp : (Lit.int .u8 p).wf = true) (ht : BytesI w vt tw) (hv : (Lit.int .u16 v).wf = true) (hT : CTab w) :
    Calls Tryd.prog 4 #[vf, .int .u8 p, vt, .int .u16 v] w fun r w' => r = .returned (.bool true) ∧ Ext w w' := by
  have h1 := u8_of hp
  have h2 := u16_of hv
  obtain ⟨a, rfl⟩ : ∃ a : Nat, p = a := ⟨p.toNat, by omega⟩
  obtain ⟨b, rfl⟩ : ∃ b : Nat, v = b := ⟨v.toNat, by omega⟩
  exact CnfCanonical_any vars cl a tw b vf vt w hf.1 hf.2 (by omega) ht (by omega) hT
end Go.Proofs.YtnkhaobokmmnjaaDoor

