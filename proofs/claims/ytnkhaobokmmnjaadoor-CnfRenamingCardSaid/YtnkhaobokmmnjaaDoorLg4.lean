/-
  The walk of CnfRenaming.
-/
import Derived.Test.YtnkhaobokmmnjaaDoorLgL
import Derived.Test.YtnkhaobokmmnjaaDoorOpenN
namespace Go.Proofs.YtnkhaobokmmnjaaDoor
open Go.RowKit Go.Shelf
attribute [local go_sem] Oper.semAt_some

theorem infoBool : (Tryd.prog.info? 4).map (fun i => (i.zero, i.size, i.bytes)) = some (some (.bool false), 1, 1) := by kernel_rfl
theorem bools_at {w : World} {a : Option Addr} {n c : Nat} {l : List Bool} (h : Bools w (.slice a n c) l) {k : Nat} (hk : k < l.length) : ∃ b o, a = some ⟨b, o, none⟩ ∧ w.cell? ⟨b, o + k, none⟩ = some (.bool l[k]) := by
  rcases h with ⟨_, e⟩ | ⟨b, o, cap, e, _, hc⟩
  · rw [e] at hk; simp at hk
  cases e
  have := hc k hk
  rw [Nat.mul_one] at this
  exact ⟨b, o, rfl, this⟩
theorem row_bools {w : World} {b n : Nat} {l : List Bool} (hl : l.length = n) (hm : n ≤ 1000000) (h : w.rowIs b 4 n fun j => .bool (l.getD j false)) : Bools w (.slice (some ⟨b, 0, none⟩) n n) l := by
  refine .inr ⟨b, 0, n, by rw [hl], by omega, fun i hi => ?_⟩
  have := h.cell (i := i) (by omega)
  rw [Nat.mul_one, Nat.zero_add]
  rw [show l.getD i false = l[i] by simp [List.getD, hi]] at this
  exact this
theorem renW_set {w : World} {b n p k : Nat} {vs inv : List Bool} (hk : k < n) (h : w.rowIs b 4 n fun j => .bool ((renW n p vs inv k).getD j false)) : (w.setCell ⟨b, place n p k, none⟩ (.bool (xorAt vs inv k))).rowIs b 4 n fun j => .bool ((renW n p vs inv (k + 1)).getD j false) := by
  have hl := renW_len n p vs inv k
  have hR : ∀ j, ((renW n p vs inv k).set (place n p k) (xorAt vs inv k)).getD j false = if place n p k = j then xorAt vs inv k else (renW n p vs inv k).getD j false := fun j => by
    rw [List.getD_eq_getElem?_getD, List.getElem?_set]
    split
    · rw [if_pos (by rw [hl]; exact place_lt (by omega))]; rfl
    · rw [← List.getD_eq_getElem?_getD]
  refine (h.set (place n p k) (.bool (xorAt vs inv k))).congr fun j hj => ?_
  rw [show renW n p vs inv (k + 1) = (renW n p vs inv k).set (place n p k) (xorAt vs inv k) from rfl, hR]
  by_cases e : j = place n p k
  · simp only [if_pos e, if_pos e.symm]
  · have e' : ¬ place n p k = j := fun h => e h.symm
    simp only [if_neg e, if_neg e']
theorem tame_of_valid {vars : Int} {M : List (List Int)} (hv : validC vars M = true) (hl : ∀ c ∈ M, c.length ≤ 100000) : TameC vars M := by
  have hb := validC_vars hv
  have hV := hv
  unfold validC at hv
  simp only [Bool.and_eq_true, decide_eq_true_eq] at hv
  refine ⟨by unfold InI; omega, by omega, fun c hc => ⟨hl c hc, fun x hx => ?_⟩⟩
  have := lit_in hb.2 (validC_lit hV hc hx)
  unfold InI; omega
def renTo (n p : Nat) (inv : List Bool) (cl : List (List Int)) (k : Nat) : List (List Int) := (cl.take k).map (·.map (renL n p inv))
theorem renTo_succ {n p : Nat} {inv : List Bool} {cl : List (List Int)} {k : Nat} (hk : k < cl.length) : renTo n p inv cl (k + 1) = renTo n p inv cl k ++ [cl[k].map (renL n p inv)] := by unfold renTo; rw [List.take_succ_eq_append_getElem hk, List.map_append]; rfl
theorem renC_succ {n p : Nat} {inv : List Bool} {c : List Int} {q : Nat} (hq : q < c.length) : (c.take (q + 1)).map (renL n p inv) = (c.take q).map (renL n p inv) ++ [renL n p inv c[q]] := by rw [List.take_succ_eq_append_getElem hq, List.map_append]; rfl
def renQ (n p : Nat) (inv : List Bool) (c : List Int) (q : Nat) : List Int := (c.take q).map (renL n p inv)
theorem renQ_len (n p : Nat) (inv : List Bool) (c : List Int) (q : Nat) : (renQ n p inv c q).length ≤ c.length := by unfold renQ; simp; omega

set_option maxRecDepth 100000 in
set_option maxHeartbeats 8000000 in
theorem CnfRenaming_any (vars : Int) (cl : List (List Int)) (vs inv : List Bool) (p : Nat) (vf vv vi : Value) (w : World) (hf : CnfV w vf vars cl) (hn : CnfN vars cl) (hv : Bools w vv vs) (hp : p ≤ 255) (hi : Bools w vi inv) (hT : CTab w) :
    Calls Tryd.prog 7 #[vf, vv, .int .u8 (p : Int), vi] w fun r w' => r = .returned (.bool true) ∧ Ext w w' := by
  obtain ⟨fa, fc, rfl, hcl⟩ := hf.shape
  obtain ⟨va, vc, rfl⟩ := SliceAt.shape hv
  obtain ⟨ia, ic, rfl⟩ := SliceAt.shape hi
  obtain ⟨W, hW⟩ : ∃ W, W = w.alloc (.cells #[.int .i64 vars, .slice fa cl.length fc] 24) := ⟨_, rfl⟩
  have hx : Ext w W := by rw [hW]; exact (Ext.refl w).alloc _
  have hA : W.heap[w.heap.size]? = some (.cells #[.int .i64 vars, .slice fa cl.length fc] 24 (0, 0)) := by rw [hW]; exact heap_new _ _
  have HF := Lib.hid hf; have HX := Lib.hid hx; have HW := Lib.hid hW; have HN := Lib.hid hn; have HV := Lib.hid hv; have HI := Lib.hid hi; have HT := Lib.hid (hT.ext hx); have HA := Lib.hid (CnfAt.cells hA)
  have hvl := SliceAt.len_le hv
  have hil := SliceAt.len_le hi
  clear hf hx hW hn hv hi hT hcl hA
  go_enter Tryd.func7, Tryd.ntmps7
  go_upto_region 1 with fail
  rw [← HW.out]
  clear HW
  generalize w.heap.size = b0 at *
  go_wp2_with fail
  refine (head_any W HT.out).mono ?_
  rintro r w2 ⟨rfl, x2⟩
  have HX2 := Lib.hid x2
  obtain ⟨p0, p1⟩ := HA.out
  replace p0 := x2.cell p0; replace p1 := x2.cell p1
  clear x2
  go_wp2_with fail
  refine (LSmall_any vars cl _ w2 (HF.out.ext (HX.out.trans HX2.out))).mono ?_
  rintro r w3 ⟨rfl, x3⟩
  have HX3 := Lib.hid (HX2.out.trans x3)
  replace p0 := x3.cell p0; replace p1 := x3.cell p1
  clear x3
  cases hsm : smallC cl with
  | false =>
    go_wp2_with fail
    go_ret
    exact ⟨rfl, HX.out.trans HX3.out⟩
  | true =>
  have HTM := Lib.hid (HN.out.tame hsm)
  have HSM := Lib.hid (small_len hsm)
  clear hsm
  go_wp2_with fail
  refine (RValid_any vars cl _ w3 (HF.out.ext (HX.out.trans HX3.out)) HTM.out).mono ?_
  rintro r w4 ⟨rfl, x4⟩
  have HX4 := Lib.hid (HX.out.trans (HX3.out.trans x4))
  replace p0 := x4.cell p0; replace p1 := x4.cell p1
  clear x4
  cases hvd : validC vars cl with
  | false =>
    go_wp2_with fail
    go_ret
    exact ⟨rfl, HX4.out⟩
  | true =>
  have HVD := Lib.hid hvd
  clear hvd
  have HL4 := Lib.hid (HF.out.ext HX4.out)
  have HV4 := Lib.hid (SliceAt.ext BoolAt.keeps HV.out HX4.out)
  have HI4 := Lib.hid (SliceAt.ext BoolAt.keeps HI.out HX4.out)
  clear HF HV HI HA HT HX HX2 HX3
  by_cases h1 : 100 < vars
  · go_wp2_with fail
    go_ret
    exact ⟨rfl, HX4.out⟩
  have h1' : ¬ 100 < vars := h1
  by_cases h2 : vars < 1
  · go_wp2_with fail
    go_ret
    exact ⟨rfl, HX4.out⟩
  have h2' : ¬ vars < 1 := h2
  obtain ⟨n, rfl⟩ : ∃ n : Nat, vars = (n : Int) := ⟨vars.toNat, by omega⟩
  have HN0 : Hid (0 < n) := by unfold Hid; omega
  have hn100 : n ≤ 100 := by omega
  have P0 := Lib.hid p0; have P1 := Lib.hid p1
  have hmk := run_make_row' (P := Tryd.prog) 25 4 (.bool false) 1 Tryd.underlying25 infoBool rfl .i64 .i64 n (by omega) (by omega)
  go_upto_region 5 with fail
  clear hmk
  have x5 : Ext w4 (w4.alloc (.cells (madeCells #[.bool false] n) 4)) := (Ext.refl _).alloc _
  have HR5 : Hid ((w4.alloc (.cells (madeCells #[.bool false] n) 4)).rowIs w4.heap.size 4 n fun j => .bool ((renW n p vs inv 0).getD j false)) := (World.rowIs_made w4 (.bool false) n 4).congr fun j hj => by
    unfold renW; simp [List.getD, hj]
  have HX5 := Lib.hid x5
  have HB4 : Hid (b0 < w4.heap.size) := block_lt P0.out
  clear x5 p0 p1
  generalize w4.alloc (.cells (madeCells #[.bool false] n) 4) = w5 at *
  generalize hbw : w4.heap.size = bw at *
  have HBW := Lib.hid hbw
  clear hbw
  go_wp2_with fail
  go_loopw [11] (fun iv wr => ∃ k : Nat, k ≤ n ∧ iv = .int .i64 k ∧ Ext w4 wr ∧ wr.rowIs bw 4 n fun j => .bool ((renW n p vs inv k).getD j false)) (fun iv _ => n - (intOf iv).toNat)
  case atStart => exact ⟨0, Nat.zero_le _, rfl, HX5.out, HR5.out⟩
  case round =>
    obtain ⟨k, hk, rfl, hX, hR⟩ := hrel
    have HXr := Lib.hid hX; have HR := Lib.hid hR; clear hX hR
    have p0 := HXr.out.cell P0.out
    by_cases hlt : k < n
    · have hlt' : (k : Int) < (n : Int) := by omega
      have k0 : (0 : Int) ≤ (k : Int) := by omega
      obtain ⟨s, hs⟩ : ∃ s : Nat, s = k + p := ⟨_, rfl⟩
      have es : wrap64 ((k : Int) + (p : Int)) = (s : Int) := by unfold wrap64; omega
      have ep : wrap64 (p : Int) = (p : Int) := by unfold wrap64; omega
      have em : (s : Int).tmod (n : Int) = ((place n p k : Nat) : Int) := by rw [tmod_nat, hs]; rfl
      have em2 : ((k : Int) + (p : Int)) % (n : Int) = ((place n p k : Nat) : Int) := by unfold place; push_cast; rfl
      have hnz : ¬ n = 0 := by omega
      have HSET : Hid (∀ x, xorAt vs inv k = x → Ext w4 (wr.setCell ⟨bw, place n p k, none⟩ (.bool x)) ∧ (wr.setCell ⟨bw, place n p k, none⟩ (.bool x)).rowIs bw 4 n fun j => .bool ((renW n p vs inv (k + 1)).getD j false)) := fun x e => by
        subst e; exact ⟨HXr.out.setCell (p := ⟨bw, place n p k, none⟩) (by have := HBW.out; show w4.heap.size ≤ bw; omega) _, renW_set hlt HR.out⟩
      have hpl : place n p k < n := place_lt HN0.out
      have c5 : wr.cell? ⟨bw, place n p k, none⟩ = some (.bool ((renW n p vs inv k).getD (place n p k) false)) := HR.out.cell hpl
      have c6 : wr.frozen? ⟨bw, place n p k, none⟩ = false := HR.out.frozen _
      generalize (renW n p vs inv k).getD (place n p k) false = old at c5
      generalize place n p k = pl at *
      have pl0 : (0 : Int) ≤ (pl : Int) := by omega
      have pl1 : (pl : Int) < (n : Int) := by omega
      clear hs HR
      by_cases hk1 : k < vs.length
      · have hk1' : (k : Int) < (vs.length : Int) := by omega
        obtain ⟨b3, o3, h3, g3⟩ := bools_at (SliceAt.ext BoolAt.keeps HV4.out HXr.out) hk1
        cases h3
        have HXV : Hid (xorAt.inFirst' vs k = vs[k]) := by unfold Hid xorAt.inFirst'; rw [decide_eq_true hk1]; simp [List.getD, hk1]
        generalize vs[k] = x at *
        by_cases hk2 : k < inv.length
        · have hk2' : (k : Int) < (inv.length : Int) := by omega
          obtain ⟨b4, o4, h4, g4⟩ := bools_at (SliceAt.ext BoolAt.keeps HI4.out HXr.out) hk2
          cases h4
          have HIV : Hid (xorAt.inFirst' inv k = inv[k]) := by unfold Hid xorAt.inFirst'; rw [decide_eq_true hk2]; simp [List.getD, hk2]
          generalize inv[k] = y at *
          cases y with
          | false =>
            have HB : Hid (xorAt vs inv k = x) := by unfold Hid xorAt; rw [HXV.out, HIV.out]; rfl
            have HR2 := HSET.out _ HB.out
            have HB2 := Lib.hid HR2
            clear HR2
            go_wp2_with fail
            exact ⟨⟨k + 1, by omega, by go_num, HB2.out⟩, by simp [intOf]; omega⟩
          | true =>
            have HB : Hid (xorAt vs inv k = (!x)) := by unfold Hid xorAt; rw [HXV.out, HIV.out]; rfl
            have HR2 := HSET.out _ HB.out
            have HB2 := Lib.hid HR2
            clear HR2
            go_wp2_with fail
            exact ⟨⟨k + 1, by omega, by go_num, HB2.out⟩, by simp [intOf]; omega⟩
        · have hk2' : ¬ (k : Int) < (inv.length : Int) := by omega
          have HIV : Hid (xorAt.inFirst' inv k = false) := by unfold Hid xorAt.inFirst'; rw [decide_eq_false (by omega)]; rfl
          have HB : Hid (xorAt vs inv k = x) := by unfold Hid xorAt; rw [HXV.out, HIV.out]; rfl
          have HB2 := Lib.hid (HSET.out _ HB.out)
          go_wp2_with fail
          exact ⟨⟨k + 1, by omega, by go_num, HB2.out⟩, by simp [intOf]; omega⟩
      · have hk1' : ¬ (k : Int) < (vs.length : Int) := by omega
        have HXV : Hid (xorAt.inFirst' vs k = false) := by unfold Hid xorAt.inFirst'; rw [decide_eq_false (by omega)]; rfl
        by_cases hk2 : k < inv.length
        · have hk2' : (k : Int) < (inv.length : Int) := by omega
          obtain ⟨b4, o4, h4, g4⟩ := bools_at (SliceAt.ext BoolAt.keeps HI4.out HXr.out) hk2
          cases h4
          have HIV : Hid (xorAt.inFirst' inv k = inv[k]) := by unfold Hid xorAt.inFirst'; rw [decide_eq_true hk2]; simp [List.getD, hk2]
          generalize inv[k] = y at *
          cases y with
          | false =>
            have HB : Hid (xorAt vs inv k = false) := by unfold Hid xorAt; rw [HXV.out, HIV.out]; rfl
            have HR2 := HSET.out _ HB.out
            have HB2 := Lib.hid HR2
            clear HR2
            go_wp2_with fail
            exact ⟨⟨k + 1, by omega, by go_num, HB2.out⟩, by simp [intOf]; omega⟩
          | true =>
            have HB : Hid (xorAt vs inv k = (!false)) := by unfold Hid xorAt; rw [HXV.out, HIV.out]; rfl
            have HR2 := HSET.out _ HB.out
            have HB2 := Lib.hid HR2
            clear HR2
            go_wp2_with fail
            exact ⟨⟨k + 1, by omega, by go_num, HB2.out⟩, by simp [intOf]; omega⟩
        · have hk2' : ¬ (k : Int) < (inv.length : Int) := by omega
          have HIV : Hid (xorAt.inFirst' inv k = false) := by unfold Hid xorAt.inFirst'; rw [decide_eq_false (by omega)]; rfl
          have HB : Hid (xorAt vs inv k = false) := by unfold Hid xorAt; rw [HXV.out, HIV.out]; rfl
          have HB2 := Lib.hid (HSET.out _ HB.out)
          go_wp2_with fail
          exact ⟨⟨k + 1, by omega, by go_num, HB2.out⟩, by simp [intOf]; omega⟩
    · have hkn : n = k := by omega
      subst hkn
      clear hlt hk HR5 HX5
      generalize wr = we at *
      go_upto_region 13 with fail
      have x6 : Ext we (we.alloc (.cells #[.int .i64 (n : Nat), .slice none 0 0] 24)) := (Ext.refl _).alloc _
      have hR0 : NRow we.heap.size n (we.alloc (.cells #[.int .i64 (n : Nat), .slice none 0 0] 24)) (.slice none 0 0) [] [] := ⟨heap_new _ _, OwnL.nil _ _, rfl, fun i h1 => by simp at h1⟩
      have HX6 := Lib.hid x6; have HR0 := Lib.hid hR0; have HXw := Lib.hid HXr.out
      have HBR : Hid (bw < we.heap.size) := HR.out.lt
      have HRW := Lib.hid HR.out
      clear x6 hR0 p0 HXr HR
      generalize we.alloc (.cells #[.int .i64 (n : Nat), .slice none 0 0] 24) = w6 at *
      generalize hr : we.heap.size = r at *
      have HRZ := Lib.hid hr
      clear hr
      have p1 := (HXw.out.trans HX6.out).cell P1.out
      go_wp2_with fail
      clear p1
      go_loopw [14] (fun iv wx => ∃ i : Nat, i ≤ cl.length ∧ iv = .int .i64 i ∧ Ext we wx ∧ ∃ gv gs, NRow r n wx gv gs (renTo n p inv cl i)) (fun iv _ => cl.length - (intOf iv).toNat)
      case atStart => exact ⟨0, Nat.zero_le _, rfl, HX6.out, _, _, HR0.out⟩
      case round =>
        obtain ⟨i, hi, rfl, hX, gv, gs, hG⟩ := hrel
        have HXi := Lib.hid hX; have HG := Lib.hid hG
        have p1 := (HXw.out.trans hX).cell P1.out
        clear hX hG
        have h60 : cl.length ≤ 60 := HSM.out.1
        by_cases hlt : i < cl.length
        · have hlt' : (i : Int) < (cl.length : Int) := by omega
          have i0 : (0 : Int) ≤ (i : Int) := by omega
          obtain ⟨c, hc0⟩ : ∃ c, c = cl[i] := ⟨_, rfl⟩
          obtain ⟨b, o, c1, c2, gc, HC, hfa⟩ : ∃ b o c1 c2, w4.cell? ⟨b, o + i, none⟩ = some (.slice c1 c.length c2) ∧ Hid (Ints w4 (.slice c1 c.length c2) c) ∧ fa = some ⟨b, o, none⟩ := by
            rcases HL4.out with ⟨_, e, hcl⟩
            cases e
            obtain ⟨b, o, c1, c2, e, gc, hc⟩ := lists_at hcl hlt
            rw [← hc0] at gc hc
            exact ⟨b, o, c1, c2, gc, hc, e⟩
          subst hfa
          have GC := Lib.hid gc
          have HSUCC : Hid (renTo n p inv cl (i + 1) = renTo n p inv cl i ++ [renQ n p inv c c.length]) := by
            unfold Hid; rw [renTo_succ hlt, ← hc0]; unfold renQ; rw [List.take_length]
          have HLIT : Hid (∀ l ∈ c, litOk n l = true) := fun l hl => validC_lit HVD.out (List.getElem_mem hlt) (by rw [← hc0]; exact hl)
          have hlc : c.length ≤ 20 := by rw [hc0]; exact HSM.out.2 _ (List.getElem_mem hlt)
          clear gc hc0
          have HRI := Lib.hid (lt_heap HG.out.blk)
          have gc := (HXw.out.trans HXi.out).cell GC.out
          generalize wr = wq at *
          have p1a : ∀ w', Ext wq w' → w'.cell? ⟨b0, 1, none⟩ = some (.slice (some ⟨b, o, none⟩) cl.length fc) := fun w' he => he.cell p1
          have HPQ := Lib.hid p1a
          clear p1a
          have p1b := HPQ.out _ ((Ext.refl wq).alloc (.cells #[] 3))
          have gcb := ((Ext.refl wq).alloc (.cells #[] 3)).cell gc
          go_wp2_with fail
          clear p1b gcb p1
          go_loopw [15, 16] (fun cv qv wx => ∃ q : Nat, q ≤ c.length ∧ qv = .int .i64 q ∧ Ext wq wx ∧ OwnInts wx wq.heap.size cv (renQ n p inv c q)) (fun _ qv _ => c.length - (intOf qv).toNat)
          case atStart => exact ⟨0, Nat.zero_le _, rfl, (Ext.refl _).alloc _, OwnInts.made0 _⟩
          case round =>
            obtain ⟨q, hq, rfl, hX, hO⟩ := hrel
            have HXq := Lib.hid hX; have HO := Lib.hid hO
            have p1 := HPQ.out _ hX
            have gc1 := hX.cell gc
            have p0 := (HXw.out.trans (HXi.out.trans hX)).cell P0.out
            clear hX hO
            by_cases hlq : q < c.length
            · have hlq' : (q : Int) < (c.length : Int) := by omega
              have q0 : (0 : Int) ≤ (q : Int) := by omega
              obtain ⟨b5, o5, h5, g5⟩ := ints_at (HC.out.ext (HXw.out.trans (HXi.out.trans HXq.out))) q hlq
              subst h5
              rw [show c.getD q 0 = c[q] by simp [List.getD, hlq]] at g5
              obtain ⟨l, hl0⟩ : ∃ l, l = c[q] := ⟨_, rfl⟩
              rw [← hl0] at g5
              have hlit := HLIT.out l (by rw [hl0]; exact List.getElem_mem hlq)
              have HSN : Hid (renQ n p inv c (q + 1) = renQ n p inv c q ++ [renL n p inv l]) := by unfold Hid; rw [hl0]; exact renC_succ hlq
              have hao := absI_ok hlit
              have hli := litOk_iff.1 hlit
              obtain ⟨v, hv⟩ : ∃ v : Nat, absI l = (v : Int) + 1 := ⟨(absI l - 1).toNat, by omega⟩
              have HVV : Hid ((absI l - 1).toNat = v) := by unfold Hid; omega
              have HA : Hid (Calls Tryd.prog 14 #[.int .i64 l] wr fun e w' => e = .returned (.int .i64 ((v : Int) + 1)) ∧ w' = wr) := by
                rw [← hv]; exact RAbs_any l wr (by unfold InI; omega) (by omega)
              have HRV : Hid (renV n p l = ((place n p v : Nat) : Int) + 1) := by unfold Hid renV; rw [HVV.out]
              have hvn : v < n := by omega
              have em2 : ((v : Int) + (p : Int)) % (n : Int) = ((place n p v : Nat) : Int) := by unfold place; push_cast; rfl
              have hpl : place n p v < n := place_lt HN0.out
              have HLN : Hid ((renQ n p inv c q).length ≤ 20) := by have := renQ_len n p inv c q; unfold Hid; omega
              have hnz : ¬ n = 0 := by omega
              have ev : wrap64 ((v : Int) + 1 - 1) = (v : Int) := by unfold wrap64; omega
              have v0 : (0 : Int) ≤ (v : Int) := by omega
              clear hl0 hlit hao hv
              generalize place n p v = pl at *
              by_cases hneg : l < 0
              · have HSG : Hid (decide (l < 0) = true) := decide_eq_true hneg
                by_cases hv2 : v < inv.length
                · have hv2' : (v : Int) < (inv.length : Int) := by omega
                  obtain ⟨b4, o4, h4, g4⟩ := bools_at (SliceAt.ext BoolAt.keeps HI4.out (HXw.out.trans (HXi.out.trans HXq.out))) hv2
                  cases h4
                  have HYV : Hid (xorAt.inFirst' inv (absI l - 1).toNat = inv[v]) := by unfold Hid xorAt.inFirst'; rw [HVV.out, decide_eq_true hv2]; simp [List.getD, hv2]
                  generalize inv[v] = y at *
                  cases y with
                  | false =>
                    have HS : Hid (renL n p inv l = (-((pl : Int) + 1))) := by unfold Hid renL; rw [if_pos (by unfold renSign; rw [HSG.out, HYV.out]; rfl), HRV.out]
                    rw [HS.out] at HSN
                    go_wp2_with fail
                    refine HA.out.mono ?_
                    rintro r8 w8 ⟨rfl, rfl⟩
                    go_upto_region 22 with fail
                    go_quiet (fail)
                    have HXy : Hid (Ext wq (w8.drewN nq)) := HXq.out.drewN _
                    have HOy : Hid (OwnInts (w8.drewN nq) wq.heap.size _ _) := HO.out.kept ((Ext.refl _).drewN _)
                    have hlw : wq.heap.size ≤ (w8.drewN nq).heap.size := HXy.out.size
                    go_wp2_with (at_builtin; refine wpList_append_int rfl (.tmp 141) (.tmp 143) rfl wq.heap.size (w8.drewN nq) _ _ _ rfl rfl HOy.out (by have := HLN.out; omega) hlw ?_)
                    intro v' w' hown' hg
                    rw [← HSN.out] at hown'
                    have hx' : Ext wq w' := HXy.out.grown hg (fun q hq => HOy.out.base q hq)
                    have HO' := Lib.hid hown'; have HX' := Lib.hid hx'
                    clear hown' hx' hg
                    go_wp2_with fail
                    exact ⟨⟨q + 1, by omega, by go_num, HX'.out, HO'.out⟩, by simp [intOf]; omega⟩
                    all_goals (exfalso; revert HSG; intro HSG; have hsg := HSG.out; simp_all)
                  | true =>
                    have HS : Hid (renL n p inv l = ((pl : Int) + 1)) := by unfold Hid renL; rw [if_neg (by unfold renSign; rw [HSG.out, HYV.out]; decide), HRV.out]
                    rw [HS.out] at HSN
                    go_wp2_with fail
                    refine HA.out.mono ?_
                    rintro r8 w8 ⟨rfl, rfl⟩
                    go_upto_region 22 with fail
                    go_quiet (fail)
                    have HXy : Hid (Ext wq (w8.drewN nq)) := HXq.out.drewN _
                    have HOy : Hid (OwnInts (w8.drewN nq) wq.heap.size _ _) := HO.out.kept ((Ext.refl _).drewN _)
                    have hlw : wq.heap.size ≤ (w8.drewN nq).heap.size := HXy.out.size
                    go_wp2_with (at_builtin; refine wpList_append_int rfl (.tmp 141) (.tmp 143) rfl wq.heap.size (w8.drewN nq) _ _ _ rfl rfl HOy.out (by have := HLN.out; omega) hlw ?_)
                    intro v' w' hown' hg
                    rw [← HSN.out] at hown'
                    have hx' : Ext wq w' := HXy.out.grown hg (fun q hq => HOy.out.base q hq)
                    have HO' := Lib.hid hown'; have HX' := Lib.hid hx'
                    clear hown' hx' hg
                    go_wp2_with fail
                    exact ⟨⟨q + 1, by omega, by go_num, HX'.out, HO'.out⟩, by simp [intOf]; omega⟩
                    all_goals (exfalso; revert HSG; intro HSG; have hsg := HSG.out; simp_all)
                · have hv2' : ¬ (v : Int) < (inv.length : Int) := by omega
                  have HYV : Hid (xorAt.inFirst' inv (absI l - 1).toNat = false) := by unfold Hid xorAt.inFirst'; rw [HVV.out, decide_eq_false (by omega)]; rfl
                  have HS : Hid (renL n p inv l = (-((pl : Int) + 1))) := by unfold Hid renL; rw [if_pos (by unfold renSign; rw [HSG.out, HYV.out]; rfl), HRV.out]
                  rw [HS.out] at HSN
                  go_wp2_with fail
                  refine HA.out.mono ?_
                  rintro r8 w8 ⟨rfl, rfl⟩
                  go_upto_region 22 with fail
                  go_quiet (fail)
                  have HXy : Hid (Ext wq (w8.drewN nq)) := HXq.out.drewN _
                  have HOy : Hid (OwnInts (w8.drewN nq) wq.heap.size _ _) := HO.out.kept ((Ext.refl _).drewN _)
                  have hlw : wq.heap.size ≤ (w8.drewN nq).heap.size := HXy.out.size
                  go_wp2_with (at_builtin; refine wpList_append_int rfl (.tmp 141) (.tmp 143) rfl wq.heap.size (w8.drewN nq) _ _ _ rfl rfl HOy.out (by have := HLN.out; omega) hlw ?_)
                  intro v' w' hown' hg
                  rw [← HSN.out] at hown'
                  have hx' : Ext wq w' := HXy.out.grown hg (fun q hq => HOy.out.base q hq)
                  have HO' := Lib.hid hown'; have HX' := Lib.hid hx'
                  clear hown' hx' hg
                  go_wp2_with fail
                  exact ⟨⟨q + 1, by omega, by go_num, HX'.out, HO'.out⟩, by simp [intOf]; omega⟩
                  all_goals (exfalso; revert HSG; intro HSG; have hsg := HSG.out; simp_all)
              · have HSG : Hid (decide (l < 0) = false) := decide_eq_false hneg
                have hneg' : ¬ l < 0 := hneg
                by_cases hv2 : v < inv.length
                · have hv2' : (v : Int) < (inv.length : Int) := by omega
                  obtain ⟨b4, o4, h4, g4⟩ := bools_at (SliceAt.ext BoolAt.keeps HI4.out (HXw.out.trans (HXi.out.trans HXq.out))) hv2
                  cases h4
                  have HYV : Hid (xorAt.inFirst' inv (absI l - 1).toNat = inv[v]) := by unfold Hid xorAt.inFirst'; rw [HVV.out, decide_eq_true hv2]; simp [List.getD, hv2]
                  generalize inv[v] = y at *
                  cases y with
                  | false =>
                    have HS : Hid (renL n p inv l = ((pl : Int) + 1)) := by unfold Hid renL; rw [if_neg (by unfold renSign; rw [HSG.out, HYV.out]; decide), HRV.out]
                    rw [HS.out] at HSN
                    go_wp2_with fail
                    refine HA.out.mono ?_
                    rintro r8 w8 ⟨rfl, rfl⟩
                    go_upto_region 22 with fail
                    go_quiet (fail)
                    have HXy : Hid (Ext wq (w8.drewN nq)) := HXq.out.drewN _
                    have HOy : Hid (OwnInts (w8.drewN nq) wq.heap.size _ _) := HO.out.kept ((Ext.refl _).drewN _)
                    have hlw : wq.heap.size ≤ (w8.drewN nq).heap.size := HXy.out.size
                    go_wp2_with (at_builtin; refine wpList_append_int rfl (.tmp 141) (.tmp 143) rfl wq.heap.size (w8.drewN nq) _ _ _ rfl rfl HOy.out (by have := HLN.out; omega) hlw ?_)
                    intro v' w' hown' hg
                    rw [← HSN.out] at hown'
                    have hx' : Ext wq w' := HXy.out.grown hg (fun q hq => HOy.out.base q hq)
                    have HO' := Lib.hid hown'; have HX' := Lib.hid hx'
                    clear hown' hx' hg
                    go_wp2_with fail
                    exact ⟨⟨q + 1, by omega, by go_num, HX'.out, HO'.out⟩, by simp [intOf]; omega⟩
                    all_goals (exfalso; revert HSG; intro HSG; have hsg := HSG.out; simp_all)
                  | true =>
                    have HS : Hid (renL n p inv l = (-((pl : Int) + 1))) := by unfold Hid renL; rw [if_pos (by unfold renSign; rw [HSG.out, HYV.out]; rfl), HRV.out]
                    rw [HS.out] at HSN
                    go_wp2_with fail
                    refine HA.out.mono ?_
                    rintro r8 w8 ⟨rfl, rfl⟩
                    go_upto_region 22 with fail
                    go_quiet (fail)
                    have HXy : Hid (Ext wq (w8.drewN nq)) := HXq.out.drewN _
                    have HOy : Hid (OwnInts (w8.drewN nq) wq.heap.size _ _) := HO.out.kept ((Ext.refl _).drewN _)
                    have hlw : wq.heap.size ≤ (w8.drewN nq).heap.size := HXy.out.size
                    go_wp2_with (at_builtin; refine wpList_append_int rfl (.tmp 141) (.tmp 143) rfl wq.heap.size (w8.drewN nq) _ _ _ rfl rfl HOy.out (by have := HLN.out; omega) hlw ?_)
                    intro v' w' hown' hg
                    rw [← HSN.out] at hown'
                    have hx' : Ext wq w' := HXy.out.grown hg (fun q hq => HOy.out.base q hq)
                    have HO' := Lib.hid hown'; have HX' := Lib.hid hx'
                    clear hown' hx' hg
                    go_wp2_with fail
                    exact ⟨⟨q + 1, by omega, by go_num, HX'.out, HO'.out⟩, by simp [intOf]; omega⟩
                    all_goals (exfalso; revert HSG; intro HSG; have hsg := HSG.out; simp_all)
                · have hv2' : ¬ (v : Int) < (inv.length : Int) := by omega
                  have HYV : Hid (xorAt.inFirst' inv (absI l - 1).toNat = false) := by unfold Hid xorAt.inFirst'; rw [HVV.out, decide_eq_false (by omega)]; rfl
                  have HS : Hid (renL n p inv l = ((pl : Int) + 1)) := by unfold Hid renL; rw [if_neg (by unfold renSign; rw [HSG.out, HYV.out]; decide), HRV.out]
                  rw [HS.out] at HSN
                  go_wp2_with fail
                  refine HA.out.mono ?_
                  rintro r8 w8 ⟨rfl, rfl⟩
                  go_upto_region 22 with fail
                  go_quiet (fail)
                  have HXy : Hid (Ext wq (w8.drewN nq)) := HXq.out.drewN _
                  have HOy : Hid (OwnInts (w8.drewN nq) wq.heap.size _ _) := HO.out.kept ((Ext.refl _).drewN _)
                  have hlw : wq.heap.size ≤ (w8.drewN nq).heap.size := HXy.out.size
                  go_wp2_with (at_builtin; refine wpList_append_int rfl (.tmp 141) (.tmp 143) rfl wq.heap.size (w8.drewN nq) _ _ _ rfl rfl HOy.out (by have := HLN.out; omega) hlw ?_)
                  intro v' w' hown' hg
                  rw [← HSN.out] at hown'
                  have hx' : Ext wq w' := HXy.out.grown hg (fun q hq => HOy.out.base q hq)
                  have HO' := Lib.hid hown'; have HX' := Lib.hid hx'
                  clear hown' hx' hg
                  go_wp2_with fail
                  exact ⟨⟨q + 1, by omega, by go_num, HX'.out, HO'.out⟩, by simp [intOf]; omega⟩
                  all_goals (exfalso; revert HSG; intro HSG; have hsg := HSG.out; simp_all)
            · have hqc : q = c.length := by omega
              subst hqc
              clear hlq hq
              have HGr := Lib.hid (HG.out.later HXq.out)
              have hrw := HRI.out
              have HU : Hid (OwnInts wr (r + 1) _ _) := HO.out.mono hrw
              obtain ⟨u1, u2, u3, rfl⟩ := HU.out.isSl
              have HSL := Lib.hid HU.out.isSl
              have hsz : r + 1 ≤ wr.heap.size := lt_heap HGr.out.blk
              have hgs : gs.length ≤ 1000000 := by have h1 := HG.out.len; have h2 : (renTo n p inv cl i).length ≤ cl.length := by unfold renTo; simp; omega
                                                   omega
              obtain ⟨ga, gcp, rfl⟩ := HG.out.own.shape
              have k1 : wr.cell? ⟨r, 1, none⟩ = some (.slice ga gs.length gcp) := by rw [Lib.cell_of_heap HGr.out.blk]; rfl
              clear HO gc
              go_wp2_with (at_builtin; refine wpList_append_row rfl (.tmp 146) (.tmp 148) rfl (r + 1) wr _ gs (.slice u1 u2 u3) rfl rfl HGr.out.own HSL.out hgs hsz ?_)
              intro v' w5 ho hg
              obtain ⟨pa, pc, rfl⟩ := ho.shape
              have hrow : ∀ k, (Value.slice ga gs.length gcp).ownBlock = some k → r < k := fun k e => by have := (HGr.out.own.typed k e).1; omega
              have hb5 := (hg.block r hsz (fun e => by have := hrow r e.symm; omega)).trans HGr.out.blk
              have k5 : w5.cell? ⟨r, 1, none⟩ = some (.slice ga gs.length gcp) := by rw [Lib.cell_of_heap hb5]; rfl
              have f5 := Lib.frozen_of_heap hb5 1
              have HR5 := Lib.hid (HGr.out.add HU.out hg ho)
              have HE5 : Hid (Ext we (w5.setCell ⟨r, 1, none⟩ (.slice pa (gs ++ [Value.slice u1 u2 u3]).length pc))) :=
                ((HXi.out.trans HXq.out).grown hg fun k e => by have := hrow k e; have := HRZ.out; omega).setCell (p := ⟨r, 1, none⟩) (by have := HRZ.out; show we.heap.size ≤ r; omega) _
              rw [← HSUCC.out] at HR5
              clear ho hg hrow hb5 k1
              generalize hvv : (gs ++ [Value.slice u1 u2 u3]).length = L5 at *
              go_wp2_with fail
              exact ⟨⟨i + 1, by omega, by go_num, HE5.out, _, _, HR5.out⟩, by simp [intOf]; omega⟩
        · have hic : cl.length = i := by omega
          subst hic
          clear hlt hi
          obtain ⟨ga, gcp, rfl⟩ := HG.out.own.shape
          have hM : renTo n p inv cl cl.length = cl.map (·.map (renL n p inv)) := by unfold renTo; rw [List.take_length]
          have hlaw := ren_law (by' := p) HN0.out HVD.out vs inv
          rw [← hM] at hlaw
          have hgl : gs.length = (renTo n p inv cl cl.length).length := HG.out.len
          have htm : TameC n (renTo n p inv cl cl.length) := tame_of_valid hlaw.1 fun c hc => by
            rw [hM] at hc
            obtain ⟨d, hd, rfl⟩ := List.mem_map.1 hc
            have := HSM.out.2 d hd
            simp; omega
          have HLAW := Lib.hid hlaw; have HTG := Lib.hid htm
          have HLG : Hid (Lists wr (.slice ga gs.length gcp) (renTo n p inv cl cl.length)) := HG.out.lists
          have HBB : Hid (Bools wr (.slice (some ⟨bw, 0, none⟩) n n) (renW n p vs inv n)) := row_bools (renW_len _ _ _ _ _) (by omega) (HRW.out.of_block (HXi.out.block bw (by have h1 := HBR.out; have h2 := HRZ.out; omega)))
          have HE0 : Hid (∀ w', Ext wr w' → Calls Tryd.prog 15 #[.agg #[.int .i64 (n : Int), .slice ga gs.length gcp]] w' fun e w3 => e = .returned (.bool true) ∧ Ext w' w3) := fun w' he => by
            have := CValid_any n (renTo n p inv cl cl.length) _ w' ⟨_, rfl, HLG.out.ext he⟩ HTG.out
            rw [HLAW.out.1] at this; exact this
          have HE1 : Hid (∀ w', Ext wr w' → Calls Tryd.prog 16 #[.agg #[.int .i64 (n : Int), .slice ga gs.length gcp], .slice (some ⟨bw, 0, none⟩) n n] w' fun e w3 => e = .returned (.bool (evalC n cl vs)) ∧ Ext w' w3) := fun w' he => by
            have := CEval_any n (renTo n p inv cl cl.length) (renW n p vs inv n) _ _ w' ⟨_, rfl, HLG.out.ext he⟩ HTG.out (SliceAt.ext BoolAt.keeps HBB.out he)
            rw [HLAW.out.2] at this; exact this
          have HE2 : Hid (∀ w', Ext wr w' → Calls Tryd.prog 16 #[.agg #[.int .i64 (n : Int), .slice fa cl.length fc], .slice va vs.length vc] w' fun e w3 => e = .returned (.bool (evalC n cl vs)) ∧ Ext w' w3) := fun w' he => CEval_any n cl vs _ _ w' (HL4.out.ext (HXw.out.trans (HXi.out.trans he))) HTM.out (SliceAt.ext BoolAt.keeps HV4.out (HXw.out.trans (HXi.out.trans he)))
          have HCE : Hid (∀ w', Ext wr w' → w'.cell? ⟨b0, 0, none⟩ = some (.int .i64 (n : Int)) ∧ w'.cell? ⟨b0, 1, none⟩ = some (.slice fa cl.length fc) ∧ w'.cell? ⟨r, 0, none⟩ = some (.int .i64 (n : Int)) ∧ w'.cell? ⟨r, 1, none⟩ = some (.slice ga gs.length gcp)) := fun w' he =>
            ⟨(HXw.out.trans (HXi.out.trans he)).cell P0.out, (HXw.out.trans (HXi.out.trans he)).cell P1.out, he.cell (CnfAt.cells HG.out.blk).1, he.cell (CnfAt.cells HG.out.blk).2⟩
          have HXR := Lib.hid (HX4.out.trans (HXw.out.trans HXi.out))
          clear HLAW HTG hM hlaw hgl htm HLG HBB HG HRW HL4 HV4 HI4
          generalize evalC n cl vs = e0 at *
          go_upto_region 26 with fail
          go_region_held3 (fun w' => w'.cell? ⟨b0, 0, none⟩ = some (.int .i64 (n : Int)) ∧ w'.cell? ⟨b0, 1, none⟩ = some (.slice fa cl.length fc) ∧ w'.cell? ⟨r, 0, none⟩ = some (.int .i64 (n : Int)) ∧ w'.cell? ⟨r, 1, none⟩ = some (.slice ga gs.length gcp))
            ((first
              | assumption
              | (refine HCE.out _ ?_; repeat (first | exact Ext.refl _ | exact Y3.out | apply Ext.drew | apply Ext.alloc)
                 done)
              | (refine HCE.out _ ?_; repeat (first | exact Ext.refl _ | exact Y2.out | apply Ext.drew | apply Ext.alloc)
                 done)
              | (refine HCE.out _ ?_; repeat (first | exact Ext.refl _ | exact Y1.out | apply Ext.drew | apply Ext.alloc)
                 done)
              | (refine HCE.out _ ?_; repeat (first | exact Ext.refl _ | apply Ext.drew | apply Ext.alloc)
                 done)
              | fail))
            ((first
              | (go_at_call 16
                 have hg0 := Y2.out
                 clear hg0
                 refine (HE2.out _ (by repeat (first | exact Y2.out | apply Ext.drew | apply Ext.alloc))).mono ?_
                 rintro r y3 ⟨rfl, x3⟩
                 have Y3 : Hid (Ext wr y3) := Ext.trans (by repeat (first | exact Y2.out | apply Ext.drew | apply Ext.alloc)) x3
                 clear x3)
              | (go_at_call 16
                 have hg0 := Y1.out
                 clear hg0
                 refine (HE1.out _ (by repeat (first | exact Y1.out | apply Ext.drew | apply Ext.alloc))).mono ?_
                 rintro r y2 ⟨rfl, x2⟩
                 have Y2 : Hid (Ext wr y2) := Ext.trans (by repeat (first | exact Y1.out | apply Ext.drew | apply Ext.alloc)) x2
                 clear x2)
              | (go_at_call 15
                 refine (HE0.out _ (by repeat (first | exact Ext.refl _ | apply Ext.drew | apply Ext.alloc))).mono ?_
                 rintro r y1 ⟨rfl, x1⟩
                 have Y1 : Hid (Ext wr y1) := Ext.trans (by repeat (first | exact Ext.refl _ | apply Ext.drew | apply Ext.alloc)) x1
                 clear x1)
              | fail))
          have HXE := Lib.hid (HXR.out.trans Y3.out)
          go_wp2_with fail
          go_ret
          exact ⟨rfl, HXE.out⟩
end Go.Proofs.YtnkhaobokmmnjaaDoor

