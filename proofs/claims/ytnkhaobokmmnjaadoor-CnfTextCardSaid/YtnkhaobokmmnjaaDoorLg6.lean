/-
  The walk of CnfText.
-/
import Derived.Test.YtnkhaobokmmnjaaDoorLgL
import Derived.Test.YtnkhaobokmmnjaaDoorOpenN
import Derived.Test.YtnkhaobokmmnjaaDoorLgT
import Derived.Lib.AppendStr
import Derived.Laws.IdiomStrings
import Derived.Laws.BytesArg
namespace Go.Proofs.YtnkhaobokmmnjaaDoor
open Go.RowKit Go.Shelf
attribute [local go_sem] Oper.semAt_some

theorem byteKeeps : Keeps ByteAt := fun _ _ b o z hx h => ByteAt.keeps hx b o z h
theorem infoU8 : (Tryd.prog.info? 5).map (fun i => (i.zero, i.size, i.bytes)) = some (some (.int .u8 0), 1, 1) := by kernel_rfl
/-- Bytes of the call's own. -/
def OwnB (w : World) (base : Nat) (v : Value) (l : List UInt8) : Prop := w.ownsRow base 5 1 v l.length (l.map fun b => .int .u8 (b.toNat : Int))
theorem OwnB.nil (w : World) (base : Nat) : OwnB w base (.slice none 0 0) [] := ⟨rfl, .inl ⟨rfl, rfl⟩⟩
theorem OwnB.kept {w w' : World} {base : Nat} {v : Value} {l : List UInt8} (h : OwnB w base v l) (hx : Ext w w') : OwnB w' base v l := by
  obtain ⟨h1, h2⟩ := h
  refine ⟨h1, ?_⟩
  rcases h2 with h2 | ⟨g, cap, cur, hv, hg, hh, r⟩
  · exact .inl h2
  · refine .inr ⟨g, cap, cur, hv, hg, ?_, r⟩
    rw [hx.block g (lt_heap hh)]; exact hh
theorem OwnB.base {w : World} {base : Nat} {v : Value} {l : List UInt8} (h : OwnB w base v l) (k : Nat) (hk : v.ownBlock = some k) : base ≤ k := by
  rcases h.2 with ⟨rfl, _⟩ | ⟨g, cap, cur, rfl, hg, _⟩
  · cases hk
  · simp [Value.ownBlock] at hk; omega
theorem OwnB.shape {w : World} {base : Nat} {v : Value} {l : List UInt8} (h : OwnB w base v l) : ∃ a c, v = .slice a l.length c := by
  rcases h.2 with ⟨rfl, e⟩ | ⟨g, cap, cur, rfl, _⟩
  · exact ⟨_, _, by rw [e]⟩
  · exact ⟨_, _, rfl⟩
theorem OwnB.convert {w : World} {base : Nat} {v : Value} {l : List UInt8} (h : OwnB w base v l) : (Go.convert 33 9 v).run Tryd.prog w = .ok (.string ⟨l.toArray⟩) w := by
  have hs : Tryd.prog.underlying 33 = some (.slice 5) := Tryd.underlying33
  have he : Tryd.prog.underlying 5 = some (.int .u8) := Tryd.underlying5
  have hd : Tryd.prog.underlying 9 = some .string := Tryd.underlying9
  have h0 := h
  rcases h.2 with ⟨rfl, e⟩ | ⟨g, cap, cur, rfl, _⟩
  · obtain rfl : l = [] := List.length_eq_zero_iff.1 e
    rw [run_convert_bytes_nil w 33 5 hs he _ _ _ hd]; rfl
  · refine run_convert_bytes_back w 33 9 5 ⟨g, 0, none⟩ cap l hs he hd fun j hj => ?_
    have := World.ownsRow.cells h0 (g := g) rfl j (.int .u8 (l[j].toNat : Int)) (by simp [hj])
    exact this
theorem wpList_append_byte {ops : Array Oper} {rest : List Oper} {o : Oper} {a : Act} {Q : Exit → Act → World → Prop} (hgd : o.guard = none) (s x : Operand)
    (ho : o.op = .call { callee := .builtin .append, args := #[s, x], argTypes := #[33, 33] }) (base : Nat) (wr : World) (v : Value) (l : List UInt8) (n : UInt8) (z : Int) (hz : (n.toNat : Int) = z)
    (hs : a.eval s = v) (hx : a.eval x = .slice (some ⟨wr.heap.size, 0, none⟩) 1 1) (hown : OwnB wr base v l) (hl : l.length ≤ 1000000000) (hb : base ≤ wr.heap.size)
    (h : ∀ v' w', OwnB w' base v' (l ++ [n]) → wr.grownBy w' v.ownBlock → wpList Tryd.prog ops Q rest (a.put o.dst v') w') : wpList Tryd.prog ops Q (o :: rest) a (wr.alloc (.cells #[.int .u8 z] 5)) := by
  subst hz
  obtain ⟨i0, hi, hz0, hz1, hz2⟩ := info_parts infoU8
  refine wpList_append_own _ hgd s x 33 ho base 5 i0 (.int .u8 0) 1 1 Tryd.underlying33 hi hz0 hz1 hz2 rfl (by decide) v l.length _ hs (hown.kept ((Ext.refl wr).alloc _)) ⟨wr.heap.size, 0, none⟩ 1 1 [.int .u8 (n.toNat : Int)] hx rfl (cell_one_new _ _ _) ?_ ?_ ?_ ?_ ?_
  · intro u hu; simp at hu; subst hu; rfl
  · unfold maxLen; omega
  · omega
  · simp; omega
  · intro v' w' h1 h2 _
    exact h v' w' (by simpa [OwnB] using h1) (grown_alloc h2)
theorem wpList_append_bytes {ops : Array Oper} {rest : List Oper} {o : Oper} {a : Act} {w : World} {Q : Exit → Act → World → Prop} (hgd : o.guard = none) (s x : Operand)
    (ho : o.op = .call { callee := .builtin .append, args := #[s, x], argTypes := #[33, 9] }) (base : Nat) (v : Value) (l g : List UInt8)
    (hs : a.eval s = v) (hx : a.eval x = .string ⟨g.toArray⟩) (hown : OwnB w base v l) (hl : l.length ≤ 1000000000) (hg : g.length ≤ 1000) (hb : base ≤ w.heap.size)
    (h : ∀ v' w', OwnB w' base v' (l ++ g) → w.grownBy w' v.ownBlock → wpList Tryd.prog ops Q rest (a.put o.dst v') w') : wpList Tryd.prog ops Q (o :: rest) a w := by
  obtain ⟨i0, hi, hz0, hz1, hz2⟩ := info_parts infoU8
  have hsz : (⟨g.toArray⟩ : ByteArray).size = g.length := by show g.toArray.size = _; simp
  refine Lib.wpList_append_own_string w hgd s x 33 9 ho base 5 i0 Tryd.underlying33 Tryd.underlying9 hi hz0 hz1 hz2 v l.length _ hs hown ⟨g.toArray⟩ hx (by rw [hsz]; unfold maxLen; omega) (by rw [hsz]; omega) hb fun v' w' h1 h2 _ => ?_
  rw [hsz] at h1
  refine h v' w' ?_ h2
  unfold OwnB
  rw [List.length_append, List.map_append]
  exact h1
def hdTo (t : List UInt8) (i : Nat) : Bool := (t.take i).all fun x => !(x == 10)
def layTo (lay : List Int) (t : List UInt8) (i : Nat) : List UInt8 := layB (gapAt lay) true 0 (t.take i)
theorem bytes_at {w : World} {a : Option Addr} {n c : Nat} {l : List Int} (h : BytesI w (.slice a n c) l) {k : Nat} (hk : k < l.length) : ∃ b o, a = some ⟨b, o, none⟩ ∧ w.cell? ⟨b, o + k, none⟩ = some (.int .u8 l[k]) ∧ 0 ≤ l[k] ∧ l[k] ≤ 255 := by
  rcases h with ⟨_, e⟩ | ⟨b, o, cap, e, _, hc⟩
  · rw [e] at hk; simp at hk
  cases e
  have := hc k hk
  rw [Nat.mul_one] at this
  exact ⟨b, o, rfl, this.1, this.2⟩
theorem hdTo_succ {t : List UInt8} {i : Nat} (h : i < t.length) : hdTo t (i + 1) = (hdTo t i && !(t[i] == 10)) := by
  unfold hdTo; rw [List.take_succ_eq_append_getElem h, List.all_append]; simp
theorem layTo_succ {lay : List Int} {t : List UInt8} {i : Nat} (h : i < t.length) : layTo lay t (i + 1) = layTo lay t i ++ (if t[i] = 32 ∧ hdTo t i = false then gapAt lay i else [t[i]]) := by
  unfold layTo
  rw [List.take_succ_eq_append_getElem h, layB_append]
  congr 1
  rw [layB, layB, List.append_nil, List.length_take, Nat.min_eq_left (by omega), Nat.zero_add, Bool.true_and]
  rfl
theorem layTo_len (lay : List Int) (t : List UInt8) (i : Nat) : (layTo lay t i).length ≤ 13 * t.length := by
  refine Nat.le_trans (layB_len lay (t.take i) true 0) ?_
  rw [List.length_take]; omega
/-- The gaps. -/
def gapV : Array Value := #[.string ⟨#[32]⟩, .string ⟨#[32, 32]⟩, .string ⟨#[9]⟩, .string ⟨#[10]⟩, .string ⟨#[13, 10]⟩, .string ⟨#[10, 99, 32, 112, 32, 99, 110, 102, 32, 48, 32, 48, 10]⟩, .string ⟨#[10, 10]⟩]
theorem gapV_at (lay : List Int) (i : Nat) : gapV[gapK lay i]? = some (.string ⟨(gapAt lay i).toArray⟩) := by
  have h := gapK_lt lay i
  unfold gapAt
  generalize gapK lay i = k at *
  have : k = 0 ∨ k = 1 ∨ k = 2 ∨ k = 3 ∨ k = 4 ∨ k = 5 ∨ k = 6 := by omega
  rcases this with rfl | rfl | rfl | rfl | rfl | rfl | rfl <;> rfl

set_option maxRecDepth 100000 in
set_option maxHeartbeats 8000000 in
theorem CnfText_any (vars : Int) (cl : List (List Int)) (lay : List Int) (vf vv : Value) (w : World) (hf : CnfV w vf vars cl) (hn : CnfN vars cl) (hv : BytesI w vv lay) (hT : CTab w) :
    Calls Tryd.prog 5 #[vf, vv] w fun r w' => r = .returned (.bool true) ∧ Ext w w' := by
  obtain ⟨fa, fc, rfl, hcl⟩ := hf.shape
  obtain ⟨va, vc, rfl⟩ := SliceAt.shape hv
  obtain ⟨W, hW⟩ : ∃ W, W = w.alloc (.cells #[.int .i64 vars, .slice fa cl.length fc] 24) := ⟨_, rfl⟩
  have hx : Ext w W := by rw [hW]; exact (Ext.refl w).alloc _
  have hA : W.heap[w.heap.size]? = some (.cells #[.int .i64 vars, .slice fa cl.length fc] 24 (0, 0)) := by rw [hW]; exact heap_new _ _
  have HF := Lib.hid hf; have HX := Lib.hid hx; have HW := Lib.hid hW; have HN := Lib.hid hn; have HV := Lib.hid hv; have HT := Lib.hid (hT.ext hx); have HT0 := Lib.hid hT; have HA := Lib.hid (CnfAt.cells hA)
  have hvl := SliceAt.len_le hv
  clear hf hx hW hn hv hT hcl hA
  go_enter Tryd.func5, Tryd.ntmps5
  go_upto_region 1 with fail
  rw [← HW.out]
  clear HW
  generalize w.heap.size = b0 at *
  go_wp2_with fail
  refine (head_any W HT.out).mono ?_
  rintro r w2 ⟨rfl, x2⟩
  have HX2 := Lib.hid x2
  obtain ⟨p0, p1⟩ := HA.out
  replace p0 := x2.cell p0; replace p1 := x2.cell p1
  clear x2
  go_wp2_with fail
  refine (LSmall_any vars cl _ w2 (HF.out.ext (HX.out.trans HX2.out))).mono ?_
  rintro r w3 ⟨rfl, x3⟩
  have HX3 := Lib.hid (HX2.out.trans x3)
  replace p0 := x3.cell p0; replace p1 := x3.cell p1
  clear x3
  cases hsm : smallC cl with
  | false =>
    go_wp2_with fail
    go_ret
    exact ⟨rfl, HX.out.trans HX3.out⟩
  | true =>
  have HTM := Lib.hid (HN.out.tame hsm)
  have HSM := Lib.hid (small_len hsm)
  clear hsm
  go_wp2_with fail
  refine (RValid_any vars cl _ w3 (HF.out.ext (HX.out.trans HX3.out)) HTM.out).mono ?_
  rintro r w4 ⟨rfl, x4⟩
  have HX4 := Lib.hid (HX.out.trans (HX3.out.trans x4))
  replace p0 := x4.cell p0; replace p1 := x4.cell p1
  clear x4
  cases hvd : validC vars cl with
  | false =>
    go_wp2_with fail
    go_ret
    exact ⟨rfl, HX4.out⟩
  | true =>
  have HVD := Lib.hid hvd
  clear hvd
  have HL4 := Lib.hid (HF.out.ext HX4.out)
  have HV4 := Lib.hid (SliceAt.ext byteKeeps HV.out HX4.out)
  have HTW := Lib.hid (HT0.out.ext HX4.out)
  have P0 := Lib.hid p0; have P1 := Lib.hid p1
  have hvr := validC_vars HVD.out
  have htl := textC_len hvr HSM.out.1 fun c hc => ⟨HSM.out.2 c hc, fun x hx => (lit_in hvr.2 (validC_lit HVD.out hc hx)).2⟩
  clear HF HV HA HT HX HX2 HX3 HT0 hvl
  go_wp2_with fail
  refine (CText_any vars cl _ w4 HL4.out HTM.out HVD.out (by omega) HTW.out.pow).mono ?_
  rintro r w5 ⟨rfl, x5⟩
  have HPAR := Lib.hid (parse_textC HVD.out)
  have HASC := Lib.hid (textC_ascii vars cl)
  have HLAY := Lib.hid (parse_layC HVD.out (gapAt_mem lay))
  have HX5 := Lib.hid x5
  clear x5 hvr
  generalize textC vars cl = t at *
  go_wp2_with fail
  refine (Parse_any t w5 (by omega) HASC.out (HTW.out.ext HX5.out)).mono ?_
  rintro r w6 ⟨x6, hp⟩
  rw [HPAR.out] at hp
  obtain ⟨vg, rfl, hg⟩ := hp
  obtain ⟨ga, gc, rfl, hgl⟩ := hg.shape
  have HG6 := Lib.hid hg; have HX6 := Lib.hid (HX5.out.trans x6)
  clear x6 hg hgl p0 p1 HX5
  go_upto_region 6 with fail
  have x7 : Ext w6 (w6.alloc (.cells #[.int .i64 vars, .slice ga cl.length gc] 24)) := (Ext.refl _).alloc _
  have GH := Lib.hid (CnfAt.cells (heap_new w6 (.cells #[.int .i64 vars, .slice ga cl.length gc] 24)))
  have HX7 := Lib.hid (HX6.out.trans x7); have HG7 := Lib.hid (HG6.out.ext x7)
  clear x7 HX6 HG6
  generalize w6.alloc (.cells #[.int .i64 vars, .slice ga cl.length gc] 24) = w7 at *
  generalize w6.heap.size = bg at *
  obtain ⟨q0, q1⟩ := GH.out
  have p0 := HX7.out.cell P0.out; have p1 := HX7.out.cell P1.out
  go_wp2_with fail
  refine (RSame_any vars vars cl cl _ _ w7 HG7.out (HL4.out.ext HX7.out) (fun c hc => by have := HSM.out.2 c hc; omega)).mono ?_
  rintro r w8 ⟨rfl, x8⟩
  rw [show (decide (vars = vars ∧ cl = cl)) = true from by simp]
  have HX8 := Lib.hid (HX7.out.trans x8)
  clear x8 p0 p1 q0 q1 GH HG7 HX7
  go_upto_region 9 with fail
  have x9 : Ext w8 (w8.alloc (.cells gapV 9)) := (Ext.refl _).alloc _
  have hg9 : (w8.alloc (.cells gapV 9)).heap[w8.heap.size]? = some (.cells gapV 9 (0, 0)) := heap_new _ _
  have HX9 := Lib.hid (HX8.out.trans x9); have HG9 := Lib.hid hg9
  have HNW : w8.alloc (.cells gapV 9) = w8.alloc (.cells gapV 9) := rfl
  unfold gapV at HNW
  generalize hw9 : w8.alloc (.cells gapV 9) = w9 at *
  unfold gapV at hw9
  rw [hw9]
  clear hw9 HNW x9 hg9 HX8
  generalize w8.heap.size = b9 at *
  go_wp2_with fail
  go_loopw [10, 11, 12] (fun bv hv iv wr => ∃ i : Nat, i ≤ t.length ∧ iv = .int .i64 i ∧ hv = .bool (hdTo t i) ∧ Ext w9 wr ∧ OwnB wr w9.heap.size bv (layTo lay t i)) (fun _ _ iv _ => t.length - (intOf iv).toNat)
  case atStart => exact ⟨0, Nat.zero_le _, rfl, rfl, Ext.refl _, OwnB.nil _ _⟩
  case round =>
    obtain ⟨i, hi, rfl, rfl, hX, hO⟩ := hrel
    have HXr := Lib.hid hX; have HO := Lib.hid hO; clear hX hO
    have hlw : w9.heap.size ≤ wr.heap.size := HXr.out.size
    by_cases hlt : i < t.length
    · have hlt' : (i : Int) < (t.length : Int) := by omega
      have i0 : (0 : Int) ≤ (i : Int) := by omega
      have HLS := Lib.hid (layTo_succ (lay := lay) hlt); have HHS := Lib.hid (hdTo_succ hlt)
      have HLL : Hid ((layTo lay t i).length ≤ 1000000) := by have := layTo_len lay t i; unfold Hid; omega
      have hbi : ∀ h, (⟨t.toArray⟩ : ByteArray)[i]'h = t[i] := fun h => by show t.toArray[i] = t[i]; simp
      have HBI := Lib.hid hbi
      by_cases c32 : t[i] = 32
      · have b0 : (((⟨t.toArray⟩ : ByteArray)[i]'(by show i < t.toArray.size; simpa using hlt)).toNat : Int) = 32 := by rw [hbi, c32]; rfl
        have b10 : ¬ (((⟨t.toArray⟩ : ByteArray)[i]'(by show i < t.toArray.size; simpa using hlt)).toNat : Int) = 10 := by rw [hbi, c32]; decide
        have h10 : (t[i] == 10) = false := by rw [c32]; rfl
        rw [h10] at HHS
        cases hhd : hdTo t i with
        | true =>
          have HHV : Hid (hdTo t (i + 1) = true) := by unfold Hid; rw [HHS.out, hhd]; rfl
          rw [if_neg (by rw [hhd]; simp)] at HLS
          rw [c32] at HLS
          clear hhd c32 h10 hbi
          go_wp2_with (at_builtin; refine wpList_append_byte rfl (.tmp 74) (.tmp 78) rfl w9.heap.size wr _ _ 32 _ rfl rfl rfl HO.out (by have := HLL.out; omega) hlw ?_)
          intro v' w' hown' hg
          rw [← HLS.out] at hown'
          have hx' : Ext w9 w' := HXr.out.grown hg (fun q hq => HO.out.base q hq)
          have HO' := Lib.hid hown'; have HX' := Lib.hid hx'
          clear hown' hx' hg
          go_wp2_with fail
          exact ⟨⟨i + 1, by omega, by go_num, by rw [HHV.out], HX'.out, HO'.out⟩, by simp [intOf]; omega⟩
        | false =>
          have HHV : Hid (hdTo t (i + 1) = false) := by unfold Hid; rw [HHS.out, hhd]; rfl
          rw [if_pos ⟨c32, hhd⟩] at HLS
          clear hhd c32 h10 hbi
          have gk := gapV_at lay i
          have hk7 := gapK_lt lay i
          by_cases hly : i < lay.length
          · have hly' : (i : Int) < (lay.length : Int) := by omega
            obtain ⟨b3, o3, h3, g3, z0, z1⟩ := bytes_at (SliceAt.ext byteKeeps HV4.out (HX9.out.trans HXr.out)) hly
            cases h3
            have hz : gapK lay i = lay[i].toNat % 7 := by unfold gapK; rw [if_pos hly]; simp [List.getD, hly]
            generalize gapK lay i = kk at *
            generalize lay[i] = z at *
            have ez : wrap64 z = z := by unfold wrap64; omega
            have em : z.tmod 7 = (kk : Int) := by rw [Int.tmod_eq_emod_of_nonneg z0]; omega
            have k0 : (0 : Int) ≤ (kk : Int) := by omega
            have k7 : (kk : Int) < 7 := by omega
            have g4 : wr.cell? ⟨b9, kk, none⟩ = some (.string ⟨(gapAt lay i).toArray⟩) := HXr.out.cell (by simp only [World.cell?, HG9.out]; exact gk)
            clear hz gk
            go_wp2_with (at_builtin; refine wpList_append_bytes rfl (.tmp 68) (.tmp 72) rfl w9.heap.size _ _ (gapAt lay i) rfl rfl HO.out (by have := HLL.out; omega) (by have := (gap_small _ (gapAt_mem lay i)).1; omega) hlw ?_)
            intro v' w' hown' hg
            rw [← HLS.out] at hown'
            have hx' : Ext w9 w' := HXr.out.grown hg (fun q hq => HO.out.base q hq)
            have HO' := Lib.hid hown'; have HX' := Lib.hid hx'
            clear hown' hx' hg
            go_wp2_with fail
            exact ⟨⟨i + 1, by omega, by go_num, by rw [HHV.out], HX'.out, HO'.out⟩, by simp [intOf]; omega⟩
          · have hly' : ¬ (i : Int) < (lay.length : Int) := by omega
            have hz : gapK lay i = 0 := by unfold gapK; rw [if_neg hly]
            rw [hz] at gk
            have g4 : wr.cell? ⟨b9, 0, none⟩ = some (.string ⟨(gapAt lay i).toArray⟩) := HXr.out.cell (by simp only [World.cell?, HG9.out]; exact gk)
            clear hz gk hk7
            go_wp2_with (at_builtin; refine wpList_append_bytes rfl (.tmp 68) (.tmp 72) rfl w9.heap.size _ _ (gapAt lay i) rfl rfl HO.out (by have := HLL.out; omega) (by have := (gap_small _ (gapAt_mem lay i)).1; omega) hlw ?_)
            intro v' w' hown' hg
            rw [← HLS.out] at hown'
            have hx' : Ext w9 w' := HXr.out.grown hg (fun q hq => HO.out.base q hq)
            have HO' := Lib.hid hown'; have HX' := Lib.hid hx'
            clear hown' hx' hg
            go_wp2_with fail
            exact ⟨⟨i + 1, by omega, by go_num, by rw [HHV.out], HX'.out, HO'.out⟩, by simp [intOf]; omega⟩
      · have b0 : ¬ (((⟨t.toArray⟩ : ByteArray)[i]'(by show i < t.toArray.size; simpa using hlt)).toNat : Int) = 32 := by
          rw [hbi]; intro e; exact c32 (UInt8.toNat_inj.1 (by show t[i].toNat = 32; omega))
        rw [if_neg (fun h => c32 h.1)] at HLS
        cases hhd : hdTo t i with
        | true =>
          by_cases c10 : t[i] = 10
          · have b10 : (((⟨t.toArray⟩ : ByteArray)[i]'(by show i < t.toArray.size; simpa using hlt)).toNat : Int) = 10 := by rw [hbi, c10]; rfl
            have HHV : Hid (hdTo t (i + 1) = false) := by unfold Hid; rw [HHS.out, hhd, c10]; rfl
            rw [c10] at HLS
            clear hhd c32 hbi c10
            go_wp2_with (at_builtin; refine wpList_append_byte rfl (.tmp 74) (.tmp 78) rfl w9.heap.size wr _ _ 10 _ rfl rfl rfl HO.out (by have := HLL.out; omega) hlw ?_)
            intro v' w' hown' hg
            rw [← HLS.out] at hown'
            have hx' : Ext w9 w' := HXr.out.grown hg (fun q hq => HO.out.base q hq)
            have HO' := Lib.hid hown'; have HX' := Lib.hid hx'
            clear hown' hx' hg
            go_wp2_with fail
            exact ⟨⟨i + 1, by omega, by go_num, by rw [HHV.out], HX'.out, HO'.out⟩, by simp [intOf]; omega⟩
          · have b10 : ¬ (((⟨t.toArray⟩ : ByteArray)[i]'(by show i < t.toArray.size; simpa using hlt)).toNat : Int) = 10 := by
              rw [hbi]; intro e; exact c10 (UInt8.toNat_inj.1 (by show t[i].toNat = 10; omega))
            have HHV : Hid (hdTo t (i + 1) = true) := by unfold Hid; rw [HHS.out, hhd, beq_eq_false_iff_ne.2 c10]; rfl
            clear hhd c32 hbi c10
            go_wp2_with (at_builtin; refine wpList_append_byte rfl (.tmp 74) (.tmp 78) rfl w9.heap.size wr _ _ _ _ rfl rfl rfl HO.out (by have := HLL.out; omega) hlw ?_)
            intro v' w' hown' hg
            rw [HBI.out, ← HLS.out] at hown'
            have hx' : Ext w9 w' := HXr.out.grown hg (fun q hq => HO.out.base q hq)
            have HO' := Lib.hid hown'; have HX' := Lib.hid hx'
            clear hown' hx' hg
            go_wp2_with fail
            exact ⟨⟨i + 1, by omega, by go_num, by rw [HHV.out]; exact congrArg Value.bool (bne_iff_ne.2 b10), HX'.out, HO'.out⟩, by simp [intOf]; omega⟩
        | false =>
          have HHV : Hid (hdTo t (i + 1) = false) := by unfold Hid; rw [HHS.out, hhd]; rfl
          clear hhd c32 hbi
          go_wp2_with (at_builtin; refine wpList_append_byte rfl (.tmp 74) (.tmp 78) rfl w9.heap.size wr _ _ _ _ rfl rfl rfl HO.out (by have := HLL.out; omega) hlw ?_)
          intro v' w' hown' hg
          rw [HBI.out, ← HLS.out] at hown'
          have hx' : Ext w9 w' := HXr.out.grown hg (fun q hq => HO.out.base q hq)
          have HO' := Lib.hid hown'; have HX' := Lib.hid hx'
          clear hown' hx' hg
          go_wp2_with fail
          exact ⟨⟨i + 1, by omega, by go_num, by rw [HHV.out], HX'.out, HO'.out⟩, by simp [intOf]; omega⟩
    · have hil : i = t.length := by omega
      subst hil
      have HTL : Hid (layTo lay t t.length = layB (gapAt lay) true 0 t) := by unfold Hid layTo; rw [List.take_length]
      rw [HTL.out] at HO
      have hll := layB_len lay t true 0
      have HA2 := Lib.hid (layB_ascii lay t true 0 HASC.out)
      clear hlt hi HTL
      generalize layB (gapAt lay) true 0 t = u at *
      obtain ⟨oa, oc, rfl⟩ := HO.out.shape
      have hcv := HO.out.convert
      have hadd : ∀ W : World, (Op.stringOp .add ⟨#[99, 10, 10]⟩ ⟨u.toArray⟩).run Tryd.prog W = .ok (.string ⟨([99, 10, 10] ++ u).toArray⟩) W := fun W => run_string_add_lists W [99, 10, 10] u (by simp) (by omega)
      go_wp2_with fail
      have HHL : Hid (parseF (99 :: 10 :: 10 :: u) = .ok (vars, cl)) := HLAY.out
      refine (Parse_any (99 :: 10 :: 10 :: u) wr (by simp; omega) (by
        intro x hx
        simp only [List.mem_cons] at hx
        rcases hx with rfl | rfl | rfl | hx
        · decide
        · decide
        · decide
        · exact HA2.out x hx) (HTW.out.ext (HX9.out.trans HXr.out))).mono ?_
      rintro r w11 ⟨x11, hp⟩
      rw [HHL.out] at hp
      obtain ⟨vh, rfl, hh⟩ := hp
      obtain ⟨ha, hc, rfl, hhl⟩ := hh.shape
      have HH11 := Lib.hid hh; have HX11 := Lib.hid ((HX9.out.trans HXr.out).trans x11)
      clear x11 hh hhl hcv hadd
      go_upto_region 22 with fail
      have x12 : Ext w11 (w11.alloc (.cells #[.int .i64 vars, .slice ha cl.length hc] 24)) := (Ext.refl _).alloc _
      have GH := Lib.hid (CnfAt.cells (heap_new w11 (.cells #[.int .i64 vars, .slice ha cl.length hc] 24)))
      have HX12 := Lib.hid (HX11.out.trans x12); have HH12 := Lib.hid (HH11.out.ext x12)
      clear x12 HX11 HH11
      generalize w11.alloc (.cells #[.int .i64 vars, .slice ha cl.length hc] 24) = w12 at *
      generalize w11.heap.size = bh at *
      obtain ⟨q0, q1⟩ := GH.out
      have p0 := HX12.out.cell P0.out; have p1 := HX12.out.cell P1.out
      go_wp2_with fail
      refine (RSame_any vars vars cl cl _ _ w12 HH12.out (HL4.out.ext HX12.out) (fun c hc => by have := HSM.out.2 c hc; omega)).mono ?_
      rintro r w13 ⟨rfl, x13⟩
      rw [show (decide (vars = vars ∧ cl = cl)) = true from by simp]
      have HXE := Lib.hid (HX4.out.trans (HX12.out.trans x13))
      clear x13
      go_wp2_with fail
      go_ret
      exact ⟨rfl, HXE.out⟩
theorem CnfText_card (vars : Int) (cl : List (List Int)) (lay : List Int) (vf vv : Value) (w : World) (hf : CnfI w vf vars cl) (hv : BytesI w vv lay) (hT : CTab w) :
    Calls Tryd.prog 5 #[vf, vv] w fun r w' => r = .returned (.bool true) ∧ Ext w w' := CnfText_any vars cl lay vf vv w hf.1 hf.2 hv hT
end Go.Proofs.YtnkhaobokmmnjaaDoor

