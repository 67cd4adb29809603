/-
  The iterator over the states of a side.
  The walk of hint.clone.
  The plain laws of states' numbers: the number of State, the values of State.
  The value of a tree over runs: the leaf of the first run whose last value is not below the cell's. No program in sight.
-/
import Derived.Test.YtlcgbdjmlnjhcaaGreatDoorG28
import Derived.Test.YtlcgbdjmlnjhcaaGreatDoorG10
import Derived.Test.YtlcgbdjmlnjhcaaGreatDoorG24
import Derived.RangeFuncWrites
import Derived.Shelf.RegionOpen
import Derived.OwnWalkIn
import Derived.TacticsInMore
import Derived.LoopNIn
import Derived.LoopIn
import Derived.Deep.LoopGhost
import Derived.Test.YtlcgbdjmlnjhcaaGreatDoorG18
import Derived.Test.YtlcgbdjmlnjhcaaGreatDoorG15
import Derived.Test.YtlcgbdjmlnjhcaaGreatDoorG00
namespace Go.Proofs.YtlcgbdjmlnjhcaaGreatDoor
open Go.RowKit Go.Shelf
attribute [local go_sem] Oper.semAt_some

/-- A state that is handed over: its number and the block of its row. -/
structure StX where
  n : Nat
  g : Nat
def encSt (x : StX) : Array Value := #[.int .i64 (x.n : Nat), .slice (some ⟨x.g, 0, none⟩) 32 32]
/-- A side in a block. -/
def SideAt (l ws : List Int) (b : Nat) (step : Bool) (Bx : Nat) (w : World) : Prop :=
  ∃ va vb, w.heap[Bx]? = some (.cells #[va, vb, .int .i64 (b : Nat), .bool step] 66 (0, 0)) ∧ Ints w va l ∧ Ints w vb ws
theorem SideAt.ext {l ws : List Int} {b : Nat} {step : Bool} {Bx : Nat} {w w' : World} (h : SideAt l ws b step Bx w) (hx : Ext w w') : SideAt l ws b step Bx w' := by
  obtain ⟨va, vb, h1, h2, h3⟩ := h
  exact ⟨va, vb, (hx.block _ (lt_heap h1)).trans h1, h2.ext hx, h3.ext hx⟩
def goodSt (l ws : List Int) (M : Nat) (b : Nat) (x : StX) (w : World) : Prop := x.n < M ∧ OwnInts w b (.slice (some ⟨x.g, 0, none⟩) 32 32) (stN l ws x.n)
theorem goodSt.keep {l ws : List Int} {M b : Nat} {x : StX} {A B : World} (h : goodSt l ws M b x A) (hk : KeepsX (fun _ => True) A B) : goodSt l ws M b x B := by
  refine ⟨h.1, h.2.keep fun k e => ?_⟩
  obtain ⟨cs, hc⟩ := h.2.typedB k e
  rw [hc]; exact hk.same _ _ _ _ trivial hc
theorem blocks4 {w : World} {R : Nat} {x y z u : Value} {t : TypeId} (h : w.heap[R]? = some (.cells #[x, y, z, u] t (0, 0))) : w.cell? ⟨R, 0, none⟩ = some x ∧ w.cell? ⟨R, 1, none⟩ = some y ∧ w.cell? ⟨R, 2, none⟩ = some z ∧ w.cell? ⟨R, 3, none⟩ = some u := by
  refine ⟨?_, ?_, ?_, ?_⟩ <;> (rw [Lib.cell_of_heap h]; rfl)

theorem OwnInts.fresh32 (w : World) : OwnInts (w.alloc (.cells ints32 3)) w.heap.size (.slice (some ⟨w.heap.size, 0, none⟩) 32 32) zeros32 :=
  ⟨by simp, .inr ⟨w.heap.size, 32, ints32, rfl, Nat.le_refl _, heap_new _ _, by simp [zeros32], by unfold maxLen; omega, rfl, rfl⟩⟩

set_option maxRecDepth 100000 in
set_option maxHeartbeats 4000000 in
theorem states1_gives (n : Nat) (hn : 1 ≤ n) (l ws : List Int) (b : Nat) (step : Bool) (Bx : Nat) (w0 : World) (hs : smallB l ws = true) (hb : sumI ws = (b : Int)) :
    GivesS Fence.wide n Tryz.prog 65 #[.pointer (some ⟨Bx, 0, none⟩)] encSt (fun _ _ => False) (SideAt l ws b step Bx) (goodSt l ws (2 ^ b)) (fun xs => xs.map StX.n = List.range (2 ^ b)) (fun pre => ∃ m, m < 2 ^ b ∧ pre.map StX.n = List.range (m + 1)) (2 ^ b) w0 := by
  intro lp J Jx W hW hJ hInv hY h0
  obtain ⟨hsh, hwd, hs0, hs12⟩ := small_sum hs
  obtain ⟨heq, _, hin⟩ := shape_iff.1 hsh
  obtain ⟨M, hM⟩ : ∃ M, M = 2 ^ b := ⟨_, rfl⟩
  have hb12 : b ≤ 12 := by omega
  have hM4 : M ≤ 4096 := by
    have := Nat.pow_le_pow_right (show 0 < 2 by decide) hb12
    rw [hM]; simpa using this
  have hsw : wrap64 (2 ^ b) = (M : Int) := by
    have h1 : (2 : Int) ^ b = ((2 ^ b : Nat) : Int) := by push_cast; rfl
    rw [h1, ← hM]; unfold wrap64; omega
  have hmb : min b 64 = b := by omega
  have HST : Hid (∀ k : Nat, stN l ws k = (stTo l ws (k : Int) zeros32 l.length).2) := fun k => by unfold stN stateS; rw [hs]; rfl
  rw [← hM] at hY ⊢
  have HEQ := Lib.hid heq; have HIN := Lib.hid hin; have HJ := Lib.hid hJ; have HINV := Lib.hid hInv; have HY := Lib.hid hY; have H0 := Lib.hid h0; have HM4 := Lib.hid hM4; have HSZ := Lib.hid (Nat.le_refl W.heap.size)
  have hI0 := hInv _ _ h0
  obtain ⟨va, vb, hB, hA1, hA2⟩ := hI0
  obtain ⟨c0, c1, c2, c3⟩ := blocks4 hB
  clear heq hin hJ hInv hY h0 hM hM4 hs hsh hwd hs0 hs12 hb hW hB hA1 hA2
  refine callsIn_of_wp Tryz.func65 rfl trivial ?_ rfl
  simp only [Tryz.ntmps65, List.size_toArray, List.length_cons, List.length_nil, Nat.reduceAdd, Nat.reduceSub, Array.replicate_succ, Array.replicate_zero, List.push_toArray, List.append_toArray, List.nil_append, List.cons_append]
  gi_wp2
  gi_loopw [12] (fun p wr => ∃ (k : Nat) (pre : List StX), k ≤ M ∧ p = .int .i64 k ∧ pre.map StX.n = List.range k ∧ J pre wr ∧ W.heap.size ≤ wr.heap.size) (fun p _ => M - (intOf p).toNat)
  case atStart => exact ⟨0, [], Nat.zero_le _, rfl, rfl, H0.out, Nat.le_refl _⟩
  case round =>
    clear c0 c1 c2 c3 hmb hsw hb12
    obtain ⟨k, pre, hk, rfl, hpre, hJ, hsz⟩ := hrel
    have HJr := Lib.hid hJ; have HPRE := Lib.hid hpre; have HZr := Lib.hid hsz
    clear hJ hpre hsz
    generalize wr = wo at *
    by_cases hlt : k < M
    · have hlt' : (k : Int) < (M : Int) := by omega
      obtain ⟨va, vb, hB, hA1, hA2⟩ := HINV.out _ _ HJr.out
      obtain ⟨a1, d1, rfl⟩ := hA1.shape
      obtain ⟨a2, d2, rfl⟩ := hA2.shape
      have HB := Lib.hid hB; have HA1 := Lib.hid hA1; have HA2 := Lib.hid hA2
      have hln := SliceAt.len_le hA1
      clear hB hA1 hA2
      have hmk := makeState32
      gi_upto_region 4 with fail
      clear hmk
      have hx0 : Ext wo (wo.alloc (.cells ints32 3)) := (Ext.refl wo).alloc _
      have hrow : OwnInts (wo.alloc (.cells ints32 3)) wo.heap.size (.slice (some ⟨wo.heap.size, 0, none⟩) 32 32) zeros32 := OwnInts.fresh32 wo
      have HX0 := Lib.hid hx0; have HROW := Lib.hid hrow
      clear hx0 hrow
      generalize wo.alloc (.cells ints32 3) = w1 at *
      generalize hg : wo.heap.size = g at *
      have HG := Lib.hid hg
      clear hg
      have HB1 : Hid (w1.heap[Bx]? = some (.cells #[.slice a1 l.length d1, .slice a2 ws.length d2, .int .i64 (b : Nat), .bool step] 66 (0, 0))) := (HX0.out.block _ (lt_heap HB.out)).trans HB.out
      obtain ⟨c0, c1, c2, c3⟩ := blocks4 HB1.out
      gi_wp2
      gi_loopw [5, 21] (fun rv iv wr => ∃ i : Nat, i ≤ l.length ∧ iv = .int .i64 i ∧ rv = .int .i64 (stTo l ws (k : Int) zeros32 i).1 ∧ Ext wo wr ∧ (stTo l ws (k : Int) zeros32 i).2.length = 32 ∧ OwnInts wr g (.slice (some ⟨g, 0, none⟩) 32 32) (stTo l ws (k : Int) zeros32 i).2) (fun _ iv _ => l.length - (intOf iv).toNat)
      case atStart => exact ⟨0, Nat.zero_le _, rfl, rfl, HX0.out, by simp [stTo, zeros32], HROW.out⟩
      case round =>
        clear c0 c1 c2 c3
        obtain ⟨i, hi, rfl, rfl, hX, hl32, hO⟩ := hrel
        have HXi := Lib.hid hX; have HOi := Lib.hid hO; have HL32 := Lib.hid hl32
        clear hX hO hl32
        have HBi : Hid (wo.heap[Bx]? = some (.cells #[.slice a1 l.length d1, .slice a2 ws.length d2, .int .i64 (b : Nat), .bool step] 66 (0, 0))) := HB.out
        by_cases hlt2 : i < l.length
        · have hlt2w : i < ws.length := by have := HEQ.out; omega
          rcases HA1.out with ⟨_, e⟩ | ⟨b1, o1, cap1, e, _, hcl⟩
          · rw [e] at hlt2; simp at hlt2
          cases e
          rcases HA2.out with ⟨_, e⟩ | ⟨b2, o2, cap2, e, _, hcl2⟩
          · rw [e] at hlt2w; simp at hlt2w
          cases e
          have g0 : wr.cell? ⟨b1, o1 + i, none⟩ = some (.int .i64 l[i]) := by have := HXi.out.cell (hcl i hlt2); rw [Nat.mul_one] at this; exact this
          have g1 : wr.cell? ⟨b2, o2 + i, none⟩ = some (.int .i64 ws[i]) := by have := HXi.out.cell (hcl2 i hlt2w); rw [Nat.mul_one] at this; exact this
          have hb1 : b1 < g := by have h : b1 < wo.heap.size := block_lt (hcl i hlt2); have := HG.out; omega
          have hb2 : b2 < g := by have h : b2 < wo.heap.size := block_lt (hcl2 i hlt2w); have := HG.out; omega
          have hb0 : Bx < g := by have := lt_heap HB.out; have := HG.out; omega
          clear hcl hcl2
          have hbd := HIN.out i hlt2
          rw [show l.getD i 0 = l[i] by simp [List.getD, hlt2], show ws.getD i 0 = ws[i] by simp [List.getD, hlt2w]] at hbd
          have HS := Lib.hid (stTo_succ (k : Int) zeros32 HEQ.out hlt2)
          have hst1 : (stStep (stTo l ws (k : Int) zeros32 i) (l[i], ws[i])).1 = (stTo l ws (k : Int) zeros32 i).1 / pw ws[i] := rfl
          have hst2 : (stStep (stTo l ws (k : Int) zeros32 i) (l[i], ws[i])).2 = if l[i] < ((stTo l ws (k : Int) zeros32 i).2.length : Int) then (stTo l ws (k : Int) zeros32 i).2.set l[i].toNat ((stTo l ws (k : Int) zeros32 i).1 % pw ws[i]) else (stTo l ws (k : Int) zeros32 i).2 := rfl
          rw [← HS.out] at hst1 hst2
          have HST1 := Lib.hid hst1; have HST2 := Lib.hid hst2
          clear hst1 hst2 HS
          obtain ⟨c0, c1, c2, c3⟩ := blocks4 ((HXi.out.block _ (lt_heap HBi.out)).trans HBi.out)
          generalize (stTo l ws (k : Int) zeros32 i).1 = m at *
          generalize (stTo l ws (k : Int) zeros32 i).2 = st at *
          generalize l[i] = c at *
          generalize ws[i] = wd at *
          obtain ⟨h1, h2, h3, h4⟩ := hbd
          obtain ⟨cN, rfl⟩ := Int.eq_ofNat_of_zero_le h1
          have i0 : (0 : Int) ≤ (i : Int) := by omega
          have hcN : cN < 32 := by omega
          obtain ⟨g', cap', hve, hg', hcell⟩ := HOi.out.open (by rw [HL32.out]; omega)
          rw [HL32.out] at hve
          cases hve
          have d0 := (hcell cN (by rw [HL32.out]; exact hcN)).1
          have d1 := (hcell cN (by rw [HL32.out]; exact hcN)).2
          have hO' := HOi.out
          have hown : OwnInts (wr.setCell ⟨g, cN, none⟩ (.int .i64 (m % pw wd))) g (.slice (some ⟨g, 0, none⟩) 32 32) (st.set cN (m % pw wd)) := by
            have hO2 : OwnInts wr g (.slice (some ⟨g, 0, none⟩) st.length 32) st := by rw [HL32.out]; exact hO'
            have := hO2.set (i := cN) (m % pw wd)
            rw [HL32.out] at this; exact this
          have HOWN := Lib.hid hown
          have HE2 := HST2.out
          rw [if_pos (by have := HL32.out; omega)] at HE2
          have HST3 := Lib.hid HE2
          have XS : Hid (Ext wo (wr.setCell ⟨g, cN, none⟩ (.int .i64 (m % pw wd)))) := HXi.out.setCell (p := ⟨g, cN, none⟩) (by have := HG.out; show wo.heap.size ≤ g; omega) (.int .i64 (m % pw wd))
          have HMK := Lib.hid (mask_walk m wd h3 h4)
          clear hcell hO' hown HE2
          gi_wp2
          rw [HMK.out, pw_pow]
          go_roundw
          case rel => exact ⟨i + 1, by omega, by go_num, by rw [HST1.out], XS.out, by rw [HST3.out, List.length_set]; exact HL32.out, by rw [HST3.out]; exact HOWN.out⟩
          case measure => simp [intOf]; omega
        · obtain rfl : i = l.length := by omega
          have hO3 := HOi.out
          rw [← HST.out k] at hO3
          have HGD : Hid (goodSt l ws M W.heap.size ⟨k, g⟩ wr) := ⟨hlt, hO3.mono (by have := HG.out; have := HZr.out; omega)⟩
          clear hO3
          have HJi := Lib.hid (HJ.out _ _ _ HJr.out ⟨HXi.out.os, HXi.out.tape, HXi.out.output, HXi.out.size, fun k hk _ => HXi.out.block k hk⟩)
          have hszi : W.heap.size ≤ wr.heap.size := by have := HXi.out.size; have := HG.out; have := HZr.out; omega
          obtain ⟨fn, tmps, assign, body, hy, hR⟩ := HY.out pre ⟨k, g⟩ wr HJi.out HGD.out hszi (by have := congrArg List.length HPRE.out; simp at this; omega)
          dsimp only [encSt] at hy
          have HR := Lib.hid hR
          have HPX : Hid ((pre ++ [(⟨k, g⟩ : StX)]).map StX.n = List.range (k + 1)) := by unfold Hid; rw [List.map_append, HPRE.out, List.range_succ]; rfl
          have HSZi := Lib.hid hszi
          clear hR hszi
          gi_wp2
          refine HR.out.mono ?_
          rintro e W3 (⟨rfl, hJ3, hk3⟩ | ⟨rfl, hJx3⟩)
          · have HJ3 := Lib.hid hJ3; have HZ3 := Lib.hid (Nat.le_trans HSZi.out hk3.size)
            clear hJ3 hk3 hy
            gi_wp2
            go_roundw
            case rel => have hM4 := HM4.out; exact ⟨k + 1, _, by omega, by rw [show wrap64 ((k : Int) + 1) = (k : Int) + 1 by unfold wrap64; omega]; rfl, HPX.out, HJ3.out, HZ3.out⟩
            case measure => have hM4 := HM4.out; rw [show wrap64 ((k : Int) + 1) = (k : Int) + 1 by unfold wrap64; omega]; simp [intOf]; omega
          · have HJx3 := Lib.hid hJx3
            clear hJx3 hy
            gi_wp2
            refine bodyPost_ret (results_none rfl _ _ _) rfl ?_
            exact ⟨⟨_, rfl⟩, .inr ⟨_, ⟨k, hlt, HPX.out⟩, HJx3.out⟩⟩
    · obtain rfl : k = M := by omega
      gi_wp2
      go_end0
      exact ⟨⟨_, rfl⟩, .inl ⟨_, HPRE.out, HJr.out⟩⟩
end Go.Proofs.YtlcgbdjmlnjhcaaGreatDoor
namespace Go.Proofs.YtlcgbdjmlnjhcaaGreatDoor
open Go.RowKit Go.Shelf

theorem infoSlE : (Tryz.prog.info? 23).map (fun i => (i.zero, i.size, i.bytes)) = some (some (.slice none 0 0), 1, 24) := by kernel_rfl
/-- The work that is left, in a row of the call's own. -/
def WStk (N0 : Nat) (w : World) (v : Value) (st : List Pend) : Prop := w.ownsRow (N0 + 2) 23 1 v st.length (st.map Pend.v) ∧ ∃ g cap, v = .slice (some ⟨g, 0, none⟩) st.length cap
theorem WStk.block {N0 : Nat} {w : World} {v : Value} {st : List Pend} (h : WStk N0 w v st) (k : Nat) (hk : v.ownBlock = some k) : N0 + 2 ≤ k ∧ ∃ cs, w.heap[k]? = some (.cells cs 23 (0, 0)) := by
  rcases h.1.2 with ⟨rfl, _⟩ | ⟨g, cap, cur, rfl, hg, hh, _⟩
  · cases hk
  · cases hk; exact ⟨hg, _, hh⟩
theorem WStk.keep {N0 : Nat} {w w' : World} {v : Value} {st : List Pend} (h : WStk N0 w v st) (hk : ∀ k, v.ownBlock = some k → w'.heap[k]? = w.heap[k]?) : WStk N0 w' v st := by
  refine ⟨⟨h.1.1, ?_⟩, h.2⟩
  rcases h.1.2 with h2 | ⟨g, cap, cur, hv, hg, hh, r⟩
  · exact .inl h2
  · exact .inr ⟨g, cap, cur, hv, hg, by rw [hk g (by rw [hv]; rfl)]; exact hh, r⟩
theorem WStk.later {N0 : Nat} {w w' : World} {v : Value} {st : List Pend} (h : WStk N0 w v st) (hx : Ext w w') : WStk N0 w' v st := h.keep fun k hk => by
  obtain ⟨_, cs, hc⟩ := h.block k hk
  exact hx.block k (lt_heap hc)
theorem WStk.pop {N0 : Nat} {wr : World} {g cap n : Nat} {st : List Pend} {p : Pend} (h : WStk N0 wr (.slice (some ⟨g, 0, none⟩) n cap) (st ++ [p])) :
    WStk N0 wr (.slice (some ⟨g, 0, none⟩) st.length cap) st ∧ wr.cell? ⟨g, st.length, none⟩ = some p.v ∧ n = st.length + 1 ∧ st.length + 1 ≤ cap ∧ cap ≤ 9223372036854775807 := by
  obtain ⟨h1, ⟨g', cap', e'⟩⟩ := h
  cases e'
  rcases h1.2 with ⟨e, _⟩ | ⟨g', cap', cur, e, hg, hh, hn, hc, hs, ht⟩
  · cases e
  cases e
  simp only [List.length_append, List.length_cons, List.length_nil, List.map_append, List.map_cons, List.map_nil] at *
  refine ⟨⟨⟨by simp, .inr ⟨_, _, cur, rfl, hg, hh, by omega, hc, hs, ?_⟩⟩, ⟨_, _, rfl⟩⟩, ?_, trivial, by omega, by unfold maxLen at hc; omega⟩
  · have := congrArg (List.take (st.length * 1)) ht
    rw [List.take_take, Nat.min_eq_left (by omega)] at this
    rw [this, List.take_append_of_le_length (by simp), List.take_of_length_le (by simp)]
  · have := congrArg (fun x => x[st.length]?) ht
    rw [List.getElem?_take_of_lt (by omega)] at this
    simp only [World.cell?, hh]
    simpa using this
/-- A row laid on the work. -/
theorem wpList_append_pend {ops : Array Oper} {rest : List Oper} {o : Oper} {a : Act} {Q : Exit → Act → World → Prop} (hgd : o.guard = none) (s x : Operand)
    (ho : o.op = .call { callee := .builtin .append, args := #[s, x], argTypes := #[105, 105] }) (N0 : Nat) (wr : World) (v : Value) (st : List Pend) (p : Pend)
    (hs : a.eval s = v) (hx : a.eval x = .slice (some ⟨wr.heap.size, 0, none⟩) 1 1) (hown : WStk N0 wr v st) (hl : st.length ≤ 1000000) (hb : N0 + 2 ≤ wr.heap.size)
    (h : ∀ g cap w', WStk N0 w' (.slice (some ⟨g, 0, none⟩) (st.length + 1) cap) (st ++ [p]) → wr.grownBy w' v.ownBlock → wpList Tryz.prog ops Q rest (a.put o.dst (.slice (some ⟨g, 0, none⟩) (st.length + 1) cap)) w') :
    wpList Tryz.prog ops Q (o :: rest) a (wr.alloc (.cells #[p.v] 23)) := by
  obtain ⟨i0, hi, hz0, hz1, hz2⟩ := info_parts infoSlE
  have hx0 : Ext wr (wr.alloc (.cells #[p.v] 23)) := (Ext.refl wr).alloc _
  refine wpList_append_lies _ hgd s x 105 ho (N0 + 2) 23 i0 _ 1 24 Tryz.underlying105 hi hz0 hz1 hz2 rfl (by decide) v st.length (st.map Pend.v) hs (hown.later hx0).1 ⟨wr.heap.size, 0, none⟩ 1 1 [p.v] hx rfl (cell_one_new _ _ _) ?_ (by decide) ?_ ?_ ?_ (wr.heap.size + 1) (by simp) ?_
  · intro u hu; simp at hu; subst hu; rfl
  · unfold maxLen; omega
  · omega
  · simp; omega
  · intro g cap w' h1 h2 h3 h4
    exact h g cap w' ⟨by simpa using h1, ⟨g, cap, by simp⟩⟩ (grown_alloc h2)

def CLoop (S : Nat → Prop) (N0 R : Nat) (e : E) (w0 : World) (k : Nat) (v : Value) (wr : World) : Prop :=
  ∃ (G : List Nat) (st : List Pend), k = stM st ∧ CloI S N0 R e w0 G st wr ∧ WStk N0 wr v st ∧ stM st ≤ 2 * e.size + 1
def CIn (S : Nat → Prop) (N0 R : Nat) (e : E) (w0 : World) (st : List Pend) (p : Pend) (v i : Value) (wr : World) : Prop :=
  ∃ (j : Nat) (G : List Nat) (st2 : List Pend), j ≤ p.ps.length ∧ i = .int .i64 j ∧ CloI S N0 R e w0 G st2 wr ∧ WStk N0 wr v st2 ∧ PRow S N0 wr p j ∧ p.g ∈ G ∧ p.g ∉ st2.map Pend.g ∧ stM st2 ≤ stM st + 2 * sizeAll ((p.ps.map (·.1)).take j)

set_option maxRecDepth 100000 in
set_option maxHeartbeats 8000000 in
theorem HClone_any (S : Nat → Prop) (e : E) (v : Value) (w : World) (he : EValT S w v e) (hS : ∀ k, w.heap.size ≤ k → S k) (hes : e.size ≤ 100000) : Calls Tryz.prog 40 #[v] w (RetT S e w) := by
  obtain ⟨a, al, ac, rfl, hk⟩ := he.shape
  obtain ⟨W0, hW0⟩ : ∃ W0, Boxes w W0 (.cells #[.int .i64 e.op, .int .i64 e.wd, .int .i64 e.n, .slice a al ac] 25) (.cells #[.int .i64 0, .int .i64 0, .int .i64 0, .slice none 0 0] 25) := ⟨_, Boxes.mk' _ _ _⟩
  obtain ⟨q0, q1, q2, q3⟩ := blocks4 hW0.b0
  have hkT : KidsT (fun k => S k ∧ k < w.heap.size) W0 (.slice a al ac) e.kids := hk.there.keep fun k hk _ => hW0.ext.block k hk.2
  obtain ⟨W1, hW1⟩ : ∃ W1, Boxes W0 W1 (.cells #[.int .i64 e.op, .int .i64 e.wd, .int .i64 e.n, .slice a al ac] 25) (.cells #[.slice (some ⟨W0.heap.size, 0, none⟩) 1 1] 23) := ⟨_, Boxes.mk' _ _ _⟩
  have hz0 := hW0.size
  have hst : CLoop S w.heap.size (w.heap.size + 2) e W0 (stM [⟨w.heap.size + 2, 1, [(e, .slice a al ac)]⟩]) (.slice (some ⟨w.heap.size + 3, 0, none⟩) 1 1) W1 := by
    have hb0 := hW1.b0; have hb1 := hW1.b1
    rw [hz0] at hb0 hb1
    obtain ⟨k0, k1, k2, k3⟩ := blocks4 hb0
    have hkx := hkT.keep fun k _ hk => hW1.ext.block k hk
    refine ⟨[w.heap.size + 2], _, rfl, ⟨?_, by simp, ?_, hW1.ext, ?_, by simp⟩, ⟨⟨rfl, .inr ⟨_, _, #[.slice (some ⟨w.heap.size + 2, 0, none⟩) 1 1], rfl, by omega, hb1, Nat.le_refl _, by unfold maxLen; omega, rfl, rfl⟩⟩, _, _, rfl⟩, ?_⟩
    · exact .mk' k0 k1 k2 k3 (hkx.mono fun k hk => .inl hk)
    · intro b hb; simp at hb; subst hb; exact ⟨Nat.le_refl _, _, hb0⟩
    · intro p hp; simp at hp; subst hp
      refine ⟨fun i hi _ => ?_, by simp, by simp⟩
      have : i = 0 := by simpa using hi
      subst this
      exact ⟨k3, hkx⟩
    · simp [stM, sizeAll]; omega
  have HST := Lib.hid hst; have HW0 := Lib.hid hW0; have HW1 := Lib.hid hW1; have HSS := Lib.hid hS
  have hpos := e.size_pos
  clear hst hk he hkT hS
  go_enter Tryz.func40, Tryz.ntmps40
  go_upto_region 1 with fail
  rw [← HW0.out.eq]
  clear hW0 hW1
  go_upto_region 3 with fail
  have hw1 := HW1.out.eq
  rw [HW0.out.size] at hw1
  rw [← hw1]
  clear hw1 q0 q1 q2 q3
  have hz0 := HW0.out.size
  have HR2 : Hid (W0.heap[w.heap.size + 1]? = some (.cells #[.int .i64 0, .int .i64 0, .int .i64 0, .slice none 0 0] 25 (0, 0))) := HW0.out.b1
  have HX0 := Lib.hid HW0.out.ext
  generalize hn0 : w.heap.size = N0 at *
  have HN0 := Lib.hid hn0
  clear hn0
  go_loopg [4] (stM [⟨N0 + 2, 1, [(e, .slice a al ac)]⟩]) (fun k v wr => CLoop S N0 (N0 + 2) e W0 k v wr)
  case atStart => exact HST.out
  case round =>
    clear HST
    obtain ⟨G, st, rfl, hC, hW, hM⟩ := hrel
    rcases List.eq_nil_or_concat st with rfl | ⟨st', p, rfl⟩
    · obtain ⟨g, cap, rfl⟩ := hW.2
      obtain ⟨c0, c1, c2, xa, xl, xc, c3, hk⟩ := hC.tree.cells
      have hR := (hC.ext.block _ (by omega)).trans HR2.out
      have HC := Lib.hid hC; have HKT := Lib.hid hk
      obtain ⟨d0, d1, d2, d3, f0, f1, f2, f3⟩ := cells_of_block hR
      have HB := Lib.hid (put4_new (x := .int .i64 e.op) (y := .int .i64 e.wd) (z := .int .i64 e.n) (u := .slice xa xl xc) hR)
      have HXE : Hid (Ext w (put4 wr (N0 + 1) 0 (.int .i64 e.op) (.int .i64 e.wd) (.int .i64 e.n) (.slice xa xl xc))) := Below.trans (HX0.out.trans hC.ext) (below_put4 (by have := HN0.out; omega))
      clear hC hW hM hk hR
      simp only [List.length_nil]
      go_wp2_with fail
      refine bodyPost_ret (v := .agg #[.int .i64 e.op, .int .i64 e.wd, .int .i64 e.n, .slice xa xl xc]) (results_cell_row Tryz.results40 _ _ (N0 + 1) 25 _ (0, 0) _ rfl HB.out Tryz.underlying25 rfl sizeExpr) rfl ⟨⟨_, rfl, _, rfl, ?_⟩, HXE.out⟩
      refine (HKT.out.keep fun k hk _ => put4_heap k ?_).mono fun k hk => ?_
      · rcases hk with hk | hk
        · have := hk.2; omega
        · have := (HC.out.typed k hk).1; omega
      · rcases hk with hk | hk
        · exact hk.1
        · exact HSS.out k (by have := (HC.out.typed k hk).1; have := HN0.out; omega)
    · rw [List.concat_eq_append] at hC hW hM
      obtain ⟨g, cap, rfl⟩ := hW.2
      obtain ⟨hW', hcell, hn, hcap, hcap2⟩ := hW.pop
      have hlen : (st' ++ [p]).length = st'.length + 1 := by simp
      rw [hlen]
      rw [stM_snoc] at hM
      have hpin : p ∈ st' ++ [p] := by simp
      obtain ⟨hpr, hpG, hp0⟩ := hC.rows p hpin
      have hnd : p.g ∉ st'.map Pend.g := by
        have := hC.nodup
        rw [List.map_append, List.map_cons, List.map_nil, List.nodup_append] at this
        intro h
        exact this.2.2 _ h _ (by simp) rfl
      have hC' : CloI S N0 (N0 + 2) e W0 G st' wr := ⟨hC.tree, hC.root, hC.typed, hC.ext, fun q hq => hC.rows q (by simp [hq]), by
        have := hC.nodup
        rw [List.map_append] at this
        exact (List.nodup_append.1 this).1⟩
      have hst1 := stM_len st'
      have hpl := length_le_sizeAll (p.ps.map (·.1))
      rw [List.length_map] at hpl
      have HC := Lib.hid hC'; have HWK := Lib.hid hW'; have HPR := Lib.hid hpr; have HPG := Lib.hid hpG; have HND := Lib.hid hnd; have HM := Lib.hid hM
      have hst2 : st'.length ≤ 9223372036854775806 := by omega
      have HPL : Hid (p.ps.length ≤ 200001) := by unfold Hid; omega
      clear hC hC' hW hW' hM hpr hpG hnd hn hlen hpin hpl hst1
      unfold Pend.v at hcell
      go_wp2_with fail
      go_loopw [4, 27] (fun v i wr => CIn S N0 (N0 + 2) e W0 st' p v i wr) (fun _ i _ => p.ps.length - (intOf i).toNat)
      case atStart => exact ⟨0, G, st', Nat.zero_le _, rfl, HC.out, HWK.out, HPR.out, HPG.out, HND.out, by simp [sizeAll]⟩
      case round =>
        clear hcell HC HWK HPR HPG HND
        obtain ⟨j, G2, st2, hj, rfl, hC, hW, hpr, hpG, hnd, hmes⟩ := hrel
        obtain ⟨g2, cap2, rfl⟩ := hW.2
        have HC := Lib.hid hC; have HWK := Lib.hid hW; have HPR := Lib.hid hpr; have HPG := Lib.hid hpG; have HND := Lib.hid hnd; have HME := Lib.hid hmes
        clear hC hW hpr hpG hnd hmes
        by_cases hlt : j < p.ps.length
        · have hpl := HPL.out
          obtain ⟨hA, kA⟩ := HPR.out j hlt (Nat.le_refl _)
          obtain ⟨ka, kc, hv⟩ := kA.kids.slice
          rw [hv] at hA kA
          obtain ⟨hpg0, pcs, hpcs⟩ := HC.out.typed _ HPG.out
          have HSN : Hid (sizeAll ((p.ps.map (·.1)).take (j + 1)) = sizeAll ((p.ps.map (·.1)).take j) + (1 + sizeAll p.ps[j].1.kids)) := by
            unfold Hid
            rw [sizeAll_snoc (by simpa using hlt)]
            congr 1
            rw [List.getElem_map]
            generalize p.ps[j].1 = q
            cases q; simp [E.size]
          have HL2 : Hid (st2.length ≤ 1000000) := by
            have h1 := stM_len st2
            have h2 := HME.out
            have h3 := HM.out
            have h4 := sizeAll_take (p.ps.map (·.1)) j
            unfold Hid; omega
          have HNX : Hid (∀ w', PRow S N0 w' p j → PRow S N0 w' p (j + 1)) := fun w' h i hi h0 => h i hi (by omega)
          by_cases hz : p.ps[j].1.kids.length = 0
          · have hz1 : ¬ 0 < p.ps[j].1.kids.length := by omega
            have hzd : decide (0 < p.ps[j].1.kids.length) = false := decide_eq_false hz1
            have HZ : Hid (sizeAll p.ps[j].1.kids = 0) := by rw [List.length_eq_zero_iff.1 hz]; rfl
            clear hz kA hv
            go_wp2_with fail
            refine ⟨⟨j + 1, G2, st2, by omega, by go_num, HC.out, HWK.out, HNX.out _ HPR.out, HPG.out, HND.out, ?_⟩, by simp [intOf]; omega⟩
            rw [HSN.out, HZ.out]; have := HME.out; omega
          · have hz1 : 0 < p.ps[j].1.kids.length := by omega
            have hzd : decide (0 < p.ps[j].1.kids.length) = true := decide_eq_true hz1
            rcases id kA with ⟨_, e0⟩ | ⟨b, o, cap', e0, hkl, hSb, hki⟩
            · rw [e0] at hz; exact absurd rfl hz
            cases e0
            obtain ⟨qs, hq, hqc⟩ := kids_ps p.ps[j].1.kids o hki
            have hql : p.ps[j].1.kids.length = qs.length := by rw [← hq, List.length_map]
            have hsz : qs.length ≤ 100000 := by
              have h1 := length_le_sizeAll p.ps[j].1.kids
              have h2 := HSN.out
              have h3 := sizeAll_take (p.ps.map (·.1)) (j + 1)
              have h4 := HM.out
              omega
            have HPRj : Hid (∀ i (hi : i < p.ps.length), j ≤ i → wr.cell? ⟨p.g, i * 4 + 3, none⟩ = some p.ps[i].2 ∧ KidsT (fun k => S k ∧ k < N0) wr p.ps[i].2 p.ps[i].1.kids) := HPR.out
            have HQ := Lib.hid hq; have HQC := Lib.hid hqc; have HVJ := Lib.hid hv
            have hgf : wr.frozen? ⟨p.g, j * 4 + 3, none⟩ = false := Lib.frozen_of_heap hpcs _
            have hpgw : p.g < wr.heap.size := lt_heap hpcs
            have HCALL := Lib.hid (CloneE_any b o kc qs wr (by omega) hsz (fun i hi => ⟨(hqc i hi).1, (hqc i hi).2.1, (hqc i hi).2.2.1, (hqc i hi).2.2.2.1⟩) (fun q hq' => by
              obtain ⟨i, hi, rfl⟩ := List.getElem_of_mem hq'
              have hk5 := (hqc i hi).2.2.2.2
              exact hk5.there.mono fun k hk => hk.2))
            have hnw : N0 + 2 ≤ wr.heap.size := by have := HC.out.ext.size; omega
            rw [hql] at hA hzd hz1
            clear hz kA hv hki hq hqc hSb hkl
            have HA := Lib.hid hA
            go_wp2_with fail
            refine HCALL.out.mono ?_
            rintro r w5 ⟨⟨gq, cp, rfl, ho⟩, x5⟩
            have ho2 : w5.ownsRow (N0 + 2) 25 4 (.slice (some ⟨gq, 0, none⟩) qs.length cp) qs.length (flat4 qs) ∧ wr.heap.size ≤ gq := by
              obtain ⟨h1, h2⟩ := ho
              rcases h2 with ⟨e1, _⟩ | ⟨g', c', cur, hv, hg, r⟩
              · cases e1
              · cases hv; exact ⟨⟨h1, .inr ⟨_, _, cur, rfl, by omega, r⟩⟩, hg⟩
            have hC5 := HC.out.later x5
            have hPR5 := HPR.out.later hpgw x5
            have hkq : ∀ q ∈ qs, KidsT (fun k => S k ∧ k < N0) w5 q.2 q.1.kids := fun q hq' => by
              obtain ⟨i, hi, rfl⟩ := List.getElem_of_mem hq'
              exact ((HQC.out i hi).2.2.2.2).keep fun k _ hk => x5.block k hk
            obtain ⟨_, pcs5, hpcs5⟩ := hC5.typed _ HPG.out
            have hnG : gq ∉ G2 := fun h => by
              obtain ⟨_, cs, hc⟩ := HC.out.typed _ h
              have := lt_heap hc; omega
            obtain ⟨hC6, hPR6⟩ := hC5.store hlt hPR5 HPG.out HND.out hz0 HQ.out (by omega) (by omega) hnG (by omega) ho2.1 hkq hsz
            have hA5 := x5.cell hA
            have hA6 := cell_set_same hpcs5 hA5 (.slice (some ⟨gq, 0, none⟩) qs.length cp)
            have hgf5 : w5.frozen? ⟨p.g, j * 4 + 3, none⟩ = false := Lib.frozen_of_heap hpcs5 _
            have hW6 : WStk N0 (w5.setCell ⟨p.g, j * 4 + 3, none⟩ (.slice (some ⟨gq, 0, none⟩) qs.length cp)) (.slice (some ⟨g2, 0, none⟩) st2.length cap2) st2 := (HWK.out.later x5).keep fun k hk => heap_setCell_other _ _ _ _ (by
              obtain ⟨_, cs, hc⟩ := (HWK.out.later x5).block k hk
              rintro rfl
              rw [hpcs5] at hc; cases hc)
            have HC6 := Lib.hid hC6; have HPR6 := Lib.hid hPR6; have HW6 := Lib.hid hW6
            have hgn : p.g ≠ gq := by omega
            have hz6 : N0 + 2 ≤ (w5.setCell ⟨p.g, j * 4 + 3, none⟩ (.slice (some ⟨gq, 0, none⟩) qs.length cp)).heap.size := by
              have := x5.size; simp only [World.setCell]; simp; omega
            clear ho ho2 hC5 hPR5 hkq hpcs5 hnG hC6 hPR6 hW6 x5 hA hgf hpcs
            go_upto_region 11 with fail
            generalize hV : w5.setCell ⟨p.g, j * 4 + 3, none⟩ (.slice (some ⟨gq, 0, none⟩) qs.length cp) = V at *
            clear hV hA5 hgf5
            have hll := HL2.out
            go_wp2_with (at_builtin; refine wpList_append_pend rfl (.tmp 47) (.tmp 53) rfl N0 V _ st2 ⟨gq, cp, qs⟩ rfl rfl HW6.out hll hz6 ?_)
            intro g4 cap4 w7 hS4 hX4
            have hfar : ∀ k, (k < N0 ∨ k ∈ gq :: G2) → k < V.heap.size → w7.heap[k]? = V.heap[k]? := fun k hk hs => hX4.block k hs fun e => by
              obtain ⟨h1, cs, hc⟩ := HW6.out.block k e.symm
              rcases hk with hk | hk
              · omega
              · obtain ⟨_, cs2, hc2⟩ := HC6.out.typed k hk
                rw [hc2] at hc; cases hc
            have HC7 : Hid (CloI S N0 (N0 + 2) e W0 (gq :: G2) (st2 ++ [⟨gq, cp, qs⟩]) w7) := HC6.out.keep (HC6.out.ext.grown hX4 fun k e => by have := (HW6.out.block k e).1; omega) hfar
            have HPR7 : Hid (PRow S N0 w7 p (j + 1)) := HPR6.out.keep (fun _ => World.cell?_of_block (hfar _ (.inr (List.mem_cons_of_mem _ HPG.out)) (by
              obtain ⟨_, cs, hc⟩ := HC6.out.typed p.g (List.mem_cons_of_mem _ HPG.out)
              exact lt_heap hc))) fun k hk hs => hfar k (.inl hk) hs
            have HS4 := Lib.hid hS4
            clear hS4 hX4 hfar hA6
            go_wp2_with fail
            refine ⟨⟨j + 1, gq :: G2, st2 ++ [⟨gq, cp, qs⟩], by omega, by go_num, HC7.out, by simpa using HS4.out, HPR7.out, List.mem_cons_of_mem _ HPG.out, ?_, ?_⟩, by simp [intOf]; omega⟩
            · rw [List.map_append]
              intro h
              rcases List.mem_append.1 h with h | h
              · exact HND.out h
              · simp at h; exact hgn h
            · rw [HSN.out, stM_snoc, HQ.out]; have := HME.out; omega
        · have HF : Hid (CLoop S N0 (N0 + 2) e W0 (stM st2) (.slice (some ⟨g2, 0, none⟩) st2.length cap2) wr) := by
            refine ⟨G2, st2, rfl, HC.out, HWK.out, ?_⟩
            have h1 := HME.out
            have h2 := HM.out
            rw [List.take_of_length_le (by rw [List.length_map]; omega)] at h1
            omega
          have HMES : Hid (stM st2 < stM (st' ++ [p])) := by
            have h1 := HME.out
            rw [List.take_of_length_le (by rw [List.length_map]; omega)] at h1
            unfold Hid
            rw [stM_snoc]; omega
          go_wp2_with fail
          go_roundg (stM st2)
          case measure => rw [List.concat_eq_append]; exact HMES.out
          case rel => exact HF.out
end Go.Proofs.YtlcgbdjmlnjhcaaGreatDoor
namespace Go.Proofs.YtlcgbdjmlnjhcaaGreatDoor
open Go.RowKit

theorem elem_if (st : List Int) {c : Int} (hc : 0 ≤ c) (p : Int) : (if c < (st.length : Int) then st.getD c.toNat 0 % p else 0) = elemS st c % p := by
  unfold elemS
  split
  · rfl
  · rw [show st.getD c.toNat 0 = 0 by simp [List.getD, show st.length ≤ c.toNat by omega]]; simp
section
variable {cs ws : List Int} (hl : cs.length = ws.length) (hw : ∀ x ∈ ws, 1 ≤ x ∧ x ≤ 8) (hinc : incB cs = true) (hb : ∀ i, i < cs.length → 0 ≤ cs.getD i 0 ∧ cs.getD i 0 < 32)
include hl hw hinc hb
/-- The values of State, at a base that contains all cells. -/
theorem st_dig (n : Int) (base : List Int) (h32 : 32 ≤ base.length) : ∀ k, k ≤ cs.length → (stTo cs ws n base k).1 = n / pw (sumI (ws.take k)) ∧ (stTo cs ws n base k).2.length = base.length ∧
    (∀ i, i < k → elemS (stTo cs ws n base k).2 (cs.getD i 0) = n / pw (sumI (ws.take i)) % pw (ws.getD i 0)) ∧ (∀ j : Nat, (∀ i, i < k → cs.getD i 0 ≠ (j : Int)) → (stTo cs ws n base k).2.getD j 0 = base.getD j 0) := by
  intro k
  induction k with
  | zero => intro _; exact ⟨by simp [stTo, sumI, pw], rfl, fun i hi => by omega, fun _ _ => rfl⟩
  | succ k ih =>
    intro hk
    obtain ⟨h1, h2, h3, h4⟩ := ih (by omega)
    have hc : cs.getD k 0 = cs[k]'(by omega) := by simp [List.getD, show k < cs.length by omega]
    have hwk : ws.getD k 0 = ws[k]'(by omega) := by simp [List.getD, show k < ws.length by omega]
    have hbk := hb k (by omega)
    have hs0 := (sum_bound hw k (by omega)).1
    have hx := hw (ws[k]'(by omega)) (List.getElem_mem _)
    rw [stTo_succ n base hl (by omega)]
    unfold stStep
    dsimp only
    rw [hc] at hbk
    rw [if_pos (by rw [h2]; omega)]
    refine ⟨?_, by rw [List.length_set]; exact h2, fun i hi => ?_, fun j hj => ?_⟩
    · rw [h1, sum_take (show k < ws.length by omega), pw_add hs0 (by omega), Int.ediv_ediv_of_nonneg (Int.le_of_lt pw_pos)]
    · unfold elemS at *
      by_cases e : i = k
      · subst e
        rw [hc, hwk, h1]
        simp [List.getD, show (cs[i]'(by omega)).toNat < (stTo cs ws n base i).2.length by rw [h2]; omega]
      · have hlt := inc_all hinc i k (by omega) (by omega)
        have hbi := hb i (by omega)
        rw [hc] at hlt
        rw [← h3 i (by omega)]
        simp only [List.getD, List.getElem?_set]
        rw [if_neg (by simp only [List.getD] at hlt hbi; omega)]
    · have h5 := hj k (by omega)
      rw [hc] at h5
      rw [← h4 j (fun i hi => hj i (by omega))]
      simp only [List.getD, List.getElem?_set]
      rw [if_neg (by omega)]
omit hinc in
/-- The number of a state whose values are the digits of a number. -/
theorem num_dig (n : Int) (st : List Int) (h : ∀ i, i < cs.length → elemS st (cs.getD i 0) % pw (ws.getD i 0) = n / pw (sumI (ws.take i)) % pw (ws.getD i 0)) : ∀ k, k ≤ cs.length → (numTo cs ws st k).1 = n % pw (sumI (ws.take k)) := by
  intro k
  induction k with
  | zero => intro _; simp [numTo, sumI, pw]
  | succ k ih =>
    intro hk
    have hc : cs.getD k 0 = cs[k]'(by omega) := by simp [List.getD, show k < cs.length by omega]
    have hwk : ws.getD k 0 = ws[k]'(by omega) := by simp [List.getD, show k < ws.length by omega]
    have h1 := h k (by omega)
    rw [hc, hwk] at h1
    have hbk := hb k (by omega)
    rw [hc] at hbk
    have hlow := num_low st hl k (by omega)
    have hs0 := (sum_bound hw k (by omega)).1
    have hx := hw (ws[k]'(by omega)) (List.getElem_mem _)
    rw [numTo_succ st hl (by omega)]
    unfold numStep
    dsimp only
    rw [elem_if st hbk.1, h1, ih (by omega), hlow, sum_take (show k < ws.length by omega), pw_add hs0 (by omega)]
    have ha := @pw_pos (sumI (ws.take k))
    generalize pw (sumI (ws.take k)) = a at *
    generalize pw (ws[k]'(by omega)) = b at *
    have e1 := Int.emod_add_mul_ediv n a
    have e2 := Int.emod_add_mul_ediv (n / a) b
    have e3 := Int.emod_add_mul_ediv n (a * b)
    have e4 : n / (a * b) = n / a / b := (Int.ediv_ediv_of_nonneg (Int.le_of_lt ha)).symm
    rw [e4] at e3
    generalize n / a / b = q at *
    generalize n / a % b = r at *
    generalize n % (a * b) = s at *
    generalize n / a = u at *
    generalize n % a = v at *
    rw [← e2, Int.mul_add, ← Int.mul_assoc] at e1
    rw [Int.mul_comm r a]
    omega
end
theorem state_len {cs ws : List Int} (hs : smallB cs ws = true) (n : Int) {base : List Int} (h32 : 32 ≤ base.length) : (stateS cs ws n base).length = base.length := by
  obtain ⟨h1, hwd, _, _⟩ := small_sum hs
  obtain ⟨hl, hinc, hin⟩ := shape_iff.1 h1
  unfold stateS; rw [if_pos hs]
  exact (st_dig hl hwd.2 hinc (fun i h => ⟨(hin i h).1, (hin i h).2.1⟩) n base h32 cs.length (Nat.le_refl _)).2.1
theorem state_at {cs ws : List Int} (hs : smallB cs ws = true) (n : Int) {base : List Int} (h32 : 32 ≤ base.length) {i : Nat} (hi : i < cs.length) : elemS (stateS cs ws n base) (cs.getD i 0) = n / pw (sumI (ws.take i)) % pw (ws.getD i 0) := by
  obtain ⟨h1, hwd, _, _⟩ := small_sum hs
  obtain ⟨hl, hinc, hin⟩ := shape_iff.1 h1
  unfold stateS; rw [if_pos hs]
  exact (st_dig hl hwd.2 hinc (fun i h => ⟨(hin i h).1, (hin i h).2.1⟩) n base h32 cs.length (Nat.le_refl _)).2.2.1 i hi
theorem state_other {cs ws : List Int} (hs : smallB cs ws = true) (n : Int) {base : List Int} (h32 : 32 ≤ base.length) {j : Nat} (hj : (j : Int) ∉ cs) : (stateS cs ws n base).getD j 0 = base.getD j 0 := by
  obtain ⟨h1, hwd, _, _⟩ := small_sum hs
  obtain ⟨hl, hinc, hin⟩ := shape_iff.1 h1
  unfold stateS; rw [if_pos hs]
  refine (st_dig hl hwd.2 hinc (fun i h => ⟨(hin i h).1, (hin i h).2.1⟩) n base h32 cs.length (Nat.le_refl _)).2.2.2 j fun i hi e => hj ?_
  rw [← e, List.getD_eq_getElem?_getD, List.getElem?_eq_getElem hi]; exact List.getElem_mem hi
theorem num_state {cs ws : List Int} (hs : smallB cs ws = true) (n : Int) {base : List Int} (h32 : 32 ≤ base.length) : numS cs ws (stateS cs ws n base) = n % pw (sumI ws) := by
  obtain ⟨h1, hwd, _, _⟩ := small_sum hs
  obtain ⟨hl, hinc, hin⟩ := shape_iff.1 h1
  unfold numS; rw [if_pos hs, hl]
  have := num_dig hl hwd.2 (fun i h => ⟨(hin i h).1, (hin i h).2.1⟩) n (stateS cs ws n base) (fun i hi => by rw [state_at hs n h32 hi, Int.emod_emod]) cs.length (Nat.le_refl _)
  rw [hl] at this
  rw [this, List.take_length]
theorem num_stN {cs ws : List Int} (hs : smallB cs ws = true) {n : Nat} (hn : (n : Int) < pw (sumI ws)) : numS cs ws (stN cs ws n) = n := by
  unfold stN
  rw [num_state hs (n : Int) (by simp [zeros32])]
  exact Int.emod_eq_of_lt (by omega) hn
/-- State of the number of a state yields the values of the state. -/
theorem state_num {cs ws : List Int} (hs : smallB cs ws = true) {base : List Int} (h32 : 32 ≤ base.length) {i : Nat} (hi : i < cs.length) : elemS (stateS cs ws (numS cs ws base) base) (cs.getD i 0) = elemS base (cs.getD i 0) % pw (ws.getD i 0) := by
  obtain ⟨h1, hwd, _, _⟩ := small_sum hs
  obtain ⟨hl, hinc, hin⟩ := shape_iff.1 h1
  rw [state_at hs _ h32 hi]
  unfold numS; rw [if_pos hs]
  exact num_digit hl hwd.2 base cs.length (Nat.le_refl _) i hi
end Go.Proofs.YtlcgbdjmlnjhcaaGreatDoor
namespace Go.Proofs.YtlcgbdjmlnjhcaaGreatDoor
open Go.RowKit

/-- The run that a value falls into. -/
def pick (x : Nat) : List (Nat × List Nat) → List Nat
  | [] => []
  | [r] => r.2
  | r :: s :: t => if x ≤ r.1 then r.2 else pick x (s :: t)
theorem pick_cons (x : Nat) (r : Nat × List Nat) {l : List (Nat × List Nat)} (h : l ≠ []) : pick x (r :: l) = if x ≤ r.1 then r.2 else pick x l := by
  cases l with
  | nil => exact absurd rfl h
  | cons s t => rfl
theorem pick_take {x : Nat} : ∀ (l : List (Nat × List Nat)) (k : Nat), k + 1 < l.length → x ≤ (l.getD k (0, [])).1 → pick x (l.take (k + 1)) = pick x l := by
  intro l
  induction l with
  | nil => intro k h; simp at h
  | cons r t ih =>
    intro k h hx
    have ht : t ≠ [] := fun e => by subst e; simp at h
    cases k with
    | zero =>
      rw [pick_cons x r ht]
      have hx' : x ≤ r.1 := hx
      rw [if_pos hx']; rfl
    | succ k =>
      have h1 := ih k (by simp at h; omega) (by simpa using hx)
      rw [List.take_succ_cons, pick_cons x r ht, pick_cons x r (by intro e; have := congrArg List.length e; simp at this; exact ht this), h1]
theorem pick_drop {x : Nat} : ∀ (l : List (Nat × List Nat)) (k : Nat), k + 1 < l.length → l.Pairwise (fun a b => a.1 < b.1) → (l.getD k (0, [])).1 < x → pick x (l.drop (k + 1)) = pick x l := by
  intro l
  induction l with
  | nil => intro k h; simp at h
  | cons r t ih =>
    intro k h hp hx
    have ht : t ≠ [] := fun e => by subst e; simp at h
    rw [List.pairwise_cons] at hp
    cases k with
    | zero =>
      have hx' : r.1 < x := hx
      rw [pick_cons x r ht, if_neg (by omega)]; rfl
    | succ k =>
      have hk : k < t.length := by simp at h; omega
      have hx' : (t.getD k (0, [])).1 < x := by simpa using hx
      have hr : r.1 < (t.getD k (0, [])).1 := by
        refine hp.1 _ ?_
        rw [List.getD_eq_getElem?_getD, List.getElem?_eq_getElem hk]
        exact List.getElem_mem hk
      have h1 := ih k (by simp at h; omega) hp.2 hx'
      rw [List.drop_succ_cons, pick_cons x r ht, if_neg (by omega), h1]
theorem treeF_val {leaf : List Nat → E} {old now : List Int} (hv : ∀ z, 0 ≤ (leaf z).val old now ∧ (leaf z).val old now < 2) (wd c : Int) (x : Nat) (hx : elemS now c % pw wd = (x : Int)) : ∀ (f : Nat) (l : List (Nat × List Nat)), l.length ≤ f → 0 < l.length → l.Pairwise (fun a b => a.1 < b.1) →
    (treeF leaf wd c f l).val old now = (leaf (pick x l)).val old now := by
  intro f
  induction f with
  | zero => intro l h1 h2; omega
  | succ f ih =>
    intro l h1 h2 hp
    rw [treeF_succ]
    by_cases h : l.length = 1
    · rw [if_pos h]
      match l, h with
      | [r], _ => rfl
    · rw [if_neg h]
      obtain ⟨k, hk⟩ : ∃ k, (l.length + 1) / 2 = k + 1 := ⟨(l.length + 1) / 2 - 1, by omega⟩
      rw [hk, Nat.add_sub_cancel]
      have hkl : k + 1 < l.length := by omega
      have a1 := ih (l.take (k + 1)) (by simp; omega) (by simp; omega) (hp.sublist (List.take_sublist _ _))
      have a2 := ih (l.drop (k + 1)) (by simp; omega) (by simp; omega) (hp.sublist (List.drop_sublist _ _))
      have p2 : pw 1 = 2 := by decide
      by_cases hc : x ≤ (l.getD k (0, [])).1
      · rw [pick_take l k hkl hc] at a1
        have hb := hv (pick x l)
        generalize (l.getD k (0, [])).1 = y at *
        simp [E.val, valAll, applyS, hx, p2, a1, hc]
        omega
      · rw [pick_drop l k hkl hp (by omega)] at a2
        have hb := hv (pick x l)
        generalize (l.getD k (0, [])).1 = y at *
        simp [E.val, valAll, applyS, hx, p2, a2, hc]
        omega
theorem runsF_ne (low : Nat) (is : List Nat) (m v : Nat) (cur : Nat × List Nat) : runsF low is m v cur ≠ [] := fun e => by
  have := runsF_pos low is m v cur
  rw [e] at this; simp at this
theorem runsF_pick (low : Nat) (is : List Nat) (x : Nat) : ∀ (m v : Nat) (cur : Nat × List Nat), cur.1 < v → (x ≤ cur.1 → pick x (runsF low is m v cur) = cur.2) ∧ (v ≤ x → x < v + m → pick x (runsF low is m v cur) = part low is x) := by
  intro m
  induction m with
  | zero => intro v cur hc; exact ⟨fun _ => rfl, fun h1 h2 => by omega⟩
  | succ m ih =>
    intro v cur hc
    have h1 := ih (v + 1) (v, part low is v) (Nat.lt_succ_self v)
    unfold runsF
    by_cases he : part low is v = cur.2
    · rw [if_pos he]
      refine ⟨fun hx => (h1.1 (by show x ≤ v; omega)).trans he, fun hx1 hx2 => ?_⟩
      rcases Nat.lt_or_ge v x with e | e
      · exact h1.2 e (by omega)
      · obtain rfl : x = v := by omega
        exact h1.1 (Nat.le_refl _)
    · rw [if_neg he, pick_cons x cur (runsF_ne _ _ _ _ _)]
      refine ⟨fun hx => by rw [if_pos hx], fun hx1 hx2 => ?_⟩
      rw [if_neg (by omega)]
      rcases Nat.lt_or_ge v x with e | e
      · exact h1.2 e (by omega)
      · obtain rfl : x = v := by omega
        exact h1.1 (Nat.le_refl _)
theorem runsL_pick {low w x : Nat} {is : List Nat} (h : x < 2 ^ w) : pick x (runsL low w is) = part low is x := by
  have hp := Nat.two_pow_pos w
  have h1 := runsF_pick low is x (2 ^ w - 1) 1 (0, part low is 0) (Nat.lt_succ_self 0)
  unfold runsL
  rcases Nat.eq_zero_or_pos x with e | e
  · subst e; exact h1.1 (Nat.le_refl _)
  · exact h1.2 e (by omega)
theorem runsF_inc (low : Nat) (is : List Nat) : ∀ (m v : Nat) (cur : Nat × List Nat), cur.1 < v → (runsF low is m v cur).Pairwise (fun a b => a.1 < b.1) ∧ ∀ p ∈ runsF low is m v cur, cur.1 ≤ p.1 := by
  intro m
  induction m with
  | zero => intro v cur hc; simp [runsF]
  | succ m ih =>
    intro v cur hc
    have h1 := ih (v + 1) (v, part low is v) (Nat.lt_succ_self v)
    unfold runsF
    split
    · exact ⟨h1.1, fun p hp => Nat.le_trans (Nat.le_of_lt hc) (h1.2 p hp)⟩
    · refine ⟨List.pairwise_cons.2 ⟨fun p hp => Nat.lt_of_lt_of_le hc (h1.2 p hp), h1.1⟩, fun p hp => ?_⟩
      rcases List.mem_cons.1 hp with rfl | hp
      · exact Nat.le_refl _
      · exact Nat.le_trans (Nat.le_of_lt hc) (h1.2 p hp)
theorem runsL_inc (low w : Nat) (is : List Nat) : (runsL low w is).Pairwise (fun a b => a.1 < b.1) := (runsF_inc low is _ _ _ (Nat.lt_succ_self 0)).1
end Go.Proofs.YtlcgbdjmlnjhcaaGreatDoor
