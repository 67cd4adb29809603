/-
  Read.
  The plain law of the text, first part: reading the text of a well-formed expression gives the expression.
  The plain law of the text, second part: what can be read is the text of the result; expressions with equal texts are equal.
-/
import Derived.Test.YtoopoljchhdobaaGreatDoorMMu
import Derived.Test.YtoopoljchhdobaaGreatDoorMMg
namespace Go.Proofs.YtoopoljchhdobaaGreatDoor
open Go.RowKit

theorem read_any (w0 : World) (RB RV FV : Nat) (lv : Value) (l : List Int) (hE : REnv w0 RB RV FV lv l) : ∀ d : Nat, d ≤ 40 → ReadC w0 RB RV FV lv l d := by
  intro d
  induction d with
  | zero => intro _; exact read_zero w0 RB RV FV lv l
  | succ d ih =>
    intro hd dp k w hdp hR hk
    have h1 : 1 ≤ dp := by omega
    have h2 : dp ≤ 40 := by omega
    by_cases hb0 : wordB l k = []
    · exact read_leaves w0 RB RV FV lv l hE d dp h1 h2 k w hR hk 1 (.inl ⟨hb0, rfl⟩)
    by_cases hb1 : wordB l k = [99]
    · exact read_leaves w0 RB RV FV lv l hE d dp h1 h2 k w hR hk 2 (.inr (.inl ⟨hb1, rfl⟩))
    by_cases hb2 : wordB l k = [111]
    · exact read_leaves w0 RB RV FV lv l hE d dp h1 h2 k w hR hk 3 (.inr (.inr ⟨hb2, rfl⟩))
    exact read_node w0 RB RV FV lv l hE d (ih (by omega)) dp hdp h1 h2 k w hR hk hb0 hb1 hb2

/-- What Read answers. -/
def readTop (s : ByteArray) : Option E := match readS 40 (runesOf s) with
  | some (e, c) => if c = (runesOf s).length ∧ e.wf = true then some e else none
  | none => none
def ReadPost (s : ByteArray) (w : World) (r : Ending) (w' : World) : Prop :=
  ∃ v, r = .returned (.tuple #[v, .int .i64 (if (readTop s).isSome then 0 else 130)]) ∧ EVal w' v ((readTop s).getD (.mk 0 0 0 [])) ∧ Ext w w'
/-- The same, with the expression in new memory. -/
def ReadPostS (s : ByteArray) (w : World) (r : Ending) (w' : World) : Prop :=
  ∃ v, r = .returned (.tuple #[v, .int .i64 (if (readTop s).isSome then 0 else 130)]) ∧ EValS (fun b => w.heap.size < b) w' v ((readTop s).getD (.mk 0 0 0 [])) ∧ Ext w w'

theorem heap_lt' {w : World} {k : Nat} {o : Obj} (h : w.heap[k]? = some o) : k < w.heap.size := by
  rcases Nat.lt_or_ge k w.heap.size with h1 | h1
  · exact h1
  · rw [Array.getElem?_eq_none_iff.2 h1] at h; cases h
theorem RunesIn.ext {w w' : World} {RB : Nat} {lv : Value} {l : List Int} (h : RunesIn w RB lv l) (hx : Ext w w') : RunesIn w' RB lv l := by
  obtain ⟨h1, h2⟩ := h
  refine ⟨Nat.lt_of_lt_of_le h1 hx.size, ?_⟩
  rcases h2 with h2 | ⟨b, o, c, h2, h3, h4, h5, h6, h7⟩
  · exact .inl h2
  · exact .inr ⟨b, o, c, h2, h3, h4, Nat.lt_of_lt_of_le h5 hx.size, h6, fun i hi => hx.cell (h7 i hi)⟩
theorem Read_own (s : ByteArray) (w : World) (hs : s.size ≤ 1000000) (hM : Masks w) (hN : Names w) : Calls Tryz.prog 7 #[.string s] w (ReadPostS s w) := by
  have HM := Lib.hid hM; have HN := Lib.hid hN
  clear hM hN
  go_enter Tryz.func7, Tryz.ntmps7
  go_wp2_with fail
  refine (newRunes_any s _ hs).mono ?_
  rintro r w2 ⟨lv, rfl, hx2, hB2, hR2⟩
  rw [World.size_alloc] at *
  have HX2 := Lib.hid hx2; have HB2 := Lib.hid hB2; have HR2 := Lib.hid hR2
  clear hx2 hB2 hR2
  go_wp2_with fail
  obtain ⟨hsz, hrl⟩ := HR2.out
  have hx3 : Ext w2 ((w2.alloc (.cells #[.pointer (some ⟨w.heap.size + 1, 0, none⟩)] 50)).alloc (.cells #[.func (.func 19) #[] #[.pointer (some ⟨w2.heap.size, 0, none⟩), .pointer (some ⟨w2.heap.size + 1, 0, none⟩)]] 52)) := ((Ext.refl w2).alloc _).alloc _
  have hxw : Ext w w2 := ((Ext.refl w).alloc _).trans HX2.out
  have hgn : 0 < w.heap.size := by obtain ⟨t, fr, h⟩ := HN.out; exact heap_lt' h
  have hrv : ((w2.alloc (.cells #[.pointer (some ⟨w.heap.size + 1, 0, none⟩)] 50)).alloc (.cells #[.func (.func 19) #[] #[.pointer (some ⟨w2.heap.size, 0, none⟩), .pointer (some ⟨w2.heap.size + 1, 0, none⟩)]] 52)).heap[w2.heap.size]? = some (.cells #[.pointer (some ⟨w.heap.size + 1, 0, none⟩)] 50 (0, 0)) := by
    rw [Below.heap_alloc _ _ _ (by simp)]; exact heap_new _ _
  have hfv : ((w2.alloc (.cells #[.pointer (some ⟨w.heap.size + 1, 0, none⟩)] 50)).alloc (.cells #[.func (.func 19) #[] #[.pointer (some ⟨w2.heap.size, 0, none⟩), .pointer (some ⟨w2.heap.size + 1, 0, none⟩)]] 52)).heap[w2.heap.size + 1]? = some (.cells #[.func (.func 19) #[] #[.pointer (some ⟨w2.heap.size, 0, none⟩), .pointer (some ⟨w2.heap.size + 1, 0, none⟩)]] 52 (0, 0)) := by
    have := heap_new (w2.alloc (.cells #[.pointer (some ⟨w.heap.size + 1, 0, none⟩)] 50)) (.cells #[.func (.func 19) #[] #[.pointer (some ⟨w2.heap.size, 0, none⟩), .pointer (some ⟨w2.heap.size + 1, 0, none⟩)]] 52)
    rw [World.size_alloc] at this; exact this
  generalize hw3 : (w2.alloc (.cells #[.pointer (some ⟨w.heap.size + 1, 0, none⟩)] 50)).alloc (.cells #[.func (.func 19) #[] #[.pointer (some ⟨w2.heap.size, 0, none⟩), .pointer (some ⟨w2.heap.size + 1, 0, none⟩)]] 52) = w3 at *
  clear hw3
  have hB3 : w3.heap[w.heap.size + 1]? = some (.cells #[lv, .int .i64 0] 60 (0, 0)) := by rw [hx3.block _ (by omega)]; exact HB2.out
  have hE : REnv w3 (w.heap.size + 1) w2.heap.size (w2.heap.size + 1) lv (runesOf s) :=
    ⟨RunesIn.ext HR2.out hx3, hrv, hfv, by omega, by omega, (HN.out.ext hxw).ext hx3, by omega⟩
  refine (read_any _ _ _ _ _ _ hE 40 (Nat.le_refl _) 1 0 w3 (by omega) ⟨grownBy_refl _ _, hB3⟩ (Nat.zero_le _)).mono ?_
  rintro r w4 ⟨e, v, k', rfl, ⟨kv, rfl, hks⟩, hg4, hR4, hk4, hc4⟩
  obtain ⟨xa, xl, xc, rfl⟩ := hks.shape
  rw [List.drop_zero] at *
  have hR0 : w4.heap[w.heap.size]? = some (.cells zeroA 24 (0, 0)) := by
    refine grown_block hg4 (by omega) ?_
    rw [hx3.block _ (by omega), HX2.out.block _ (by simp)]; exact heap_new _ _
  have hEV : EVal w4 (.agg #[.int .i64 e.op, .int .i64 e.wd, .int .i64 e.n, .slice xa xl xc]) e := ⟨_, rfl, hks.kids⟩
  have hX4 : Ext w w4 := by
    have h3 := hxw.trans hx3
    exact ⟨hg4.os.trans h3.os, hg4.tape.trans h3.tape, hg4.output.trans h3.output, Nat.le_trans h3.size hg4.size, fun i hi => (hg4.block i (Nat.lt_of_lt_of_le hi h3.size) (by simp; omega)).trans (h3.block i hi)⟩
  obtain ⟨rv4, _⟩ := hE.cells hg4
  obtain ⟨ll4, at4, _⟩ := hR4.cells
  have HEV := Lib.hid hEV; have HX4 := Lib.hid hX4; have HR0 := Lib.hid hR0; have HC4 := Lib.hid hc4; have HKS4 := Lib.hid hks; have hgs4 := hg4.size; have hxs3 := hx3.size
  obtain ⟨W, hW⟩ : ∃ W, W = w4.alloc (.cells #[.int .i64 e.op, .int .i64 e.wd, .int .i64 e.n, .slice xa xl xc] 24) := ⟨_, rfl⟩
  have hx5 : Ext w4 W := by rw [hW]; exact (Ext.refl w4).alloc _
  have rv5 := hx5.cell rv4; have ll5 := hx5.cell ll4; have at5 := hx5.cell at4
  have hb5 : W.heap[w4.heap.size]? = some (.cells #[.int .i64 e.op, .int .i64 e.wd, .int .i64 e.n, .slice xa xl xc] 24 (0, 0)) := by rw [hW]; exact heap_new _ _
  obtain ⟨e0, e1, e2, e3, _, _, _, _⟩ := cells_of_block hb5
  have HX5 := Lib.hid hx5; have HW := Lib.hid hW
  have hRW : W.heap[w.heap.size]? = some (.cells zeroA 24 (0, 0)) := by
    rw [HX5.out.block _ (by have := heap_lt' hR0; omega)]; exact hR0
  have HRW := Lib.hid hRW
  clear hks hRW hg4 hR4 hc4 hR0 hEV hX4 hE hB3 hrv hfv hx3 hxw hb5 hx5 hW
  have hlv : ∃ la lc, lv = .slice la (runesOf s).length lc ∧ (runesOf s).length ≤ 1000000000 := by
    rcases hrl with ⟨rfl, h⟩ | ⟨b, o, c, rfl, h, _⟩
    · exact ⟨none, 0, by rw [h]; rfl, by rw [h]; simp⟩
    · exact ⟨_, _, rfl, h⟩
  obtain ⟨la, lc, rfl, hll⟩ := hlv
  clear hrl
  cases hq : readS 40 (runesOf s) with
  | none =>
    have HT : Hid (readTop s = none) := by unfold Hid readTop; rw [hq]
    clear hq HC4
    simp only [Option.isSome_none]
    go_wp2_with fail
    rw [← HW.out]
    obtain ⟨c0, c1, c2, c3, f0, f1, f2, f3⟩ := cells_of_block HRW.out
    have HP : Hid (∀ n, ReadPostS s w (.returned (.tuple #[.agg zeroA, .int .i64 130])) (put4 (W.drewN n) w.heap.size 0 (.int .i64 0) (.int .i64 0) (.int .i64 0) (.slice none 0 0))) := fun n =>
      ⟨_, by rw [HT.out]; rfl, by rw [HT.out]; exact ⟨_, rfl, .inl ⟨rfl, rfl⟩⟩, Below.trans ((HX4.out.trans HX5.out).drewN n) (below_put4 (Nat.le_refl _))⟩
    have HBP := Lib.hid (put4_new (x := .int .i64 0) (y := .int .i64 0) (z := .int .i64 0) (u := .slice none 0 0) HRW.out)
    go_quiet (fail)
    go_wp2_with fail
    exact bodyPost_ret (v := .tuple #[.agg zeroA, .int .i64 130]) (results_row_tmpR Tryz.results7 _ _ w.heap.size 24 _ (0, 0) _ rfl HBP.out Tryz.underlying24 rfl sizeExpr) rfl (HP.out _)
  | some p =>
    obtain ⟨e', c⟩ := p
    obtain ⟨rfl, hkc⟩ := HC4.out _ _ hq
    rw [Nat.zero_add] at hkc
    subst hkc
    simp only [Option.isSome_some]
    clear HC4
    by_cases hkl : k' < (runesOf s).length
    · have HT : Hid (readTop s = none) := by unfold Hid readTop; rw [hq]; simp; omega
      clear hq
      have hd : decide (k' < (runesOf s).length) = true := by simpa using hkl
      go_wp2_with fail
      rw [← HW.out]
      obtain ⟨c0, c1, c2, c3, f0, f1, f2, f3⟩ := cells_of_block HRW.out
      have HP : Hid (∀ n, ReadPostS s w (.returned (.tuple #[.agg zeroA, .int .i64 130])) (put4 (W.drewN n) w.heap.size 0 (.int .i64 0) (.int .i64 0) (.int .i64 0) (.slice none 0 0))) := fun n =>
        ⟨_, by rw [HT.out]; rfl, by rw [HT.out]; exact ⟨_, rfl, .inl ⟨rfl, rfl⟩⟩, Below.trans ((HX4.out.trans HX5.out).drewN n) (below_put4 (Nat.le_refl _))⟩
      have HBP := Lib.hid (put4_new (x := .int .i64 0) (y := .int .i64 0) (z := .int .i64 0) (u := .slice none 0 0) HRW.out)
      go_quiet (fail)
      go_wp2_with fail
      exact bodyPost_ret (v := .tuple #[.agg zeroA, .int .i64 130]) (results_row_tmpR Tryz.results7 _ _ w.heap.size 24 _ (0, 0) _ rfl HBP.out Tryz.underlying24 rfl sizeExpr) rfl (HP.out _)
    · have hd : decide (k' < (runesOf s).length) = false := by simpa using hkl
      have HT : Hid (readTop s = if e.wf then some e else none) := by
        unfold Hid readTop; rw [hq]; simp only; simp only [show k' = (runesOf s).length by omega, true_and]
      clear hq
      go_wp2_with fail
      rw [← HW.out]
      go_region_held3 (fun w' => w'.cell? ⟨w2.heap.size, 0, none⟩ = some (.pointer (some ⟨w.heap.size + 1, 0, none⟩)) ∧ w'.cell? ⟨w.heap.size + 1, 0, none⟩ = some (.slice la (runesOf s).length lc) ∧ w'.cell? ⟨w.heap.size + 1, 1, none⟩ = some (.int .i64 k') ∧ w'.cell? ⟨w4.heap.size, 0, none⟩ = some (.int .i64 e.op) ∧ w'.cell? ⟨w4.heap.size, 1, none⟩ = some (.int .i64 e.wd) ∧ w'.cell? ⟨w4.heap.size, 2, none⟩ = some (.int .i64 e.n) ∧ w'.cell? ⟨w4.heap.size, 3, none⟩ = some (.slice xa xl xc))
        (first | exact ⟨rv5, ll5, at5, e0, e1, e2, e3⟩ | (with_reducible exact hkeep))
        ((go_at_call 25; refine (wellFormed_any e _ _ (HEV.out.ext HX5.out.drew) (HM.out.ext (HX4.out.trans HX5.out).drew)).mono ?_; rintro r w6 ⟨rfl, hx6⟩; have hkeep := And.intro (hx6.cell (p := ⟨w2.heap.size, 0, none⟩) rv5) (And.intro (hx6.cell (p := ⟨w.heap.size + 1, 0, none⟩) ll5) (And.intro (hx6.cell (p := ⟨w.heap.size + 1, 1, none⟩) at5) (And.intro (hx6.cell (p := ⟨w4.heap.size, 0, none⟩) e0) (And.intro (hx6.cell (p := ⟨w4.heap.size, 1, none⟩) e1) (And.intro (hx6.cell (p := ⟨w4.heap.size, 2, none⟩) e2) (hx6.cell (p := ⟨w4.heap.size, 3, none⟩) e3)))))); have HX6 := Lib.hid hx6; clear hx6))
      have hx6 : Ext W w6 := (Ext.refl W).drew.trans HX6.out
      have hR6 : w6.heap[w.heap.size]? = some (.cells zeroA 24 (0, 0)) := by
        rw [hx6.block _ (heap_lt' HRW.out)]; exact HRW.out
      obtain ⟨c0, c1, c2, c3, f0, f1, f2, f3⟩ := cells_of_block hR6
      have HX := Lib.hid ((HX4.out.trans HX5.out).trans hx6); have HR6 := Lib.hid hR6; have HEV6 := Lib.hid ((HEV.out.ext HX5.out).ext hx6)
      obtain ⟨k0, k1, k2, k3, k4, k5, k6⟩ := hkeep
      have hsw := HX4.out.size
      have HKS : Hid (KidsS (fun b => w.heap.size < b) (put4 w6 w.heap.size 0 (.int .i64 e.op) (.int .i64 e.wd) (.int .i64 e.n) (.slice xa xl xc)) (.slice xa xl xc) e.kids) :=
        (((HKS4.out.keep (asIn_ext HX5.out)).keep (asIn_ext hx6)).keep (asIn_put4 (by omega))).mono (fun k _ h => by omega)
      clear hx6 hR6
      cases hwf : e.wf with
      | true =>
        have HP : Hid (ReadPostS s w (.returned (.tuple #[.agg #[.int .i64 e.op, .int .i64 e.wd, .int .i64 e.n, .slice xa xl xc], .int .i64 0])) (put4 w6 w.heap.size 0 (.int .i64 e.op) (.int .i64 e.wd) (.int .i64 e.n) (.slice xa xl xc))) := by
          refine ⟨_, by rw [HT.out, hwf]; rfl, ?_, Below.trans HX.out (below_put4 (Nat.le_refl _))⟩
          rw [HT.out, hwf]
          exact ⟨_, rfl, HKS.out⟩
        have HBP := Lib.hid (put4_new (x := .int .i64 e.op) (y := .int .i64 e.wd) (z := .int .i64 e.n) (u := .slice xa xl xc) HR6.out)
        clear hwf
        go_wp2_with fail
        exact bodyPost_ret (v := .tuple #[.agg #[.int .i64 e.op, .int .i64 e.wd, .int .i64 e.n, .slice xa xl xc], .int .i64 0]) (results_row_tmpR Tryz.results7 _ _ w.heap.size 24 _ (0, 0) _ rfl HBP.out Tryz.underlying24 rfl sizeExpr) rfl HP.out
      | false =>
        have HP : Hid (ReadPostS s w (.returned (.tuple #[.agg zeroA, .int .i64 130])) (put4 w6 w.heap.size 0 (.int .i64 0) (.int .i64 0) (.int .i64 0) (.slice none 0 0))) := by
          refine ⟨_, by rw [HT.out, hwf]; rfl, ?_, Below.trans HX.out (below_put4 (Nat.le_refl _))⟩
          rw [HT.out, hwf]; exact ⟨_, rfl, .inl ⟨rfl, rfl⟩⟩
        have HBP := Lib.hid (put4_new (x := .int .i64 0) (y := .int .i64 0) (z := .int .i64 0) (u := .slice none 0 0) HR6.out)
        clear hwf
        go_wp2_with fail
        exact bodyPost_ret (v := .tuple #[.agg zeroA, .int .i64 130]) (results_row_tmpR Tryz.results7 _ _ w.heap.size 24 _ (0, 0) _ rfl HBP.out Tryz.underlying24 rfl sizeExpr) rfl HP.out
theorem Read_any (s : ByteArray) (w : World) (hs : s.size ≤ 1000000) (hM : Masks w) (hN : Names w) : Calls Tryz.prog 7 #[.string s] w (ReadPost s w) :=
  (Read_own s w hs hM hN).mono fun _ _ ⟨v, h1, h2, h3⟩ => ⟨v, h1, h2.eVal, h3⟩
end Go.Proofs.YtoopoljchhdobaaGreatDoor
namespace Go.Proofs.YtoopoljchhdobaaGreatDoor
open Go.RowKit

def ofB (l : List UInt8) : List Int := l.map fun b => (b.toNat : Int)
theorem ofB_append (a b : List UInt8) : ofB (a ++ b) = ofB a ++ ofB b := by simp [ofB]
theorem ofB_length (a : List UInt8) : (ofB a).length = a.length := by simp [ofB]
theorem bytesOf_ofB (l : List UInt8) : bytesOf (ofB l) = l := by
  simp only [bytesOf, ofB, List.map_map]
  induction l with
  | nil => rfl
  | cons x r ih => simp only [List.map_cons, ih, Function.comp]; simp
theorem dig_u8 (k : Nat) (h : k < 10) : ((UInt8.ofNat (48 + k)).toNat : Int) = 48 + k := by
  rw [UInt8.toNat_ofNat']; omega
theorem itoa1 (k : Nat) (h : k < 10) : ofB (Lib.itoa k) = [48 + (k : Int)] := by
  rw [Lib.itoa, if_neg (by omega), Int.toNat_natCast, Lib.decDigits, dif_pos h]
  simp only [ofB, List.map_cons, List.map_nil, dig_u8 k h]
theorem itoa2 (k : Nat) (h : 10 ≤ k) (h1 : k < 100) : ofB (Lib.itoa k) = [48 + ((k / 10 : Nat) : Int), 48 + ((k % 10 : Nat) : Int)] := by
  rw [Lib.itoa, if_neg (by omega), Int.toNat_natCast, Lib.decDigits, dif_neg (by omega), Lib.decDigits, dif_pos (by omega)]
  simp only [ofB, List.map_cons, List.map_nil, List.singleton_append, dig_u8 (k / 10) (by omega), dig_u8 (k % 10) (by omega)]
theorem itoa3 (k : Nat) (h : 100 ≤ k) (h1 : k < 1000) : ofB (Lib.itoa k) = [48 + ((k / 10 / 10 : Nat) : Int), 48 + ((k / 10 % 10 : Nat) : Int), 48 + ((k % 10 : Nat) : Int)] := by
  rw [Lib.itoa, if_neg (by omega), Int.toNat_natCast, Lib.decDigits, dif_neg (by omega), Lib.decDigits, dif_neg (by omega), Lib.decDigits, dif_pos (by omega)]
  simp only [ofB, List.map_cons, List.map_nil, List.cons_append, List.nil_append, dig_u8 (k / 10 / 10) (by omega), dig_u8 (k / 10 % 10) (by omega), dig_u8 (k % 10) (by omega)]

/-- No digit comes next. -/
def Stop (s : List Int) : Prop := ∀ x, s.head? = some x → isDig x = false
theorem numFrom_stop {s : List Int} {j : Nat} {n : Int} (h : Stop s) (hj : 0 < j) : numFrom s j n = some (n, j) := by
  cases s with
  | nil => simp [numFrom, hj]
  | cons x r => rw [numFrom, h x rfl]; simp [hj]
theorem isDig_of (k : Nat) (h : k < 10) : isDig (48 + (k : Int)) = true := by simp [isDig]; omega
theorem numFrom_cons {x : Int} {r : List Int} {j : Nat} {n : Int} (hx : isDig x = true) (h : ¬ (j = 3 ∨ (0 < j ∧ n = 0))) : numFrom (x :: r) j n = numFrom r (j + 1) (10 * n + (x - 48)) := by
  rw [numFrom, hx, if_pos rfl, if_neg h]
theorem numS_itoa (n : Int) (h0 : 0 ≤ n) (h1 : n < 1000) (rest : List Int) (hs : Stop rest) : numS (ofB (Lib.itoa n) ++ rest) = some (n, (Lib.itoa n).length) := by
  obtain ⟨k, rfl⟩ := Int.eq_ofNat_of_zero_le h0
  rw [← ofB_length]
  unfold numS
  rcases Nat.lt_or_ge k 10 with h | h
  · rw [itoa1 k h]
    simp only [List.singleton_append, List.length_cons, List.length_nil]
    rw [numFrom_cons (isDig_of k h) (by omega), numFrom_stop hs (by omega)]
    simp; omega
  · rcases Nat.lt_or_ge k 100 with h2 | h2
    · rw [itoa2 k h h2]
      simp only [List.cons_append, List.nil_append, List.length_cons, List.length_nil]
      rw [numFrom_cons (isDig_of _ (by omega)) (by omega), numFrom_cons (isDig_of _ (by omega)) (by omega), numFrom_stop hs (by omega)]
      simp; omega
    · rw [itoa3 k h2 (by omega)]
      simp only [List.cons_append, List.nil_append, List.length_cons, List.length_nil]
      rw [numFrom_cons (isDig_of _ (by omega)) (by omega), numFrom_cons (isDig_of _ (by omega)) (by omega), numFrom_cons (isDig_of _ (by omega)) (by omega), numFrom_stop hs (by omega)]
      simp; omega
theorem drop_app {α : Type} (a b : List α) (n : Nat) (h : a.length = n) : (a ++ b).drop n = b := by subst h; simp
theorem take_app {α : Type} (a b : List α) (n : Nat) (h : a.length = n) : (a ++ b).take n = a := by subst h; simp
theorem get_app {α : Type} (a b : List α) (x : α) (n : Nat) (h : a.length = n) : (a ++ x :: b)[n]? = some x := by subst h; simp
theorem stop_colon (r : List Int) : Stop (58 :: r) := fun x hx => by simp at hx; subst hx; rfl
theorem leafS_text (op n wd : Int) (h0 : 0 ≤ n) (h1 : n < 1000) (w0 : 0 ≤ wd) (w1 : wd < 1000) (rest : List Int) (hs : Stop rest) :
    leafS op (ofB (Lib.itoa n ++ [58] ++ Lib.itoa wd) ++ rest) = some (.mk op wd n [], (Lib.itoa n).length + 1 + (Lib.itoa wd).length) := by
  have e : ofB (Lib.itoa n ++ [58] ++ Lib.itoa wd) ++ rest = ofB (Lib.itoa n) ++ 58 :: (ofB (Lib.itoa wd) ++ rest) := by simp [ofB]
  rw [e]
  unfold leafS
  rw [numS_itoa n h0 h1 _ (stop_colon _)]
  simp only []
  rw [get_app _ _ _ _ (ofB_length _), if_pos rfl]
  have e2 : (ofB (Lib.itoa n) ++ 58 :: (ofB (Lib.itoa wd) ++ rest)).drop ((Lib.itoa n).length + 1) = ofB (Lib.itoa wd) ++ rest := by
    rw [show ofB (Lib.itoa n) ++ 58 :: (ofB (Lib.itoa wd) ++ rest) = (ofB (Lib.itoa n) ++ [58]) ++ (ofB (Lib.itoa wd) ++ rest) by simp]
    exact drop_app _ _ _ (by simp [ofB_length])
  rw [e2, numS_itoa wd w0 w1 rest hs]
theorem wordN_app (l rest : List Int) (hl : ∀ x ∈ l, isLow x = true) (hr : ∀ x, rest.head? = some x → isLow x = false) : wordN (l ++ rest) = l.length := by
  induction l with
  | nil =>
    cases rest with
    | nil => rfl
    | cons x r => simp only [List.nil_append, wordN, hr x rfl]; rfl
  | cons x r ih => rw [List.cons_append, wordN, hl x (by simp), if_pos rfl, ih (fun y hy => hl y (by simp [hy])), List.length_cons]
theorem itoa_head (n : Int) (h0 : 0 ≤ n) (h1 : n < 1000) (rest : List Int) : ∀ x, (ofB (Lib.itoa n) ++ rest).head? = some x → isLow x = false := by
  obtain ⟨k, rfl⟩ := Int.eq_ofNat_of_zero_le h0
  intro x hx
  rcases Nat.lt_or_ge k 10 with h | h
  · rw [itoa1 k h] at hx; simp at hx; subst hx; simp [isLow]; omega
  · rcases Nat.lt_or_ge k 100 with h2 | h2
    · rw [itoa2 k h h2] at hx; simp at hx; subst hx; simp [isLow]; omega
    · rw [itoa3 k h2 (by omega)] at hx; simp at hx; subst hx; simp [isLow]; omega

theorem name_low (op : Int) (h4 : 4 ≤ op) (h14 : op ≤ 14) : (∀ x ∈ ofB (nameS op), isLow x = true) ∧ operatorS (nameS op) = op ∧ nameS op ≠ [] ∧ nameS op ≠ [99] ∧ nameS op ≠ [111] := by
  have : op = 4 ∨ op = 5 ∨ op = 6 ∨ op = 7 ∨ op = 8 ∨ op = 9 ∨ op = 10 ∨ op = 11 ∨ op = 12 ∨ op = 13 ∨ op = 14 := by omega
  rcases this with rfl | rfl | rfl | rfl | rfl | rfl | rfl | rfl | rfl | rfl | rfl <;> decide

theorem widthS_of {op wd n : Int} {ks : List E} (hh : shapedW op wd n (ks.map E.wd) = true) (h1 : op ≠ 1) (h2 : op ≠ 2) (h3 : op ≠ 3) : widthS op ks = wd ∧ ks ≠ [] ∧ ks.length ≤ 3 := by
  obtain ⟨_, _, _, h | h | h | h⟩ := shapedW_inner hh h1 h2 h3
  all_goals clear hh
  · obtain ⟨rfl, h⟩ := h
    match ks, h with
    | [a], h => simp at h; simp [widthS, h]
  · obtain ⟨h5, h10, h⟩ := h
    have hl : ks.length = 2 := by have := congrArg List.length h; simpa using this
    match ks, hl, h with
    | [a, b], _, h => simp at h; simp only [widthS]; rw [if_neg (by omega), if_neg (by omega)]; simp [h]
  · obtain ⟨h5, h10, rfl, u, h⟩ := h
    have hl : ks.length = 2 := by have := congrArg List.length h; simpa using this
    match ks, hl, h with
    | [a, b], _, h => simp only [widthS]; rw [if_pos (by omega)]; simp
  · obtain ⟨rfl, h⟩ := h
    have hl : ks.length = 3 := by have := congrArg List.length h; simpa using this
    match ks, hl, h with
    | [a, b, c], _, h => simp at h; simp [widthS, h]

theorem kidsS_text (d : Nat) (ih : ∀ (e : E) (rest : List Int), e.deep d = true → Stop rest → readS d (ofB e.text ++ rest) = some (e, e.text.length)) :
    ∀ (ks : List E) (e : E) (f : Nat) (rest : List Int), ks.length < f → e.deep d = true → (∀ k ∈ ks, k.deep d = true) →
      kidsS (readS d) f (ofB (e.text ++ textAll [44] ks) ++ 41 :: rest) = some (e :: ks, (e.text ++ textAll [44] ks).length) := by
  intro ks
  induction ks with
  | nil =>
    intro e f rest hf he _
    obtain ⟨f, rfl⟩ : ∃ g, f = g + 1 := ⟨f - 1, by simp at hf; omega⟩
    simp only [textAll, List.append_nil, kidsS]
    rw [ih e (41 :: rest) he (fun x hx => by simp at hx; subst hx; rfl)]
    simp only []
    rw [get_app _ _ _ _ (ofB_length _), if_neg (by simp)]
  | cons k r ihk =>
    intro e f rest hf he hk
    obtain ⟨f, rfl⟩ : ∃ g, f = g + 1 := ⟨f - 1, by simp at hf; omega⟩
    have e1 : ofB (e.text ++ textAll [44] (k :: r)) ++ 41 :: rest = ofB e.text ++ 44 :: (ofB (k.text ++ textAll [44] r) ++ 41 :: rest) := by simp [ofB, textAll]
    rw [e1]
    simp only [kidsS]
    rw [ih e _ he (fun x hx => by simp at hx; subst hx; rfl)]
    simp only []
    rw [get_app _ _ _ _ (ofB_length _), if_pos rfl]
    have e2 : (ofB e.text ++ 44 :: (ofB (k.text ++ textAll [44] r) ++ 41 :: rest)).drop (e.text.length + 1) = ofB (k.text ++ textAll [44] r) ++ 41 :: rest := by
      rw [show ofB e.text ++ 44 :: (ofB (k.text ++ textAll [44] r) ++ 41 :: rest) = (ofB e.text ++ [44]) ++ (ofB (k.text ++ textAll [44] r) ++ 41 :: rest) by simp]
      exact drop_app _ _ _ (by simp [ofB_length])
    rw [e2, ihk k f rest (by simp at hf; omega) (hk k (by simp)) (fun x hx => hk x (by simp [hx]))]
    simp [textAll]; omega

theorem readS_text : ∀ (d : Nat) (e : E) (rest : List Int), e.deep d = true → Stop rest → readS d (ofB e.text ++ rest) = some (e, e.text.length) := by
  intro d
  induction d with
  | zero => intro e rest h; cases e; simp [E.deep] at h
  | succ d ih =>
    intro e rest he hs
    obtain ⟨op, wd, n, ks⟩ := e
    by_cases ho : op = 1 ∨ op = 2 ∨ op = 3
    · have hf := leaf_facts he ho
      have hks : ks = [] := by
        simp only [E.deep, Bool.and_eq_true, decide_eq_true_eq] at he
        rcases ho with rfl | ho
        · have := (shapedW_const he.1.2).1; simpa using this
        · have := (shapedW_cell he.1.2 ho).1; simpa using this
      subst hks
      have hl := leafS_text op n wd hf.2.2.1 (by omega) (by omega) (by omega) rest hs
      rw [E.text, if_pos ho]
      rcases ho with rfl | rfl | rfl
      · have hw : wordN (ofB (letterS 1 ++ Lib.itoa n ++ [58] ++ Lib.itoa wd) ++ rest) = 0 := by
          have := wordN_app [] (ofB (Lib.itoa n ++ [58] ++ Lib.itoa wd) ++ rest) (by simp) (by
            have := itoa_head n hf.2.2.1 (by omega) (ofB ([58] ++ Lib.itoa wd) ++ rest)
            simpa [ofB] using this)
          simpa [letterS] using this
        rw [readS, hw]
        simp only [List.take_zero, bytesOf, List.map_nil, if_pos]
        have e0 : letterS 1 ++ Lib.itoa n ++ [58] ++ Lib.itoa wd = Lib.itoa n ++ [58] ++ Lib.itoa wd := by simp [letterS]
        rw [e0, hl]; simp; omega
      · have hw : wordN (ofB (letterS 2 ++ Lib.itoa n ++ [58] ++ Lib.itoa wd) ++ rest) = 1 := by
          have := wordN_app [99] (ofB (Lib.itoa n ++ [58] ++ Lib.itoa wd) ++ rest) (by simp [isLow]) (by
            have := itoa_head n hf.2.2.1 (by omega) (ofB ([58] ++ Lib.itoa wd) ++ rest)
            simpa [ofB] using this)
          simpa [letterS, ofB] using this
        have e0 : ofB (letterS 2 ++ Lib.itoa n ++ [58] ++ Lib.itoa wd) ++ rest = 99 :: (ofB (Lib.itoa n ++ [58] ++ Lib.itoa wd) ++ rest) := by simp [letterS, ofB]
        rw [readS, hw, e0]
        rw [show bytesOf ((99 :: (ofB (Lib.itoa n ++ [58] ++ Lib.itoa wd) ++ rest)).take 1) = [99] from rfl, if_neg (by simp), if_pos rfl]
        simp only [List.drop_succ_cons, List.drop_zero, hl]
        simp [letterS]; omega
      · have hw : wordN (ofB (letterS 3 ++ Lib.itoa n ++ [58] ++ Lib.itoa wd) ++ rest) = 1 := by
          have := wordN_app [111] (ofB (Lib.itoa n ++ [58] ++ Lib.itoa wd) ++ rest) (by simp [isLow]) (by
            have := itoa_head n hf.2.2.1 (by omega) (ofB ([58] ++ Lib.itoa wd) ++ rest)
            simpa [ofB] using this)
          simpa [letterS, ofB] using this
        have e0 : ofB (letterS 3 ++ Lib.itoa n ++ [58] ++ Lib.itoa wd) ++ rest = 111 :: (ofB (Lib.itoa n ++ [58] ++ Lib.itoa wd) ++ rest) := by simp [letterS, ofB]
        rw [readS, hw, e0]
        rw [show bytesOf ((111 :: (ofB (Lib.itoa n ++ [58] ++ Lib.itoa wd) ++ rest)).take 1) = [111] from rfl, if_neg (by simp), if_neg (by simp), if_pos rfl]
        simp only [List.drop_succ_cons, List.drop_zero, hl]
        simp [letterS]; omega
    · have hd := he
      simp only [E.deep, Bool.and_eq_true, decide_eq_true_eq, deepAll_iff] at hd
      have hn : n = 0 ∧ 4 ≤ op ∧ op ≤ 14 := by
        have := shapedW_inner hd.1.2 (by omega) (by omega) (by omega); exact ⟨this.1, this.2.1, this.2.2.1⟩
      obtain ⟨hwd, hne, h3⟩ := widthS_of hd.1.2 (by omega) (by omega) (by omega)
      obtain ⟨hlow, hop, hn0, hn1, hn2⟩ := name_low op hn.2.1 hn.2.2
      rw [E.text, if_neg ho]
      match ks, hne with
      | k :: r, _ =>
      have e0 : ofB (nameS op ++ textAll [40] (k :: r) ++ [41]) ++ rest = ofB (nameS op) ++ 40 :: (ofB (k.text ++ textAll [44] r) ++ 41 :: rest) := by simp [ofB, textAll]
      have hw : wordN (ofB (nameS op) ++ 40 :: (ofB (k.text ++ textAll [44] r) ++ 41 :: rest)) = (nameS op).length := by
        rw [wordN_app _ _ hlow (fun x hx => by simp at hx; subst hx; rfl), ofB_length]
      rw [e0, readS, hw, take_app _ _ _ (ofB_length _), bytesOf_ofB, if_neg hn0, if_neg hn1, if_neg hn2, hop, if_neg (by omega), get_app _ _ _ _ (ofB_length _), if_pos rfl]
      have e2 : (ofB (nameS op) ++ 40 :: (ofB (k.text ++ textAll [44] r) ++ 41 :: rest)).drop ((nameS op).length + 1) = ofB (k.text ++ textAll [44] r) ++ 41 :: rest := by
        rw [show ofB (nameS op) ++ 40 :: (ofB (k.text ++ textAll [44] r) ++ 41 :: rest) = (ofB (nameS op) ++ [40]) ++ (ofB (k.text ++ textAll [44] r) ++ 41 :: rest) by simp]
        exact drop_app _ _ _ (by simp [ofB_length])
      rw [e2, kidsS_text d ih r k 3 rest (by simp at h3; omega) (hd.2 k (by simp)) (fun x hx => hd.2 x (by simp [hx]))]
      simp only [nodeS]
      rw [get_app _ _ _ _ (ofB_length _), if_pos rfl, hwd, hn.1]
      simp [textAll]; omega
end Go.Proofs.YtoopoljchhdobaaGreatDoor
namespace Go.Proofs.YtoopoljchhdobaaGreatDoor
open Go.RowKit

theorem isDig_nat {x : Int} (h : isDig x = true) : ∃ a : Nat, a < 10 ∧ x = 48 + (a : Int) := by
  simp [isDig] at h
  exact ⟨(x - 48).toNat, by omega, by omega⟩
theorem numFrom_not {x : Int} {r : List Int} {j : Nat} {n : Int} (hx : isDig x = false) : numFrom (x :: r) j n = if 0 < j then some (n, j) else none := by
  rw [numFrom, hx]; rfl
theorem numFrom_bad' {x : Int} {r : List Int} {j : Nat} {n : Int} (hx : isDig x = true) (h : j = 3 ∨ (0 < j ∧ n = 0)) : numFrom (x :: r) j n = none := by
  rw [numFrom, hx, if_pos rfl, if_pos h]
theorem num3 (r : List Int) (m : Int) (p : Int × Nat) (h : numFrom r 3 m = some p) : p = (m, 3) := by
  cases r with
  | nil => simp [numFrom] at h; exact h.symm
  | cons x r =>
    cases hx : isDig x with
    | true => rw [numFrom_bad' hx (.inl rfl)] at h; cases h
    | false => rw [numFrom_not hx] at h; simp at h; exact h.symm
theorem numS_inv {s : List Int} {n : Int} {c : Nat} (h : numS s = some (n, c)) : s.take c = ofB (Lib.itoa n) ∧ c ≤ s.length := by
  unfold numS at h
  match s, h with
  | [], h => simp [numFrom] at h
  | x :: r, h =>
    cases hx : isDig x with
    | false => rw [numFrom_not hx] at h; simp at h
    | true =>
      rw [numFrom_cons hx (by omega)] at h
      obtain ⟨a, ha, rfl⟩ := isDig_nat hx
      have one : n = (a : Int) ∧ c = 1 → ((48 + (a : Int)) :: r).take c = ofB (Lib.itoa n) ∧ c ≤ ((48 + (a : Int)) :: r).length := by
        rintro ⟨rfl, rfl⟩; rw [itoa1 a ha]; simp
      match r, h, one with
      | [], h, one => simp [numFrom] at h; exact one ⟨by omega, by omega⟩
      | y :: r2, h, one =>
        cases hy : isDig y with
        | false => rw [numFrom_not hy] at h; simp at h; exact one ⟨by omega, by omega⟩
        | true =>
          by_cases ha0 : a = 0
          · rw [numFrom_bad' hy (.inr ⟨by omega, by omega⟩)] at h; cases h
          rw [numFrom_cons hy (by omega)] at h
          obtain ⟨b, hb, rfl⟩ := isDig_nat hy
          have two : n = ((10 * a + b : Nat) : Int) ∧ c = 2 → ((48 + (a : Int)) :: (48 + (b : Int)) :: r2).take c = ofB (Lib.itoa n) ∧ c ≤ ((48 + (a : Int)) :: (48 + (b : Int)) :: r2).length := by
            rintro ⟨rfl, rfl⟩; rw [itoa2 _ (by omega) (by omega), show (10 * a + b) / 10 = a by omega, show (10 * a + b) % 10 = b by omega]; simp
          match r2, h, two with
          | [], h, two => simp [numFrom] at h; exact two ⟨by omega, by omega⟩
          | z :: r3, h, two =>
            cases hz : isDig z with
            | false => rw [numFrom_not hz] at h; simp at h; exact two ⟨by omega, by omega⟩
            | true =>
              rw [numFrom_cons hz (by omega)] at h
              obtain ⟨d, hd, rfl⟩ := isDig_nat hz
              have := num3 _ _ _ h
              simp only [Prod.mk.injEq] at this
              obtain ⟨rfl, rfl⟩ := this
              rw [show (10 * (10 * (10 * 0 + (48 + (a : Int) - 48)) + (48 + (b : Int) - 48)) + (48 + (d : Int) - 48)) = ((100 * a + 10 * b + d : Nat) : Int) by omega, itoa3 _ (by omega) (by omega),
                show (100 * a + 10 * b + d) / 10 / 10 = a by omega, show (100 * a + 10 * b + d) / 10 % 10 = b by omega, show (100 * a + 10 * b + d) % 10 = d by omega]
              simp
theorem take_get {α : Type} {s : List α} {m : Nat} {x : α} (h : s[m]? = some x) : s.take (m + 1) = s.take m ++ [x] ∧ m + 1 ≤ s.length := by
  have hm : m < s.length := by
    rcases Nat.lt_or_ge m s.length with h1 | h1
    · exact h1
    · rw [List.getElem?_eq_none h1] at h; cases h
  exact ⟨by rw [List.take_add_one, h]; rfl, hm⟩
theorem take_more {α : Type} (s : List α) (a b : Nat) : s.take (a + b) = s.take a ++ (s.drop a).take b := List.take_add
theorem leafS_inv {op : Int} {s : List Int} {e : E} {c : Nat} (h : leafS op s = some (e, c)) : ∃ n wd, e = .mk op wd n [] ∧ s.take c = ofB (Lib.itoa n ++ [58] ++ Lib.itoa wd) ∧ c ≤ s.length := by
  unfold leafS at h
  split at h
  · cases h
  · next n c1 h1 =>
    split at h
    · next h58 =>
      split at h
      · cases h
      · next wd c2 h2 =>
        simp only [Option.some.injEq, Prod.mk.injEq] at h
        obtain ⟨rfl, rfl⟩ := h
        obtain ⟨t1, l1⟩ := numS_inv h1
        obtain ⟨t2, l2⟩ := numS_inv h2
        obtain ⟨t3, l3⟩ := take_get h58
        rw [List.length_drop] at l2
        refine ⟨n, wd, rfl, ?_, by omega⟩
        rw [take_more, t3, t1, t2]
        simp [ofB]
    · cases h
theorem ofB_bytesOf {l : List Int} (h : ∀ x ∈ l, isLow x = true) : ofB (bytesOf l) = l := by
  induction l with
  | nil => rfl
  | cons x r ih =>
    have hx := h x (by simp)
    simp [isLow] at hx
    rw [bytesOf, List.map_cons, ofB, List.map_cons]
    have e : ((UInt8.ofNat x.toNat).toNat : Int) = x := by rw [UInt8.toNat_ofNat']; omega
    rw [e]
    congr 1
    exact ih fun y hy => h y (by simp [hy])
theorem operatorS_inv {w : List UInt8} (h : operatorS w ≠ 0) : nameS (operatorS w) = w ∧ 4 ≤ operatorS w := by
  unfold operatorS at h ⊢
  repeat' split
  all_goals first | (subst_vars; decide) | skip
  simp_all
theorem kidsS_inv {rd : List Int → Option (E × Nat)} (hrd : ∀ s e c, rd s = some (e, c) → s.take c = ofB e.text ∧ c ≤ s.length) :
    ∀ (f : Nat) (s : List Int) (ks : List E) (c : Nat), kidsS rd f s = some (ks, c) → ∃ k r, ks = k :: r ∧ s.take c = ofB (k.text ++ textAll [44] r) ∧ c ≤ s.length := by
  intro f
  induction f with
  | zero => intro s ks c h; cases h
  | succ f ih =>
    intro s ks c h
    simp only [kidsS] at h
    split at h
    · cases h
    · next e c1 h1 =>
      obtain ⟨t1, l1⟩ := hrd _ _ _ h1
      split at h
      · next h44 =>
        split at h
        · cases h
        · next es c2 h2 =>
          simp only [Option.some.injEq, Prod.mk.injEq] at h
          obtain ⟨rfl, rfl⟩ := h
          obtain ⟨k, r, rfl, t2, l2⟩ := ih _ _ _ h2
          obtain ⟨t3, l3⟩ := take_get h44
          rw [List.length_drop] at l2
          refine ⟨e, k :: r, rfl, ?_, by omega⟩
          rw [take_more, t3, t1, t2]
          simp [ofB, textAll]
      · simp only [Option.some.injEq, Prod.mk.injEq] at h
        obtain ⟨rfl, rfl⟩ := h
        exact ⟨e, [], rfl, by simpa [textAll] using t1, l1⟩
theorem readS_inv : ∀ (d : Nat) (s : List Int) (e : E) (c : Nat), readS d s = some (e, c) → s.take c = ofB e.text ∧ c ≤ s.length := by
  intro d
  induction d with
  | zero => intro s e c h; cases h
  | succ d ih =>
    intro s e c h
    have hlow := ofB_bytesOf (wordN_low s)
    have hle := wordN_le s
    rw [readS] at h
    split at h
    · next hw =>
      obtain ⟨n, wd, rfl, t, l⟩ := leafS_inv h
      exact ⟨by rw [t, E.text, if_pos (by simp)]; simp [letterS], l⟩
    split at h
    · next hw =>
      obtain ⟨p, h1, h2⟩ := Option.map_eq_some_iff.1 h
      obtain ⟨e1, c1⟩ := p
      simp only [Prod.mk.injEq] at h2
      obtain ⟨rfl, rfl⟩ := h2
      obtain ⟨n, wd, rfl, t, l⟩ := leafS_inv h1
      rw [List.length_drop] at l
      rw [hw] at hlow
      exact ⟨by rw [take_more, t, ← hlow, E.text, if_pos (by simp)]; simp [letterS, ofB], by omega⟩
    split at h
    · next hw =>
      obtain ⟨p, h1, h2⟩ := Option.map_eq_some_iff.1 h
      obtain ⟨e1, c1⟩ := p
      simp only [Prod.mk.injEq] at h2
      obtain ⟨rfl, rfl⟩ := h2
      obtain ⟨n, wd, rfl, t, l⟩ := leafS_inv h1
      rw [List.length_drop] at l
      rw [hw] at hlow
      exact ⟨by rw [take_more, t, ← hlow, E.text, if_pos (by simp)]; simp [letterS, ofB], by omega⟩
    split at h
    · cases h
    next hop =>
    obtain ⟨hname, h4⟩ := operatorS_inv hop
    split at h
    · next h40 =>
      unfold nodeS at h
      split at h
      · cases h
      · next ks c1 hk =>
        obtain ⟨k, r, rfl, t2, l2⟩ := kidsS_inv ih _ _ _ _ hk
        obtain ⟨t1, l1⟩ := take_get h40
        split at h
        · next h41 =>
          simp only [Option.some.injEq, Prod.mk.injEq] at h
          obtain ⟨rfl, rfl⟩ := h
          obtain ⟨t3, l3⟩ := take_get h41
          rw [List.length_drop] at l3
          refine ⟨?_, by omega⟩
          rw [Nat.add_assoc, take_more, t1, t3, t2, E.text, if_neg (by omega), hname, ofB_append (bytesOf _ ++ _), ofB_append (bytesOf _), hlow]
          simp [ofB, textAll]
        · cases h
    · cases h

/-- The text is of ASCII letters. -/
theorem dec_ascii : ∀ (u : Nat), ∀ x ∈ Lib.decDigits u, x.toNat < 128 := by
  intro u
  induction u using Nat.strongRecOn with
  | ind u ih =>
    intro x hx
    rw [Lib.decDigits] at hx
    split at hx
    · rw [List.mem_singleton] at hx; subst hx; rw [UInt8.toNat_ofNat']; omega
    · rcases List.mem_append.1 hx with hx | hx
      · exact ih (u / 10) (by omega) x hx
      · rw [List.mem_singleton] at hx; subst hx; rw [UInt8.toNat_ofNat']; omega
theorem itoa_ascii (n : Int) : ∀ x ∈ Lib.itoa n, x.toNat < 128 := by
  intro x hx
  unfold Lib.itoa at hx
  split at hx
  · rcases List.mem_cons.1 hx with rfl | hx
    · decide
    · exact dec_ascii _ x hx
  · exact dec_ascii _ x hx
theorem nameS_ascii (op : Int) : ∀ x ∈ nameS op, x.toNat < 128 := by
  intro x hx
  unfold nameS at hx
  by_cases h : (op - 4).toNat < 11
  · rcases names_cases h with h | h | h | h | h | h | h | h | h | h | h <;> rw [h] at hx <;> revert x <;> decide
  · rw [List.getD_eq_getElem?_getD, List.getElem?_eq_none (by show 11 ≤ _; omega)] at hx; cases hx
mutual
theorem text_ascii : (e : E) → ∀ x ∈ e.text, x.toNat < 128
  | .mk op wd n ks => by
    intro x hx
    rw [E.text] at hx
    split at hx
    · simp only [List.append_assoc, List.mem_append] at hx
      rcases hx with hx | hx | hx | hx
      · unfold letterS at hx; split at hx
        · simp at hx; subst hx; decide
        · split at hx
          · simp at hx; subst hx; decide
          · cases hx
      · exact itoa_ascii n x hx
      · simp at hx; subst hx; decide
      · exact itoa_ascii wd x hx
    · simp only [List.append_assoc, List.mem_append] at hx
      rcases hx with hx | hx | hx
      · exact nameS_ascii op x hx
      · exact textAll_ascii ks [40] (by simp) x hx
      · simp at hx; subst hx; decide
theorem textAll_ascii : (ks : List E) → (sep : List UInt8) → (∀ x ∈ sep, x.toNat < 128) → ∀ x ∈ textAll sep ks, x.toNat < 128
  | [], _, _ => by intro x hx; simp [textAll] at hx
  | e :: r, sep, hs => by
    intro x hx
    simp only [textAll, List.mem_append] at hx
    rcases hx with (hx | hx) | hx
    · exact hs x hx
    · exact text_ascii e x hx
    · exact textAll_ascii r [44] (by simp) x hx
end

theorem runesFrom_ascii (s : ByteArray) : ∀ (fuel pos : Nat), s.size ≤ pos + fuel → ((∀ x ∈ s.data.toList, x.toNat < 128) ∨ (∀ x ∈ runesFrom s fuel pos, x < 128)) → runesFrom s fuel pos = ofB (s.data.toList.drop pos) := by
  intro fuel
  induction fuel with
  | zero => intro pos h _; rw [runesFrom, List.drop_eq_nil_of_le (by rw [Array.length_toList]; exact h)]; rfl
  | succ fuel ih =>
    intro pos h hc
    rw [runesFrom]
    split
    · next hp =>
      have hb : (s[pos]'hp).toNat < 128 := by
        rcases hc with hc | hc
        · exact hc _ (by show s.data[pos] ∈ _; simp)
        · rw [runesFrom, if_pos hp] at hc
          have := hc _ (List.mem_cons_self ..)
          rcases Nat.lt_or_ge (s[pos]'hp).toNat 128 with h1 | h1
          · exact h1
          · have := (decode_high s pos hp h1).1; omega
      rw [decode_ascii s pos hp hb]
      have hd : s.data.toList.drop pos = s[pos]'hp :: s.data.toList.drop (pos + 1) := by
        rw [List.drop_eq_getElem_cons (by rw [Array.length_toList]; exact hp)]; rfl
      rw [hd, ofB, List.map_cons]
      congr 1
      refine ih (pos + 1) (by omega) (hc.imp id fun hc => ?_)
      rw [runesFrom, if_pos hp, decode_ascii s pos hp hb] at hc
      exact fun x hx => hc x (by simp [hx])
    · next hp => rw [List.drop_eq_nil_of_le (by rw [Array.length_toList]; show s.size ≤ pos; omega)]; rfl
theorem ofB_inj {a b : List UInt8} (h : ofB a = ofB b) : a = b := by rw [← bytesOf_ofB a, h, bytesOf_ofB]

theorem wf_text {e : E} (h : e.wf = true) : e.textTop = e.text := by rw [E.textTop, if_pos h]
/-- Reading the text of a well-formed expression. -/
theorem readTop_text {e : E} (h : e.wf = true) (s : ByteArray) (hs : s.data.toList = e.textTop) : readTop s = some e := by
  rw [wf_text h] at hs
  have hr : runesOf s = ofB e.text := by
    rw [runesOf, runesFrom_ascii s s.size 0 (by omega) (.inl (by rw [hs]; exact text_ascii e)), List.drop_zero, hs]
  have := readS_text 40 e [] (wf_deep h) (fun x hx => by simp at hx)
  rw [List.append_nil] at this
  rw [readTop, hr, this]
  simp [ofB_length, h]
/-- What can be read is the text of the result. -/
theorem textTop_read {e : E} (s : ByteArray) (h : readTop s = some e) : e.wf = true ∧ s.data.toList = e.textTop := by
  unfold readTop at h
  split at h
  · next e' c h1 =>
    split at h
    · next hc =>
      obtain rfl := Option.some.inj h
      obtain ⟨t, _⟩ := readS_inv _ _ _ _ h1
      rw [hc.1, List.take_length] at t
      refine ⟨hc.2, ?_⟩
      have hr : runesOf s = ofB s.data.toList := by
        rw [runesOf, runesFrom_ascii s s.size 0 (by omega) (.inr (by
          intro x hx
          rw [show runesFrom s s.size 0 = _ from t] at hx
          obtain ⟨b, hb, rfl⟩ := List.mem_map.1 hx
          have := text_ascii _ b hb
          omega)), List.drop_zero]
      rw [wf_text hc.2]
      exact ofB_inj (hr.symm.trans t)
    · cases h
  · cases h
end Go.Proofs.YtoopoljchhdobaaGreatDoor
