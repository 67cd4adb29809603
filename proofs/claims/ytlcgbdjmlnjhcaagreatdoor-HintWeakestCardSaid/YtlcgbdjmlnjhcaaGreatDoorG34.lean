/-
  The references' Small, Formed, Parts of conditions.
  Plain laws of decide: its lists are the condition's cells; its numbers reach every pair of states.
-/
import Derived.Test.YtlcgbdjmlnjhcaaGreatDoorG24
import Derived.Test.YtlcgbdjmlnjhcaaGreatDoorG10
import Derived.Test.YtlcgbdjmlnjhcaaGreatDoorG33
import Derived.Test.YtlcgbdjmlnjhcaaGreatDoorG30
namespace Go.Proofs.YtlcgbdjmlnjhcaaGreatDoor
open Go.RowKit
attribute [local go_sem] Oper.semAt_some

def small22S (cells : List CellD) (c : CondS) (m : Int) : Bool := decide (cells.length ≤ 40) && (decide ((c.hyp.size : Int) ≤ m) && decide ((c.goal.size : Int) ≤ m))
set_option maxRecDepth 100000 in
set_option maxHeartbeats 2000000 in
theorem RSmall22_any (cells : List CellD) (c : CondS) (kv v : Value) (m : Int) (w : World) (hC : Cells w kv cells) (hv : CondV w v c) (h0 : 0 ≤ m) (h1 : m ≤ 1000) :
    Calls Tryz.prog 32 #[kv, v, .int .i64 m] w fun r w' => r = .returned (.bool (small22S cells c m)) ∧ Ext w w' := by
  obtain ⟨ha, hl1, hc, ga, gl, gc, rfl, he1, he2⟩ := hv
  obtain ⟨ka, kc, rfl⟩ := SliceAt.shape hC
  have H1 : Hid (∀ w', Ext w w' → Calls Tryz.prog 14 #[.agg #[.int .i64 c.hyp.op, .int .i64 c.hyp.wd, .int .i64 c.hyp.n, .slice ha hl1 hc], .int .i64 m] w' fun r w2 => r = .returned (.bool (decide ((c.hyp.size : Int) ≤ m))) ∧ Ext w' w2) := fun w' he => RSmall_any c.hyp _ w' m (he1.ext he) h0 h1
  have H2 : Hid (∀ w', Ext w w' → Calls Tryz.prog 14 #[.agg #[.int .i64 c.goal.op, .int .i64 c.goal.wd, .int .i64 c.goal.n, .slice ga gl gc], .int .i64 m] w' fun r w2 => r = .returned (.bool (decide ((c.goal.size : Int) ≤ m))) ∧ Ext w' w2) := fun w' he => RSmall_any c.goal _ w' m (he2.ext he) h0 h1
  have HU : Hid (small22S cells c m = (decide (cells.length ≤ 40) && (decide ((c.hyp.size : Int) ≤ m) && decide ((c.goal.size : Int) ≤ m)))) := rfl
  generalize decide ((c.hyp.size : Int) ≤ m) = b1 at *
  generalize decide ((c.goal.size : Int) ≤ m) = b2 at *
  clear he1 he2 h0 h1 hC
  obtain ⟨W, hW⟩ : ∃ W, W = w.alloc (.cells (condCells c ha hl1 hc ga gl gc) 27) := ⟨_, rfl⟩
  have hX : Ext w W := by rw [hW]; exact (Ext.refl _).alloc _
  have hat : CondAt W w.heap.size c ha hl1 hc ga gl gc := by rw [hW]; exact heap_new _ _
  have HX := Lib.hid hX; have HW := Lib.hid hW
  obtain ⟨⟨q0, q1, q2, q3⟩, p0, p1, p2, p3⟩ := And.intro hat.hyp hat.goal
  clear hW hX hat
  unfold condCells at *
  go_enter Tryz.func32, Tryz.ntmps32
  go_upto_region 1 with fail
  rw [← HW.out]
  clear HW
  generalize w.heap.size = b at *
  by_cases hL : cells.length ≤ 40
  · rw [decide_eq_true hL] at HU
    cases b1 with
    | false =>
      go_wp2_with (go_at_call 14; refine (H1.out _ HX.out).mono ?_; rintro r w1 ⟨rfl, x1⟩; have HX1 := Lib.hid (HX.out.trans x1); clear x1)
      go_ret
      rw [HU.out]; exact ⟨rfl, HX1.out⟩
    | true =>
      go_wp2_with fail
      refine (H1.out _ HX.out).mono ?_
      rintro r w1 ⟨rfl, x1⟩
      have HX1 := Lib.hid (HX.out.trans x1)
      replace p0 := x1.cell p0; replace p1 := x1.cell p1; replace p2 := x1.cell p2; replace p3 := x1.cell p3
      clear x1 q0 q1 q2 q3
      go_wp2_with fail
      refine (H2.out _ HX1.out).mono ?_
      rintro r w2 ⟨rfl, x2⟩
      have HX2 := Lib.hid (HX1.out.trans x2)
      clear x2
      cases b2 with
      | false =>
        go_wp2_with fail
        go_ret
        rw [HU.out]; exact ⟨rfl, HX2.out⟩
      | true =>
        go_wp2_with fail
        go_ret
        rw [HU.out]; exact ⟨rfl, HX2.out⟩
  · rw [decide_eq_false hL] at HU
    go_wp2_with fail
    go_ret
    rw [HU.out]; exact ⟨rfl, HX.out⟩

/-- The cells of the states before and after; a condition on a step. -/
def partP (c : CondS) : List Int := if occL c.hyp.supOld c.goal.supOld = [] then occL c.hyp.supNow c.goal.supNow else occL c.hyp.supOld c.goal.supOld
def partQ (c : CondS) : List Int := if occL c.hyp.supOld c.goal.supOld = [] then [] else occL c.hyp.supNow c.goal.supNow
def partS (c : CondS) : Bool := !decide (occL c.hyp.supOld c.goal.supOld = [])
set_option maxRecDepth 100000 in
set_option maxHeartbeats 2000000 in
theorem RParts_any (c : CondS) (v : Value) (w : World) (hv : CondV w v c) :
    Calls Tryz.prog 16 #[v] w fun r w' => (∃ v1 v2, r = .returned (.tuple #[v1, v2, .bool (partS c)]) ∧ Ints w' v1 (partP c) ∧ Ints w' v2 (partQ c)) ∧ Ext w w' := by
  have HCV := hv
  obtain ⟨ha, hl, hcp, ga, gl, gc, rfl, e1, e2⟩ := hv
  obtain ⟨W, hW⟩ : ∃ W, W = w.alloc (.cells (condCells c ha hl hcp ga gl gc) 27) := ⟨_, rfl⟩
  have hX : Ext w W := by rw [hW]; exact (Ext.refl _).alloc _
  have hat : CondAt W w.heap.size c ha hl hcp ga gl gc := by rw [hW]; exact heap_new _ _
  obtain ⟨⟨d0, d1, d2, d3, d4, d5, d6, d7, d8, d9, d10, d11, d12, d13⟩, _⟩ := blocks14 hat
  have HOC := Lib.hid (ROccur_any c _ W (HCV.ext hX))
  have hlo := occL_len c.hyp.supOld c.goal.supOld
  have HX := Lib.hid hX; have HW := Lib.hid hW
  have HP : Hid (partP c = if occL c.hyp.supOld c.goal.supOld = [] then occL c.hyp.supNow c.goal.supNow else occL c.hyp.supOld c.goal.supOld) := rfl
  have HQ : Hid (partQ c = if occL c.hyp.supOld c.goal.supOld = [] then [] else occL c.hyp.supNow c.goal.supNow) := rfl
  have HS : Hid (partS c = !decide (occL c.hyp.supOld c.goal.supOld = [])) := rfl
  clear HCV e1 e2 hX hW hat
  unfold condCells at *
  go_enter Tryz.func16, Tryz.ntmps16
  go_upto_region 1 with fail
  rw [← HW.out]
  clear HW
  generalize w.heap.size = b at *
  go_wp2_with fail
  refine HOC.out.mono ?_
  rintro r w1 ⟨⟨v1, v2, rfl, i1, i2⟩, x1⟩
  generalize occL c.hyp.supOld c.goal.supOld = o at *
  generalize occL c.hyp.supNow c.goal.supNow = n at *
  obtain ⟨a1, b1, rfl⟩ := i1.shape
  obtain ⟨a2, b2, rfl⟩ := i2.shape
  have I1 := Lib.hid i1; have I2 := Lib.hid i2; have X1 := Lib.hid (HX.out.trans x1)
  clear i1 i2 x1 HOC d0 d1 d2 d3 d4 d5 d6 d7 d8 d9 d10 d11 d12 d13
  by_cases ho : o = []
  · subst ho
    rw [if_pos rfl] at HP HQ
    have HS' : Hid (partS c = false) := by rw [Hid, HS.out]; rfl
    clear HS
    go_wp2_with fail
    refine bodyPost_ret (v := .tuple #[.slice a2 n.length b2, .slice none 0 0, .bool false]) (by simp [results, Tryz.results16, go_sem]) rfl ?_
    exact ⟨⟨_, _, by rw [HS'.out], by rw [HP.out]; exact I2.out, by rw [HQ.out]; exact .inl ⟨⟨_, _, rfl⟩, rfl⟩⟩, X1.out⟩
  · rw [if_neg ho] at HP HQ
    have HS' : Hid (partS c = true) := by rw [Hid, HS.out, decide_eq_false ho]; rfl
    have hp : 0 < o.length := List.length_pos_iff.2 ho
    clear HS ho
    go_wp2_with fail
    refine bodyPost_ret (v := .tuple #[.slice a1 o.length b1, .slice a2 n.length b2, .bool true]) (by simp [results, Tryz.results16, go_sem]) rfl ?_
    exact ⟨⟨_, _, by rw [HS'.out], by rw [HP.out]; exact I1.out, by rw [HQ.out]; exact I2.out⟩, X1.out⟩

def formCC (cells : List CellD) (c : CondS) : Bool := c.hyp.valid cells true && (c.goal.valid cells true && ((c.hyp.wd == 1) && (c.goal.wd == 1)))
set_option maxRecDepth 100000 in
set_option maxHeartbeats 2000000 in
theorem RFormed32_any (cells : List CellD) (c : CondS) (kv v : Value) (w : World) (hC : Cells w kv cells) (hv : CondV w v c) :
    Calls Tryz.prog 33 #[kv, v] w fun r w' => r = .returned (.bool (formCC cells c)) ∧ Ext w w' := by
  obtain ⟨ha, hl, hcp, ga, gl, gc, rfl, e1, e2⟩ := hv
  obtain ⟨ka, kc, rfl⟩ := SliceAt.shape hC
  obtain ⟨W, hW⟩ : ∃ W, W = w.alloc (.cells (condCells c ha hl hcp ga gl gc) 27) := ⟨_, rfl⟩
  have hX : Ext w W := by rw [hW]; exact (Ext.refl _).alloc _
  have hat : CondAt W w.heap.size c ha hl hcp ga gl gc := by rw [hW]; exact heap_new _ _
  obtain ⟨⟨q0, q1, q2, q3⟩, p0, p1, p2, p3⟩ := And.intro hat.hyp hat.goal
  have HC := Lib.hid (hC.ext hX); have HE1 := Lib.hid (e1.ext hX); have HE2 := Lib.hid (e2.ext hX)
  have HX := Lib.hid hX; have HW := Lib.hid hW
  have HV1 := Lib.hid (RValid_any c.hyp cells _ _ true W HE1.out HC.out)
  have HF : Hid (formCC cells c = (c.hyp.valid cells true && (c.goal.valid cells true && ((c.hyp.wd == 1) && (c.goal.wd == 1))))) := rfl
  clear hC hX hat e1 e2 hW
  unfold condCells at *
  go_enter Tryz.func33, Tryz.ntmps33
  go_upto_region 1 with fail
  rw [← HW.out]
  clear HW
  generalize w.heap.size = b at *
  go_wp2_with fail
  refine HV1.out.mono ?_
  rintro r w1 ⟨rfl, x1⟩
  have X1 := Lib.hid x1
  have q11 := x1.cell q1
  replace p0 := x1.cell p0; replace p1 := x1.cell p1; replace p2 := x1.cell p2; replace p3 := x1.cell p3
  clear x1 q0 q1 q2 q3 HV1
  generalize c.hyp.valid cells true = z1 at *
  cases z1 with
  | false =>
    go_wp2_with fail
    go_ret
    rw [HF.out]; exact ⟨rfl, HX.out.trans X1.out⟩
  | true =>
    have HV2 := Lib.hid (RValid_any c.goal cells _ _ true w1 (HE2.out.ext X1.out) (HC.out.ext X1.out))
    go_wp2_with fail
    refine HV2.out.mono ?_
    rintro r w2 ⟨rfl, x2⟩
    have X2 := Lib.hid (X1.out.trans x2)
    have q12 := x2.cell q11; have p12 := x2.cell p1
    clear x2 p0 p1 p2 p3 q11 HV2
    generalize c.goal.valid cells true = z2 at *
    cases z2 with
    | false =>
      go_wp2_with fail
      go_ret
      rw [HF.out]; exact ⟨rfl, HX.out.trans X2.out⟩
    | true =>
      cases z3 : (c.hyp.wd == 1) with
      | false =>
        rw [z3] at HF
        go_wp2_with fail
        go_ret
        rw [HF.out]; exact ⟨rfl, HX.out.trans X2.out⟩
      | true =>
        rw [z3] at HF
        cases z4 : (c.goal.wd == 1) with
        | false =>
          rw [z4] at HF
          go_wp2_with fail
          go_ret
          rw [HF.out]; exact ⟨rfl, HX.out.trans X2.out⟩
        | true =>
          rw [z4] at HF
          go_wp2_with fail
          go_ret
          rw [HF.out]; exact ⟨rfl, HX.out.trans X2.out⟩
end Go.Proofs.YtlcgbdjmlnjhcaaGreatDoor
namespace Go.Proofs.YtlcgbdjmlnjhcaaGreatDoor

theorem inc_ext : ∀ {l l' : List Int}, l.Pairwise (· < ·) → l'.Pairwise (· < ·) → (∀ x, x ∈ l ↔ x ∈ l') → l = l' := by
  intro l
  induction l with
  | nil =>
    intro l' _ _ h
    cases l' with
    | nil => rfl
    | cons a r => exact absurd ((h a).2 (by simp)) (by simp)
  | cons a r ih =>
    intro l' hl hl' h
    cases l' with
    | nil => exact absurd ((h a).1 (by simp)) (by simp)
    | cons b s =>
      rw [List.pairwise_cons] at hl hl'
      have hab : a = b := by
        have h1 := (h a).1 (by simp)
        have h2 := (h b).2 (by simp)
        rcases List.mem_cons.1 h1 with e | e
        · exact e
        rcases List.mem_cons.1 h2 with e2 | e2
        · exact e2.symm
        · have := hl.1 b e2; have := hl'.1 a e; omega
      subst hab
      rw [ih hl.2 hl'.2 fun x => ?_]
      constructor
      · intro hx
        rcases List.mem_cons.1 ((h x).1 (by simp [hx])) with e | e
        · subst e; exact absurd (hl.1 x hx) (by omega)
        · exact e
      · intro hx
        rcases List.mem_cons.1 ((h x).2 (by simp [hx])) with e | e
        · subst e; exact absurd (hl'.1 x hx) (by omega)
        · exact e
section
variable {cells : List CellD} {h g : E} (hh : formC cells h) (hg : formC cells g)
include hh hg
theorem union_old : unionL h.supOld g.supOld = hOld cells h g := by
  obtain ⟨u1, u2⟩ := unionL_law h.supOld g.supOld
  have key : ∀ e : E, formC cells e → ∀ x ∈ e.supOld, ∃ j : Nat, x = (j : Int) ∧ j < 32 ∧ j < cells.length := fun e he x hx => by
    obtain ⟨y, hy, h3, hn⟩ := sup_leaf.2 hx
    obtain ⟨j, hj, h32, hl, _⟩ := form_leaf he hy (.inr h3)
    exact ⟨j, by rw [← hn, hj], h32, hl⟩
  refine inc_ext u1 ?_ fun x => ?_
  · unfold hOld chooseL upTo
    rw [List.pairwise_map]
    exact (List.Pairwise.filter _ List.pairwise_lt_range).imp fun h => Int.ofNat_lt.2 h
  · rw [u2]
    unfold hOld
    rw [choose_mem]
    constructor
    · intro hx
      obtain ⟨j, e, h32, hl⟩ := hx.elim (key h hh x) (key g hg x)
      exact ⟨j, e, h32, hl, hx⟩
    · rintro ⟨j, _, _, _, hx⟩; exact hx
theorem union_now : unionL h.supNow g.supNow = hNow cells h g := by
  obtain ⟨u1, u2⟩ := unionL_law h.supNow g.supNow
  have key : ∀ e : E, formC cells e → ∀ x ∈ e.supNow, ∃ j : Nat, x = (j : Int) ∧ j < 32 ∧ j < cells.length := fun e he x hx => by
    obtain ⟨y, hy, h3, hn⟩ := sup_leaf.1 hx
    obtain ⟨j, hj, h32, hl, _⟩ := form_leaf he hy (.inl h3)
    exact ⟨j, by rw [← hn, hj], h32, hl⟩
  refine inc_ext u1 ?_ fun x => ?_
  · unfold hNow chooseL upTo
    rw [List.pairwise_map]
    exact (List.Pairwise.filter _ List.pairwise_lt_range).imp fun h => Int.ofNat_lt.2 h
  · rw [u2]
    unfold hNow
    rw [choose_mem]
    constructor
    · intro hx
      obtain ⟨j, e, h32, hl⟩ := hx.elim (key h hh x) (key g hg x)
      exact ⟨j, e, h32, hl, hx⟩
    · rintro ⟨j, _, _, _, hx⟩; exact hx
end
/-- The digits of a number at the listed places of a state. -/
def DigL (cs ws : List Int) (n : Int) (r : List Int) : Prop := ∀ i, i < cs.length → elemS r (cs.getD i 0) = n / pw (sumI (ws.take i)) % pw (ws.getD i 0)
theorem numS_dig {cs ws : List Int} (hs : smallB cs ws = true) (st : List Int) {i : Nat} (hi : i < cs.length) : numS cs ws st / pw (sumI (ws.take i)) % pw (ws.getD i 0) = elemS st (cs.getD i 0) % pw (ws.getD i 0) := by
  obtain ⟨h1, hwd, _, _⟩ := small_sum hs
  obtain ⟨hl, _, _⟩ := shape_iff.1 h1
  have hN : numS cs ws st = (numTo cs ws st cs.length).1 := by unfold numS; rw [hs, if_pos rfl]
  rw [hN]
  exact num_digit hl hwd.2 st cs.length (Nat.le_refl _) i hi
section
variable {cells : List CellD} {h g : E} (hh : formC cells h) (hg : formC cells g)
include hh hg
/-- A number for every pair of states. -/
theorem dec_num {bo bn : Nat} (ho : sumI (wOf cells (hOld cells h g)) = (bo : Int)) (hn : sumI (wOf cells (hNow cells h g)) = (bn : Int)) (h12 : bo + bn ≤ 12) (old now : List Int) :
    ∃ n : Nat, n < 2 ^ (bo + bn) ∧ ∀ r1 r2, DigL (hOld cells h g) (wOf cells (hOld cells h g)) n r1 → DigL (hNow cells h g) (wOf cells (hNow cells h g)) ((n : Int) / pw (bo : Int)) r2 → violB h g r1 r2 = violB h g old now := by
  have hso := small_of (choose_shape hh hg (.inl rfl)) (by omega : sumI (wOf cells (hOld cells h g)) ≤ 12)
  have hsn := small_of (choose_shape hh hg (.inr rfl)) (by omega : sumI (wOf cells (hNow cells h g)) ≤ 12)
  have lo := num_lt hso old
  have ln := num_lt hsn now
  rw [ho] at lo; rw [hn] at ln
  have hpo : pw (bo : Int) = ((2 ^ bo : Nat) : Int) := by unfold pw; push_cast; rfl
  have hpn : pw (bn : Int) = ((2 ^ bn : Nat) : Int) := by unfold pw; push_cast; rfl
  obtain ⟨a, ha⟩ := Int.eq_ofNat_of_zero_le lo.1
  obtain ⟨c, hc⟩ := Int.eq_ofNat_of_zero_le ln.1
  rw [ha, hpo] at lo; rw [hc, hpn] at ln
  have la : a < 2 ^ bo := by have := lo.2; exact_mod_cast this
  have lc : c < 2 ^ bn := by have := ln.2; exact_mod_cast this
  have hp0 : 0 < 2 ^ bo := Nat.two_pow_pos bo
  refine ⟨a + c * 2 ^ bo, ?_, fun r1 r2 d1 d2 => ?_⟩
  · rw [Nat.pow_add]
    have : c * 2 ^ bo + 2 ^ bo ≤ 2 ^ bn * 2 ^ bo := by
      have := Nat.mul_le_mul_right (2 ^ bo) (show c + 1 ≤ 2 ^ bn from lc)
      rw [Nat.add_mul, Nat.one_mul] at this
      exact this
    rw [Nat.mul_comm (2 ^ bo)]
    omega
  · have hdiv : ((a + c * 2 ^ bo : Nat) : Int) / pw (bo : Int) = (c : Int) := by
      rw [hpo]
      have : (a + c * 2 ^ bo) / 2 ^ bo = c := by
        rw [Nat.add_mul_div_right _ _ hp0, Nat.div_eq_of_lt la, Nat.zero_add]
      exact_mod_cast this
    rw [hdiv] at d2
    have key : ∀ e : E, formC cells e → (e = h ∨ e = g) → e.eval r1 r2 = e.eval old now := fun e he heq => by
      refine eval_leaf fun x hx => ⟨fun h2 => ?_, fun h3 => ?_⟩
      · obtain ⟨j, hj, h32, hjl, hwd, _, _, hm, _⟩ := form_leaf he hx (.inl h2)
        have hmem : x.n ∈ hNow cells h g := choose_mem.2 ⟨j, hj, h32, hjl, by rcases heq with rfl | rfl; exact .inl (hm h2); exact .inr (hm h2)⟩
        obtain ⟨i, hi, hn2⟩ := List.getElem_of_mem hmem
        have hgd : (hNow cells h g).getD i 0 = x.n := by simp [List.getD, hi, hn2]
        have hwi : (wOf cells (hNow cells h g)).getD i 0 = x.wd := by
          rw [← hwd]; unfold wOf; simp [List.getD, hi, hn2]
        have e1 := d2 i hi
        have e2 := numS_dig hsn now hi
        rw [hgd, hwi] at e1 e2
        rw [hc] at e2
        rw [e1, Int.emod_emod]; exact e2
      · obtain ⟨j, hj, h32, hjl, hwd, _, _, _, hm⟩ := form_leaf he hx (.inr h3)
        have hmem : x.n ∈ hOld cells h g := choose_mem.2 ⟨j, hj, h32, hjl, by rcases heq with rfl | rfl; exact .inl (hm h3); exact .inr (hm h3)⟩
        obtain ⟨i, hi, hn2⟩ := List.getElem_of_mem hmem
        have hgd : (hOld cells h g).getD i 0 = x.n := by simp [List.getD, hi, hn2]
        have hwi : (wOf cells (hOld cells h g)).getD i 0 = x.wd := by
          rw [← hwd]; unfold wOf; simp [List.getD, hi, hn2]
        have e1 := d1 i hi
        have e2 := numS_dig hso old hi
        obtain ⟨hsh, hwdd, _, _⟩ := small_sum hso
        obtain ⟨hl, _, _⟩ := shape_iff.1 hsh
        obtain ⟨r, r0, q1, q2, q3, _⟩ := low_le hl hwdd.2 hi (Nat.le_refl _)
        rw [hl, List.take_length, ho] at q1
        rw [hgd, hwi] at e1 e2
        rw [hwi] at q1 q3
        rw [ha] at e2
        rw [e1, Int.emod_emod]
        rw [← e2]
        have hcast : ((a + c * 2 ^ bo : Nat) : Int) = (a : Int) + (c : Int) * pw r * pw x.wd * pw (sumI ((wOf cells (hOld cells h g)).take i)) := by
          have hp : pw (bo : Int) = pw (sumI ((wOf cells (hOld cells h g)).take i)) * pw x.wd * pw r := by
            rw [q1, pw_add (by omega) r0, pw_add q2 (by omega)]
          have h5 : ((a + c * 2 ^ bo : Nat) : Int) = (a : Int) + (c : Int) * pw (bo : Int) := by rw [hpo]; push_cast; rfl
          rw [h5, hp]; congr 1; ac_rfl
        rw [hcast, Int.add_mul_ediv_right _ _ (Int.ne_of_gt pw_pos), Int.add_mul_emod_self_right]
    unfold violB
    rw [key h hh (.inl rfl), key g hg (.inr rfl)]
end
end Go.Proofs.YtlcgbdjmlnjhcaaGreatDoor
