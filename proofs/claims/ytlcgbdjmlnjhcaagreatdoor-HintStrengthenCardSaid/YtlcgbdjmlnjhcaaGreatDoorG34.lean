/-
  The references' Small, Formed, Parts of conditions.
  Plain laws of decide: its lists are the condition's cells; its numbers reach every pair of states.
  The iterator over the pairs of states of decide.
-/
import Derived.Test.YtlcgbdjmlnjhcaaGreatDoorG23
import Derived.Test.YtlcgbdjmlnjhcaaGreatDoorG11
import Derived.Test.YtlcgbdjmlnjhcaaGreatDoorG33
import Derived.Test.YtlcgbdjmlnjhcaaGreatDoorG32
import Derived.Test.YtlcgbdjmlnjhcaaGreatDoorG22
import Derived.Test.YtlcgbdjmlnjhcaaGreatDoorG29
import Derived.RangeFuncWrites
import Derived.Shelf.RegionOpen
import Derived.OwnWalkIn
import Derived.TacticsInMore
import Derived.LoopNIn
import Derived.LoopIn
import Derived.Deep.OwnRows
import Derived.Deep.RegionHeld3
namespace Go.Proofs.YtlcgbdjmlnjhcaaGreatDoor
open Go.RowKit
attribute [local go_sem] Oper.semAt_some

def small22S (cells : List CellD) (c : CondS) (m : Int) : Bool := decide (cells.length ≤ 40) && (decide ((c.hyp.size : Int) ≤ m) && decide ((c.goal.size : Int) ≤ m))
set_option maxRecDepth 100000 in
set_option maxHeartbeats 2000000 in
theorem RSmall22_any (cells : List CellD) (c : CondS) (kv v : Value) (m : Int) (w : World) (hC : Cells w kv cells) (hv : CondV w v c) (h0 : 0 ≤ m) (h1 : m ≤ 1000) :
    Calls Tryz.prog 32 #[kv, v, .int .i64 m] w fun r w' => r = .returned (.bool (small22S cells c m)) ∧ Ext w w' := by
  obtain ⟨ha, hl1, hc, ga, gl, gc, rfl, he1, he2⟩ := hv
  obtain ⟨ka, kc, rfl⟩ := SliceAt.shape hC
  have H1 : Hid (∀ w', Ext w w' → Calls Tryz.prog 14 #[.agg #[.int .i64 c.hyp.op, .int .i64 c.hyp.wd, .int .i64 c.hyp.n, .slice ha hl1 hc], .int .i64 m] w' fun r w2 => r = .returned (.bool (decide ((c.hyp.size : Int) ≤ m))) ∧ Ext w' w2) := fun w' he => RSmall_any c.hyp _ w' m (he1.ext he) h0 h1
  have H2 : Hid (∀ w', Ext w w' → Calls Tryz.prog 14 #[.agg #[.int .i64 c.goal.op, .int .i64 c.goal.wd, .int .i64 c.goal.n, .slice ga gl gc], .int .i64 m] w' fun r w2 => r = .returned (.bool (decide ((c.goal.size : Int) ≤ m))) ∧ Ext w' w2) := fun w' he => RSmall_any c.goal _ w' m (he2.ext he) h0 h1
  have HU : Hid (small22S cells c m = (decide (cells.length ≤ 40) && (decide ((c.hyp.size : Int) ≤ m) && decide ((c.goal.size : Int) ≤ m)))) := rfl
  generalize decide ((c.hyp.size : Int) ≤ m) = b1 at *
  generalize decide ((c.goal.size : Int) ≤ m) = b2 at *
  clear he1 he2 h0 h1 hC
  obtain ⟨W, hW⟩ : ∃ W, W = w.alloc (.cells (condCells c ha hl1 hc ga gl gc) 27) := ⟨_, rfl⟩
  have hX : Ext w W := by rw [hW]; exact (Ext.refl _).alloc _
  have hat : CondAt W w.heap.size c ha hl1 hc ga gl gc := by rw [hW]; exact heap_new _ _
  have HX := Lib.hid hX; have HW := Lib.hid hW
  obtain ⟨⟨q0, q1, q2, q3⟩, p0, p1, p2, p3⟩ := And.intro hat.hyp hat.goal
  clear hW hX hat
  unfold condCells at *
  go_enter Tryz.func32, Tryz.ntmps32
  go_upto_region 1 with fail
  rw [← HW.out]
  clear HW
  generalize w.heap.size = b at *
  by_cases hL : cells.length ≤ 40
  · rw [decide_eq_true hL] at HU
    cases b1 with
    | false =>
      go_wp2_with (go_at_call 14; refine (H1.out _ HX.out).mono ?_; rintro r w1 ⟨rfl, x1⟩; have HX1 := Lib.hid (HX.out.trans x1); clear x1)
      go_ret
      rw [HU.out]; exact ⟨rfl, HX1.out⟩
    | true =>
      go_wp2_with fail
      refine (H1.out _ HX.out).mono ?_
      rintro r w1 ⟨rfl, x1⟩
      have HX1 := Lib.hid (HX.out.trans x1)
      replace p0 := x1.cell p0; replace p1 := x1.cell p1; replace p2 := x1.cell p2; replace p3 := x1.cell p3
      clear x1 q0 q1 q2 q3
      go_wp2_with fail
      refine (H2.out _ HX1.out).mono ?_
      rintro r w2 ⟨rfl, x2⟩
      have HX2 := Lib.hid (HX1.out.trans x2)
      clear x2
      cases b2 with
      | false =>
        go_wp2_with fail
        go_ret
        rw [HU.out]; exact ⟨rfl, HX2.out⟩
      | true =>
        go_wp2_with fail
        go_ret
        rw [HU.out]; exact ⟨rfl, HX2.out⟩
  · rw [decide_eq_false hL] at HU
    go_wp2_with fail
    go_ret
    rw [HU.out]; exact ⟨rfl, HX.out⟩

/-- The cells of the states before and after; a condition on a step. -/
def partP (c : CondS) : List Int := if occL c.hyp.supOld c.goal.supOld = [] then occL c.hyp.supNow c.goal.supNow else occL c.hyp.supOld c.goal.supOld
def partQ (c : CondS) : List Int := if occL c.hyp.supOld c.goal.supOld = [] then [] else occL c.hyp.supNow c.goal.supNow
def partS (c : CondS) : Bool := !decide (occL c.hyp.supOld c.goal.supOld = [])
set_option maxRecDepth 100000 in
set_option maxHeartbeats 2000000 in
theorem RParts_any (c : CondS) (v : Value) (w : World) (hv : CondV w v c) :
    Calls Tryz.prog 16 #[v] w fun r w' => (∃ v1 v2, r = .returned (.tuple #[v1, v2, .bool (partS c)]) ∧ Ints w' v1 (partP c) ∧ Ints w' v2 (partQ c)) ∧ Ext w w' := by
  have HCV := hv
  obtain ⟨ha, hl, hcp, ga, gl, gc, rfl, e1, e2⟩ := hv
  obtain ⟨W, hW⟩ : ∃ W, W = w.alloc (.cells (condCells c ha hl hcp ga gl gc) 27) := ⟨_, rfl⟩
  have hX : Ext w W := by rw [hW]; exact (Ext.refl _).alloc _
  have hat : CondAt W w.heap.size c ha hl hcp ga gl gc := by rw [hW]; exact heap_new _ _
  obtain ⟨⟨d0, d1, d2, d3, d4, d5, d6, d7, d8, d9, d10, d11, d12, d13⟩, _⟩ := blocks14 hat
  have HOC := Lib.hid (ROccur_any c _ W (HCV.ext hX))
  have hlo := occL_len c.hyp.supOld c.goal.supOld
  have HX := Lib.hid hX; have HW := Lib.hid hW
  have HP : Hid (partP c = if occL c.hyp.supOld c.goal.supOld = [] then occL c.hyp.supNow c.goal.supNow else occL c.hyp.supOld c.goal.supOld) := rfl
  have HQ : Hid (partQ c = if occL c.hyp.supOld c.goal.supOld = [] then [] else occL c.hyp.supNow c.goal.supNow) := rfl
  have HS : Hid (partS c = !decide (occL c.hyp.supOld c.goal.supOld = [])) := rfl
  clear HCV e1 e2 hX hW hat
  unfold condCells at *
  go_enter Tryz.func16, Tryz.ntmps16
  go_upto_region 1 with fail
  rw [← HW.out]
  clear HW
  generalize w.heap.size = b at *
  go_wp2_with fail
  refine HOC.out.mono ?_
  rintro r w1 ⟨⟨v1, v2, rfl, i1, i2⟩, x1⟩
  generalize occL c.hyp.supOld c.goal.supOld = o at *
  generalize occL c.hyp.supNow c.goal.supNow = n at *
  obtain ⟨a1, b1, rfl⟩ := i1.shape
  obtain ⟨a2, b2, rfl⟩ := i2.shape
  have I1 := Lib.hid i1; have I2 := Lib.hid i2; have X1 := Lib.hid (HX.out.trans x1)
  clear i1 i2 x1 HOC d0 d1 d2 d3 d4 d5 d6 d7 d8 d9 d10 d11 d12 d13
  by_cases ho : o = []
  · subst ho
    rw [if_pos rfl] at HP HQ
    have HS' : Hid (partS c = false) := by rw [Hid, HS.out]; rfl
    clear HS
    go_wp2_with fail
    refine bodyPost_ret (v := .tuple #[.slice a2 n.length b2, .slice none 0 0, .bool false]) (by simp [results, Tryz.results16, go_sem]) rfl ?_
    exact ⟨⟨_, _, by rw [HS'.out], by rw [HP.out]; exact I2.out, by rw [HQ.out]; exact .inl ⟨⟨_, _, rfl⟩, rfl⟩⟩, X1.out⟩
  · rw [if_neg ho] at HP HQ
    have HS' : Hid (partS c = true) := by rw [Hid, HS.out, decide_eq_false ho]; rfl
    have hp : 0 < o.length := List.length_pos_iff.2 ho
    clear HS ho
    go_wp2_with fail
    refine bodyPost_ret (v := .tuple #[.slice a1 o.length b1, .slice a2 n.length b2, .bool true]) (by simp [results, Tryz.results16, go_sem]) rfl ?_
    exact ⟨⟨_, _, by rw [HS'.out], by rw [HP.out]; exact I1.out, by rw [HQ.out]; exact I2.out⟩, X1.out⟩

def formCC (cells : List CellD) (c : CondS) : Bool := c.hyp.valid cells true && (c.goal.valid cells true && ((c.hyp.wd == 1) && (c.goal.wd == 1)))
set_option maxRecDepth 100000 in
set_option maxHeartbeats 2000000 in
theorem RFormed32_any (cells : List CellD) (c : CondS) (kv v : Value) (w : World) (hC : Cells w kv cells) (hv : CondV w v c) :
    Calls Tryz.prog 33 #[kv, v] w fun r w' => r = .returned (.bool (formCC cells c)) ∧ Ext w w' := by
  obtain ⟨ha, hl, hcp, ga, gl, gc, rfl, e1, e2⟩ := hv
  obtain ⟨ka, kc, rfl⟩ := SliceAt.shape hC
  obtain ⟨W, hW⟩ : ∃ W, W = w.alloc (.cells (condCells c ha hl hcp ga gl gc) 27) := ⟨_, rfl⟩
  have hX : Ext w W := by rw [hW]; exact (Ext.refl _).alloc _
  have hat : CondAt W w.heap.size c ha hl hcp ga gl gc := by rw [hW]; exact heap_new _ _
  obtain ⟨⟨q0, q1, q2, q3⟩, p0, p1, p2, p3⟩ := And.intro hat.hyp hat.goal
  have HC := Lib.hid (hC.ext hX); have HE1 := Lib.hid (e1.ext hX); have HE2 := Lib.hid (e2.ext hX)
  have HX := Lib.hid hX; have HW := Lib.hid hW
  have HV1 := Lib.hid (RValidE_any c.hyp cells _ _ true W HE1.out HC.out)
  have HF : Hid (formCC cells c = (c.hyp.valid cells true && (c.goal.valid cells true && ((c.hyp.wd == 1) && (c.goal.wd == 1))))) := rfl
  clear hC hX hat e1 e2 hW
  unfold condCells at *
  go_enter Tryz.func33, Tryz.ntmps33
  go_upto_region 1 with fail
  rw [← HW.out]
  clear HW
  generalize w.heap.size = b at *
  go_wp2_with fail
  refine HV1.out.mono ?_
  rintro r w1 ⟨rfl, x1⟩
  have X1 := Lib.hid x1
  have q11 := x1.cell q1
  replace p0 := x1.cell p0; replace p1 := x1.cell p1; replace p2 := x1.cell p2; replace p3 := x1.cell p3
  clear x1 q0 q1 q2 q3 HV1
  generalize c.hyp.valid cells true = z1 at *
  cases z1 with
  | false =>
    go_wp2_with fail
    go_ret
    rw [HF.out]; exact ⟨rfl, HX.out.trans X1.out⟩
  | true =>
    have HV2 := Lib.hid (RValidE_any c.goal cells _ _ true w1 (HE2.out.ext X1.out) (HC.out.ext X1.out))
    go_wp2_with fail
    refine HV2.out.mono ?_
    rintro r w2 ⟨rfl, x2⟩
    have X2 := Lib.hid (X1.out.trans x2)
    have q12 := x2.cell q11; have p12 := x2.cell p1
    clear x2 p0 p1 p2 p3 q11 HV2
    generalize c.goal.valid cells true = z2 at *
    cases z2 with
    | false =>
      go_wp2_with fail
      go_ret
      rw [HF.out]; exact ⟨rfl, HX.out.trans X2.out⟩
    | true =>
      cases z3 : (c.hyp.wd == 1) with
      | false =>
        rw [z3] at HF
        go_wp2_with fail
        go_ret
        rw [HF.out]; exact ⟨rfl, HX.out.trans X2.out⟩
      | true =>
        rw [z3] at HF
        cases z4 : (c.goal.wd == 1) with
        | false =>
          rw [z4] at HF
          go_wp2_with fail
          go_ret
          rw [HF.out]; exact ⟨rfl, HX.out.trans X2.out⟩
        | true =>
          rw [z4] at HF
          go_wp2_with fail
          go_ret
          rw [HF.out]; exact ⟨rfl, HX.out.trans X2.out⟩
end Go.Proofs.YtlcgbdjmlnjhcaaGreatDoor
namespace Go.Proofs.YtlcgbdjmlnjhcaaGreatDoor

theorem inc_ext : ∀ {l l' : List Int}, l.Pairwise (· < ·) → l'.Pairwise (· < ·) → (∀ x, x ∈ l ↔ x ∈ l') → l = l' := by
  intro l
  induction l with
  | nil =>
    intro l' _ _ h
    cases l' with
    | nil => rfl
    | cons a r => exact absurd ((h a).2 (by simp)) (by simp)
  | cons a r ih =>
    intro l' hl hl' h
    cases l' with
    | nil => exact absurd ((h a).1 (by simp)) (by simp)
    | cons b s =>
      rw [List.pairwise_cons] at hl hl'
      have hab : a = b := by
        have h1 := (h a).1 (by simp)
        have h2 := (h b).2 (by simp)
        rcases List.mem_cons.1 h1 with e | e
        · exact e
        rcases List.mem_cons.1 h2 with e2 | e2
        · exact e2.symm
        · have := hl.1 b e2; have := hl'.1 a e; omega
      subst hab
      rw [ih hl.2 hl'.2 fun x => ?_]
      constructor
      · intro hx
        rcases List.mem_cons.1 ((h x).1 (by simp [hx])) with e | e
        · subst e; exact absurd (hl.1 x hx) (by omega)
        · exact e
      · intro hx
        rcases List.mem_cons.1 ((h x).2 (by simp [hx])) with e | e
        · subst e; exact absurd (hl'.1 x hx) (by omega)
        · exact e
section
variable {cells : List CellD} {h g : E} (hh : formC cells h) (hg : formC cells g)
include hh hg
theorem union_old : unionL h.supOld g.supOld = hOld cells h g := by
  obtain ⟨u1, u2⟩ := unionL_law h.supOld g.supOld
  have key : ∀ e : E, formC cells e → ∀ x ∈ e.supOld, ∃ j : Nat, x = (j : Int) ∧ j < 32 ∧ j < cells.length := fun e he x hx => by
    obtain ⟨y, hy, h3, hn⟩ := sup_leaf.2 hx
    obtain ⟨j, hj, h32, hl, _⟩ := form_leaf he hy (.inr h3)
    exact ⟨j, by rw [← hn, hj], h32, hl⟩
  refine inc_ext u1 ?_ fun x => ?_
  · unfold hOld chooseL upTo
    rw [List.pairwise_map]
    exact (List.Pairwise.filter _ List.pairwise_lt_range).imp fun h => Int.ofNat_lt.2 h
  · rw [u2]
    unfold hOld
    rw [choose_mem]
    constructor
    · intro hx
      obtain ⟨j, e, h32, hl⟩ := hx.elim (key h hh x) (key g hg x)
      exact ⟨j, e, h32, hl, hx⟩
    · rintro ⟨j, _, _, _, hx⟩; exact hx
theorem union_now : unionL h.supNow g.supNow = hNow cells h g := by
  obtain ⟨u1, u2⟩ := unionL_law h.supNow g.supNow
  have key : ∀ e : E, formC cells e → ∀ x ∈ e.supNow, ∃ j : Nat, x = (j : Int) ∧ j < 32 ∧ j < cells.length := fun e he x hx => by
    obtain ⟨y, hy, h3, hn⟩ := sup_leaf.1 hx
    obtain ⟨j, hj, h32, hl, _⟩ := form_leaf he hy (.inl h3)
    exact ⟨j, by rw [← hn, hj], h32, hl⟩
  refine inc_ext u1 ?_ fun x => ?_
  · unfold hNow chooseL upTo
    rw [List.pairwise_map]
    exact (List.Pairwise.filter _ List.pairwise_lt_range).imp fun h => Int.ofNat_lt.2 h
  · rw [u2]
    unfold hNow
    rw [choose_mem]
    constructor
    · intro hx
      obtain ⟨j, e, h32, hl⟩ := hx.elim (key h hh x) (key g hg x)
      exact ⟨j, e, h32, hl, hx⟩
    · rintro ⟨j, _, _, _, hx⟩; exact hx
end
/-- The digits of a number at the listed places of a state. -/
def DigL (cs ws : List Int) (n : Int) (r : List Int) : Prop := ∀ i, i < cs.length → elemS r (cs.getD i 0) = n / pw (sumI (ws.take i)) % pw (ws.getD i 0)
theorem numS_dig {cs ws : List Int} (hs : smallB cs ws = true) (st : List Int) {i : Nat} (hi : i < cs.length) : numS cs ws st / pw (sumI (ws.take i)) % pw (ws.getD i 0) = elemS st (cs.getD i 0) % pw (ws.getD i 0) := by
  obtain ⟨h1, hwd, _, _⟩ := small_sum hs
  obtain ⟨hl, _, _⟩ := shape_iff.1 h1
  have hN : numS cs ws st = (numTo cs ws st cs.length).1 := by unfold numS; rw [hs, if_pos rfl]
  rw [hN]
  exact num_digit hl hwd.2 st cs.length (Nat.le_refl _) i hi
section
variable {cells : List CellD} {h g : E} (hh : formC cells h) (hg : formC cells g)
include hh hg
/-- A number for every pair of states. -/
theorem dec_num {bo bn : Nat} (ho : sumI (wOf cells (hOld cells h g)) = (bo : Int)) (hn : sumI (wOf cells (hNow cells h g)) = (bn : Int)) (h12 : bo + bn ≤ 12) (old now : List Int) :
    ∃ n : Nat, n < 2 ^ (bo + bn) ∧ ∀ r1 r2, DigL (hOld cells h g) (wOf cells (hOld cells h g)) n r1 → DigL (hNow cells h g) (wOf cells (hNow cells h g)) ((n : Int) / pw (bo : Int)) r2 → violB h g r1 r2 = violB h g old now := by
  have hso := small_of (choose_shape hh hg (.inl rfl)) (by omega : sumI (wOf cells (hOld cells h g)) ≤ 12)
  have hsn := small_of (choose_shape hh hg (.inr rfl)) (by omega : sumI (wOf cells (hNow cells h g)) ≤ 12)
  have lo := num_lt hso old
  have ln := num_lt hsn now
  rw [ho] at lo; rw [hn] at ln
  have hpo : pw (bo : Int) = ((2 ^ bo : Nat) : Int) := by unfold pw; push_cast; rfl
  have hpn : pw (bn : Int) = ((2 ^ bn : Nat) : Int) := by unfold pw; push_cast; rfl
  obtain ⟨a, ha⟩ := Int.eq_ofNat_of_zero_le lo.1
  obtain ⟨c, hc⟩ := Int.eq_ofNat_of_zero_le ln.1
  rw [ha, hpo] at lo; rw [hc, hpn] at ln
  have la : a < 2 ^ bo := by have := lo.2; exact_mod_cast this
  have lc : c < 2 ^ bn := by have := ln.2; exact_mod_cast this
  have hp0 : 0 < 2 ^ bo := Nat.two_pow_pos bo
  refine ⟨a + c * 2 ^ bo, ?_, fun r1 r2 d1 d2 => ?_⟩
  · rw [Nat.pow_add]
    have : c * 2 ^ bo + 2 ^ bo ≤ 2 ^ bn * 2 ^ bo := by
      have := Nat.mul_le_mul_right (2 ^ bo) (show c + 1 ≤ 2 ^ bn from lc)
      rw [Nat.add_mul, Nat.one_mul] at this
      exact this
    rw [Nat.mul_comm (2 ^ bo)]
    omega
  · have hdiv : ((a + c * 2 ^ bo : Nat) : Int) / pw (bo : Int) = (c : Int) := by
      rw [hpo]
      have : (a + c * 2 ^ bo) / 2 ^ bo = c := by
        rw [Nat.add_mul_div_right _ _ hp0, Nat.div_eq_of_lt la, Nat.zero_add]
      exact_mod_cast this
    rw [hdiv] at d2
    have key : ∀ e : E, formC cells e → (e = h ∨ e = g) → e.eval r1 r2 = e.eval old now := fun e he heq => by
      refine eval_leaf fun x hx => ⟨fun h2 => ?_, fun h3 => ?_⟩
      · obtain ⟨j, hj, h32, hjl, hwd, _, _, hm, _⟩ := form_leaf he hx (.inl h2)
        have hmem : x.n ∈ hNow cells h g := choose_mem.2 ⟨j, hj, h32, hjl, by rcases heq with rfl | rfl; exact .inl (hm h2); exact .inr (hm h2)⟩
        obtain ⟨i, hi, hn2⟩ := List.getElem_of_mem hmem
        have hgd : (hNow cells h g).getD i 0 = x.n := by simp [List.getD, hi, hn2]
        have hwi : (wOf cells (hNow cells h g)).getD i 0 = x.wd := by
          rw [← hwd]; unfold wOf; simp [List.getD, hi, hn2]
        have e1 := d2 i hi
        have e2 := numS_dig hsn now hi
        rw [hgd, hwi] at e1 e2
        rw [hc] at e2
        rw [e1, Int.emod_emod]; exact e2
      · obtain ⟨j, hj, h32, hjl, hwd, _, _, _, hm⟩ := form_leaf he hx (.inr h3)
        have hmem : x.n ∈ hOld cells h g := choose_mem.2 ⟨j, hj, h32, hjl, by rcases heq with rfl | rfl; exact .inl (hm h3); exact .inr (hm h3)⟩
        obtain ⟨i, hi, hn2⟩ := List.getElem_of_mem hmem
        have hgd : (hOld cells h g).getD i 0 = x.n := by simp [List.getD, hi, hn2]
        have hwi : (wOf cells (hOld cells h g)).getD i 0 = x.wd := by
          rw [← hwd]; unfold wOf; simp [List.getD, hi, hn2]
        have e1 := d1 i hi
        have e2 := numS_dig hso old hi
        obtain ⟨hsh, hwdd, _, _⟩ := small_sum hso
        obtain ⟨hl, _, _⟩ := shape_iff.1 hsh
        obtain ⟨r, r0, q1, q2, q3, _⟩ := low_le hl hwdd.2 hi (Nat.le_refl _)
        rw [hl, List.take_length, ho] at q1
        rw [hgd, hwi] at e1 e2
        rw [hwi] at q1 q3
        rw [ha] at e2
        rw [e1, Int.emod_emod]
        rw [← e2]
        have hcast : ((a + c * 2 ^ bo : Nat) : Int) = (a : Int) + (c : Int) * pw r * pw x.wd * pw (sumI ((wOf cells (hOld cells h g)).take i)) := by
          have hp : pw (bo : Int) = pw (sumI ((wOf cells (hOld cells h g)).take i)) * pw x.wd * pw r := by
            rw [q1, pw_add (by omega) r0, pw_add q2 (by omega)]
          have h5 : ((a + c * 2 ^ bo : Nat) : Int) = (a : Int) + (c : Int) * pw (bo : Int) := by rw [hpo]; push_cast; rfl
          rw [h5, hp]; congr 1; ac_rfl
        rw [hcast, Int.add_mul_ediv_right _ _ (Int.ne_of_gt pw_pos), Int.add_mul_emod_self_right]
    unfold violB
    rw [key h hh (.inl rfl), key g hg (.inr rfl)]
end
end Go.Proofs.YtlcgbdjmlnjhcaaGreatDoor
namespace Go.Proofs.YtlcgbdjmlnjhcaaGreatDoor
open Go.RowKit Go.Shelf
attribute [local go_sem] Oper.semAt_some

theorem infoIntD : (Tryz.prog.info? 3).map (fun i => (i.zero, i.size, i.bytes)) = some (some (.int .i64 0), 1, 8) := by kernel_rfl
/-- A pair that is handed over: its number and the blocks of its rows. -/
structure PX where
  n : Nat
  a : Nat
  b : Nat
def encP (L : Nat) (x : PX) : Array Value := #[.slice (some ⟨x.a, 0, none⟩) L L, .slice (some ⟨x.b, 0, none⟩) L L]
/-- The digits of a number at the listed places, the first ones. -/
def DigTo (cs ws : List Int) (n : Int) (f : Nat → Int) (k : Nat) : Prop := ∀ i, i < k → f (cs.getD i 0).toNat = n / pw (sumI (ws.take i)) % pw (ws.getD i 0)
abbrev IRow (w : World) (b L : Nat) (f : Nat → Int) : Prop := w.rowIs b 3 L fun j => .int .i64 (f j)
theorem IRow.set {w : World} {b L : Nat} {f : Nat → Int} (h : IRow w b L f) (i : Nat) (v : Int) : IRow (w.setCell ⟨b, i, none⟩ (.int .i64 v)) b L (fun j => if j = i then v else f j) := by
  refine (World.rowIs.set h i (.int .i64 v)).congr fun j _ => ?_
  by_cases c : j = i
  · simp [c]
  · simp [c]
theorem IRow.ints {w : World} {b L : Nat} {f : Nat → Int} (hL : L ≤ 1000) (h : IRow w b L f) : Ints w (.slice (some ⟨b, 0, none⟩) L L) ((List.range L).map f) := by
  refine .inr ⟨b, 0, L, by simp, by simp; omega, fun i hi => ?_⟩
  have hi' : i < L := by simpa using hi
  have := World.rowIs.cell h hi'
  show w.cell? ⟨b, 0 + i * 1, none⟩ = _
  rw [Nat.mul_one, Nat.zero_add, this]
  simp
/-- What the iterator reads of what lies ahead. -/
structure PairAt (cells : List CellD) (o nw : List Int) (bits : Nat) (v1 v3 v4 : Value) (B1 B2 B3 B4 : Nat) (w : World) : Prop where
  c1 : w.cell? ⟨B1, 0, none⟩ = some v1
  k1 : Cells w v1 cells
  c2 : w.cell? ⟨B2, 0, none⟩ = some (.int .i64 (bits : Nat))
  c3 : w.cell? ⟨B3, 0, none⟩ = some v3
  k3 : Ints w v3 o
  c4 : w.cell? ⟨B4, 0, none⟩ = some v4
  k4 : Ints w v4 nw
theorem PairAt.ext {cells : List CellD} {o nw : List Int} {bits : Nat} {v1 v3 v4 : Value} {B1 B2 B3 B4 : Nat} {w w' : World} (h : PairAt cells o nw bits v1 v3 v4 B1 B2 B3 B4 w) (hx : Ext w w') : PairAt cells o nw bits v1 v3 v4 B1 B2 B3 B4 w' :=
  ⟨hx.cell h.c1, h.k1.ext hx, hx.cell h.c2, hx.cell h.c3, h.k3.ext hx, hx.cell h.c4, h.k4.ext hx⟩
def goodP (L : Nat) (o wo nw wn : List Int) (bo M : Nat) (b : Nat) (x : PX) (w : World) : Prop :=
  x.n < M ∧ (x.a = b ∨ x.a = b + 1) ∧ (x.b = b ∨ x.b = b + 1) ∧ ∃ f1 f2, IRow w x.a L f1 ∧ IRow w x.b L f2 ∧ DigTo o wo x.n f1 o.length ∧ DigTo nw wn ((x.n : Int) / pw (bo : Int)) f2 nw.length
theorem goodP.keep {L : Nat} {o wo nw wn : List Int} {bo M b : Nat} {x : PX} {A B : World} (h : goodP L o wo nw wn bo M b x A) (hk : KeepsX (fun _ => True) A B) : goodP L o wo nw wn bo M b x B := by
  obtain ⟨h0, ha, hb, f1, f2, h1, h2, h3, h4⟩ := h
  have key : ∀ {g : Nat} {f : Nat → Int}, IRow A g L f → IRow B g L f := fun {g f} h => by
    obtain ⟨c, hc, hn, hi⟩ := h
    exact ⟨c, hk.same _ _ _ _ trivial hc, hn, hi⟩
  exact ⟨h0, ha, hb, f1, f2, key h1, key h2, h3, h4⟩
/-- One digit more. -/
theorem DigTo.step {cs ws : List Int} {n : Int} {f : Nat → Int} {k : Nat} (h : DigTo cs ws n f k) (hk : k < cs.length) (hinc : cs.Pairwise (· < ·)) (h0 : ∀ c ∈ cs, 0 ≤ c) {v : Int} (hv : v = n / pw (sumI (ws.take k)) % pw (ws.getD k 0)) :
    DigTo cs ws n (fun j => if j = (cs.getD k 0).toNat then v else f j) (k + 1) := by
  intro i hi
  have hg : ∀ j, (hj : j < cs.length) → cs.getD j 0 = cs[j] := fun j hj => by simp [List.getD, hj]
  by_cases e : i = k
  · subst e; simp only [if_true]; exact hv
  · have hik : i < k := by omega
    have h1 := List.pairwise_iff_getElem.1 hinc i k (by omega) hk hik
    have h2 := h0 _ (List.getElem_mem (show i < cs.length by omega))
    rw [← hg i (by omega), ← hg k hk] at h1
    rw [← hg i (by omega)] at h2
    simp only []
    rw [if_neg (by omega)]
    exact h i hik
theorem pw_takeS {ws : List Int} {k : Nat} (hw : ∀ x ∈ ws, 1 ≤ x ∧ x ≤ 8) (hk : k < ws.length) (n : Int) : n / pw (sumI (ws.take k)) / pw ws[k] = n / pw (sumI (ws.take (k + 1))) := by
  have hs0 := (sum_bound hw k (by omega)).1
  have hx := hw ws[k] (List.getElem_mem hk)
  rw [sum_take hk, pw_add hs0 (by omega), Int.ediv_ediv_of_nonneg (Int.le_of_lt pw_pos)]

theorem wOf_get {cells : List CellD} {l : List Int} {i : Nat} (h : i < l.length) (h2 : i < (wOf cells l).length) : (wOf cells l)[i] = wAt cells l[i] := by simp [wOf]
theorem StepX.ofExtB {X : Nat → Prop} {A B : World} (h : Ext A B) : StepX X A B := ⟨h.os, h.tape, h.output, h.size, fun k hk _ => h.block k hk⟩
set_option maxRecDepth 100000 in
set_option maxHeartbeats 16000000 in
theorem pairs1_gives (n : Nat) (hn : 1 ≤ n) (cells : List CellD) (o nw : List Int) (bo bn : Nat) (v1 v3 v4 : Value) (B1 B2 B3 B4 : Nat) (w0 : World) (hL : cells.length ≤ 1000) (hso : sumI (wOf cells o) = (bo : Int)) (hsn : sumI (wOf cells nw) = (bn : Int)) (h12 : bo + bn ≤ 12)
    (hio : o.Pairwise (· < ·)) (hin : nw.Pairwise (· < ·)) (hbo : ∀ c ∈ o, 0 ≤ c ∧ c < (cells.length : Int) ∧ 1 ≤ wAt cells c ∧ wAt cells c ≤ 8) (hbn : ∀ c ∈ nw, 0 ≤ c ∧ c < (cells.length : Int) ∧ 1 ≤ wAt cells c ∧ wAt cells c ≤ 8) :
    GivesS Fence.wide n Tryz.prog 74 #[.pointer (some ⟨B1, 0, none⟩), .pointer (some ⟨B2, 0, none⟩), .pointer (some ⟨B3, 0, none⟩), .pointer (some ⟨B4, 0, none⟩)] (encP cells.length) (fun b k => k = b ∨ k = b + 1) (PairAt cells o nw (bo + bn) v1 v3 v4 B1 B2 B3 B4)
      (goodP cells.length o (wOf cells o) nw (wOf cells nw) bo (2 ^ (bo + bn))) (fun xs => xs.map PX.n = List.range (2 ^ (bo + bn))) (fun _ => True) (2 ^ (bo + bn)) w0 := by
  intro lp J Jx W hW hJ hInv hY h0
  obtain ⟨bt, hbt⟩ : ∃ bt, bt = bo + bn := ⟨_, rfl⟩
  rw [← hbt] at hY hInv ⊢
  have hbt12 : bt ≤ 12 := by omega
  clear hbt
  obtain ⟨M, hM⟩ : ∃ M, M = 2 ^ bt := ⟨_, rfl⟩
  have hM4 : M ≤ 4096 := by
    have := Nat.pow_le_pow_right (show 0 < 2 by decide) hbt12
    rw [hM]; simpa using this
  have hsw : wrap64 (2 ^ bt) = (M : Int) := by
    have h1 : (2 : Int) ^ bt = ((2 ^ bt : Nat) : Int) := by push_cast; rfl
    rw [h1, ← hM]; unfold wrap64; omega
  have hmb : min bt 64 = bt := by omega
  have HWO : Hid (∀ x ∈ wOf cells o, 1 ≤ x ∧ x ≤ 8) := fun x hx => by
    obtain ⟨c, hc, rfl⟩ := List.mem_map.1 hx
    exact (hbo c hc).2.2
  have HWN : Hid (∀ x ∈ wOf cells nw, 1 ≤ x ∧ x ≤ 8) := fun x hx => by
    obtain ⟨c, hc, rfl⟩ := List.mem_map.1 hx
    exact (hbn c hc).2.2
  rw [← hM] at hY ⊢
  have HSO := Lib.hid hso; have HSN := Lib.hid hsn; have HIO := Lib.hid hio; have HIN := Lib.hid hin; have HBO := Lib.hid hbo; have HBN := Lib.hid hbn
  have HJ := Lib.hid hJ; have HINV := Lib.hid hInv; have HY := Lib.hid hY; have HM4 := Lib.hid hM4
  have hP := hInv _ _ h0
  obtain ⟨c1, k1, c2, c3, k3, c4, k4⟩ := hP
  obtain ⟨a1, d1, rfl⟩ := SliceAt.shape k1
  obtain ⟨a3, d3, rfl⟩ := SliceAt.shape k3
  obtain ⟨a4, d4, rfl⟩ := SliceAt.shape k4
  have ln3 := SliceAt.len_le k3
  have ln4 := SliceAt.len_le k4
  have HB1 : Hid (B1 < W.heap.size) := block_lt c1
  have HK1 := Lib.hid k1
  have hcl := SliceAt.len_le k1
  have H0 := Lib.hid h0
  clear hso hsn hio hin hbo hbn hJ hInv hY h0 hM hM4 hW k1 k3 k4 c3 c4
  refine callsIn_of_wp Tryz.func74 rfl trivial ?_ rfl
  simp only [Tryz.ntmps74, List.size_toArray, List.length_cons, List.length_nil, Nat.reduceAdd, Nat.reduceSub, Array.replicate_succ, Array.replicate_zero, List.push_toArray, List.append_toArray, List.nil_append, List.cons_append]
  obtain ⟨V0, hV0⟩ : ∃ V0, V0 = (W.alloc (.cells (madeCells #[.int .i64 0] cells.length) 3)).alloc (.cells (madeCells #[.int .i64 0] cells.length) 3) := ⟨_, rfl⟩
  have hmk := fun w => run_make_row' (P := Tryz.prog) 35 3 (.int .i64 0) 8 Tryz.underlying35 infoIntD rfl .i64 .i64 cells.length (by omega) (by omega) w
  gi_upto_region 0 with fail
  refine wpIn_wide.2 ?_
  refine wp_normal2 ?_
  have hk0 : W.drew.cell? ⟨B1, 0, none⟩ = some (.slice a1 cells.length d1) := c1
  have HKA : Hid (∀ w', Ext W w' → w'.cell? ⟨B1, 0, none⟩ = some (.slice a1 cells.length d1)) := fun w' h => h.cell c1
  have HXW : Hid (Ext W W.drew) := (Ext.refl W).drew
  go_region_held3 (fun w' => w'.cell? ⟨B1, 0, none⟩ = some (.slice a1 cells.length d1))
    ((first
      | exact hk0
      | (refine HKA.out _ ?_
         repeat (first | exact HXW.out | exact Ext.refl _ | apply Ext.drew | apply Ext.alloc)
         done)
      | fail))
    ((first
      | fail))
  · unfold onlyNormal
    rw [← hV0]
    have hx0 : Ext W V0.drew := by rw [hV0]; exact (((Ext.refl W).alloc _).alloc _).drew
    have hr0 : IRow V0.drew W.heap.size cells.length (fun _ => 0) := by
      rw [hV0]; exact World.rowIs.drew (World.rowIs.alloc (World.rowIs_made W (.int .i64 0) cells.length 3) _)
    have hr1 : IRow V0.drew (W.heap.size + 1) cells.length (fun _ => 0) := by
      have := World.rowIs_made (W.alloc (.cells (madeCells #[.int .i64 0] cells.length) 3)) (.int .i64 0) cells.length 3
      rw [World.size_alloc] at this
      rw [hV0]; exact World.rowIs.drew this
    have hj0 := HJ.out _ _ _ H0.out (StepX.ofExtB (X := fun k => k = W.heap.size ∨ k = W.heap.size + 1) hx0)
    have hz0 : W.heap.size + 2 ≤ V0.drew.heap.size := by rw [hV0]; show _ ≤ ((W.alloc _).alloc _).heap.size; simp
    have HJ0 := Lib.hid hj0; have HZ0 := Lib.hid hz0
    obtain ⟨ga, hga⟩ : ∃ ga, ga = W.heap.size := ⟨_, rfl⟩
    obtain ⟨gb, hgb⟩ : ∃ gb, gb = W.heap.size + 1 := ⟨_, rfl⟩
    have HRA0 : Hid (IRow V0.drew ga cells.length (fun _ => 0)) := by unfold Hid; rw [hga]; exact hr0
    have HRB0 : Hid (IRow V0.drew gb cells.length (fun _ => 0)) := by unfold Hid; rw [hgb]; exact hr1
    have HXA : Hid (ga = W.heap.size ∨ ga = W.heap.size + 1) := by unfold Hid; omega
    have HXB : Hid (gb = W.heap.size ∨ gb = W.heap.size + 1) := by unfold Hid; omega
    have HGE : Hid (W.heap.size ≤ ga ∧ W.heap.size ≤ gb) := by unfold Hid; omega
    have HNE : Hid (ga ≠ gb) := by unfold Hid; omega
    rw [← hgb, ← hga]
    clear hga hgb hr0 hr1 hj0 hz0 hk0 hV0
    have c2' := hx0.cell c2
    clear c1 c2 hx0 hmk
    generalize V0.drew = V at *
    gi_wp2
    try rw [hsw]
    clear c2'
    gi_loopw [22] (fun p wr => ∃ (k : Nat) (pre : List PX) (f1 f2 : Nat → Int), k ≤ M ∧ p = .int .i64 k ∧ pre.map PX.n = List.range k ∧ J pre wr ∧ W.heap.size + 2 ≤ wr.heap.size ∧ IRow wr ga cells.length f1 ∧ IRow wr gb cells.length f2) (fun p _ => M - (intOf p).toNat)
    case atStart => exact ⟨0, [], _, _, Nat.zero_le _, rfl, rfl, HJ0.out, HZ0.out, HRA0.out, HRB0.out⟩
    case round =>
      clear hmb hsw
      obtain ⟨k, pre, f1, f2, hk, rfl, hpre, hJ, hsz, hr1, hr2⟩ := hrel
      have HJo := Lib.hid hJ; have HPRE := Lib.hid hpre; have HZo := Lib.hid hsz; have HRo1 := Lib.hid hr1; have HRo2 := Lib.hid hr2
      clear hJ hpre hsz hr1 hr2
      generalize wr = wo at *
      by_cases hlt : k < M
      · have hlt' : (k : Int) < (M : Int) := by omega
        obtain ⟨c1, _, c2, c3, _, c4, _⟩ := HINV.out _ _ HJo.out
        gi_wp2
        gi_loopw [9, 28] (fun rv iv wr => ∃ (i : Nat) (f fo : Nat → Int), i ≤ o.length ∧ iv = .int .i64 i ∧ rv = .int .i64 ((k : Int) / pw (sumI ((wOf cells o).take i))) ∧ J pre wr ∧ W.heap.size + 2 ≤ wr.heap.size ∧ IRow wr ga cells.length f ∧ IRow wr gb cells.length fo ∧ DigTo o (wOf cells o) ((k : Int)) f i) (fun _ iv _ => o.length - (intOf iv).toNat)
        case atStart => exact ⟨0, _, _, Nat.zero_le _, rfl, by simp [sumI, pw], HJo.out, HZo.out, HRo1.out, HRo2.out, fun i hi => absurd hi (by omega)⟩
        case round =>
          clear c1 c2 c3 c4
          obtain ⟨i, f, fo, hi, rfl, rfl, hJ, hsz, hr1, hr2, hdg⟩ := hrel
          have HJi := Lib.hid hJ; have HZi := Lib.hid hsz; have HRi1 := Lib.hid hr1; have HRi2 := Lib.hid hr2; have HDi := Lib.hid hdg
          clear hJ hsz hr1 hr2 hdg
          have hP := HINV.out _ _ HJi.out
          by_cases hlt2 : i < o.length
          · have hltw : i < (wOf cells o).length := by rw [wOf_len]; exact hlt2
            rcases hP.k3 with ⟨_, e⟩ | ⟨b3, o3, cap3, e, _, hcl⟩
            · rw [e] at hlt2; simp at hlt2
            cases e
            have g0 : wr.cell? ⟨b3, o3 + i, none⟩ = some (.int .i64 o[i]) := by have := hcl i hlt2; rw [Nat.mul_one] at this; exact this
            have hbd := HBO.out _ (List.getElem_mem hlt2)
            have HPS : Hid ((k : Int) / pw (sumI ((wOf cells o).take i)) / pw (wOf cells o)[i] = (k : Int) / pw (sumI ((wOf cells o).take (i + 1)))) := pw_takeS HWO.out hltw _
            have hwi : (wOf cells o)[i] = wAt cells o[i] := wOf_get hlt2 hltw
            rw [hwi] at HPS
            have HDS := fun v hv => HDi.out.step (v := v) hlt2 HIO.out (fun c hc => (HBO.out c hc).1) hv
            rw [show (wOf cells o).getD i 0 = wAt cells o[i] by rw [← hwi]; simp [List.getD, hltw], show o.getD i 0 = o[i] by simp [List.getD, hlt2]] at HDS
            have HDSh := Lib.hid HDS
            obtain ⟨cN, hcN⟩ := Int.eq_ofNat_of_zero_le hbd.1
            have hcL : cN < cells.length := by omega
            have hxc : ∃ (cb co : Nat), a1 = some ⟨cb, co, none⟩ ∧ wr.cell? ⟨cb, co + cN * 6 + 1, none⟩ = some (.int .i64 (wAt cells o[i])) ∧ cb < W.heap.size := by
              rcases HK1.out with ⟨_, e⟩ | ⟨cb, co, cap', e, _, hcc⟩
              · rw [e] at hcL; simp at hcL
              cases e
              have h2 := (hcc cN hcL).2.1
              refine ⟨cb, co, rfl, ?_, block_lt h2⟩
              rcases hP.k1 with ⟨_, e⟩ | ⟨cb', co', cap', e, _, hcc'⟩
              · rw [e] at hcL; simp at hcL
              cases e
              rw [(hcc' cN hcL).2.1]
              congr 2
              unfold wAt
              rw [hcN]
              simp [hcL]
            obtain ⟨cb, co, rfl, hcW, hcb⟩ := hxc
            have c1 := hP.c1
            have hb1 : B1 < ga := by have := HB1.out; have := HGE.out; omega
            have hb2 : cb < ga := by have := HGE.out; omega
            have d0 := World.rowIs.cell HRi1.out hcL
            have d1 := World.rowIs.frozen HRi1.out cN
            rw [hcN] at g0 hbd HPS HDSh hcW
            clear hcl hP HDS hwi
            generalize (k : Int) / pw (sumI ((wOf cells o).take i)) = m at *
            generalize wAt cells (cN : Int) = wd at *
            obtain ⟨h1, h2, h3, h4⟩ := hbd
            have i0 : (0 : Int) ≤ (i : Int) := by omega
            have hcI : (cN : Int) < (cells.length : Int) := by omega
            have HMK := Lib.hid (mask_walk m wd h3 h4)
            have HR1' : Hid (IRow (wr.setCell ⟨ga, cN, none⟩ (.int .i64 (m % pw wd))) ga cells.length (fun j => if j = cN then m % pw wd else f j)) := HRi1.out.set cN _
            have HR2' : Hid (IRow (wr.setCell ⟨ga, cN, none⟩ (.int .i64 (m % pw wd))) gb cells.length fo) := World.rowIs.setOther HRi2.out (a := ⟨ga, cN, none⟩) (by have := HNE.out; show gb ≠ ga; omega) _
            have HJ' : Hid (J pre (wr.setCell ⟨ga, cN, none⟩ (.int .i64 (m % pw wd)))) := HJ.out _ _ _ HJi.out ((StepX.refl _ _).setCell (p := ⟨ga, cN, none⟩) (by have := HXA.out; exact this) _)
            have HD' := Lib.hid (HDSh.out (m % pw wd) rfl)
            clear hcN
            gi_wp2
            rw [HMK.out, pw_pow]
            go_roundw
            case rel => exact ⟨i + 1, _, fo, by omega, by go_num, by rw [HPS.out], HJ'.out, by have := HZi.out; simpa [World.setCell] using this, HR1'.out, HR2'.out, by simpa using HD'.out⟩
            case measure => simp [intOf]; omega
          · obtain rfl : i = o.length := by omega
            have hmid : (k : Int) / pw (sumI ((wOf cells o).take o.length)) = (k : Int) / pw (bo : Int) := by
              rw [List.take_of_length_le (by rw [wOf_len]; omega), HSO.out]
            have HMID := Lib.hid hmid
            have HDo := Lib.hid HDi.out
            rw [HMID.out]
            have HJn := Lib.hid HJi.out; have HZn := Lib.hid HZi.out; have HRn2 := Lib.hid HRi1.out; have HRn1 := Lib.hid HRi2.out
            have c4 := hP.c4; have c1 := hP.c1; have c2 := hP.c2; have c3 := hP.c3
            clear hmid hP
            gi_wp2
            gi_loopw [9, 54] (fun rv iv wr => ∃ (i : Nat) (f fo : Nat → Int), i ≤ nw.length ∧ iv = .int .i64 i ∧ rv = .int .i64 ((k : Int) / pw (bo : Int) / pw (sumI ((wOf cells nw).take i))) ∧ J pre wr ∧ W.heap.size + 2 ≤ wr.heap.size ∧ IRow wr gb cells.length f ∧ IRow wr ga cells.length fo ∧ DigTo nw (wOf cells nw) ((k : Int) / pw (bo : Int)) f i ∧ DigTo o (wOf cells o) (k : Int) fo o.length) (fun _ iv _ => nw.length - (intOf iv).toNat)
            case atStart => exact ⟨0, _, _, Nat.zero_le _, rfl, by simp [sumI, pw], HJn.out, HZn.out, HRn1.out, HRn2.out, fun i hi => absurd hi (by omega), HDo.out⟩
            case round =>
              clear c1 c2 c3 c4
              obtain ⟨i, f, fo, hi, rfl, rfl, hJ, hsz, hr1, hr2, hdg, hdo⟩ := hrel
              have HJi := Lib.hid hJ; have HZi := Lib.hid hsz; have HRi1 := Lib.hid hr1; have HRi2 := Lib.hid hr2; have HDi := Lib.hid hdg; have HDoi := Lib.hid hdo
              clear hJ hsz hr1 hr2 hdg hdo
              have hP := HINV.out _ _ HJi.out
              by_cases hlt2 : i < nw.length
              · have hltw : i < (wOf cells nw).length := by rw [wOf_len]; exact hlt2
                rcases hP.k4 with ⟨_, e⟩ | ⟨b3, o3, cap3, e, _, hcl⟩
                · rw [e] at hlt2; simp at hlt2
                cases e
                have g0 : wr.cell? ⟨b3, o3 + i, none⟩ = some (.int .i64 nw[i]) := by have := hcl i hlt2; rw [Nat.mul_one] at this; exact this
                have hbd := HBN.out _ (List.getElem_mem hlt2)
                have HPS : Hid ((k : Int) / pw (bo : Int) / pw (sumI ((wOf cells nw).take i)) / pw (wOf cells nw)[i] = (k : Int) / pw (bo : Int) / pw (sumI ((wOf cells nw).take (i + 1)))) := pw_takeS HWN.out hltw _
                have hwi : (wOf cells nw)[i] = wAt cells nw[i] := wOf_get hlt2 hltw
                rw [hwi] at HPS
                have HDS := fun v hv => HDi.out.step (v := v) hlt2 HIN.out (fun c hc => (HBN.out c hc).1) hv
                rw [show (wOf cells nw).getD i 0 = wAt cells nw[i] by rw [← hwi]; simp [List.getD, hltw], show nw.getD i 0 = nw[i] by simp [List.getD, hlt2]] at HDS
                have HDSh := Lib.hid HDS
                obtain ⟨cN, hcN⟩ := Int.eq_ofNat_of_zero_le hbd.1
                have hcL : cN < cells.length := by omega
                have hxc : ∃ (cb co : Nat), a1 = some ⟨cb, co, none⟩ ∧ wr.cell? ⟨cb, co + cN * 6 + 1, none⟩ = some (.int .i64 (wAt cells nw[i])) ∧ cb < W.heap.size := by
                  rcases HK1.out with ⟨_, e⟩ | ⟨cb, co, cap', e, _, hcc⟩
                  · rw [e] at hcL; simp at hcL
                  cases e
                  have h2 := (hcc cN hcL).2.1
                  refine ⟨cb, co, rfl, ?_, block_lt h2⟩
                  rcases hP.k1 with ⟨_, e⟩ | ⟨cb', co', cap', e, _, hcc'⟩
                  · rw [e] at hcL; simp at hcL
                  cases e
                  rw [(hcc' cN hcL).2.1]
                  congr 2
                  unfold wAt
                  rw [hcN]
                  simp [hcL]
                obtain ⟨cb, co, rfl, hcW, hcb⟩ := hxc
                have c1 := hP.c1
                have hb1 : B1 < gb := by have := HB1.out; have := HGE.out; omega
                have hb2 : cb < gb := by have := HGE.out; omega
                have d0 := World.rowIs.cell HRi1.out hcL
                have d1 := World.rowIs.frozen HRi1.out cN
                rw [hcN] at g0 hbd HPS HDSh hcW
                clear hcl hP HDS hwi
                generalize (k : Int) / pw (bo : Int) / pw (sumI ((wOf cells nw).take i)) = m at *
                generalize wAt cells (cN : Int) = wd at *
                obtain ⟨h1, h2, h3, h4⟩ := hbd
                have i0 : (0 : Int) ≤ (i : Int) := by omega
                have hcI : (cN : Int) < (cells.length : Int) := by omega
                have HMK := Lib.hid (mask_walk m wd h3 h4)
                have HR1' : Hid (IRow (wr.setCell ⟨gb, cN, none⟩ (.int .i64 (m % pw wd))) gb cells.length (fun j => if j = cN then m % pw wd else f j)) := HRi1.out.set cN _
                have HR2' : Hid (IRow (wr.setCell ⟨gb, cN, none⟩ (.int .i64 (m % pw wd))) ga cells.length fo) := World.rowIs.setOther HRi2.out (a := ⟨gb, cN, none⟩) (by have := HNE.out; show ga ≠ gb; omega) _
                have HJ' : Hid (J pre (wr.setCell ⟨gb, cN, none⟩ (.int .i64 (m % pw wd)))) := HJ.out _ _ _ HJi.out ((StepX.refl _ _).setCell (p := ⟨gb, cN, none⟩) (by have := HXB.out; exact this) _)
                have HD' := Lib.hid (HDSh.out (m % pw wd) rfl)
                clear hcN
                gi_wp2
                rw [HMK.out, pw_pow]
                go_roundw
                case rel => exact ⟨i + 1, _, fo, by omega, by go_num, by rw [HPS.out], HJ'.out, by have := HZi.out; simpa [World.setCell] using this, HR1'.out, HR2'.out, by simpa using HD'.out, HDoi.out⟩
                case measure => simp [intOf]; omega
              · obtain rfl : i = nw.length := by omega
                have hmm : (k : Int) / pw (bo : Int) / pw (sumI ((wOf cells nw).take nw.length)) = (k : Int) / pw (bo : Int) / pw (sumI ((wOf cells nw).take nw.length)) := rfl
                have HGD : Hid (goodP cells.length o (wOf cells o) nw (wOf cells nw) bo M W.heap.size ⟨k, ga, gb⟩ wr) := ⟨hlt, HXA.out, HXB.out, fo, f, HRi2.out, HRi1.out, HDoi.out, HDi.out⟩
                have hszi : W.heap.size ≤ wr.heap.size := by have := HZi.out; omega
                obtain ⟨fn, tmps, assign, body, hy, hR⟩ := HY.out pre ⟨k, ga, gb⟩ wr HJi.out HGD.out hszi (by have := congrArg List.length HPRE.out; simp at this; omega)
                dsimp only [encP] at hy
                have HR := Lib.hid hR
                have HPX : Hid ((pre ++ [(⟨k, ga, gb⟩ : PX)]).map PX.n = List.range (k + 1)) := by unfold Hid; rw [List.map_append, HPRE.out, List.range_succ]; rfl
                clear hR hszi hP hmm
                gi_wp2
                refine HR.out.mono ?_
                rintro e W3 (⟨rfl, hJ3, hk3⟩ | ⟨rfl, hJx3⟩)
                · have HJ3 := Lib.hid hJ3; have HZ3 : Hid (W.heap.size + 2 ≤ W3.heap.size) := by have := hk3.size; have := HZi.out; unfold Hid; omega
                  have key : ∀ {g : Nat} {f : Nat → Int}, (g = W.heap.size ∨ g = W.heap.size + 1) → IRow wr g cells.length f → IRow W3 g cells.length f := fun {g f} hg h => by
                    obtain ⟨c, hc, hn, hi⟩ := h
                    exact ⟨c, hk3.same _ _ _ _ hg hc, hn, hi⟩
                  have HA3 := Lib.hid (key HXA.out HRi2.out); have HB3 := Lib.hid (key HXB.out HRi1.out)
                  clear hJ3 hk3 hy key
                  gi_wp2
                  go_roundw
                  case rel => have hM4 := HM4.out; exact ⟨k + 1, _, _, _, by omega, by rw [show wrap64 ((k : Int) + 1) = (k : Int) + 1 by unfold wrap64; omega]; rfl, HPX.out, HJ3.out, HZ3.out, HA3.out, HB3.out⟩
                  case measure => have hM4 := HM4.out; rw [show wrap64 ((k : Int) + 1) = (k : Int) + 1 by unfold wrap64; omega]; simp [intOf]; omega
                · have HJx3 := Lib.hid hJx3
                  clear hJx3 hy
                  gi_wp2
                  refine bodyPost_ret (results_none rfl _ _ _) rfl ?_
                  exact ⟨⟨_, rfl⟩, .inr ⟨_, trivial, HJx3.out⟩⟩
      · obtain rfl : k = M := by omega
        gi_wp2
        go_end0
        exact ⟨⟨_, rfl⟩, .inl ⟨_, HPRE.out, HJo.out⟩⟩
  · unfold onlyNormal
    rw [← hV0]
    have hx0 : Ext W V0.drew := by rw [hV0]; exact (((Ext.refl W).alloc _).alloc _).drew
    have hr0 : IRow V0.drew W.heap.size cells.length (fun _ => 0) := by
      rw [hV0]; exact World.rowIs.drew (World.rowIs.alloc (World.rowIs_made W (.int .i64 0) cells.length 3) _)
    have hr1 : IRow V0.drew (W.heap.size + 1) cells.length (fun _ => 0) := by
      have := World.rowIs_made (W.alloc (.cells (madeCells #[.int .i64 0] cells.length) 3)) (.int .i64 0) cells.length 3
      rw [World.size_alloc] at this
      rw [hV0]; exact World.rowIs.drew this
    have hj0 := HJ.out _ _ _ H0.out (StepX.ofExtB (X := fun k => k = W.heap.size ∨ k = W.heap.size + 1) hx0)
    have hz0 : W.heap.size + 2 ≤ V0.drew.heap.size := by rw [hV0]; show _ ≤ ((W.alloc _).alloc _).heap.size; simp
    have HJ0 := Lib.hid hj0; have HZ0 := Lib.hid hz0
    obtain ⟨ga, hga⟩ : ∃ ga, ga = W.heap.size + 1 := ⟨_, rfl⟩
    obtain ⟨gb, hgb⟩ : ∃ gb, gb = W.heap.size := ⟨_, rfl⟩
    have HRA0 : Hid (IRow V0.drew ga cells.length (fun _ => 0)) := by unfold Hid; rw [hga]; exact hr1
    have HRB0 : Hid (IRow V0.drew gb cells.length (fun _ => 0)) := by unfold Hid; rw [hgb]; exact hr0
    have HXA : Hid (ga = W.heap.size ∨ ga = W.heap.size + 1) := by unfold Hid; omega
    have HXB : Hid (gb = W.heap.size ∨ gb = W.heap.size + 1) := by unfold Hid; omega
    have HGE : Hid (W.heap.size ≤ ga ∧ W.heap.size ≤ gb) := by unfold Hid; omega
    have HNE : Hid (ga ≠ gb) := by unfold Hid; omega
    rw [← hga, ← hgb]
    clear hga hgb hr0 hr1 hj0 hz0 hk0 hV0
    have c2' := hx0.cell c2
    clear c1 c2 hx0 hmk
    generalize V0.drew = V at *
    gi_wp2
    try rw [hsw]
    clear c2'
    gi_loopw [22] (fun p wr => ∃ (k : Nat) (pre : List PX) (f1 f2 : Nat → Int), k ≤ M ∧ p = .int .i64 k ∧ pre.map PX.n = List.range k ∧ J pre wr ∧ W.heap.size + 2 ≤ wr.heap.size ∧ IRow wr ga cells.length f1 ∧ IRow wr gb cells.length f2) (fun p _ => M - (intOf p).toNat)
    case atStart => exact ⟨0, [], _, _, Nat.zero_le _, rfl, rfl, HJ0.out, HZ0.out, HRA0.out, HRB0.out⟩
    case round =>
      clear hmb hsw
      obtain ⟨k, pre, f1, f2, hk, rfl, hpre, hJ, hsz, hr1, hr2⟩ := hrel
      have HJo := Lib.hid hJ; have HPRE := Lib.hid hpre; have HZo := Lib.hid hsz; have HRo1 := Lib.hid hr1; have HRo2 := Lib.hid hr2
      clear hJ hpre hsz hr1 hr2
      generalize wr = wo at *
      by_cases hlt : k < M
      · have hlt' : (k : Int) < (M : Int) := by omega
        obtain ⟨c1, _, c2, c3, _, c4, _⟩ := HINV.out _ _ HJo.out
        gi_wp2
        gi_loopw [9, 28] (fun rv iv wr => ∃ (i : Nat) (f fo : Nat → Int), i ≤ o.length ∧ iv = .int .i64 i ∧ rv = .int .i64 ((k : Int) / pw (sumI ((wOf cells o).take i))) ∧ J pre wr ∧ W.heap.size + 2 ≤ wr.heap.size ∧ IRow wr ga cells.length f ∧ IRow wr gb cells.length fo ∧ DigTo o (wOf cells o) ((k : Int)) f i) (fun _ iv _ => o.length - (intOf iv).toNat)
        case atStart => exact ⟨0, _, _, Nat.zero_le _, rfl, by simp [sumI, pw], HJo.out, HZo.out, HRo1.out, HRo2.out, fun i hi => absurd hi (by omega)⟩
        case round =>
          clear c1 c2 c3 c4
          obtain ⟨i, f, fo, hi, rfl, rfl, hJ, hsz, hr1, hr2, hdg⟩ := hrel
          have HJi := Lib.hid hJ; have HZi := Lib.hid hsz; have HRi1 := Lib.hid hr1; have HRi2 := Lib.hid hr2; have HDi := Lib.hid hdg
          clear hJ hsz hr1 hr2 hdg
          have hP := HINV.out _ _ HJi.out
          by_cases hlt2 : i < o.length
          · have hltw : i < (wOf cells o).length := by rw [wOf_len]; exact hlt2
            rcases hP.k3 with ⟨_, e⟩ | ⟨b3, o3, cap3, e, _, hcl⟩
            · rw [e] at hlt2; simp at hlt2
            cases e
            have g0 : wr.cell? ⟨b3, o3 + i, none⟩ = some (.int .i64 o[i]) := by have := hcl i hlt2; rw [Nat.mul_one] at this; exact this
            have hbd := HBO.out _ (List.getElem_mem hlt2)
            have HPS : Hid ((k : Int) / pw (sumI ((wOf cells o).take i)) / pw (wOf cells o)[i] = (k : Int) / pw (sumI ((wOf cells o).take (i + 1)))) := pw_takeS HWO.out hltw _
            have hwi : (wOf cells o)[i] = wAt cells o[i] := wOf_get hlt2 hltw
            rw [hwi] at HPS
            have HDS := fun v hv => HDi.out.step (v := v) hlt2 HIO.out (fun c hc => (HBO.out c hc).1) hv
            rw [show (wOf cells o).getD i 0 = wAt cells o[i] by rw [← hwi]; simp [List.getD, hltw], show o.getD i 0 = o[i] by simp [List.getD, hlt2]] at HDS
            have HDSh := Lib.hid HDS
            obtain ⟨cN, hcN⟩ := Int.eq_ofNat_of_zero_le hbd.1
            have hcL : cN < cells.length := by omega
            have hxc : ∃ (cb co : Nat), a1 = some ⟨cb, co, none⟩ ∧ wr.cell? ⟨cb, co + cN * 6 + 1, none⟩ = some (.int .i64 (wAt cells o[i])) ∧ cb < W.heap.size := by
              rcases HK1.out with ⟨_, e⟩ | ⟨cb, co, cap', e, _, hcc⟩
              · rw [e] at hcL; simp at hcL
              cases e
              have h2 := (hcc cN hcL).2.1
              refine ⟨cb, co, rfl, ?_, block_lt h2⟩
              rcases hP.k1 with ⟨_, e⟩ | ⟨cb', co', cap', e, _, hcc'⟩
              · rw [e] at hcL; simp at hcL
              cases e
              rw [(hcc' cN hcL).2.1]
              congr 2
              unfold wAt
              rw [hcN]
              simp [hcL]
            obtain ⟨cb, co, rfl, hcW, hcb⟩ := hxc
            have c1 := hP.c1
            have hb1 : B1 < ga := by have := HB1.out; have := HGE.out; omega
            have hb2 : cb < ga := by have := HGE.out; omega
            have d0 := World.rowIs.cell HRi1.out hcL
            have d1 := World.rowIs.frozen HRi1.out cN
            rw [hcN] at g0 hbd HPS HDSh hcW
            clear hcl hP HDS hwi
            generalize (k : Int) / pw (sumI ((wOf cells o).take i)) = m at *
            generalize wAt cells (cN : Int) = wd at *
            obtain ⟨h1, h2, h3, h4⟩ := hbd
            have i0 : (0 : Int) ≤ (i : Int) := by omega
            have hcI : (cN : Int) < (cells.length : Int) := by omega
            have HMK := Lib.hid (mask_walk m wd h3 h4)
            have HR1' : Hid (IRow (wr.setCell ⟨ga, cN, none⟩ (.int .i64 (m % pw wd))) ga cells.length (fun j => if j = cN then m % pw wd else f j)) := HRi1.out.set cN _
            have HR2' : Hid (IRow (wr.setCell ⟨ga, cN, none⟩ (.int .i64 (m % pw wd))) gb cells.length fo) := World.rowIs.setOther HRi2.out (a := ⟨ga, cN, none⟩) (by have := HNE.out; show gb ≠ ga; omega) _
            have HJ' : Hid (J pre (wr.setCell ⟨ga, cN, none⟩ (.int .i64 (m % pw wd)))) := HJ.out _ _ _ HJi.out ((StepX.refl _ _).setCell (p := ⟨ga, cN, none⟩) (by have := HXA.out; exact this) _)
            have HD' := Lib.hid (HDSh.out (m % pw wd) rfl)
            clear hcN
            gi_wp2
            rw [HMK.out, pw_pow]
            go_roundw
            case rel => exact ⟨i + 1, _, fo, by omega, by go_num, by rw [HPS.out], HJ'.out, by have := HZi.out; simpa [World.setCell] using this, HR1'.out, HR2'.out, by simpa using HD'.out⟩
            case measure => simp [intOf]; omega
          · obtain rfl : i = o.length := by omega
            have hmid : (k : Int) / pw (sumI ((wOf cells o).take o.length)) = (k : Int) / pw (bo : Int) := by
              rw [List.take_of_length_le (by rw [wOf_len]; omega), HSO.out]
            have HMID := Lib.hid hmid
            have HDo := Lib.hid HDi.out
            rw [HMID.out]
            have HJn := Lib.hid HJi.out; have HZn := Lib.hid HZi.out; have HRn2 := Lib.hid HRi1.out; have HRn1 := Lib.hid HRi2.out
            have c4 := hP.c4; have c1 := hP.c1; have c2 := hP.c2; have c3 := hP.c3
            clear hmid hP
            gi_wp2
            gi_loopw [9, 54] (fun rv iv wr => ∃ (i : Nat) (f fo : Nat → Int), i ≤ nw.length ∧ iv = .int .i64 i ∧ rv = .int .i64 ((k : Int) / pw (bo : Int) / pw (sumI ((wOf cells nw).take i))) ∧ J pre wr ∧ W.heap.size + 2 ≤ wr.heap.size ∧ IRow wr gb cells.length f ∧ IRow wr ga cells.length fo ∧ DigTo nw (wOf cells nw) ((k : Int) / pw (bo : Int)) f i ∧ DigTo o (wOf cells o) (k : Int) fo o.length) (fun _ iv _ => nw.length - (intOf iv).toNat)
            case atStart => exact ⟨0, _, _, Nat.zero_le _, rfl, by simp [sumI, pw], HJn.out, HZn.out, HRn1.out, HRn2.out, fun i hi => absurd hi (by omega), HDo.out⟩
            case round =>
              clear c1 c2 c3 c4
              obtain ⟨i, f, fo, hi, rfl, rfl, hJ, hsz, hr1, hr2, hdg, hdo⟩ := hrel
              have HJi := Lib.hid hJ; have HZi := Lib.hid hsz; have HRi1 := Lib.hid hr1; have HRi2 := Lib.hid hr2; have HDi := Lib.hid hdg; have HDoi := Lib.hid hdo
              clear hJ hsz hr1 hr2 hdg hdo
              have hP := HINV.out _ _ HJi.out
              by_cases hlt2 : i < nw.length
              · have hltw : i < (wOf cells nw).length := by rw [wOf_len]; exact hlt2
                rcases hP.k4 with ⟨_, e⟩ | ⟨b3, o3, cap3, e, _, hcl⟩
                · rw [e] at hlt2; simp at hlt2
                cases e
                have g0 : wr.cell? ⟨b3, o3 + i, none⟩ = some (.int .i64 nw[i]) := by have := hcl i hlt2; rw [Nat.mul_one] at this; exact this
                have hbd := HBN.out _ (List.getElem_mem hlt2)
                have HPS : Hid ((k : Int) / pw (bo : Int) / pw (sumI ((wOf cells nw).take i)) / pw (wOf cells nw)[i] = (k : Int) / pw (bo : Int) / pw (sumI ((wOf cells nw).take (i + 1)))) := pw_takeS HWN.out hltw _
                have hwi : (wOf cells nw)[i] = wAt cells nw[i] := wOf_get hlt2 hltw
                rw [hwi] at HPS
                have HDS := fun v hv => HDi.out.step (v := v) hlt2 HIN.out (fun c hc => (HBN.out c hc).1) hv
                rw [show (wOf cells nw).getD i 0 = wAt cells nw[i] by rw [← hwi]; simp [List.getD, hltw], show nw.getD i 0 = nw[i] by simp [List.getD, hlt2]] at HDS
                have HDSh := Lib.hid HDS
                obtain ⟨cN, hcN⟩ := Int.eq_ofNat_of_zero_le hbd.1
                have hcL : cN < cells.length := by omega
                have hxc : ∃ (cb co : Nat), a1 = some ⟨cb, co, none⟩ ∧ wr.cell? ⟨cb, co + cN * 6 + 1, none⟩ = some (.int .i64 (wAt cells nw[i])) ∧ cb < W.heap.size := by
                  rcases HK1.out with ⟨_, e⟩ | ⟨cb, co, cap', e, _, hcc⟩
                  · rw [e] at hcL; simp at hcL
                  cases e
                  have h2 := (hcc cN hcL).2.1
                  refine ⟨cb, co, rfl, ?_, block_lt h2⟩
                  rcases hP.k1 with ⟨_, e⟩ | ⟨cb', co', cap', e, _, hcc'⟩
                  · rw [e] at hcL; simp at hcL
                  cases e
                  rw [(hcc' cN hcL).2.1]
                  congr 2
                  unfold wAt
                  rw [hcN]
                  simp [hcL]
                obtain ⟨cb, co, rfl, hcW, hcb⟩ := hxc
                have c1 := hP.c1
                have hb1 : B1 < gb := by have := HB1.out; have := HGE.out; omega
                have hb2 : cb < gb := by have := HGE.out; omega
                have d0 := World.rowIs.cell HRi1.out hcL
                have d1 := World.rowIs.frozen HRi1.out cN
                rw [hcN] at g0 hbd HPS HDSh hcW
                clear hcl hP HDS hwi
                generalize (k : Int) / pw (bo : Int) / pw (sumI ((wOf cells nw).take i)) = m at *
                generalize wAt cells (cN : Int) = wd at *
                obtain ⟨h1, h2, h3, h4⟩ := hbd
                have i0 : (0 : Int) ≤ (i : Int) := by omega
                have hcI : (cN : Int) < (cells.length : Int) := by omega
                have HMK := Lib.hid (mask_walk m wd h3 h4)
                have HR1' : Hid (IRow (wr.setCell ⟨gb, cN, none⟩ (.int .i64 (m % pw wd))) gb cells.length (fun j => if j = cN then m % pw wd else f j)) := HRi1.out.set cN _
                have HR2' : Hid (IRow (wr.setCell ⟨gb, cN, none⟩ (.int .i64 (m % pw wd))) ga cells.length fo) := World.rowIs.setOther HRi2.out (a := ⟨gb, cN, none⟩) (by have := HNE.out; show ga ≠ gb; omega) _
                have HJ' : Hid (J pre (wr.setCell ⟨gb, cN, none⟩ (.int .i64 (m % pw wd)))) := HJ.out _ _ _ HJi.out ((StepX.refl _ _).setCell (p := ⟨gb, cN, none⟩) (by have := HXB.out; exact this) _)
                have HD' := Lib.hid (HDSh.out (m % pw wd) rfl)
                clear hcN
                gi_wp2
                rw [HMK.out, pw_pow]
                go_roundw
                case rel => exact ⟨i + 1, _, fo, by omega, by go_num, by rw [HPS.out], HJ'.out, by have := HZi.out; simpa [World.setCell] using this, HR1'.out, HR2'.out, by simpa using HD'.out, HDoi.out⟩
                case measure => simp [intOf]; omega
              · obtain rfl : i = nw.length := by omega
                have hmm : (k : Int) / pw (bo : Int) / pw (sumI ((wOf cells nw).take nw.length)) = (k : Int) / pw (bo : Int) / pw (sumI ((wOf cells nw).take nw.length)) := rfl
                have HGD : Hid (goodP cells.length o (wOf cells o) nw (wOf cells nw) bo M W.heap.size ⟨k, ga, gb⟩ wr) := ⟨hlt, HXA.out, HXB.out, fo, f, HRi2.out, HRi1.out, HDoi.out, HDi.out⟩
                have hszi : W.heap.size ≤ wr.heap.size := by have := HZi.out; omega
                obtain ⟨fn, tmps, assign, body, hy, hR⟩ := HY.out pre ⟨k, ga, gb⟩ wr HJi.out HGD.out hszi (by have := congrArg List.length HPRE.out; simp at this; omega)
                dsimp only [encP] at hy
                have HR := Lib.hid hR
                have HPX : Hid ((pre ++ [(⟨k, ga, gb⟩ : PX)]).map PX.n = List.range (k + 1)) := by unfold Hid; rw [List.map_append, HPRE.out, List.range_succ]; rfl
                clear hR hszi hP hmm
                gi_wp2
                refine HR.out.mono ?_
                rintro e W3 (⟨rfl, hJ3, hk3⟩ | ⟨rfl, hJx3⟩)
                · have HJ3 := Lib.hid hJ3; have HZ3 : Hid (W.heap.size + 2 ≤ W3.heap.size) := by have := hk3.size; have := HZi.out; unfold Hid; omega
                  have key : ∀ {g : Nat} {f : Nat → Int}, (g = W.heap.size ∨ g = W.heap.size + 1) → IRow wr g cells.length f → IRow W3 g cells.length f := fun {g f} hg h => by
                    obtain ⟨c, hc, hn, hi⟩ := h
                    exact ⟨c, hk3.same _ _ _ _ hg hc, hn, hi⟩
                  have HA3 := Lib.hid (key HXA.out HRi2.out); have HB3 := Lib.hid (key HXB.out HRi1.out)
                  clear hJ3 hk3 hy key
                  gi_wp2
                  go_roundw
                  case rel => have hM4 := HM4.out; exact ⟨k + 1, _, _, _, by omega, by rw [show wrap64 ((k : Int) + 1) = (k : Int) + 1 by unfold wrap64; omega]; rfl, HPX.out, HJ3.out, HZ3.out, HA3.out, HB3.out⟩
                  case measure => have hM4 := HM4.out; rw [show wrap64 ((k : Int) + 1) = (k : Int) + 1 by unfold wrap64; omega]; simp [intOf]; omega
                · have HJx3 := Lib.hid hJx3
                  clear hJx3 hy
                  gi_wp2
                  refine bodyPost_ret (results_none rfl _ _ _) rfl ?_
                  exact ⟨⟨_, rfl⟩, .inr ⟨_, trivial, HJx3.out⟩⟩
      · obtain rfl : k = M := by omega
        gi_wp2
        go_end0
        exact ⟨⟨_, rfl⟩, .inl ⟨_, HPRE.out, HJo.out⟩⟩
end Go.Proofs.YtlcgbdjmlnjhcaaGreatDoor
