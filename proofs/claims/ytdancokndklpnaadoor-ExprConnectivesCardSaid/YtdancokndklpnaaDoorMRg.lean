/-
  The plain law of the ring: numbers modulo a power of two, and their bits. No program in sight.
  The plain law of the ring: bits.
  The plain law of the ring: what ring and ExprRing compute is true.
  The plain law of the ring: the order.
  The walk of ring. Printed by gen_ring.py.
-/
import Derived.Test.YtdancokndklpnaaDoorMForm
import Derived.Test.YtdancokndklpnaaDoorMLw
namespace Go.Proofs.YtdancokndklpnaaDoor
open Go.RowKit

theorem deep_up : ∀ (d d' : Nat) (e : E), d ≤ d' → e.deep d = true → e.deep d' = true := by
  intro d
  induction d with
  | zero => intro d' e _ h; cases e; simp [E.deep] at h
  | succ d ih =>
    intro d' e hd h
    obtain ⟨op, wd, n, ks⟩ := e
    simp only [E.deep, Bool.and_eq_true, decide_eq_true_eq, deepAll_iff] at h ⊢
    exact ⟨⟨by omega, h.1.2⟩, fun k hk => ih (d' - 1) k (by omega) (by simpa using h.2 k hk)⟩
/-- No deeper than it has nodes. -/
theorem deep_in_size : ∀ (d : Nat) (e : E), e.deep d = true → e.deep e.size = true := by
  intro d
  induction d with
  | zero => intro e h; cases e; simp [E.deep] at h
  | succ d ih =>
    intro e h
    obtain ⟨op, wd, n, ks⟩ := e
    simp only [E.deep, Bool.and_eq_true, decide_eq_true_eq, deepAll_iff] at h ⊢
    refine ⟨⟨E.size_pos _, h.1.2⟩, fun k hk => ?_⟩
    have := size_kid (op := op) (wd := wd) (n := n) hk
    exact deep_up _ _ k (by omega) (ih k (by simpa using h.2 k hk))

/-- Shaped, of depth at most d, of at most s nodes, of width wd. -/
def Good (wd : Int) (d s : Nat) (e : E) : Prop := e.deep d = true ∧ e.size ≤ s ∧ e.wd = wd
theorem good_of_wf {e : E} {s : Nat} (h : e.wf = true) (hs : e.size ≤ s) : Good e.wd s s e := by
  simp only [E.wf, Bool.and_eq_true, decide_eq_true_eq] at h
  exact ⟨deep_up _ _ _ hs (deep_in_size _ _ h.2), hs, rfl⟩
theorem Good.mono {wd : Int} {d d' s s' : Nat} {e : E} (h : Good wd d s e) (hd : d ≤ d') (hs : s ≤ s') : Good wd d' s' e := ⟨deep_up _ _ _ hd h.1, Nat.le_trans h.2.1 hs, h.2.2⟩
theorem Good.width {wd : Int} {d s : Nat} {a : E} (ha : Good wd d s a) : 1 ≤ wd ∧ wd ≤ 8 := by
  obtain ⟨op', wd', n', ks'⟩ := a
  have := ha.1; have e := ha.2.2
  simp only [E.deep, Bool.and_eq_true, shapedW, decide_eq_true_eq] at this
  simp only [E.wd_mk] at e; subst e
  exact ⟨this.1.2.1.1, this.1.2.1.2⟩
theorem Good.two {wd : Int} {d s t : Nat} {a b : E} {op : Int} (ho : op = 5 ∨ op = 6 ∨ op = 7 ∨ op = 8 ∨ op = 9 ∨ op = 10) (ha : Good wd d s a) (hb : Good wd d t b) : Good wd (d + 1) (s + t + 1) (.mk op wd 0 [a, b]) := by
  have hw := ha.width
  refine ⟨?_, ?_, rfl⟩
  · simp only [E.deep, Bool.and_eq_true, decide_eq_true_eq, deepAll_iff]
    refine ⟨⟨by omega, ?_⟩, ?_⟩
    · simp only [List.map_cons, List.map_nil, ha.2.2, hb.2.2]
      rcases ho with rfl | rfl | rfl | rfl | rfl | rfl <;> simp [shapedW, hw]
    · intro k hk
      simp at hk
      rcases hk with rfl | rfl
      · exact deep_up _ _ _ (by omega) ha.1
      · exact deep_up _ _ _ (by omega) hb.1
  · simp only [E.size, sizeAll]; have := ha.2.1; have := hb.2.1; omega
theorem Good.cmp {wd : Int} {d s t : Nat} {a b : E} {op : Int} (ho : op = 11 ∨ op = 12 ∨ op = 13) (ha : Good wd d s a) (hb : Good wd d t b) : Good 1 (d + 1) (s + t + 1) (.mk op 1 0 [a, b]) := by
  refine ⟨?_, ?_, rfl⟩
  · simp only [E.deep, Bool.and_eq_true, decide_eq_true_eq, deepAll_iff]
    refine ⟨⟨by omega, ?_⟩, ?_⟩
    · simp only [List.map_cons, List.map_nil, ha.2.2, hb.2.2]
      rcases ho with rfl | rfl | rfl <;> simp [shapedW]
    · intro k hk
      simp at hk
      rcases hk with rfl | rfl
      · exact deep_up _ _ _ (by omega) ha.1
      · exact deep_up _ _ _ (by omega) hb.1
  · simp only [E.size, sizeAll]; have := ha.2.1; have := hb.2.1; omega
theorem Good.ite {wd : Int} {d s t u : Nat} {x a b : E} (hx : Good 1 d u x) (ha : Good wd d s a) (hb : Good wd d t b) : Good wd (d + 1) (u + s + t + 1) (.mk 14 wd 0 [x, a, b]) := by
  have hw := ha.width
  refine ⟨?_, ?_, rfl⟩
  · simp only [E.deep, Bool.and_eq_true, decide_eq_true_eq, deepAll_iff]
    refine ⟨⟨by omega, ?_⟩, ?_⟩
    · simp only [List.map_cons, List.map_nil, ha.2.2, hb.2.2, hx.2.2]
      simp [shapedW, hw]
    · intro k hk
      simp at hk
      rcases hk with rfl | rfl | rfl
      · exact deep_up _ _ _ (by omega) hx.1
      · exact deep_up _ _ _ (by omega) ha.1
      · exact deep_up _ _ _ (by omega) hb.1
  · simp only [E.size, sizeAll]; have := ha.2.1; have := hb.2.1; have := hx.2.1; omega
theorem Good.not {wd : Int} {d s : Nat} {a : E} (ha : Good wd d s a) : Good wd (d + 1) (s + 1) (.mk 4 wd 0 [a]) := by
  have hw := ha.width
  refine ⟨?_, ?_, rfl⟩
  · simp only [E.deep, Bool.and_eq_true, decide_eq_true_eq, deepAll_iff]
    refine ⟨⟨by omega, ?_⟩, ?_⟩
    · simp [ha.2.2, shapedW, hw]
    · intro k hk; simp at hk; subst hk; exact deep_up _ _ _ (by omega) ha.1
  · simp only [E.size, sizeAll]; have := ha.2.1; omega
theorem Good.eval {wd : Int} {d s : Nat} {e : E} (h : Good wd d s e) (hd : d ≤ 40) (hs : s ≤ 600) (old now : List Int) : e.eval old now = e.val old now := by
  have : e.wf = true := by
    simp only [E.wf, Bool.and_eq_true, decide_eq_true_eq]
    have := h.2.1
    exact ⟨by omega, deep_up _ _ _ hd h.1⟩
  rw [E.eval, if_pos this]
theorem Good.range {wd : Int} {d s : Nat} {e : E} (h : Good wd d s e) (old now : List Int) : 0 ≤ e.val old now ∧ e.val old now < pw wd := by
  have := val_range old now e d h.1; rwa [h.2.2] at this
theorem val_two (old now : List Int) (op wd : Int) (a b : E) (h : 4 ≤ op) : (E.mk op wd 0 [a, b]).val old now = applyS op (a.val old now) (b.val old now) 0 % pw wd := by
  rw [E.val, if_neg (by omega), if_neg (by omega), if_neg (by omega)]; simp [valAll]
theorem val_not (old now : List Int) (wd : Int) (a : E) : (E.mk 4 wd 0 [a]).val old now = (-1 - a.val old now) % pw wd := by
  rw [E.val, if_neg (by omega), if_neg (by omega), if_neg (by omega)]; simp [valAll, applyS]

/-- The numbers. -/
theorem m_add_assoc (x y z P : Int) : ((x + y) % P + z) % P = (x + (y + z) % P) % P := by
  rw [Int.emod_add_emod, Int.add_emod_emod, Int.add_assoc]
theorem m_sub (x y P : Int) (h0 : 0 ≤ x) (h1 : x < P) : ((x + y) % P - y) % P = x := by
  rw [Int.emod_sub_emod, Int.add_sub_cancel, Int.emod_eq_of_lt h0 h1]
theorem m_dist (x y z P : Int) : (x * ((y + z) % P)) % P = ((x * y) % P + (x * z) % P) % P := by
  rw [Int.mul_emod, Int.emod_emod, ← Int.mul_emod, Int.mul_add, ← Int.add_emod]
theorem m_neg (x P : Int) (h0 : 0 ≤ x) (h1 : x < P) : (-1 - x) % P = P - 1 - x := by
  rw [← Int.add_emod_right, Int.emod_eq_of_lt (by omega) (by omega)]; omega
theorem m_compl (x P : Int) (h0 : 0 ≤ x) (h1 : x < P) : (x + (-1 - x) % P) % P = P - 1 := by
  rw [m_neg x P h0 h1, Int.emod_eq_of_lt (by omega) (by omega)]; omega
theorem val_ite (old now : List Int) (wd : Int) (x a b : E) : (E.mk 14 wd 0 [x, a, b]).val old now = (if x.val old now = 1 then a.val old now else b.val old now) % pw wd := by
  rw [E.val, if_neg (by omega), if_neg (by omega), if_neg (by omega)]; simp [valAll, applyS]
end Go.Proofs.YtdancokndklpnaaDoor
namespace Go.Proofs.YtdancokndklpnaaDoor
open Go.RowKit

theorem n_morgan {w x y : Nat} (hx : x < 2 ^ w) (hy : y < 2 ^ w) : 2 ^ w - 1 - (x &&& y) = (2 ^ w - 1 - x) ||| (2 ^ w - 1 - y) := by
  apply Nat.eq_of_testBit_eq
  intro i
  rw [show 2 ^ w - 1 - (x &&& y) = 2 ^ w - ((x &&& y) + 1) by omega, show 2 ^ w - 1 - x = 2 ^ w - (x + 1) by omega, show 2 ^ w - 1 - y = 2 ^ w - (y + 1) by omega]
  rw [Nat.testBit_or, Nat.testBit_two_pow_sub_succ (Nat.and_lt_two_pow _ hy), Nat.testBit_two_pow_sub_succ hx, Nat.testBit_two_pow_sub_succ hy, Nat.testBit_and]
  cases decide (i < w) <;> cases x.testBit i <;> cases y.testBit i <;> rfl
theorem n_or_add (x y : Nat) : x ||| y = (x ^^^ y) + (x &&& y) := by
  have hd : (x ^^^ y) &&& (x &&& y) = 0 := by
    apply Nat.eq_of_testBit_eq; intro i
    rw [Nat.testBit_and, Nat.testBit_xor, Nat.testBit_and, Nat.zero_testBit]
    cases x.testBit i <;> cases y.testBit i <;> rfl
  have ho : x ||| y = (x ^^^ y) ||| (x &&& y) := by
    apply Nat.eq_of_testBit_eq; intro i
    rw [Nat.testBit_or, Nat.testBit_or, Nat.testBit_xor, Nat.testBit_and]
    cases x.testBit i <;> cases y.testBit i <;> rfl
  obtain ⟨w, h⟩ : ∃ w, x < 2 ^ w ∧ y < 2 ^ w := ⟨x + y, by have := Nat.lt_two_pow_self (n := x + y); omega, by have := Nat.lt_two_pow_self (n := x + y); omega⟩
  have e := BitVec.add_eq_or_of_and_eq_zero (BitVec.ofNat (w + 1) (x ^^^ y)) (BitVec.ofNat (w + 1) (x &&& y)) (by rw [← BitVec.ofNat_and, hd])
  have b1 : x ^^^ y < 2 ^ w := Nat.xor_lt_two_pow h.1 h.2
  have b2 : x &&& y < 2 ^ w := Nat.and_lt_two_pow _ h.2
  have e2 := congrArg BitVec.toNat e
  rw [← BitVec.ofNat_or, BitVec.toNat_add, BitVec.toNat_ofNat, BitVec.toNat_ofNat, BitVec.toNat_ofNat, ← ho] at e2
  have b3 : x ||| y < 2 ^ w := Nat.or_lt_two_pow h.1 h.2
  have hp : 2 ^ (w + 1) = 2 ^ w + 2 ^ w := by rw [Nat.pow_succ]; omega
  have p1 : (x ^^^ y) % 2 ^ (w + 1) = x ^^^ y := Nat.mod_eq_of_lt (by omega)
  have p2 : (x &&& y) % 2 ^ (w + 1) = x &&& y := Nat.mod_eq_of_lt (by omega)
  have p3 : (x ||| y) % 2 ^ (w + 1) = x ||| y := Nat.mod_eq_of_lt (by omega)
  rw [p1, p2, p3, Nat.mod_eq_of_lt (by omega)] at e2
  exact e2.symm

/-- Numbers in the range of a width. -/
def InW (wd x : Int) : Prop := 0 ≤ x ∧ x < pw wd
theorem InW.nat {wd x : Int} (h : InW wd x) : ∃ n : Nat, x = n ∧ n < 2 ^ wd.toNat := by
  obtain ⟨n, rfl⟩ := Int.eq_ofNat_of_zero_le h.1
  refine ⟨n, rfl, ?_⟩
  have := h.2; unfold pw at this; exact_mod_cast this
theorem in_nat {wd : Int} {n : Nat} (h : n < 2 ^ wd.toNat) : InW wd n := ⟨by omega, by unfold pw; exact_mod_cast h⟩
theorem InW.emod {wd x : Int} (h : InW wd x) : x % pw wd = x := Int.emod_eq_of_lt h.1 h.2
theorem pw_nat (wd : Int) : pw wd = ((2 ^ wd.toNat : Nat) : Int) := by unfold pw; push_cast; rfl
theorem w_morgan {wd x y : Int} (hx : InW wd x) (hy : InW wd y) :
    (-1 - ((x.toNat &&& y.toNat : Nat) : Int) % pw wd) % pw wd = ((((-1 - x) % pw wd).toNat ||| ((-1 - y) % pw wd).toNat : Nat) : Int) % pw wd := by
  obtain ⟨a, rfl, ha⟩ := hx.nat
  obtain ⟨b, rfl, hb⟩ := hy.nat
  have hab : a &&& b < 2 ^ wd.toNat := Nat.and_lt_two_pow _ hb
  simp only [Int.toNat_natCast]
  rw [(in_nat hab).emod, m_neg _ _ hx.1 hx.2, m_neg _ _ hy.1 hy.2, m_neg _ _ (in_nat hab).1 (in_nat hab).2, pw_nat]
  have ea : (((2 ^ wd.toNat : Nat) : Int) - 1 - (a : Int)).toNat = 2 ^ wd.toNat - 1 - a := by omega
  have eb : (((2 ^ wd.toNat : Nat) : Int) - 1 - (b : Int)).toNat = 2 ^ wd.toNat - 1 - b := by omega
  rw [ea, eb, ← n_morgan ha hb, ← pw_nat, (in_nat (wd := wd) (n := 2 ^ wd.toNat - 1 - (a &&& b)) (by omega)).emod, pw_nat]
  omega
theorem w_xor {wd x y : Int} (hx : InW wd x) (hy : InW wd y) :
    ((x.toNat ^^^ y.toNat : Nat) : Int) % pw wd = (((x.toNat ||| y.toNat : Nat) : Int) % pw wd - ((x.toNat &&& y.toNat : Nat) : Int) % pw wd) % pw wd := by
  obtain ⟨a, rfl, ha⟩ := hx.nat
  obtain ⟨b, rfl, hb⟩ := hy.nat
  simp only [Int.toNat_natCast]
  rw [(in_nat (Nat.xor_lt_two_pow ha hb)).emod, (in_nat (Nat.or_lt_two_pow ha hb)).emod, (in_nat (Nat.and_lt_two_pow a hb)).emod, n_or_add a b]
  rw [show (((a ^^^ b) + (a &&& b) : Nat) : Int) - ((a &&& b : Nat) : Int) = ((a ^^^ b : Nat) : Int) by omega, (in_nat (Nat.xor_lt_two_pow ha hb)).emod]
theorem w_dist {wd x y z : Int} (hx : InW wd x) (hy : InW wd y) (hz : InW wd z) :
    ((x.toNat &&& (((y.toNat ||| z.toNat : Nat) : Int) % pw wd).toNat : Nat) : Int) % pw wd = (((((x.toNat &&& y.toNat : Nat) : Int) % pw wd).toNat ||| (((x.toNat &&& z.toNat : Nat) : Int) % pw wd).toNat : Nat) : Int) % pw wd := by
  obtain ⟨a, rfl, ha⟩ := hx.nat
  obtain ⟨b, rfl, hb⟩ := hy.nat
  obtain ⟨c, rfl, hc⟩ := hz.nat
  simp only [Int.toNat_natCast]
  rw [(in_nat (Nat.or_lt_two_pow hb hc)).emod, (in_nat (Nat.and_lt_two_pow a hb)).emod, (in_nat (Nat.and_lt_two_pow a hc)).emod]
  simp only [Int.toNat_natCast]
  rw [Nat.and_or_distrib_left]
end Go.Proofs.YtdancokndklpnaaDoor
namespace Go.Proofs.YtdancokndklpnaaDoor
open Go.RowKit

def tw (op : Int) (a b : E) : E := .mk op a.wd 0 [a, b]
def nt (a : E) : E := .mk 4 a.wd 0 [a]
theorem Good.tw {wd : Int} {d s t : Nat} {a b : E} {op : Int} (ho : op = 5 ∨ op = 6 ∨ op = 7 ∨ op = 8 ∨ op = 9 ∨ op = 10) (ha : Good wd d s a) (hb : Good wd d t b) : Good wd (d + 1) (s + t + 1) (tw op a b) := by
  have := ha.two ho hb; rw [Go.Proofs.YtdancokndklpnaaDoor.tw, ha.2.2]; exact this
theorem Good.nt {wd : Int} {d s : Nat} {a : E} (ha : Good wd d s a) : Good wd (d + 1) (s + 1) (nt a) := by
  have := ha.not; rw [Go.Proofs.YtdancokndklpnaaDoor.nt, ha.2.2]; exact this
theorem tw_val {wd : Int} {d s : Nat} {a : E} (ha : Good wd d s a) (b : E) (op : Int) (h : 4 ≤ op) (old now : List Int) : (tw op a b).val old now = applyS op (a.val old now) (b.val old now) 0 % pw wd := by
  rw [tw, val_two _ _ _ _ _ _ h, ha.2.2]
theorem nt_val {wd : Int} {d s : Nat} {a : E} (ha : Good wd d s a) (old now : List Int) : (nt a).val old now = (-1 - a.val old now) % pw wd := by
  rw [nt, val_not, ha.2.2]
theorem ap5 (x y : Int) : applyS 5 x y 0 = ((x.toNat &&& y.toNat : Nat) : Int) := rfl
theorem ap6 (x y : Int) : applyS 6 x y 0 = ((x.toNat ||| y.toNat : Nat) : Int) := rfl
theorem ap7 (x y : Int) : applyS 7 x y 0 = ((x.toNat ^^^ y.toNat : Nat) : Int) := rfl
theorem ap8 (x y : Int) : applyS 8 x y 0 = x + y := rfl
theorem ap9 (x y : Int) : applyS 9 x y 0 = x - y := rfl
theorem ap10 (x y : Int) : applyS 10 x y 0 = x * y := rfl

section
variable {wd : Int} {a b c : E} (ha : Good wd 30 30 a) (hb : Good wd 30 30 b) (hc : Good wd 30 30 c) (old now : List Int)
include ha hb
theorem r_comm8 : (tw 8 a b).eval old now = (tw 8 b a).eval old now := by
  rw [(ha.tw (by simp) hb).eval (by omega) (by omega), (hb.tw (by simp) ha).eval (by omega) (by omega), tw_val ha _ _ (by omega), tw_val hb _ _ (by omega), ap8, ap8, Int.add_comm]
theorem r_comm10 : (tw 10 a b).eval old now = (tw 10 b a).eval old now := by
  rw [(ha.tw (by simp) hb).eval (by omega) (by omega), (hb.tw (by simp) ha).eval (by omega) (by omega), tw_val ha _ _ (by omega), tw_val hb _ _ (by omega), ap10, ap10, Int.mul_comm]
theorem r_sub : (tw 9 (tw 8 a b) b).eval old now = a.eval old now := by
  have h1 : Good wd 31 61 (tw 8 a b) := ha.tw (by simp) hb
  have hb' : Good wd 31 30 b := hb.mono (by omega) (by omega)
  rw [(h1.tw (by simp) hb').eval (by omega) (by omega), ha.eval (by omega) (by omega), tw_val h1 _ _ (by omega), tw_val ha _ _ (by omega), ap9, ap8, m_sub _ _ _ (ha.range old now).1 (ha.range old now).2]
theorem r_morgan : (nt (tw 5 a b)).eval old now = (tw 6 (nt a) (nt b)).eval old now := by
  have h1 : Good wd 31 61 (tw 5 a b) := ha.tw (by simp) hb
  rw [h1.nt.eval (by omega) (by omega), (ha.nt.tw (by simp) hb.nt).eval (by omega) (by omega), nt_val h1, tw_val ha _ _ (by omega), tw_val ha.nt _ _ (by omega), nt_val ha, nt_val hb, ap5, ap6]
  exact w_morgan (ha.range old now) (hb.range old now)
theorem r_xor : (tw 7 a b).eval old now = (tw 9 (tw 6 a b) (tw 5 a b)).eval old now := by
  have h1 : Good wd 31 61 (tw 5 a b) := ha.tw (by simp) hb
  have h2 : Good wd 31 61 (tw 6 a b) := ha.tw (by simp) hb
  rw [(ha.tw (by simp) hb).eval (by omega) (by omega), (h2.tw (by simp) h1).eval (by omega) (by omega), tw_val ha _ _ (by omega), tw_val h2 _ _ (by omega), tw_val ha _ _ (by omega), tw_val ha _ _ (by omega), ap7, ap9, ap6, ap5]
  exact w_xor (ha.range old now) (hb.range old now)
omit hb in
theorem r_compl : (tw 8 a (nt a)).eval old now = pw a.wd - 1 := by
  have h1 : Good wd 31 31 (nt a) := ha.nt
  have ha' : Good wd 31 30 a := ha.mono (by omega) (by omega)
  rw [(ha'.tw (by simp) h1).eval (by omega) (by omega), tw_val ha' _ _ (by omega), nt_val ha, ap8, ha.2.2, m_compl _ _ (ha.range old now).1 (ha.range old now).2]
include hc
theorem r_assoc : (tw 8 (tw 8 a b) c).eval old now = (tw 8 a (tw 8 b c)).eval old now := by
  have h1 : Good wd 31 61 (tw 8 a b) := ha.tw (by simp) hb
  have h2 : Good wd 31 61 (tw 8 b c) := hb.tw (by simp) hc
  have ha' : Good wd 31 30 a := ha.mono (by omega) (by omega)
  have hc' : Good wd 31 30 c := hc.mono (by omega) (by omega)
  rw [(h1.tw (by simp) hc').eval (by omega) (by omega), (ha'.tw (by simp) h2).eval (by omega) (by omega), tw_val h1 _ _ (by omega), tw_val ha _ _ (by omega), tw_val ha' _ _ (by omega), tw_val hb _ _ (by omega), ap8, ap8, ap8, ap8, m_add_assoc]
theorem r_dist : (tw 10 a (tw 8 b c)).eval old now = (tw 8 (tw 10 a b) (tw 10 a c)).eval old now := by
  have h1 : Good wd 31 61 (tw 8 b c) := hb.tw (by simp) hc
  have h2 : Good wd 31 61 (tw 10 a b) := ha.tw (by simp) hb
  have h3 : Good wd 31 61 (tw 10 a c) := ha.tw (by simp) hc
  have ha' : Good wd 31 30 a := ha.mono (by omega) (by omega)
  rw [(ha'.tw (by simp) h1).eval (by omega) (by omega), (h2.tw (by simp) h3).eval (by omega) (by omega), tw_val ha' _ _ (by omega), tw_val hb _ _ (by omega), tw_val h2 _ _ (by omega), tw_val ha _ _ (by omega), tw_val ha _ _ (by omega), ap10, ap8, ap8, ap10, ap10, m_dist]
theorem r_bits : (tw 5 a (tw 6 b c)).eval old now = (tw 6 (tw 5 a b) (tw 5 a c)).eval old now := by
  have h1 : Good wd 31 61 (tw 6 b c) := hb.tw (by simp) hc
  have h2 : Good wd 31 61 (tw 5 a b) := ha.tw (by simp) hb
  have h3 : Good wd 31 61 (tw 5 a c) := ha.tw (by simp) hc
  have ha' : Good wd 31 30 a := ha.mono (by omega) (by omega)
  rw [(ha'.tw (by simp) h1).eval (by omega) (by omega), (h2.tw (by simp) h3).eval (by omega) (by omega), tw_val ha' _ _ (by omega), tw_val hb _ _ (by omega), tw_val h2 _ _ (by omega), tw_val ha _ _ (by omega), tw_val ha _ _ (by omega), ap5, ap6, ap6, ap5, ap5]
  exact w_dist (ha.range old now) (hb.range old now) (hc.range old now)
end
end Go.Proofs.YtdancokndklpnaaDoor
namespace Go.Proofs.YtdancokndklpnaaDoor
open Go.RowKit
theorem pw_one : pw 1 = 2 := by simp [pw]
section
variable {wd : Int} {a b : E} (ha : Good wd 30 30 a) (hb : Good wd 30 30 b) (old now : List Int)
include ha hb
theorem o_lt : ((E.mk 12 1 0 [a, b]).eval old now == 1) = decide (a.eval old now < b.eval old now) := by
  rw [(ha.cmp (by simp) hb).eval (by omega) (by omega), ha.eval (by omega) (by omega), hb.eval (by omega) (by omega), val_two _ _ _ _ _ _ (by omega), pw_one]
  rw [show applyS 12 (a.val old now) (b.val old now) 0 = if a.val old now < b.val old now then 1 else 0 from rfl]
  by_cases h : a.val old now < b.val old now <;> simp [h]
theorem o_le : ((E.mk 13 1 0 [a, b]).eval old now == 1) = decide (a.eval old now ≤ b.eval old now) := by
  rw [(ha.cmp (by simp) hb).eval (by omega) (by omega), ha.eval (by omega) (by omega), hb.eval (by omega) (by omega), val_two _ _ _ _ _ _ (by omega), pw_one]
  rw [show applyS 13 (a.val old now) (b.val old now) 0 = if a.val old now ≤ b.val old now then 1 else 0 from rfl]
  by_cases h : a.val old now ≤ b.val old now <;> simp [h]
theorem o_eq : ((E.mk 11 1 0 [a, b]).eval old now == 1) = (a.eval old now == b.eval old now) := by
  rw [(ha.cmp (by simp) hb).eval (by omega) (by omega), ha.eval (by omega) (by omega), hb.eval (by omega) (by omega), val_two _ _ _ _ _ _ (by omega), pw_one]
  rw [show applyS 11 (a.val old now) (b.val old now) 0 = if a.val old now = b.val old now then 1 else 0 from rfl]
  by_cases h : a.val old now = b.val old now <;> simp [h]
theorem o_pick : (E.mk 14 wd 0 [E.mk 12 1 0 [a, b], a, b]).eval old now = min (a.eval old now) (b.eval old now) := by
  have h1 : Good 1 31 61 (E.mk 12 1 0 [a, b]) := ha.cmp (by simp) hb
  have ha' : Good wd 31 30 a := ha.mono (by omega) (by omega)
  have hb' : Good wd 31 30 b := hb.mono (by omega) (by omega)
  rw [(h1.ite ha' hb').eval (by omega) (by omega), ha.eval (by omega) (by omega), hb.eval (by omega) (by omega), val_ite, val_two _ _ _ _ _ _ (by omega), pw_one]
  rw [show applyS 12 (a.val old now) (b.val old now) 0 = if a.val old now < b.val old now then 1 else 0 from rfl]
  have e1 := Int.emod_eq_of_lt (ha.range old now).1 (ha.range old now).2
  have e2 := Int.emod_eq_of_lt (hb.range old now).1 (hb.range old now).2
  by_cases h : a.val old now < b.val old now
  · simp [h]; rw [e1]; omega
  · simp [h]; rw [e2]; omega
omit hb in
theorem o_range : 0 ≤ a.eval old now ∧ a.eval old now < pw wd := by
  rw [ha.eval (by omega) (by omega)]; exact ha.range old now
end
end Go.Proofs.YtdancokndklpnaaDoor
namespace Go.Proofs.YtdancokndklpnaaDoor
open Go.RowKit

theorem keepV3 {W W' : World} {b1 b2 b3 : Nat} {o1 d1 n1 o2 d2 n2 o3 d3 n3 : Int} {k1 k2 k3 : Value} (h1 : VarE W b1 o1 d1 n1 k1) (h2 : VarE W b2 o2 d2 n2 k2) (h3 : VarE W b3 o3 d3 n3 k3) (hx : Ext W W') :
    (W'.cell? ⟨b1, 0, none⟩ = some (.int .i64 o1) ∧ W'.cell? ⟨b1, 1, none⟩ = some (.int .i64 d1) ∧ W'.cell? ⟨b1, 2, none⟩ = some (.int .i64 n1) ∧ W'.cell? ⟨b1, 3, none⟩ = some k1) ∧ (W'.cell? ⟨b2, 0, none⟩ = some (.int .i64 o2) ∧ W'.cell? ⟨b2, 1, none⟩ = some (.int .i64 d2) ∧ W'.cell? ⟨b2, 2, none⟩ = some (.int .i64 n2) ∧ W'.cell? ⟨b2, 3, none⟩ = some k2) ∧ W'.cell? ⟨b3, 0, none⟩ = some (.int .i64 o3) ∧ W'.cell? ⟨b3, 1, none⟩ = some (.int .i64 d3) ∧ W'.cell? ⟨b3, 2, none⟩ = some (.int .i64 n3) ∧ W'.cell? ⟨b3, 3, none⟩ = some k3 :=
  ⟨(h1.ext hx).cells, (h2.ext hx).cells, (h3.ext hx).cells⟩

set_option maxRecDepth 100000 in
set_option maxHeartbeats 16000000 in
theorem ring_any (a b c : E) (va vb vc vo vn : Value) (old now : List Int) (w : World) (ha : EVal w va a) (hb : EVal w vb b) (hc : EVal w vc c) (hO : Ints w vo old) (hN : Ints w vn now) (hM : Masks w) {wd : Int} (ga : Good wd 30 30 a) (gb : Good wd 30 30 b) (gc : Good wd 30 30 c) :
    Calls Tryd.prog 22 #[va, vb, vc, vo, vn] w fun r w' => r = .returned (.bool true) ∧ Ext w w' := by
  obtain ⟨aa, al, ac, rfl, _⟩ := ha.shape
  obtain ⟨ba, bl, bc, rfl, _⟩ := hb.shape
  obtain ⟨ca, cl, cc, rfl, _⟩ := hc.shape
  obtain ⟨oa, ocap, rfl⟩ := hO.shape
  obtain ⟨na, ncap, rfl⟩ := hN.shape
  obtain ⟨W, hW⟩ : ∃ W, W = ((w.alloc (.cells #[.int .i64 a.op, .int .i64 a.wd, .int .i64 a.n, .slice aa al ac] 24)).alloc (.cells #[.int .i64 b.op, .int .i64 b.wd, .int .i64 b.n, .slice ba bl bc] 24)).alloc (.cells #[.int .i64 c.op, .int .i64 c.wd, .int .i64 c.n, .slice ca cl cc] 24) := ⟨_, rfl⟩
  have hx : Ext w W := by rw [hW]; exact (((Ext.refl w).alloc _).alloc _).alloc _
  obtain ⟨hv1, hv2, hv3⟩ := heap_of3 w (.cells #[.int .i64 a.op, .int .i64 a.wd, .int .i64 a.n, .slice aa al ac] 24) (.cells #[.int .i64 b.op, .int .i64 b.wd, .int .i64 b.n, .slice ba bl bc] 24) (.cells #[.int .i64 c.op, .int .i64 c.wd, .int .i64 c.n, .slice ca cl cc] 24)
  rw [← hW] at hv1 hv2 hv3
  have HW := Lib.hid hW; have HX := Lib.hid hx
  have HV1 : Hid (VarE W w.heap.size a.op a.wd a.n (.slice aa al ac)) := hv1
  have HV2 : Hid (VarE W (w.heap.size + 1) b.op b.wd b.n (.slice ba bl bc)) := hv2
  have HV3 : Hid (VarE W (w.heap.size + 1 + 1) c.op c.wd c.n (.slice ca cl cc)) := hv3
  have HA := Lib.hid (ha.ext hx); have HB := Lib.hid (hb.ext hx); have HC := Lib.hid (hc.ext hx); have HO := Lib.hid (hO.ext hx); have HN := Lib.hid (hN.ext hx); have HM := Lib.hid (hM.ext hx)
  have HGA := Lib.hid ga; have HGB := Lib.hid gb; have HGC := Lib.hid gc
  have hw := ga.width; rw [← ga.2.2] at hw
  have hw20 : a.wd ≤ 20 := by omega
  have hp1 : 2 ≤ pw a.wd ∧ pw a.wd ≤ 256 := by rcases pw_cases hw.1 hw.2 with h | h | h | h | h | h | h | h <;> rw [h.2] <;> omega
  obtain ⟨hpw2, hpw256⟩ := hp1
  have hwr : IntKind.i64.wrap (pw a.wd - 1) = pw a.wd - 1 := i64_small _ (by omega) (by omega)
  clear hW hx hv1 hv2 hv3 ha hb hc hO hN hM ga gb gc
  go_enter Tryd.func22, Tryd.ntmps22
  go_upto_region 1 with fail
  rw [← HW.out]
  clear HW
  generalize w.heap.size + 1 + 1 = b3 at *
  generalize w.heap.size + 1 = b2 at *
  generalize w.heap.size = b1 at *
  obtain ⟨⟨p0, p1, p2, p3⟩, ⟨q0, q1, q2, q3⟩, s0, s1, s2, s3⟩ := keepV3 HV1.out HV2.out HV3.out (Ext.refl W)
  have r1X0 := Lib.hid ((Ext.refl W).drew)
  have r1Q3 : Hid (((tw 8 a b).eval old now == (tw 8 b a).eval old now) = true) := by unfold Hid; rw [r_comm8 HGA.out HGB.out old now]; simp
  have r1Q8 : Hid (((tw 8 (tw 8 a b) c).eval old now == (tw 8 a (tw 8 b c)).eval old now) = true) := by unfold Hid; rw [r_assoc HGA.out HGB.out HGC.out old now]; simp
  have r1Q11 : Hid (((tw 9 (tw 8 a b) b).eval old now == a.eval old now) = true) := by unfold Hid; rw [r_sub HGA.out HGB.out old now]; simp
  go_region_held3 (fun w' => (w'.cell? ⟨b1, 0, none⟩ = some (.int .i64 a.op) ∧ w'.cell? ⟨b1, 1, none⟩ = some (.int .i64 a.wd) ∧ w'.cell? ⟨b1, 2, none⟩ = some (.int .i64 a.n) ∧ w'.cell? ⟨b1, 3, none⟩ = some (.slice aa al ac)) ∧ (w'.cell? ⟨b2, 0, none⟩ = some (.int .i64 b.op) ∧ w'.cell? ⟨b2, 1, none⟩ = some (.int .i64 b.wd) ∧ w'.cell? ⟨b2, 2, none⟩ = some (.int .i64 b.n) ∧ w'.cell? ⟨b2, 3, none⟩ = some (.slice ba bl bc)) ∧ w'.cell? ⟨b3, 0, none⟩ = some (.int .i64 c.op) ∧ w'.cell? ⟨b3, 1, none⟩ = some (.int .i64 c.wd) ∧ w'.cell? ⟨b3, 2, none⟩ = some (.int .i64 c.n) ∧ w'.cell? ⟨b3, 3, none⟩ = some (.slice ca cl cc))
    (first | (with_reducible exact r1k11) | (with_reducible exact r1k10) | (with_reducible exact r1k9) | (with_reducible exact r1k8) | (with_reducible exact r1k7) | (with_reducible exact r1k6) | (with_reducible exact r1k5) | (with_reducible exact r1k4) | (with_reducible exact r1k3) | (with_reducible exact r1k2) | (with_reducible exact r1k1) | exact ⟨⟨p0, p1, p2, p3⟩, ⟨q0, q1, q2, q3⟩, s0, s1, s2, s3⟩ | fail)
    ((first
      | (have hgo := r1X10.out; clear hgo; go_at_call 54; refine (alike_any (tw 9 (tw 8 a b) b) a _ _ _ _ old now _ r1E10_10.out (HA.out.ext r1X10.out) (HO.out.ext r1X10.out) (HN.out.ext r1X10.out) (HM.out.ext r1X10.out)).mono ?_; rintro r W1 ⟨rfl, x⟩; rw [r1Q11.out]; have r1X11 := Lib.hid (r1X10.out.trans x); clear x; have r1k11 := keepV3 HV1.out HV2.out HV3.out r1X11.out)
      | (have hgo := r1X9.out; clear hgo; go_at_call 55; refine (two_any 9 (tw 8 a b) b _ _ _ r1E9_9.out (HB.out.ext r1X9.out)).mono ?_; rintro r r1w10 ⟨⟨v, rfl, e⟩, x⟩; obtain ⟨r1a10, r1l10, r1c10, rfl, q⟩ := EVal.shapeN e; have r1X10 := Lib.hid (r1X9.out.trans x); have r1E10_10 := Lib.hid q; clear e q; clear x; have r1k10 := keepV3 HV1.out HV2.out HV3.out r1X10.out)
      | (have hgo := r1X8.out; clear hgo; go_at_call 55; refine (two_any 8 a b _ _ _ (HA.out.ext r1X8.out) (HB.out.ext r1X8.out)).mono ?_; rintro r r1w9 ⟨⟨v, rfl, e⟩, x⟩; obtain ⟨r1a9, r1l9, r1c9, rfl, q⟩ := EVal.shapeN e; have r1X9 := Lib.hid (r1X8.out.trans x); have r1E9_9 := Lib.hid q; clear e q; clear x; have r1k9 := keepV3 HV1.out HV2.out HV3.out r1X9.out)
      | (have hgo := r1X7.out; clear hgo; go_at_call 54; refine (alike_any (tw 8 (tw 8 a b) c) (tw 8 a (tw 8 b c)) _ _ _ _ old now _ r1E5_7.out r1E7_7.out (HO.out.ext r1X7.out) (HN.out.ext r1X7.out) (HM.out.ext r1X7.out)).mono ?_; rintro r r1w8 ⟨rfl, x⟩; rw [r1Q8.out]; have r1X8 := Lib.hid (r1X7.out.trans x); clear x; have r1k8 := keepV3 HV1.out HV2.out HV3.out r1X8.out)
      | (have hgo := r1X6.out; clear hgo; go_at_call 55; refine (two_any 8 a (tw 8 b c) _ _ _ (HA.out.ext r1X6.out) r1E6_6.out).mono ?_; rintro r r1w7 ⟨⟨v, rfl, e⟩, x⟩; obtain ⟨r1a7, r1l7, r1c7, rfl, q⟩ := EVal.shapeN e; have r1X7 := Lib.hid (r1X6.out.trans x); have r1E7_7 := Lib.hid q; clear e q; have r1E5_7 := Lib.hid (r1E5_6.out.ext x); clear x; have r1k7 := keepV3 HV1.out HV2.out HV3.out r1X7.out)
      | (have hgo := r1X5.out; clear hgo; go_at_call 55; refine (two_any 8 b c _ _ _ (HB.out.ext r1X5.out) (HC.out.ext r1X5.out)).mono ?_; rintro r r1w6 ⟨⟨v, rfl, e⟩, x⟩; obtain ⟨r1a6, r1l6, r1c6, rfl, q⟩ := EVal.shapeN e; have r1X6 := Lib.hid (r1X5.out.trans x); have r1E6_6 := Lib.hid q; clear e q; have r1E5_6 := Lib.hid (r1E5_5.out.ext x); clear x; have r1k6 := keepV3 HV1.out HV2.out HV3.out r1X6.out)
      | (have hgo := r1X4.out; clear hgo; go_at_call 55; refine (two_any 8 (tw 8 a b) c _ _ _ r1E4_4.out (HC.out.ext r1X4.out)).mono ?_; rintro r r1w5 ⟨⟨v, rfl, e⟩, x⟩; obtain ⟨r1a5, r1l5, r1c5, rfl, q⟩ := EVal.shapeN e; have r1X5 := Lib.hid (r1X4.out.trans x); have r1E5_5 := Lib.hid q; clear e q; clear x; have r1k5 := keepV3 HV1.out HV2.out HV3.out r1X5.out)
      | (have hgo := r1X3.out; clear hgo; go_at_call 55; refine (two_any 8 a b _ _ _ (HA.out.ext r1X3.out) (HB.out.ext r1X3.out)).mono ?_; rintro r r1w4 ⟨⟨v, rfl, e⟩, x⟩; obtain ⟨r1a4, r1l4, r1c4, rfl, q⟩ := EVal.shapeN e; have r1X4 := Lib.hid (r1X3.out.trans x); have r1E4_4 := Lib.hid q; clear e q; clear x; have r1k4 := keepV3 HV1.out HV2.out HV3.out r1X4.out)
      | (have hgo := r1X2.out; clear hgo; go_at_call 54; refine (alike_any (tw 8 a b) (tw 8 b a) _ _ _ _ old now _ r1E1_2.out r1E2_2.out (HO.out.ext r1X2.out) (HN.out.ext r1X2.out) (HM.out.ext r1X2.out)).mono ?_; rintro r r1w3 ⟨rfl, x⟩; rw [r1Q3.out]; have r1X3 := Lib.hid (r1X2.out.trans x); clear x; have r1k3 := keepV3 HV1.out HV2.out HV3.out r1X3.out)
      | (have hgo := r1X1.out; clear hgo; go_at_call 55; refine (two_any 8 b a _ _ _ (HB.out.ext r1X1.out) (HA.out.ext r1X1.out)).mono ?_; rintro r r1w2 ⟨⟨v, rfl, e⟩, x⟩; obtain ⟨r1a2, r1l2, r1c2, rfl, q⟩ := EVal.shapeN e; have r1X2 := Lib.hid (r1X1.out.trans x); have r1E2_2 := Lib.hid q; clear e q; have r1E1_2 := Lib.hid (r1E1_1.out.ext x); clear x; have r1k2 := keepV3 HV1.out HV2.out HV3.out r1X2.out)
      | (have hgo := r1X0.out; clear hgo; go_at_call 55; refine (two_any 8 a b _ _ _ (HA.out.ext r1X0.out) (HB.out.ext r1X0.out)).mono ?_; rintro r r1w1 ⟨⟨v, rfl, e⟩, x⟩; obtain ⟨r1a1, r1l1, r1c1, rfl, q⟩ := EVal.shapeN e; have r1X1 := Lib.hid (r1X0.out.trans x); have r1E1_1 := Lib.hid q; clear e q; clear x; have r1k1 := keepV3 HV1.out HV2.out HV3.out r1X1.out)))
  clear p0 p1 p2 p3 q0 q1 q2 q3 s0 s1 s2 s3
  replace HV1 := Lib.hid (HV1.out.ext r1X11.out)
  replace HV2 := Lib.hid (HV2.out.ext r1X11.out)
  replace HV3 := Lib.hid (HV3.out.ext r1X11.out)
  replace HA := Lib.hid (HA.out.ext r1X11.out)
  replace HB := Lib.hid (HB.out.ext r1X11.out)
  replace HC := Lib.hid (HC.out.ext r1X11.out)
  replace HO := Lib.hid (HO.out.ext r1X11.out)
  replace HN := Lib.hid (HN.out.ext r1X11.out)
  replace HM := Lib.hid (HM.out.ext r1X11.out)
  replace HX := Lib.hid (HX.out.trans r1X11.out)
  clear r1k1 r1k2 r1k3 r1k4 r1k5 r1k6 r1k7 r1k8 r1k9 r1k10 r1k11
  go_upto_region 2 with fail
  obtain ⟨⟨p0, p1, p2, p3⟩, ⟨q0, q1, q2, q3⟩, s0, s1, s2, s3⟩ := keepV3 HV1.out HV2.out HV3.out (Ext.refl W1)
  have r2X0 := Lib.hid ((Ext.refl W1).drew)
  have r2Q3 : Hid (((tw 10 a b).eval old now == (tw 10 b a).eval old now) = true) := by unfold Hid; rw [r_comm10 HGA.out HGB.out old now]; simp
  have r2Q9 : Hid (((tw 10 a (tw 8 b c)).eval old now == (tw 8 (tw 10 a b) (tw 10 a c)).eval old now) = true) := by unfold Hid; rw [r_dist HGA.out HGB.out HGC.out old now]; simp
  go_region_held3 (fun w' => (w'.cell? ⟨b1, 0, none⟩ = some (.int .i64 a.op) ∧ w'.cell? ⟨b1, 1, none⟩ = some (.int .i64 a.wd) ∧ w'.cell? ⟨b1, 2, none⟩ = some (.int .i64 a.n) ∧ w'.cell? ⟨b1, 3, none⟩ = some (.slice aa al ac)) ∧ (w'.cell? ⟨b2, 0, none⟩ = some (.int .i64 b.op) ∧ w'.cell? ⟨b2, 1, none⟩ = some (.int .i64 b.wd) ∧ w'.cell? ⟨b2, 2, none⟩ = some (.int .i64 b.n) ∧ w'.cell? ⟨b2, 3, none⟩ = some (.slice ba bl bc)) ∧ w'.cell? ⟨b3, 0, none⟩ = some (.int .i64 c.op) ∧ w'.cell? ⟨b3, 1, none⟩ = some (.int .i64 c.wd) ∧ w'.cell? ⟨b3, 2, none⟩ = some (.int .i64 c.n) ∧ w'.cell? ⟨b3, 3, none⟩ = some (.slice ca cl cc))
    (first | (with_reducible exact r2k9) | (with_reducible exact r2k8) | (with_reducible exact r2k7) | (with_reducible exact r2k6) | (with_reducible exact r2k5) | (with_reducible exact r2k4) | (with_reducible exact r2k3) | (with_reducible exact r2k2) | (with_reducible exact r2k1) | exact ⟨⟨p0, p1, p2, p3⟩, ⟨q0, q1, q2, q3⟩, s0, s1, s2, s3⟩ | fail)
    ((first
      | (have hgo := r2X8.out; clear hgo; go_at_call 54; refine (alike_any (tw 10 a (tw 8 b c)) (tw 8 (tw 10 a b) (tw 10 a c)) _ _ _ _ old now _ r2E5_8.out r2E8_8.out (HO.out.ext r2X8.out) (HN.out.ext r2X8.out) (HM.out.ext r2X8.out)).mono ?_; rintro r W2 ⟨rfl, x⟩; rw [r2Q9.out]; have r2X9 := Lib.hid (r2X8.out.trans x); clear x; have r2k9 := keepV3 HV1.out HV2.out HV3.out r2X9.out)
      | (have hgo := r2X7.out; clear hgo; go_at_call 55; refine (two_any 8 (tw 10 a b) (tw 10 a c) _ _ _ r2E6_7.out r2E7_7.out).mono ?_; rintro r r2w8 ⟨⟨v, rfl, e⟩, x⟩; obtain ⟨r2a8, r2l8, r2c8, rfl, q⟩ := EVal.shapeN e; have r2X8 := Lib.hid (r2X7.out.trans x); have r2E8_8 := Lib.hid q; clear e q; have r2E5_8 := Lib.hid (r2E5_7.out.ext x); clear x; have r2k8 := keepV3 HV1.out HV2.out HV3.out r2X8.out)
      | (have hgo := r2X6.out; clear hgo; go_at_call 55; refine (two_any 10 a c _ _ _ (HA.out.ext r2X6.out) (HC.out.ext r2X6.out)).mono ?_; rintro r r2w7 ⟨⟨v, rfl, e⟩, x⟩; obtain ⟨r2a7, r2l7, r2c7, rfl, q⟩ := EVal.shapeN e; have r2X7 := Lib.hid (r2X6.out.trans x); have r2E7_7 := Lib.hid q; clear e q; have r2E5_7 := Lib.hid (r2E5_6.out.ext x); have r2E6_7 := Lib.hid (r2E6_6.out.ext x); clear x; have r2k7 := keepV3 HV1.out HV2.out HV3.out r2X7.out)
      | (have hgo := r2X5.out; clear hgo; go_at_call 55; refine (two_any 10 a b _ _ _ (HA.out.ext r2X5.out) (HB.out.ext r2X5.out)).mono ?_; rintro r r2w6 ⟨⟨v, rfl, e⟩, x⟩; obtain ⟨r2a6, r2l6, r2c6, rfl, q⟩ := EVal.shapeN e; have r2X6 := Lib.hid (r2X5.out.trans x); have r2E6_6 := Lib.hid q; clear e q; have r2E5_6 := Lib.hid (r2E5_5.out.ext x); clear x; have r2k6 := keepV3 HV1.out HV2.out HV3.out r2X6.out)
      | (have hgo := r2X4.out; clear hgo; go_at_call 55; refine (two_any 10 a (tw 8 b c) _ _ _ (HA.out.ext r2X4.out) r2E4_4.out).mono ?_; rintro r r2w5 ⟨⟨v, rfl, e⟩, x⟩; obtain ⟨r2a5, r2l5, r2c5, rfl, q⟩ := EVal.shapeN e; have r2X5 := Lib.hid (r2X4.out.trans x); have r2E5_5 := Lib.hid q; clear e q; clear x; have r2k5 := keepV3 HV1.out HV2.out HV3.out r2X5.out)
      | (have hgo := r2X3.out; clear hgo; go_at_call 55; refine (two_any 8 b c _ _ _ (HB.out.ext r2X3.out) (HC.out.ext r2X3.out)).mono ?_; rintro r r2w4 ⟨⟨v, rfl, e⟩, x⟩; obtain ⟨r2a4, r2l4, r2c4, rfl, q⟩ := EVal.shapeN e; have r2X4 := Lib.hid (r2X3.out.trans x); have r2E4_4 := Lib.hid q; clear e q; clear x; have r2k4 := keepV3 HV1.out HV2.out HV3.out r2X4.out)
      | (have hgo := r2X2.out; clear hgo; go_at_call 54; refine (alike_any (tw 10 a b) (tw 10 b a) _ _ _ _ old now _ r2E1_2.out r2E2_2.out (HO.out.ext r2X2.out) (HN.out.ext r2X2.out) (HM.out.ext r2X2.out)).mono ?_; rintro r r2w3 ⟨rfl, x⟩; rw [r2Q3.out]; have r2X3 := Lib.hid (r2X2.out.trans x); clear x; have r2k3 := keepV3 HV1.out HV2.out HV3.out r2X3.out)
      | (have hgo := r2X1.out; clear hgo; go_at_call 55; refine (two_any 10 b a _ _ _ (HB.out.ext r2X1.out) (HA.out.ext r2X1.out)).mono ?_; rintro r r2w2 ⟨⟨v, rfl, e⟩, x⟩; obtain ⟨r2a2, r2l2, r2c2, rfl, q⟩ := EVal.shapeN e; have r2X2 := Lib.hid (r2X1.out.trans x); have r2E2_2 := Lib.hid q; clear e q; have r2E1_2 := Lib.hid (r2E1_1.out.ext x); clear x; have r2k2 := keepV3 HV1.out HV2.out HV3.out r2X2.out)
      | (have hgo := r2X0.out; clear hgo; go_at_call 55; refine (two_any 10 a b _ _ _ (HA.out.ext r2X0.out) (HB.out.ext r2X0.out)).mono ?_; rintro r r2w1 ⟨⟨v, rfl, e⟩, x⟩; obtain ⟨r2a1, r2l1, r2c1, rfl, q⟩ := EVal.shapeN e; have r2X1 := Lib.hid (r2X0.out.trans x); have r2E1_1 := Lib.hid q; clear e q; clear x; have r2k1 := keepV3 HV1.out HV2.out HV3.out r2X1.out)))
  clear p0 p1 p2 p3 q0 q1 q2 q3 s0 s1 s2 s3
  replace HV1 := Lib.hid (HV1.out.ext r2X9.out)
  replace HV2 := Lib.hid (HV2.out.ext r2X9.out)
  replace HV3 := Lib.hid (HV3.out.ext r2X9.out)
  replace HA := Lib.hid (HA.out.ext r2X9.out)
  replace HB := Lib.hid (HB.out.ext r2X9.out)
  replace HC := Lib.hid (HC.out.ext r2X9.out)
  replace HO := Lib.hid (HO.out.ext r2X9.out)
  replace HN := Lib.hid (HN.out.ext r2X9.out)
  replace HM := Lib.hid (HM.out.ext r2X9.out)
  replace HX := Lib.hid (HX.out.trans r2X9.out)
  clear r2k1 r2k2 r2k3 r2k4 r2k5 r2k6 r2k7 r2k8 r2k9
  go_upto_region 3 with fail
  obtain ⟨⟨p0, p1, p2, p3⟩, ⟨q0, q1, q2, q3⟩, s0, s1, s2, s3⟩ := keepV3 HV1.out HV2.out HV3.out (Ext.refl W2)
  have r3X0 := Lib.hid ((Ext.refl W2).drew)
  have r3Q3 : Hid ((tw 8 a (nt a)).eval old now = pw a.wd - 1) := r_compl HGA.out old now
  have r3Q10 : Hid (((nt (tw 5 a b)).eval old now == (tw 6 (nt a) (nt b)).eval old now) = true) := by unfold Hid; rw [r_morgan HGA.out HGB.out old now]; simp
  have r3Q15 : Hid (((tw 7 a b).eval old now == (tw 9 (tw 6 a b) (tw 5 a b)).eval old now) = true) := by unfold Hid; rw [r_xor HGA.out HGB.out old now]; simp
  go_region_held3 (fun w' => (w'.cell? ⟨b1, 0, none⟩ = some (.int .i64 a.op) ∧ w'.cell? ⟨b1, 1, none⟩ = some (.int .i64 a.wd) ∧ w'.cell? ⟨b1, 2, none⟩ = some (.int .i64 a.n) ∧ w'.cell? ⟨b1, 3, none⟩ = some (.slice aa al ac)) ∧ (w'.cell? ⟨b2, 0, none⟩ = some (.int .i64 b.op) ∧ w'.cell? ⟨b2, 1, none⟩ = some (.int .i64 b.wd) ∧ w'.cell? ⟨b2, 2, none⟩ = some (.int .i64 b.n) ∧ w'.cell? ⟨b2, 3, none⟩ = some (.slice ba bl bc)) ∧ w'.cell? ⟨b3, 0, none⟩ = some (.int .i64 c.op) ∧ w'.cell? ⟨b3, 1, none⟩ = some (.int .i64 c.wd) ∧ w'.cell? ⟨b3, 2, none⟩ = some (.int .i64 c.n) ∧ w'.cell? ⟨b3, 3, none⟩ = some (.slice ca cl cc))
    (first | (with_reducible exact r3k15) | (with_reducible exact r3k14) | (with_reducible exact r3k13) | (with_reducible exact r3k12) | (with_reducible exact r3k11) | (with_reducible exact r3k10) | (with_reducible exact r3k9) | (with_reducible exact r3k8) | (with_reducible exact r3k7) | (with_reducible exact r3k6) | (with_reducible exact r3k5) | (with_reducible exact r3k4) | (with_reducible exact r3k3) | (with_reducible exact r3k2) | (with_reducible exact r3k1) | exact ⟨⟨p0, p1, p2, p3⟩, ⟨q0, q1, q2, q3⟩, s0, s1, s2, s3⟩ | fail)
    ((first
      | (have hgo := r3X14.out; clear hgo; go_at_call 54; refine (alike_any (tw 7 a b) (tw 9 (tw 6 a b) (tw 5 a b)) _ _ _ _ old now _ r3E11_14.out r3E14_14.out (HO.out.ext r3X14.out) (HN.out.ext r3X14.out) (HM.out.ext r3X14.out)).mono ?_; rintro r W3 ⟨rfl, x⟩; rw [r3Q15.out]; have r3X15 := Lib.hid (r3X14.out.trans x); clear x; have r3k15 := keepV3 HV1.out HV2.out HV3.out r3X15.out)
      | (have hgo := r3X13.out; clear hgo; go_at_call 55; refine (two_any 9 (tw 6 a b) (tw 5 a b) _ _ _ r3E12_13.out r3E13_13.out).mono ?_; rintro r r3w14 ⟨⟨v, rfl, e⟩, x⟩; obtain ⟨r3a14, r3l14, r3c14, rfl, q⟩ := EVal.shapeN e; have r3X14 := Lib.hid (r3X13.out.trans x); have r3E14_14 := Lib.hid q; clear e q; have r3E11_14 := Lib.hid (r3E11_13.out.ext x); clear x; have r3k14 := keepV3 HV1.out HV2.out HV3.out r3X14.out)
      | (have hgo := r3X12.out; clear hgo; go_at_call 55; refine (two_any 5 a b _ _ _ (HA.out.ext r3X12.out) (HB.out.ext r3X12.out)).mono ?_; rintro r r3w13 ⟨⟨v, rfl, e⟩, x⟩; obtain ⟨r3a13, r3l13, r3c13, rfl, q⟩ := EVal.shapeN e; have r3X13 := Lib.hid (r3X12.out.trans x); have r3E13_13 := Lib.hid q; clear e q; have r3E11_13 := Lib.hid (r3E11_12.out.ext x); have r3E12_13 := Lib.hid (r3E12_12.out.ext x); clear x; have r3k13 := keepV3 HV1.out HV2.out HV3.out r3X13.out)
      | (have hgo := r3X11.out; clear hgo; go_at_call 55; refine (two_any 6 a b _ _ _ (HA.out.ext r3X11.out) (HB.out.ext r3X11.out)).mono ?_; rintro r r3w12 ⟨⟨v, rfl, e⟩, x⟩; obtain ⟨r3a12, r3l12, r3c12, rfl, q⟩ := EVal.shapeN e; have r3X12 := Lib.hid (r3X11.out.trans x); have r3E12_12 := Lib.hid q; clear e q; have r3E11_12 := Lib.hid (r3E11_11.out.ext x); clear x; have r3k12 := keepV3 HV1.out HV2.out HV3.out r3X12.out)
      | (have hgo := r3X10.out; clear hgo; go_at_call 55; refine (two_any 7 a b _ _ _ (HA.out.ext r3X10.out) (HB.out.ext r3X10.out)).mono ?_; rintro r r3w11 ⟨⟨v, rfl, e⟩, x⟩; obtain ⟨r3a11, r3l11, r3c11, rfl, q⟩ := EVal.shapeN e; have r3X11 := Lib.hid (r3X10.out.trans x); have r3E11_11 := Lib.hid q; clear e q; clear x; have r3k11 := keepV3 HV1.out HV2.out HV3.out r3X11.out)
      | (have hgo := r3X9.out; clear hgo; go_at_call 54; refine (alike_any (nt (tw 5 a b)) (tw 6 (nt a) (nt b)) _ _ _ _ old now _ r3E6_9.out r3E9_9.out (HO.out.ext r3X9.out) (HN.out.ext r3X9.out) (HM.out.ext r3X9.out)).mono ?_; rintro r r3w10 ⟨rfl, x⟩; rw [r3Q10.out]; have r3X10 := Lib.hid (r3X9.out.trans x); clear x; have r3k10 := keepV3 HV1.out HV2.out HV3.out r3X10.out)
      | (have hgo := r3X8.out; clear hgo; go_at_call 55; refine (two_any 6 (nt a) (nt b) _ _ _ r3E7_8.out r3E8_8.out).mono ?_; rintro r r3w9 ⟨⟨v, rfl, e⟩, x⟩; obtain ⟨r3a9, r3l9, r3c9, rfl, q⟩ := EVal.shapeN e; have r3X9 := Lib.hid (r3X8.out.trans x); have r3E9_9 := Lib.hid q; clear e q; have r3E6_9 := Lib.hid (r3E6_8.out.ext x); clear x; have r3k9 := keepV3 HV1.out HV2.out HV3.out r3X9.out)
      | (have hgo := r3X7.out; clear hgo; go_at_call 56; refine (not_any b _ _ (HB.out.ext r3X7.out)).mono ?_; rintro r r3w8 ⟨⟨v, rfl, e⟩, x⟩; obtain ⟨r3a8, r3l8, r3c8, rfl, q⟩ := EVal.shapeN e; have r3X8 := Lib.hid (r3X7.out.trans x); have r3E8_8 := Lib.hid q; clear e q; have r3E6_8 := Lib.hid (r3E6_7.out.ext x); have r3E7_8 := Lib.hid (r3E7_7.out.ext x); clear x; have r3k8 := keepV3 HV1.out HV2.out HV3.out r3X8.out)
      | (have hgo := r3X6.out; clear hgo; go_at_call 56; refine (not_any a _ _ (HA.out.ext r3X6.out)).mono ?_; rintro r r3w7 ⟨⟨v, rfl, e⟩, x⟩; obtain ⟨r3a7, r3l7, r3c7, rfl, q⟩ := EVal.shapeN e; have r3X7 := Lib.hid (r3X6.out.trans x); have r3E7_7 := Lib.hid q; clear e q; have r3E6_7 := Lib.hid (r3E6_6.out.ext x); clear x; have r3k7 := keepV3 HV1.out HV2.out HV3.out r3X7.out)
      | (have hgo := r3X5.out; clear hgo; go_at_call 56; refine (not_any (tw 5 a b) _ _ r3E5_5.out).mono ?_; rintro r r3w6 ⟨⟨v, rfl, e⟩, x⟩; obtain ⟨r3a6, r3l6, r3c6, rfl, q⟩ := EVal.shapeN e; have r3X6 := Lib.hid (r3X5.out.trans x); have r3E6_6 := Lib.hid q; clear e q; clear x; have r3k6 := keepV3 HV1.out HV2.out HV3.out r3X6.out)
      | (have hgo := r3X4.out; clear hgo; go_at_call 55; refine (two_any 5 a b _ _ _ (HA.out.ext r3X4.out) (HB.out.ext r3X4.out)).mono ?_; rintro r r3w5 ⟨⟨v, rfl, e⟩, x⟩; obtain ⟨r3a5, r3l5, r3c5, rfl, q⟩ := EVal.shapeN e; have r3X5 := Lib.hid (r3X4.out.trans x); have r3E5_5 := Lib.hid q; clear e q; clear x; have r3k5 := keepV3 HV1.out HV2.out HV3.out r3X5.out)
      | (have hgo := r3X3.out; clear hgo; go_at_call 21; refine (Power_any a.wd _ hw20).mono ?_; rintro r r3w4 ⟨rfl, x⟩; subst x; have r3X4 := r3X3; have r3k4 := keepV3 HV1.out HV2.out HV3.out r3X4.out)
      | (have hgo := r3X2.out; clear hgo; go_at_call 15; refine (Eval_any (tw 8 a (nt a)) _ _ _ old now _ r3E2_2.out (HO.out.ext r3X2.out) (HN.out.ext r3X2.out) (HM.out.ext r3X2.out)).mono ?_; rintro r r3w3 ⟨rfl, x⟩; rw [r3Q3.out]; have r3X3 := Lib.hid (r3X2.out.trans x); clear x; have r3k3 := keepV3 HV1.out HV2.out HV3.out r3X3.out)
      | (have hgo := r3X1.out; clear hgo; go_at_call 55; refine (two_any 8 a (nt a) _ _ _ (HA.out.ext r3X1.out) r3E1_1.out).mono ?_; rintro r r3w2 ⟨⟨v, rfl, e⟩, x⟩; obtain ⟨r3a2, r3l2, r3c2, rfl, q⟩ := EVal.shapeN e; have r3X2 := Lib.hid (r3X1.out.trans x); have r3E2_2 := Lib.hid q; clear e q; clear x; have r3k2 := keepV3 HV1.out HV2.out HV3.out r3X2.out)
      | (have hgo := r3X0.out; clear hgo; go_at_call 56; refine (not_any a _ _ (HA.out.ext r3X0.out)).mono ?_; rintro r r3w1 ⟨⟨v, rfl, e⟩, x⟩; obtain ⟨r3a1, r3l1, r3c1, rfl, q⟩ := EVal.shapeN e; have r3X1 := Lib.hid (r3X0.out.trans x); have r3E1_1 := Lib.hid q; clear e q; clear x; have r3k1 := keepV3 HV1.out HV2.out HV3.out r3X1.out)))
  clear p0 p1 p2 p3 q0 q1 q2 q3 s0 s1 s2 s3
  replace HV1 := Lib.hid (HV1.out.ext r3X15.out)
  replace HV2 := Lib.hid (HV2.out.ext r3X15.out)
  replace HV3 := Lib.hid (HV3.out.ext r3X15.out)
  replace HA := Lib.hid (HA.out.ext r3X15.out)
  replace HB := Lib.hid (HB.out.ext r3X15.out)
  replace HC := Lib.hid (HC.out.ext r3X15.out)
  replace HO := Lib.hid (HO.out.ext r3X15.out)
  replace HN := Lib.hid (HN.out.ext r3X15.out)
  replace HM := Lib.hid (HM.out.ext r3X15.out)
  replace HX := Lib.hid (HX.out.trans r3X15.out)
  clear r3k1 r3k2 r3k3 r3k4 r3k5 r3k6 r3k7 r3k8 r3k9 r3k10 r3k11 r3k12 r3k13 r3k14 r3k15
  go_upto_region 4 with fail
  obtain ⟨⟨p0, p1, p2, p3⟩, ⟨q0, q1, q2, q3⟩, s0, s1, s2, s3⟩ := keepV3 HV1.out HV2.out HV3.out (Ext.refl W3)
  have r4X0 := Lib.hid ((Ext.refl W3).drew)
  have r4Q6 : Hid (((tw 5 a (tw 6 b c)).eval old now == (tw 6 (tw 5 a b) (tw 5 a c)).eval old now) = true) := by unfold Hid; rw [r_bits HGA.out HGB.out HGC.out old now]; simp
  go_region_held3 (fun w' => (w'.cell? ⟨b1, 0, none⟩ = some (.int .i64 a.op) ∧ w'.cell? ⟨b1, 1, none⟩ = some (.int .i64 a.wd) ∧ w'.cell? ⟨b1, 2, none⟩ = some (.int .i64 a.n) ∧ w'.cell? ⟨b1, 3, none⟩ = some (.slice aa al ac)) ∧ (w'.cell? ⟨b2, 0, none⟩ = some (.int .i64 b.op) ∧ w'.cell? ⟨b2, 1, none⟩ = some (.int .i64 b.wd) ∧ w'.cell? ⟨b2, 2, none⟩ = some (.int .i64 b.n) ∧ w'.cell? ⟨b2, 3, none⟩ = some (.slice ba bl bc)) ∧ w'.cell? ⟨b3, 0, none⟩ = some (.int .i64 c.op) ∧ w'.cell? ⟨b3, 1, none⟩ = some (.int .i64 c.wd) ∧ w'.cell? ⟨b3, 2, none⟩ = some (.int .i64 c.n) ∧ w'.cell? ⟨b3, 3, none⟩ = some (.slice ca cl cc))
    (first | (with_reducible exact r4k6) | (with_reducible exact r4k5) | (with_reducible exact r4k4) | (with_reducible exact r4k3) | (with_reducible exact r4k2) | (with_reducible exact r4k1) | exact ⟨⟨p0, p1, p2, p3⟩, ⟨q0, q1, q2, q3⟩, s0, s1, s2, s3⟩ | fail)
    ((first
      | (have hgo := r4X5.out; clear hgo; go_at_call 54; refine (alike_any (tw 5 a (tw 6 b c)) (tw 6 (tw 5 a b) (tw 5 a c)) _ _ _ _ old now _ r4E2_5.out r4E5_5.out (HO.out.ext r4X5.out) (HN.out.ext r4X5.out) (HM.out.ext r4X5.out)).mono ?_; rintro r W4 ⟨rfl, x⟩; rw [r4Q6.out]; have r4X6 := Lib.hid (r4X5.out.trans x); clear x; have r4k6 := keepV3 HV1.out HV2.out HV3.out r4X6.out)
      | (have hgo := r4X4.out; clear hgo; go_at_call 55; refine (two_any 6 (tw 5 a b) (tw 5 a c) _ _ _ r4E3_4.out r4E4_4.out).mono ?_; rintro r r4w5 ⟨⟨v, rfl, e⟩, x⟩; obtain ⟨r4a5, r4l5, r4c5, rfl, q⟩ := EVal.shapeN e; have r4X5 := Lib.hid (r4X4.out.trans x); have r4E5_5 := Lib.hid q; clear e q; have r4E2_5 := Lib.hid (r4E2_4.out.ext x); clear x; have r4k5 := keepV3 HV1.out HV2.out HV3.out r4X5.out)
      | (have hgo := r4X3.out; clear hgo; go_at_call 55; refine (two_any 5 a c _ _ _ (HA.out.ext r4X3.out) (HC.out.ext r4X3.out)).mono ?_; rintro r r4w4 ⟨⟨v, rfl, e⟩, x⟩; obtain ⟨r4a4, r4l4, r4c4, rfl, q⟩ := EVal.shapeN e; have r4X4 := Lib.hid (r4X3.out.trans x); have r4E4_4 := Lib.hid q; clear e q; have r4E2_4 := Lib.hid (r4E2_3.out.ext x); have r4E3_4 := Lib.hid (r4E3_3.out.ext x); clear x; have r4k4 := keepV3 HV1.out HV2.out HV3.out r4X4.out)
      | (have hgo := r4X2.out; clear hgo; go_at_call 55; refine (two_any 5 a b _ _ _ (HA.out.ext r4X2.out) (HB.out.ext r4X2.out)).mono ?_; rintro r r4w3 ⟨⟨v, rfl, e⟩, x⟩; obtain ⟨r4a3, r4l3, r4c3, rfl, q⟩ := EVal.shapeN e; have r4X3 := Lib.hid (r4X2.out.trans x); have r4E3_3 := Lib.hid q; clear e q; have r4E2_3 := Lib.hid (r4E2_2.out.ext x); clear x; have r4k3 := keepV3 HV1.out HV2.out HV3.out r4X3.out)
      | (have hgo := r4X1.out; clear hgo; go_at_call 55; refine (two_any 5 a (tw 6 b c) _ _ _ (HA.out.ext r4X1.out) r4E1_1.out).mono ?_; rintro r r4w2 ⟨⟨v, rfl, e⟩, x⟩; obtain ⟨r4a2, r4l2, r4c2, rfl, q⟩ := EVal.shapeN e; have r4X2 := Lib.hid (r4X1.out.trans x); have r4E2_2 := Lib.hid q; clear e q; clear x; have r4k2 := keepV3 HV1.out HV2.out HV3.out r4X2.out)
      | (have hgo := r4X0.out; clear hgo; go_at_call 55; refine (two_any 6 b c _ _ _ (HB.out.ext r4X0.out) (HC.out.ext r4X0.out)).mono ?_; rintro r r4w1 ⟨⟨v, rfl, e⟩, x⟩; obtain ⟨r4a1, r4l1, r4c1, rfl, q⟩ := EVal.shapeN e; have r4X1 := Lib.hid (r4X0.out.trans x); have r4E1_1 := Lib.hid q; clear e q; clear x; have r4k1 := keepV3 HV1.out HV2.out HV3.out r4X1.out)))
  clear p0 p1 p2 p3 q0 q1 q2 q3 s0 s1 s2 s3
  replace HV1 := Lib.hid (HV1.out.ext r4X6.out)
  replace HV2 := Lib.hid (HV2.out.ext r4X6.out)
  replace HV3 := Lib.hid (HV3.out.ext r4X6.out)
  replace HA := Lib.hid (HA.out.ext r4X6.out)
  replace HB := Lib.hid (HB.out.ext r4X6.out)
  replace HC := Lib.hid (HC.out.ext r4X6.out)
  replace HO := Lib.hid (HO.out.ext r4X6.out)
  replace HN := Lib.hid (HN.out.ext r4X6.out)
  replace HM := Lib.hid (HM.out.ext r4X6.out)
  replace HX := Lib.hid (HX.out.trans r4X6.out)
  clear r4k1 r4k2 r4k3 r4k4 r4k5 r4k6
  go_wp2_with fail
  exact bodyPost_ret (v := .bool true) (by simp [results, Tryd.results22, go_sem]) rfl ⟨rfl, HX.out⟩
end Go.Proofs.YtdancokndklpnaaDoor
