/-
  The plain law of the connectives: And, Or, Implies of conditions.
  The walk of ExprConnectives. Printed by gen_conn.py.
-/
import Derived.Test.YtdancokndklpnaaDoorMCnc
import Derived.Test.YtdancokndklpnaaDoorMSm
import Derived.Test.YtdancokndklpnaaDoorMLw
namespace Go.Proofs.YtdancokndklpnaaDoor
open Go.RowKit

theorem Good.wf {wd : Int} {d s : Nat} {e : E} (h : Good wd d s e) (hd : d ≤ 40) (hs : s ≤ 600) : e.wf = true := by
  simp only [E.wf, Bool.and_eq_true, decide_eq_true_eq]
  have := h.2.1
  exact ⟨by omega, deep_up _ _ _ hd h.1⟩
theorem Good.bit {d s : Nat} {e : E} (h : Good 1 d s e) (old now : List Int) : e.val old now = 0 ∨ e.val old now = 1 := by
  have := h.range old now
  rw [pw_one] at this; omega
theorem good_const (c : Int) (h0 : 0 ≤ c) (h1 : c ≤ 1) (d s : Nat) (hd : 1 ≤ d) (hs : 1 ≤ s) : Good 1 d s (constE c 1) := by
  refine ⟨?_, by simp [constE, E.size, sizeAll, hs], rfl⟩
  simp [constE, E.deep, deepAll, shapedW, pw_one, hd]; omega
theorem deep_op {e : E} {d : Nat} (h : e.deep d = true) : e.op ≠ 0 := by
  obtain ⟨op, wd, n, ks⟩ := e
  simp only [E.op_mk]
  rintro rfl
  simp [E.deep, shapedW] at h
theorem Good.neg {d s : Nat} {e : E} (h : Good 1 d s e) : Good 1 (d + 1) (s + 1) e.neg := by
  unfold E.neg
  split
  · next h4 =>
    obtain ⟨z, hz, hw, hd, hn⟩ := not_kid h.1 h4
    have hs := h.2.1
    have h1 := h.2.2
    obtain ⟨op, wd, n, ks⟩ := e
    simp only [E.op_mk, E.kids_mk, E.wd_mk, E.n_mk] at *
    subst hz
    simp only [E.size, sizeAll] at hs
    show Good 1 (d + 1) (s + 1) z
    exact ⟨deep_up _ _ _ (by omega) hd, by omega, by rw [hw, h1]⟩
  · have := h.not
    rw [h.2.2]; exact this

/-- Where an element has the value 1 - u the join has it too; else it has the value u. -/
def cv (old now : List Int) (u : Int) (l : List E) : Int := if l.any (fun e => decide (e.val old now = 1 - u)) then 1 - u else u
def Join (op u : Int) : Prop := (op = 5 ∧ u = 1) ∨ (op = 6 ∧ u = 0)
theorem join_bits {op u x y : Int} (h : Join op u) (hx : x = 0 ∨ x = 1) (hy : y = 0 ∨ y = 1) : applyS op x y 0 % 2 = if x = 1 - u ∨ y = 1 - u then 1 - u else u := by
  rcases h with ⟨rfl, rfl⟩ | ⟨rfl, rfl⟩ <;> rcases hx with rfl | rfl <;> rcases hy with rfl | rfl <;> decide
theorem join_val {op u : Int} (h : Join op u) {d d' s t : Nat} {a b : E} (ha : Good 1 d s a) (hb : Good 1 d' t b) (old now : List Int) : (E.mk op 1 0 [a, b]).val old now = if a.val old now = 1 - u ∨ b.val old now = 1 - u then 1 - u else u := by
  have h4 : 4 ≤ op := by unfold Join at h; omega
  rw [val_two _ _ _ _ _ _ h4, pw_one]
  exact join_bits h (ha.bit old now) (hb.bit old now)
theorem fold_law {op u : Int} (h : Join op u) (old now : List Int) : ∀ (r : List E) (e : E) (d s : Nat), 30 ≤ d → Good 1 d s e → (∀ x ∈ r, Good 1 30 30 x) →
    Good 1 (d + r.length) (s + 31 * r.length) (r.foldl (fun a b => .mk op 1 0 [a, b]) e) ∧ (r.foldl (fun a b => E.mk op 1 0 [a, b]) e).val old now = cv old now u (e :: r) := by
  have ho : op = 5 ∨ op = 6 ∨ op = 7 ∨ op = 8 ∨ op = 9 ∨ op = 10 := by unfold Join at h; omega
  intro r
  induction r with
  | nil =>
    intro e d s _ he _
    refine ⟨by simpa using he, ?_⟩
    have := he.bit old now
    simp only [List.foldl_nil, cv, List.any_cons, List.any_nil, Bool.or_false, decide_eq_true_eq]
    split
    · next h => exact h
    · unfold Join at h; omega
  | cons x r ih =>
    intro e d s hd he hr
    have hx := hr x (by simp)
    have h2 := Good.two ho he (hx.mono hd (Nat.le_refl 30))
    obtain ⟨h3, h4⟩ := ih (.mk op 1 0 [e, x]) (d + 1) (s + 30 + 1) (by omega) h2 fun y hy => hr y (by simp [hy])
    refine ⟨?_, ?_⟩
    · refine h3.mono ?_ ?_ <;> simp only [List.length_cons] <;> omega
    · rw [List.foldl_cons, h4]
      have hv := join_val h he hx old now
      simp only [cv, List.any_cons, hv]
      have hu : ¬ u = 1 - u := by unfold Join at h; omega
      by_cases c1 : e.val old now = 1 - u <;> by_cases c2 : x.val old now = 1 - u <;> simp [c1, c2, hu]
theorem not_kids {e : E} {d : Nat} (h : e.deep d = true) (h4 : e.op = 4) : e.kids ≠ [] := by
  obtain ⟨z, hz, _⟩ := not_kid h h4
  rw [hz]; simp
theorem connect_law {op u : Int} (h : Join op u) (old now : List Int) (ks : List E) (hk : ∀ k ∈ ks, Good 1 30 30 k) (hl : ks.length ≤ 6) :
    (foldE op (keptOf ks u)).wf = true ∨ keptOf ks u = [] := by
  cases hc : keptOf ks u with
  | nil => exact .inr rfl
  | cons e r =>
    have hm : ∀ x ∈ e :: r, Good 1 30 30 x := fun x hx => hk x (by rw [← hc] at hx; exact (List.mem_filter.1 hx).1)
    have hlen := kept_len ks u
    rw [hc] at hlen
    simp only [List.length_cons] at hlen
    exact .inl ((fold_law h old now r e 30 30 (by omega) (hm e (by simp)) fun x hx => hm x (by simp [hx])).1.wf (by omega) (by omega))
theorem connect_val {op u : Int} (h : Join op u) (old now : List Int) (ks : List E) (hk : ∀ k ∈ ks, Good 1 30 30 k) (hl : ks.length ≤ 6) :
    Good 1 40 600 (connectS ks op u) ∧ (connectS ks op u).val old now = cv old now u ks := by
  have hu : 0 ≤ u ∧ u ≤ 1 := by unfold Join at h; omega
  have cval : ∀ c : Int, (constE c 1).val old now = c := fun c => isC_val (e := constE c 1) (by simp [constE, E.isC]) old now
  unfold connectS
  cases hd : decOf ks u with
  | true =>
    rw [if_pos rfl]
    refine ⟨good_const _ (by omega) (by omega) _ _ (by omega) (by omega), ?_⟩
    rw [cval, cv, if_pos]
    unfold decOf at hd
    rw [List.any_eq_true] at hd ⊢
    obtain ⟨x, hx, hc⟩ := hd
    exact ⟨x, hx, decide_eq_true (isC_val hc old now)⟩
  | false =>
    rw [if_neg (by simp)]
    have hnd : ∀ x ∈ ks, x.isC (1 - u) = false := by
      unfold decOf at hd
      rw [List.any_eq_false] at hd
      intro x hx; have := hd x hx; simpa using this
    have hiff : ∀ x ∈ ks, x ∉ keptOf ks u → x.val old now = u := by
      intro x hx hn
      have : x.isC u = true := by
        cases hc : x.isC u with
        | true => rfl
        | false => exact absurd (List.mem_filter.2 ⟨hx, by rw [hnd x hx, hc]; rfl⟩) hn
      exact isC_val this old now
    have hne : ¬ u = 1 - u := by omega
    have hcv : cv old now u ks = cv old now u (keptOf ks u) := by
      suffices key : ks.any (fun e => decide (e.val old now = 1 - u)) = (keptOf ks u).any (fun e => decide (e.val old now = 1 - u)) by unfold cv; rw [key]
      rw [Bool.eq_iff_iff, List.any_eq_true, List.any_eq_true]
      constructor
      · rintro ⟨x, hx, hv⟩
        refine ⟨x, ?_, hv⟩
        apply Classical.byContradiction
        intro hn
        have h1 := hiff x hx hn
        have h2 := of_decide_eq_true hv
        omega
      · rintro ⟨x, hx, hv⟩
        exact ⟨x, (List.mem_filter.1 hx).1, hv⟩
    rw [hcv]
    cases hc : keptOf ks u with
    | nil =>
      rw [if_pos rfl]
      exact ⟨good_const _ (by omega) (by omega) _ _ (by omega) (by omega), by rw [cval]; simp [cv]⟩
    | cons e r =>
      rw [if_neg (by simp)]
      have hm : ∀ x ∈ e :: r, Good 1 30 30 x := fun x hx => hk x (by rw [← hc] at hx; exact (List.mem_filter.1 hx).1)
      have hlen := kept_len ks u
      rw [hc] at hlen
      simp only [List.length_cons] at hlen
      have := fold_law h old now r e 30 30 (by omega) (hm e (by simp)) fun x hx => hm x (by simp [hx])
      exact ⟨this.1.mono (by omega) (by omega), this.2⟩

theorem implies_law {a b : E} (ha : Good 1 30 30 a) (hb : Good 1 30 30 b) (old now : List Int) :
    a.neg.wf = true ∧ (E.mk 6 1 0 [a.neg, b]).wf = true ∧ Good 1 40 600 (impliesS a b) ∧ (impliesS a b).val old now = if a.val old now = 0 ∨ b.val old now = 1 then 1 else 0 := by
  have hn := ha.neg
  have hnv : a.neg.val old now = 1 - a.val old now := by rw [neg_val ha.1, ha.2.2, pw_one]; omega
  have ho := Good.two (op := 6) (.inr (.inl rfl)) hn (hb.mono (show 30 ≤ 31 by omega) (Nat.le_refl 30))
  have cval : ∀ c : Int, (constE c 1).val old now = c := fun c => isC_val (e := constE c 1) (by simp [constE, E.isC]) old now
  have va := ha.bit old now; have vb := hb.bit old now
  refine ⟨hn.wf (by omega) (by omega), ho.wf (by omega) (by omega), ?_⟩
  unfold impliesS
  split
  · next h =>
    refine ⟨good_const _ (by omega) (by omega) _ _ (by omega) (by omega), ?_⟩
    rw [cval, if_pos]
    rcases h with h | h
    · exact .inl (isC_val h old now)
    · exact .inr (isC_val h old now)
  · split
    · next h =>
      refine ⟨hb.mono (by omega) (by omega), ?_⟩
      rw [isC_val h]; split <;> omega
    · split
      · next h =>
        refine ⟨hn.mono (by omega) (by omega), ?_⟩
        rw [hnv, isC_val h]; split <;> omega
      · refine ⟨ho.mono (by omega) (by omega), ?_⟩
        rw [join_val (.inr ⟨rfl, rfl⟩) hn hb, hnv]
        split <;> split <;> omega
theorem bits_and_bit {x y : Int} (hx : x = 0 ∨ x = 1) (hy : y = 0 ∨ y = 1) : bits .and .i64 x y = if x = 0 ∨ y = 0 then 0 else 1 := by
  rw [and_eq x y (by omega) (by omega) (by omega) (by omega)]
  rcases hx with rfl | rfl <;> rcases hy with rfl | rfl <;> decide
theorem bits_or_bit {x y : Int} (hx : x = 0 ∨ x = 1) (hy : y = 0 ∨ y = 1) : bits .or .i64 x y = if x = 1 ∨ y = 1 then 1 else 0 := by
  rw [or_eq x y (by omega) (by omega) (by omega) (by omega)]
  rcases hx with rfl | rfl <;> rcases hy with rfl | rfl <;> decide
theorem cv_bit {old now : List Int} {u : Int} (hu : u = 0 ∨ u = 1) (l : List E) : cv old now u l = 0 ∨ cv old now u l = 1 := by
  rcases hu with rfl | rfl <;> (unfold cv; split <;> simp)
theorem cv_succ {old now : List Int} {u : Int} {ks : List E} {k : Nat} (h : k < ks.length) (hu : u = 0 ∨ u = 1) : cv old now u (ks.take (k + 1)) = if cv old now u (ks.take k) = 1 - u ∨ ks[k].val old now = 1 - u then 1 - u else u := by
  have hne : ¬ u = 1 - u := by rcases hu with rfl | rfl <;> decide
  unfold cv
  rw [List.take_succ_eq_append_getElem h, List.any_append]
  cases h1 : (ks.take k).any (fun e => decide (e.val old now = 1 - u)) <;> by_cases h2 : ks[k].val old now = 1 - u <;> simp [h2, hne]
theorem cv_and {old now : List Int} {ks : List E} {k : Nat} (h : k < ks.length) (hb : ks[k].val old now = 0 ∨ ks[k].val old now = 1) : bits .and .i64 (cv old now 1 (ks.take k)) (ks[k].val old now) = cv old now 1 (ks.take (k + 1)) := by
  rw [bits_and_bit (cv_bit (.inr rfl) _) hb, cv_succ h (.inr rfl)]; rfl
theorem cv_or {old now : List Int} {ks : List E} {k : Nat} (h : k < ks.length) (hb : ks[k].val old now = 0 ∨ ks[k].val old now = 1) : bits .or .i64 (cv old now 0 (ks.take k)) (ks[k].val old now) = cv old now 0 (ks.take (k + 1)) := by
  rw [bits_or_bit (cv_bit (.inl rfl) _) hb, cv_succ h (.inl rfl)]; rfl
theorem implies_bits {x y : Int} (hx : x = 0 ∨ x = 1) (hy : y = 0 ∨ y = 1) : bits .or .i64 (1 - x) y = if x = 0 ∨ y = 1 then 1 else 0 := by
  rw [bits_or_bit (by omega) hy]; split <;> split <;> omega
end Go.Proofs.YtdancokndklpnaaDoor
namespace Go.Proofs.YtdancokndklpnaaDoor
open Go.RowKit

/-- While the values are joined. -/
def CnRel (ks : List E) (old now : List Int) (W : World) (all some i : Value) (wr : World) : Prop :=
  ∃ k : Nat, k ≤ ks.length ∧ i = .int .i64 k ∧ all = .int .i64 (cv old now 1 (ks.take k)) ∧ some = .int .i64 (cv old now 0 (ks.take k)) ∧ Ext W wr ∧ ∀ (j : Nat) (h : j < ks.length), j < k → Good 1 30 30 ks[j]
/-- An expression in a variable. -/
def XRel (W : World) (y : E) (x : Value) (wx : World) : Prop :=
  ∃ (B : Nat) (a : Option Addr) (l c : Nat), x = .pointer (some ⟨B, 0, none⟩) ∧ Ext W wx ∧ VarE wx B y.op y.wd y.n (.slice a l c) ∧ EVal wx (.agg #[.int .i64 y.op, .int .i64 y.wd, .int .i64 y.n, .slice a l c]) y
def ElAt (w : World) (b o : Nat) (e : E) (a : Option Addr) (c : Nat) : Prop :=
  w.cell? ⟨b, o, none⟩ = some (.int .i64 e.op) ∧ w.cell? ⟨b, o + 1, none⟩ = some (.int .i64 e.wd) ∧ w.cell? ⟨b, o + 2, none⟩ = some (.int .i64 e.n) ∧ w.cell? ⟨b, o + 3, none⟩ = some (.slice a e.kids.length c)
theorem ElAt.ext {w w' : World} {b o : Nat} {e : E} {a : Option Addr} {c : Nat} (h : ElAt w b o e a c) (hx : Ext w w') : ElAt w' b o e a c := ⟨hx.cell h.1, hx.cell h.2.1, hx.cell h.2.2.1, hx.cell h.2.2.2⟩
theorem kid_open {w : World} {b o cap n : Nat} {ks : List E} (h : Kids w (.slice (some ⟨b, o, none⟩) n cap) ks) (i : Nat) (hi : i < ks.length) : ∃ a c, ElAt w b (o + i * 4) ks[i] a c ∧ EVal w (.agg #[.int .i64 ks[i].op, .int .i64 ks[i].wd, .int .i64 ks[i].n, .slice a ks[i].kids.length c]) ks[i] := by
  rcases h with ⟨_, e⟩ | ⟨b', o', cap', e, _, hk'⟩
  · subst e; simp at hi
  cases e
  obtain ⟨g0, g1, g2, kv, g3, hkk⟩ := (hk' i hi).cells
  obtain ⟨ka, kc, rfl⟩ := SliceAt.shape hkk
  exact ⟨ka, kc, ⟨g0, g1, g2, g3⟩, _, rfl, hkk⟩
theorem zero_block {w0 w1 : World} (hx : Ext (w0.alloc (.cells zeroA 24)) w1) : w1.heap[w0.heap.size]? = some (.cells zeroA 24 (0, 0)) := by rw [hx.block _ (by simp)]; exact heap_new _ _
theorem xrel_old {W w0 w1 : World} {y : E} {a : Option Addr} {l c : Nat} (hW : Ext W w0) (hx : Ext (w0.alloc (.cells zeroA 24)) w1) (hk : KidsT (fun k => w0.heap.size + 1 ≤ k) w1 (.slice a l c) y.kids) :
    XRel W y (.pointer (some ⟨w0.heap.size, 0, none⟩)) (put4 w1 w0.heap.size 0 (.int .i64 y.op) (.int .i64 y.wd) (.int .i64 y.n) (.slice a l c)) := by
  have hb : w1.heap[w0.heap.size]? = some (.cells zeroA 24 (0, 0)) := by rw [hx.block _ (by simp)]; exact heap_new _ _
  have hx' : Ext w0 w1 := ((Ext.refl w0).alloc _).trans hx
  exact ⟨w0.heap.size, a, l, c, rfl, hW.trans (Below.trans hx' (below_put4 (Nat.le_refl _))), put4_new hb, _, rfl, (hk.keep fun q hq _ => put4_heap q (by omega)).kids⟩
theorem xrel_new {W w1 : World} {y : E} {a : Option Addr} {l c : Nat} (hx : Ext W w1) (hk : KidsT (fun _ => True) w1 (.slice a l c) y.kids) :
    XRel W y (.pointer (some ⟨w1.heap.size, 0, none⟩)) (w1.alloc (.cells #[.int .i64 y.op, .int .i64 y.wd, .int .i64 y.n, .slice a l c] 24)) :=
  ⟨w1.heap.size, a, l, c, rfl, hx.alloc _, VarE.new _ _ _ _ _, _, rfl, hk.kids.ext ((Ext.refl _).alloc _)⟩

set_option maxRecDepth 100000 in
set_option maxHeartbeats 32000000 in
theorem ExprConnectives_any (ks : List E) (old now : List Int) (vk vo vn : Value) (w : World) (hk : Kids w vk ks) (hO : Ints w vo old) (hN : Ints w vn now) (hM : Masks w) (hNm : Names w) (hP : Pow10 w) :
    Calls Tryd.prog 9 #[vk, vo, vn] w fun r w' => r = .returned (.bool true) ∧ Ext w w' := by
  obtain ⟨sa, scap, rfl⟩ := SliceAt.shape hk
  obtain ⟨oa, ocap, rfl⟩ := hO.shape
  obtain ⟨na, ncap, rfl⟩ := hN.shape
  have HK := Lib.hid hk; have HO := Lib.hid hO; have HN := Lib.hid hN; have HM := Lib.hid hM; have HNm := Lib.hid hNm; have HP := Lib.hid hP
  clear hk hO hN hM hNm hP
  go_enter Tryd.func9, Tryd.ntmps9
  go_wp2_with fail
  refine (head_any w HM.out HNm.out HP.out).mono ?_
  rintro r W ⟨rfl, x1⟩
  have HX := Lib.hid x1
  replace HK := Lib.hid (HK.out.ext x1); replace HO := Lib.hid (HO.out.ext x1); replace HN := Lib.hid (HN.out.ext x1); replace HM := Lib.hid (HM.out.ext x1)
  clear x1 HNm HP
  by_cases hl6 : 6 < ks.length
  · go_wp2_with fail
    exact bodyPost_ret (v := .bool true) (by simp [results, Tryd.results9, go_sem]) rfl ⟨rfl, HX.out⟩
  by_cases hlo : 40 < old.length
  · go_wp2_with fail
    exact bodyPost_ret (v := .bool true) (by simp [results, Tryd.results9, go_sem]) rfl ⟨rfl, HX.out⟩
  by_cases hln : 40 < now.length
  · go_wp2_with fail
    exact bodyPost_ret (v := .bool true) (by simp [results, Tryd.results9, go_sem]) rfl ⟨rfl, HX.out⟩
  have hl7 : ks.length ≤ 6 := by omega
  go_wp2_with fail
  go_loopw [8, 9, 10] (fun a s i wr => CnRel ks old now W a s i wr) (fun _ _ i _ => ks.length - (intOf i).toNat)
  case atStart => exact ⟨0, Nat.zero_le _, rfl, rfl, rfl, Ext.refl _, fun j _ h => absurd h (by omega)⟩
  case round =>
    obtain ⟨k, hkl, rfl, rfl, rfl, hX, hG⟩ := hrel
    have XX := Lib.hid hX; have HG := Lib.hid hG
    clear hX hG
    by_cases hlt : k < ks.length
    · rcases HK.out with ⟨_, e⟩ | ⟨b', o', cap', e, _, _⟩
      · rw [e] at hlt; simp at hlt
      cases e
      obtain ⟨ka, kc, hel, hev⟩ := kid_open (HK.out.ext XX.out) k hlt
      have HEL := Lib.hid hel; have HEV := Lib.hid hev
      clear hel hev
      have HCA := Lib.hid (cv_and (old := old) (now := now) hlt); have HCO := Lib.hid (cv_or (old := old) (now := now) hlt)
      obtain ⟨e, he⟩ : ∃ e, e = ks[k] := ⟨_, rfl⟩
      rw [← he] at HEL HEV HCA HCO
      have HE := Lib.hid he; clear he
      obtain ⟨g0, g1, g2, g3⟩ := HEL.out
      go_wp2_with fail
      refine (sound_any e _ _ 30 HEV.out (by omega) (by omega)).mono ?_
      rintro r w1 ⟨rfl, x1⟩
      replace XX := Lib.hid (XX.out.trans x1); replace HEL := Lib.hid (HEL.out.ext x1); replace HEV := Lib.hid (HEV.out.ext x1)
      clear x1 g0 g1 g2 g3
      cases h1 : (decide ((e.size : Int) ≤ 30) && e.wf) with
      | false =>
        clear h1
        go_wp2_with fail
        exact bodyPost_ret (v := .bool true) (by simp [results, Tryd.results9, go_sem]) rfl ⟨rfl, (HX.out.trans XX.out)⟩
      | true =>
      simp only [Bool.and_eq_true, decide_eq_true_eq] at h1
      have HS := Lib.hid h1; clear h1
      obtain ⟨g0, g1, g2, g3⟩ := HEL.out
      by_cases hw : e.wd = 1
      · have HGE : Hid (Good 1 30 30 e) := by
          have := good_of_wf HS.out.2 (show e.size ≤ 30 by have := HS.out.1; omega)
          rw [hw] at this; exact this
        have HEQ := Lib.hid (HGE.out.eval (by omega) (by omega) old now)
        have hand := HCA.out (HGE.out.bit old now); have hor := HCO.out (HGE.out.bit old now)
        generalize e.val old now = va at *
        rw [hw] at g1
        go_wp2_with fail
        rw [← hw]
        refine (Eval_any e _ _ _ old now _ HEV.out (HO.out.ext XX.out) (HN.out.ext XX.out) (HM.out.ext XX.out)).mono ?_
        rintro r w2 ⟨rfl, x1⟩
        rw [HEQ.out]
        replace XX := Lib.hid (XX.out.trans x1)
        clear x1
        go_wp2_with fail
        refine ⟨⟨k + 1, by omega, by go_num, rfl, rfl, XX.out, fun j h hj => ?_⟩, by simp [intOf]; omega⟩
        by_cases c : j = k
        · subst c; rw [← HE.out]; exact HGE.out
        · exact HG.out j h (by omega)
      · have hwb : (e.wd == 1) = false := by rw [beq_eq_false_iff_ne]; exact hw
        go_wp2_with fail
        exact bodyPost_ret (v := .bool true) (by simp [results, Tryd.results9, go_sem]) rfl ⟨rfl, (HX.out.trans XX.out)⟩
    · have HT : Hid (ks.take k = ks) := List.take_of_length_le (by omega)
      rw [HT.out]
      have HGA : Hid (∀ x ∈ ks, Good 1 30 30 x) := fun x hx => by
        obtain ⟨j, hj, rfl⟩ := List.getElem_of_mem hx
        exact HG.out j hj (by omega)
      clear hkl HT HG
      obtain ⟨vA, hvA⟩ : ∃ v, v = cv old now 1 ks := ⟨_, rfl⟩
      obtain ⟨vO, hvO⟩ : ∃ v, v = cv old now 0 ks := ⟨_, rfl⟩
      rw [← hvA, ← hvO]
      have HVAL := Lib.hid hvA; have HVOL := Lib.hid hvO
      clear hvA hvO
      replace HK := Lib.hid (HK.out.ext XX.out); replace HO := Lib.hid (HO.out.ext XX.out); replace HN := Lib.hid (HN.out.ext XX.out); replace HM := Lib.hid (HM.out.ext XX.out); replace HX := Lib.hid (HX.out.trans XX.out)
      clear XX
      go_wp2_with fail
      obtain ⟨V, hV⟩ : ∃ V, V = wr := ⟨_, rfl⟩
      rw [← hV] at HK HO HN HM HX
      go_loopw [12] (fun i wx => ∃ k : Nat, k ≤ ks.length ∧ i = .int .i64 k ∧ Ext V wx) (fun i _ => ks.length - (intOf i).toNat)
      case atStart => exact ⟨0, Nat.zero_le _, rfl, by rw [hV]; exact Ext.refl _⟩
      case round =>
        obtain ⟨i, hil, rfl, hX⟩ := hrel
        have XX := Lib.hid hX
        clear hX hV
        by_cases hli : i < ks.length
        · go_wp2_with fail
          go_loopw [13] (fun i wx => ∃ k : Nat, k ≤ ks.length ∧ i = .int .i64 k ∧ Ext V wx) (fun i _ => ks.length - (intOf i).toNat)
          case atStart => exact ⟨0, Nat.zero_le _, rfl, XX.out⟩
          case round =>
            clear XX
            obtain ⟨j, hjl, rfl, hX⟩ := hrel
            have XX := Lib.hid hX
            clear hX
            by_cases hlj : j < ks.length
            · rcases HK.out with ⟨_, e⟩ | ⟨b', o', cap', e, _, _⟩
              · rw [e] at hlj; simp at hlj
              cases e
              obtain ⟨ia, ic, hel, hev⟩ := kid_open HK.out i hli
              obtain ⟨ja, jc, hel2, hev2⟩ := kid_open HK.out j hlj
              have HGA1 := Lib.hid (HGA.out ks[i] (List.getElem_mem hli)); have HGA2 := Lib.hid (HGA.out ks[j] (List.getElem_mem hlj))
              generalize ks[i] = a at *
              generalize ks[j] = b at *
              have HI := Lib.hid hel; have HJ := Lib.hid hel2; have HIV := Lib.hid hev; have HJV := Lib.hid hev2
              clear hel hev hel2 hev2
              have HL := Lib.hid (implies_law HGA1.out HGA2.out old now)
              have HMr := Lib.hid (HM.out.ext XX.out)
              have HR0 : Hid (Ext wr wr.drew) := (Ext.refl _).drew
              go_upto_region 20 with fail
              go_cut [14] from 78 to 86 (fun x wx => XRel V (impliesS a b) x wx)
              case first =>
                have HALL : Hid (∀ w', Ext wr w' → (w'.cell? ⟨b', o' + i * 4, none⟩ = some (.int .i64 a.op) ∧ w'.cell? ⟨b', o' + i * 4 + 1, none⟩ = some (.int .i64 a.wd) ∧ w'.cell? ⟨b', o' + i * 4 + 2, none⟩ = some (.int .i64 a.n) ∧ w'.cell? ⟨b', o' + i * 4 + 3, none⟩ = some (.slice ia a.kids.length ic)) ∧ (w'.cell? ⟨b', o' + j * 4, none⟩ = some (.int .i64 b.op) ∧ w'.cell? ⟨b', o' + j * 4 + 1, none⟩ = some (.int .i64 b.wd) ∧ w'.cell? ⟨b', o' + j * 4 + 2, none⟩ = some (.int .i64 b.n) ∧ w'.cell? ⟨b', o' + j * 4 + 3, none⟩ = some (.slice ja b.kids.length jc))) := fun w' h => ⟨HI.out.ext (XX.out.trans h), HJ.out.ext (XX.out.trans h)⟩
                have HZ : Hid (Ext wr (wr.alloc (.cells zeroA 24)).drew) := ((Ext.refl _).alloc _).drew
                have hk0 := HALL.out _ HR0.out
                have hkz := HALL.out _ HZ.out
                go_region_held3 (fun w' => (w'.cell? ⟨b', o' + i * 4, none⟩ = some (.int .i64 a.op) ∧ w'.cell? ⟨b', o' + i * 4 + 1, none⟩ = some (.int .i64 a.wd) ∧ w'.cell? ⟨b', o' + i * 4 + 2, none⟩ = some (.int .i64 a.n) ∧ w'.cell? ⟨b', o' + i * 4 + 3, none⟩ = some (.slice ia a.kids.length ic)) ∧ (w'.cell? ⟨b', o' + j * 4, none⟩ = some (.int .i64 b.op) ∧ w'.cell? ⟨b', o' + j * 4 + 1, none⟩ = some (.int .i64 b.wd) ∧ w'.cell? ⟨b', o' + j * 4 + 2, none⟩ = some (.int .i64 b.n) ∧ w'.cell? ⟨b', o' + j * 4 + 3, none⟩ = some (.slice ja b.kids.length jc)))
                  (first | (with_reducible exact hk3) | (with_reducible exact hk2) | (with_reducible exact hk1) | (with_reducible exact hkz) | (with_reducible exact hk0) | exact HALL.out _ (Below.trans HR1.out (below_put4 (Nat.le_refl _))) | fail)
                  ((go_at_call 30; first
                    | (refine (Implies_any a b _ _ wr.drew (HIV.out.ext (XX.out.trans HR0.out)) (HJV.out.ext (XX.out.trans HR0.out)) (HMr.out.ext HR0.out) ⟨HGA1.out.2.2, HGA1.out.wf (by omega) (by omega), by have := HGA1.out.2.1; omega⟩ ⟨HGA2.out.2.2, HGA2.out.wf (by omega) (by omega), by have := HGA2.out.2.1; omega⟩ (not_kids HGA1.out.1) HL.out.1 HL.out.2.1).mono ?_; rintro r w1 ⟨⟨v, rfl, hv⟩, x1⟩; generalize impliesS a b = y at *; obtain ⟨ya, yl, yc, rfl, hky⟩ := hv.shape; have HR1 := Lib.hid (HR0.out.trans x1); have HKY := Lib.hid hky; have hk1 := HALL.out _ HR1.out; have hk2 := HALL.out _ (HR1.out.alloc (.cells zeroA 24)); have hk3 := HALL.out _ (HR1.out.alloc (.cells #[.int .i64 y.op, .int .i64 y.wd, .int .i64 y.n, .slice ya yl yc] 24)); clear x1 hv hky)
                    | (refine (Implies_any a b _ _ (wr.alloc (.cells zeroA 24)).drew (HIV.out.ext (XX.out.trans HZ.out)) (HJV.out.ext (XX.out.trans HZ.out)) (HMr.out.ext HZ.out) ⟨HGA1.out.2.2, HGA1.out.wf (by omega) (by omega), by have := HGA1.out.2.1; omega⟩ ⟨HGA2.out.2.2, HGA2.out.wf (by omega) (by omega), by have := HGA2.out.2.1; omega⟩ (not_kids HGA1.out.1) HL.out.1 HL.out.2.1).mono ?_; rintro r w1 ⟨⟨v, rfl, hv⟩, x1⟩; generalize impliesS a b = y at *; obtain ⟨ya, yl, yc, rfl, hky⟩ := hv.shape; have HR1 := Lib.hid (HZ.out.trans x1); have HRZ := Lib.hid (((Ext.refl _).drew).trans x1); obtain ⟨c0, c1, c2, c3, f0, f1, f2, f3⟩ := cells_of_block (zero_block HRZ.out); have HKY := Lib.hid hky; have hk1 := HALL.out _ HR1.out; clear x1 hv hky)))
                all_goals
                  go_wp2_with fail
                  go_meet
                  first
                    | exact xrel_new (XX.out.trans HR1.out) (HKY.out.mono fun _ _ => trivial)
                    | exact xrel_old XX.out HRZ.out (HKY.out.mono fun q hq => by simpa using hq)
              case rest =>
                obtain ⟨B, ya, yl, yc, rfl, hXc, hVc, hEc⟩ := hcut
                have XC := Lib.hid hXc; have HVX := Lib.hid hVc; have HEX := Lib.hid hEc
                clear hXc hVc hEc HR0 HMr XX
                have HL3 := Lib.hid HL.out.2.2.1; have HL4 := Lib.hid HL.out.2.2.2
                clear HL
                generalize impliesS a b = y at *
                have hy0 : (y.op == 0) = false := by rw [beq_eq_false_iff_ne]; exact deep_op HL3.out.1
                have HQY := Lib.hid (HL3.out.eval (by omega) (by omega) old now); have HQA := Lib.hid (HGA1.out.eval (by omega) (by omega) old now); have HQB := Lib.hid (HGA2.out.eval (by omega) (by omega) old now)
                have hba := HGA1.out.bit old now; have hbb := HGA2.out.bit old now
                have hor : bits .or .i64 (1 - a.val old now) (b.val old now) = y.val old now := by rw [implies_bits hba hbb, HL4.out]
                clear HL4
                generalize a.val old now = va at *
                generalize b.val old now = vb at *
                generalize y.val old now = vy at *
                have hwr : IntKind.i64.wrap (1 - va) = 1 - va := i64_small _ (by omega) (by omega)
                have HALC : Hid (∀ w', Ext wc w' → (w'.cell? ⟨B, 0, none⟩ = some (.int .i64 y.op) ∧ w'.cell? ⟨B, 1, none⟩ = some (.int .i64 y.wd) ∧ w'.cell? ⟨B, 2, none⟩ = some (.int .i64 y.n) ∧ w'.cell? ⟨B, 3, none⟩ = some (.slice ya yl yc)) ∧ (w'.cell? ⟨b', o' + i * 4, none⟩ = some (.int .i64 a.op) ∧ w'.cell? ⟨b', o' + i * 4 + 1, none⟩ = some (.int .i64 a.wd) ∧ w'.cell? ⟨b', o' + i * 4 + 2, none⟩ = some (.int .i64 a.n) ∧ w'.cell? ⟨b', o' + i * 4 + 3, none⟩ = some (.slice ia a.kids.length ic)) ∧ (w'.cell? ⟨b', o' + j * 4, none⟩ = some (.int .i64 b.op) ∧ w'.cell? ⟨b', o' + j * 4 + 1, none⟩ = some (.int .i64 b.wd) ∧ w'.cell? ⟨b', o' + j * 4 + 2, none⟩ = some (.int .i64 b.n) ∧ w'.cell? ⟨b', o' + j * 4 + 3, none⟩ = some (.slice ja b.kids.length jc))) := fun w' h => ⟨(HVX.out.ext h).cells, HI.out.ext (XC.out.trans h), HJ.out.ext (XC.out.trans h)⟩
                have HC0 : Hid (Ext wc wc.drew) := (Ext.refl _).drew
                have hk0 := HALC.out _ HC0.out
                clear hba hbb
                go_upto_region 21 with fail
                go_region_held3 (fun w' => (w'.cell? ⟨B, 0, none⟩ = some (.int .i64 y.op) ∧ w'.cell? ⟨B, 1, none⟩ = some (.int .i64 y.wd) ∧ w'.cell? ⟨B, 2, none⟩ = some (.int .i64 y.n) ∧ w'.cell? ⟨B, 3, none⟩ = some (.slice ya yl yc)) ∧ (w'.cell? ⟨b', o' + i * 4, none⟩ = some (.int .i64 a.op) ∧ w'.cell? ⟨b', o' + i * 4 + 1, none⟩ = some (.int .i64 a.wd) ∧ w'.cell? ⟨b', o' + i * 4 + 2, none⟩ = some (.int .i64 a.n) ∧ w'.cell? ⟨b', o' + i * 4 + 3, none⟩ = some (.slice ia a.kids.length ic)) ∧ (w'.cell? ⟨b', o' + j * 4, none⟩ = some (.int .i64 b.op) ∧ w'.cell? ⟨b', o' + j * 4 + 1, none⟩ = some (.int .i64 b.wd) ∧ w'.cell? ⟨b', o' + j * 4 + 2, none⟩ = some (.int .i64 b.n) ∧ w'.cell? ⟨b', o' + j * 4 + 3, none⟩ = some (.slice ja b.kids.length jc)))
                  (first | (with_reducible exact hk3) | (with_reducible exact hk2) | (with_reducible exact hk1) | (with_reducible exact hk0) | fail)
                  ((first
                    | (have hgo := HC2.out; clear hgo; go_at_call 15; refine (Eval_any b _ _ _ old now _ (HJV.out.ext (XC.out.trans HC2.out)) (HO.out.ext (XC.out.trans HC2.out)) (HN.out.ext (XC.out.trans HC2.out)) (HM.out.ext (XC.out.trans HC2.out))).mono ?_; rintro r wh3 ⟨rfl, x1⟩; rw [HQB.out]; have HC3 := Lib.hid (HC2.out.trans x1); have hk3 := HALC.out _ HC3.out; clear x1)
                    | (have hgo := HC1.out; clear hgo; go_at_call 15; refine (Eval_any a _ _ _ old now _ (HIV.out.ext (XC.out.trans HC1.out)) (HO.out.ext (XC.out.trans HC1.out)) (HN.out.ext (XC.out.trans HC1.out)) (HM.out.ext (XC.out.trans HC1.out))).mono ?_; rintro r wh2 ⟨rfl, x1⟩; rw [HQA.out]; have HC2 := Lib.hid (HC1.out.trans x1); have hk2 := HALC.out _ HC2.out; clear x1)
                    | (have hgo := HC0.out; clear hgo; go_at_call 15; refine (Eval_any y _ _ _ old now _ (HEX.out.ext HC0.out) (HO.out.ext (XC.out.trans HC0.out)) (HN.out.ext (XC.out.trans HC0.out)) (HM.out.ext (XC.out.trans HC0.out))).mono ?_; rintro r wh1 ⟨rfl, x1⟩; rw [HQY.out]; have HC1 := Lib.hid (HC0.out.trans x1); have hk1 := HALC.out _ HC1.out; clear x1)))
                go_wp2_with fail
                exact ⟨⟨j + 1, by omega, by go_num, XC.out.trans HC3.out⟩, by simp [intOf]; omega⟩
            · go_wp2_with fail
              exact ⟨⟨i + 1, by omega, by go_num, XX.out⟩, by simp [intOf]; omega⟩
        · have HCK : Hid (∀ x ∈ ks, x.wd = 1 ∧ x.wf = true ∧ x.size ≤ 100000) := fun x hx => ⟨(HGA.out x hx).2.2, (HGA.out x hx).wf (by omega) (by omega), by have := (HGA.out x hx).2.1; omega⟩
          have HLA := Lib.hid (connect_val (.inl ⟨rfl, rfl⟩) old now ks HGA.out hl7); have HLO := Lib.hid (connect_val (.inr ⟨rfl, rfl⟩) old now ks HGA.out hl7)
          have HFA := Lib.hid (connect_law (.inl ⟨rfl, rfl⟩) old now ks HGA.out hl7); have HFO := Lib.hid (connect_law (.inr ⟨rfl, rfl⟩) old now ks HGA.out hl7)
          clear hil
          go_wp2_with fail
          refine (And_any ks _ _ (HK.out.ext XX.out) (HM.out.ext XX.out) hl7 HCK.out HFA.out).mono ?_
          rintro r w1 ⟨⟨v, rfl, e⟩, x1⟩
          generalize connectS ks 5 1 = y at *
          obtain ⟨ya, yl, yc, rfl, _⟩ := e.shape
          have HEY := Lib.hid e
          replace XX := Lib.hid (XX.out.trans x1)
          clear x1 e
          go_upto_region 24 with fail
          obtain ⟨W1, hW1⟩ : ∃ W1, W1 = w1.alloc (.cells #[.int .i64 y.op, .int .i64 y.wd, .int .i64 y.n, .slice ya yl yc] 24) := ⟨_, rfl⟩
          have x1 : Ext w1 W1 := by rw [hW1]; exact (Ext.refl _).alloc _
          have HVY : Hid (VarE W1 w1.heap.size y.op y.wd y.n (.slice ya yl yc)) := by rw [hW1]; exact VarE.new _ _ _ _ _
          rw [← hW1]
          replace XX := Lib.hid (XX.out.trans x1); replace HEY := Lib.hid (HEY.out.ext x1)
          clear x1 hW1
          generalize w1.heap.size = B1 at *
          go_wp2_with fail
          refine (Or_any ks _ _ (HK.out.ext XX.out) (HM.out.ext XX.out) hl7 HCK.out HFO.out).mono ?_
          rintro r w2 ⟨⟨v, rfl, e⟩, x1⟩
          generalize connectS ks 6 0 = z at *
          obtain ⟨za, zl, zc, rfl, _⟩ := e.shape
          have HEZ := Lib.hid e
          replace XX := Lib.hid (XX.out.trans x1); replace HEY := Lib.hid (HEY.out.ext x1); replace HVY := Lib.hid (HVY.out.ext x1)
          clear x1 e
          go_upto_region 25 with fail
          obtain ⟨W2, hW2⟩ : ∃ W2, W2 = w2.alloc (.cells #[.int .i64 z.op, .int .i64 z.wd, .int .i64 z.n, .slice za zl zc] 24) := ⟨_, rfl⟩
          have x1 : Ext w2 W2 := by rw [hW2]; exact (Ext.refl _).alloc _
          have HVZ : Hid (VarE W2 w2.heap.size z.op z.wd z.n (.slice za zl zc)) := by rw [hW2]; exact VarE.new _ _ _ _ _
          rw [← hW2]
          replace XX := Lib.hid (XX.out.trans x1); replace HEY := Lib.hid (HEY.out.ext x1); replace HVY := Lib.hid (HVY.out.ext x1); replace HEZ := Lib.hid (HEZ.out.ext x1)
          clear x1 hW2
          generalize w2.heap.size = B2 at *
          have hwY : (y.wd == 1) = true := by rw [HLA.out.1.2.2]; rfl
          have hwZ : (z.wd == 1) = true := by rw [HLO.out.1.2.2]; rfl
          have HQY : Hid (y.eval old now = vA) := by rw [Hid, HLA.out.1.eval (by omega) (by omega), HLA.out.2, HVAL.out]
          have HQZ : Hid (z.eval old now = vO) := by rw [Hid, HLO.out.1.eval (by omega) (by omega), HLO.out.2, HVOL.out]
          obtain ⟨p0, p1, p2, p3⟩ := HVY.out.cells
          obtain ⟨q0, q1, q2, q3⟩ := HVZ.out.cells
          go_wp2_with fail
          refine (Eval_any y _ _ _ old now _ HEY.out (HO.out.ext XX.out) (HN.out.ext XX.out) (HM.out.ext XX.out)).mono ?_
          rintro r w3 ⟨rfl, x1⟩
          rw [HQY.out]
          replace XX := Lib.hid (XX.out.trans x1); replace HVZ := Lib.hid (HVZ.out.ext x1); replace HEZ := Lib.hid (HEZ.out.ext x1)
          clear x1 p0 p1 p2 p3 q0 q1 q2 q3
          obtain ⟨q0, q1, q2, q3⟩ := HVZ.out.cells
          go_wp2_with fail
          refine (Eval_any z _ _ _ old now _ HEZ.out (HO.out.ext XX.out) (HN.out.ext XX.out) (HM.out.ext XX.out)).mono ?_
          rintro r w4 ⟨rfl, x1⟩
          rw [HQZ.out]
          replace XX := Lib.hid (XX.out.trans x1)
          clear x1 q0 q1 q2 q3
          go_wp2_with fail
          exact bodyPost_ret (v := .bool true) (by simp [results, Tryd.results9, go_sem]) rfl ⟨rfl, (HX.out.trans XX.out)⟩
end Go.Proofs.YtdancokndklpnaaDoor
