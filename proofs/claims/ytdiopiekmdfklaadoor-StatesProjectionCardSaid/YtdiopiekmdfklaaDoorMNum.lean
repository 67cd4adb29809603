/-
  The walk of states.Number.
  The numbers of states, digit by digit; expressions at states that agree on the leaves.
-/
import Derived.Test.YtdiopiekmdfklaaDoorMOf
namespace Go.Proofs.YtdiopiekmdfklaaDoor
open Go.RowKit

def numStep (st : List Int) (p q : Int × Int) : Int × Int := (p.1 + (if q.1 < (st.length : Int) then st.getD q.1.toNat 0 % pw q.2 else 0) * pw p.2, p.2 + q.2)
def numTo (cs ws st : List Int) (k : Nat) : Int × Int := ((cs.zip ws).take k).foldl (numStep st) (0, 0)
def numS (cs ws st : List Int) : Int := if smallB cs ws then (numTo cs ws st cs.length).1 else 0
theorem numTo_succ {cs ws : List Int} (st : List Int) {k : Nat} (h : cs.length = ws.length) (hk : k < cs.length) : numTo cs ws st (k + 1) = numStep st (numTo cs ws st k) (cs[k], ws[k]'(by omega)) := by
  unfold numTo
  have hz : k < (cs.zip ws).length := by simp; omega
  rw [List.take_succ_eq_append_getElem hz, List.foldl_append]
  simp
theorem num_low {cs ws : List Int} (st : List Int) (h : cs.length = ws.length) : ∀ k, k ≤ cs.length → (numTo cs ws st k).2 = sumI (ws.take k) := by
  intro k
  induction k with
  | zero => intro _; rfl
  | succ k ih =>
    intro hk
    rw [numTo_succ st h (by omega), sum_take (show k < ws.length by omega), ← ih (by omega)]
    rfl
theorem sum_take_le {l : List Int} (h : ∀ x ∈ l, 1 ≤ x ∧ x ≤ 8) (k : Nat) (hk : k ≤ l.length) : sumI (l.take k) ≤ sumI l := by
  have key : ∀ j, k + j ≤ l.length → sumI (l.take k) ≤ sumI (l.take (k + j)) := by
    intro j
    induction j with
    | zero => intro _; exact Int.le_refl _
    | succ j ih =>
      intro hj
      have := ih (by omega)
      have h2 := h _ (List.getElem_mem (show k + j < l.length by omega))
      rw [← Nat.add_assoc, sum_take (show k + j < l.length by omega)]
      omega
  have := key (l.length - k) (by omega)
  rwa [show k + (l.length - k) = l.length by omega, List.take_length] at this
theorem pw_add {a b : Int} (ha : 0 ≤ a) (hb : 0 ≤ b) : pw (a + b) = pw a * pw b := by
  unfold pw
  rw [Int.toNat_add ha hb, Int.pow_add]
theorem num_bd {cs ws : List Int} (st : List Int) (h : cs.length = ws.length) (hw : ∀ x ∈ ws, 1 ≤ x ∧ x ≤ 8) : ∀ k, k ≤ cs.length → 0 ≤ (numTo cs ws st k).2 ∧ 0 ≤ (numTo cs ws st k).1 ∧ (numTo cs ws st k).1 < pw (numTo cs ws st k).2 := by
  intro k
  induction k with
  | zero => intro _; exact ⟨Int.le_refl _, Int.le_refl _, show (0 : Int) < pw 0 by decide⟩
  | succ k ih =>
    intro hk
    obtain ⟨h1, h2, h3⟩ := ih (by omega)
    have hx := hw (ws[k]'(by omega)) (List.getElem_mem _)
    rw [numTo_succ st h (by omega)]
    unfold numStep
    dsimp only
    have e := pw_add h1 (show 0 ≤ ws[k]'(by omega) by omega)
    rw [e]
    generalize ws[k]'(by omega) = wd at *
    have hp := @pw_pos wd
    have hq := @pw_pos (numTo cs ws st k).2
    generalize pw (numTo cs ws st k).2 = q at *
    generalize (numTo cs ws st k).1 = n at *
    have hv : ∃ v, (if cs[k]'(by omega) < (st.length : Int) then st.getD (cs[k]'(by omega)).toNat 0 % pw wd else 0) = v ∧ 0 ≤ v ∧ v ≤ pw wd - 1 := by
      refine ⟨_, rfl, ?_, ?_⟩
      · split
        · exact Int.emod_nonneg _ (by omega)
        · omega
      · split
        · have := Int.emod_lt_of_pos (st.getD (cs[k]'(by omega)).toNat 0) hp; omega
        · omega
    obtain ⟨v, hv, h4, h5⟩ := hv
    rw [hv]
    have h6 : 0 ≤ v * q := Int.mul_nonneg h4 (by omega)
    have h7 : v * q ≤ (pw wd - 1) * q := Int.mul_le_mul_of_nonneg_right h5 (by omega)
    have h8 : (pw wd - 1) * q = q * pw wd - q := by rw [Int.sub_mul, Int.one_mul, Int.mul_comm]
    exact ⟨by omega, by omega, by omega⟩
theorem or_shift {n v low : Int} (h0 : 0 ≤ low) (h1 : low ≤ 20) (h2 : 0 ≤ n) (h3 : n < pw low) (h4 : 0 ≤ v) (h5 : v ≤ 255) : bits .or .i64 n (wrap64 (v * 2 ^ low.toNat)) = n + v * pw low := by
  obtain ⟨l, rfl⟩ := Int.eq_ofNat_of_zero_le h0
  obtain ⟨a, rfl⟩ := Int.eq_ofNat_of_zero_le h2
  obtain ⟨b, rfl⟩ := Int.eq_ofNat_of_zero_le h4
  unfold pw at *
  simp only [Int.toNat_natCast] at *
  have hp : (2 : Nat) ^ l ≤ 1048576 := by
    have := Nat.pow_le_pow_right (show 0 < 2 by decide) (show l ≤ 20 by omega)
    simpa using this
  have ha : a < 2 ^ l := by exact_mod_cast h3
  have hb : b * 2 ^ l ≤ 255 * 1048576 := Nat.mul_le_mul (by omega) hp
  have hc : ((b : Int) * 2 ^ l) = ((b * 2 ^ l : Nat) : Int) := by push_cast; rfl
  rw [hc]
  have hw : wrap64 ((b * 2 ^ l : Nat) : Int) = ((b * 2 ^ l : Nat) : Int) := by unfold wrap64; omega
  rw [hw, (bits_nat .i64 62 (by decide) i64_small a (b * 2 ^ l) (by omega) (by omega)).2]
  have := Nat.shiftLeft_add_eq_or_of_lt ha b
  rw [Nat.shiftLeft_eq] at this
  rw [Nat.or_comm, ← this]
  omega
set_option maxRecDepth 100000 in
set_option maxHeartbeats 2000000 in
theorem Number_any (cs ws is st : List Int) (va vs : Value) (w : World) (ha : SetV w va cs ws is) (hs : Ints w vs st) : Calls Tryd.prog 22 #[va, vs] w fun r w' => r = .returned (.int .i64 (numS cs ws st)) ∧ Ext w w' := by
  obtain ⟨ca, cc, wa, wcp, ia, ic, rfl, a1, a2, a3⟩ := ha.shape
  obtain ⟨sa, sc, rfl⟩ := hs.shape
  obtain ⟨W, hW⟩ : ∃ W, W = w.alloc (.cells #[.slice ca cs.length cc, .slice wa ws.length wcp, .slice ia is.length ic] 31) := ⟨_, rfl⟩
  have hx : Ext w W := by rw [hW]; exact (Ext.refl w).alloc _
  have hB1 : W.heap[w.heap.size]? = some (.cells #[.slice ca cs.length cc, .slice wa ws.length wcp, .slice ia is.length ic] 31 (0, 0)) := by rw [hW]; exact heap_new _ _
  obtain ⟨p0, p1, p2⟩ := cells3 hB1
  have hlc := SliceAt.len_le a1; have hls := SliceAt.len_le hs
  have HA := Lib.hid (ha.ext hx); have A1 := Lib.hid (a1.ext hx); have A2 := Lib.hid (a2.ext hx); have A3 := Lib.hid (hs.ext hx); have HX := Lib.hid hx; have HW := Lib.hid hW
  clear ha a1 a2 a3 hx hW hB1 hs
  go_enter Tryd.func22, Tryd.ntmps22
  go_upto_region 1 with fail
  rw [← HW.out]
  go_wp2_with fail
  refine (small_any cs ws is _ _ HA.out).mono ?_
  rintro r w2 ⟨rfl, x2⟩
  replace p0 := x2.cell p0; replace p1 := x2.cell p1
  replace A1 := Lib.hid (A1.out.ext x2); replace A2 := Lib.hid (A2.out.ext x2); replace A3 := Lib.hid (A3.out.ext x2); replace HX := Lib.hid (HX.out.trans x2)
  clear x2 p2 HA HW
  cases hsm : smallB cs ws with
  | false =>
    have HN : Hid (numS cs ws st = 0) := by unfold Hid numS; rw [hsm]; rfl
    clear hsm
    go_wp2_with fail
    go_ret
    exact ⟨by rw [HN.out]; rfl, HX.out⟩
  | true =>
    have HN : Hid (numS cs ws st = (numTo cs ws st cs.length).1) := by unfold Hid numS; rw [hsm]; rfl
    obtain ⟨hsh, hwd, hs0, hs12⟩ := small_sum hsm
    obtain ⟨heq, _, hin⟩ := shape_iff.1 hsh
    have HEQ := Lib.hid heq; have HIN := Lib.hid hin; have HWD := Lib.hid hwd; have HS12 := Lib.hid hs12
    clear hsm hsh hwd heq hin hs0 hs12
    go_wp2_with fail
    go_loopw [5, 6, 16] (fun n l i wr => ∃ k : Nat, k ≤ cs.length ∧ i = .int .i64 k ∧ n = .int .i64 (numTo cs ws st k).1 ∧ l = .int .i64 (numTo cs ws st k).2 ∧ Ext w2 wr) (fun _ _ i _ => cs.length - (intOf i).toNat)
    case atStart => exact ⟨0, Nat.zero_le _, rfl, rfl, rfl, Ext.refl _⟩
    case round =>
      obtain ⟨k, hk, rfl, rfl, rfl, x1⟩ := hrel
      have HXr := Lib.hid x1
      have q0 := x1.cell p0; have q1 := x1.cell p1
      clear x1
      generalize wr = wx at *
      by_cases hlt : k < cs.length
      · have hlt2 : k < ws.length := by have := HEQ.out; omega
        rcases A1.out with ⟨_, e⟩ | ⟨b, o, cap', e, _, hcl⟩
        · rw [e] at hlt; simp at hlt
        cases e
        rcases A2.out with ⟨_, e⟩ | ⟨b2, o2, cap2, e, _, hcl2⟩
        · rw [e] at hlt2; simp at hlt2
        cases e
        have g0 : wx.cell? ⟨b, o + k, none⟩ = some (.int .i64 cs[k]) := by have := HXr.out.cell (hcl k hlt); rw [Nat.mul_one] at this; exact this
        have g1 : wx.cell? ⟨b2, o2 + k, none⟩ = some (.int .i64 ws[k]) := by have := HXr.out.cell (hcl2 k hlt2); rw [Nat.mul_one] at this; exact this
        clear hcl hcl2
        have hbd := HIN.out k hlt
        rw [show cs.getD k 0 = cs[k] by simp [List.getD, hlt], show ws.getD k 0 = ws[k] by simp [List.getD, hlt2]] at hbd
        have hst := numTo_succ st HEQ.out hlt
        have hlow := num_low st HEQ.out k (by omega)
        obtain ⟨d0, d1, d2⟩ := num_bd st HEQ.out HWD.out.2 k (by omega)
        have hlo : (numTo cs ws st k).2 + ws[k] ≤ 12 := by
          have h1 := num_low st HEQ.out (k + 1) hlt
          rw [hst] at h1
          have h2 := sum_take_le HWD.out.2 (k + 1) (by omega)
          have := HS12.out
          unfold numStep at h1
          dsimp only at h1
          omega
        have HST := Lib.hid hst
        clear hst hlow
        unfold numStep at HST
        dsimp only at HST
        generalize (numTo cs ws st k).1 = n at *
        generalize (numTo cs ws st k).2 = low at *
        generalize cs[k] = c at *
        generalize ws[k] = wd at *
        obtain ⟨h1, h2, h3, h4⟩ := hbd
        obtain ⟨cN, rfl⟩ := Int.eq_ofNat_of_zero_le h1
        have i0 : (0 : Int) ≤ (k : Int) := by omega
        have hwl : wrap64 (low + wd) = low + wd := by unfold wrap64; omega
        by_cases hcl : cN < st.length
        · rcases A3.out with ⟨_, e⟩ | ⟨b3, o3, cap3, e, _, hcl3⟩
          · rw [e] at hcl; simp at hcl
          cases e
          have g2 : wx.cell? ⟨b3, o3 + cN, none⟩ = some (.int .i64 st[cN]) := by have := HXr.out.cell (hcl3 cN hcl); rw [Nat.mul_one] at this; exact this
          have hsg : st.getD cN 0 = st[cN] := by simp [List.getD, hcl]
          have HSG := Lib.hid hsg
          clear hcl3 hsg
          have tc : (cN : Int) < (st.length : Int) := by omega
          have hc4 := pw_cases h3 h4
          have hm0 : 0 ≤ st[cN] % pw wd := Int.emod_nonneg _ (by omega)
          have hm1 : st[cN] % pw wd ≤ 255 := by have := Int.emod_lt_of_pos st[cN] (@pw_pos wd); omega
          have HE : Hid (numTo cs ws st (k + 1) = (n + st[cN] % pw wd * pw low, low + wd)) := by
            unfold Hid
            rw [HST.out, if_pos (by omega), Int.toNat_natCast, HSG.out]
          have hwe : bits .or .i64 n (wrap64 (bits .and .i64 st[cN] (wrap64 (wrap64 (2 ^ wd.toNat) - 1)) * 2 ^ low.toNat)) = n + st[cN] % pw wd * pw low := by
            rw [mask_walk _ _ h3 h4]; exact or_shift d0 (by omega) d1 d2 hm0 hm1
          clear hc4 hm0 hm1
          generalize st[cN] = m at *
          go_wp2_with fail
          go_quiet (fail)
          go_wp2_with fail
          exact ⟨⟨k + 1, by omega, by go_num, by rw [HE.out], by rw [HE.out], HXr.out.drewN _⟩, by simp [intOf]; omega⟩
        · have tc : decide ((cN : Int) < (st.length : Int)) = false := decide_eq_false (by omega)
          have HE : Hid (numTo cs ws st (k + 1) = (n, low + wd)) := by
            unfold Hid
            rw [HST.out, if_neg (by omega), Int.zero_mul, Int.add_zero]
          go_wp2_with fail
          exact ⟨⟨k + 1, by omega, by go_num, by rw [HE.out], by rw [HE.out], HXr.out⟩, by simp [intOf]; omega⟩
      · obtain rfl : k = cs.length := by omega
        go_wp2_with fail
        go_ret
        exact ⟨by rw [HN.out]; rfl, HX.out.trans HXr.out⟩
end Go.Proofs.YtdiopiekmdfklaaDoor
namespace Go.Proofs.YtdiopiekmdfklaaDoor
open Go.RowKit

/-- Two pairs of states agree on a leaf. -/
def LeafEq (o1 n1 o2 n2 : List Int) (x : E) : Prop := (x.op = 2 → elemS n1 x.n % pw x.wd = elemS n2 x.n % pw x.wd) ∧ (x.op = 3 → elemS o1 x.n % pw x.wd = elemS o2 x.n % pw x.wd)
theorem shapedW_nokids {op wd n : Int} {ws : List Int} (h : shapedW op wd n ws = true) (ho : op = 2 ∨ op = 3) : ws = [] := by
  unfold shapedW at h
  rw [Bool.and_eq_true, if_neg (by omega), if_pos ho] at h
  simp only [Bool.and_eq_true, decide_eq_true_eq] at h
  exact h.2.1.1
mutual
theorem val_leaf (o1 n1 o2 n2 : List Int) : (e : E) → (d : Nat) → e.deep d = true → (∀ x ∈ e.leaves, LeafEq o1 n1 o2 n2 x) → e.val o1 n1 = e.val o2 n2
  | .mk op wd n ks, d, hd, h => by
    simp only [E.deep, Bool.and_eq_true] at hd
    obtain ⟨⟨_, hs⟩, hk⟩ := hd
    rw [E.val, E.val]
    by_cases c1 : op = 1
    · rw [if_pos c1, if_pos c1]
    · rw [if_neg c1, if_neg c1]
      by_cases c2 : op = 2
      · have := shapedW_nokids hs (.inl c2)
        have hks : ks = [] := List.map_eq_nil_iff.1 this
        subst hks
        rw [leaves_nil] at h
        rw [if_pos c2, if_pos c2]
        exact (h (.mk op wd n []) (by simp)).1 c2
      · rw [if_neg c2, if_neg c2]
        by_cases c3 : op = 3
        · have := shapedW_nokids hs (.inr c3)
          have hks : ks = [] := List.map_eq_nil_iff.1 this
          subst hks
          rw [leaves_nil] at h
          rw [if_pos c3, if_pos c3]
          exact (h (.mk op wd n []) (by simp)).2 c3
        · rw [if_neg c3, if_neg c3]
          have e : valAll o1 n1 ks = valAll o2 n2 ks := by
            by_cases c : ks = []
            · subst c; rfl
            · rw [leaves_cons c] at h
              exact val_leaf_list o1 n1 o2 n2 ks (d - 1) hk h
          rw [e]
theorem val_leaf_list (o1 n1 o2 n2 : List Int) : (ks : List E) → (d : Nat) → deepAll ks d = true → (∀ x ∈ leavesAll ks, LeafEq o1 n1 o2 n2 x) → valAll o1 n1 ks = valAll o2 n2 ks
  | [], _, _, _ => rfl
  | e :: r, d, hd, h => by
    simp only [deepAll, Bool.and_eq_true] at hd
    simp only [leavesAll, List.mem_append] at h
    rw [valAll, valAll, val_leaf o1 n1 o2 n2 e d hd.1 (fun x hx => h x (.inl hx)), val_leaf_list o1 n1 o2 n2 r d hd.2 (fun x hx => h x (.inr hx))]
end
theorem eval_leaf {o1 n1 o2 n2 : List Int} {e : E} (h : ∀ x ∈ e.leaves, LeafEq o1 n1 o2 n2 x) : e.eval o1 n1 = e.eval o2 n2 := by
  unfold E.eval
  split
  · next hw =>
    simp only [E.wf, Bool.and_eq_true] at hw
    exact val_leaf o1 n1 o2 n2 e 40 hw.2 h
  · rfl

section
variable {cs ws : List Int} (hl : cs.length = ws.length) (hw : ∀ x ∈ ws, 1 ≤ x ∧ x ≤ 8) (hinc : incB cs = true) (hb : ∀ i, i < cs.length → 0 ≤ cs.getD i 0 ∧ cs.getD i 0 < 32)
include hl hw
/-- The low bits below a cell. -/
theorem low_le {i k : Nat} (h : i < k) (hk : k ≤ cs.length) : ∃ r, 0 ≤ r ∧ sumI (ws.take k) = sumI (ws.take i) + (ws.getD i 0) + r ∧ 0 ≤ sumI (ws.take i) ∧ 1 ≤ ws.getD i 0 ∧ ws.getD i 0 ≤ 8 := by
  have hg : ws.getD i 0 = ws[i]'(by omega) := by simp [List.getD, show i < ws.length by omega]
  have hx := hw (ws[i]'(by omega)) (List.getElem_mem _)
  have key : ∀ j, i + 1 + j ≤ cs.length → ∃ r, 0 ≤ r ∧ sumI (ws.take (i + 1 + j)) = sumI (ws.take i) + (ws.getD i 0) + r := by
    intro j
    induction j with
    | zero => intro _; exact ⟨0, by omega, by rw [Nat.add_zero, sum_take (show i < ws.length by omega), hg]; omega⟩
    | succ j ih =>
      intro hj
      obtain ⟨r, h0, h1⟩ := ih (by omega)
      have h2 := hw _ (List.getElem_mem (show i + 1 + j < ws.length by omega))
      refine ⟨r + ws[i + 1 + j]'(by omega), by omega, ?_⟩
      rw [← Nat.add_assoc, sum_take (show i + 1 + j < ws.length by omega), h1]; omega
  obtain ⟨r, h0, h1⟩ := key (k - i - 1) (by omega)
  rw [show i + 1 + (k - i - 1) = k by omega] at h1
  exact ⟨r, h0, h1, (sum_bound hw i (by omega)).1, by omega, by omega⟩
theorem num_digit (st : List Int) : ∀ k, k ≤ cs.length → ∀ i, i < k → (numTo cs ws st k).1 / pw (sumI (ws.take i)) % pw (ws.getD i 0) = elemS st (cs.getD i 0) % pw (ws.getD i 0) := by
  intro k
  induction k with
  | zero => intro _ i hi; omega
  | succ k ih =>
    intro hk i hi
    obtain ⟨_, h2, h3⟩ := num_bd st hl hw k (by omega)
    have hlow := num_low st hl k (by omega)
    rw [hlow] at h3
    have hc : cs.getD k 0 = cs[k]'(by omega) := by simp [List.getD, show k < cs.length by omega]
    have hwk : ws.getD k 0 = ws[k]'(by omega) := by simp [List.getD, show k < ws.length by omega]
    have hv : ∃ v, (numTo cs ws st (k + 1)).1 = (numTo cs ws st k).1 + v * pw (sumI (ws.take k)) ∧ v = elemS st (cs.getD k 0) % pw (ws.getD k 0) := by
      refine ⟨_, ?_, rfl⟩
      rw [numTo_succ st hl (by omega)]
      unfold numStep elemS
      dsimp only
      rw [hlow, hc, hwk]
      split
      · rfl
      · next hn =>
        have : st.getD (cs[k]'(by omega)).toNat 0 = 0 := by simp [List.getD, show st.length ≤ (cs[k]'(by omega)).toNat by omega]
        rw [this]; simp
    obtain ⟨v, hv, hv2⟩ := hv
    rw [hv]
    have hq := @pw_pos (sumI (ws.take i))
    by_cases e : i = k
    · subst e
      rw [Int.add_mul_ediv_right _ _ (by omega), Int.ediv_eq_zero_of_lt h2 h3, Int.zero_add, hv2, Int.emod_emod]
    · obtain ⟨r, r0, r1, r2, r3, _⟩ := low_le hl hw (show i < k by omega) (by omega)
      rw [← ih (by omega) i (by omega), r1, pw_add (by omega) r0, pw_add r2 (by omega)]
      rw [show v * (pw (sumI (ws.take i)) * pw (ws.getD i 0) * pw r) = v * pw r * pw (ws.getD i 0) * pw (sumI (ws.take i)) by ac_rfl]
      rw [Int.add_mul_ediv_right _ _ (by omega), Int.add_mul_emod_self_right]
include hinc hb
theorem st_digit (n : Int) (base : List Int) (h32 : base.length = 32) : ∀ k, k ≤ cs.length → (stTo cs ws n base k).1 = n / pw (sumI (ws.take k)) ∧ (stTo cs ws n base k).2.length = 32 ∧
    ∀ i, i < k → elemS (stTo cs ws n base k).2 (cs.getD i 0) = n / pw (sumI (ws.take i)) % pw (ws.getD i 0) := by
  intro k
  induction k with
  | zero => intro _; exact ⟨by simp [stTo, sumI, pw], h32, fun i hi => by omega⟩
  | succ k ih =>
    intro hk
    obtain ⟨h1, h2, h3⟩ := ih (by omega)
    have hc : cs.getD k 0 = cs[k]'(by omega) := by simp [List.getD, show k < cs.length by omega]
    have hwk : ws.getD k 0 = ws[k]'(by omega) := by simp [List.getD, show k < ws.length by omega]
    have hbk := hb k (by omega)
    have hs0 := (sum_bound hw k (by omega)).1
    have hx := hw (ws[k]'(by omega)) (List.getElem_mem _)
    rw [stTo_succ n base hl (by omega)]
    unfold stStep
    dsimp only
    rw [hc] at hbk
    rw [if_pos (by rw [h2]; omega)]
    refine ⟨?_, by rw [List.length_set]; exact h2, fun i hi => ?_⟩
    · rw [h1, sum_take (show k < ws.length by omega), pw_add hs0 (by omega), Int.ediv_ediv_of_nonneg (Int.le_of_lt pw_pos)]
    · unfold elemS at *
      by_cases e : i = k
      · subst e
        rw [hc, hwk, h1]
        simp [List.getD, show (cs[i]'(by omega)).toNat < (stTo cs ws n base i).2.length by rw [h2]; omega]
      · have hlt := inc_all hinc i k (by omega) (by omega)
        have hbi := hb i (by omega)
        rw [hc] at hlt
        rw [← h3 i (by omega)]
        simp only [List.getD, List.getElem?_set]
        rw [if_neg (by simp only [List.getD] at hlt hbi; omega)]
end
theorem st_of_num {cs ws : List Int} (hs : smallB cs ws = true) (st : List Int) {i : Nat} (hi : i < cs.length) : elemS (stN cs ws (numS cs ws st).toNat) (cs.getD i 0) = elemS st (cs.getD i 0) % pw (ws.getD i 0) := by
  obtain ⟨h1, hwd, _, _⟩ := small_sum hs
  obtain ⟨hl, hinc, hin⟩ := shape_iff.1 h1
  have hb := num_bd st hl hwd.2 cs.length (Nat.le_refl _)
  have hN : ((numS cs ws st).toNat : Int) = (numTo cs ws st cs.length).1 := by unfold numS; rw [hs, if_pos rfl]; omega
  unfold stN stateS
  rw [hs, if_pos rfl, hN]
  rw [(st_digit hl hwd.2 hinc (fun i h => ⟨(hin i h).1, (hin i h).2.1⟩) _ zeros32 (by simp [zeros32]) cs.length (Nat.le_refl _)).2.2 i hi]
  exact num_digit hl hwd.2 st cs.length (Nat.le_refl _) i hi
theorem num_lt {cs ws : List Int} (hs : smallB cs ws = true) (st : List Int) : 0 ≤ numS cs ws st ∧ numS cs ws st < pw (sumI ws) := by
  obtain ⟨h1, hwd, _, _⟩ := small_sum hs
  obtain ⟨hl, _, _⟩ := shape_iff.1 h1
  have hb := num_bd st hl hwd.2 cs.length (Nat.le_refl _)
  have hlow := num_low st hl cs.length (Nat.le_refl _)
  rw [hlow, hl, List.take_length] at hb
  unfold numS
  rw [hs, if_pos rfl, hl]
  exact ⟨hb.2.1, hb.2.2⟩
theorem occurs_of {op : Int} {e : E} {x : E} (hx : x ∈ e.leaves) (ho : x.op = op) {j : Nat} (hj : x.n = (j : Int)) : occurs op e.leaves j = true := by
  unfold occurs
  rw [List.any_eq_true]
  exact ⟨x, hx, by rw [Bool.and_eq_true, decide_eq_true_eq, decide_eq_true_eq]; exact ⟨ho, hj⟩⟩
theorem mem_upTo' {f : Nat → Bool} {k j : Nat} (hj : j < k) (hf : f j = true) : (j : Int) ∈ upTo f k := by
  unfold upTo
  exact List.mem_map.2 ⟨j, List.mem_filter.2 ⟨List.mem_range.2 hj, hf⟩, rfl⟩
/-- A leaf that is a cell of the list, at the number's state and at the state. -/
theorem leaf_num {cells : List CellD} {list : List Int} {pr : Bool} (hs : smallB list (wOf cells list) = true) {x : E} (hok : okLeaf cells pr x = true) (h1 : x.op ≠ 1) (hmem : x.n ∈ list) (st : List Int) :
    elemS (stN list (wOf cells list) (numS list (wOf cells list) st).toNat) x.n % pw x.wd = elemS st x.n % pw x.wd := by
  obtain ⟨i, hi, hn⟩ := List.getElem_of_mem hmem
  have hg : list.getD i 0 = x.n := by simp [List.getD, hi, hn]
  unfold okLeaf at hok
  simp only [Bool.or_eq_true, Bool.and_eq_true, decide_eq_true_eq] at hok
  rcases hok with c | c
  · exact absurd c h1
  have hwi : (wOf cells list).getD i 0 = x.wd := by
    have e : (cells.map CellD.W).getD x.n.toNat 0 = x.wd := c.1.2
    unfold wOf
    simp only [List.getD, List.getElem?_map, List.getElem?_eq_getElem hi, Option.map_some, Option.getD_some, hn] at e ⊢
    unfold wAt
    simpa using e
  have := st_of_num hs st hi
  rw [hg, hwi] at this
  rw [this, Int.emod_emod]
end Go.Proofs.YtdiopiekmdfklaaDoor
