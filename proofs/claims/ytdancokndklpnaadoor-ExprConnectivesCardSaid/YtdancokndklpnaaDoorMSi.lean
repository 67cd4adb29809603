/-
  The walks of equal, constant, isConst, isOnes, negation.
  The walks of constant, isConst, isOnes, negation.
-/
import Derived.Test.YtdancokndklpnaaDoorMReb
namespace Go.Proofs.YtdancokndklpnaaDoor
open Go.RowKit

mutual
/-- Equality of expressions, as a test. -/
def E.eqB : E → E → Bool
  | .mk a b c ks, .mk a' b' c' ks' => decide (a = a') && decide (b = b') && decide (c = c') && eqAll ks ks'
def eqAll : List E → List E → Bool
  | [], [] => true
  | e :: r, e' :: r' => e.eqB e' && eqAll r r'
  | _, _ => false
end
mutual
theorem eqB_iff : (a b : E) → (a.eqB b = true ↔ a = b)
  | .mk a b c ks, .mk a' b' c' ks' => by
    simp only [E.eqB, Bool.and_eq_true, decide_eq_true_eq, eqAll_iff ks ks', E.mk.injEq, and_assoc]
theorem eqAll_iff : (a b : List E) → (eqAll a b = true ↔ a = b)
  | [], [] => by simp [eqAll]
  | [], _ :: _ => by simp [eqAll]
  | _ :: _, [] => by simp [eqAll]
  | e :: r, e' :: r' => by simp [eqAll, eqB_iff e e', eqAll_iff r r']
end
theorem eqAll_length {a b : List E} (h : a.length ≠ b.length) : eqAll a b = false := by
  cases hq : eqAll a b with
  | false => rfl
  | true => exact absurd (by rw [(eqAll_iff a b).1 hq]) h
theorem eqAll_get {a b : List E} {i : Nat} (h1 : i < a.length) (h2 : i < b.length) (h : a[i].eqB b[i] = false) : eqAll a b = false := by
  cases hq : eqAll a b with
  | false => rfl
  | true =>
    have := (eqAll_iff a b).1 hq
    subst this
    rw [(eqB_iff _ _).2 rfl] at h; cases h
theorem eqAll_all {a b : List E} (hl : a.length = b.length) (h : ∀ (i : Nat) (h1 : i < a.length) (h2 : i < b.length), a[i].eqB b[i] = true) : eqAll a b = true := by
  rw [eqAll_iff]
  exact List.ext_getElem hl fun i h1 h2 => (eqB_iff _ _).1 (h i h1 h2)

set_option maxHeartbeats 2000000 in
theorem equal_any (N : Nat) : ∀ (x y : E) (w : World) (b o b2 o2 : Nat), x.size ≤ N → IsE w b o x → IsE w b2 o2 y →
    Calls Tryd.prog 89 #[.pointer (some ⟨b, o, none⟩), .pointer (some ⟨b2, o2, none⟩)] w fun r w' => r = .returned (.bool (x.eqB y)) ∧ Ext w w' := by
  induction N with
  | zero => intro x y w b o b2 o2 h; have := x.size_pos; omega
  | succ N ih =>
    intro x y w b o b2 o2 hN hX hY
    obtain ⟨h0, h1, h2, kv, h3, hk⟩ := hX.cells
    obtain ⟨g0, g1, g2, kv2, g3, hk2⟩ := hY.cells
    obtain ⟨op, wd, n, ks⟩ := x
    obtain ⟨op', wd', n', ks'⟩ := y
    simp only [E.op_mk, E.wd_mk, E.n_mk, E.kids_mk] at h0 h1 h2 hk g0 g1 g2 hk2
    have IH := Lib.hid ih; clear ih
    obtain ⟨a, cap, rfl⟩ := SliceAt.shape hk
    obtain ⟨a2, cap2, rfl⟩ := SliceAt.shape hk2
    have hlen : ks.length ≤ 9223372036854775807 := SliceAt.len_le hk
    have HK := Lib.hid hk; have HK2 := Lib.hid hk2; clear hk hk2
    by_cases c0 : op = op'
    · subst c0
      by_cases c1 : wd = wd'
      · subst c1
        by_cases c2 : n = n'
        · subst c2
          by_cases c3 : ks.length = ks'.length
          · have hb : (((ks.length : Nat) : Int) != ((ks'.length : Nat) : Int)) = false := by rw [c3]; simp
            have HL := Lib.hid c3
            clear c3
            go_enter Tryd.func89, Tryd.ntmps89
            go_wp2_with fail
            go_quiet (fail)
            go_wp2_with fail
            go_loopw [5, 55] (fun _ i wr => ∃ k : Nat, k ≤ ks.length ∧ i = .int .i64 k ∧ Ext w wr ∧ ∀ (j : Nat) (h1 : j < ks.length) (h2 : j < ks'.length), j < k → ks[j].eqB ks'[j] = true) (fun _ i _ => ks.length - (intOf i).toNat)
            case atStart => exact ⟨0, Nat.zero_le _, rfl, (Ext.refl w).drewN _, fun j _ _ h => absurd h (Nat.not_lt_zero _)⟩
            case round =>
              obtain ⟨k, hk, rfl, hx, hr⟩ := hrel
              have q3 := hx.cell h3
              have r3 := hx.cell g3
              have HX := Lib.hid hx; have HR := Lib.hid hr; clear hx hr
              by_cases hlt : k < ks.length
              · have hlt' : k < ks'.length := by rw [← HL.out]; exact hlt
                rcases HK.out with ⟨_, e⟩ | ⟨b', o', cap', e, _, hk'⟩
                · rw [e] at hlt; simp at hlt
                rcases HK2.out with ⟨_, e2⟩ | ⟨b2', o2', cap2', e2, _, hk2'⟩
                · rw [e2] at hlt'; simp at hlt'
                cases e; cases e2
                have HE1 := Lib.hid ((hk' k hlt).ext HX.out)
                have HE2 := Lib.hid ((hk2' k hlt').ext HX.out)
                clear hk' hk2'
                have hin : ks[k] ∈ ks := List.getElem_mem hlt
                have hsz : ks[k].size ≤ N := by have := size_kid (op := op) (wd := wd) (n := n) hin; omega
                go_wp2_with fail
                go_region_held3 (fun w' => w'.cell? ⟨b, o + 3, none⟩ = some (.slice (some ⟨b', o', none⟩) ks.length cap) ∧ w'.cell? ⟨b2, o2 + 3, none⟩ = some (.slice (some ⟨b2', o2', none⟩) ks'.length cap2))
                  (first | exact ⟨q3, r3⟩ | exact ⟨Ext.cell ‹Ext wr.drew _› q3, Ext.cell ‹Ext wr.drew _› r3⟩)
                  ((go_at_call 89; refine (IH.out ks[k] ks'[k] _ b' (o' + k * 4) b2' (o2' + k * 4) hsz (HE1.out.ext (Ext.refl wr).drew) (HE2.out.ext (Ext.refl wr).drew)).mono ?_; rintro r w1 ⟨rfl, hx1⟩))
                have HX1 := Lib.hid (HX.out.trans (((Ext.refl wr).drew).trans hx1)); clear hx1
                cases hq : ks[k].eqB ks'[k] with
                | false =>
                  have HF : Hid ((E.mk op wd n ks).eqB (.mk op wd n ks') = false) := by simp [Hid, E.eqB, eqAll_get hlt hlt' hq]
                  clear hq
                  go_wp2_with fail
                  go_ret
                  exact ⟨by rw [HF.out]; rfl, HX1.out⟩
                | true =>
                  have HQ := Lib.hid hq; clear hq
                  go_wp2_with fail
                  go_roundw
                  case rel =>
                    refine ⟨k + 1, by omega, by go_num, HX1.out, fun j j1 j2 hj => ?_⟩
                    by_cases c : j = k
                    · subst c; exact HQ.out
                    · exact HR.out j j1 j2 (by omega)
                  case measure => simp [intOf]; omega
              · have HF : Hid ((E.mk op wd n ks).eqB (.mk op wd n ks') = true) := by
                  have := eqAll_all HL.out (fun i h1 h2 => HR.out i h1 h2 (by omega))
                  simp [Hid, E.eqB, this]
                go_wp2_with fail
                go_ret
                exact ⟨by rw [HF.out]; rfl, HX.out⟩
          · have hb : (((ks.length : Nat) : Int) != ((ks'.length : Nat) : Int)) = true := by rw [bne_iff_ne]; omega
            have HF : Hid ((E.mk op wd n ks).eqB (.mk op wd n ks') = false) := by simp [Hid, E.eqB, eqAll_length c3]
            clear c3
            go_enter Tryd.func89, Tryd.ntmps89
            go_wp2_with fail
            go_quiet (fail)
            go_wp2_with fail
            go_ret
            exact ⟨by rw [HF.out]; rfl, (Ext.refl w).drewN _⟩
        · have hb : ((n : Int) != n') = true := by rw [bne_iff_ne]; exact c2
          have HF : Hid ((E.mk op wd n ks).eqB (.mk op wd n' ks') = false) := by simp [Hid, E.eqB, c2]
          clear c2
          go_enter Tryd.func89, Tryd.ntmps89
          go_wp2_with fail
          go_quiet (fail)
          go_wp2_with fail
          go_ret
          exact ⟨by rw [HF.out]; rfl, (Ext.refl w).drewN _⟩
      · have hb : ((wd : Int) != wd') = true := by rw [bne_iff_ne]; exact c1
        have HF : Hid ((E.mk op wd n ks).eqB (.mk op wd' n' ks') = false) := by simp [Hid, E.eqB, c1]
        clear c1
        go_enter Tryd.func89, Tryd.ntmps89
        go_wp2_with fail
        go_quiet (fail)
        go_wp2_with fail
        go_ret
        exact ⟨by rw [HF.out]; rfl, (Ext.refl w).drewN _⟩
    · have hb : ((op : Int) != op') = true := by rw [bne_iff_ne]; exact c0
      have HF : Hid ((E.mk op wd n ks).eqB (.mk op' wd' n' ks') = false) := by simp [Hid, E.eqB, c0]
      clear c0
      go_enter Tryd.func89, Tryd.ntmps89
      go_wp2_with fail
      go_quiet (fail)
      go_wp2_with fail
      go_ret
      exact ⟨by rw [HF.out]; rfl, (Ext.refl w).drewN _⟩
end Go.Proofs.YtdancokndklpnaaDoor
namespace Go.Proofs.YtdancokndklpnaaDoor
open Go.RowKit

/-- A result that is an expression whose kids lie from block N on. -/
def NewN (N : Nat) (e : E) (w : World) (r : Ending) (w' : World) : Prop := (∃ v, r = .returned v ∧ EValB N w' v e) ∧ Ext w w'

set_option maxHeartbeats 400000 in
theorem constant_any (n wd : Int) (w : World) : Calls Tryd.prog 67 #[.int .i64 n, .int .i64 wd] w fun r w' => r = .returned (.agg #[.int .i64 1, .int .i64 wd, .int .i64 n, .slice none 0 0]) ∧ Ext w w' := by
  go_enter Tryd.func67, Tryd.ntmps67
  go_wp2_with fail
  exact bodyPost_ret (v := .agg #[.int .i64 1, .int .i64 wd, .int .i64 n, .slice none 0 0]) (by simp [results, Tryd.results67, go_sem]) rfl ⟨rfl, (Ext.refl w).alloc _⟩

/-- Is it the constant n? -/
def E.isC (e : E) (n : Int) : Bool := decide (e.op = 1) && decide (e.n = n)

set_option maxHeartbeats 400000 in
theorem isConst_any (e : E) (v : Value) (n : Int) (w : World) (he : EVal w v e) : Calls Tryd.prog 66 #[v, .int .i64 n] w fun r w' => r = .returned (.bool (e.isC n)) ∧ Ext w w' := by
  obtain ⟨a, l, c, rfl, hk⟩ := he.shape
  clear hk he
  by_cases c1 : e.op = 1
  · have hb : ((e.op : Int) == 1) = true := by simp [c1]
    have HF : Hid (e.isC n = decide (e.n = n)) := by simp [Hid, E.isC, c1]
    clear c1
    go_enter Tryd.func66, Tryd.ntmps66
    go_wp2_with fail
    go_ret
    exact ⟨by rw [HF.out]; exact ret_bool (by rw [Bool.eq_iff_iff]; simp), (Ext.refl w).alloc _⟩
  · have hb : ((e.op : Int) == 1) = false := by rw [beq_eq_false_iff_ne]; exact c1
    have HF : Hid (e.isC n = false) := by simp [Hid, E.isC, c1]
    clear c1
    go_enter Tryd.func66, Tryd.ntmps66
    go_wp2_with fail
    go_ret
    exact ⟨by rw [HF.out]; rfl, (Ext.refl w).alloc _⟩

set_option maxHeartbeats 1000000 in
theorem isOnes_any (e : E) (v : Value) (w : World) (he : EVal w v e) (hM : Masks w) (h1 : 1 ≤ e.wd) (h8 : e.wd ≤ 8) : Calls Tryd.prog 90 #[v] w fun r w' => r = .returned (.bool (e.isC (pw e.wd - 1))) ∧ Ext w w' := by
  obtain ⟨a, l, c, rfl, hk⟩ := he.shape
  have hm := hM e.wd (by omega) h8
  have hms : 1 < w.heap.size := block_lt hm
  have h0 : 0 ≤ e.wd := by omega
  have h9 : e.wd < 9 := by omega
  have HV : Hid (EVal (w.alloc (.cells #[.int .i64 e.op, .int .i64 e.wd, .int .i64 e.n, .slice a l c] 24)).drew (.agg #[.int .i64 e.op, .int .i64 e.wd, .int .i64 e.n, .slice a l c]) e) := ⟨_, rfl, hk.ext ((Ext.refl w).alloc _).drew⟩
  clear hk he
  go_enter Tryd.func90, Tryd.ntmps90
  go_wp2_with fail
  generalize hw0 : w.alloc (.cells #[.int .i64 e.op, .int .i64 e.wd, .int .i64 e.n, .slice a l c] 24) = w0 at HV ⊢
  have hx0 : Ext w w0 := by rw [← hw0]; exact (Ext.refl w).alloc _
  obtain ⟨c0, c1, c2, c3, _, _, _, _⟩ := cells_of_block (w := w0) (R := w.heap.size) (by rw [← hw0]; exact heap_new _ _)
  have m0 := hx0.cell hm
  have HX0 := Lib.hid hx0
  clear hw0 hx0
  go_region_held3 (fun w' => w'.cell? ⟨w.heap.size, 0, none⟩ = some (.int .i64 e.op) ∧ w'.cell? ⟨w.heap.size, 1, none⟩ = some (.int .i64 e.wd) ∧ w'.cell? ⟨w.heap.size, 2, none⟩ = some (.int .i64 e.n) ∧ w'.cell? ⟨w.heap.size, 3, none⟩ = some (.slice a l c) ∧ w'.cell? ⟨1, e.wd.toNat, none⟩ = some (.int .i64 (pw e.wd - 1)))
    (first | exact ⟨c0, c1, c2, c3, m0⟩ | exact ⟨Ext.cell ‹Ext w0.drew _› c0, Ext.cell ‹Ext w0.drew _› c1, Ext.cell ‹Ext w0.drew _› c2, Ext.cell ‹Ext w0.drew _› c3, Ext.cell ‹Ext w0.drew _› m0⟩)
    ((go_at_call 66; refine (isConst_any e _ _ _ HV.out).mono ?_; rintro r w1 ⟨rfl, hx1⟩))
  go_wp2_with fail
  go_ret
  exact ⟨rfl, HX0.out.drew.trans hx1⟩

/-- The negation. -/
def E.neg (e : E) : E := if e.op = 4 then e.kids.getD 0 (.mk 0 0 0 []) else .mk 4 e.wd 0 [e]

/-- One expression in a new block. -/
theorem kidsB_one {N : Nat} {w : World} {e : E} {k : Value} {t : TypeId} (hN : N ≤ w.heap.size) (hk : KidsB N w k e.kids) : KidsB N (w.alloc (.cells #[.int .i64 e.op, .int .i64 e.wd, .int .i64 e.n, k] t)) (.slice (some ⟨w.heap.size, 0, none⟩) 1 1) [e] := by
  have hk' := hk.keep (((Ext.refl w).alloc (.cells #[.int .i64 e.op, .int .i64 e.wd, .int .i64 e.n, k] t)).asFrom N)
  refine .inr ⟨_, _, _, rfl, by simp, hN, fun i hi => ?_⟩
  obtain rfl : i = 0 := by simp at hi; omega
  obtain ⟨op, wd, n, ks⟩ := e
  rcases hk' with ⟨rfl, hks⟩ | ⟨b', o', cap, rfl, hl, hb, h2⟩
  · simp at hks; subst hks; exact .leaf (by simp) (by simp) (by simp) (by simp)
  · exact .node (cap := cap) (by simp) (by simp) (by simp) (by simp) hl hb h2

/-- A kid's cells and value. -/
theorem KidsB.get {N : Nat} {w : World} {b o n cap : Nat} {ks : List E} (h : KidsB N w (.slice (some ⟨b, o, none⟩) n cap) ks) (i : Nat) (hi : i < ks.length) : ∃ a l c, w.cell? ⟨b, o + i * 4, none⟩ = some (.int .i64 ks[i].op) ∧ w.cell? ⟨b, o + i * 4 + 1, none⟩ = some (.int .i64 ks[i].wd) ∧ w.cell? ⟨b, o + i * 4 + 2, none⟩ = some (.int .i64 ks[i].n) ∧
    w.cell? ⟨b, o + i * 4 + 3, none⟩ = some (.slice a l c) ∧ KidsB N w (.slice a l c) ks[i].kids := by
  rcases h with ⟨h, _⟩ | ⟨b', o', cap', h, _, _, h2⟩
  · cases h
  · cases h
    have := h2 i hi
    generalize ks[i] = e at this ⊢
    cases this with
    | leaf c0 c1 c2 c3 => exact ⟨_, _, _, c0, c1, c2, c3, .inl ⟨rfl, rfl⟩⟩
    | node c0 c1 c2 c3 hl hb hk => exact ⟨_, _, _, c0, c1, c2, c3, .inr ⟨_, _, _, rfl, hl, hb, hk⟩⟩

set_option maxHeartbeats 1000000 in
/-- The negation of a negation: the kid, as it lies. -/
theorem negation_kid (op wd n : Int) (h4 : op = 4) (b o l c : Nat) (x y z : Int) (ka : Option Addr) (kl kc : Nat) (w : World) (hl : 0 < l) (k0 : w.cell? ⟨b, o, none⟩ = some (.int .i64 x)) (k1 : w.cell? ⟨b, o + 1, none⟩ = some (.int .i64 y)) (k2 : w.cell? ⟨b, o + 2, none⟩ = some (.int .i64 z)) (k3 : w.cell? ⟨b, o + 3, none⟩ = some (.slice ka kl kc)) :
    Calls Tryd.prog 69 #[.agg #[.int .i64 op, .int .i64 wd, .int .i64 n, .slice (some ⟨b, o, none⟩) l c]] w fun r w' => r = .returned (.agg #[.int .i64 x, .int .i64 y, .int .i64 z, .slice ka kl kc]) ∧ Ext w w' := by
  have hbs : b < w.heap.size := block_lt k0
  have hbs1 : b < w.heap.size + 1 := by omega
  have hb : ((op : Int) == 4) = true := by simp [h4]
  clear h4
  have i0 : (0 : Int) < ((l : Nat) : Int) := by omega
  go_enter Tryd.func69, Tryd.ntmps69
  go_wp2_with fail
  exact bodyPost_ret (v := .agg #[.int .i64 x, .int .i64 y, .int .i64 z, .slice ka kl kc]) (by simp [results, Tryd.results69, go_sem]) rfl ⟨rfl, ((Ext.refl w).alloc _).alloc _⟩

set_option maxHeartbeats 1000000 in
/-- The negation of another expression: a new node over it. -/
theorem negation_new (e : E) (a : Option Addr) (l c : Nat) (w : World) (h4 : e.op ≠ 4) :
    Calls Tryd.prog 69 #[.agg #[.int .i64 e.op, .int .i64 e.wd, .int .i64 e.n, .slice a l c]] w fun r w' => r = .returned (.agg #[.int .i64 4, .int .i64 e.wd, .int .i64 0, .slice (some ⟨w.heap.size + 1 + 1, 0, none⟩) 1 1]) ∧ Ext w w' ∧
      w'.heap[w.heap.size + 1 + 1]? = some (.cells #[.int .i64 e.op, .int .i64 e.wd, .int .i64 e.n, .slice a l c] 24 (0, 0)) := by
  have hb : ((e.op : Int) == 4) = false := by rw [beq_eq_false_iff_ne]; exact h4
  clear h4
  go_enter Tryd.func69, Tryd.ntmps69
  go_wp2_with fail
  refine bodyPost_ret (v := .agg #[.int .i64 4, .int .i64 e.wd, .int .i64 0, .slice (some ⟨w.heap.size + 1 + 1, 0, none⟩) 1 1]) (by simp [results, Tryd.results69, go_sem]) rfl ⟨rfl, (((Ext.refl w).alloc _).alloc _).alloc _, ?_⟩
  have := heap_new ((w.alloc (.cells #[.int .i64 e.op, .int .i64 e.wd, .int .i64 e.n, .slice a l c] 24)).alloc (.cells #[.int .i64 4, .int .i64 e.wd, .int .i64 0, .slice (some ⟨w.heap.size + 1 + 1, 0, none⟩) 1 1] 24)) (.cells #[.int .i64 e.op, .int .i64 e.wd, .int .i64 e.n, .slice a l c] 24)
  simpa using this

/-- A node over one expression that lies alone in a block. -/
theorem kidsB_at {N : Nat} {w W : World} {nb : Nat} {e : E} {k : Value} {t : TypeId} (hN : N ≤ nb) (hk : KidsB N w k e.kids) (hx : Ext w W) (hb : W.heap[nb]? = some (.cells #[.int .i64 e.op, .int .i64 e.wd, .int .i64 e.n, k] t (0, 0))) : KidsB N W (.slice (some ⟨nb, 0, none⟩) 1 1) [e] := by
  obtain ⟨c0, c1, c2, c3, _⟩ := cells_of_block hb
  have hk' := hk.keep (hx.asFrom N)
  refine .inr ⟨_, _, _, rfl, by simp, hN, fun i hi => ?_⟩
  obtain rfl : i = 0 := by simp at hi; omega
  obtain ⟨op, wd, n, ks⟩ := e
  rcases hk' with ⟨rfl, hks⟩ | ⟨b', o', cap, rfl, hl, hb, h2⟩
  · simp at hks; subst hks; exact .leaf c0 c1 c2 c3
  · exact .node c0 c1 c2 c3 hl hb h2
end Go.Proofs.YtdancokndklpnaaDoor
