/-
  The walks of certificate.digest, Digest and Matches.
-/
import Derived.Test.YtoopoljchhdobaaDoorFmt
import Derived.Test.YtoopoljchhdobaaDoorText2
import Derived.Laws.Bits64
namespace Go.Proofs.YtoopoljchhdobaaDoor
open Go.RowKit

theorem fnv_bits {h : Nat} (hh : h < 18446744073709551616) (b : UInt8) : IntKind.u64.wrap (bits .xor .u64 (h : Int) (b.toNat : Int) * 1099511628211) = ((fnvStep h b : Nat) : Int) := by
  rw [bits_xor_u64_nat h b.toNat hh (by have := b.toNat_lt; omega), IntKind.wrap_u64]
  unfold fnvStep
  rw [Int.natCast_emod, Int.natCast_mul]
  rfl
theorem bits_xor_lt {h : Nat} (hh : h < 18446744073709551616) (b : UInt8) : bits .xor .u64 (h : Int) (b.toNat : Int) = ((h ^^^ b.toNat : Nat) : Int) := bits_xor_u64_nat h b.toNat hh (by have := b.toNat_lt; omega)
theorem fnv_take (l : List UInt8) (k : Nat) (h : k < l.length) : fnvN (l.take (k + 1)) = fnvStep (fnvN (l.take k)) l[k] := by
  rw [List.take_succ_eq_append_getElem h, fnvN_snoc]

set_option maxHeartbeats 1000000 in
theorem digest_any (l : List UInt8) (w : World) (hl : l.length ≤ 1000000000) (hT : DeB w) :
    Calls Tryd.prog 39 #[.string ⟨l.toArray⟩] w fun e w' => e = .returned (.string ⟨(digestS l).toArray⟩) ∧ Ext w w' := by
  have HT := Lib.hid hT; have HLN := Lib.hid hl; clear hT
  go_enter Tryd.func39, Tryd.ntmps39
  go_wp2_with fail
  go_loopw [3, 8] (fun h i wr => wr = w ∧ ∃ k : Nat, k ≤ l.length ∧ i = .int .i64 k ∧ h = .int .u64 (fnvN (l.take k) : Nat)) (fun _ i _ => l.length - (intOf i).toNat)
  case atStart => exact ⟨rfl, 0, Nat.zero_le _, rfl, rfl⟩
  case round =>
    obtain ⟨rfl, k, hk, rfl, rfl⟩ := hrel
    have HF := Lib.hid (fnvN_lt (l.take k))
    by_cases hlt : k < l.length
    · have HS := Lib.hid (fnv_take l k hlt)
      have HB := Lib.hid (fnv_bits HF.out l[k])
      have j1 : (k : Int) < (l.length : Int) := by omega
      generalize hf : fnvN (l.take k) = f at *
      have HG := Lib.hid hf; clear hf
      go_wp2_with fail
      have e9 : IntKind.u64.wrap (((⟨l.toArray⟩ : ByteArray)[k]).toNat : Int) = (l[k].toNat : Int) := by
        show IntKind.u64.wrap ((l[k].toNat : Nat) : Int) = _
        have := l[k].toNat_lt
        rw [IntKind.wrap_u64]; omega
      refine ⟨⟨trivial, k + 1, by omega, by go_num, ?_⟩, by simp [intOf]; omega⟩
      rw [e9, HB.out, HS.out]
    · have e1 : l.take k = l := List.take_of_length_le (by omega)
      rw [e1] at HF ⊢
      obtain ⟨c, hc⟩ : ∃ c, c = 16 - (hexMin (fnvN l)).length := ⟨_, rfl⟩
      obtain ⟨hp1, hp2⟩ := digest_pad l
      have HC := Lib.hid (Format_any (fnvN l) wr HF.out HT.out)
      have HP := Lib.hid hp2
      rw [← hc] at HP
      generalize hexMin (fnvN l) = d at *
      have e2 : IntKind.i64.wrap (16 - (d.length : Int)) = (c : Int) := by rw [IntKind.wrap_i64]; omega
      have c16 : c ≤ 16 := by omega
      obtain ⟨z, hz⟩ : ∃ z, z = Lib.repeatL [48] c := ⟨_, rfl⟩
      have HR : Hid (∀ w1, Calls Tryd.prog 59 #[.string ⟨#[48]⟩, .int .i64 c] w1 fun e w' => e = .returned (.string ⟨z.toArray⟩) ∧ Below w1.heap.size w1 w') := fun w1 => by
        rw [hz]
        exact Tryd.strings_Repeat ⟨#[48]⟩ c w1 (by omega) (by show 1 * c ≤ _; omega)
      have HZ : Hid (z = List.replicate c 48) := by
        unfold Hid
        rw [hz]
        clear hz HR e2 c16 hc HP
        induction c with
        | zero => rfl
        | succ c ih => rw [Lib.repeatL, ih, List.replicate_succ]; rfl
      have f1 : ¬ (9223372036854775807 < z.length + d.length) := by rw [HZ.out]; simp; omega
      have HD := Lib.hid hc; clear hc hp1 hp2 hz
      go_wp2_with (first
        | (refine HC.out.mono ?_; rintro e w' ⟨rfl, hX⟩; have HX := Lib.hid hX; clear hX)
        | (refine (HR.out _).mono ?_; rintro e w2 ⟨rfl, hX2⟩; have HX2 := Lib.hid hX2; clear hX2))
      go_ret
      rw [ByteArray.mk_append_mk, HZ.out, HP.out]
      exact ⟨rfl, HX.out.trans HX2.out⟩

/-- A condition; in memory, by value. -/
structure CondS where
  id : List UInt8
  k1 : Int
  k2 : Int
  k3 : Int
  k4 : Int
  k5 : Int
  hyp : E
  goal : E
def condCells (c : CondS) (ha : Option Addr) (hl hc : Nat) (ga : Option Addr) (gl gc : Nat) : Array Value :=
  #[.string ⟨c.id.toArray⟩, .int .i64 c.k1, .int .i64 c.k2, .int .i64 c.k3, .int .i64 c.k4, .int .i64 c.k5, .int .i64 c.hyp.op, .int .i64 c.hyp.wd, .int .i64 c.hyp.n, .slice ha hl hc, .int .i64 c.goal.op, .int .i64 c.goal.wd, .int .i64 c.goal.n, .slice ga gl gc]
def CondV (w : World) (v : Value) (c : CondS) : Prop := ∃ ha hl hc ga gl gc, v = .agg (condCells c ha hl hc ga gl gc) ∧
  EVal w (.agg #[.int .i64 c.hyp.op, .int .i64 c.hyp.wd, .int .i64 c.hyp.n, .slice ha hl hc]) c.hyp ∧ EVal w (.agg #[.int .i64 c.goal.op, .int .i64 c.goal.wd, .int .i64 c.goal.n, .slice ga gl gc]) c.goal
theorem CondV.ext {w w' : World} {v : Value} {c : CondS} (h : CondV w v c) (he : Ext w w') : CondV w' v c := by
  obtain ⟨ha, hl, hc, ga, gl, gc, e, h1, h2⟩ := h
  exact ⟨ha, hl, hc, ga, gl, gc, e, h1.ext he, h2.ext he⟩
/-- A condition in a block. -/
def CondAt (w : World) (b : Nat) (c : CondS) (ha : Option Addr) (hl hc : Nat) (ga : Option Addr) (gl gc : Nat) : Prop := w.heap[b]? = some (.cells (condCells c ha hl hc ga gl gc) 45 (0, 0))
theorem CondAt.ext {w w' : World} {b : Nat} {c : CondS} {ha : Option Addr} {hl hc : Nat} {ga : Option Addr} {gl gc : Nat} (h : CondAt w b c ha hl hc ga gl gc) (hx : Ext w w') : CondAt w' b c ha hl hc ga gl gc := (hx.block b (Array.getElem?_eq_some_iff.1 h).1).trans h
theorem CondAt.hyp {w : World} {b : Nat} {c : CondS} {ha : Option Addr} {hl hc : Nat} {ga : Option Addr} {gl gc : Nat} (h : CondAt w b c ha hl hc ga gl gc) : w.cell? ⟨b, 6, none⟩ = some (.int .i64 c.hyp.op) ∧ w.cell? ⟨b, 6 + 1, none⟩ = some (.int .i64 c.hyp.wd) ∧ w.cell? ⟨b, 6 + 2, none⟩ = some (.int .i64 c.hyp.n) ∧ w.cell? ⟨b, 6 + 3, none⟩ = some (.slice ha hl hc) := by
  unfold CondAt at h; simp [World.cell?, h, condCells]
theorem CondAt.goal {w : World} {b : Nat} {c : CondS} {ha : Option Addr} {hl hc : Nat} {ga : Option Addr} {gl gc : Nat} (h : CondAt w b c ha hl hc ga gl gc) : w.cell? ⟨b, 10, none⟩ = some (.int .i64 c.goal.op) ∧ w.cell? ⟨b, 10 + 1, none⟩ = some (.int .i64 c.goal.wd) ∧ w.cell? ⟨b, 10 + 2, none⟩ = some (.int .i64 c.goal.n) ∧ w.cell? ⟨b, 10 + 3, none⟩ = some (.slice ga gl gc) := by
  unfold CondAt at h; simp [World.cell?, h, condCells]
theorem CondAt.id {w : World} {b : Nat} {c : CondS} {ha : Option Addr} {hl hc : Nat} {ga : Option Addr} {gl gc : Nat} (h : CondAt w b c ha hl hc ga gl gc) : w.cell? ⟨b, 0, none⟩ = some (.string ⟨c.id.toArray⟩) := by
  unfold CondAt at h; simp [World.cell?, h, condCells]
/-- Its digest. -/
def digE (a b : E) : List UInt8 := if a.textTop = [] ∨ b.textTop = [] then [] else digestS (a.textTop ++ 10 :: b.textTop)
set_option maxHeartbeats 4000000 in
set_option maxRecDepth 100000 in
theorem Digest_any (c : CondS) (v : Value) (w : World) (hv : CondV w v c) (h1 : c.hyp.textTop.length ≤ 1000000) (h2 : c.goal.textTop.length ≤ 1000000) (hM : Masks w) (hN : Names w) (hP : Pow10 w) (hT : DeB w) :
    Calls Tryd.prog 17 #[v] w fun r w' => r = .returned (.string ⟨(digE c.hyp c.goal).toArray⟩) ∧ Ext w w' := by
  obtain ⟨ha, hl, hc, ga, gl, gc, rfl, he1, he2⟩ := hv
  have HA := Lib.hid he1; have HB := Lib.hid he2; have HM := Lib.hid hM; have HN := Lib.hid hN; have HP := Lib.hid hP; have HT := Lib.hid hT
  clear he1 he2 hM hN hP hT
  obtain ⟨t1, ht1⟩ : ∃ t1, t1 = c.hyp.textTop := ⟨_, rfl⟩
  obtain ⟨t2, ht2⟩ : ∃ t2, t2 = c.goal.textTop := ⟨_, rfl⟩
  unfold digE
  rw [← ht1] at h1 ⊢
  rw [← ht2] at h2 ⊢
  have HT1 := Lib.hid ht1; have HT2 := Lib.hid ht2
  clear ht1 ht2
  unfold condCells
  go_enter Tryd.func17, Tryd.ntmps17
  go_upto_region 1 with fail
  obtain ⟨W, hW⟩ : ∃ W, W = w.alloc (.cells (condCells c ha hl hc ga gl gc) 45) := ⟨_, rfl⟩
  have hX : Ext w W := by rw [hW]; exact (Ext.refl _).alloc _
  have hat : CondAt W w.heap.size c ha hl hc ga gl gc := by rw [hW]; exact heap_new _ _
  have hW2 : w.alloc (.cells #[.string ⟨c.id.toArray⟩, .int .i64 c.k1, .int .i64 c.k2, .int .i64 c.k3, .int .i64 c.k4, .int .i64 c.k5, .int .i64 c.hyp.op, .int .i64 c.hyp.wd, .int .i64 c.hyp.n, .slice ha hl hc, .int .i64 c.goal.op, .int .i64 c.goal.wd, .int .i64 c.goal.n, .slice ga gl gc] 45) = W := hW.symm
  rw [hW2]
  clear hW hW2
  have HX := Lib.hid hX; have HC := Lib.hid hat
  obtain ⟨⟨q0, q1, q2, q3⟩, p0, p1, p2, p3⟩ := And.intro hat.hyp hat.goal
  replace HA := Lib.hid (HA.out.ext hX); replace HB := Lib.hid (HB.out.ext hX); replace HM := Lib.hid (HM.out.ext hX); replace HN := Lib.hid (HN.out.ext hX); replace HP := Lib.hid (HP.out.ext hX); replace HT := Lib.hid (HT.out.ext hX)
  clear hX hat
  generalize w.heap.size = b at *
  have HX0 := Lib.hid ((Ext.refl W).drew)
  go_region_held3 (fun w' => (w'.cell? ⟨b, 6, none⟩ = some (.int .i64 c.hyp.op) ∧ w'.cell? ⟨b, 6 + 1, none⟩ = some (.int .i64 c.hyp.wd) ∧ w'.cell? ⟨b, 6 + 2, none⟩ = some (.int .i64 c.hyp.n) ∧ w'.cell? ⟨b, 6 + 3, none⟩ = some (.slice ha hl hc)) ∧ w'.cell? ⟨b, 10, none⟩ = some (.int .i64 c.goal.op) ∧ w'.cell? ⟨b, 10 + 1, none⟩ = some (.int .i64 c.goal.wd) ∧ w'.cell? ⟨b, 10 + 2, none⟩ = some (.int .i64 c.goal.n) ∧ w'.cell? ⟨b, 10 + 3, none⟩ = some (.slice ga gl gc))
    (first | exact ⟨⟨q0, q1, q2, q3⟩, p0, p1, p2, p3⟩ | (with_reducible exact hk2) | (with_reducible exact hk1) | fail)
    ((first
      | (have hgo := HX1.out; clear hgo; go_at_call 21; refine (Text_any c.goal _ _ (HB.out.ext HX1.out) (HM.out.ext HX1.out) (HN.out.ext HX1.out) (HP.out.ext HX1.out)).mono ?_; rintro r w2 ⟨rfl, x2⟩; rw [← HT2.out]; have HX2 := Lib.hid (HX1.out.trans x2); have hk2 := And.intro (HC.out.ext HX2.out).hyp (HC.out.ext HX2.out).goal; clear x2)
      | (go_at_call 21; refine (Text_any c.hyp _ _ (HA.out.ext HX0.out) (HM.out.ext HX0.out) (HN.out.ext HX0.out) (HP.out.ext HX0.out)).mono ?_; rintro r w1 ⟨rfl, x1⟩; rw [← HT1.out]; have HX1 := Lib.hid (HX0.out.trans x1); have hk1 := And.intro (HC.out.ext HX1.out).hyp (HC.out.ext HX1.out).goal; clear x1)))
  have HXE := Lib.hid (HX.out.trans HX2.out)
  have HTE := Lib.hid (HT.out.ext HX2.out)
  clear HX HX0 HX1 HX2 HA HB HM HN HP HT HC hk2 q0 q1 q2 q3 p0 p1 p2 p3
  by_cases e1 : t1 = []
  · subst e1
    go_wp2_with fail
    go_ret
    exact ⟨rfl, HXE.out⟩
  by_cases e2 : t2 = []
  · subst e2
    go_wp2_with fail
    go_ret
    exact ⟨rfl, HXE.out⟩
  have g1 : t1.isEmpty = false := by cases t1 with | nil => exact absurd rfl e1 | cons _ _ => rfl
  have g2 : t2.isEmpty = false := by cases t2 with | nil => exact absurd rfl e2 | cons _ _ => rfl
  have f1 : ¬ (9223372036854775807 < t1.length + 1) := by omega
  have f2 : ¬ (9223372036854775807 < t1.length + 1 + t2.length) := by omega
  have HC := Lib.hid (digest_any (t1 ++ 10 :: t2) w2 (by simp; omega) HTE.out)
  have HI : Hid ((⟨t1.toArray⟩ ++ ⟨#[10]⟩ ++ ⟨t2.toArray⟩ : ByteArray) = ⟨(t1 ++ 10 :: t2).toArray⟩) := by
    unfold Hid; rw [show (⟨#[10]⟩ : ByteArray) = ⟨[10].toArray⟩ from rfl, ByteArray.mk_append_mk, ByteArray.mk_append_mk, List.append_assoc]; rfl
  go_wp2_with (rw [HI.out]; refine HC.out.mono ?_; rintro e w' ⟨rfl, hX⟩)
  all_goals
    go_ret
    exact ⟨by first | rfl | (rw [if_neg (fun h => h.elim e1 e2)]; rfl), HXE.out.trans hX⟩
end Go.Proofs.YtoopoljchhdobaaDoor
