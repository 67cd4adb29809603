/-
  The walks of certificate.digest, Digest and Matches.
  Steps and formulas in memory; the walk of proof.Valid.
  The plain laws of ProofJustified, ProofPrefixes and ProofLiterals. No program in sight.
  The walks of the reference's Ints and Var, of law25's has, ranged and clause.
-/
import Derived.Test.YtoopoljchhdobaaGreatDoorMMb
import Derived.Test.YtoopoljchhdobaaGreatDoorMMg
import Derived.Laws.Bits64
import Derived.Test.YtoopoljchhdobaaGreatDoorMMa
import Derived.Test.YtoopoljchhdobaaGreatDoorShelf
import Derived.BigQuiet
namespace Go.Proofs.YtoopoljchhdobaaGreatDoor
open Go.RowKit

theorem fnv_bits {h : Nat} (hh : h < 18446744073709551616) (b : UInt8) : IntKind.u64.wrap (bits .xor .u64 (h : Int) (b.toNat : Int) * 1099511628211) = ((fnvStep h b : Nat) : Int) := by
  rw [bits_xor_u64_nat h b.toNat hh (by have := b.toNat_lt; omega), IntKind.wrap_u64]
  unfold fnvStep
  rw [Int.natCast_emod, Int.natCast_mul]
  rfl
theorem bits_xor_lt {h : Nat} (hh : h < 18446744073709551616) (b : UInt8) : bits .xor .u64 (h : Int) (b.toNat : Int) = ((h ^^^ b.toNat : Nat) : Int) := bits_xor_u64_nat h b.toNat hh (by have := b.toNat_lt; omega)
theorem fnv_take (l : List UInt8) (k : Nat) (h : k < l.length) : fnvN (l.take (k + 1)) = fnvStep (fnvN (l.take k)) l[k] := by
  rw [List.take_succ_eq_append_getElem h, fnvN_snoc]

set_option maxHeartbeats 1000000 in
theorem digest_any (l : List UInt8) (w : World) (hl : l.length ≤ 1000000000) (hT : DeB w) :
    Calls Tryz.prog 17 #[.string ⟨l.toArray⟩] w fun e w' => e = .returned (.string ⟨(digestS l).toArray⟩) ∧ Ext w w' := by
  have HT := Lib.hid hT; have HLN := Lib.hid hl; clear hT
  go_enter Tryz.func17, Tryz.ntmps17
  go_wp2_with fail
  go_loopw [3, 8] (fun h i wr => wr = w ∧ ∃ k : Nat, k ≤ l.length ∧ i = .int .i64 k ∧ h = .int .u64 (fnvN (l.take k) : Nat)) (fun _ i _ => l.length - (intOf i).toNat)
  case atStart => exact ⟨rfl, 0, Nat.zero_le _, rfl, rfl⟩
  case round =>
    obtain ⟨rfl, k, hk, rfl, rfl⟩ := hrel
    have HF := Lib.hid (fnvN_lt (l.take k))
    by_cases hlt : k < l.length
    · have HS := Lib.hid (fnv_take l k hlt)
      have HB := Lib.hid (fnv_bits HF.out l[k])
      have j1 : (k : Int) < (l.length : Int) := by omega
      generalize hf : fnvN (l.take k) = f at *
      have HG := Lib.hid hf; clear hf
      go_wp2_with fail
      have e9 : IntKind.u64.wrap (((⟨l.toArray⟩ : ByteArray)[k]).toNat : Int) = (l[k].toNat : Int) := by
        show IntKind.u64.wrap ((l[k].toNat : Nat) : Int) = _
        have := l[k].toNat_lt
        rw [IntKind.wrap_u64]; omega
      refine ⟨⟨trivial, k + 1, by omega, by go_num, ?_⟩, by simp [intOf]; omega⟩
      rw [e9, HB.out, HS.out]
    · have e1 : l.take k = l := List.take_of_length_le (by omega)
      rw [e1] at HF ⊢
      obtain ⟨c, hc⟩ : ∃ c, c = 16 - (hexMin (fnvN l)).length := ⟨_, rfl⟩
      obtain ⟨hp1, hp2⟩ := digest_pad l
      have HC := Lib.hid (Format_any (fnvN l) wr HF.out HT.out)
      have HP := Lib.hid hp2
      rw [← hc] at HP
      generalize hexMin (fnvN l) = d at *
      have e2 : IntKind.i64.wrap (16 - (d.length : Int)) = (c : Int) := by rw [IntKind.wrap_i64]; omega
      have c16 : c ≤ 16 := by omega
      obtain ⟨z, hz⟩ : ∃ z, z = Lib.repeatL [48] c := ⟨_, rfl⟩
      have HR : Hid (∀ w1, Calls Tryz.prog 41 #[.string ⟨#[48]⟩, .int .i64 c] w1 fun e w' => e = .returned (.string ⟨z.toArray⟩) ∧ Below w1.heap.size w1 w') := fun w1 => by
        rw [hz]
        exact Tryz.strings_Repeat ⟨#[48]⟩ c w1 (by omega) (by show 1 * c ≤ _; omega)
      have HZ : Hid (z = List.replicate c 48) := by
        unfold Hid
        rw [hz]
        clear hz HR e2 c16 hc HP
        induction c with
        | zero => rfl
        | succ c ih => rw [Lib.repeatL, ih, List.replicate_succ]; rfl
      have f1 : ¬ (9223372036854775807 < z.length + d.length) := by rw [HZ.out]; simp; omega
      have HD := Lib.hid hc; clear hc hp1 hp2 hz
      go_wp2_with (first
        | (refine HC.out.mono ?_; rintro e w' ⟨rfl, hX⟩; have HX := Lib.hid hX; clear hX)
        | (refine (HR.out _).mono ?_; rintro e w2 ⟨rfl, hX2⟩; have HX2 := Lib.hid hX2; clear hX2))
      go_ret
      rw [ByteArray.mk_append_mk, HZ.out, HP.out]
      exact ⟨rfl, HX.out.trans HX2.out⟩

/-- A condition; in memory, by value. -/
structure CondS where
  id : List UInt8
  k1 : Int
  k2 : Int
  k3 : Int
  k4 : Int
  k5 : Int
  hyp : E
  goal : E
def condCells (c : CondS) (ha : Option Addr) (hl hc : Nat) (ga : Option Addr) (gl gc : Nat) : Array Value :=
  #[.string ⟨c.id.toArray⟩, .int .i64 c.k1, .int .i64 c.k2, .int .i64 c.k3, .int .i64 c.k4, .int .i64 c.k5, .int .i64 c.hyp.op, .int .i64 c.hyp.wd, .int .i64 c.hyp.n, .slice ha hl hc, .int .i64 c.goal.op, .int .i64 c.goal.wd, .int .i64 c.goal.n, .slice ga gl gc]
def CondV (w : World) (v : Value) (c : CondS) : Prop := ∃ ha hl hc ga gl gc, v = .agg (condCells c ha hl hc ga gl gc) ∧
  EVal w (.agg #[.int .i64 c.hyp.op, .int .i64 c.hyp.wd, .int .i64 c.hyp.n, .slice ha hl hc]) c.hyp ∧ EVal w (.agg #[.int .i64 c.goal.op, .int .i64 c.goal.wd, .int .i64 c.goal.n, .slice ga gl gc]) c.goal
theorem CondV.ext {w w' : World} {v : Value} {c : CondS} (h : CondV w v c) (he : Ext w w') : CondV w' v c := by
  obtain ⟨ha, hl, hc, ga, gl, gc, e, h1, h2⟩ := h
  exact ⟨ha, hl, hc, ga, gl, gc, e, h1.ext he, h2.ext he⟩
/-- A condition in a block. -/
def CondAt (w : World) (b : Nat) (c : CondS) (ha : Option Addr) (hl hc : Nat) (ga : Option Addr) (gl gc : Nat) : Prop := w.heap[b]? = some (.cells (condCells c ha hl hc ga gl gc) 26 (0, 0))
theorem CondAt.ext {w w' : World} {b : Nat} {c : CondS} {ha : Option Addr} {hl hc : Nat} {ga : Option Addr} {gl gc : Nat} (h : CondAt w b c ha hl hc ga gl gc) (hx : Ext w w') : CondAt w' b c ha hl hc ga gl gc := (hx.block b (Array.getElem?_eq_some_iff.1 h).1).trans h
theorem CondAt.hyp {w : World} {b : Nat} {c : CondS} {ha : Option Addr} {hl hc : Nat} {ga : Option Addr} {gl gc : Nat} (h : CondAt w b c ha hl hc ga gl gc) : w.cell? ⟨b, 6, none⟩ = some (.int .i64 c.hyp.op) ∧ w.cell? ⟨b, 6 + 1, none⟩ = some (.int .i64 c.hyp.wd) ∧ w.cell? ⟨b, 6 + 2, none⟩ = some (.int .i64 c.hyp.n) ∧ w.cell? ⟨b, 6 + 3, none⟩ = some (.slice ha hl hc) := by
  unfold CondAt at h; simp [World.cell?, h, condCells]
theorem CondAt.goal {w : World} {b : Nat} {c : CondS} {ha : Option Addr} {hl hc : Nat} {ga : Option Addr} {gl gc : Nat} (h : CondAt w b c ha hl hc ga gl gc) : w.cell? ⟨b, 10, none⟩ = some (.int .i64 c.goal.op) ∧ w.cell? ⟨b, 10 + 1, none⟩ = some (.int .i64 c.goal.wd) ∧ w.cell? ⟨b, 10 + 2, none⟩ = some (.int .i64 c.goal.n) ∧ w.cell? ⟨b, 10 + 3, none⟩ = some (.slice ga gl gc) := by
  unfold CondAt at h; simp [World.cell?, h, condCells]
theorem CondAt.id {w : World} {b : Nat} {c : CondS} {ha : Option Addr} {hl hc : Nat} {ga : Option Addr} {gl gc : Nat} (h : CondAt w b c ha hl hc ga gl gc) : w.cell? ⟨b, 0, none⟩ = some (.string ⟨c.id.toArray⟩) := by
  unfold CondAt at h; simp [World.cell?, h, condCells]
/-- Its digest. -/
def digE (a b : E) : List UInt8 := if a.textTop = [] ∨ b.textTop = [] then [] else digestS (a.textTop ++ 10 :: b.textTop)
set_option maxHeartbeats 4000000 in
set_option maxRecDepth 100000 in
theorem Digest_any (c : CondS) (v : Value) (w : World) (hv : CondV w v c) (h1 : c.hyp.textTop.length ≤ 1000000) (h2 : c.goal.textTop.length ≤ 1000000) (hM : Masks w) (hN : Names w) (hP : Pow10 w) (hT : DeB w) :
    Calls Tryz.prog 6 #[v] w fun r w' => r = .returned (.string ⟨(digE c.hyp c.goal).toArray⟩) ∧ Ext w w' := by
  obtain ⟨ha, hl, hc, ga, gl, gc, rfl, he1, he2⟩ := hv
  have HA := Lib.hid he1; have HB := Lib.hid he2; have HM := Lib.hid hM; have HN := Lib.hid hN; have HP := Lib.hid hP; have HT := Lib.hid hT
  clear he1 he2 hM hN hP hT
  obtain ⟨t1, ht1⟩ : ∃ t1, t1 = c.hyp.textTop := ⟨_, rfl⟩
  obtain ⟨t2, ht2⟩ : ∃ t2, t2 = c.goal.textTop := ⟨_, rfl⟩
  unfold digE
  rw [← ht1] at h1 ⊢
  rw [← ht2] at h2 ⊢
  have HT1 := Lib.hid ht1; have HT2 := Lib.hid ht2
  clear ht1 ht2
  unfold condCells
  go_enter Tryz.func6, Tryz.ntmps6
  go_upto_region 1 with fail
  obtain ⟨W, hW⟩ : ∃ W, W = w.alloc (.cells (condCells c ha hl hc ga gl gc) 26) := ⟨_, rfl⟩
  have hX : Ext w W := by rw [hW]; exact (Ext.refl _).alloc _
  have hat : CondAt W w.heap.size c ha hl hc ga gl gc := by rw [hW]; exact heap_new _ _
  have hW2 : w.alloc (.cells #[.string ⟨c.id.toArray⟩, .int .i64 c.k1, .int .i64 c.k2, .int .i64 c.k3, .int .i64 c.k4, .int .i64 c.k5, .int .i64 c.hyp.op, .int .i64 c.hyp.wd, .int .i64 c.hyp.n, .slice ha hl hc, .int .i64 c.goal.op, .int .i64 c.goal.wd, .int .i64 c.goal.n, .slice ga gl gc] 26) = W := hW.symm
  rw [hW2]
  clear hW hW2
  have HX := Lib.hid hX; have HC := Lib.hid hat
  obtain ⟨⟨q0, q1, q2, q3⟩, p0, p1, p2, p3⟩ := And.intro hat.hyp hat.goal
  replace HA := Lib.hid (HA.out.ext hX); replace HB := Lib.hid (HB.out.ext hX); replace HM := Lib.hid (HM.out.ext hX); replace HN := Lib.hid (HN.out.ext hX); replace HP := Lib.hid (HP.out.ext hX); replace HT := Lib.hid (HT.out.ext hX)
  clear hX hat
  generalize w.heap.size = b at *
  have HX0 := Lib.hid ((Ext.refl W).drew)
  go_region_held3 (fun w' => (w'.cell? ⟨b, 6, none⟩ = some (.int .i64 c.hyp.op) ∧ w'.cell? ⟨b, 6 + 1, none⟩ = some (.int .i64 c.hyp.wd) ∧ w'.cell? ⟨b, 6 + 2, none⟩ = some (.int .i64 c.hyp.n) ∧ w'.cell? ⟨b, 6 + 3, none⟩ = some (.slice ha hl hc)) ∧ w'.cell? ⟨b, 10, none⟩ = some (.int .i64 c.goal.op) ∧ w'.cell? ⟨b, 10 + 1, none⟩ = some (.int .i64 c.goal.wd) ∧ w'.cell? ⟨b, 10 + 2, none⟩ = some (.int .i64 c.goal.n) ∧ w'.cell? ⟨b, 10 + 3, none⟩ = some (.slice ga gl gc))
    (first | exact ⟨⟨q0, q1, q2, q3⟩, p0, p1, p2, p3⟩ | (with_reducible exact hk2) | (with_reducible exact hk1) | fail)
    ((first
      | (have hgo := HX1.out; clear hgo; go_at_call 8; refine (Text_any c.goal _ _ (HB.out.ext HX1.out) (HM.out.ext HX1.out) (HN.out.ext HX1.out) (HP.out.ext HX1.out)).mono ?_; rintro r w2 ⟨rfl, x2⟩; rw [← HT2.out]; have HX2 := Lib.hid (HX1.out.trans x2); have hk2 := And.intro (HC.out.ext HX2.out).hyp (HC.out.ext HX2.out).goal; clear x2)
      | (go_at_call 8; refine (Text_any c.hyp _ _ (HA.out.ext HX0.out) (HM.out.ext HX0.out) (HN.out.ext HX0.out) (HP.out.ext HX0.out)).mono ?_; rintro r w1 ⟨rfl, x1⟩; rw [← HT1.out]; have HX1 := Lib.hid (HX0.out.trans x1); have hk1 := And.intro (HC.out.ext HX1.out).hyp (HC.out.ext HX1.out).goal; clear x1)))
  have HXE := Lib.hid (HX.out.trans HX2.out)
  have HTE := Lib.hid (HT.out.ext HX2.out)
  clear HX HX0 HX1 HX2 HA HB HM HN HP HT HC hk2 q0 q1 q2 q3 p0 p1 p2 p3
  by_cases e1 : t1 = []
  · subst e1
    go_wp2_with fail
    go_ret
    exact ⟨rfl, HXE.out⟩
  by_cases e2 : t2 = []
  · subst e2
    go_wp2_with fail
    go_ret
    exact ⟨rfl, HXE.out⟩
  have g1 : t1.isEmpty = false := by cases t1 with | nil => exact absurd rfl e1 | cons _ _ => rfl
  have g2 : t2.isEmpty = false := by cases t2 with | nil => exact absurd rfl e2 | cons _ _ => rfl
  have f1 : ¬ (9223372036854775807 < t1.length + 1) := by omega
  have f2 : ¬ (9223372036854775807 < t1.length + 1 + t2.length) := by omega
  have HC := Lib.hid (digest_any (t1 ++ 10 :: t2) w2 (by simp; omega) HTE.out)
  have HI : Hid ((⟨t1.toArray⟩ ++ ⟨#[10]⟩ ++ ⟨t2.toArray⟩ : ByteArray) = ⟨(t1 ++ 10 :: t2).toArray⟩) := by
    unfold Hid; rw [show (⟨#[10]⟩ : ByteArray) = ⟨[10].toArray⟩ from rfl, ByteArray.mk_append_mk, ByteArray.mk_append_mk, List.append_assoc]; rfl
  go_wp2_with (rw [HI.out]; refine HC.out.mono ?_; rintro e w' ⟨rfl, hX⟩)
  all_goals
    go_ret
    exact ⟨by first | rfl | (rw [if_neg (fun h => h.elim e1 e2)]; rfl), HXE.out.trans hX⟩
end Go.Proofs.YtoopoljchhdobaaGreatDoor
namespace Go.Proofs.YtoopoljchhdobaaGreatDoor
open Go.RowKit

def ListAt (w : World) (b o : Nat) (l : List Int) : Prop := ∃ v, w.cell? ⟨b, o, none⟩ = some v ∧ Ints w v l
theorem ListAt.keeps : Keeps ListAt := fun _ _ _ _ _ he ⟨v, h1, h2⟩ => ⟨v, he.cell h1, h2.ext he⟩
def Lists (w : World) (v : Value) (ll : List (List Int)) : Prop := SliceAt 1 ListAt w v ll
theorem Lists.ext {w w' : World} {v : Value} {l : List (List Int)} (h : Lists w v l) (he : Ext w w') : Lists w' v l := SliceAt.ext ListAt.keeps h he
def StAt (w : World) (b o : Nat) (s : St) : Prop := ∃ v1 v2, w.cell? ⟨b, o, none⟩ = some v1 ∧ w.cell? ⟨b, o + 1, none⟩ = some v2 ∧ Ints w v1 s.lits ∧ Ints w v2 s.hints
theorem StAt.keeps : Keeps StAt := fun _ _ _ _ _ he ⟨v1, v2, h1, h2, h3, h4⟩ => ⟨v1, v2, he.cell h1, he.cell h2, h3.ext he, h4.ext he⟩
def Steps (w : World) (v : Value) (l : List St) : Prop := SliceAt 2 StAt w v l
theorem Steps.ext {w w' : World} {v : Value} {l : List St} (h : Steps w v l) (he : Ext w w') : Steps w' v l := SliceAt.ext StAt.keeps h he
def CnfV (w : World) (v : Value) (vars : Int) (cl : List (List Int)) : Prop := ∃ vc, v = .agg #[.int .i64 vars, vc] ∧ Lists w vc cl
theorem CnfV.ext {w w' : World} {v : Value} {vars : Int} {cl : List (List Int)} (h : CnfV w v vars cl) (he : Ext w w') : CnfV w' v vars cl := by
  obtain ⟨vc, e, h2⟩ := h; exact ⟨vc, e, h2.ext he⟩
theorem CnfV.shape {w : World} {v : Value} {vars : Int} {cl : List (List Int)} (h : CnfV w v vars cl) : ∃ a c, v = .agg #[.int .i64 vars, .slice a cl.length c] ∧ Lists w (.slice a cl.length c) cl := by
  obtain ⟨vc, e, h2⟩ := h
  obtain ⟨a, c, rfl⟩ := SliceAt.shape h2
  exact ⟨a, c, e, h2⟩
/-- A step of a slice of steps, its two slices written out. -/
theorem Steps.at {w : World} {a : Option Addr} {n c : Nat} {l : List St} (h : Steps w (.slice a n c) l) {k : Nat} (hk : k < l.length) : ∃ b o a1 c1 a2 c2, a = some ⟨b, o, none⟩ ∧ w.cell? ⟨b, o + k * 2, none⟩ = some (.slice a1 l[k].lits.length c1) ∧ w.cell? ⟨b, o + k * 2 + 1, none⟩ = some (.slice a2 l[k].hints.length c2) ∧
    Ints w (.slice a1 l[k].lits.length c1) l[k].lits ∧ Ints w (.slice a2 l[k].hints.length c2) l[k].hints := by
  rcases h with ⟨_, e⟩ | ⟨b, o, cap, e, _, hc⟩
  · subst e; simp at hk
  · cases e
    obtain ⟨v1, v2, h1, h2, h3, h4⟩ := hc k hk
    obtain ⟨a1, c1, rfl⟩ := h3.shape
    obtain ⟨a2, c2, rfl⟩ := h4.shape
    exact ⟨b, o, a1, c1, a2, c2, rfl, h1, h2, h3, h4⟩
/-- A small formula and refutation, its numbers in the range of int. -/
structure Tame (vars : Int) (cl : List (List Int)) (l : List St) : Prop where
  vars : InI vars
  cl : cl.length ≤ 100000
  len : l.length ≤ 100000
  lits : ∀ s ∈ l, s.lits.length ≤ 100000 ∧ ∀ x ∈ s.lits, InI x
  hints : ∀ s ∈ l, s.hints.length ≤ 100000
def okTo (vars : Int) (n : Nat) (l : List St) (k : Nat) : Prop := ∀ j, j < k → litsOk vars (l.getD j st0).lits = true ∧ hintsOk ((n : Int) + j) (l.getD j st0).hints = true
theorem valid_no {vars : Int} {n : Nat} {l : List St} {k : Nat} (hk : k < l.length) (h : litsOk vars (l.getD k st0).lits = false ∨ hintsOk ((n : Int) + k) (l.getD k st0).hints = false) : validP vars n l = false := by
  rw [Bool.eq_false_iff]
  intro c
  unfold validP at c
  rw [Bool.and_eq_true, List.all_eq_true] at c
  have := c.2 k (List.mem_range.2 hk)
  rw [Bool.and_eq_true] at this
  rcases h with h | h
  · rw [h] at this; simp at this
  · rw [h] at this; simp at this
theorem valid_yes {vars : Int} {n : Nat} {l : List St} (hl : l.length ≤ 20000) (h : okTo vars n l l.length) : validP vars n l = true := by
  unfold validP
  rw [Bool.and_eq_true, decide_eq_true_eq, List.all_eq_true]
  refine ⟨hl, fun k hk => ?_⟩
  have := h k (List.mem_range.1 hk)
  rw [this.1, this.2]; rfl
end Go.Proofs.YtoopoljchhdobaaGreatDoor
namespace Go.Proofs.YtoopoljchhdobaaGreatDoor
open Go.RowKit

/-- The clause with a number. -/
def clauseS (cl : List (List Int)) (l : List St) (h : Int) : List Int := if h < (cl.length : Int) then cl.getD h.toNat [] else (l.getD (h - (cl.length : Int)).toNat st0).lits
def openL (held : List Int) : List Int → List Int → List Int
  | [], o => o
  | x :: r, o => openL held r (if ¬ (wrap64 (-x) ∈ held) ∧ ¬ (x ∈ o) then o ++ [x] else o)
def justF (held : List Int) : List (List Int) → Bool
  | [] => false
  | c :: r => if (openL held c []).length = 0 then decide (r = []) else if 1 < (openL held c []).length ∨ (openL held c []).getD 0 0 ∈ held then false else justF (held ++ [(openL held c []).getD 0 0]) r
def jsP (cl : List (List Int)) (l : List St) (k : Nat) : Bool := justF ((l.getD k st0).lits.map fun x => wrap64 (-x)) ((l.getD k st0).hints.map (clauseS cl l))
theorem js_trim {vars : Int} {cl : List (List Int)} {l : List St} (hv : ValidP vars cl.length l) {i : Nat} (hi : Need cl.length l i) : jsP cl (trimL cl.length l) (rankN cl.length l i) = jsP cl l i := by
  unfold jsP
  rw [trim_at hi]
  unfold stepN
  dsimp only
  rw [List.map_map]
  congr 1
  refine List.map_congr_left fun h hh => ?_
  have hb := hv.hints i hi.lt h hh
  show clauseS cl (trimL cl.length l) (renN cl.length l h) = clauseS cl l h
  by_cases c : h < (cl.length : Int)
  · unfold renN; rw [if_pos c]; unfold clauseS; rw [if_pos c, if_pos c]
  · obtain ⟨j, hj, hji, hnj, er⟩ := hint_need hv hi hh (by omega)
    rw [er]
    unfold clauseS
    rw [if_neg (by omega), if_neg c, show (((cl.length + rankN cl.length l j : Nat) : Int) - (cl.length : Int)).toNat = rankN cl.length l j by omega, trim_at hnj, hj, show (((cl.length + j : Nat) : Int) - (cl.length : Int)).toNat = j by omega]
    rfl
theorem all_trim {vars : Int} {cl : List (List Int)} {l : List St} (hv : ValidP vars cl.length l) (h : ∀ k, k < l.length → jsP cl l k = true) : ∀ p, p < (trimL cl.length l).length → jsP cl (trimL cl.length l) p = true := by
  intro p hp
  rw [trim_len] at hp
  obtain ⟨i, h1, h2, h3⟩ := trim_of hp
  rw [← h3, js_trim hv h2]
  exact h i h1

/-- Two refutations with the same hints. -/
structure SameH (l m : List St) : Prop where
  len : l.length = m.length
  hints : ∀ k, (l.getD k st0).hints = (m.getD k st0).hints
theorem SameH.need {n : Nat} {l m : List St} (h : SameH l m) {k : Nat} (hk : Need n l k) : Need n m k := by
  induction hk with
  | last e => exact .last (by rw [← h.len]; exact e)
  | @hint j k _ h2 h3 ih => exact .hint ih h2 (by rw [← h.hints]; exact h3)
theorem SameH.symm {l m : List St} (h : SameH l m) : SameH m l := ⟨h.len.symm, fun k => (h.hints k).symm⟩
theorem SameH.needB {n : Nat} {l m : List St} (h : SameH l m) : needB n l = needB n m := by
  funext k
  rw [Bool.eq_iff_iff, needB_iff, needB_iff]
  exact ⟨h.need, h.symm.need⟩
theorem SameH.rank {n : Nat} {l m : List St} (h : SameH l m) : rankN n l = rankN n m := by
  funext k; unfold rankN; rw [h.needB]
theorem SameH.trim {n : Nat} {l m : List St} (h : SameH l m) : (trimL n l).map St.hints = (trimL n m).map St.hints ∧ (trimL n l).length = (trimL n m).length := by
  have hr : renN n l = renN n m := by funext x; unfold renN; rw [h.rank]
  refine ⟨?_, by rw [trim_len, trim_len, h.rank, h.len]⟩
  unfold trimL trimTo
  rw [List.map_map, List.map_map, h.needB, h.len]
  refine List.map_congr_left fun k _ => ?_
  show (stepN n l k).hints = (stepN n m k).hints
  unfold stepN
  dsimp only
  rw [h.hints, hr]
theorem SameH.lits {n : Nat} {l m : List St} (h : SameH l m) (hl : ∀ k, (l.getD k st0).lits.length = (m.getD k st0).lits.length) : (trimL n l).map (fun s => s.lits.length) = (trimL n m).map (fun s => s.lits.length) := by
  unfold trimL trimTo
  rw [List.map_map, List.map_map, h.needB, h.len]
  exact List.map_congr_left fun k _ => hl k

section
variable {n : Nat} {l : List St} {k : Nat} (hk : k < l.length)
def longL (n : Nat) (l : List St) (k : Nat) : List St := l ++ [⟨[], [((n + k : Nat) : Int)]⟩]
theorem long_old {j : Nat} (hj : j < l.length) : (longL n l k).getD j st0 = l.getD j st0 := by
  unfold longL; simp [List.getD, List.getElem?_append_left hj]
theorem long_new : (longL n l k).getD l.length st0 = ⟨[], [((n + k : Nat) : Int)]⟩ := by
  unfold longL; simp [List.getD]
theorem long_len : (longL n l k).length = l.length + 1 := by simp [longL]
theorem pre_old {j : Nat} (hj : j ≤ k) : (l.take (k + 1)).getD j st0 = l.getD j st0 := by
  simp only [List.getD_eq_getElem?_getD, List.getElem?_take]
  rw [if_pos (by omega)]
include hk
theorem pre_len : (l.take (k + 1)).length = k + 1 := by simp; omega
theorem need_long (j : Nat) : Need n (longL n l k) j ↔ j = l.length ∨ Need n (l.take (k + 1)) j := by
  constructor
  · intro h
    induction h with
    | last e => rw [long_len] at e; exact .inl (by omega)
    | @hint j i h1 h2 h3 ih =>
      right
      rcases ih with e | e
      · subst e
        rw [long_new] at h3
        simp only [List.mem_singleton] at h3
        have : i = k := by omega
        subst this
        exact .last (by rw [pre_len hk])
      · have hj : j < k + 1 := by have := e.lt; rwa [pre_len hk] at this
        rw [long_old (by omega), ← pre_old (k := k) (by omega)] at h3
        exact .hint e h2 h3
  · rintro (e | e)
    · subst e; exact .last (by rw [long_len])
    · induction e with
      | last e =>
        rw [pre_len hk] at e
        refine .hint (j := l.length) (.last (by rw [long_len])) (by omega) ?_
        rw [long_new]
        simp; omega
      | @hint j i h1 h2 h3 ih =>
        have hj : j < k + 1 := by have := h1.lt; rwa [pre_len hk] at this
        rw [pre_old (by omega), ← long_old (n := n) (k := k) (by omega)] at h3
        exact .hint ih h2 h3
theorem rank_long : ∀ {j : Nat}, j ≤ l.length → rankN n (longL n l k) j = rankN n (l.take (k + 1)) (min j (k + 1)) := by
  intro j
  induction j with
  | zero => intro _; simp [rankN]
  | succ j ih =>
    intro hj
    have h1 := ih (by omega)
    rw [rank_succ, h1]
    have hb : needB n (longL n l k) j = needB n (l.take (k + 1)) j := by
      rw [Bool.eq_iff_iff, needB_iff, needB_iff, need_long hk]
      exact ⟨fun h => h.resolve_left (by omega), .inr⟩
    rw [hb]
    by_cases c : j < k + 1
    · rw [show min (j + 1) (k + 1) = min j (k + 1) + 1 by omega, rank_succ, show min j (k + 1) = j by omega]
    · have : needB n (l.take (k + 1)) j = false := by
        rw [Bool.eq_false_iff]
        intro h
        have := (needB_iff.1 h).lt
        rw [pre_len hk] at this; omega
      rw [this, show min (j + 1) (k + 1) = min j (k + 1) by omega]; simp
/-- The trimmed refutation consists of the trimmed first steps and the appended step. -/
theorem trim_long {vars : Int} (hv : ValidP vars n l) : trimL n (longL n l k) = trimL n (l.take (k + 1)) ++ [⟨[], [((n + ((trimL n (l.take (k + 1))).length - 1) : Nat) : Int)]⟩] := by
  have hpl := pre_len hk
  have hne : l.take (k + 1) ≠ [] := fun e => by rw [e] at hpl; simp at hpl
  have hvp : ValidP vars n (l.take (k + 1)) := ⟨by rw [hpl]; have := hv.len; omega, fun j hj => by rw [hpl] at hj; rw [pre_old (by omega)]; exact hv.lits j (by omega), fun j hj => by rw [hpl] at hj; rw [pre_old (by omega)]; exact hv.hints j (by omega)⟩
  have hlen : (trimL n (longL n l k)).length = (trimL n (l.take (k + 1))).length + 1 := by
    rw [trim_len, trim_len, long_len, rank_succ, if_pos (needB_iff.2 ((need_long hk _).2 (.inl rfl))), rank_long hk (Nat.le_refl _), show min l.length (k + 1) = k + 1 by omega, hpl]
  have hrk : ∀ i, i ≤ k → rankN n (longL n l k) i = rankN n (l.take (k + 1)) i := fun i hi => by
    rw [rank_long hk (by omega), show min i (k + 1) = i by omega]
  apply List.ext_getElem (by simp [hlen])
  intro p h1 h2
  have e1 : (trimL n (longL n l k)).getD p st0 = (trimL n (longL n l k))[p] := by simp [List.getD, h1]
  rw [← e1]
  by_cases c : p < (trimL n (l.take (k + 1))).length
  · rw [List.getElem_append_left c]
    have hp := c
    rw [trim_len] at hp
    obtain ⟨i, g1, g2, g3⟩ := trim_of hp
    rw [hpl] at g1
    have hi := (need_long hk i).2 (.inr g2)
    have e2 := trim_at g2
    have e3 := trim_at hi
    rw [g3] at e2
    rw [hrk i (by omega), g3] at e3
    have e4 : (trimL n (l.take (k + 1))).getD p st0 = (trimL n (l.take (k + 1)))[p] := by simp [List.getD, c]
    rw [e3, ← e4, e2]
    unfold stepN
    rw [long_old (by omega), pre_old (by omega)]
    congr 1
    refine List.map_congr_left fun h hh => ?_
    have hb := hv.hints i (by omega) h hh
    unfold renN
    split
    · rfl
    · rw [hrk _ (by omega)]
  · have hp : p = (trimL n (l.take (k + 1))).length := by rw [hlen] at h1; omega
    subst hp
    rw [List.getElem_append_right (Nat.le_refl _)]
    simp only [Nat.sub_self, List.getElem_cons_zero]
    have hi := (need_long (n := n) hk l.length).2 (.inl rfl)
    have e3 := trim_at hi
    have hr : rankN n (longL n l k) l.length = (trimL n (l.take (k + 1))).length := by
      rw [rank_long hk (Nat.le_refl _), show min l.length (k + 1) = k + 1 by omega, trim_len, hpl]
    rw [hr] at e3
    rw [e3]
    unfold stepN
    rw [long_new]
    congr 1
    simp only [List.map_cons, List.map_nil]
    congr 1
    unfold renN
    rw [if_neg (by omega), show (((n + k : Nat) : Int) - n).toNat = k by omega, hrk k (Nat.le_refl _)]
    have := rank_last (n := n) hne
    rw [hpl] at this
    rw [trim_len, hpl]
    simp only [Nat.add_sub_cancel] at this
    congr 1; omega
end
end Go.Proofs.YtoopoljchhdobaaGreatDoor
namespace Go.Proofs.YtoopoljchhdobaaGreatDoor
open Go.RowKit

set_option maxHeartbeats 1000000 in
/-- Equal lists. -/
theorem RInts_q (l m : List Int) (vl vm : Value) (w : World) (hl : Ints w vl l) (hm : Ints w vm m) : Calls Tryz.prog 59 #[vl, vm] w fun r w' => r = .returned (.bool (decide (l = m))) ∧ ∃ q, w' = w.drewN q := by
  obtain ⟨la, lc, rfl⟩ := hl.shape
  obtain ⟨ma, mc, rfl⟩ := hm.shape
  have hlen := SliceAt.len_le hl
  have hlen2 := SliceAt.len_le hm
  have HL := Lib.hid hl; have HM := Lib.hid hm; clear hl hm
  by_cases he : l.length = m.length
  · have heb : (((l.length : Nat) : Int) != ((m.length : Nat) : Int)) = false := by rw [he]; simp
    have HEQ := Lib.hid he; clear he
    go_enter Tryz.func59, Tryz.ntmps59
    go_wp2_with fail
    go_loopw [5] (fun i wr => ∃ k : Nat, k ≤ l.length ∧ i = .int .i64 k ∧ (∃ q, wr = w.drewN q) ∧ ∀ j, j < k → l.getD j 0 = m.getD j 0) (fun i _ => l.length - (intOf i).toNat)
    case atStart => exact ⟨0, Nat.zero_le _, rfl, ⟨0, rfl⟩, fun j h => absurd h (by omega)⟩
    case round =>
      obtain ⟨k, hk, rfl, hX, hR⟩ := hrel
      obtain ⟨q, hq0⟩ := hX
      have HQ := Lib.hid hq0
      have HX : Hid (Ext w wr) := by unfold Hid; rw [hq0]; exact (Ext.refl w).drewN q
      have HR := Lib.hid hR; clear hq0 hR
      have HD : Hid (∀ m : Nat, ∃ u, wr.drewN m = w.drewN u) := fun m => ⟨q + m, by rw [HQ.out, World.drewN_drewN]⟩
      by_cases hlt : k < l.length
      · rcases HL.out with ⟨_, e⟩ | ⟨b, o, cap', e, _, hc⟩
        · rw [e] at hlt; simp at hlt
        cases e
        rcases HM.out with ⟨_, e⟩ | ⟨b2, o2, cap2, e, _, hc2⟩
        · have := HEQ.out; rw [e] at this; simp at this; rw [this] at hlt; simp at hlt
        cases e
        have hlt2 : k < m.length := by have := HEQ.out; omega
        have g0 : wr.cell? ⟨b, o + k, none⟩ = some (.int .i64 (l.getD k 0)) := by have := HX.out.cell (hc k hlt); rw [Nat.mul_one] at this; rw [this]; simp [List.getD, hlt]
        have g1 : wr.cell? ⟨b2, o2 + k, none⟩ = some (.int .i64 (m.getD k 0)) := by have := HX.out.cell (hc2 k hlt2); rw [Nat.mul_one] at this; rw [this]; simp [List.getD, hlt2]
        clear hc hc2
        have HS : Hid (l = m → l.getD k 0 = m.getD k 0) := fun h => by rw [h]
        generalize ex : l.getD k 0 = x at *
        generalize ey : m.getD k 0 = y at *
        have EX := Lib.hid ex; have EY := Lib.hid ey; clear ex ey
        have i0 : (0 : Int) ≤ (k : Int) := by omega
        have i1 : (k : Int) < (l.length : Int) := by omega
        have i2 : (k : Int) < (m.length : Int) := by omega
        cases hq : (x != y) with
        | true =>
          have HF : Hid (decide (l = m) = false) := decide_eq_false fun h => by
            have := HS.out h; rw [this] at hq; simp at hq
          clear HS
          go_upto_region 6 with fail
          go_quiet (fail)
          go_wp2_with fail
          go_ret
          exact ⟨by rw [HF.out]; rfl, HD.out _⟩
        | false =>
          have HF : Hid (x = y) := by unfold Hid; simpa using hq
          clear HS
          go_upto_region 6 with fail
          go_quiet (fail)
          go_wp2_with fail
          refine ⟨⟨k + 1, by omega, by go_num, HD.out _, fun j hj => ?_⟩, by simp [intOf]; omega⟩
          by_cases c : j = k
          · subst c; rw [EX.out, EY.out]; exact HF.out
          · exact HR.out j (by omega)
      · have HF : Hid (decide (l = m) = true) := decide_eq_true (List.ext_getElem HEQ.out fun i h1 h2 => by
          have := HR.out i (by omega)
          simpa [List.getD, h1, h2] using this)
        go_wp2_with fail
        go_ret
        exact ⟨by rw [HF.out]; rfl, q, HQ.out⟩
  · have heb : (((l.length : Nat) : Int) != ((m.length : Nat) : Int)) = true := by rw [bne_iff_ne]; omega
    have HF : Hid (decide (l = m) = false) := decide_eq_false fun h => he (by rw [h])
    go_enter Tryz.func59, Tryz.ntmps59
    go_wp2_with fail
    go_ret
    exact ⟨by rw [HF.out]; rfl, 0, rfl⟩

theorem ints_at {w : World} {a : Option Addr} {n c : Nat} {l : List Int} (h : Ints w (.slice a n c) l) (k : Nat) (hk : k < l.length) : ∃ b o, a = some ⟨b, o, none⟩ ∧ w.cell? ⟨b, o + k, none⟩ = some (.int .i64 (l.getD k 0)) := by
  rcases h with ⟨_, e⟩ | ⟨b, o, cc, e, hm, hcell⟩
  · subst e; simp at hk
  · cases e
    refine ⟨b, o, rfl, ?_⟩
    have := hcell k hk
    rw [List.getD_eq_getElem?_getD, List.getElem?_eq_getElem hk]
    simpa [IntAt] using this
def varS (x : Int) : Int := if x < 0 then wrap64 (-x) else x
end Go.Proofs.YtoopoljchhdobaaGreatDoor
