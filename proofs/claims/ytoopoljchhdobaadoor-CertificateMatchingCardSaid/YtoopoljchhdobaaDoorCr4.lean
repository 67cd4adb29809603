/-
  The walks of the reference's Hash and of law27's small.
-/
import Derived.Test.YtoopoljchhdobaaDoorQf1
import Derived.Test.YtoopoljchhdobaaDoorDg
namespace Go.Proofs.YtoopoljchhdobaaDoor
open Go.RowKit

theorem hexLow_front : ∀ (k n : Nat), hexLow n (k + 1) = hexLow (n / 16) k ++ [hexD (n % 16)] := fun _ _ => rfl
/-- What is left of a number whose last digits were written. -/
def hexRest (n : Nat) : Nat → Nat
  | 0 => n
  | i + 1 => hexRest n i / 16
theorem hex_split : ∀ (i j n : Nat), hexLow n (j + i) = hexLow (hexRest n i) j ++ hexLow n i
  | 0, j, n => by simp [hexRest, hexLow]
  | i + 1, j, n => by
    have h1 := hex_split i (j + 1) n
    rw [show j + (i + 1) = (j + 1) + i by omega, h1, hexLow_front, hexRest]
    have h2 := hex_split i 1 n
    rw [hexLow_front, hexLow, List.nil_append] at h2
    rw [show i + 1 = 1 + i by omega, h2, List.append_assoc]
theorem hex_more (n i : Nat) : hexLow n (i + 1) = hexD (hexRest n i % 16) :: hexLow n i := by
  have h := hex_split i 1 n
  rw [hexLow_front, hexLow, List.nil_append] at h
  rw [show i + 1 = 1 + i by omega, h]; rfl
theorem hexRest_lt {n : Nat} (h : n < 18446744073709551616) : ∀ i, hexRest n i < 18446744073709551616
  | 0 => h
  | i + 1 => by have := hexRest_lt h i; rw [hexRest]; omega
theorem hex_sub {d : Nat} (h : d < 16) : (⟨#[48, 49, 50, 51, 52, 53, 54, 55, 56, 57, 97, 98, 99, 100, 101, 102]⟩ : ByteArray).extract d (d + 1) = ⟨[hexD d].toArray⟩ := by
  have : d = 0 ∨ d = 1 ∨ d = 2 ∨ d = 3 ∨ d = 4 ∨ d = 5 ∨ d = 6 ∨ d = 7 ∨ d = 8 ∨ d = 9 ∨ d = 10 ∨ d = 11 ∨ d = 12 ∨ d = 13 ∨ d = 14 ∨ d = 15 := by omega
  rcases this with rfl | rfl | rfl | rfl | rfl | rfl | rfl | rfl | rfl | rfl | rfl | rfl | rfl | rfl | rfl | rfl <;> rfl

set_option maxRecDepth 100000 in
set_option maxHeartbeats 2000000 in
theorem RHash_any (l : List UInt8) (w : World) (hl : l.length ≤ 1000000000) :
    Calls Tryd.prog 20 #[.string ⟨l.toArray⟩] w fun e w' => e = .returned (.string ⟨(digestS l).toArray⟩) ∧ w' = w := by
  have HLN := Lib.hid hl
  go_enter Tryd.func20, Tryd.ntmps20
  go_wp2_with fail
  go_loopw [3, 4] (fun h i wr => wr = w ∧ ∃ k : Nat, k ≤ l.length ∧ i = .int .i64 k ∧ h = .int .u64 (fnvN (l.take k) : Nat)) (fun _ i _ => l.length - (intOf i).toNat)
  case atStart => exact ⟨rfl, 0, Nat.zero_le _, rfl, rfl⟩
  case round =>
    obtain ⟨rfl, k, hk, rfl, rfl⟩ := hrel
    have HF := Lib.hid (fnvN_lt (l.take k))
    by_cases hlt : k < l.length
    · have HS := Lib.hid (fnv_take l k hlt)
      have HB := Lib.hid (fnv_bits HF.out l[k])
      have j1 : (k : Int) < (l.length : Int) := by omega
      generalize hf : fnvN (l.take k) = f at *
      have HG := Lib.hid hf; clear hf
      go_wp2_with fail
      have e9 : IntKind.u64.wrap (((⟨l.toArray⟩ : ByteArray)[k]).toNat : Int) = (l[k].toNat : Int) := by
        show IntKind.u64.wrap ((l[k].toNat : Nat) : Int) = _
        have := l[k].toNat_lt
        rw [IntKind.wrap_u64]; omega
      refine ⟨⟨trivial, k + 1, by omega, by go_num, ?_⟩, by simp [intOf]; omega⟩
      rw [e9, HB.out, HS.out]
    · have e1 : l.take k = l := List.take_of_length_le (by omega)
      rw [e1] at HF ⊢
      have HD : Hid (digestS l = hexLow (fnvN l) 16) := rfl
      generalize fnvN l = n at *
      clear e1
      go_wp2_with fail
      go_loopw [3, 5, 6] (fun h o i w2 => w2 = wr ∧ ∃ j : Nat, j ≤ 16 ∧ i = .int .i64 j ∧ h = .int .u64 (hexRest n j : Nat) ∧ o = .string ⟨(hexLow n j).toArray⟩) (fun _ _ i _ => 16 - (intOf i).toNat)
      case atStart => exact ⟨rfl, 0, by omega, rfl, rfl, rfl⟩
      case round =>
        obtain ⟨rfl, j, hj, rfl, rfl, rfl⟩ := hrel
        by_cases hlt2 : j < 16
        · have HM := Lib.hid (hex_more n j)
          have HR : Hid (hexRest n (j + 1) = hexRest n j / 16) := rfl
          have hrl := hexRest_lt HF.out j
          have hlen := hexLow_len j n
          generalize hexLow n j = o at *
          generalize hexRest n j = r at *
          obtain ⟨d, hd⟩ : ∃ d : Nat, r % 16 = d := ⟨_, rfl⟩
          have hd16 : d < 16 := by omega
          have hdi : (r : Int) % 16 = (d : Int) := by omega
          obtain ⟨q, hq⟩ : ∃ q : Nat, r / 16 = q := ⟨_, rfl⟩
          have hqi : (r : Int) / 16 = (q : Int) := by omega
          have qw : IntKind.u64.wrap (q : Int) = (q : Int) := by rw [IntKind.wrap_u64]; omega
          have HE := Lib.hid (hex_sub hd16)
          have d0 : (0 : Int) ≤ (d : Int) := by omega
          have d1 : (d : Int) ≤ (d : Int) + 1 := by omega
          have d2 : (d : Int) + 1 ≤ 16 := by omega
          have dw : IntKind.u64.wrap ((d : Int) + 1) = (d : Int) + 1 := by rw [IntKind.wrap_u64]; omega
          have HD1 := Lib.hid hd; have HQ1 := Lib.hid hq
          have f1 : ¬ (9223372036854775807 < 1 + o.length) := by omega
          clear hd hq hrl hd16
          go_wp2_with fail
          refine ⟨⟨trivial, j + 1, by omega, by go_num, by rw [HR.out, HQ1.out], ?_⟩, by simp [intOf]; omega⟩
          rw [HE.out, ByteArray.mk_append_mk, HM.out, HD1.out]; rfl
        · obtain rfl : j = 16 := by omega
          go_wp2_with fail
          go_ret
          rw [HD.out]; exact ⟨rfl, rfl⟩

def smallE (c : CondS) (m : Int) : Bool := decide ((c.hyp.size : Int) ≤ m) && (decide ((c.goal.size : Int) ≤ m) && decide (c.id.length ≤ 200))
set_option maxRecDepth 100000 in
set_option maxHeartbeats 2000000 in
theorem small27_any (c : CondS) (v : Value) (m : Int) (w : World) (hv : CondV w v c) (h0 : 0 ≤ m) (h1 : m ≤ 1000) :
    Calls Tryd.prog 16 #[v, .int .i64 m] w fun r w' => r = .returned (.bool (smallE c m)) ∧ Ext w w' := by
  obtain ⟨ha, hl1, hc, ga, gl, gc, rfl, he1, he2⟩ := hv
  have H1 : Hid (∀ w', Ext w w' → Calls Tryd.prog 38 #[.agg #[.int .i64 c.hyp.op, .int .i64 c.hyp.wd, .int .i64 c.hyp.n, .slice ha hl1 hc], .int .i64 m] w' fun r w2 => r = .returned (.bool (decide ((c.hyp.size : Int) ≤ m))) ∧ Ext w' w2) := fun w' he => RSmall_any c.hyp _ w' m (he1.ext he) h0 h1
  have H2 : Hid (∀ w', Ext w w' → Calls Tryd.prog 38 #[.agg #[.int .i64 c.goal.op, .int .i64 c.goal.wd, .int .i64 c.goal.n, .slice ga gl gc], .int .i64 m] w' fun r w2 => r = .returned (.bool (decide ((c.goal.size : Int) ≤ m))) ∧ Ext w' w2) := fun w' he => RSmall_any c.goal _ w' m (he2.ext he) h0 h1
  have HU : Hid (smallE c m = (decide ((c.hyp.size : Int) ≤ m) && (decide ((c.goal.size : Int) ≤ m) && decide (c.id.length ≤ 200)))) := rfl
  generalize decide ((c.hyp.size : Int) ≤ m) = b1 at *
  generalize decide ((c.goal.size : Int) ≤ m) = b2 at *
  clear he1 he2 h0 h1
  obtain ⟨W, hW⟩ : ∃ W, W = w.alloc (.cells (condCells c ha hl1 hc ga gl gc) 45) := ⟨_, rfl⟩
  have hX : Ext w W := by rw [hW]; exact (Ext.refl _).alloc _
  have hat : CondAt W w.heap.size c ha hl1 hc ga gl gc := by rw [hW]; exact heap_new _ _
  have HX := Lib.hid hX; have HC := Lib.hid hat; have HW := Lib.hid hW
  obtain ⟨⟨q0, q1, q2, q3⟩, p0, p1, p2, p3⟩ := And.intro hat.hyp hat.goal
  have i0 := hat.id
  clear hW hX hat
  unfold condCells at *
  go_enter Tryd.func16, Tryd.ntmps16
  go_upto_region 1 with fail
  rw [← HW.out]
  clear HW
  generalize w.heap.size = b at *
  cases b1 with
  | false =>
    go_wp2_with (go_at_call 38; refine (H1.out _ HX.out).mono ?_; rintro r w1 ⟨rfl, x1⟩; have HX1 := Lib.hid (HX.out.trans x1); clear x1)
    go_ret
    rw [HU.out]; exact ⟨rfl, HX1.out⟩
  | true =>
  cases b2 with
  | false =>
    go_wp2_with (first
      | (have hgo := HX1.out; clear hgo; go_at_call 38; refine (H2.out _ HX1.out).mono ?_; rintro r w2 ⟨rfl, x2⟩; have HX2 := Lib.hid (HX1.out.trans x2); clear x2)
      | (go_at_call 38; refine (H1.out _ HX.out).mono ?_; rintro r w1 ⟨rfl, x1⟩; have HX1 := Lib.hid (HX.out.trans x1); have p0 := x1.cell p0; have p1 := x1.cell p1; have p2 := x1.cell p2; have p3 := x1.cell p3; clear x1))
    go_ret
    rw [HU.out]; exact ⟨rfl, HX2.out⟩
  | true =>
    have HB : Hid (decide ((c.id.length : Int) ≤ 200) = decide (c.id.length ≤ 200)) := by unfold Hid; congr 1; apply propext; omega
    go_wp2_with (first
      | (have hgo := HX1.out; clear hgo; go_at_call 38; refine (H2.out _ HX1.out).mono ?_; rintro r w2 ⟨rfl, x2⟩; have HX2 := Lib.hid (HX1.out.trans x2); have i0 := x2.cell i0; clear x2)
      | (go_at_call 38; refine (H1.out _ HX.out).mono ?_; rintro r w1 ⟨rfl, x1⟩; have HX1 := Lib.hid (HX.out.trans x1); have i0 := x1.cell i0; have p0 := x1.cell p0; have p1 := x1.cell p1; have p2 := x1.cell p2; have p3 := x1.cell p3; clear x1))
    go_ret
    rw [HU.out, ← HB.out]; exact ⟨rfl, HX2.out⟩
end Go.Proofs.YtoopoljchhdobaaDoor
