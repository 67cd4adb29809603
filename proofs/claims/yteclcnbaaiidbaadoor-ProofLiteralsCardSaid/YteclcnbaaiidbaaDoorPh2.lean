/-
  The walk of law25's head. (Printed by gen_head25b.py.)
-/
import Derived.Test.YteclcnbaaiidbaaDoorPh1
namespace Go.Proofs.YteclcnbaaiidbaaDoor
open Go.RowKit

theorem cl0_len : cl0.length = 4 := rfl
theorem l0_len : l0.length = 3 := rfl
set_option maxRecDepth 100000 in
set_option maxHeartbeats 4000000 in
theorem head_any (w : World) (hT : PTab w) :
    Calls Tryd.prog 8 #[] w fun r w' => r = .returned (.bool true) ∧ Ext w w' := by
  obtain ⟨W, hW⟩ : ∃ W, W = (((((((((((w.alloc (.cells #[.int .i64 1, .int .i64 2] 3)).alloc (.cells #[.int .i64 1, .int .i64 (-2)] 3)).alloc (.cells #[.int .i64 (-1), .int .i64 2] 3)).alloc (.cells #[.int .i64 (-1), .int .i64 (-2)] 3)).alloc (.cells #[.slice (some ⟨w.heap.size, 0, none⟩) 2 2, .slice (some ⟨w.heap.size + 1, 0, none⟩) 2 2, .slice (some ⟨w.heap.size + 1 + 1, 0, none⟩) 2 2, .slice (some ⟨w.heap.size + 1 + 1 + 1, 0, none⟩) 2 2] 33)).alloc (.cells #[.int .i64 2, .slice (some ⟨w.heap.size + 1 + 1 + 1 + 1, 0, none⟩) 4 4] 27)).alloc (.cells #[.int .i64 1] 3)).alloc (.cells #[.int .i64 0, .int .i64 1] 3)).alloc (.cells #[.int .i64 2] 3)).alloc (.cells #[.int .i64 0, .int .i64 2] 3)).alloc (.cells #[.int .i64 4, .int .i64 2, .int .i64 3] 3)).alloc (.cells #[.slice (some ⟨w.heap.size + 1 + 1 + 1 + 1 + 1 + 1, 0, none⟩) 1 1, .slice (some ⟨w.heap.size + 1 + 1 + 1 + 1 + 1 + 1 + 1, 0, none⟩) 2 2, .slice (some ⟨w.heap.size + 1 + 1 + 1 + 1 + 1 + 1 + 1 + 1, 0, none⟩) 1 1, .slice (some ⟨w.heap.size + 1 + 1 + 1 + 1 + 1 + 1 + 1 + 1 + 1, 0, none⟩) 2 2, .slice none 0 0, .slice (some ⟨w.heap.size + 1 + 1 + 1 + 1 + 1 + 1 + 1 + 1 + 1 + 1, 0, none⟩) 3 3] 35) := ⟨_, rfl⟩
  obtain ⟨x1, g0, g1, hf, hs⟩ := head_mem w W hW
  have HT := Lib.hid (hT.ext x1); have HX := Lib.hid x1; have HF := Lib.hid hf; have HS := Lib.hid hs; have HW := Lib.hid hW
  have G0 := Lib.hid g0; have G1 := Lib.hid g1
  clear hT x1 hf hs hW g0 g1
  go_enter Tryd.func8, Tryd.ntmps8
  go_upto_region 3 with fail
  rw [← HW.out]
  clear HW
  have g0 := G0.out; have g1 := G1.out
  generalize hb1 : w.heap.size + 1 + 1 + 1 + 1 + 1 = b1 at *
  generalize hb2 : w.heap.size + 1 + 1 + 1 + 1 = b2 at *
  generalize hb3 : w.heap.size + 1 + 1 + 1 + 1 + 1 + 1 + 1 + 1 + 1 + 1 + 1 = b3 at *
  clear hb1 hb2 hb3
  go_wp2_with fail
  refine (Trim_any 2 cl0 l0 _ _ W HF.out HS.out tame0).mono ?_
  rintro r w2 ⟨x2, _, hq⟩
  obtain ⟨v, rfl, ht⟩ := hq valid0
  rw [cl0_len, trim0] at ht
  obtain ⟨ta, tc, rfl⟩ := SliceAt.shape ht
  have X2 := Lib.hid x2; have T2 := Lib.hid ht
  clear x2 ht hq g0 g1
  go_wp2_with fail
  refine (Text_any l0 _ w2 (HS.out.ext X2.out) (by simp [l0, InI]) (by rw [text0]; decide) (HT.out.ext X2.out).pow).mono ?_
  rintro r w3 ⟨rfl, x3⟩
  rw [text0]
  have X3 := Lib.hid (X2.out.trans x3); have T3 := Lib.hid (T2.out.ext x3)
  clear x3
  go_wp2_with fail
  refine (Parse_any txt0 w3 (by decide) (by decide) (HT.out.ext X3.out)).mono ?_
  rintro r w4 ⟨x4, hq⟩
  rcases hq with ⟨h, _⟩ | ⟨s, v, h, rfl, ho⟩
  · rw [parse0] at h; cases h
  rw [parse0] at h
  cases h
  have hst := ho.steps
  obtain ⟨pa, pc, rfl⟩ := SliceAt.shape hst
  have X4 := Lib.hid (X3.out.trans x4); have T4 := Lib.hid (T3.out.ext x4); have P4 := Lib.hid hst
  clear x4 ho hst
  have g0 := X4.out.cell G0.out; have g1 := X4.out.cell G1.out
  obtain ⟨W5, hW5⟩ : ∃ W5, W5 = (w4.alloc (.cells #[.int .i64 4] 3)).alloc (.cells #[.slice none 0 0, .slice (some ⟨w4.heap.size, 0, none⟩) 1 1] 35) := ⟨_, rfl⟩
  obtain ⟨x5, s5⟩ := one_hint w4 W5 [4] (by decide) hW5
  have X5 := Lib.hid (X4.out.trans x5); have T5 := Lib.hid (T4.out.ext x5); have P5 := Lib.hid (P4.out.ext x5); have S5 := Lib.hid s5; have HW5 := Lib.hid hW5
  clear x5 s5 hW5
  go_wp2_with (go_at_call 15; fail)
  rw [← HW5.out]
  clear HW5
  generalize w4.heap.size = b4 at *
  refine (Trim_any 2 cl0 [⟨[], [4]⟩] _ _ W5 (HF.out.ext X5.out) S5.out tame1).mono ?_
  rintro r w6 ⟨x6, hq, _⟩
  obtain rfl := hq valid1
  have X6 := Lib.hid (X5.out.trans x6); have T6 := Lib.hid (T5.out.ext x6); have P6 := Lib.hid (P5.out.ext x6)
  clear x6 hq g0 g1 T5 P5 S5 X5 T4 P4 X4
  have g0 := X6.out.cell G0.out; have g1 := X6.out.cell G1.out
  go_wp2_with fail
  refine (Parse_any [49, 58, 32, 48, 10] w6 (by decide) (by decide) (HT.out.ext X6.out)).mono ?_
  rintro r w7 ⟨x7, hq⟩
  obtain ⟨_, rfl⟩ := hq.resolve_right (fun ⟨s, v, h, _⟩ => by rw [parse1] at h; cases h)
  have X7 := Lib.hid (X6.out.trans x7); have T7 := Lib.hid (T6.out.ext x7); have P7 := Lib.hid (P6.out.ext x7)
  clear x7 g0 g1 X6 T6 P6
  have g0 := X7.out.cell G0.out; have g1 := X7.out.cell G1.out
  have HTX : Hid ((⟨txt0.toArray⟩ : ByteArray) = ⟨#[49, 32, 58, 32, 48, 32, 49, 10, 50, 32, 58, 32, 48, 32, 50, 10, 58, 32, 52, 32, 50, 32, 51, 10]⟩) := rfl
  rw [HTX.out]
  clear HTX
  go_wp2_with fail
  refine (PValid_any 2 cl0 l0 _ _ w7 (HF.out.ext X7.out) (HS.out.ext X7.out) tame0).mono ?_
  rintro r w8 ⟨rfl, x8⟩
  rw [show validP 2 cl0.length l0 = true from valid0]
  have X8 := Lib.hid (X7.out.trans x8); have T8 := Lib.hid (T7.out.ext x8); have P8 := Lib.hid (P7.out.ext x8)
  clear x8 g0 g1 X7 T7 P7
  have g0 := X8.out.cell G0.out; have g1 := X8.out.cell G1.out
  obtain ⟨W9, hW9⟩ : ∃ W9, W9 = (w8.alloc (.cells #[.int .i64 1, .int .i64 (-1)] 3)).alloc (.cells #[.slice (some ⟨w8.heap.size, 0, none⟩) 2 2, .slice none 0 0] 35) := ⟨_, rfl⟩
  obtain ⟨x9, s9⟩ := one_lit w8 W9 [1, -1] (by decide) hW9
  have X9 := Lib.hid (X8.out.trans x9); have T9 := Lib.hid (T8.out.ext x9); have P9 := Lib.hid (P8.out.ext x9); have S9 := Lib.hid s9; have HW9 := Lib.hid hW9
  clear x9 s9 hW9 X8 T8 P8
  go_wp2_with (go_at_call 14; fail)
  rw [← HW9.out]
  clear HW9
  generalize w8.heap.size = b8 at *
  refine (PValid_any 2 cl0 [⟨[1, -1], []⟩] _ _ W9 (HF.out.ext X9.out) S9.out tame2).mono ?_
  rintro r w10 ⟨rfl, x10⟩
  rw [show validP 2 cl0.length [⟨[1, -1], []⟩] = false from valid2]
  have X10 := Lib.hid (X9.out.trans x10); have T10 := Lib.hid (T9.out.ext x10); have P10 := Lib.hid (P9.out.ext x10)
  clear x10 g0 g1 X9 T9 P9 S9
  obtain ⟨tb, to, a1, c1, a2, c2, hta, d0, d1, i1, i2⟩ := T10.out.at (k := 1) (by decide)
  rw [show [stepN 4 l0 0, stepN 4 l0 2][1] = stepN 4 l0 2 from rfl, hints0] at d1 i2
  subst hta
  obtain ⟨hb, ho, rfl, ch⟩ := ints_at i2 0 (by decide)
  clear d0 i1 i2
  have d2 : w10.cell? ⟨tb, to + 3, none⟩ = some (.slice (some ⟨hb, ho, none⟩) 3 c2) := d1
  have ch2 : w10.cell? ⟨hb, ho, none⟩ = some (.int .i64 4) := ch
  clear d1 ch
  go_wp2_with fail
  refine (RSame_any l0 l0 _ _ w10 P10.out (HS.out.ext X10.out)).mono ?_
  rintro r w11 ⟨rfl, x11⟩
  rw [same0]
  have X11 := Lib.hid (X10.out.trans x11)
  clear x11 d2 ch2 T10 P10 X10
  have g0 := X11.out.cell G0.out; have g1 := X11.out.cell G1.out
  go_wp2_with fail
  refine (Justified_any 2 cl0 l0 2 _ _ w11 (HF.out.ext X11.out) (HS.out.ext X11.out) (by decide) (by decide) (by decide) (by decide) (by decide) (by simp [l0, cl0, clauseS])).mono ?_
  rintro r w12 ⟨rfl, x12⟩
  rw [js0]
  have X12 := Lib.hid (X11.out.trans x12)
  clear x12 g0 g1 X11
  have g0 := X12.out.cell G0.out; have g1 := X12.out.cell G1.out
  obtain ⟨W13, hW13⟩ : ∃ W13, W13 = (w12.alloc (.cells #[.int .i64 0] 3)).alloc (.cells #[.slice none 0 0, .slice (some ⟨w12.heap.size, 0, none⟩) 1 1] 35) := ⟨_, rfl⟩
  obtain ⟨x13, s13⟩ := one_hint w12 W13 [0] (by decide) hW13
  have X13 := Lib.hid (X12.out.trans x13); have S13 := Lib.hid s13; have HW13 := Lib.hid hW13
  clear x13 s13 hW13 X12
  go_wp2_with (go_at_call 19; fail)
  rw [← HW13.out]
  clear HW13
  generalize w12.heap.size = b12 at *
  refine (Justified_any 2 cl0 [⟨[], [0]⟩] 0 _ _ W13 (HF.out.ext X13.out) S13.out (by decide) (by decide) (by decide) (by decide) (by decide) (by simp [cl0, clauseS])).mono ?_
  rintro r w14 ⟨rfl, x14⟩
  rw [js1]
  have X14 := Lib.hid (X13.out.trans x14)
  clear x14 g0 g1 X13 S13
  go_wp2_with fail
  go_ret
  exact ⟨rfl, HX.out.trans X14.out⟩
end Go.Proofs.YteclcnbaaiidbaaDoor
