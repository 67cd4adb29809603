/-
  The walk of law21's head.
-/
import Derived.Test.YtnkhaobokmmnjaaDoorCh1
namespace Go.Proofs.YtnkhaobokmmnjaaDoor
open Go.RowKit

/-- The blocks of head's two formulas. -/
def headObjs (w : World) : List Obj := [(.cells #[.int .i64 1, .int .i64 (-2)] 3), (.cells #[.int .i64 2] 3), (.cells #[.slice (some ⟨w.heap.size, 0, none⟩) 2 2, .slice (some ⟨w.heap.size + 1, 0, none⟩) 1 1] 30), (.cells #[.int .i64 2, .slice (some ⟨w.heap.size + 2, 0, none⟩) 2 2] 24), (.cells #[.int .i64 3, .int .i64 (-1), .int .i64 3] 3), (.cells #[.int .i64 2, .int .i64 (-2)] 3), (.cells #[.int .i64 1] 3), (.cells #[.int .i64 1] 3), (.cells #[.slice (some ⟨w.heap.size + 4, 0, none⟩) 3 3, .slice (some ⟨w.heap.size + 5, 0, none⟩) 2 2, .slice (some ⟨w.heap.size + 6, 0, none⟩) 1 1, .slice (some ⟨w.heap.size + 7, 0, none⟩) 1 1] 30), (.cells #[.int .i64 3, .slice (some ⟨w.heap.size + 8, 0, none⟩) 4 4] 24)]
theorem head_mem (w : World) : CnfV (allocs w (headObjs w)) (.agg #[.int .i64 2, .slice (some ⟨w.heap.size + 2, 0, none⟩) 2 2]) 2 hf ∧ CnfV (allocs w (headObjs w)) (.agg #[.int .i64 3, .slice (some ⟨w.heap.size + 8, 0, none⟩) 4 4]) 3 hg ∧
    (allocs w (headObjs w)).heap[w.heap.size + 3]? = some (.cells #[.int .i64 2, .slice (some ⟨w.heap.size + 2, 0, none⟩) 2 2] 24 (0, 0)) ∧ (allocs w (headObjs w)).heap[w.heap.size + 9]? = some (.cells #[.int .i64 3, .slice (some ⟨w.heap.size + 8, 0, none⟩) 4 4] 24 (0, 0)) := by
  have hb := fun i h => allocs_heap w (headObjs w) i h
  have i0 := ints_laid (l := [1, -2]) (hb 0 (by show 0 < 10; decide)) (by decide)
  have i1 := ints_laid (l := [2]) (hb 1 (by show 1 < 10; decide)) (by decide)
  have i4 := ints_laid (l := [3, -1, 3]) (hb 4 (by show 4 < 10; decide)) (by decide)
  have i5 := ints_laid (l := [2, -2]) (hb 5 (by show 5 < 10; decide)) (by decide)
  have i6 := ints_laid (l := [1]) (hb 6 (by show 6 < 10; decide)) (by decide)
  have i7 := ints_laid (l := [1]) (hb 7 (by show 7 < 10; decide)) (by decide)
  refine ⟨⟨_, rfl, lists_laid (ps := [(w.heap.size, [1, -2]), (w.heap.size + 1, [2])]) (hb 2 (by show 2 < 10; decide)) (by simp) fun p hp => ?_⟩, ⟨_, rfl, lists_laid (ps := [(w.heap.size + 4, [3, -1, 3]), (w.heap.size + 5, [2, -2]), (w.heap.size + 6, [1]), (w.heap.size + 7, [1])]) (hb 8 (by show 8 < 10; decide)) (by simp) fun p hp => ?_⟩, hb 3 (by show 3 < 10; decide), hb 9 (by show 9 < 10; decide)⟩
  · simp only [List.mem_cons, List.not_mem_nil, or_false] at hp
    rcases hp with rfl | rfl
    · exact i0
    · exact i1
  · simp only [List.mem_cons, List.not_mem_nil, or_false] at hp
    rcases hp with rfl | rfl | rfl | rfl
    · exact i4
    · exact i5
    · exact i6
    · exact i7
theorem head_chain (w : World) : (((((((((w.alloc (.cells #[.int .i64 1, .int .i64 (-2)] 3)).alloc (.cells #[.int .i64 2] 3)).alloc (.cells #[.slice (some ⟨w.heap.size, 0, none⟩) 2 2, .slice (some ⟨w.heap.size + 1, 0, none⟩) 1 1] 30)).alloc (.cells #[.int .i64 2, .slice (some ⟨w.heap.size + 1 + 1, 0, none⟩) 2 2] 24)).alloc (.cells #[.int .i64 3, .int .i64 (-1), .int .i64 3] 3)).alloc (.cells #[.int .i64 2, .int .i64 (-2)] 3)).alloc (.cells #[.int .i64 1] 3)).alloc (.cells #[.int .i64 1] 3)).alloc (.cells #[.slice (some ⟨w.heap.size + 1 + 1 + 1 + 1, 0, none⟩) 3 3, .slice (some ⟨w.heap.size + 1 + 1 + 1 + 1 + 1, 0, none⟩) 2 2, .slice (some ⟨w.heap.size + 1 + 1 + 1 + 1 + 1 + 1, 0, none⟩) 1 1, .slice (some ⟨w.heap.size + 1 + 1 + 1 + 1 + 1 + 1 + 1, 0, none⟩) 1 1] 30)).alloc (.cells #[.int .i64 3, .slice (some ⟨w.heap.size + 1 + 1 + 1 + 1 + 1 + 1 + 1 + 1, 0, none⟩) 4 4] 24) = allocs w (headObjs w) := rfl

set_option maxRecDepth 100000 in
set_option maxHeartbeats 4000000 in
theorem head_any (w : World) (hT : CTab w) :
    Calls Tryd.prog 9 #[] w fun r w' => r = .returned (.bool true) ∧ Ext w w' := by
  obtain ⟨hf1, hg1, hb3, hb9⟩ := head_mem w
  have HC := Lib.hid (head_chain w)
  have x1 := allocs_ext w (headObjs w)
  generalize allocs w (headObjs w) = W at *
  have HT := Lib.hid (hT.ext x1); have HX := Lib.hid x1; have HF := Lib.hid hf1; have HG := Lib.hid hg1; have B3 := Lib.hid hb3; have B9 := Lib.hid hb9
  clear hT x1 hf1 hg1 hb3 hb9
  go_enter Tryd.func9, Tryd.ntmps9
  go_upto_region 3 with fail
  rw [HC.out]
  clear HC
  rw [show w.heap.size + 1 + 1 + 1 + 1 + 1 + 1 + 1 + 1 + 1 = w.heap.size + 9 from rfl, show w.heap.size + 1 + 1 + 1 + 1 + 1 + 1 + 1 + 1 = w.heap.size + 8 from rfl, show w.heap.size + 1 + 1 + 1 = w.heap.size + 3 from rfl, show w.heap.size + 1 + 1 = w.heap.size + 2 from rfl]
  have g3 := CnfAt.cells B3.out
  have g9 := CnfAt.cells B9.out
  have G3 := Lib.hid g3; have G9 := Lib.hid g9
  clear g3 g9 B3 B9
  generalize hb3 : w.heap.size + 3 = b3 at *
  generalize hb9 : w.heap.size + 9 = b9 at *
  generalize hb2 : w.heap.size + 2 = b2 at *
  generalize hb8 : w.heap.size + 8 = b8 at *
  clear hb3 hb9 hb2 hb8
  go_wp2_with fail
  refine (Parse_any ht1 W (by decide) (by decide) HT.out).mono ?_
  rintro r w2 ⟨x2, hp⟩
  rw [h_parse1] at hp
  obtain ⟨vf, rfl, hvf⟩ := hp
  obtain ⟨ha, hc, rfl, hl⟩ := hvf.shape
  have HH2 := Lib.hid hvf; have X2 := Lib.hid x2
  clear x2 hvf hl
  go_upto_region 4 with fail
  have x3 : Ext w2 (w2.alloc (.cells #[.int .i64 2, .slice ha hh.length hc] 24)) := (Ext.refl _).alloc _
  have GH := Lib.hid (CnfAt.cells (heap_new w2 (.cells #[.int .i64 2, .slice ha hh.length hc] 24)))
  have X3 := Lib.hid (X2.out.trans x3); have HH3 := Lib.hid (HH2.out.ext x3)
  clear x3 X2 HH2
  generalize w2.alloc (.cells #[.int .i64 2, .slice ha hh.length hc] 24) = w3 at *
  generalize w2.heap.size = bh at *
  go_wp2_with fail
  refine (Parse_any ht2 w3 (by decide) (by decide) (HT.out.ext X3.out)).mono ?_
  rintro r w4 ⟨x4, hp⟩
  rw [h_parse2] at hp
  obtain rfl := hp
  have X4 := Lib.hid x4
  clear x4
  go_upto_region 5 with fail
  have x5 : Ext w4 (w4.alloc (.cells #[.int .i64 0, .slice none 0 0] 24)) := (Ext.refl _).alloc _
  have X5 := Lib.hid (X4.out.trans x5)
  clear x5 X4
  generalize w4.alloc (.cells #[.int .i64 0, .slice none 0 0] 24) = w5 at *
  have XW5 := Lib.hid (X3.out.trans X5.out)
  obtain ⟨p0, p1⟩ := G3.out
  replace p0 := XW5.out.cell p0; replace p1 := XW5.out.cell p1
  go_wp2_with fail
  refine (CValid_any 2 hf _ w5 (HF.out.ext XW5.out) (tame_of (by rfl))).mono ?_
  rintro r w6 ⟨rfl, x6⟩
  rw [h_valid]
  have X6 := Lib.hid (X5.out.trans x6); have XW6 := Lib.hid (XW5.out.trans x6)
  replace p0 := x6.cell p0; replace p1 := x6.cell p1
  clear x6
  go_wp2_with fail
  have y7 : Ext w6 (w6.alloc (.cells #[.bool true, .bool true] 4)) := (Ext.refl _).alloc _
  have hbl7 := bools_laid (l := [true, true]) (heap_new w6 (.cells #[.bool true, .bool true] 4)) (by decide)
  have HEV7 := Lib.hid (CEval_any 2 hf [true, true] _ _ (w6.alloc (.cells #[.bool true, .bool true] 4)) ((HF.out.ext XW6.out).ext y7) (tame_of (by rfl)) hbl7)
  refine HEV7.out.mono ?_
  rintro r w7 ⟨rfl, x7⟩
  rw [h_eval1]
  have XW7 := Lib.hid (XW6.out.trans (y7.trans x7))
  have X7 := Lib.hid (X6.out.trans (y7.trans x7))
  clear x7 hbl7 y7 HEV7 p0 p1
  obtain ⟨p0, p1⟩ := G3.out
  replace p0 := XW7.out.cell p0; replace p1 := XW7.out.cell p1
  go_wp2_with fail
  have y8 : Ext w7 (w7.alloc (.cells #[.bool false, .bool true] 4)) := (Ext.refl _).alloc _
  have hbl8 := bools_laid (l := [false, true]) (heap_new w7 (.cells #[.bool false, .bool true] 4)) (by decide)
  have HEV8 := Lib.hid (CEval_any 2 hf [false, true] _ _ (w7.alloc (.cells #[.bool false, .bool true] 4)) ((HF.out.ext XW7.out).ext y8) (tame_of (by rfl)) hbl8)
  refine HEV8.out.mono ?_
  rintro r w8 ⟨rfl, x8⟩
  rw [h_eval2]
  have XW8 := Lib.hid (XW7.out.trans (y8.trans x8))
  have X8 := Lib.hid (X7.out.trans (y8.trans x8))
  clear x8 hbl8 y8 HEV8 p0 p1
  obtain ⟨p0, p1⟩ := G9.out
  replace p0 := XW8.out.cell p0; replace p1 := XW8.out.cell p1
  go_wp2_with fail
  refine (CNormal_any 3 hg _ w8 (HG.out.ext XW8.out) (tame_of (by rfl)) h_validg).mono ?_
  rintro r w9 ⟨x9, N, u, rfl, hN, hNl, _, hNb⟩
  obtain rfl := hN.unique h_norm (fun n => Iff.rfl)
  obtain ⟨ua, uc, rfl⟩ := SliceAt.shape hNl
  have XW9 := Lib.hid (XW8.out.trans x9)
  have X9 := Lib.hid (X8.out.trans x9)
  have HN9 := Lib.hid hNl
  clear x9 hN hNl hNb p0 p1
  go_wp2_with fail
  have hb10 := fun i h => allocs_heap w9 [(.cells #[.int .i64 (-1), .int .i64 3] 3), (.cells #[.int .i64 1] 3), (.cells #[.slice (some ⟨w9.heap.size, 0, none⟩) 2 2, .slice (some ⟨w9.heap.size + 1, 0, none⟩) 1 1] 30)] i h
  have y10 := allocs_ext w9 [(.cells #[.int .i64 (-1), .int .i64 3] 3), (.cells #[.int .i64 1] 3), (.cells #[.slice (some ⟨w9.heap.size, 0, none⟩) 2 2, .slice (some ⟨w9.heap.size + 1, 0, none⟩) 1 1] 30)]
  have hl10 := lists_laid (ps := [(w9.heap.size, [-1, 3]), (w9.heap.size + 1, [1])]) (hb10 2 (by show 2 < 3; decide)) (by simp) fun p hp => by
    simp only [List.mem_cons, List.not_mem_nil, or_false] at hp
    rcases hp with rfl | rfl
    · exact ints_laid (l := [-1, 3]) (hb10 0 (by show 0 < 3; decide)) (by decide)
    · exact ints_laid (l := [1]) (hb10 1 (by show 1 < 3; decide)) (by decide)
  refine (RSame_any 3 3 hn hn _ _ (allocs w9 [(.cells #[.int .i64 (-1), .int .i64 3] 3), (.cells #[.int .i64 1] 3), (.cells #[.slice (some ⟨w9.heap.size, 0, none⟩) 2 2, .slice (some ⟨w9.heap.size + 1, 0, none⟩) 1 1] 30)]) (CnfV.ext ⟨_, rfl, HN9.out⟩ y10) ⟨_, rfl, hl10⟩ (by decide)).mono ?_
  rintro r w10 ⟨rfl, x10⟩
  rw [show (decide ((3 : Int) = 3 ∧ hn = hn)) = true from by simp]
  have XW10 := Lib.hid (XW9.out.trans (y10.trans x10))
  have X10 := Lib.hid (X9.out.trans (y10.trans x10))
  clear x10 hb10 y10 hl10
  obtain ⟨p0, p1⟩ := GH.out
  replace p0 := X10.out.cell p0; replace p1 := X10.out.cell p1
  go_wp2_with fail
  have hb11 := fun i h => allocs_heap w10 [(.cells #[.int .i64 1, .int .i64 (-2)] 3), (.cells #[] 3), (.cells #[.slice (some ⟨w10.heap.size, 0, none⟩) 2 2, .slice (some ⟨w10.heap.size + 1, 0, none⟩) 0 0] 30)] i h
  have y11 := allocs_ext w10 [(.cells #[.int .i64 1, .int .i64 (-2)] 3), (.cells #[] 3), (.cells #[.slice (some ⟨w10.heap.size, 0, none⟩) 2 2, .slice (some ⟨w10.heap.size + 1, 0, none⟩) 0 0] 30)]
  have hl11 := lists_laid (ps := [(w10.heap.size, [1, -2]), (w10.heap.size + 1, [])]) (hb11 2 (by show 2 < 3; decide)) (by simp) fun p hp => by
    simp only [List.mem_cons, List.not_mem_nil, or_false] at hp
    rcases hp with rfl | rfl
    · exact ints_laid (l := [1, -2]) (hb11 0 (by show 0 < 3; decide)) (by decide)
    · exact ints_laid (l := []) (hb11 1 (by show 1 < 3; decide)) (by decide)
  refine (RSame_any 2 2 hh hh _ _ (allocs w10 [(.cells #[.int .i64 1, .int .i64 (-2)] 3), (.cells #[] 3), (.cells #[.slice (some ⟨w10.heap.size, 0, none⟩) 2 2, .slice (some ⟨w10.heap.size + 1, 0, none⟩) 0 0] 30)]) ((HH3.out.ext X10.out).ext y11) ⟨_, rfl, hl11⟩ (by decide)).mono ?_
  rintro r w11 ⟨rfl, x11⟩
  rw [show (decide ((2 : Int) = 2 ∧ hh = hh)) = true from by simp]
  have XW11 := Lib.hid (XW10.out.trans (y11.trans x11))
  have X11 := Lib.hid (X10.out.trans (y11.trans x11))
  clear x11 hb11 y11 hl11
  clear p0 p1
  obtain ⟨p0, p1⟩ := GH.out
  replace p0 := X11.out.cell p0; replace p1 := X11.out.cell p1
  go_wp2_with fail
  refine (CText_any 2 hh _ w11 (HH3.out.ext X11.out) (tame_of (by rfl)) h_validh (by rw [h_text]; decide) (HT.out.ext XW11.out).pow).mono ?_
  rintro r w12 ⟨rfl, x12⟩
  have HTX : Hid ((⟨(textC 2 hh).toArray⟩ : ByteArray) = ⟨#[112, 32, 99, 110, 102, 32, 50, 32, 50, 10, 49, 32, 45, 50, 32, 48, 10, 48, 10]⟩) := by rw [Hid, h_text]; rfl
  rw [HTX.out]
  have XE := Lib.hid (HX.out.trans (XW11.out.trans x12))
  clear HTX x12
  go_wp2_with fail
  go_ret
  exact ⟨rfl, XE.out⟩
end Go.Proofs.YtnkhaobokmmnjaaDoor
