/-
  The walk of proof.Parse.
-/
import Derived.Test.YtoopoljchhdobaaDoorPx5
namespace Go.Proofs.YtoopoljchhdobaaDoor
open Go.RowKit

theorem cut_false {c : UInt8} {l wd r : List UInt8} (h : Lib.cut l [c] = (wd, r, false)) : wd = l := by
  rcases split_cut c l with ⟨_, _, h3⟩ | ⟨w, r', _, _, h3⟩
  · rw [h3] at h; cases h; rfl
  · rw [h3] at h; cases h
/-- What Parse gives. -/
def ParsePost (w : World) (l : List UInt8) (r : Ending) (w' : World) : Prop :=
  (parseL l = none ∧ r = .returned (.tuple #[.slice none 0 0, .int .i64 130])) ∨
  ∃ s v, parseL l = some s ∧ r = .returned (.tuple #[v, .int .i64 0]) ∧ OwnSteps w' w.heap.size v s
set_option maxRecDepth 100000 in
set_option maxHeartbeats 4000000 in
theorem Parse_any (l : List UInt8) (w : World) (hl : l.length ≤ 1000000) (hc : l.count 10 ≤ 20000) (hT : PTab w) :
    Calls Tryd.prog 13 #[.string ⟨l.toArray⟩] w fun r w' => Ext w w' ∧ ParsePost w l r w' := by
  have HT := Lib.hid hT; have HL := Lib.hid hl; have HC := Lib.hid hc
  clear hT hl
  have hc2 : ((l.count 10 : Nat) : Int) ≤ 20000 := by omega
  generalize hcn : l.count 10 = cn at *
  clear hc
  go_enter Tryd.func13, Tryd.ntmps13
  go_wp2_with fail
  refine (Count_any l 10 w).mono ?_
  rintro rr w1 ⟨rfl, rfl⟩
  rw [hcn]
  go_wp2_with fail
  go_loopw [0, 4] (fun s v wr => ∃ (t : List UInt8) (ss : List St), s = .string ⟨t.toArray⟩ ∧ t.length ≤ 1000000 ∧ ss.length + t.length ≤ l.length ∧ Ext w1 wr ∧ OwnSteps wr w1.heap.size v ss ∧ parseL l = (linesP (splitB 10 t)).map (ss ++ ·)) (fun s _ _ => match s with | .string x => x.size | _ => 0)
  case atStart => exact ⟨l, [], rfl, HL.out, by simp, Ext.refl _, OwnSteps.nil _ _, by unfold parseL; cases linesP (splitB 10 l) <;> rfl⟩
  case round =>
    obtain ⟨t, ss, rfl, htl, hcnt, hX, hO, hP⟩ := hrel
    have HTL := Lib.hid htl; have HCN := Lib.hid hcnt; have HX := Lib.hid hX; have HO := Lib.hid hO; have HP := Lib.hid hP
    clear htl hcnt hX hO hP
    by_cases ht : t = []
    · subst ht
      have HP2 : Hid (parseL l = some ss) := by unfold Hid; rw [HP.out]; simp [splitB, linesP]
      go_wp2_with fail
      go_ret2
      exact ⟨HX.out, .inr ⟨ss, _, HP2.out, rfl, HO.out⟩⟩
    · obtain ⟨wd, r, m, e1, e2, e3, e4, e5⟩ := cut_split 10 t
      have E1 := Lib.hid e1; have E2 := Lib.hid e2; have E3 := Lib.hid e3; have E4 := Lib.hid e4; have E5 := Lib.hid e5
      have hie : t.isEmpty = false := by cases t with
        | nil => exact absurd rfl ht
        | cons _ _ => rfl
      have HTN := Lib.hid ht
      cases m with
      | false =>
        have HP2 : Hid (parseL l = none) := by
          have h := cut_false e1
          unfold Hid; rw [HP.out, e2]; simp [linesP, h, ht]
        clear e1 e2 e3 e4 e5
        go_wp2_with fail
        refine (Cut_any t 10 _ HTL.out (HT.out.ext HX.out)).mono ?_
        rintro rr w2 ⟨rfl, x2⟩
        rw [E1.out]
        have HX2 := Lib.hid (HX.out.trans x2)
        clear x2
        go_wp2_with fail
        go_ret2
        exact ⟨HX2.out, .inl ⟨HP2.out, rfl⟩⟩
      | true =>
        have HR : Hid (parseL l = ((match parseStepP wd with | none => none | some s => (linesP (splitB 10 r)).map (s :: ·)) : Option (List St)).map (ss ++ ·)) := by
          unfold Hid; rw [HP.out, e2, if_pos rfl, linesP, if_neg (splitB_ne 10 r)]
          cases parseStepP wd <;> rfl
        clear e1 e2 e3 e4 e5
        go_wp2_with fail
        refine (Cut_any t 10 _ HTL.out (HT.out.ext HX.out)).mono ?_
        rintro rr w2 ⟨rfl, x2⟩
        rw [E1.out]
        have HX2 := Lib.hid (HX.out.trans x2); have HO2 := Lib.hid (HO.out.kept x2)
        clear x2
        go_wp2_with fail
        refine (parseStep_any wd _ (by have := E3.out; have := HTL.out; omega) (HT.out.ext HX2.out)).mono ?_
        rintro rr w3 ⟨x3, hq⟩
        have HX3 := Lib.hid (HX2.out.trans x3); have HO3 := Lib.hid (HO2.out.kept x3)
        rcases hq with ⟨hn, a1, n1, c1, a2, n2, c2, rfl⟩ | ⟨s, v1, v2, hs, rfl, o1, o2⟩
        · have HP2 : Hid (parseL l = none) := by unfold Hid; rw [HR.out, hn]; rfl
          clear hn x3
          go_wp2_with fail
          go_ret2
          exact ⟨HX3.out.trans ((Ext.refl _).alloc _), .inl ⟨HP2.out, rfl⟩⟩
        · have HP2 : Hid (parseL l = (linesP (splitB 10 r)).map ((ss ++ [s]) ++ ·)) := by
            unfold Hid; rw [HR.out, hs]; cases linesP (splitB 10 r) <;> simp
          have hsz := HX2.out.size
          have O1 := Lib.hid (o1.mono (base' := w1.heap.size) hsz); have O2 := Lib.hid (o2.mono (base' := w1.heap.size) hsz)
          obtain ⟨a1, c1, rfl⟩ := o1.ints.shape
          obtain ⟨a2, c2, rfl⟩ := o2.ints.shape
          clear o1 o2 hs x3 hsz
          obtain ⟨va, vc, rfl⟩ := SliceAt.shape HO3.out.steps
          have hss : ss.length ≤ 1000000 := by have h1 := HCN.out; have h2 := HL.out; omega
          obtain ⟨W4, hW4⟩ : ∃ W4, W4 = w3.alloc (.cells #[.slice a1 s.lits.length c1, .slice a2 s.hints.length c2] 54) := ⟨_, rfl⟩
          have x4 : Ext w3 W4 := by rw [hW4]; exact (Ext.refl _).alloc _
          have hb4 : W4.heap[w3.heap.size]? = some (.cells #[.slice a1 s.lits.length c1, .slice a2 s.hints.length c2] 54 (0, 0)) := by rw [hW4]; exact heap_new _ _
          have HX4 := Lib.hid (HX3.out.trans x4); have HO4 := Lib.hid (HO3.out.kept x4); have O3 := Lib.hid (O1.out.kept x4); have O4 := Lib.hid (O2.out.kept x4)
          have g0 : W4.cell? ⟨w3.heap.size, 0, none⟩ = some (.slice a1 s.lits.length c1) := by rw [Lib.cell_of_heap hb4]; rfl
          have g1 : W4.cell? ⟨w3.heap.size, 1, none⟩ = some (.slice a2 s.hints.length c2) := by rw [Lib.cell_of_heap hb4]; rfl
          have HW4 := Lib.hid hW4
          clear hW4 x4 hb4
          go_upto_region 11 with fail
          rw [← HW4.out]
          clear HW4
          generalize w3.heap.size = b8 at *
          go_wp2_with (at_builtin; refine wpList_append_step rfl (.tmp 30) (.tmp 32) rfl w1.heap.size W4 _ ss _ _ s rfl rfl HO4.out O3.out O4.out hss HX4.out.size ?_)
          intro v' w5 ho hg
          have HO5 := Lib.hid ho
          have HX5 := Lib.hid (HX4.out.grown hg fun k e => (HO4.out.typed k e).1)
          clear ho hg
          go_wp2_with fail
          have h5 := E5.out (by trivial)
          refine ⟨⟨r, ss ++ [s], rfl, by have := HTL.out; omega, by have := HCN.out; simp; omega, HX5.out, HO5.out, HP2.out⟩, ?_⟩
          simp [ByteArray.size]; omega
end Go.Proofs.YtoopoljchhdobaaDoor
