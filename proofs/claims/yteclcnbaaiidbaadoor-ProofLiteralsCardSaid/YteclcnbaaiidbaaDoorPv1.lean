/-
  The walk of proof.validLits.
-/
import Derived.Test.YteclcnbaaiidbaaDoorPl1
import Derived.Test.YteclcnbaaiidbaaDoorOwn
import Derived.Test.YteclcnbaaiidbaaDoorShelf
import Derived.Laws.MakeOwn
import Derived.Lib.OwnBridge
import Derived.Sort.OwnSortedInts
import Derived.Lib.RowBridge
namespace Go.Proofs.YteclcnbaaiidbaaDoor
open Go.RowKit

theorem compact_nodup {zs : List Int} (hs : zs.Pairwise (· ≤ ·)) : (Lib.compact zs).length = zs.length ↔ zs.Nodup := by
  have e : (Lib.compact zs).length = ((List.range zs.length).filter (Lib.keeps zs.toArray)).length := by simp [Lib.compact, Lib.compactUpTo]
  have e2 : ((List.range zs.length).filter (Lib.keeps zs.toArray)).length = zs.length ↔ ∀ j, j < zs.length → Lib.keeps zs.toArray j = true := by
    have := List.length_filter_eq_length_iff (p := Lib.keeps zs.toArray) (l := List.range zs.length)
    rw [List.length_range] at this
    rw [this]
    simp
  have e3 : ∀ j, (h : j < zs.length) → (Lib.keeps zs.toArray j = true ↔ (j = 0 ∨ zs[j] ≠ zs[j - 1]'(by omega))) := fun j h => by
    unfold Lib.keeps
    rw [decide_eq_true_eq]
    simp [h, show j - 1 < zs.length by omega]
  rw [e, e2]
  constructor
  · intro h
    have hlt : zs.Pairwise (· < ·) := by
      rw [List.pairwise_iff_getElem] at hs ⊢
      intro i j hi hj hij
      have h1 := (e3 j hj).1 (h j hj)
      have h2 := h1.resolve_left (by omega)
      have h3 := hs (j - 1) j (by omega) hj (by omega)
      rcases Nat.lt_or_ge i (j - 1) with c | c
      · have := hs i (j - 1) hi (by omega) c
        omega
      · have : i = j - 1 := by omega
        subst this
        omega
    exact hlt.imp fun h => by omega
  · intro h j hj
    rw [e3 j hj]
    by_cases c : j = 0
    · exact .inl c
    · refine .inr fun e => ?_
      have := (List.pairwise_iff_getElem.1 h) (j - 1) j (by omega) hj (by omega)
      exact this e.symm
theorem sorted_merge (l : List Int) : (l.mergeSort fun x y => decide (x ≤ y)).Pairwise (· ≤ ·) := by
  have := List.pairwise_mergeSort (le := fun x y : Int => decide (x ≤ y)) (fun a b c => by simp; omega) (fun a b => by simp; omega) l
  exact this.imp fun h => by simpa using h
theorem sort_nodup (l : List Int) : (Lib.compact (l.mergeSort fun x y => decide (x ≤ y))).length = l.length ↔ l.Nodup := by
  have h1 := compact_nodup (sorted_merge l)
  rw [List.length_mergeSort] at h1
  rw [h1]
  exact (List.mergeSort_perm l _).nodup_iff
theorem OwnInts.made (w : World) (n : Nat) (hn : n ≤ 100000) : OwnInts (w.alloc (.cells (madeCells (Value.int .i64 0).cells n) 3)) w.heap.size (.slice (some ⟨w.heap.size, 0, none⟩) 0 n) [] :=
  ⟨rfl, .inr ⟨w.heap.size, n, _, rfl, Nat.le_refl _, heap_new _ _, Nat.zero_le _, by unfold maxLen; omega, by rw [size_madeCells]; omega, rfl⟩⟩
theorem makeInts0 (W : World) (n : Nat) (hn : n ≤ 100000) : (Instr.makeSlice 33 (.int .i64 0) (.int .i64 (n : Int))).run Tryd.prog W = .ok (.slice (some ⟨W.heap.size, 0, none⟩) 0 n) (W.alloc (.cells (madeCells (Value.int .i64 0).cells n) 3)) := by
  obtain ⟨i, hi, hz⟩ := Option.map_eq_some_iff.1 infoInt
  simp only [Prod.mk.injEq] at hz
  have hr := run_make (P := Tryd.prog) W 33 3 i (.int .i64 0) Tryd.underlying33 hi hz.1 .i64 .i64 0 n (by omega) (by omega) (by rw [hz.2.2]; omega) (by omega)
  rw [hr, hz.2.1, Nat.mul_one]; rfl
/-- What the first literals were found to be. -/
def litTo (vars : Int) (l : List Int) (k : Nat) : Prop := ∀ x ∈ l.take k, 1 ≤ absI x ∧ absI x ≤ vars
def absTo (l : List Int) (k : Nat) : List Int := (l.take k).map absI
theorem absTo_len (l : List Int) {k : Nat} (h : k ≤ l.length) : (absTo l k).length = k := by unfold absTo; rw [List.length_map, List.length_take]; omega
theorem absTo_succ (l : List Int) {k : Nat} (h : k < l.length) : absTo l (k + 1) = absTo l k ++ [absI l[k]] := by unfold absTo; rw [List.take_succ_eq_append_getElem h, List.map_append]; rfl
def InI (x : Int) : Prop := -9223372036854775808 ≤ x ∧ x ≤ 9223372036854775807
set_option maxRecDepth 100000 in
set_option maxHeartbeats 2000000 in
theorem validLits_any (l : List Int) (vars : Int) (v : Value) (w : World) (hl : Ints w v l) (hb : l.length ≤ 100000) (hr : ∀ x ∈ l, InI x) (hv : InI vars) : Calls Tryd.prog 27 #[v, .int .i64 vars] w fun r w' => r = .returned (.bool (litsOk vars l)) ∧ Ext w w' := by
  obtain ⟨a, c, rfl⟩ := hl.shape
  have hlen := SliceAt.len_le hl
  have HL := Lib.hid hl; have HR := Lib.hid hr; have HV := Lib.hid hv
  have hmk := makeInts0 w l.length hb
  have HO0 := Lib.hid (OwnInts.made w l.length hb)
  clear hl hr hv
  go_enter Tryd.func27, Tryd.ntmps27
  go_upto_region 2 with fail
  clear hmk
  go_wp2_with fail
  go_loopw [5, 13] (fun u i wr => ∃ k : Nat, k ≤ l.length ∧ i = .int .i64 k ∧ Ext w wr ∧ OwnInts wr w.heap.size u (absTo l k) ∧ litTo vars l k) (fun _ i _ => l.length - (intOf i).toNat)
  case atStart => exact ⟨0, Nat.zero_le _, rfl, (Ext.refl _).alloc _, HO0.out, fun x hx => by simp at hx⟩
  case round =>
    obtain ⟨k, hk, rfl, hX, hO, hT⟩ := hrel
    have HXr := Lib.hid hX; have HO := Lib.hid hO; have HT := Lib.hid hT; clear hX hO hT
    by_cases hlt : k < l.length
    · rcases HL.out with ⟨_, e⟩ | ⟨b, o, cap', e, _, hcl⟩
      · rw [e] at hlt; simp at hlt
      cases e
      have g0 : wr.cell? ⟨b, o + k, none⟩ = some (.int .i64 l[k]) := by have := HXr.out.cell (hcl k hlt); rw [Nat.mul_one] at this; exact this
      clear hcl
      have hmem : l[k] ∈ l := List.getElem_mem hlt
      have hri := HR.out _ hmem
      have hvi := HV.out
      have HNO : Hid (¬ (1 ≤ absI l[k] ∧ absI l[k] ≤ vars) → litsOk vars l = false) := fun h => by
        unfold litsOk
        have : (l.all fun x => decide (1 ≤ absI x) && decide (absI x ≤ vars)) = false := by
          rw [Bool.eq_false_iff]
          intro c
          rw [List.all_eq_true] at c
          have := c _ hmem
          simp only [Bool.and_eq_true, decide_eq_true_eq] at this
          exact h this
        rw [this]; rfl
      have HYES : Hid (1 ≤ absI l[k] → absI l[k] ≤ vars → litTo vars l (k + 1)) := fun h1 h2 x hx => by
        rw [List.take_succ_eq_append_getElem hlt, List.mem_append] at hx
        rcases hx with hx | hx
        · exact HT.out x hx
        · simp at hx; subst hx; exact ⟨h1, h2⟩
      have HS := Lib.hid (absTo_succ l hlt)
      have hlk : (absTo l k).length ≤ 1000000 := by rw [absTo_len l hk]; omega
      have HLK := Lib.hid hlk
      have hlw : w.heap.size ≤ wr.heap.size := HXr.out.size
      clear hlk hmem
      generalize l[k] = x at *
      obtain ⟨y, hy⟩ : ∃ y, y = absI x := ⟨_, rfl⟩
      rw [← hy] at HNO HYES HS
      obtain ⟨r1, r2⟩ := hri
      obtain ⟨v1, v2⟩ := hvi
      have hw : x < 0 → -9223372036854775808 < x → wrap64 (-x) = y := fun h0 h1 => by rw [hy]; unfold absI; rw [if_pos h0]; unfold wrap64; omega
      have hyp : ¬ x < 0 → y = x := fun h0 => by rw [hy]; unfold absI; rw [if_neg h0]
      have hyn : x < 0 → y = -x := fun h0 => by rw [hy]; unfold absI; rw [if_pos h0]
      clear hy
      by_cases h0 : x < 0
      · by_cases hmin : x = -9223372036854775808
        · have HN := Lib.hid (HNO.out (by have := hyn h0; omega))
          subst hmin
          have e1 : wrap64 9223372036854775808 = -9223372036854775808 := by unfold wrap64; omega
          clear hw hyp hyn HYES HNO
          go_wp2_with fail
          go_ret
          exact ⟨by rw [HN.out]; rfl, HXr.out⟩
        · have e1 := hw h0 (by omega)
          have e2 := hyn h0
          have hy1 : ¬ y < 1 := by omega
          clear hw hyp hyn hmin
          have E2 := Lib.hid e2; clear e2
          by_cases h2 : y > vars
          · have HN := Lib.hid (HNO.out (by omega))
            clear HYES HNO
            go_wp2_with fail
            go_ret
            exact ⟨by rw [HN.out]; rfl, HXr.out⟩
          · have HY := Lib.hid (HYES.out (by omega) (by omega))
            clear HYES HNO
            go_wp2_with (at_builtin; refine wpList_append_int rfl (.tmp 28) (.tmp 30) rfl w.heap.size wr _ _ y rfl rfl HO.out (by have := HLK.out; omega) hlw ?_)
            intro v' w' hown' hg
            rw [← HS.out] at hown'
            have hx' : Ext w w' := HXr.out.grown hg (fun q hq => HO.out.base q hq)
            have HO' := Lib.hid hown'; have HX' := Lib.hid hx'
            clear hown' hx' hg
            go_wp2_with fail
            exact ⟨⟨k + 1, by omega, by go_num, HX'.out, HO'.out, HY.out⟩, by simp [intOf]; omega⟩
      · have e2 := hyp h0
        clear hw hyp hyn
        subst e2
        by_cases h1 : y < 1
        · have HN := Lib.hid (HNO.out (by omega))
          clear HYES HNO
          go_wp2_with fail
          go_ret
          exact ⟨by rw [HN.out]; rfl, HXr.out⟩
        by_cases h2 : y > vars
        · have HN := Lib.hid (HNO.out (by omega))
          clear HYES HNO
          go_wp2_with fail
          go_ret
          exact ⟨by rw [HN.out]; rfl, HXr.out⟩
        · have HY := Lib.hid (HYES.out (by omega) (by omega))
          clear HYES HNO
          go_wp2_with (at_builtin; refine wpList_append_int rfl (.tmp 28) (.tmp 30) rfl w.heap.size wr _ _ y rfl rfl HO.out (by have := HLK.out; omega) hlw ?_)
          intro v' w' hown' hg
          rw [← HS.out] at hown'
          have hx' : Ext w w' := HXr.out.grown hg (fun q hq => HO.out.base q hq)
          have HO' := Lib.hid hown'; have HX' := Lib.hid hx'
          clear hown' hx' hg
          go_wp2_with fail
          exact ⟨⟨k + 1, by omega, by go_num, HX'.out, HO'.out, HY.out⟩, by simp [intOf]; omega⟩
    · have HTk : Hid (l.take k = l) := List.take_of_length_le (by omega)
      have HAl : Hid (absTo l k = l.map absI) := by unfold Hid absTo; rw [HTk.out]
      rw [HAl.out] at HO
      have HT2 : Hid (litsOk vars l = decide (l.map absI).Nodup) := by
        unfold Hid litsOk
        have : (l.all fun x => decide (1 ≤ absI x) && decide (absI x ≤ vars)) = true := by
          rw [List.all_eq_true]
          intro x hx
          have := HT.out x (by rw [HTk.out]; exact hx)
          rw [decide_eq_true this.1, decide_eq_true this.2]; rfl
        rw [this]; rfl
      clear HT HTk HAl
      obtain ⟨m, hm⟩ : ∃ m, m = l.map absI := ⟨_, rfl⟩
      rw [← hm] at HO HT2
      have hml : m.length = l.length := by rw [hm, List.length_map]
      have HML := Lib.hid hml
      clear hm hml
      obtain ⟨fa, fc, rfl⟩ := HO.out.ints.shape
      cases m with
      | nil =>
        have h0 : l.length = 0 := HML.out.symm
        have HT3 : Hid (litsOk vars l = true) := by unfold Hid; rw [HT2.out]; rfl
        clear HT2
        go_wp2_with fail
        refine (Tryd.slices_Sort_int_none fa fc wr).mono ?_
        rintro r w1 ⟨rfl, rfl⟩
        go_wp2_with fail
        refine (Tryd.slices_Compact_int_empty fa fc w1).mono ?_
        rintro r w2 ⟨rfl, rfl⟩
        go_wp2_with fail
        go_ret
        exact ⟨by rw [HT3.out]; simp, HXr.out⟩
      | cons m0 mr =>
        have hne : (Value.slice fa (m0 :: mr).length fc) ≠ .slice none 0 0 := by intro e; simp at e
        obtain ⟨g, cap, hv, hbg, hgl, hncap, hcm, _, hH⟩ := Lib.holds_of_ownsRow HO.out hne
        cases hv
        have HGB := Lib.hid hbg
        generalize hmm : m0 :: mr = m at *
        clear hne hmm
        obtain ⟨t, ht⟩ : ∃ t, t = m.mergeSort fun x y => decide (x ≤ y) := ⟨_, rfl⟩
        have htl : t.length = m.length := by rw [ht, List.length_mergeSort]
        have hnd := sort_nodup m
        rw [← ht] at hnd
        have HND := Lib.hid hnd; have HTL := Lib.hid htl
        have hsort := Tryd.slices_Sort_int g 0 fc m wr hH hgl (by have := HML.out; omega)
        rw [← ht] at hsort
        have HSo := Lib.hid hsort
        have HH := Lib.hid hH
        clear hnd htl hsort ht hH
        have hml2 : m.length ≤ 100000 := by have := HML.out; omega
        go_wp2_with fail
        refine HSo.out.mono ?_
        rintro r w1 ⟨rfl, nn, os, hw1⟩
        have hH2 : Go.Sort.Holds (Value.int .i64) w1 g 0 t.toArray := by
          rw [hw1]
          exact Go.Sort.holds_grow _ _ os g 0 _ (by simpa [Go.Sort.putRow, Go.Sort.mapBlock, Go.Sort.ahead] using hgl) (Go.Sort.holds_putRow _ _ g 0 _ _ (Go.Sort.holds_ahead _ wr nn g 0 _ HH.out) (by simpa using HTL.out))
        have hcomp := Tryd.slices_Compact_int g 0 fc t w1 hH2 (by have := HTL.out; omega) (by have := HTL.out; omega)
        rw [HTL.out] at hcomp
        have HCo := Lib.hid hcomp
        have HX1 : Hid (Below w.heap.size w w1) := by
          unfold Hid
          rw [hw1]
          exact Below.grown HXr.out (grownBy_sortedI _) HXr.out.size (fun j hj => by cases hj; exact HGB.out)
        clear hcomp hH2 hw1 hcm
        go_wp2_with fail
        refine HCo.out.mono ?_
        rintro r w2 ⟨rfl, q, hw2⟩
        have HX2 : Hid (Ext w w2) := by
          unfold Hid
          rw [hw2]
          exact Lib.below_putRow HX1.out HGB.out
        clear hw2
        have HE : Hid (litsOk vars l = decide ((Lib.compact t).length = l.length)) := by
          unfold Hid
          rw [HT2.out, decide_eq_decide, ← HML.out]
          exact HND.out.symm
        clear HND HT2
        generalize (Lib.compact t).length = u at *
        go_wp2_with fail
        go_ret
        refine ⟨?_, HX2.out⟩
        rw [HE.out]
        by_cases c : u = l.length
        · simp [c]
        · simp [c]; omega
end Go.Proofs.YteclcnbaaiidbaaDoor
